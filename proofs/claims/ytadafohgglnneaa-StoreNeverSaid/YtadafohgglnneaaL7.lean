/- StoreNever: the walk of the law. No condition. -/
import Derived.Test.YtadafohgglnneaaN2
import Derived.Test.YtadafohgglnneaaOpen2
namespace Go.Proofs.Ytadafohgglnneaa
open Go.RowKit
set_option maxRecDepth 100000 in
set_option maxHeartbeats 8000000 in
theorem storeNever_walk (w : World) (p : Option Addr) (c0 : Nat) (os : List Op13) (hR : RowsAt AnyBlock Op13E w (.slice p os.length c0) os) (p2 : Option Addr) (c2 : Nat) (os2 : List Op13) (hR2 : RowsAt AnyBlock Op13E w (.slice p2 os2.length c2) os2) :
    Calls Try.prog 7 #[.slice p os.length c0, .slice p2 os2.length c2] w fun e w' => e = .returned (.bool true) ∧ Below w.heap.size w w' := by
  have hle := RowsAt.le hR
  have hle2 := RowsAt.le hR2
  unfold maxLen at hle hle2
  have HR := Lib.hid hR
  have HR2 := Lib.hid hR2
  clear hR hR2
  go_enter Try.func7, Try.ntmps7
  go_wp2_with fail
  refine (new_hold w _ (Below.refl _ _)).mono ?_
  rintro e w1 ⟨s, g, rfl, hH, b1, -, -⟩
  have H1 := Lib.hid hH
  clear hH b1
  go_wp2_with fail
  refine (fixed13 _).mono ?_
  rintro e w2 ⟨rfl, b2⟩
  have H2 := Lib.hid (H1.out.below b2)
  clear b2
  go_wp2_with fail
  refine (cut13 _ p c0 os (rowsOp13_below HR.out H2.out.bel)).mono ?_
  rintro e w3 ⟨n, rfl, hn1, hn2, hbad, b3⟩
  have H3 := Lib.hid (H2.out.below b3)
  have Hbad := Lib.hid hbad
  clear b3 hbad H1 H2
  go_wp2
  go_loopw [31] (fun vi wr => ∃ j : Nat, j ≤ n ∧ vi = .int .i64 j ∧ ∃ g c nds, Hold w wr s g c nds ∧ Good nds j) (fun vi _ => n - (intOf vi).toNat)
  case atStart => exact ⟨0, Nat.zero_le _, rfl, g, 1, _, H3.out, .start⟩
  case round =>
    obtain ⟨j, hj, rfl, g, c, nds, hH, hG⟩ := hrel
    clear H3
    have HB := Lib.hid hH.bel
    by_cases hlt : j < n
    · have hjo : j < os.length := by omega
      obtain ⟨b, o, cc, rs, hv', q1, q2, -, hbb, hsz, hall⟩ := RowsAt.pos (rowsOp13_below HR.out HB.out) 2 (op13_size _) (by decide) (by omega)
      cases hv'
      obtain ⟨hrow, a', c', hr', hacc⟩ := hall j hjo
      rw [hr'] at hrow
      have hs1 : o + j * 2 + 2 ≤ (rowOf wr b).size := by omega
      have hki : (j : Int) < (n : Int) := by omega
      have hki2 : (j : Int) < (os.length : Int) := by omega
      have hki0 : (0 : Int) ≤ (j : Int) := by omega
      have hgr : greatB os[j].l = false := by have := Hbad.out j hlt; simpa [bad13, hjo] using this
      generalize os[j].l = l at *
      generalize os[j].par = par at *
      clear hall hr'
      have hB1 : Below wr.heap.size wr (wr.alloc (.cells (opArr par a' l.length c') 73)) := bel_alloc (Below.refl _ _) _
      have hH1 := Lib.hid (hH.below hB1)
      have Hat := Lib.hid (hacc.below hB1)
      have hlen : nds.length < 1048576 := by have := hG.len; omega
      have HG := Lib.hid hG
      clear hB1 hacc hH hG
      go_wp2_with fail
      refine (commit_any hH1.out par _ l Hat.out hlen (great_small hgr)).mono ?_
      rintro e w4 ⟨m1, m2, g', c'', nds', rfl, hcm, hH4, -, -⟩
      have HG4 := Lib.hid (HG.out.commit hcm (great_len hgr))
      have H4 := Lib.hid hH4
      clear hcm hH4 hH1 HG
      go_wp2
      go_roundw
      case rel => exact ⟨j + 1, by omega, by go_num, g', c'', nds', H4.out, HG4.out⟩
      case measure => simp [intOf]; omega
    · obtain rfl : j = n := by omega
      have hki : ¬ ((j : Int) < (j : Int)) := by omega
      have H4 := Lib.hid hH
      have HG := Lib.hid hG
      have hLs : nds.length ≤ 32 := by have := hG.len; omega
      have HT := Lib.hid (show totalN nds ≤ 1000000 by have := hG.total; omega)
      clear hH hG HB
      go_wp2_with fail
      refine (Len_hold H4.out).mono ?_
      rintro e w4 ⟨rfl, rfl⟩
      go_wp2_with fail
      have H5 := Lib.hid H4.out.mark
      have Hb0 := Lib.hid H4.out.bel.size
      have Hlt4 := Lib.hid H4.out.lt
      go_loopw [8, 45] (fun wv vi wr => ∃ (i : Nat) (q : Option Addr) (cc : Nat) (vs : List Value), i ≤ nds.length ∧ vi = .int .i64 i ∧ vs.length = i ∧ wv = .slice q i cc ∧ Hid (HoldN (fun b => w4.heap.size ≤ b) w wr s g c nds) ∧ Hid (Was w4 wr nds wv vs)) (fun _ vi _ => nds.length - (intOf vi).toNat)
      case atStart => exact ⟨0, none, 0, [], Nat.zero_le _, rfl, rfl, rfl, H5, Lib.hid (.nil _ _ _ (Below.refl _ _))⟩
      case round =>
        obtain ⟨i, q, cc, vs, hi, rfl, hvl, rfl, hHr, hWas⟩ := hrel
        by_cases hlt2 : i < nds.length
        · have hki : (i : Int) < (nds.length : Int) := by omega
          have hki0 : (0 : Int) ≤ (i : Int) := by omega
          subst hvl
          go_wp2_with fail
          refine (All_hold hHr.out.hold HT.out _).mono ?_
          rintro e w5 ⟨vo, zs, rfl, z1, z2, z3, -⟩
          have hIs := Lib.hid (show IsAll nds vs.length zs from ⟨z2, z3⟩)
          obtain ⟨pz, cz, rfl⟩ := z1.form
          have hb5 := bel_alloc z1.bel (.cells #[.slice pz zs.length cz] 32)
          have hacs := Lib.hid ((z1.accs.below (bel_alloc (Below.refl _ _) (.cells #[.slice pz zs.length cz] 32))).mono (T := fun b => wr.heap.size ≤ b ∧ b < (w5.alloc (.cells #[.slice pz zs.length cz] 32)).heap.size) (fun b hb => ⟨hb.1, by have := hb.2.1; simp; omega⟩))
          have Hb5 := Lib.hid hb5
          have HW := Lib.hid (hWas.out.below hb5)
          have HH := Lib.hid (hHr.out.below hb5)
          clear z1 z2 z3 hb5
          go_wp2_with (first
            | (at_builtin; refine wpList_append_out rfl (.tmp 48) (.tmp 52) 74 rfl elt32 Try.underlying74 (Stab.eq (f := fun y : Value => #[y])) HW.out.row (by simp [Act.eval]) w5.heap.size #[.slice pz zs.length cz] (.slice pz zs.length cz) (by simp [Act.eval]) (by simp [go_sem]) rfl rfl rfl (by omega) (by unfold maxLen; omega) ?_; intro g6 c6 w6 ho6 hk6 hg6)
            | fail)
          have hbase := HW.out.row.base
          have HW6 := Lib.hid (hWas.out.snoc Hb5.out hacs.out hIs.out ho6 hk6 (fun g hg => by simp [Value.ownBlock] at hg; subst hg; exact hg6))
          have HH6 := Lib.hid (HH.out.kept hk6 (fun b e => by have := hbase b e; have := Hb0.out; omega))
          go_roundw
          case rel => exact ⟨vs.length + 1, _, _, _, by omega, by go_num, by simp, rfl, HH6, HW6⟩
          case measure => simp [intOf]; omega
        · obtain rfl : i = nds.length := by omega
          have hki : ¬ ((nds.length : Int) < (nds.length : Int)) := by omega
          clear H5 H4
          go_wp2_with fail
          refine (cut13 _ p2 c2 os2 (rowsOp13_below HR2.out hHr.out.bel)).mono ?_
          rintro e w5 ⟨n2, rfl, hn12, hn22, hbad2, b5⟩
          have HW5 := Lib.hid (hWas.out.below b5)
          have HH5 := Lib.hid (hHr.out.hold.below b5)
          have Hbad2 := Lib.hid hbad2
          clear b5 hbad2 hHr hWas
          have Hw4 := Lib.hid (HW5.out.row.bel)
          have HE0 := Lib.hid (Ext.refl nds)
          go_wp2
          go_loopw [58] (fun vi wr => ∃ (k : Nat) (g' c' : Nat) (nds' : List Nd), k ≤ n2 ∧ vi = .int .i64 k ∧ Hid (Hold w wr s g' c' nds') ∧ Hid (Good nds' (j + k)) ∧ Hid (Ext nds nds') ∧ Hid (g' = g ∨ w5.heap.size ≤ g') ∧ Hid (Kept (fun b => b = s ∨ b = g) w5 wr)) (fun vi _ => n2 - (intOf vi).toNat)
          case atStart => exact ⟨0, g, c, nds, Nat.zero_le _, rfl, HH5, HG, HE0, Lib.hid (.inl rfl), Lib.hid (.refl _ _)⟩
          case round =>
            obtain ⟨k, g', c', nds', hk, rfl, hHr, hGr, hEr, hgr', hKr⟩ := hrel
            obtain ⟨X, hX⟩ : ∃ X : World, X = wr := ⟨_, rfl⟩
            subst hX
            by_cases hlt3 : k < n2
            · have hko : k < os2.length := by omega
              obtain ⟨b, o, cc, rs, hv', q1, q2, -, hbb, hsz, hall⟩ := RowsAt.pos (rowsOp13_below HR2.out hHr.out.bel) 2 (op13_size _) (by decide) (by omega)
              cases hv'
              obtain ⟨hrow, a', c'', hr', hacc⟩ := hall k hko
              rw [hr'] at hrow
              have hs1 : o + k * 2 + 2 ≤ (rowOf X b).size := by omega
              have hki3 : (k : Int) < (n2 : Int) := by omega
              have hki32 : (k : Int) < (os2.length : Int) := by omega
              have hki30 : (0 : Int) ≤ (k : Int) := by omega
              have hgr3 : greatB os2[k].l = false := by have := Hbad2.out k hlt3; simpa [bad13, hko] using this
              generalize os2[k].l = l at *
              generalize os2[k].par = par at *
              clear hall hr'
              have hB1 : Below X.heap.size X (X.alloc (.cells (opArr par a' l.length c'') 73)) := bel_alloc (Below.refl _ _) _
              have Hat := Lib.hid (hacc.below hB1)
              have HB1 := Lib.hid hB1
              have hll := great_len hgr3
              have hsml := Lib.hid (great_small hgr3)
              have hcl := (hacc.below hB1).le
              unfold maxLen at hcl
              clear hB1 hacc
              go_wp2
              generalize hV : X.alloc (.cells (opArr par a' l.length c'') 73) = V at *
              have rV : rowOf V X.heap.size = opArr par a' l.length c'' := by rw [← hV]; simp [go_sem]
              have iV : isRow V X.heap.size = true := by rw [← hV]; simp [go_sem]
              clear hV
              go_loopw [13, 65] (fun vo vi wq => ∃ (i : Nat) (q : Option Addr) (cc : Nat), i ≤ l.length ∧ vi = .int .i64 i ∧ vo = .slice q i cc ∧ Hid (AccOut (fun _ => False) V wq vo (l.take i))) (fun _ vi _ => l.length - (intOf vi).toNat)
              case atStart => exact ⟨0, none, 0, Nat.zero_le _, rfl, rfl, Lib.hid (by rw [List.take_zero]; exact .nil (Below.refl _ _))⟩
              case round =>
                obtain ⟨i, q, cc, hi, rfl, rfl, hOut⟩ := hrel
                by_cases hlt4 : i < l.length
                · obtain ⟨b4, o4, cc4, rs4, hv4, q14, q24, -, hbb4, hsz4, hall4⟩ := (Hat.out.below hOut.out.bel).pos (by omega)
                  cases hv4
                  obtain ⟨hrow4, hacc4⟩ := hall4 i hlt4
                  have hs4 : o4 + i * 27 + 27 ≤ (rowOf wr b4).size := by omega
                  have hki4 : (i : Int) < (l.length : Int) := by omega
                  have hki40 : (0 : Int) ≤ (i : Int) := by omega
                  have hx : accAt l i = l[i] := by simp [accAt, hlt4]
                  have hsm := hsml.out l[i] (List.getElem_mem hlt4)
                  rw [hx] at hacc4
                  have htk : l.take (i + 1) = l.take i ++ [l[i]] := List.take_succ_eq_append_getElem hlt4
                  have Htk := Lib.hid htk
                  clear htk hx hall4
                  generalize l[i] = x at *
                  generalize rowAt rs4 i = r4 at *
                  obtain ⟨vc, vsl, rfl, hc4, hst4⟩ := hacc4
                  obtain ⟨adr, nonce, bal, code, stor⟩ := x
                  simp only at hc4 hst4 hrow4
                  obtain ⟨pc, kc, rfl⟩ := hc4.form
                  obtain ⟨ps, ks, rfl⟩ := hst4.form
                  have BQ := Lib.hid (show Below wr.heap.size wr (wr.alloc (.cells (accRow adr nonce bal (.slice pc code.length kc) (.slice ps stor.length ks)) 30)) from bel_alloc (Below.refl _ _) _)
                  have Hc4 := Lib.hid hc4
                  have Hst4 := Lib.hid hst4
                  have hli : (l.take i).length = i := by simp; omega
                  clear hc4 hst4
                  go_wp2_with (first
                    | (at_builtin; refine wpList_copy rfl (.tmp 69) (.tmp 71) rfl elt5 Try.underlying27 (Hc4.out.below BQ.out) (by simp) (ints_one _ _) (by have := hsm.1; simp only at this; omega) (by have := hsm.1; simp only at this; unfold maxLen; omega) (by simp [Act.eval]) (by simp [Act.eval]) ?_; intro p1 k1 w6 hv1 hb1;
                       have hz6 := hb1.size; simp only [World.size_alloc] at hz6;
                       have hr6 : rowOf w6 wr.heap.size = accRow adr nonce bal (.slice pc code.length kc) (.slice ps stor.length ks) := (by rw [bel_row hb1 _ (by simp)]; simp [go_sem]);
                       have hi6 : isRow w6 wr.heap.size = true := (by rw [bel_isRow hb1 _ (by simp)]; simp [go_sem]);
                       have hf6 : rowFr w6 wr.heap.size = (0, 0) := (by rw [bel_rowFr hb1 _ (by simp)]; simp [go_sem]);
                       have hc25 : w6.cell? ⟨wr.heap.size, 25, none⟩ = some (.slice pc code.length kc) := (by rw [cell_row, hr6, accRow_code]);
                       have hlq6 := isRow_lt hi6;
                       have hc26 : ((w6.setCell ⟨wr.heap.size, 25, none⟩ (.slice p1 code.length k1)).alloc (.cells #[] 116)).cell? ⟨wr.heap.size, 26, none⟩ = some (.slice ps stor.length ks) := (by rw [cell_row, rowOf_alloc_past _ _ _ (by simp; exact hlq6), rowOf_setCell_same, hr6, accRow_setCode, accRow_stor]);
                       have hz25 : w6.frozen? ⟨wr.heap.size, 25, none⟩ = false := frozen_row _ _ _ hf6;
                       have Hr6 := Lib.hid hr6;
                       have Hf6 := Lib.hid hf6;
                       have Hi6 := Lib.hid hi6;
                       have B6 := Lib.hid (show Below wr.heap.size wr (w6.setCell ⟨wr.heap.size, 25, none⟩ (.slice p1 code.length k1)) from bel_setCell (bel_trans BQ.out hb1) _ _ (Nat.le_refl _));
                       have Hb1 := Lib.hid hb1;
                       have Hv1 := Lib.hid hv1;
                       clear hr6 hf6 hi6 hb1 hv1)
                    | (at_builtin; refine wpList_copy rfl (.tmp 74) (.tmp 76) rfl elt116 Try.underlying28 (V := w6.setCell ⟨wr.heap.size, 25, none⟩ (.slice p1 code.length k1)) (Hst4.out.below B6.out) (sltRow_size _) (sltRow_one _) (by have := hsm.2; simp only at this; omega) (by have := hsm.2; simp only at this; unfold maxLen; omega) (by simp [Act.eval]) (by simp [Act.eval]) ?_; intro p2' k2 w7 hv2 hb2;
                       have hz7 := hb2.size; simp only [World.size_setCell] at hz7;
                       have hr7 : rowOf w7 wr.heap.size = accRow adr nonce bal (.slice p1 code.length k1) (.slice ps stor.length ks) := (by rw [bel_row hb2 _ (by simp; omega), rowOf_setCell_same, Hr6.out, accRow_setCode]);
                       have hi7 : isRow w7 wr.heap.size = true := (by rw [bel_isRow hb2 _ (by simp; omega), isRow_setCell, Hi6.out]);
                       have hf7 : rowFr w7 wr.heap.size = (0, 0) := (by rw [bel_rowFr hb2 _ (by simp; omega), rowFr_setCell, Hf6.out]);
                       have hd26 : w7.cell? ⟨wr.heap.size, 26, none⟩ = some (.slice ps stor.length ks) := (by rw [cell_row, hr7, accRow_stor]);
                       have hz26 : w7.frozen? ⟨wr.heap.size, 26, none⟩ = false := frozen_row _ _ _ hf7;
                       have hlq := isRow_lt hi7;
                       have HY := Lib.hid (own_lists (nonce := nonce) (bal := bal) (adr := adr) Hv1.out Hb1.out hb2 hv2);
                       clear hb2 hv2 hc25 hc26 hz25)
                    | (at_builtin; refine wpList_append_accOut rfl (.tmp 79) (.tmp 81) 32 rfl Try.underlying32 hOut.out (by simp [Act.eval]) HY.out.1 (fun b e => e.elim) w7.heap.size (accRow adr nonce bal (.slice p1 code.length k1) (.slice p2' stor.length k2)) ⟨adr, nonce, bal, code, stor⟩ (by simp [Act.eval]) (by simp [go_sem]) HY.out.2 (by rw [hli]; omega) ?_; intro g9 c9 w9 ho9 hk9;
                       have HO9 := Lib.hid (show AccOut (fun _ => False) V w9 (.slice (some ⟨g9, 0, none⟩) (i + 1) c9) (l.take (i + 1)) from (by rw [Htk.out]; rw [hli] at ho9; exact ho9));
                       clear ho9 hk9)
                    | fail)
                  refine ⟨⟨i + 1, _, _, by omega, by go_num, rfl, HO9⟩, ?_⟩
                  simp [intOf]; omega
                · obtain rfl : i = l.length := by omega
                  have hki4 : ¬ ((l.length : Int) < (l.length : Int)) := by omega
                  obtain ⟨Y, hY⟩ : ∃ Y : World, Y = wr := ⟨_, rfl⟩
                  subst hY
                  have hO := hOut.out
                  rw [List.take_length] at hO
                  have HO := Lib.hid hO
                  have hVY := hO.bel
                  obtain ⟨yV, jV, lV⟩ := carryRow hVY rV iV
                  have cV : Y.cell? ⟨X.heap.size, 0, none⟩ = some (.int .i64 par) := by rw [cell_row, yV]; rfl
                  have hXV := HB1.out
                  have zXV : X.heap.size ≤ V.heap.size := hXV.size
                  have zVY : V.heap.size ≤ Y.heap.size := hVY.size
                  have zwX : w.heap.size ≤ X.heap.size := hHr.out.bel.size
                  have z5X : w5.heap.size ≤ X.heap.size := hKr.out.size
                  obtain ⟨lts, ltg⟩ := hHr.out.lt
                  have HN := Lib.hid ((((hHr.out.mark.below hXV).below hVY).more (N' := fun b => V.heap.size ≤ b ∧ b < Y.heap.size) (fun b e => by omega)))
                  have Zs := Lib.hid (show X.heap.size ≤ V.heap.size ∧ V.heap.size ≤ Y.heap.size ∧ w.heap.size ≤ X.heap.size ∧ w5.heap.size ≤ X.heap.size ∧ s < X.heap.size ∧ g' < X.heap.size from ⟨zXV, zVY, zwX, z5X, lts, ltg⟩)
                  have hlen3 : nds'.length < 1048576 := by have := hGr.out.len; omega
                  have KY := Lib.hid (show Kept (fun b => b = s ∨ b = g) w5 Y from (hKr.out.bel hXV).bel hVY)
                  clear hXV hVY zXV zVY zwX z5X lts ltg hO hOut yV
                  go_wp2_with fail
                  refine (commit_anyN HN.out (fun b e => e.2) par _ l HO.out.accs hlen3 hsml.out).mono ?_
                  rintro e w10 ⟨m1, m2, g10, c10, nds10, rfl, hcm, hH10, hg10, hk10⟩
                  have hp' : ParOk nds' := by obtain ⟨S, h1, h2⟩ := HN.out.st; exact h2.par
                  have HG10 := Lib.hid (hGr.out.commit hcm hll)
                  have HE10 := Lib.hid (hEr.out.commit hp' hcm)
                  have Hg10 := Lib.hid (show g10 = g ∨ w5.heap.size ≤ g10 by
                    have := Zs.out
                    rcases hg10 with e | e
                    · rcases hgr'.out with e2 | e2
                      · exact .inl (by rw [e, e2])
                      · exact .inr (by omega)
                    · exact .inr (by omega))
                  have HK10 := Lib.hid (show Kept (fun b => b = s ∨ b = g) w5 w10 from KY.out.thn hk10 (fun x hx e => by
                    rcases e with e | e
                    · exact .inl e
                    · rcases hgr'.out with e2 | e2
                      · exact .inr (by rw [e, e2])
                      · omega))
                  have HH10 := Lib.hid hH10
                  have HWp := Lib.hid (HO.out.wipe.kept hk10 (fun b hb e => by have := Zs.out; omega) (fun b hb e => by have := HO.out.base b hb; have := Zs.out; omega))
                  have hz10 := Lib.hid hk10.size
                  clear hcm hH10 hg10 hk10 KY HN hki4 jV lV cV hHr hGr hEr hgr' hKr
                  generalize hSW : (fun b => V.heap.size ≤ b ∧ b < Y.heap.size ∧ (Value.slice q l.length cc).ownBlock ≠ some b) = SW at *
                  have HSW := Lib.hid (show ∀ b, SW b → V.heap.size ≤ b ∧ b < Y.heap.size from fun b hb => by rw [← hSW] at hb; exact ⟨hb.1, hb.2.1⟩)
                  clear hSW
                  go_wp2
                  go_loopw [91] (fun vi wq => ∃ i, i ≤ l.length ∧ vi = .int .i64 (i : Nat) ∧ Hid (Wiped SW w10 wq)) (fun vi _ => l.length - (intOf vi).toNat)
                  case atStart => exact ⟨0, Nat.zero_le _, rfl, Lib.hid (.refl _ _)⟩
                  case round =>
                    obtain ⟨i, hi, rfl, hWi⟩ := hrel
                    by_cases hlt5 : i < l.length
                    · obtain ⟨b5, c5, hv5, q15, q25, hb5, hsz5, adr, m5, bal, p1, n1, d1, p2', n2', d2, hrow5, hx1, hx2⟩ := (HWp.out.wiped hWi.out).get hlt5
                      cases hv5
                      have hs5 : i * 27 + 27 ≤ (rowOf wr b5).size := by omega
                      have hki5 : (i : Int) < (l.length : Int) := by omega
                      have hki50 : (0 : Int) ≤ (i : Int) := by omega
                      have hzw : Y.heap.size ≤ wr.heap.size := Nat.le_trans hz10.out hWi.out.kept.size
                      have HB5 := Lib.hid (show Below wr.heap.size wr (wr.alloc (.cells (accRow adr m5 bal (.slice p1 n1 d1) (.slice p2' n2' d2)) 30)) from bel_alloc (Below.refl _ _) _)
                      have Hx1 := Lib.hid (hx1.wiped (Wiped.of_below (S := SW) HB5.out))
                      have Hx2 := Lib.hid (hx2.wiped (Wiped.of_below (S := SW) HB5.out))
                      have hne5 := Lib.hid (show ¬ SW wr.heap.size from fun e => by have := (HSW.out _ e).2; omega)
                      have c25 : (wr.alloc (.cells (accRow adr m5 bal (.slice p1 n1 d1) (.slice p2' n2' d2)) 30)).cell? ⟨wr.heap.size, 25, none⟩ = some (.slice p1 n1 d1) := by rw [cell_row, rowOf_alloc_at _ _ _ _ rfl, accRow_code]
                      clear hx1 hx2
                      go_wp2_with (first
                        | (refine wpList_clear27 rfl (.tmp 96) rfl rfl p1 n1 d1 (by simp [Act.eval]) Hx1.out ?_; intro w12 hw12;
                           have c26 : w12.cell? ⟨wr.heap.size, 26, none⟩ = some (.slice p2' n2' d2) := (by rw [cell_row, hw12.kept.row _ (by simp) hne5.out, rowOf_alloc_at _ _ _ _ rfl, accRow_stor]);
                           have Hx22 := Lib.hid (Hx2.out.wiped hw12);
                           have Hw12 := Lib.hid hw12; clear hw12)
                        | (refine wpList_clear28 rfl (.tmp 98) rfl rfl p2' n2' d2 (by simp [Act.eval]) Hx22.out ?_; intro w13 hw13)
                        | fail)
                      refine ⟨⟨i + 1, by omega, by go_num, Lib.hid (((hWi.out.trans (Wiped.of_below HB5.out)).trans Hw12.out).trans hw13)⟩, ?_⟩
                      simp [intOf]; omega
                    · obtain rfl : i = l.length := by omega
                      have hki5 : ¬ ((l.length : Int) < (l.length : Int)) := by omega
                      obtain ⟨Z, hZ⟩ : ∃ Z : World, Z = wr := ⟨_, rfl⟩
                      subst hZ
                      have zZ := Lib.hid (show Y.heap.size ≤ Z.heap.size from Nat.le_trans hz10.out hWi.out.kept.size)
                      have HZ := Lib.hid ((HH10.out.kept hWi.out.kept (fun b e => by have := HSW.out b e; have := Zs.out; omega)).hold)
                      have HKZ := Lib.hid (HK10.out.thn hWi.out.kept (fun x hx e => by have := HSW.out x e; have := Zs.out; omega))
                      have hT10 : totalN nds10 ≤ 1000000 := by have := HG10.out.total; omega
                      obtain ⟨L', hL'⟩ : ∃ L', nds10.length = L' + 1 := by
                        obtain ⟨S, h1, h2⟩ := HZ.out.st
                        exact ⟨nds10.length - 1, by have := h2.pos; omega⟩
                      have hLb : L' ≤ 1000000 := by have := HG10.out.len; omega
                      have hsub : ((L' + 1 : Nat) : Int) - 1 = (L' : Int) := by omega
                      clear HH10 HK10 HWp hWi hz10 HSW
                      go_wp2_with fail
                      refine (Len_hold HZ.out).mono ?_
                      rintro e w14 ⟨rfl, rfl⟩
                      rw [hL']
                      go_wp2_with fail
                      refine (All_hold HZ.out hT10 _).mono ?_
                      rintro e w15 ⟨v15, zs15, rfl, z1, -, -, -⟩
                      obtain ⟨p15, c15, rfl⟩ := z1.form
                      have hl15 := z1.accs.le
                      unfold maxLen at hl15
                      have HWp2 := Lib.hid z1.wipe
                      have HN2 := Lib.hid ((HZ.out.mark.below z1.bel).more (N' := fun b => w14.heap.size ≤ b ∧ b < w15.heap.size) (fun b e => e.1))
                      have HK15 := Lib.hid (HKZ.out.bel z1.bel)
                      have zZ2 := Lib.hid z1.bel.size
                      clear z1 HZ HKZ
                      generalize hSW : (fun b => w14.heap.size ≤ b ∧ b < w15.heap.size ∧ (Value.slice p15 zs15.length c15).ownBlock ≠ some b) = SW2 at *
                      have HSW2 := Lib.hid (show ∀ b, SW2 b → w14.heap.size ≤ b ∧ b < w15.heap.size from fun b hb => by rw [← hSW] at hb; exact ⟨hb.1, hb.2.1⟩)
                      clear hSW
                      go_wp2
                      go_loopw [106] (fun vi wq => ∃ i, i ≤ zs15.length ∧ vi = .int .i64 (i : Nat) ∧ Hid (Wiped SW2 w15 wq)) (fun vi _ => zs15.length - (intOf vi).toNat)
                      case atStart => exact ⟨0, Nat.zero_le _, rfl, Lib.hid (.refl _ _)⟩
                      case round =>
                        obtain ⟨i, hi, rfl, hWi⟩ := hrel
                        by_cases hlt6 : i < zs15.length
                        · obtain ⟨b5, c5, hv5, q15, q25, hb5, hsz5, adr, m5, bal, p1, n1, d1, p2', n2', d2, hrow5, hx1, hx2⟩ := (HWp2.out.wiped hWi.out).get hlt6
                          cases hv5
                          have hs5 : i * 27 + 27 ≤ (rowOf wr b5).size := by omega
                          have hki6 : (i : Int) < (zs15.length : Int) := by omega
                          have hki60 : (0 : Int) ≤ (i : Int) := by omega
                          have hzw : w15.heap.size ≤ wr.heap.size := hWi.out.kept.size
                          have HB5 := Lib.hid (show Below wr.heap.size wr (wr.alloc (.cells (accRow adr m5 bal (.slice p1 n1 d1) (.slice p2' n2' d2)) 30)) from bel_alloc (Below.refl _ _) _)
                          have Hx1 := Lib.hid (hx1.wiped (Wiped.of_below (S := SW2) HB5.out))
                          have Hx2 := Lib.hid (hx2.wiped (Wiped.of_below (S := SW2) HB5.out))
                          have hne5 := Lib.hid (show ¬ SW2 wr.heap.size from fun e => by have := (HSW2.out _ e).2; omega)
                          have c25 : (wr.alloc (.cells (accRow adr m5 bal (.slice p1 n1 d1) (.slice p2' n2' d2)) 30)).cell? ⟨wr.heap.size, 25, none⟩ = some (.slice p1 n1 d1) := by rw [cell_row, rowOf_alloc_at _ _ _ _ rfl, accRow_code]
                          clear hx1 hx2
                          go_wp2_with (first
                            | (refine wpList_clear27 rfl (.tmp 111) rfl rfl p1 n1 d1 (by simp [Act.eval]) Hx1.out ?_; intro w22 hw22;
                               have c26 : w22.cell? ⟨wr.heap.size, 26, none⟩ = some (.slice p2' n2' d2) := (by rw [cell_row, hw22.kept.row _ (by simp) hne5.out, rowOf_alloc_at _ _ _ _ rfl, accRow_stor]);
                               have Hx22 := Lib.hid (Hx2.out.wiped hw22);
                               have Hw22 := Lib.hid hw22; clear hw22)
                            | (refine wpList_clear28 rfl (.tmp 113) rfl rfl p2' n2' d2 (by simp [Act.eval]) Hx22.out ?_; intro w23 hw23)
                            | fail)
                          refine ⟨⟨i + 1, by omega, by go_num, Lib.hid (((hWi.out.trans (Wiped.of_below HB5.out)).trans Hw22.out).trans hw23)⟩, ?_⟩
                          simp [intOf]; omega
                        · obtain rfl : i = zs15.length := by omega
                          have hki6 : ¬ ((zs15.length : Int) < (zs15.length : Int)) := by omega
                          have HF := Lib.hid ((HN2.out.kept hWi.out.kept (fun b e => ⟨HSW2.out b e, by have := HSW2.out b e; have := Zs.out; have := zZ.out; omega⟩)).hold)
                          have HKF := Lib.hid (HK15.out.thn hWi.out.kept (fun x hx e => by have := HSW2.out x e; have := Zs.out; have := zZ.out; omega))
                          clear HN2 HK15 hWi HWp2
                          go_wp2
                          go_roundw
                          case rel => exact ⟨k + 1, g10, c10, nds10, by omega, by go_num, HF, HG10, HE10, Hg10, HKF⟩
                          case measure => simp [intOf]; omega
            · obtain rfl : k = n2 := by omega
              have hki3 : ¬ ((k : Int) < (k : Int)) := by omega
              have hrd := HW5.out.read hKr.out (fun b e => by have := Hlt4.out; omega)
              have hT' : totalN nds' ≤ 1000000 := by have := hGr.out.total; omega
              have HT' := Lib.hid hT'
              have hRows := Lib.hid hrd.1
              have hEach := Lib.hid hrd.2
              clear hrd hT'
              go_wp2
              go_loopw [117] (fun vi wq => ∃ i, i ≤ nds.length ∧ vi = .int .i64 (i : Nat) ∧ Hid (Below X.heap.size X wq)) (fun vi _ => nds.length - (intOf vi).toNat)
              case atStart => exact ⟨0, Nat.zero_le _, rfl, Lib.hid (Below.refl _ _)⟩
              case round =>
                obtain ⟨i, hi, rfl, hbi⟩ := hrel
                by_cases hlt7 : i < nds.length
                · have hki7 : (i : Int) < (nds.length : Int) := by omega
                  have hki70 : (0 : Int) ≤ (i : Int) := by omega
                  have hiv : i < vs.length := by omega
                  obtain ⟨bw, ow, cw, rsw, hvw, qw1, qw2, -, hbw, hszw, hallw⟩ := RowsAt.pos (RowsAt.below (f := fun y : Value => #[y]) hRows.out hbi.out) 1 (fun r y e => by rw [e]; rfl) (by decide) (by omega)
                  rw [hvl] at hvw hszw
                  cases hvw
                  obtain ⟨hroww, hrw2⟩ := hallw i hiv
                  rw [hrw2] at hroww
                  obtain ⟨zsw, hzw1, hzw2⟩ := hEach.out i hiv
                  obtain ⟨pw, cw2, hvi⟩ := hzw1.form
                  have hzw3 := hzw1.below hbi.out
                  rw [hvi] at hroww hzw3
                  have cel : wr.cell? ⟨bw, ow + i, none⟩ = some (.slice pw zsw.length cw2) := cell_of_one hroww
                  have HX := Lib.hid ((hHr.out.below hbi.out).below (bel_drew (Below.refl wr.heap.size wr)))
                  have Hzw := Lib.hid (hzw3.below (bel_drew (Below.refl wr.heap.size wr)))
                  have HIs := Lib.hid hzw2
                  clear hallw hroww hrw2 hzw1 hzw2 hzw3
                  go_wp2
                  go_region_with (first
                    | (go_at_call 42; refine (All_hold HX.out HT'.out _).mono ?_; rintro e w31 ⟨v31, zs31, rfl, z1, z2, z3, -⟩
                       obtain rfl : zs31 = zsw := IsAll.eq hEr.out (by omega) HIs.out ⟨z2, z3⟩
                       have cel2 : w31.cell? ⟨bw, ow + i, none⟩ = some (.slice pw zs31.length cw2) := by rw [cell_row, bel_row z1.bel _ (by simpa using hbw), ← cel, cell_row]; rfl
                       have hA31 := Lib.hid z1.accs
                       have hW31 := Lib.hid (Hzw.out.below z1.bel)
                       have hB31 := Lib.hid (bel_trans (bel_drew hbi.out) z1.bel))
                    | (go_at_call 43; refine (same_all _ _ _ _ hA31.out hW31.out).mono ?_; rintro e w32 ⟨rfl, b32⟩))
                  all_goals
                    go_wp2
                    go_roundw
                    case rel => exact ⟨i + 1, by omega, by go_num, Lib.hid (bel_trans hB31.out b32)⟩
                    case measure => simp [intOf]; omega
                · obtain rfl : i = nds.length := by omega
                  have hki7 : ¬ ((nds.length : Int) < (nds.length : Int)) := by omega
                  have HEnd := Lib.hid (bel_trans hHr.out.bel hbi.out)
                  go_wp2
                  go_ret
                  exact ⟨rfl, HEnd.out⟩
end Go.Proofs.Ytadafohgglnneaa
