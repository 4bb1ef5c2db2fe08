/- The document's Fail. No condition. -/
import Derived.Test.YtadafohgglnneaaX20
namespace Go.Proofs.Ytadafohgglnneaa
open Go.RowKit
theorem joinR_set (size : Nat) (v : Value) (j : Nat) (hj : j < size) : ∀ (rs : List (Array Value)) (k : Nat) (hk : k < rs.length), (∀ r ∈ rs, r.size = size) → (joinR rs).setIfInBounds (k * size + j) v = joinR (rs.set k (rs[k].setIfInBounds j v))
  | [], k, hk, _ => by simp at hk
  | r :: rs, 0, _, h => by
    have hr := h r (by simp)
    simp only [joinR_cons, Nat.zero_mul, Nat.zero_add, List.set_cons_zero, List.getElem_cons_zero]
    rw [Array.setIfInBounds_append_left (by omega)]
  | r :: rs, k + 1, hk, h => by
    have hr := h r (by simp)
    have ih := joinR_set size v j hj rs k (by simpa using hk) (fun r' hr' => h r' (by simp [hr']))
    simp only [joinR_cons, List.set_cons_succ, List.getElem_cons_succ]
    rw [Array.setIfInBounds_append_right (by rw [hr, Nat.add_mul]; omega), ← ih]
    congr 2
    rw [hr, Nat.add_mul]; omega
theorem set_setT {ts : List (Adr × Nat)} (hn : (ts.map (·.1)).Nodup) {a : Adr} {k : Nat} (hk : k < ts.length) (h1 : ts[k].1 = a) (m : Nat) {n : Nat} (hf : findT a ts = some n) : ts.set k (a, m) = setT a m ts := by
  rw [setT, hf]
  simp only [Option.isSome_some, if_true]
  apply List.ext_getElem (by simp)
  intro i h2 h3
  simp only [List.length_set] at h2
  rw [List.getElem_set, List.getElem_map]
  by_cases hi : k = i
  · subst hi; simp [h1]
  · have hne : ts[i].1 ≠ a := fun e => hi (nodup_inj hn hk h2 (by rw [h1, e]))
    simp [hi, hne]
theorem tryCells_set (x : Adr × Nat) (n : Nat) : (tryCells x).setIfInBounds 20 (.int .i64 (n : Int)) = tryCells (x.1, n) := tryCells_setn x n
/-- One try more, in a row of one's own. -/
theorem trys_set {w0 w : World} {v : Value} {ts : List (Adr × Nat)} {k : Nat} (h : RowOut 87 21 (fun _ r (y : Adr × Nat) => r = tryCells y) w0 w v ts) (hk : k < ts.length) (m : Nat) :
    ∃ g c, v = .slice (some ⟨g, 0, none⟩) ts.length c ∧ w0.heap.size ≤ g ∧ g < w.heap.size ∧ rowFr w g = (0, 0) ∧ w.cell? ⟨g, k * 21 + 20, none⟩ = some (.int .i64 (ts[k].2 : Int)) ∧
      TrysAt (fun b => b = g) (w.setCell ⟨g, k * 21 + 20, none⟩ (.int .i64 (m : Int))) v (ts.set k (ts[k].1, m)) := by
  obtain ⟨⟨rs, ⟨p1, p2⟩, h2⟩, h3⟩ := h
  have hl := h2.length
  have heq := h2.eq
  have hz : ∀ r ∈ rs, r.size = 21 := All2.rows (fun r x e => by rw [e]; simp) h2
  have hj : (joinR rs).size = ts.length * 21 := by rw [joinR_size 21 rs hz, hl]
  rcases p2 with ⟨_, h0⟩ | ⟨g, cap, cur, rfl, q1, q2, q3, q4, q5, q6⟩
  · omega
  · have hrow : rowOf w g = cur := by simp [rowOf, q2]
    have hk21 : k * 21 + 21 ≤ ts.length * 21 := by have := Nat.mul_le_mul_right 21 (show k + 1 ≤ ts.length from hk); omega
    have hcl : ts.length * 21 ≤ cur.size := by rw [q5]; exact Nat.mul_le_mul_right _ q3
    have hex : cur.extract 0 (ts.length * 21) = joinR rs := by
      apply Array.ext'
      rw [Array.toList_extract, ← q6]; simp [List.extract]
    have hkr : k < rs.length := by omega
    have hrk : rs[k] = tryCells ts[k] := h2.get k hkr hk
    refine ⟨g, cap, rfl, q1, (Array.getElem?_eq_some_iff.1 q2).1, by simp [rowFr, q2], ?_, ?_⟩
    · rw [cell_row, hrow]
      have e1 : cur[k * 21 + 20]? = (joinR rs)[k * 21 + 20]? := by
        rw [← hex, Array.getElem?_extract, if_pos (by omega), Nat.zero_add]
      have e2 : (joinR rs).extract (k * 21) (k * 21 + 21) = rs[k] := joinR_part 21 rs k hkr hz
      have e3 : (joinR rs)[k * 21 + 20]? = (rs[k])[20]? := by
        rw [← e2, Array.getElem?_extract, if_pos (by omega)]
      rw [e1, e3, hrk, tryCells_n]
    · refine ⟨rs.set k (rs[k].setIfInBounds 20 (.int .i64 (m : Int))), ?_, ?_⟩
      · rw [← joinR_set 21 _ 20 (by decide) rs k hkr hz]
        refine .inr ⟨_, _, by simp; rfl, by simp; exact q3, q4, .inr ⟨rfl, rfl, ?_, ?_⟩⟩
        · rw [rowOf_setCell_same, hrow]; simp; rw [hj]; exact hcl
        · rw [rowOf_setCell_same, hrow]
          simp only [Nat.zero_add, Array.size_setIfInBounds]
          have hsz : (cur.extract 0 (ts.length * 21)).size = ts.length * 21 := by rw [hex, hj]
          rw [← hex, hsz]
          apply Array.ext_getElem?
          intro i
          rw [Array.getElem?_extract, Array.getElem?_setIfInBounds, Array.getElem?_setIfInBounds, Array.getElem?_extract]
          simp only [Array.size_setIfInBounds, hsz, Nat.sub_zero, Nat.zero_add]
          by_cases h1 : i < ts.length * 21
          · rw [if_pos (by omega)]
            by_cases h2 : k * 21 + 20 = i
            · subst h2; rw [if_pos rfl, if_pos rfl, if_pos (by omega), if_pos h1]
            · rw [if_neg h2, if_neg h2, if_pos (by omega)]
          · rw [if_neg (by omega), if_neg (by omega), if_neg (by omega)]
      · rw [hrk, tryCells_setn]
        have : rs.set k (tryCells (ts[k].1, m)) = (ts.set k (ts[k].1, m)).map tryCells := by rw [heq, List.map_set]
        rw [this]
        exact All2.of_eq _
set_option maxRecDepth 100000 in
set_option maxHeartbeats 2000000 in
theorem ref15_Fail {S : Nat → Prop} (w : World) (row : Array Value) (kr : List Acc) (ts : List (Adr × Nat)) (a : Adr) (h : PcIn S w row kr ts) (hsm : ts.length ≤ 100000) (hn8 : ∀ x ∈ ts, x.2 < 8) (hnd : (ts.map (·.1)).Nodup) :
    Calls Try.prog 46 #[.agg row, .agg a.cells] w (PcAns (.int .u8 (failC ts a)) S w kr (failT ts a)) := by
  obtain ⟨pk, ck, pa, ca, rfl, h2, h3⟩ := h.forms
  have H2 := Lib.hid h2
  have H3 := Lib.hid h3
  have H := Lib.hid h
  generalize hrw : pcRow (.slice pk kr.length ck) (.slice pa ts.length ca) = row at *
  have hr0 : row[0]? = some (.slice pk kr.length ck) := by rw [← hrw]; rfl
  have hr1 : row[1]? = some (.slice pa ts.length ca) := by rw [← hrw]; rfl
  obtain ⟨hrz, hro, hrx⟩ := h.one
  have Hnd := Lib.hid hnd
  have H8 := Lib.hid hn8
  clear h h2 h3 hnd hn8
  have BW := Lib.hid (show Below w.heap.size w (((w.alloc (.cells row 51)).alloc (.cells a.cells 23)).alloc (.cells (pcRow (.slice none 0 0) (.slice none 0 0)) 51)) from bel_alloc (bel_alloc (bel_alloc (Below.refl _ _) _) _) _)
  generalize hC : failC ts a = C
  generalize hTT : failT ts a = TT
  have HC := Lib.hid hC
  have HT := Lib.hid hTT
  clear hC hTT
  go_enter Try.func46, Try.ntmps46
  generalize hW0 : ((w.alloc (.cells row 51)).alloc (.cells a.cells 23)).alloc (.cells (pcRow (.slice none 0 0) (.slice none 0 0)) 51) = W0 at *
  have r0 : rowOf W0 w.heap.size = row := by rw [← hW0]; simp [go_sem]
  have i0 : isRow W0 w.heap.size = true := by rw [← hW0]; simp [go_sem]
  have f0 : rowFr W0 w.heap.size = (0, 0) := by rw [← hW0]; simp [go_sem]
  have r1 : rowOf W0 (w.heap.size + 1) = a.cells := by rw [← hW0]; simp [go_sem]
  have i1 : isRow W0 (w.heap.size + 1) = true := by rw [← hW0]; simp [go_sem]
  have r2 : rowOf W0 (w.heap.size + 2) = pcRow (.slice none 0 0) (.slice none 0 0) := by rw [← hW0]; simp [go_sem]
  have i2 : isRow W0 (w.heap.size + 2) = true := by rw [← hW0]; simp [go_sem]
  have f2 : rowFr W0 (w.heap.size + 2) = (0, 0) := by rw [← hW0]; simp [go_sem]
  have z0 : W0.heap.size = w.heap.size + 3 := by rw [← hW0]; simp
  have HZ := Lib.hid z0
  have HW := Lib.hid hW0
  clear hW0 z0
  have s0 : w.heap.size < W0.heap.size := isRow_lt i0
  have s2 : w.heap.size + 2 < W0.heap.size := isRow_lt i2
  go_upto_region 1 with (fail)
  rw [HW.out]
  go_wp2_with fail
  refine (ref15_At (S := S) _ _ kr ts a (H.out.below BW.out)).mono ?_
  rintro e w1 ⟨rfl, hb1⟩
  obtain ⟨y0, j0, l0⟩ := carryRow hb1 r0 i0
  obtain ⟨y1, j1, l1⟩ := carryRow hb1 r1 i1
  obtain ⟨y2, j2, l2⟩ := carryRow hb1 r2 i2
  have g0 := carryFr hb1 s0 f0
  have g2 := carryFr hb1 s2 f2
  have B1 := Lib.hid (bel_trans BW.out hb1)
  have z1 := hb1.size
  have nn : w.heap.size + 2 ≠ w.heap.size := by omega
  clear hb1 r0 i0 f0 r1 i1 r2 i2 f2 s0 s2
  rcases atI_cases ts a with ⟨hat, hft⟩ | ⟨k, hk2, hat, hka, hft, -⟩
  · have e1 : C = 0 := by rw [← HC.out]; simp [failC, hft]
    have e2 : ts = TT := by rw [← HT.out]; simp [failT, hft]
    subst e1; subst e2; clear HC HT
    rw [hat]
    go_wp2
    go_region
    all_goals
      go_wp2
      refine bodyPost_ret (v := .tuple #[.int .u8 0, .agg row]) (by simp [results, Try.results46, go_sem, y2, l2, hrz, hrx]) rfl ?_
      refine pc_end (T := fun b => S b ∧ b < w.heap.size) (c := w.heap.size + 2) _ B1.out (H.out.bound.below B1.out) (fun b hb => ⟨by omega, .inl hb.1⟩) ?_ (by omega)
      repeat (first | exact Kept.refl _ _ | apply Kept.drew | apply Kept.alloc | (refine Kept.setSeg ?_ _ _ _ (.inl rfl)))
  · rw [hat]
    have hge : decide ((k : Int) < 0) = false := by simp
    obtain ⟨b, o, cc, rs, hv', q1, q2, -, hbb, hsz, hall⟩ := RowsAt.pos (RowsAt.below H3.out B1.out) 21 (fun r y h => by rw [h]; simp) (by decide) (by omega)
    cases hv'
    obtain ⟨hrow, hacc⟩ := hall k hk2
    rw [hacc] at hrow
    have hn8 := H8.out _ (List.getElem_mem hk2)
    have cn : w1.cell? ⟨b, o + k * 21 + 20, none⟩ = some (.int .i64 (ts[k].2 : Int)) := by
      rw [cell_row, ← tryCells_n ts[k], ← hrow, Array.getElem?_extract, if_pos (by omega)]
    have c1 : w1.cell? ⟨w.heap.size, 1, none⟩ = some (.slice (some ⟨b, o, none⟩) ts.length ca) := by rw [cell_row, y0, hr1]
    have hki : (k : Int) < (ts.length : Int) := by omega
    have hki0 : (0 : Int) ≤ (k : Int) := by omega
    have hle := RowsAt.le H3.out
    unfold maxLen at hle
    generalize hn : ts[k].2 = n at *
    have Hn := Lib.hid hn
    have Hka := Lib.hid hka
    clear hall hacc hrow hn hka
    by_cases h7 : n = 7
    · subst h7
      have e1 : C = 5 := by rw [← HC.out]; simp [failC, hft]
      have e2 : delT a ts = TT := by rw [← HT.out]; simp [failT, hft]
      subst e1; subst e2; clear HC HT
      have hdel := erase_del Hnd.out hft
      rw [hat, Int.toNat_natCast] at hdel
      have Hdel := Lib.hid hdel
      clear hat hft hdel
      go_wp2_with fail
      refine (ref15_without (S := fun b => S b ∧ b < w.heap.size) _ _ kr ts k (H.out.bound.below B1.out) hk2 hsm).mono ?_
      rintro e w3 ⟨row2, rfl, hp3, hb3⟩
      rw [Hdel.out] at hp3
      obtain ⟨u2, k2, m2⟩ := carryRow hb3 y2 j2
      have h2 := carryFr hb3 l2 g2
      obtain ⟨hr2z, hr2o, hr2x⟩ := hp3.one
      have z3 := hb3.size
      have B3 := Lib.hid (bel_trans B1.out hb3)
      have HP3 := Lib.hid hp3
      clear hb3 y0 j0 l0 y1 j1 l1 y2 j2 l2 g0 g2 cn c1 hp3
      go_wp2
      have hw9 : rowOf (World.setSeg w3 (w.heap.size + 1 + 1) 0 row2.toList) (w.heap.size + 1 + 1) = row2 := by
        rw [rowOf_setSeg_same, u2, putSeg_all _ _ (by simp; exact hr2z)]
      refine bodyPost_ret (v := .tuple #[.int .u8 5, .agg row2]) (by simp [results, Try.results46, go_sem, hw9, hr2z, hr2x]) rfl ?_
      refine pc_end (c := w.heap.size + 2) _ B3.out HP3.out (fun b hb => ?_) ?_ (by omega)
      · rcases hb with hb | hb
        · exact ⟨by omega, .inl hb.1⟩
        · unfold Fresh at hb; have := HZ.out; exact ⟨by omega, .inr ⟨by omega, by omega⟩⟩
      · repeat (first | exact Kept.refl _ _ | apply Kept.drew | apply Kept.alloc | (refine Kept.setSeg ?_ _ _ _ (.inl rfl)))
    · have e1 : C = 4 := by rw [← HC.out]; simp [failC, hft, h7]
      have e2 : setT a (n + 1) ts = TT := by rw [← HT.out]; simp [failT, hft, h7]
      subst e1; subst e2; clear HC HT
      have hlen := Lib.hid (set_setT Hnd.out hk2 Hka.out (n + 1) hft)
      have hn1 : decide ((8 : Int) ≤ (n : Int) + 1) = false := by simp; omega
      have HM := Lib.hid (RowOut.made' (e := 87) (size := 21) (E := fun _ r (y : Adr × Nat) => r = tryCells y) (Below.refl w1.heap.size w1) (Nat.le_refl _))
      have HS := Lib.hid (RowsAt.below H3.out (bel_trans B1.out (bel_alloc (Below.refl _ _) (.cells #[] 87))))
      have HST : Hid (Stab w1 (fun _ r (y : Adr × Nat) => r = tryCells y)) := Lib.hid Stab.eq
      clear hft hat
      go_wp2_with (first
        | (at_builtin; refine wpList_append_outs rfl (.tmp 26) (.tmp 28) 49 rfl elt87 Try.underlying49 HST.out HM.out (by simp [Act.eval]) (.slice (some ⟨b, o, none⟩) ts.length ca) ts (by simp [Act.eval]) HS.out (fun r y h => by rw [h]; exact ⟨tryCells_size y, tryCells_one y⟩) (by simp; omega) (by simp; unfold maxLen; omega) ?_; intro v5 w5 ho5 hk5
           rw [List.nil_append] at ho5
           obtain ⟨g5, c5, rfl, hg5, hg5', gf5, gc5, hts5⟩ := trys_set ho5 hk2 (n + 1)
           have b15 := ho5.bel
           have hle5 := RowsAt.le ho5.rows
           unfold maxLen at hle5
           have fz5 : w5.frozen? ⟨g5, k * 21 + 20, none⟩ = false := frozen_row _ _ _ gf5
           rw [Hn.out] at gc5
           rw [Hka.out, hlen.out] at hts5
           have Hts5 := Lib.hid hts5
           obtain ⟨u50, k50, m50⟩ := carryRow b15 y0 j0
           obtain ⟨u52, k52, m52⟩ := carryRow b15 y2 j2
           have g50 := carryFr b15 l0 g0
           have g52 := carryFr b15 l2 g2
           have HB5 := Lib.hid b15
           have fzB : w5.frozen? ⟨w.heap.size, 1, none⟩ = false := frozen_row _ _ _ g50
           have cB : w5.cell? ⟨w.heap.size, 1, none⟩ = some (.slice (some ⟨b, o, none⟩) ts.length ca) := by rw [cell_row, u50, hr1]
           have hset : row.setIfInBounds 1 (.slice (some ⟨g5, 0, none⟩) ts.length c5) = pcRow (.slice pk kr.length ck) (.slice (some ⟨g5, 0, none⟩) ts.length c5) := by rw [← hrw, pcRow_set1]
           have ng0 : g5 ≠ w.heap.size := by omega
           have ng2 : g5 ≠ w.heap.size + 2 := by omega
           have kg0 : w.heap.size ≠ g5 := by omega
           clear ho5 hk5 b15 hts5 HM HS y0 j0 l0 y1 j1 l1 y2 j2 l2 g0 g2 cn c1)
        | fail)
      have hN : ((n + 1 : Nat) : Int) = (n : Int) + 1 := by omega
      rw [hN] at Hts5
      generalize hV : Value.slice (some ⟨g5, 0, none⟩) ts.length c5 = V at *
      generalize hW6 : w5.setCell ⟨g5, k * 21 + 20, none⟩ (.int .i64 ((n : Int) + 1)) = W6 at *
      have K6 : Kept (fun b => b = g5) w5 W6 := by rw [← hW6]; exact (Kept.refl _ _).setCell _ _ (.inl rfl)
      clear hW6
      have z6 := K6.size
      have u60 : rowOf W6 w.heap.size = row := by rw [K6.row _ m50 kg0, u50]
      have u62 : rowOf W6 (w.heap.size + 2) = pcRow (.slice none 0 0) (.slice none 0 0) := by rw [K6.row _ m52 (Ne.symm ng2), u52]
      have k62 : isRow W6 (w.heap.size + 2) = true := by rw [K6.isRow _ m52 (Ne.symm ng2), k52]
      have g62 : rowFr W6 (w.heap.size + 2) = (0, 0) := by rw [K6.rowFr _ m52 (Ne.symm ng2), g52]
      have hw1 := B1.out.size
      have hPc : PcIn (fun b => (S b ∧ b < w.heap.size) ∨ b = g5) (W6.setCell ⟨w.heap.size, 1, none⟩ V) (pcRow (.slice pk kr.length ck) V) kr (setT a (n + 1) ts) := by
        have K7 : Kept (fun b => b = w.heap.size) W6 (W6.setCell ⟨w.heap.size, 1, none⟩ V) := (Kept.refl _ _).setCell _ _ (.inl rfl)
        refine ⟨_, _, rfl, ?_, ?_⟩
        · exact (((H2.out.bound.below (bel_trans B1.out HB5.out)).kept K6 (fun b hb e => by have := hb.2; omega)).kept K7 (fun b hb e => by have := hb.2; omega)).mono fun b hb => .inl hb
        · exact RowsAt.mono (RowsAt.same Hts5.out (fun b hb hS => K7.block b hb (fun e => ng0 (by rw [← hS, e])))) (fun b hb => .inr hb)
      have HPc := Lib.hid hPc
      have Bel6 := Lib.hid (bel_setCell (bel_kept (bel_trans B1.out HB5.out) K6 (fun x hx e => by omega)) ⟨w.heap.size, 1, none⟩ V (Nat.le_refl _))
      generalize hW7 : W6.setCell ⟨w.heap.size, 1, none⟩ V = W7 at *
      have u70 : rowOf W7 w.heap.size = pcRow (.slice pk kr.length ck) V := by rw [← hW7, rowOf_setCell_same, u60, hset]
      have u72 : rowOf W7 (w.heap.size + 2) = pcRow (.slice none 0 0) (.slice none 0 0) := by rw [← hW7, rowOf_setCell_other _ _ _ _ nn, u62]
      have k70 : isRow W7 w.heap.size = true := by rw [← hW7, isRow_setCell, K6.isRow _ m50 kg0, k50]
      have k72 : isRow W7 (w.heap.size + 2) = true := by rw [← hW7, isRow_setCell, k62]
      have g72 : rowFr W7 (w.heap.size + 2) = (0, 0) := by rw [← hW7, rowFr_setCell, g62]
      have z7 : W7.heap.size = W6.heap.size := by rw [← hW7]; simp
      have m72 : w.heap.size + 2 < W7.heap.size := isRow_lt k72
      have hV1 : V.oneCell' = true := by rw [← hV]; rfl
      clear hW7 hPc K6 u60 u62 k62 g62 hset cB fzB gc5 fz5
      go_region
      all_goals
        go_wp2
        have hw9 : rowOf (World.setSeg W7 (w.heap.size + 1 + 1) 0 (pcRow (.slice pk kr.length ck) V).toList) (w.heap.size + 1 + 1) = pcRow (.slice pk kr.length ck) V := by
          rw [rowOf_setSeg_same, u72, putSeg_all _ _ (by simp)]
        refine bodyPost_ret (v := .tuple #[.int .u8 4, .agg (pcRow (.slice pk kr.length ck) V)]) (by simp [results, Try.results46, go_sem, hw9]) rfl ?_
        have hz := HZ.out
        refine pc_end (c := w.heap.size + 2) _ Bel6.out HPc.out (fun b hb => ?_) ?_ (by omega)
        · rcases hb with hb | hb
          · exact ⟨by omega, .inl hb.1⟩
          · exact ⟨by omega, .inr ⟨by omega, by omega⟩⟩
        · repeat (first | exact Kept.refl _ _ | apply Kept.drew | apply Kept.alloc | (refine Kept.setSeg ?_ _ _ _ (.inl rfl)))
end Go.Proofs.Ytadafohgglnneaa
