/- The document's Want. No condition. -/
import Derived.Test.YtadafohgglnneaaX17
import Derived.Test.YtadafohgglnneaaF8
namespace Go.Proofs.Ytadafohgglnneaa
open Go.RowKit
@[go_sem ↓ high] theorem zero87 (w : World) : (zeroValue 87).run Try.prog w = .ok (.agg (tryCells (zeroAdr, 0))) w := by rw [Try.zeroValue87]; rfl
@[go_sem, simp] theorem tryCells_putAdr (x : Adr × Nat) (a : Adr) : putSeg (tryCells x) 0 a.cells.toList = tryCells (a, x.2) := by
  have := putSeg_mid #[] x.1.cells #[.int .i64 (x.2 : Int)] a.cells.toList 0 rfl (by simp)
  simpa [tryCells] using this
/-- What is said, and a cache. -/
def PcAns (v : Value) (S : Nat → Prop) (w : World) (kr : List Acc) (ts : List (Adr × Nat)) (e : Ending) (w' : World) : Prop :=
  ∃ row, e = .returned (.tuple #[v, .agg row]) ∧ PcIn (fun b => S b ∨ Fresh w w' b) w' row kr ts ∧ Below w.heap.size w w'
theorem pc_end {S T : Nat → Prop} {w w8 w9 : World} {row : Array Value} {kr : List Acc} {ts : List (Adr × Nat)} {c : Nat} (v : Value) (B : Below w.heap.size w w8) (hP : PcIn T w8 row kr ts) (hT : ∀ b, T b → b ≠ c ∧ (S b ∨ Fresh w w8 b))
    (K : Kept (fun b => b = c) w8 w9) (hc : w.heap.size ≤ c) : PcAns v S w kr ts (.returned (.tuple #[v, .agg row])) w9 := by
  have hz := K.size
  refine ⟨row, rfl, (hP.kept K (fun b hb e => (hT b hb).1 e)).mono fun b hb => ?_, bel_kept B K (fun x hx e => by omega)⟩
  rcases (hT b hb).2 with h | ⟨h1, h2⟩
  · exact .inl h
  · exact .inr ⟨h1, by omega⟩
theorem want_end {S : Nat → Prop} {w w2 w6 : World} {vk : Value} {kr : List Acc} {ts : List (Adr × Nat)} {va : Value} {c : Nat} (h2 : AccsAt S w vk kr) (B2 : Below w.heap.size w w2) (ho : RowOut 87 21 (fun _ r (y : Adr × Nat) => r = tryCells y) w2 w6 va ts) (hc : c < w2.heap.size) (hc0 : w.heap.size ≤ c) (o : Nat) (v : Value) :
    PcIn (fun b => (S b ∧ b < w.heap.size) ∨ (w2.heap.size ≤ b ∧ b < w6.heap.size)) (w6.setCell ⟨c, o, none⟩ v) (pcRow vk va) kr ts := by
  have B6 := bel_trans B2 ho.bel
  have K1 : Kept (fun b => b = c) w6 (w6.setCell ⟨c, o, none⟩ v) := (Kept.refl _ w6).setCell _ _ (.inl rfl)
  have hT : TrysAt (fun b => w2.heap.size ≤ b ∧ b < w6.heap.size) w6 va ts := ho.rows
  have hA := (h2.bound.below B6).kept K1 (fun b hb e => by have := hb.2; omega)
  have hT2 : TrysAt (fun b => w2.heap.size ≤ b ∧ b < w6.heap.size) _ va ts := RowsAt.same hT (fun b hb hS => K1.block b hb (fun e => by have := hS.1; omega))
  exact ⟨_, _, rfl, hA.mono (fun b hb => .inl hb), RowsAt.mono hT2 (fun b hb => .inr hb)⟩
set_option maxRecDepth 100000 in
set_option maxHeartbeats 2000000 in
theorem ref15_Want {S : Nat → Prop} (w : World) (row : Array Value) (kr : List Acc) (ts : List (Adr × Nat)) (a : Adr) (h : PcIn S w row kr ts) (hsm : ts.length ≤ 100000) :
    Calls Try.prog 30 #[.agg row, .agg a.cells] w (PcAns (.int .u8 (wantC kr ts a)) S w kr (wantT kr ts a)) := by
  obtain ⟨pk, ck, pa, ca, rfl, h2, h3⟩ := h.forms
  have hle := RowsAt.le h3
  unfold maxLen at hle
  have H2 := Lib.hid h2
  have H3 := Lib.hid h3
  have H := Lib.hid h
  generalize hrw : pcRow (.slice pk kr.length ck) (.slice pa ts.length ca) = row at *
  have hr0 : row[0]? = some (.slice pk kr.length ck) := by rw [← hrw]; rfl
  have hr1 : row[1]? = some (.slice pa ts.length ca) := by rw [← hrw]; rfl
  obtain ⟨hrz, hro, hrx⟩ := h.one
  clear h h2 h3
  have BW := Lib.hid (show Below w.heap.size w (((w.alloc (.cells row 51)).alloc (.cells a.cells 23)).alloc (.cells (pcRow (.slice none 0 0) (.slice none 0 0)) 51)) from bel_alloc (bel_alloc (bel_alloc (Below.refl _ _) _) _) _)
  generalize hC : wantC kr ts a = C
  generalize hTT : wantT kr ts a = TT
  have HC := Lib.hid hC
  have HT := Lib.hid hTT
  clear hC hTT
  go_enter Try.func30, Try.ntmps30
  generalize hW0 : ((w.alloc (.cells row 51)).alloc (.cells a.cells 23)).alloc (.cells (pcRow (.slice none 0 0) (.slice none 0 0)) 51) = W0 at *
  have r0 : rowOf W0 w.heap.size = row := by rw [← hW0]; simp [go_sem]
  have i0 : isRow W0 w.heap.size = true := by rw [← hW0]; simp [go_sem]
  have f0 : rowFr W0 w.heap.size = (0, 0) := by rw [← hW0]; simp [go_sem]
  have r1 : rowOf W0 (w.heap.size + 1) = a.cells := by rw [← hW0]; simp [go_sem]
  have i1 : isRow W0 (w.heap.size + 1) = true := by rw [← hW0]; simp [go_sem]
  have r2 : rowOf W0 (w.heap.size + 2) = pcRow (.slice none 0 0) (.slice none 0 0) := by rw [← hW0]; simp [go_sem]
  have i2 : isRow W0 (w.heap.size + 2) = true := by rw [← hW0]; simp [go_sem]
  have f2 : rowFr W0 (w.heap.size + 2) = (0, 0) := by rw [← hW0]; simp [go_sem]
  have z0 : W0.heap.size = w.heap.size + 3 := by rw [← hW0]; simp
  have HZ := Lib.hid z0
  have HW := Lib.hid hW0
  have c0 : W0.cell? ⟨w.heap.size, 0, none⟩ = some (.slice pk kr.length ck) := by rw [cell_row, r0, hr0]
  clear hW0 z0
  have s0 : w.heap.size < W0.heap.size := isRow_lt i0
  have s1 : w.heap.size + 1 < W0.heap.size := isRow_lt i1
  have s2 : w.heap.size + 2 < W0.heap.size := isRow_lt i2
  go_upto_region 1 with (fail)
  rw [HW.out]
  go_wp2_with fail
  refine (ref13_Find (S := S) _ _ kr a (H2.out.below BW.out)).mono ?_
  rintro e w1 ⟨r, rfl, a1, hb1⟩
  have hrz1 := a1.size
  have hr11 := a1.one
  obtain ⟨hx27, -⟩ := a1.ext0
  obtain ⟨y0, j0, l0⟩ := carryRow hb1 r0 i0
  obtain ⟨y1, j1, l1⟩ := carryRow hb1 r1 i1
  obtain ⟨y2, j2, l2⟩ := carryRow hb1 r2 i2
  have g0 := carryFr hb1 s0 f0
  have g2 := carryFr hb1 s2 f2
  have B1 := Lib.hid (bel_trans BW.out hb1)
  have z1 := hb1.size
  have nn : w.heap.size + 2 ≠ w.heap.size := by omega
  clear hb1 r0 i0 f0 r1 i1 r2 i2 f2 s0 s1 s2 c0 a1
  cases hk : findK a kr with
  | some x =>
    have e1 : C = 1 := by rw [← HC.out]; simp [wantC, hk]
    have e2 : ts = TT := by rw [← HT.out]; simp [wantT, hk]
    subst e1; subst e2; clear HC HT
    clear hk
    go_wp2
    go_region
    all_goals
      go_wp2
      refine bodyPost_ret (v := .tuple #[.int .u8 1, .agg row]) (by simp [results, Try.results30, go_sem, y2, l2, hrz, hrx]) rfl ?_
      refine pc_end (T := fun b => S b ∧ b < w.heap.size) (c := w.heap.size + 2) _ B1.out (H.out.bound.below B1.out) (fun b hb => ⟨by omega, .inl hb.1⟩) ?_ (by omega)
      repeat (first | exact Kept.refl _ _ | apply Kept.drew | apply Kept.alloc | (refine Kept.setSeg ?_ _ _ _ (.inl rfl)))
  | none =>
    rcases atI_cases ts a with ⟨hat, hft⟩ | ⟨k, hk2, hat, -, hft, -⟩
    rotate_left
    · have e1 : C = 2 := by rw [← HC.out]; simp [wantC, hk, hft]
      have e2 : ts = TT := by rw [← HT.out]; simp [wantT, hk, hft]
      subst e1; subst e2; clear HC HT
      clear hk
      go_wp2_with fail
      refine (ref15_At (S := S) _ _ kr ts a (H.out.below (bel_trans B1.out (bel_alloc (Below.refl _ _) _)))).mono ?_
      rintro e w2 ⟨rfl, hb2⟩
      rw [hat]
      have hge : decide ((0 : Int) ≤ (k : Int)) = true := by simp
      have b12 : Below w1.heap.size w1 w2 := bel_trans (bel_alloc (Below.refl _ _) _) hb2
      obtain ⟨u0, k0, m0⟩ := carryRow b12 y0 j0
      obtain ⟨u2, k2, m2⟩ := carryRow b12 y2 j2
      have h2 := carryFr b12 l2 g2
      have B2 := Lib.hid (bel_trans B1.out b12)
      clear b12 hb2 hat hft y0 j0 l0 y1 j1 l1 y2 j2 l2 g0 g2
      go_wp2
      go_region
      all_goals
        go_wp2
        refine bodyPost_ret (v := .tuple #[.int .u8 2, .agg row]) (by simp [results, Try.results30, go_sem, u2, m2, hrz, hrx]) rfl ?_
        refine pc_end (T := fun b => S b ∧ b < w.heap.size) (c := w.heap.size + 2) _ B2.out (H.out.bound.below B2.out) (fun b hb => ⟨by omega, .inl hb.1⟩) ?_ (by omega)
        repeat (first | exact Kept.refl _ _ | apply Kept.drew | apply Kept.alloc | (refine Kept.setSeg ?_ _ _ _ (.inl rfl)))
    · have e1 : C = 3 := by rw [← HC.out]; simp [wantC, hk, hft]
      have e2 : TT = ts ++ [(a, 0)] := by rw [← HT.out]; simp [wantT, hk, hft, setT]
      subst e1; subst e2; clear HC HT
      clear hk
      go_wp2_with fail
      refine (ref15_At (S := S) _ _ kr ts a (H.out.below (bel_trans B1.out (bel_alloc (Below.refl _ _) _)))).mono ?_
      rintro e w2 ⟨rfl, hb2⟩
      rw [hat]
      have b12 : Below w1.heap.size w1 w2 := bel_trans (bel_alloc (Below.refl _ _) _) hb2
      obtain ⟨u0, k0, m0⟩ := carryRow b12 y0 j0
      obtain ⟨u1, k1, m1⟩ := carryRow b12 y1 j1
      obtain ⟨u2, k2, m2⟩ := carryRow b12 y2 j2
      have h0 := carryFr b12 l0 g0
      have h2 := carryFr b12 l2 g2
      have B2 := Lib.hid (bel_trans B1.out b12)
      have HM := Lib.hid (RowOut.made' (e := 87) (size := 21) (E := fun _ r (y : Adr × Nat) => r = tryCells y) (Below.refl w2.heap.size w2) (Nat.le_refl _))
      have HS := Lib.hid (RowsAt.below H3.out (bel_trans B2.out (bel_alloc (Below.refl _ _) (.cells #[] 87))))
      have cc1 : w2.cell? ⟨w.heap.size, 1, none⟩ = some (.slice pa ts.length ca) := by rw [cell_row, u0, hr1]
      have HST : Hid (Stab w2 (fun _ r (y : Adr × Nat) => r = tryCells y)) := Lib.hid Stab.eq
      have U0 := Lib.hid u0
      have K0 := Lib.hid k0
      have M0 := Lib.hid m0
      have G0 := Lib.hid h0
      have U2 := Lib.hid u2
      have K2 := Lib.hid k2
      have M2 := Lib.hid m2
      have G2 := Lib.hid h2
      clear b12 hb2 hat hft y0 j0 l0 y1 j1 l1 y2 j2 l2 g0 g2
      go_wp2_with (first
        | (at_builtin; refine wpList_append_outs rfl (.tmp 24) (.tmp 26) 49 rfl elt87 Try.underlying49 HST.out HM.out (by simp [Act.eval]) (.slice pa ts.length ca) ts (by simp [Act.eval]) HS.out (fun r y h => by rw [h]; exact ⟨tryCells_size y, tryCells_one y⟩) (by simp; omega) (by simp; unfold maxLen; omega) ?_; intro v5 w5 ho5 hk5
           rw [List.nil_append] at ho5
           obtain ⟨p5, c5, rfl⟩ := ho5.form
           have b25 := ho5.bel
           obtain ⟨u50, k50, m50⟩ := carryRow b25 u0 k0
           obtain ⟨u51, k51, m51⟩ := carryRow b25 u1 k1
           obtain ⟨u52, k52, m52⟩ := carryRow b25 u2 k2
           have g50 := carryFr b25 m0 h0
           have g52 := carryFr b25 m2 h2
           have HO5 := Lib.hid (ho5.below HST.out (bel_alloc (Below.refl w5.heap.size w5) (.cells (tryCells (a, 0)) 87)))
           clear ho5 hk5 b25 HM HS cc1 u0 k0 m0 u1 k1 m1 u2 k2 m2 h0 h2)
        | (at_builtin; refine wpList_append_out rfl (.tmp 28) (.tmp 31) 49 rfl elt87 Try.underlying49 HST.out HO5.out (by simp [Act.eval]) w5.heap.size (tryCells (a, 0)) (a, 0) (by simp [Act.eval]) (rowOf_alloc_at _ _ _ _ rfl) (tryCells_size _) (tryCells_one _) rfl (by omega) (by unfold maxLen; omega) ?_; intro g6 c6 w6 ho6 hk6 hg6
           have b26 := ho6.bel
           have HO6 := Lib.hid ho6
           have HB26 := Lib.hid b26
           obtain ⟨u60, k60, m60⟩ := carryRow b26 U0.out K0.out
           obtain ⟨u62, k62, m62⟩ := carryRow b26 U2.out K2.out
           have g60 := carryFr b26 M0.out G0.out
           have g62 := carryFr b26 M2.out G2.out
           have fz6 : w6.frozen? ⟨w.heap.size, 1, none⟩ = false := frozen_row _ _ _ g60
           have c61 : w6.cell? ⟨w.heap.size, 1, none⟩ = some (.slice pa ts.length ca) := by rw [cell_row, u60, hr1]
           have hset : row.setIfInBounds 1 (.slice (some ⟨g6, 0, none⟩) (ts.length + 1) c6) = pcRow (.slice pk kr.length ck) (.slice (some ⟨g6, 0, none⟩) (ts.length + 1) c6) := by rw [← hrw, pcRow_set1]
           clear ho6 hk6 hg6 b26)
        | fail)
      have hz6 := HB26.out.size
      have BW6 := bel_trans B2.out HB26.out
      have hP := want_end H2.out B2.out HO6.out M0.out (Nat.le_refl _) 1 (.slice (some ⟨g6, 0, none⟩) (ts.length + 1) c6)
      have HP := Lib.hid hP
      have HB6 := Lib.hid BW6
      clear hP BW6 hz6
      go_region
      all_goals
        go_wp2
        have hw9 : rowOf (World.setSeg (w6.setCell ⟨w.heap.size, 1, none⟩ (.slice (some ⟨g6, 0, none⟩) (ts.length + 1) c6)) (w.heap.size + 1 + 1) 0 (pcRow (.slice pk kr.length ck) (.slice (some ⟨g6, 0, none⟩) (ts.length + 1) c6)).toList) (w.heap.size + 1 + 1) = pcRow (.slice pk kr.length ck) (.slice (some ⟨g6, 0, none⟩) (ts.length + 1) c6) := by
          rw [rowOf_setSeg_same, rowOf_setCell_other _ _ _ _ (show w.heap.size + 1 + 1 ≠ w.heap.size by omega), u62, putSeg_all _ _ (by simp)]
        refine bodyPost_ret (v := .tuple #[.int .u8 3, .agg (pcRow (.slice pk kr.length ck) (.slice (some ⟨g6, 0, none⟩) (ts.length + 1) c6))]) (by simp [results, Try.results30, go_sem, hw9]) rfl ?_
        have Bc := bel_setCell HB6.out ⟨w.heap.size, 1, none⟩ (.slice (some ⟨g6, 0, none⟩) (ts.length + 1) c6) (Nat.le_refl _)
        have hz7 := HB26.out.size
        have hz2 := M2.out
        have hm0 := M0.out
        refine pc_end (c := w.heap.size + 2) _ Bc HP.out (fun b hb => ⟨by omega, ?_⟩) ?_ (by omega)
        · rcases hb with hb | hb
          · exact .inl hb.1
          · exact .inr ⟨by omega, by simp; omega⟩
        · repeat (first | exact Kept.refl _ _ | apply Kept.drew | apply Kept.alloc | (refine Kept.setSeg ?_ _ _ _ (.inl rfl)))
end Go.Proofs.Ytadafohgglnneaa
