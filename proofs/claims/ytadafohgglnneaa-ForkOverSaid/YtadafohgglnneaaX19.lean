/- The document's Fill. No condition. -/
import Derived.Test.YtadafohgglnneaaX18
import Derived.Test.YtadafohgglnneaaX5
namespace Go.Proofs.Ytadafohgglnneaa
open Go.RowKit
theorem i_setSeg (w : World) (b o k : Nat) (vs : List Value) : isRow w k = isRow (World.setSeg w b o vs) k := by
  simp only [isRow, World.setSeg, Array.getElem?_modify]
  by_cases h : b = k
  · rw [if_pos h]; cases w.heap[k]? with
    | none => rfl
    | some x => cases x <;> rfl
  · rw [if_neg h]
theorem f_setSeg (w : World) (b o k : Nat) (vs : List Value) : rowFr w k = rowFr (World.setSeg w b o vs) k := by
  simp only [rowFr, World.setSeg, Array.getElem?_modify]
  by_cases h : b = k
  · rw [if_pos h]; cases w.heap[k]? with
    | none => rfl
    | some x => cases x <;> rfl
  · rw [if_neg h]
theorem fill15_end {S : Nat → Prop} {w w3 w4 w5 : World} {row2 : Array Value} {kr' : List Acc} {ts : List (Adr × Nat)} {vk va vk' : Value} (_hrow : row2 = pcRow vk va)
    (hp : TrysAt (fun b => (S b ∧ b < w.heap.size) ∨ (w.heap.size + 3 ≤ b ∧ b < w3.heap.size)) w3 va ts) (hS : w.heap.size + 3 ≤ w3.heap.size) (hw4 : w4 = World.setSeg w3 w.heap.size 0 row2.toList)
    (ho : RowOut 30 27 (AccIn (fun b => (S b ∧ b < w.heap.size) ∨ (w.heap.size + 3 ≤ b ∧ b < w3.heap.size))) w4 w5 vk' kr') :
    PcIn (fun b => (S b ∧ b < w.heap.size) ∨ (w.heap.size + 3 ≤ b ∧ b < w5.heap.size)) (w5.setCell ⟨w.heap.size, 0, none⟩ vk') (pcRow vk' va) kr' ts := by
  have z4 : w4.heap.size = w3.heap.size := by rw [hw4]; simp
  have b5 := ho.bel
  have z5 := b5.size
  have K3 : Kept (fun b => b = w.heap.size) w3 w4 := by rw [hw4]; exact (Kept.refl _ w3).setSeg _ _ _ (.inl rfl)
  have K5 : Kept (fun b => b = w.heap.size) w5 (w5.setCell ⟨w.heap.size, 0, none⟩ vk') := (Kept.refl _ w5).setCell _ _ (.inl rfl)
  have K : Kept (fun b => b = w.heap.size) w3 (w5.setCell ⟨w.heap.size, 0, none⟩ vk') := (K3.bel b5).trans K5
  have hA : AccsAt (fun b => (S b ∧ b < w.heap.size) ∨ (w.heap.size + 3 ≤ b ∧ b < w5.heap.size)) w5 vk' kr' := ho.accs (fun b hb => hb.imp id fun h => by omega) (fun b h1 h2 => .inr (by omega))
  refine ⟨_, _, rfl, hA.kept K5 (fun b hb e => by omega), ?_⟩
  exact RowsAt.mono (RowsAt.same hp (fun b hb hb2 => K.block b hb (fun e => by omega))) (fun b hb => hb.imp id fun h => by omega)
set_option maxRecDepth 100000 in
set_option maxHeartbeats 2000000 in
theorem ref15_Fill {S : Nat → Prop} (w : World) (row xrow : Array Value) (kr : List Acc) (ts : List (Adr × Nat)) (x : Acc) (h : PcIn S w row kr ts) (hx : AccIn S w xrow x) (hsm : ts.length ≤ 100000) (hkm : kr.length ≤ 100000) :
    Calls Try.prog 31 #[.agg row, .agg xrow] w (PcAns (.bool (fillB ts x)) S w (if fillB ts x then putL x false kr else kr) (if fillB ts x then ts.eraseIdx (atI ts x.adr).toNat else ts)) := by
  obtain ⟨pk, ck, pa, ca, rfl, h2, h3⟩ := h.forms
  have H := Lib.hid h
  have HX := Lib.hid hx
  obtain ⟨hxw27, hxad⟩ := hx.ext0
  have hxz := hx.size
  have hx1 := hx.one
  generalize hrw : pcRow (.slice pk kr.length ck) (.slice pa ts.length ca) = row at *
  obtain ⟨hrz, hro, hrx⟩ := h.one
  clear h h2 h3 hx
  have BW := Lib.hid (show Below w.heap.size w (((w.alloc (.cells row 51)).alloc (.cells xrow 30)).alloc (.cells (pcRow (.slice none 0 0) (.slice none 0 0)) 51)) from bel_alloc (bel_alloc (bel_alloc (Below.refl _ _) _) _) _)
  generalize hC : fillB ts x = C
  generalize hKK : (if C then putL x false kr else kr) = KK
  generalize hTT : (if C then ts.eraseIdx (atI ts x.adr).toNat else ts) = TT
  have HC := Lib.hid hC
  have HK := Lib.hid hKK
  have HT := Lib.hid hTT
  clear hC hTT hKK
  go_enter Try.func31, Try.ntmps31
  generalize hW0 : ((w.alloc (.cells row 51)).alloc (.cells xrow 30)).alloc (.cells (pcRow (.slice none 0 0) (.slice none 0 0)) 51) = W0 at *
  have r0 : rowOf W0 w.heap.size = row := by rw [← hW0]; simp [go_sem]
  have i0 : isRow W0 w.heap.size = true := by rw [← hW0]; simp [go_sem]
  have f0 : rowFr W0 w.heap.size = (0, 0) := by rw [← hW0]; simp [go_sem]
  have r1 : rowOf W0 (w.heap.size + 1) = xrow := by rw [← hW0]; simp [go_sem]
  have i1 : isRow W0 (w.heap.size + 1) = true := by rw [← hW0]; simp [go_sem]
  have r2 : rowOf W0 (w.heap.size + 2) = pcRow (.slice none 0 0) (.slice none 0 0) := by rw [← hW0]; simp [go_sem]
  have i2 : isRow W0 (w.heap.size + 2) = true := by rw [← hW0]; simp [go_sem]
  have f2 : rowFr W0 (w.heap.size + 2) = (0, 0) := by rw [← hW0]; simp [go_sem]
  have z0 : W0.heap.size = w.heap.size + 3 := by rw [← hW0]; simp
  have HZ := Lib.hid z0
  have HW := Lib.hid hW0
  clear hW0 z0
  have s0 : w.heap.size < W0.heap.size := isRow_lt i0
  have s1 : w.heap.size + 1 < W0.heap.size := isRow_lt i1
  have s2 : w.heap.size + 2 < W0.heap.size := isRow_lt i2
  go_upto_region 1 with (fail)
  rw [HW.out]
  go_wp2_with fail
  refine (ref15_At (S := S) _ _ kr ts x.adr (H.out.below BW.out)).mono ?_
  rintro e w1 ⟨rfl, hb1⟩
  obtain ⟨y0, j0, l0⟩ := carryRow hb1 r0 i0
  obtain ⟨y1, j1, l1⟩ := carryRow hb1 r1 i1
  obtain ⟨y2, j2, l2⟩ := carryRow hb1 r2 i2
  have g0 := carryFr hb1 s0 f0
  have g2 := carryFr hb1 s2 f2
  have B1 := Lib.hid (bel_trans BW.out hb1)
  have z1 := hb1.size
  clear hb1 r0 i0 f0 r1 i1 r2 i2 f2 s0 s1 s2
  rcases atI_cases ts x.adr with ⟨hat, hft⟩ | ⟨k, hk2, hat, -, hft, -⟩
  · have e0 : C = false := by rw [← HC.out]; simp [fillB, hft]
    have e1 : kr = KK := by rw [← HK.out, e0]; rfl
    have e2 : ts = TT := by rw [← HT.out, e0]; rfl
    subst e0; subst e1; subst e2; clear HC HT HK
    rw [hat]
    clear hat hft
    go_wp2
    go_region
    all_goals
      go_wp2
      refine bodyPost_ret (v := .tuple #[.bool false, .agg row]) (by simp [results, Try.results31, go_sem, y2, l2, hrz, hrx]) rfl ?_
      refine pc_end (T := fun b => S b ∧ b < w.heap.size) (c := w.heap.size + 2) _ B1.out (H.out.bound.below B1.out) (fun b hb => ⟨by omega, .inl hb.1⟩) ?_ (by omega)
      repeat (first | exact Kept.refl _ _ | apply Kept.drew | apply Kept.alloc | (refine Kept.setSeg ?_ _ _ _ (.inl rfl)))
  · rw [hat]
    have hge : decide ((k : Int) < 0) = false := by simp
    go_wp2_with fail
    refine (ref13_Right (S := S) _ xrow _ (HX.out.below B1.out)).mono ?_
    rintro e w2 ⟨rfl, hb2⟩
    obtain ⟨u0, k0, m0⟩ := carryRow hb2 y0 j0
    obtain ⟨u1, k1, m1⟩ := carryRow hb2 y1 j1
    obtain ⟨u2, k2, m2⟩ := carryRow hb2 y2 j2
    have h0 := carryFr hb2 l0 g0
    have h2 := carryFr hb2 l2 g2
    have B2 := Lib.hid (bel_trans B1.out hb2)
    have z2 := hb2.size
    clear hb2 y0 j0 l0 y1 j1 l1 y2 j2 l2 g0 g2
    cases hrt : rightB x.stor with
    | false =>
      have e0 : C = false := by rw [← HC.out]; simp [fillB, hrt]
      have e1 : kr = KK := by rw [← HK.out, e0]; rfl
      have e2 : ts = TT := by rw [← HT.out, e0]; rfl
      subst e0; subst e1; subst e2; clear HC HT HK
      clear hat hft hrt
      go_wp2
      go_region
      all_goals
        go_wp2
        refine bodyPost_ret (v := .tuple #[.bool false, .agg row]) (by simp [results, Try.results31, go_sem, u2, m2, hrz, hrx]) rfl ?_
        refine pc_end (T := fun b => S b ∧ b < w.heap.size) (c := w.heap.size + 2) _ B2.out (H.out.bound.below B2.out) (fun b hb => ⟨by omega, .inl hb.1⟩) ?_ (by omega)
        repeat (first | exact Kept.refl _ _ | apply Kept.drew | apply Kept.alloc | (refine Kept.setSeg ?_ _ _ _ (.inl rfl)))
    | true =>
      have e0 : C = true := by rw [← HC.out]; simp [fillB, hrt, hft]
      have e1 : putL x false kr = KK := by rw [← HK.out, e0]; rfl
      have e2 : ts.eraseIdx k = TT := by rw [← HT.out, e0, hat]; rfl
      subst e0; subst e1; subst e2; clear HC HT HK
      clear hat hft hrt
      go_wp2_with fail
      refine (ref15_without (S := fun b => S b ∧ b < w.heap.size) _ _ kr ts k (H.out.bound.below B2.out) hk2 hsm).mono ?_
      rintro e w3 ⟨row2, rfl, hp3, hb3⟩
      obtain ⟨u30, k30, m30⟩ := carryRow hb3 u0 k0
      obtain ⟨u31, k31, m31⟩ := carryRow hb3 u1 k1
      obtain ⟨u32, k32, m32⟩ := carryRow hb3 u2 k2
      have h30 := carryFr hb3 m0 h0
      have h32 := carryFr hb3 m2 h2
      have B3 := Lib.hid (bel_trans B2.out hb3)
      have z3 := hb3.size
      have HP3 : Hid (PcIn (fun b => (S b ∧ b < w.heap.size) ∨ (w.heap.size + 3 ≤ b ∧ b < w3.heap.size)) w3 row2 kr (ts.eraseIdx k)) := Lib.hid (hp3.mono fun b hb => hb.imp id fun h => by unfold Fresh at h; have := HZ.out; omega)
      obtain ⟨hr2z, hr2o, hr2x⟩ := HP3.out.one
      obtain ⟨pk2, ck2, pa2, ca2, hrow2, q2, q3⟩ := HP3.out.forms
      have Q2 := Lib.hid q2
      have Q3 := Lib.hid q3
      have HR2 := Lib.hid hrow2
      clear hb3 u0 k0 m0 u1 k1 m1 u2 k2 m2 h0 h2 hp3 q2 q3 hrow2
      have hc4 : (World.setSeg w3 w.heap.size 0 row2.toList).cell? ⟨w.heap.size, 0, none⟩ = some (.slice pk2 kr.length ck2) := by
        rw [cell_row, rowOf_setSeg_same, u30, putSeg_all _ _ (by omega), HR2.out]; rfl
      go_wp2_with fail
      have K3 : Kept (fun b => b = w.heap.size) w3 (World.setSeg w3 w.heap.size 0 row2.toList) := (Kept.refl _ w3).setSeg _ _ _ (.inl rfl)
      have z4 : (World.setSeg w3 w.heap.size 0 row2.toList).heap.size = w3.heap.size := by simp
      have r40 : rowOf (World.setSeg w3 w.heap.size 0 row2.toList) w.heap.size = row2 := by rw [rowOf_setSeg_same, u30, putSeg_all _ _ (by omega)]
      have i40 : isRow (World.setSeg w3 w.heap.size 0 row2.toList) w.heap.size = true := by rw [← i_setSeg, k30]
      have f40 : rowFr (World.setSeg w3 w.heap.size 0 row2.toList) w.heap.size = (0, 0) := by rw [← f_setSeg, h30]
      have Q24 := Q2.out.kept K3 (fun b hb e => by have := HZ.out; omega)
      have X4 := (HX.out.bound.below B3.out).kept K3 (fun b hb e => by have := hb.2; omega)
      have B4 := bel_setSeg B3.out w.heap.size 0 row2.toList (Nat.le_refl _)
      have hm4 := HZ.out
      refine (ref13_Put (T := fun b => (S b ∧ b < w.heap.size) ∨ (w.heap.size + 3 ≤ b ∧ b < w3.heap.size)) _ _ kr xrow x Q24 (X4.mono fun b hb => .inl hb) (fun b hb => by omega) hkm).mono ?_
      rintro e w5 ⟨v5, rfl, ho5⟩
      obtain ⟨p5, c5, rfl⟩ := ho5.form
      have b45 := ho5.bel
      have r42 : rowOf (World.setSeg w3 w.heap.size 0 row2.toList) (w.heap.size + 2) = pcRow (.slice none 0 0) (.slice none 0 0) := by rw [K3.row _ m32 (by omega), u32]
      have i42 : isRow (World.setSeg w3 w.heap.size 0 row2.toList) (w.heap.size + 2) = true := by rw [K3.isRow _ m32 (by omega), k32]
      have f42 : rowFr (World.setSeg w3 w.heap.size 0 row2.toList) (w.heap.size + 2) = (0, 0) := by rw [K3.rowFr _ m32 (by omega), h32]
      obtain ⟨r50, i50, l50⟩ := carryRow b45 r40 i40
      obtain ⟨r52, i52, l52⟩ := carryRow b45 r42 i42
      have f50 := carryFr b45 (isRow_lt i40) f40
      have f52 := carryFr b45 (isRow_lt i42) f42
      have c50 : w5.cell? ⟨w.heap.size, 0, none⟩ = some (.slice pk2 kr.length ck2) := by rw [cell_row, r50, HR2.out]; rfl
      have fz5 : w5.frozen? ⟨w.heap.size, 0, none⟩ = false := frozen_row _ _ _ f50
      have hend := fill15_end (vk' := .slice p5 (putL x false kr).length c5) HR2.out Q3.out (by omega) rfl ho5
      have HE := Lib.hid hend
      have B5 := Lib.hid (bel_trans B4 b45)
      have hset : row2.setIfInBounds 0 (.slice p5 (putL x false kr).length c5) = pcRow (.slice p5 (putL x false kr).length c5) (.slice pa2 (ts.eraseIdx k).length ca2) := by rw [HR2.out, pcRow_set0]
      have z5 := b45.size
      clear hend b45 r40 i40 f40 r42 i42 f42 hc4 K3 Q24 X4 B4 ho5 u30 k30 m30 u31 k31 m31 u32 k32 m32 h30 h32
      generalize (putL x false kr).length = n5 at *
      generalize (ts.eraseIdx k).length = n6 at *
      go_wp2
      go_region
      all_goals
        go_wp2
        have hw9 : rowOf (World.setSeg (w5.setCell ⟨w.heap.size, 0, none⟩ (.slice p5 n5 c5)) (w.heap.size + 1 + 1) 0 (pcRow (.slice p5 n5 c5) (.slice pa2 n6 ca2)).toList) (w.heap.size + 1 + 1) = pcRow (.slice p5 n5 c5) (.slice pa2 n6 ca2) := by
          rw [rowOf_setSeg_same, rowOf_setCell_other _ _ _ _ (show w.heap.size + 1 + 1 ≠ w.heap.size by omega), r52, putSeg_all _ _ (by simp)]
        refine bodyPost_ret (v := .tuple #[.bool true, .agg (pcRow (.slice p5 n5 c5) (.slice pa2 n6 ca2))]) (by simp [results, Try.results31, go_sem, hw9]) rfl ?_
        have Bc := bel_setCell B5.out ⟨w.heap.size, 0, none⟩ (.slice p5 n5 c5) (Nat.le_refl _)
        refine pc_end (c := w.heap.size + 2) _ Bc HE.out (fun b hb => ⟨by omega, ?_⟩) ?_ (by omega)
        · rcases hb with hb | hb
          · exact .inl hb.1
          · exact .inr ⟨by omega, by simp; omega⟩
        · repeat (first | exact Kept.refl _ _ | apply Kept.drew | apply Kept.alloc | (refine Kept.setSeg ?_ _ _ _ (.inl rfl)))
end Go.Proofs.Ytadafohgglnneaa
