/- The document's cache without one that is being fetched. No condition. -/
import Derived.Test.YtadafohgglnneaaX16
namespace Go.Proofs.Ytadafohgglnneaa
open Go.RowKit
theorem carryFr {w w' : World} {b : Nat} (h : Below w.heap.size w w') (hb : b < w.heap.size) (hf : rowFr w b = (0, 0)) : rowFr w' b = (0, 0) := by rw [bel_rowFr h _ hb, hf]
theorem erase_take_eq {α : Type} (l : List α) (k : Nat) (_hk : k < l.length) : (l.take (k + 1)).eraseIdx k = (l.take k).eraseIdx k := by
  have h1 : (l.take k).length = k := by simp; omega
  have h2 : (l.take k).eraseIdx k = l.take k := List.eraseIdx_of_length_le (by omega)
  rw [List.take_succ_eq_append_getElem (by omega), List.eraseIdx_append_of_length_le (by omega), h1, Nat.sub_self, h2]; simp
theorem erase_take_ne {α : Type} (l : List α) (k i : Nat) (hi : i < l.length) (h : i ≠ k) : (l.take (i + 1)).eraseIdx k = (l.take i).eraseIdx k ++ [l[i]] := by
  rw [List.take_succ_eq_append_getElem (by omega)]
  have h1 : (l.take i).length = i := by simp; omega
  by_cases hk : k < i
  · rw [List.eraseIdx_append_of_lt_length (by omega)]
  · rw [List.eraseIdx_append_of_length_le (by omega), h1, List.eraseIdx_of_length_le (l := l.take i) (by omega)]
    obtain ⟨m, hm⟩ : ∃ m, k - i = m + 1 := ⟨k - i - 1, by omega⟩
    rw [hm]; simp
/-- A cache answered. -/
def Pc15 (S : Nat → Prop) (w : World) (kr : List Acc) (ts : List (Adr × Nat)) (e : Ending) (w' : World) : Prop :=
  ∃ row, e = .returned (.agg row) ∧ PcIn (fun b => S b ∨ Fresh w w' b) w' row kr ts ∧ Below w.heap.size w w'
set_option maxRecDepth 100000 in
set_option maxHeartbeats 2000000 in
theorem ref15_without {S : Nat → Prop} (w : World) (row : Array Value) (kr : List Acc) (ts : List (Adr × Nat)) (i : Nat) (h : PcIn S w row kr ts) (hi : i < ts.length) (hsm : ts.length ≤ 100000) :
    Calls Try.prog 72 #[.agg row, .int .i64 i] w (Pc15 S w kr (ts.eraseIdx i)) := by
  obtain ⟨pk, ck, pa, ca, rfl, h2, h3⟩ := h.forms
  have hle := RowsAt.le h3
  unfold maxLen at hle
  have H2 := Lib.hid h2
  have H3 := Lib.hid h3
  clear h h2 h3
  generalize hR : ts.eraseIdx i = R
  have HR := Lib.hid hR; clear hR
  have BW := Lib.hid (show Below w.heap.size w ((w.alloc (.cells (pcRow (.slice pk kr.length ck) (.slice pa ts.length ca)) 51)).alloc (.cells (pcRow (.slice none 0 0) (.slice none 0 0)) 51)) from bel_alloc (bel_alloc (Below.refl _ _) _) _)
  go_enter Try.func72, Try.ntmps72
  go_wp2
  generalize hW0 : (w.alloc (.cells (pcRow (.slice pk kr.length ck) (.slice pa ts.length ca)) 51)).alloc (.cells (pcRow (.slice none 0 0) (.slice none 0 0)) 51) = W0 at *
  have r0 : rowOf W0 w.heap.size = pcRow (.slice pk kr.length ck) (.slice pa ts.length ca) := by rw [← hW0]; simp [go_sem]
  have i0 : isRow W0 w.heap.size = true := by rw [← hW0]; simp [go_sem]
  have f0 : rowFr W0 w.heap.size = (0, 0) := by rw [← hW0]; simp [go_sem]
  have r1 : rowOf W0 (w.heap.size + 1) = pcRow (.slice none 0 0) (.slice none 0 0) := by rw [← hW0]; simp [go_sem]
  have i1 : isRow W0 (w.heap.size + 1) = true := by rw [← hW0]; simp [go_sem]
  have f1 : rowFr W0 (w.heap.size + 1) = (0, 0) := by rw [← hW0]; simp [go_sem]
  have z0 : W0.heap.size = w.heap.size + 2 := by rw [← hW0]; simp
  clear hW0
  have ST : Stab W0 (fun _ r (y : Adr × Nat) => r = tryCells y) := Stab.eq
  have HST := Lib.hid ST; clear ST
  go_loopw [5, 11] (fun vo vi wr => ∃ (k : Nat) (q : Option Addr) (c : Nat) (ys : List (Adr × Nat)), k ≤ ts.length ∧ vi = .int .i64 k ∧ ys.length ≤ k ∧ Hid (ys = (ts.take k).eraseIdx i) ∧ vo = .slice q ys.length c ∧ RowOut 87 21 (fun _ r (y : Adr × Nat) => r = tryCells y) W0 wr vo ys) (fun _ vi _ => ts.length - (intOf vi).toNat)
  case atStart => exact ⟨0, _, _, [], Nat.zero_le _, rfl, by simp, Lib.hid (by simp), rfl, by rw [← z0]; exact RowOut.made' (Below.refl _ _) (Nat.le_refl _)⟩
  case round =>
    obtain ⟨k, q, c, ys, hk, rfl, hyl, hys, rfl, hout⟩ := hrel
    have hbel := hout.bel
    obtain ⟨y0, j0, l0⟩ := carryRow hbel r0 i0
    obtain ⟨y1, j1, l1⟩ := carryRow hbel r1 i1
    have g0 : rowFr wr w.heap.size = (0, 0) := by rw [bel_rowFr hbel _ (by omega), f0]
    have g1 : rowFr wr (w.heap.size + 1) = (0, 0) := by rw [bel_rowFr hbel _ (by omega), f1]
    have c1 : wr.cell? ⟨w.heap.size, 1, none⟩ = some (.slice pa ts.length ca) := by rw [cell_row, y0]; rfl
    have HOUT := Lib.hid hout
    by_cases hlt : k < ts.length
    · obtain ⟨b, o, cc, rs, hv', q1, q2, -, hbb, hsz, hall⟩ := RowsAt.pos (RowsAt.below H3.out (bel_trans BW.out hbel)) 21 (fun r y h => by rw [h]; simp) (by decide) (by omega)
      cases hv'
      obtain ⟨hrow, hacc⟩ := hall k hlt
      rw [hacc] at hrow
      clear hall hacc
      have hs1 : o + k * 21 + 21 ≤ (rowOf wr b).size := by omega
      have hki : (k : Int) < (ts.length : Int) := by omega
      have hki0 : (0 : Int) ≤ (k : Int) := by omega
      by_cases he : k = i
      · have hd : ((k : Int) != (i : Int)) = false := by simp [he]
        have hys2 := hys.out
        have e2 := erase_take_eq ts i hi
        have Hys2 := Lib.hid (show ys = (ts.take (k + 1)).eraseIdx i by rw [hys2, he, e2])
        clear hys hys2 e2 hrow hbel hout
        go_wp2
        go_roundw
        case rel => exact ⟨k + 1, q, c, ys, by omega, by go_num, by omega, Hys2, rfl, HOUT.out⟩
        case measure => simp [intOf]; omega
      · have hd : ((k : Int) != (i : Int)) = true := by simp; omega
        have Hys2 := Lib.hid (show ys ++ [ts[k]] = (ts.take (k + 1)).eraseIdx i by rw [erase_take_ne ts i k hlt he, hys.out])
        generalize hx : ts[k] = x at *
        have hB : Below wr.heap.size wr (wr.alloc (.cells (tryCells x) 87)) := bel_alloc (Below.refl _ _) _
        have HO3 := Lib.hid (HOUT.out.below HST.out hB)
        clear hx hB hys hbel hout he
        go_wp2_with (at_builtin; refine wpList_append_out rfl (.tmp 17) (.tmp 23) 49 rfl elt87 Try.underlying49 HST.out HO3.out (by simp [Act.eval]) wr.heap.size (tryCells x) x (by simp [Act.eval]) (rowOf_alloc_at _ _ _ _ rfl) (tryCells_size x) (tryCells_one x) rfl (by omega) (by unfold maxLen; omega) ?_; intro g5 c5 w5 ho5 hk5 hg5; have HO6 := Lib.hid ho5; clear ho5 hk5 hg5)
        go_roundw
        case rel => exact ⟨k + 1, some ⟨g5, 0, none⟩, c5, ys ++ [x], by omega, by go_num, by simp; omega, Hys2, by simp, HO6.out⟩
        case measure => simp [intOf]; omega
    · obtain rfl : k = ts.length := by omega
      have hki : ¬ ((ts.length : Int) < (ts.length : Int)) := by omega
      have hys2 : ys = R := by rw [← HR.out, hys.out, List.take_length]
      subst hys2
      have fz0 : wr.frozen? ⟨w.heap.size, 1, none⟩ = false := frozen_row _ _ _ g0
      have BR := bel_trans BW.out hbel
      clear hbel hout HR hys
      go_wp2
      refine bodyPost_ret (v := .agg (pcRow (.slice pk kr.length ck) (.slice q ys.length c))) (by simp [results, Try.results72, go_sem, y1, y0]) rfl ⟨_, rfl, ?_, ?_⟩
      · have hz0 := BW.out.size
        have K1 : Kept (fun b => b = w.heap.size ∨ b = w.heap.size + 1) wr (World.setSeg (wr.setCell ⟨w.heap.size, 1, none⟩ (.slice q ys.length c)) (w.heap.size + 1) 0 (pcRow (.slice pk kr.length ck) (.slice q ys.length c)).toList) := ((Kept.refl _ wr).setCell _ _ (.inl (.inl rfl))).setSeg _ _ _ (.inl (.inr rfl))
        have hT : TrysAt (fun b => W0.heap.size ≤ b ∧ b < wr.heap.size) wr (.slice q ys.length c) ys := HOUT.out.rows
        have hA := (H2.out.bound.below BR).kept K1 (fun b hb e => by have := hb.2; omega)
        have hT2 : TrysAt (fun b => W0.heap.size ≤ b ∧ b < wr.heap.size) _ (.slice q ys.length c) ys := RowsAt.same hT (fun b hb hS => K1.block b hb (fun e => by have := hS.1; omega))
        have hsz := K1.size
        exact ⟨_, _, rfl, hA.mono (fun b hb => .inl hb.1), RowsAt.mono hT2 (fun b hb => .inr ⟨by omega, by omega⟩)⟩
      · exact bel_setSeg (bel_setCell BR _ _ (by simp)) _ _ _ (by omega)
end Go.Proofs.Ytadafohgglnneaa
