/- The document's Put: the walk. No condition. -/
import Derived.Test.YtadafohgglnneaaX14
import Derived.Test.YtadafohgglnneaaOut
import Derived.Test.YtadafohgglnneaaS5
namespace Go.Proofs.Ytadafohgglnneaa
open Go.RowKit
/-- A row of accounts answered: its cells in new blocks, its lists in T. -/
def Row13 (T : Nat → Prop) (w : World) (ys : List Acc) (e : Ending) (w' : World) : Prop := ∃ v, e = .returned v ∧ RowOut 30 27 (AccIn T) w w' v ys
theorem AccIn.ext0 {T : Nat → Prop} {w : World} {row : Array Value} {x : Acc} (h : AccIn T w row x) : row.extract 0 27 = row ∧ row.extract 0 20 = x.adr.cells := by
  have hz := h.size
  refine ⟨by rw [← hz]; simp, ?_⟩
  obtain ⟨c, s, rfl, -⟩ := h; simp
theorem RowOut.weaken {α : Type} {e : TypeId} {size : Nat} {E : World → Array Value → α → Prop} {w0 w1 w : World} {v : Value} {ys : List α} (h : RowOut e size E w1 w v ys) (hb : Below w0.heap.size w0 w1) : RowOut e size E w0 w v ys := by
  obtain ⟨⟨rs, ⟨p1, p2⟩, h2⟩, h3⟩ := h
  have := hb.size
  exact ⟨⟨rs, ⟨p1, p2.imp id fun ⟨g, cap, cur, q1, q2, q3⟩ => ⟨g, cap, cur, q1, by omega, q3⟩⟩, h2⟩, bel_trans hb h3⟩
set_option maxRecDepth 100000 in
set_option maxHeartbeats 4000000 in
theorem ref13_Put {T : Nat → Prop} (w : World) (v : Value) (xs : List Acc) (row : Array Value) (a : Acc) (hx : AccsAt T w v xs) (ha : AccIn T w row a) (hT : ∀ b, T b → b < w.heap.size) (hn : xs.length ≤ 100000) :
    Calls Try.prog 73 #[v, .agg row] w (Row13 T w (putL a false xs)) := by
  obtain ⟨p, n, rfl⟩ := hx.form
  have hxl := hx.le
  unfold maxLen at hxl
  have hX := Lib.hid hx
  have hrz := ha.size
  have hr1 := ha.one
  obtain ⟨hw27, had⟩ := ha.ext0
  generalize hL : putL a false xs = L
  have HL := Lib.hid hL; clear hL
  have B0 : Below w.heap.size w (w.alloc (.cells row 30)) := bel_alloc (Below.refl _ _) _
  have ST : Stab (w.alloc (.cells row 30)) (AccIn T) := Stab.acc fun b hb => by have := hT b hb; simp; omega
  have HA0 := Lib.hid (ha.below B0)
  have HST := Lib.hid ST
  have HB0 := Lib.hid B0
  clear hx ha ST B0
  go_enter Try.func73, Try.ntmps73
  go_wp2
  generalize hW0 : w.alloc (.cells row 30) = W0 at *
  have r0 : rowOf W0 w.heap.size = row := by rw [← hW0]; simp [go_sem]
  have i0 : isRow W0 w.heap.size = true := by rw [← hW0]; simp [go_sem]
  have z0 : W0.heap.size = w.heap.size + 1 := by rw [← hW0]; simp
  have HX0 := Lib.hid (hX.out.below HB0.out)
  clear hW0
  go_loopw [5, 6, 11] (fun vo vd vi wr => ∃ (k : Nat) (d : Bool) (ys : List Acc) (q : Option Addr) (c : Nat), k ≤ xs.length ∧ vi = .int .i64 k ∧ vd = .bool d ∧ vo = .slice q ys.length c ∧ ys.length ≤ 2 * k ∧ Hid (ys ++ putL a d (xs.drop k) = L) ∧ RowOut 30 27 (AccIn T) W0 wr vo ys) (fun _ _ vi _ => xs.length - (intOf vi).toNat)
  case atStart => exact ⟨0, false, [], _, _, Nat.zero_le _, rfl, rfl, rfl, by simp, Lib.hid (by simpa using HL.out), by rw [← z0]; exact RowOut.made' (Below.refl _ _) (Nat.le_refl _)⟩
  case round =>
    obtain ⟨k, d, ys, q, c, hk, rfl, rfl, rfl, hyl, hLk, hout⟩ := hrel
    have hbel := hout.bel
    obtain ⟨y0, j0, l0⟩ := carryRow hbel r0 i0
    have HOUT := Lib.hid hout
    have Hbel := Lib.hid hbel
    by_cases hlt : k < xs.length
    · obtain ⟨b, o, cc, rs0, hv', q1, q2, -, hb0, hsz, hall⟩ := HX0.out.pos (by omega)
      cases hv'
      obtain ⟨hrow, hacc⟩ := hall k hlt
      rw [← bel_row hbel b hb0] at hrow hsz
      have hbb : b < wr.heap.size := by have := hbel.size; omega
      have hs1 : o + k * 27 + 27 ≤ (rowOf wr b).size := by omega
      have hs2 : o + k * 27 + 20 ≤ (rowOf wr b).size := by omega
      have hki : (k : Int) < (xs.length : Int) := by omega
      have hki0 : (0 : Int) ≤ (k : Int) := by omega
      have hdrop : xs.drop k = accAt xs k :: xs.drop (k + 1) := by
        rw [List.drop_eq_getElem_cons hlt]; simp [accAt, hlt]
      have hxz := hacc.size
      have hx1 := hacc.one
      generalize hrr : rowAt rs0 k = rowk at *
      obtain ⟨hxw27, hxad⟩ := hacc.ext0
      generalize hxx : accAt xs k = x at *
      have hp20 : (rowOf wr b).extract (o + k * 27) (o + k * 27 + 20) = x.adr.cells := by
        rw [← hxad, ← hrow, Array.extract_extract]; congr 1; omega
      have hLk2 := hLk.out
      rw [hdrop] at hLk2
      have HLk := Lib.hid hLk2
      have HACC := Lib.hid hacc
      clear hall hLk hLk2 hout hacc hdrop hbel
      go_upto_region 6 with (fail)
      go_cut [5, 6, 11, 25] from 11 to 49 (fun vo vd vi s wc => vo = .slice q ys.length c ∧ vd = .bool d ∧ vi = .int .i64 k ∧ s = .bool (!d && a.adr.lt x.adr) ∧ Below wr.heap.size wr wc)
      case first =>
        cases d
        · go_wp2
          refine wp_region_quiet_below (by kernel_rfl) (by kernel_rfl) ?_
          repeat (go_big_quiet_step ((go_at_call 98; exact Calls.regrown_of (ref08_Less _ _ _))))
          refine wpQuiet_nil ?_
          rintro w1 ⟨q, rfl⟩
          go_wp2
          go_meet
          exact ⟨rfl, rfl, rfl, by simp, below_regrown _ _ _⟩
        · go_wp2
          refine wp_region_quiet_below (by kernel_rfl) (by kernel_rfl) ?_
          repeat (go_big_quiet_step ((go_at_call 98; exact Calls.regrown_of (ref08_Less _ _ _))))
          refine wpQuiet_nil ?_
          rintro w1 ⟨q, rfl⟩
          go_wp2
          go_meet
          exact ⟨rfl, rfl, rfl, by simp, below_regrown _ _ _⟩
      case rest =>
        obtain ⟨rfl, rfl, rfl, rfl, hbc⟩ := hcut
        have HO2 := Lib.hid (HOUT.out.below HST.out hbc)
        obtain ⟨y1, j1, l1⟩ := carryRow hbc y0 j0
        clear hbc y0 j0 l0 hrow hsz hs1 hs2 hp20 hbb
        obtain ⟨u, hu⟩ : ∃ u : Bool, u = (!d && a.adr.lt x.adr) := ⟨_, rfl⟩
        have hpl : putL a d (x :: xs.drop (k + 1)) = (if u then [a] else []) ++ (if x.adr = a.adr then a :: putL a true (xs.drop (k + 1)) else x :: putL a (d || u) (xs.drop (k + 1))) := by
          conv => lhs; unfold putL
          rw [← hu]
          cases d <;> cases hlt2 : a.adr.lt x.adr <;> simp [hlt2] at hu <;> simp [hu]
        have hdu : d = true → u = false := fun h => by rw [hu, h]; rfl
        rw [← hu]
        have HLk3 := HLk.out
        rw [hpl] at HLk3
        clear HLk hpl hu
        have HLk := Lib.hid HLk3
        clear HLk3
        go_upto_if 25 with (fail)
        go_cut [5, 6, 11] from 11 to 49 (fun vo vd vi wd => ∃ (ys' : List Acc) (q' : Option Addr) (c' : Nat), vo = .slice q' ys'.length c' ∧ vd = .bool (d || u) ∧ vi = .int .i64 k ∧ ys' = ys ++ (if u then [a] else []) ∧ RowOut 30 27 (AccIn T) W0 wd vo ys')
        case first =>
          cases u with
          | false =>
            go_wp2
            go_meet
            exact ⟨ys, q, c, rfl, by simp, rfl, by simp, HO2.out⟩
          | true =>
            have hB : Below wc.heap.size wc (wc.alloc (.cells row 30)) := bel_alloc (Below.refl _ _) _
            have HO3 := Lib.hid (HO2.out.below HST.out hB)
            have HA3 := Lib.hid ((HST.out _ _ _ _ (Below.refl _ _) HO3.out.bel HA0.out))
            clear hB
            go_wp2_with (at_builtin; refine wpList_append_out rfl (.tmp 26) (.tmp 28) 32 rfl elt30 Try.underlying32 HST.out HO3.out (by simp [Act.eval]) wc.heap.size row a (by simp [Act.eval]) (rowOf_alloc_at _ _ _ _ rfl) hrz hr1 HA3.out (by omega) (by unfold maxLen; omega) ?_; intro g5 c5 w5 ho5 hk5 hg5; have HO5 := Lib.hid ho5; clear ho5 hk5 hg5)
            go_meet
            exact ⟨ys ++ [a], some ⟨g5, 0, none⟩, c5, by simp, by simp, rfl, by simp, HO5.out⟩
        case rest =>
          obtain ⟨ys', q', c', rfl, rfl, rfl, hys', ho⟩ := hcut
          have hyl2 : ys'.length ≤ 2 * k + 1 := by rw [hys', List.length_append]; split <;> simp <;> omega
          have HLk2 : ys' ++ (if x.adr = a.adr then a :: putL a true (xs.drop (k + 1)) else x :: putL a (d || u) (xs.drop (k + 1))) = L := by rw [hys', List.append_assoc]; exact HLk.out
          have HLk3 := Lib.hid HLk2
          have hbd := ho.bel
          obtain ⟨y2, j2, l2⟩ := carryRow hbd r0 i0
          obtain ⟨b2, o2, cc2, rs2, hv2, -, -, -, hbb, hsz, hall⟩ := (HX0.out.below hbd).pos (by omega)
          cases hv2
          obtain ⟨hrow, hacc⟩ := hall k hlt
          rw [hxx] at hacc
          clear hall hrr HACC hxw27 hxad hxz hx1 y1 j1 l1 HLk HLk2
          have hs1 : o + k * 27 + 27 ≤ (rowOf wc b).size := by omega
          have hs2 : o + k * 27 + 20 ≤ (rowOf wc b).size := by omega
          have hxz := hacc.size
          have hx1 := hacc.one
          generalize hrr : rowAt rs2 k = rowk2 at *
          obtain ⟨hxw27, hxad⟩ := hacc.ext0
          have hp20 : (rowOf wc b).extract (o + k * 27) (o + k * 27 + 20) = x.adr.cells := by
            rw [← hxad, ← hrow, Array.extract_extract]; congr 1; omega
          have HO4 := Lib.hid ho
          have HACC := Lib.hid hacc
          have Hys := Lib.hid hys'
          clear ho hacc hrr hbd hys' HOUT Hbel
          have fin : ∀ (z : Acc) (d' : Bool) (g : Nat) (c9 : Nat) (w9 : World), RowOut 30 27 (AccIn T) W0 w9 (.slice (some ⟨g, 0, none⟩) (ys'.length + 1) c9) (ys' ++ [z]) → ys' ++ (z :: putL a d' (xs.drop (k + 1))) = L →
              ∃ (k' : Nat) (d : Bool) (ys : List Acc) (q : Option Addr) (c : Nat), k' ≤ xs.length ∧ Value.int .i64 (↑k + 1) = .int .i64 k' ∧ Value.bool d' = .bool d ∧ Value.slice (some ⟨g, 0, none⟩) (ys'.length + 1) c9 = .slice q ys.length c ∧ ys.length ≤ 2 * k' ∧ Hid (ys ++ putL a d (xs.drop k') = L) ∧ RowOut 30 27 (AccIn T) W0 w9 (.slice (some ⟨g, 0, none⟩) (ys'.length + 1) c9) ys := fun z d' g c9 w9 h1 h2 =>
            ⟨k + 1, d', ys' ++ [z], _, c9, by omega, by go_num, rfl, by simp; rfl, by simp; omega, Lib.hid (by simpa using h2), h1⟩
          have Hfin := Lib.hid fin
          clear fin
          by_cases he : x.adr = a.adr
          · have hd : decide (x.adr = a.adr) = true := by simp [he]
            rw [if_pos he] at HLk3
            go_wp2
            refine wp_region_quiet_below (by kernel_rfl) (by kernel_rfl) ?_
            repeat (go_big_quiet_step (fail))
            refine wpQuiet_nil ?_
            rintro w1 ⟨q, rfl⟩
            have bw := below_regrown wc q.d q.os
            generalize Sort.grow (redrawn wc q.d) q.os = W1 at *
            obtain ⟨y3, j3, l3⟩ := carryRow bw y2 j2
            have B1 : Below wc.heap.size wc (W1.alloc (.cells row 30)) := bel_alloc bw _
            have HO5 := Lib.hid (HO4.out.below HST.out B1)
            have HA3 := Lib.hid ((HST.out _ _ _ _ (Below.refl _ _) HO5.out.bel HA0.out))
            clear bw B1 hrow hs1 hs2 hp20 y2 j2 l2
            go_wp2_with (at_builtin; refine wpList_append_out rfl (.tmp 38) (.tmp 40) 32 rfl elt30 Try.underlying32 HST.out HO5.out (by simp [Act.eval]) W1.heap.size row a (by simp [Act.eval]) (rowOf_alloc_at _ _ _ _ rfl) hrz hr1 HA3.out (by omega) (by unfold maxLen; omega) ?_; intro g5 c5 w5 ho5 hk5 hg5; have HO6 := Lib.hid ho5; clear ho5 hk5 hg5)
            go_roundw
            case rel => exact Hfin.out a true g5 c5 w5 HO6.out HLk3.out
            case measure => simp [intOf]; omega
          · have hd : decide (x.adr = a.adr) = false := by simp [he]
            rw [if_neg he] at HLk3
            go_wp2
            refine wp_region_quiet_below (by kernel_rfl) (by kernel_rfl) ?_
            repeat (go_big_quiet_step (fail))
            refine wpQuiet_nil ?_
            rintro w1 ⟨q, rfl⟩
            have bw := below_regrown wc q.d q.os
            generalize Sort.grow (redrawn wc q.d) q.os = W1 at *
            obtain ⟨y3, j3, l3⟩ := carryRow bw y2 j2
            have hbb1 : b < W1.heap.size := by have := bw.size; omega
            rw [← bel_row bw b hbb] at hrow hs1
            have B1 : Below wc.heap.size wc (W1.alloc (.cells rowk2 30)) := bel_alloc bw _
            have HO5 := Lib.hid (HO4.out.below HST.out B1)
            have HA3 := Lib.hid (HACC.out.below B1)
            clear bw B1 hs2 hp20 y2 j2 l2
            go_wp2_with (at_builtin; refine wpList_append_out rfl (.tmp 42) (.tmp 47) 32 rfl elt30 Try.underlying32 HST.out HO5.out (by simp [Act.eval]) W1.heap.size rowk2 x (by simp [Act.eval]) (rowOf_alloc_at _ _ _ _ rfl) hxz hx1 HA3.out (by omega) (by unfold maxLen; omega) ?_; intro g5 c5 w5 ho5 hk5 hg5; have HO6 := Lib.hid ho5; clear ho5 hk5 hg5)
            go_roundw
            case rel => exact Hfin.out x (d || u) g5 c5 w5 HO6.out HLk3.out
            case measure => simp [intOf]; omega
    · obtain rfl : k = xs.length := by omega
      rw [List.drop_length] at hLk
      have hki : ¬ ((xs.length : Int) < (xs.length : Int)) := by omega
      clear HX0 hX
      cases d with
      | true =>
        have hLk2 : ys = L := by simpa [putL] using hLk.out
        subst hLk2
        go_wp2
        go_ret
        exact ⟨_, rfl, HOUT.out.weaken HB0.out⟩
      | false =>
        have hLk2 : ys ++ [a] = L := by simpa [putL] using hLk.out
        subst hLk2
        have hB : Below wr.heap.size wr (wr.alloc (.cells row 30)) := bel_alloc (Below.refl _ _) _
        have HO3 := Lib.hid (HOUT.out.below HST.out hB)
        have HA3 := Lib.hid ((HST.out _ _ _ _ (Below.refl _ _) HO3.out.bel HA0.out))
        clear hB hLk hbel hout
        go_wp2_with (at_builtin; refine wpList_append_out rfl (.tmp 52) (.tmp 54) 32 rfl elt30 Try.underlying32 HST.out HO3.out (by simp [Act.eval]) wr.heap.size row a (by simp [Act.eval]) (rowOf_alloc_at _ _ _ _ rfl) hrz hr1 HA3.out (by omega) (by unfold maxLen; omega) ?_; intro g5 c5 w5 ho5 hk5 hg5; have HO6 := Lib.hid ho5; clear ho5 hk5 hg5)
        go_ret
        exact ⟨_, rfl, HO6.out.weaken HB0.out⟩
end Go.Proofs.Ytadafohgglnneaa
