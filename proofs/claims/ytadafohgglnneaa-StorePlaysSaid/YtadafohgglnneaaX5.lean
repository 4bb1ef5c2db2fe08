import Derived.Test.YtadafohgglnneaaX3
namespace Go.Proofs.Ytadafohgglnneaa
open Go.RowKit
set_option maxRecDepth 100000 in
set_option maxHeartbeats 1000000 in
theorem ref13_Right {S : Nat → Prop} (w : World) (row : Array Value) (x : Acc) (hx : AccIn S w row x) :
    Calls Try.prog 17 #[.agg row] w fun e w' => e = .returned (.bool (rightB x.stor)) ∧ Below w.heap.size w w' := by
  obtain ⟨c, s, rfl, -, hs⟩ := hx
  obtain ⟨adr, nonce, bal, code, l⟩ := x
  simp only at hs ⊢
  by_cases hl : l.length = 0
  · have hr : rightB l = true := rightB_true fun i hi => by omega
    have Hr := Lib.hid hr; clear hr
    obtain ⟨p, cc, rfl⟩ : ∃ p cc, s = .slice p 0 cc := by
      rcases hs with ⟨rfl, -, -⟩ | ⟨a, c, rfl, -⟩
      · exact ⟨none, 0, rfl⟩
      · exact ⟨some a, c, by rw [hl]⟩
    clear hs hl
    go_enter Try.func17, Try.ntmps17
    go_wp2
    go_loopw [7] (fun i wr => i = .int .i64 0 ∧ wr = w.alloc (.cells (accRow adr nonce bal c (.slice p 0 cc)) 30)) (fun _ _ => 0)
    case atStart => exact ⟨rfl, rfl⟩
    case round =>
      obtain ⟨rfl, rfl⟩ := hrel
      go_wp2
      go_ret
      refine ⟨by rw [Hr.out]; rfl, ?_⟩
      repeat (first | exact Below.refl _ _ | apply bel_drewN | apply bel_alloc)
  · obtain ⟨b, o, cc, rfl, hn1, hn2, -, hb, ho, hrow⟩ := hs.pos (by rw [sltRow_size]; omega)
    have hsz := sltRow_size l
    have part : ∀ i, i < l.length → (rowOf w b).extract (o + i * 8) (o + i * 8 + 8) = (sltAt l i).cells := fun i hi => seg_part ho hrow (by omega) (sltRow_part l i hi)
    unfold maxLen at hn2
    have Hl := Lib.hid hl; clear hl
    have Hrow := Lib.hid hrow; clear hrow hs
    have Hsz := Lib.hid hsz; clear hsz
    have Ho := Lib.hid ho; clear ho
    have Hpart := Lib.hid part; clear part
    go_enter Try.func17, Try.ntmps17
    go_wp2
    go_loopw [7] (fun i wr => ∃ k : Nat, k ≤ l.length ∧ i = .int .i64 k ∧ Hid (∀ j, j < k → okAt l j = true) ∧ Below (w.heap.size + 1) (w.alloc (.cells (accRow adr nonce bal c (.slice (some ⟨b, o, none⟩) l.length cc)) 30)) wr) (fun i _ => l.length - (intOf i).toNat)
    case atStart => exact ⟨0, Nat.zero_le _, rfl, Lib.hid (fun j h => by omega), Below.refl _ _⟩
    case round =>
      obtain ⟨k, hk, rfl, hok, hbel⟩ := hrel
      have hz := hbel.size
      simp only [World.size_alloc] at hz
      have hz0 : w.heap.size < wr.heap.size := by omega
      have hz1 : w.heap.size < wr.heap.size + 1 := by omega
      have hb0 : b < wr.heap.size := by omega
      have hb1 : b < wr.heap.size + 1 := by omega
      have hr0 : rowOf wr w.heap.size = accRow adr nonce bal c (.slice (some ⟨b, o, none⟩) l.length cc) := by
        rw [bel_row hbel _ (by omega), rowOf_alloc_at _ _ _ _ rfl]
      have hc26 : wr.cell? ⟨w.heap.size, 26, none⟩ = some (.slice (some ⟨b, o, none⟩) l.length cc) := by rw [cell_row, hr0, accRow_stor]
      have hrb : rowOf wr b = rowOf w b := by rw [bel_row hbel _ (by omega), rowOf_alloc_past _ _ _ hb]
      have hpart' : ∀ i, i < l.length → (rowOf wr b).extract (o + i * 8) (o + i * 8 + 8) = (sltAt l i).cells := by rw [hrb]; exact Hpart.out
      have hsz' : o + l.length * 8 ≤ (rowOf wr b).size := by rw [hrb]; have := Ho.out; rw [Hsz.out] at this; exact this
      clear hrb
      have Hpart' := Lib.hid hpart'; clear hpart'
      have Hr0 := Lib.hid hr0; clear hr0
      have hW : Below w.heap.size w wr := ((Below.refl _ _).alloc (Nat.le_refl _) _).trans (hbel.mono (by omega))
      have Hbel := Lib.hid hbel; clear hbel
      by_cases hlt : k < l.length
      · have hp := Hpart'.out k hlt
        have hs1 : o + k * 8 + 8 ≤ (rowOf wr b).size := by omega
        have hval : (rowOf wr b).extract (o + k * 8 + 4) (o + k * 8 + 8) = (sltAt l k).v.cells := by
          have := seg_part (row := rowOf wr b) (cs := (sltAt l k).cells) (o := o + k * 8) (i := 4) (n := 4) (d := (sltAt l k).v.cells) (by simp; omega) (by simpa using hp) (by simp) (by simp)
          simpa using this
        have hkey : (rowOf wr b).extract (o + k * 8) (o + k * 8 + 4) = (sltAt l k).k.cells := by
          have := seg_part (row := rowOf wr b) (cs := (sltAt l k).cells) (o := o + k * 8) (i := 0) (n := 4) (d := (sltAt l k).k.cells) (by simp; omega) (by simpa using hp) (by simp) (by simp)
          simpa using this
        have hs3 : o + k * 8 + 4 ≤ (rowOf wr b).size := by omega
        clear hp
        have hki : (k : Int) < (l.length : Int) := by omega
        have hki0 : (0 : Int) ≤ (k : Int) := by omega
        by_cases hv : (sltAt l k).v = zeroWrd
        · have hvb : decide ((sltAt l k).v = zeroWrd) = true := by simpa using hv
          have hbad := Lib.hid (rightB_false hlt (by simp [okAt, hv]))
          clear hv
          go_wp2
          go_ret
          exact ⟨by rw [hbad.out]; rfl, hW⟩
        · have hvb : decide ((sltAt l k).v = zeroWrd) = false := by simpa using hv
          by_cases hk0 : k = 0
          · subst hk0
            have hgood := Lib.hid (show okAt l 0 = true by simp [okAt, hv])
            clear hv
            simp only [Nat.zero_mul, Nat.add_zero] at hval hkey hs1 hs3
            rw [show ((0 : Nat) : Int) = 0 from rfl] at *
            go_wp2
            refine wp_region_quiet_below (by kernel_rfl) (by kernel_rfl) ?_
            repeat (go_big_quiet_step (fail))
            refine wpQuiet_nil ?_
            rintro w1 ⟨p, rfl⟩
            go_wp2
            go_roundw
            case rel => exact ⟨1, by omega, by go_num, Lib.hid (fun j h => by obtain rfl : j = 0 := (by omega); exact hgood.out), Hbel.out.trans ((below_regrown _ _ _).mono (by omega))⟩
            case measure => simp [intOf]; omega
          · obtain ⟨q, rfl⟩ : ∃ q, k = q + 1 := ⟨k - 1, by omega⟩
            have hq : q < l.length := by omega
            have hpq := Hpart'.out q hq
            have hkeyq : (rowOf wr b).extract (o + q * 8) (o + q * 8 + 4) = (sltAt l q).k.cells := by
              have := seg_part (row := rowOf wr b) (cs := (sltAt l q).cells) (o := o + q * 8) (i := 0) (n := 4) (d := (sltAt l q).k.cells) (by simp; omega) (by simpa using hpq) (by simp) (by simp)
              simpa using this
            have hs2 : o + q * 8 + 4 ≤ (rowOf wr b).size := by omega
            have hcast : ((q + 1 : Nat) : Int) = (q : Int) + 1 := by omega
            rw [hcast] at *
            clear hcast hpq
            have hq1 : (0 : Int) ≤ (q : Int) := by omega
            have hq2 : (q : Int) < (l.length : Int) := by omega
            cases hc : (sltAt l q).k.lt (sltAt l (q + 1)).k
            · have hbad := Lib.hid (rightB_false hlt (show okAt l (q + 1) = false by simp [okAt, hv, hc]))
              clear hv
              go_wp2
              refine wp_region_quiet_below (by kernel_rfl) (by kernel_rfl) ?_
              repeat (go_big_quiet_step ((go_at_call 66; exact Calls.regrown_of (ref13_less _ _ _))))
              refine wpQuiet_nil ?_
              rintro w1 ⟨p, rfl⟩
              go_wp2
              go_ret
              exact ⟨by rw [hbad.out]; rfl, bel_trans hW (below_regrown _ _ _)⟩
            · have hgood := Lib.hid (show okAt l (q + 1) = true by simp [okAt, hv, hc])
              clear hv
              go_wp2
              refine wp_region_quiet_below (by kernel_rfl) (by kernel_rfl) ?_
              repeat (go_big_quiet_step ((go_at_call 66; exact Calls.regrown_of (ref13_less _ _ _))))
              refine wpQuiet_nil ?_
              rintro w1 ⟨p, rfl⟩
              go_wp2
              go_roundw
              case rel => exact ⟨q + 2, by omega, by go_num, Lib.hid (fun j h => by
                by_cases hj : j = q + 1
                · subst hj; exact hgood.out
                · exact hok.out j (by omega)), Hbel.out.trans ((below_regrown _ _ _).mono (by omega))⟩
              case measure => simp [intOf]; omega
      · have hall := Lib.hid (rightB_true fun i hi => hok.out i (by omega))
        go_wp2
        go_ret
        exact ⟨by rw [hall.out]; rfl, hW⟩
end Go.Proofs.Ytadafohgglnneaa
