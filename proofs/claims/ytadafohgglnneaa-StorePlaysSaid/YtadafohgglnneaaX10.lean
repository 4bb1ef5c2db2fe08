import Derived.Test.YtadafohgglnneaaX7
namespace Go.Proofs.Ytadafohgglnneaa
open Go.RowKit
theorem slts_eq {l m : List Slt} (h : l.length = m.length) (e : ∀ i, i < l.length → sltAt l i = sltAt m i) : l = m := by
  apply List.ext_getElem h
  intro i h1 h2
  have := e i h1
  simpa [sltAt, h1, h2] using this
set_option maxRecDepth 100000 in
set_option maxHeartbeats 2000000 in
theorem ref13_Same {S T : Nat → Prop} (w : World) (r1 r2 : Array Value) (x y : Acc) (hx : AccIn S w r1 x) (hy : AccIn T w r2 y) :
    Calls Try.prog 27 #[.agg r1, .agg r2] w fun e w' => e = .returned (.bool (decide (x = y))) ∧ Below w.heap.size w w' := by
  obtain ⟨c1, s1, rfl, hc1, hs1⟩ := hx
  obtain ⟨c2, s2, rfl, hc2, hs2⟩ := hy
  obtain ⟨a1, n1, b1, l1, m1⟩ := x
  obtain ⟨a2, n2, b2, l2, m2⟩ := y
  simp only at hc1 hs1 hc2 hs2 ⊢
  obtain ⟨pc1, kc1, rfl⟩ := hc1.form
  obtain ⟨pc2, kc2, rfl⟩ := hc2.form
  obtain ⟨ps1, ks1, rfl⟩ := hs1.form
  obtain ⟨ps2, ks2, rfl⟩ := hs2.form
  have B2 : ∀ (A B : Obj), Below w.heap.size w ((w.alloc A).alloc B) := fun A B => bel_alloc (bel_alloc (Below.refl _ _) _) _
  have k1 := fun (A B : Obj) => run_conv (P := Try.prog) ((w.alloc A).alloc B) 27 5 9 Try.underlying27 Try.underlying5 Try.underlying9 _ l1 (hc1.below (B2 A B))
  have k2 := fun (A B : Obj) => run_conv (P := Try.prog) ((w.alloc A).alloc B) 27 5 9 Try.underlying27 Try.underlying5 Try.underlying9 _ l2 (hc2.below (B2 A B))
  by_cases e1 : a1 = a2
  rotate_left
  · have d1 : decide (a1 = a2) = false := by simpa using e1
    have hr := Lib.hid (show decide ((⟨a1, n1, b1, l1, m1⟩ : Acc) = ⟨a2, n2, b2, l2, m2⟩) = false by simp [e1])
    clear e1 hs1 hs2 hc1 hc2 B2 k1 k2
    go_enter Try.func27, Try.ntmps27
    go_wp2
    go_ret
    exact ⟨by rw [hr.out]; rfl, by repeat (first | exact Below.refl _ _ | apply bel_alloc)⟩
  have d1 : decide (a1 = a2) = true := by simpa using e1
  by_cases e2 : n1 = n2
  rotate_left
  · have d2 : (n1 != n2) = true := by simpa using e2
    have hr := Lib.hid (show decide ((⟨a1, n1, b1, l1, m1⟩ : Acc) = ⟨a2, n2, b2, l2, m2⟩) = false by simp [e2])
    clear e1 e2 hs1 hs2 hc1 hc2 B2 k1 k2
    go_enter Try.func27, Try.ntmps27
    go_wp2
    go_ret
    exact ⟨by rw [hr.out]; rfl, by repeat (first | exact Below.refl _ _ | apply bel_alloc)⟩
  have d2 : (n1 != n2) = false := by simpa using e2
  by_cases e3 : b1 = b2
  rotate_left
  · have d3 : decide (b1 = b2) = false := by simpa using e3
    have hr := Lib.hid (show decide ((⟨a1, n1, b1, l1, m1⟩ : Acc) = ⟨a2, n2, b2, l2, m2⟩) = false by simp [e3])
    clear e1 e2 e3 hs1 hs2 hc1 hc2 B2 k1 k2
    go_enter Try.func27, Try.ntmps27
    go_wp2
    go_ret
    exact ⟨by rw [hr.out]; rfl, by repeat (first | exact Below.refl _ _ | apply bel_alloc)⟩
  have d3 : decide (b1 = b2) = true := by simpa using e3
  by_cases e4 : l1 = l2
  rotate_left
  · have d4 : (l1 == l2) = false := by simpa using e4
    have hr := Lib.hid (show decide ((⟨a1, n1, b1, l1, m1⟩ : Acc) = ⟨a2, n2, b2, l2, m2⟩) = false by simp [e4])
    clear e1 e2 e3 e4 hs1 hs2 hc1 hc2 B2
    go_enter Try.func27, Try.ntmps27
    go_wp2
    go_ret
    exact ⟨by rw [hr.out]; rfl, by repeat (first | exact Below.refl _ _ | apply bel_alloc)⟩
  have d4 : (l1 == l2) = true := by simpa using e4
  by_cases e5 : m1.length = m2.length
  rotate_left
  · have d5 : ((m1.length : Int) != (m2.length : Int)) = true := by simp; omega
    have hr := Lib.hid (show decide ((⟨a1, n1, b1, l1, m1⟩ : Acc) = ⟨a2, n2, b2, l2, m2⟩) = false by
      simp; intro _ _ _ _ h; exact absurd (by rw [h]) e5)
    clear e1 e2 e3 e4 e5 hs1 hs2 hc1 hc2 B2
    go_enter Try.func27, Try.ntmps27
    go_wp2
    go_ret
    exact ⟨by rw [hr.out]; rfl, by repeat (first | exact Below.refl _ _ | apply bel_alloc)⟩
  have d5 : ((m1.length : Int) != (m2.length : Int)) = false := by simp; omega
  by_cases hl : m1.length = 0
  · have hr := Lib.hid (show decide ((⟨a1, n1, b1, l1, m1⟩ : Acc) = ⟨a2, n2, b2, l2, m2⟩) = true by
      have h1 : m1 = [] := List.eq_nil_of_length_eq_zero hl
      have h2 : m2 = [] := List.eq_nil_of_length_eq_zero (by omega)
      simp [e1, e2, e3, e4, h1, h2])
    obtain rfl : m1 = [] := List.eq_nil_of_length_eq_zero hl
    obtain rfl : m2 = [] := List.eq_nil_of_length_eq_zero (by simpa using e5.symm)
    simp only [List.length_nil] at *
    clear e1 e2 e3 e4 e5 hs1 hs2 hc1 hc2 B2 hl d5
    go_enter Try.func27, Try.ntmps27
    go_wp2
    go_loopw [46] (fun i wr => i = .int .i64 0 ∧ Below w.heap.size w wr) (fun _ _ => 0)
    case atStart => exact ⟨rfl, by repeat (first | exact Below.refl _ _ | apply bel_alloc)⟩
    case round =>
      obtain ⟨rfl, hb⟩ := hrel
      go_wp2
      go_ret
      exact ⟨by rw [hr.out]; rfl, hb⟩
  · obtain ⟨b, o, c, q1, hn1, hn2, -, hb, ho, hrow⟩ := hs1.pos (by rw [sltRow_size]; omega)
    obtain ⟨b', o', c', q2, hn1', hn2', -, hb', ho', hrow'⟩ := hs2.pos (by rw [sltRow_size]; omega)
    cases q1; cases q2
    have hsz := sltRow_size m1
    have hsz' := sltRow_size m2
    have part : ∀ i, i < m1.length → (rowOf w b).extract (o + i * 8) (o + i * 8 + 8) = (sltAt m1 i).cells := fun i hi => seg_part ho hrow (by omega) (sltRow_part m1 i hi)
    have part' : ∀ i, i < m2.length → (rowOf w b').extract (o' + i * 8) (o' + i * 8 + 8) = (sltAt m2 i).cells := fun i hi => seg_part ho' hrow' (by omega) (sltRow_part m2 i hi)
    unfold maxLen at hn2 hn2'
    have ho1 : o + m1.length * 8 ≤ (rowOf w b).size := by omega
    have ho2 : o' + m2.length * 8 ≤ (rowOf w b').size := by omega
    have Hp := Lib.hid part; have Hp' := Lib.hid part'
    have E1 := Lib.hid e1; have E2 := Lib.hid e2; have E3 := Lib.hid e3; have E4 := Lib.hid e4; have E5 := Lib.hid e5
    clear part part' hsz hsz' ho ho' hrow hrow' hs1 hs2 hc1 hc2 B2 e1 e2 e3 e4 e5 hl
    have h5 : (m1.length : Int) ≤ m2.length := by have := E5.out; omega
    have hb1 : b < w.heap.size + 1 := by omega
    have hb1' : b' < w.heap.size + 1 := by omega
    go_enter Try.func27, Try.ntmps27
    go_wp2
    go_loopw [46] (fun i wr => ∃ k n : Nat, k ≤ m1.length ∧ i = .int .i64 k ∧ Hid (∀ j, j < k → sltAt m1 j = sltAt m2 j) ∧ wr = ((w.alloc (Obj.cells (accRow a1 n1 b1 (Value.slice pc1 l1.length kc1) (Value.slice (some ⟨b, o, none⟩) m1.length ks1)) 30)).alloc (Obj.cells (accRow a2 n2 b2 (Value.slice pc2 l2.length kc2) (Value.slice (some ⟨b', o', none⟩) m2.length ks2)) 30)).drewN n) (fun i _ => m1.length - (intOf i).toNat)
    case atStart => exact ⟨0, 0, Nat.zero_le _, rfl, Lib.hid (fun j h => by omega), rfl⟩
    case round =>
      obtain ⟨k, n, hk, rfl, hok, rfl⟩ := hrel
      by_cases hlt : k < m1.length
      · have hlt2 : k < m2.length := by omega
        have g1 := Hp.out k hlt
        have g2 := Hp'.out k hlt2
        have s1 : o + k * 8 + 8 ≤ (rowOf w b).size := by omega
        have s2 : o' + k * 8 + 8 ≤ (rowOf w b').size := by omega
        have hki : (k : Int) < (m1.length : Int) := by omega
        have hki2 : (k : Int) < (m2.length : Int) := by omega
        have hki0 : (0 : Int) ≤ (k : Int) := by omega
        by_cases e6 : sltAt m1 k = sltAt m2 k
        · have d6 : decide (sltAt m1 k = sltAt m2 k) = true := by simpa using e6
          have E6 := Lib.hid e6; clear e6
          go_wp2
          go_quiet (fail)
          go_wp2
          go_roundw
          case rel => exact ⟨k + 1, _, by omega, by go_num, Lib.hid (fun j h => by
            by_cases hj : j = k
            · subst hj; exact E6.out
            · exact hok.out j (by omega)), rfl⟩
          case measure => simp [intOf]; omega
        · have d6 : decide (sltAt m1 k = sltAt m2 k) = false := by simpa using e6
          have hr := Lib.hid (show decide ((⟨a1, n1, b1, l1, m1⟩ : Acc) = ⟨a2, n2, b2, l2, m2⟩) = false by
            simp; intro _ _ _ _ h; exact absurd (by rw [h]) e6)
          clear e6
          go_wp2
          go_quiet (fail)
          go_wp2
          go_ret
          exact ⟨by rw [hr.out]; rfl, by repeat (first | exact Below.refl _ _ | apply bel_drewN | apply bel_alloc)⟩
      · have hr := Lib.hid (show decide ((⟨a1, n1, b1, l1, m1⟩ : Acc) = ⟨a2, n2, b2, l2, m2⟩) = true by
          have := slts_eq E5.out fun i hi => hok.out i (by omega)
          simp [E1.out, E2.out, E3.out, E4.out, this])
        go_wp2
        go_ret
        exact ⟨by rw [hr.out]; rfl, by repeat (first | exact Below.refl _ _ | apply bel_drewN | apply bel_alloc)⟩
end Go.Proofs.Ytadafohgglnneaa
