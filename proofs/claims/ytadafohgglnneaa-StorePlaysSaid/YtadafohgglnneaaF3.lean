import Derived.Test.YtadafohgglnneaaF2
namespace Go.Proofs.Ytadafohgglnneaa
open Go.RowKit
set_option maxRecDepth 100000 in
set_option maxHeartbeats 1000000 in
theorem fail_none {S : Nat → Prop} (w : World) (c k t : Nat) (xs : List Acc) (ts : List (Adr × Nat)) (a : Adr) (h : CacheAt S w c k t xs ts) (ht : findT a ts = none) :
    Calls Try.prog 24 #[.pointer (some ⟨c, 0, none⟩), .agg a.cells] w fun e w' => e = .returned (.int .u8 0) ∧ Below w.heap.size w w' := by
  obtain ⟨tr, tc, f1, f2, f3⟩ := h.objT
  have c1 : w.cell? ⟨c, 1, none⟩ = some (.map (some t)) := by rw [cell_row, h.row]; rfl
  have lc := isRow_lt h.isRow
  have lc1 : c < w.heap.size + 1 := by omega
  have lt := objAt_lt f1
  have lt1 : t < w.heap.size + 1 := by omega
  rcases f3.find a with ⟨g3, g4⟩ | ⟨n, g3, g4, g5⟩
  rotate_left
  · rw [g4] at ht; cases ht
  have hl2 : ∀ W, objAt W t = some (mapObj Adr.cells tr tc) → (Instr.lookup 120 (.map (some t)) (.agg a.cells) true).run Try.prog W = .ok (.tuple #[.int .i64 0, .bool false]) W := fun W hW => by
    rw [look120 W t tr tc hW a true, g3]; rfl
  clear h ht f2 f3 g3 g4
  go_enter Try.func24, Try.ntmps24
  go_wp2
  go_quiet (fail)
  go_wp2
  go_ret
  exact ⟨rfl, by repeat (first | exact Below.refl _ _ | apply bel_drewN | apply bel_drew | apply bel_alloc)⟩
set_option maxRecDepth 100000 in
set_option maxHeartbeats 1000000 in
theorem fail_again {S : Nat → Prop} (w : World) (c k t : Nat) (xs : List Acc) (ts : List (Adr × Nat)) (a : Adr) (n : Nat) (h : CacheAt S w c k t xs ts) (ht : findT a ts = some n) (hn : n < 7) :
    Calls Try.prog 24 #[.pointer (some ⟨c, 0, none⟩), .agg a.cells] w (Begun S w c k t xs (setT a (n + 1) ts) (.int .u8 4)) := by
  have h0 := Lib.hid h
  obtain ⟨tr, tc, f1, f2, f3⟩ := h.objT
  have c1 : w.cell? ⟨c, 1, none⟩ = some (.map (some t)) := by rw [cell_row, h.row]; rfl
  have lc := isRow_lt h.isRow
  have lc1 : c < w.heap.size + 1 := by omega
  have lt := objAt_lt f1
  have lt1 : t < w.heap.size + 1 := by omega
  rcases f3.find a with ⟨g3, g4⟩ | ⟨m, g3, g4, g5⟩
  · rw [g4] at ht; cases ht
  obtain rfl : m = n := by rw [g4] at ht; cases ht; rfl
  have hkn : findK a xs = none := by
    obtain ⟨x, hx, e⟩ : ∃ x ∈ ts, x.1 = a := by
      unfold findT at g4
      cases hf : ts.find? (fun x => decide (x.1 = a)) with
      | none => simp [hf] at g4
      | some x => exact ⟨x, List.mem_of_find?_eq_some hf, by simpa using List.find?_some hf⟩
    rw [← e]; exact h.disj x hx
  have Hkn := Lib.hid hkn; clear hkn
  have hl2 : ∀ W, objAt W t = some (mapObj Adr.cells tr tc) → (Instr.lookup 120 (.map (some t)) (.agg a.cells) true).run Try.prog W = .ok (.tuple #[.int .i64 m, .bool true]) W := fun W hW => by
    rw [look120 W t tr tc hW a true, g3]; rfl
  have hl3 : ∀ W, objAt W t = some (mapObj Adr.cells tr tc) → (Instr.mapUpdate 120 (.map (some t)) (.agg a.cells) (.int .i64 ((m : Int) + 1))).run Try.prog W = .ok () (World.setMap W t (mapObj Adr.cells (putE a (.int .i64 ((m : Int) + 1)) tc tr) (putC a tc tr))) := fun W hW => upd120 W t tr tc hW f2.1 a _
  have hne : ((m : Int) + 1 == 8) = false := by rw [beq_eq_false_iff_ne]; omega
  have hm0 : (0 : Int) ≤ (m : Int) := by omega
  have hm1 : (m : Int) < 7 := by omega
  have F2 := Lib.hid f2; have F3 := Lib.hid f3
  clear h ht f2 f3 g3 g4 g5
  go_enter Try.func24, Try.ntmps24
  go_wp2
  go_quiet (fail)
  go_wp2
  go_region
  go_wp2
  go_ret
  refine (fun K => ⟨rfl, h0.out.tries K ?_ (F2.out.put a _) (F3.out.put (n := m + 1) (by omega)) (disj_set h0.out.disj Hkn.out (m + 1)), K⟩) ?_
  · refine Kept.setMap ?_ _ _ (.inl rfl)
    repeat (first | exact Kept.refl _ _ | apply Kept.drewN | apply Kept.drew | apply Kept.alloc)
  · refine objAt_setMap_same _ _ _ ?_
    show t < (w.alloc _).heap.size
    simp only [World.size_alloc]; omega
set_option maxRecDepth 100000 in
set_option maxHeartbeats 1000000 in
theorem fail_lost {S : Nat → Prop} (w : World) (c k t : Nat) (xs : List Acc) (ts : List (Adr × Nat)) (a : Adr) (h : CacheAt S w c k t xs ts) (ht : findT a ts = some 7) :
    Calls Try.prog 24 #[.pointer (some ⟨c, 0, none⟩), .agg a.cells] w (Begun S w c k t xs (delT a ts) (.int .u8 5)) := by
  have h0 := Lib.hid h
  obtain ⟨tr, tc, f1, f2, f3⟩ := h.objT
  have c1 : w.cell? ⟨c, 1, none⟩ = some (.map (some t)) := by rw [cell_row, h.row]; rfl
  have lc := isRow_lt h.isRow
  have lc1 : c < w.heap.size + 1 := by omega
  have lt := objAt_lt f1
  have lt1 : t < w.heap.size + 1 := by omega
  rcases f3.find a with ⟨g3, g4⟩ | ⟨m, g3, g4, g5⟩
  · rw [g4] at ht; cases ht
  obtain rfl : m = 7 := by rw [g4] at ht; cases ht; rfl
  have hl2 : ∀ W, objAt W t = some (mapObj Adr.cells tr tc) → (Instr.lookup 120 (.map (some t)) (.agg a.cells) true).run Try.prog W = .ok (.tuple #[.int .i64 7, .bool true]) W := fun W hW => by
    rw [look120 W t tr tc hW a true, g3]; rfl
  have hl3 : ∀ W ty at2, objAt W t = some (mapObj Adr.cells tr tc) → (Builtin.delete_ #[120, at2] ty #[.map (some t), .agg a.cells]).run Try.prog W = .ok (.tuple #[]) (World.setMap W t (mapObj Adr.cells (delE a tr) tc)) := fun W ty at2 hW => del120 W t tr tc hW f2.1 a ty at2
  have F2 := Lib.hid f2; have F3 := Lib.hid f3
  clear h ht f2 f3 g3 g4 g5
  go_enter Try.func24, Try.ntmps24
  go_wp2
  go_quiet (fail)
  go_wp2
  go_region
  go_wp2
  go_ret
  refine (fun K => ⟨rfl, h0.out.tries K ?_ (F2.out.del a) F3.out.del (disj_del h0.out.disj a), K⟩) ?_
  · refine Kept.setMap ?_ _ _ (.inl rfl)
    repeat (first | exact Kept.refl _ _ | apply Kept.drewN | apply Kept.drew | apply Kept.alloc)
  · refine objAt_setMap_same _ _ _ ?_
    show t < (w.alloc _).heap.size
    simp only [World.size_alloc]; omega
end Go.Proofs.Ytadafohgglnneaa
