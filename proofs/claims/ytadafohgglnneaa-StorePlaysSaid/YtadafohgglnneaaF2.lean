import Derived.Test.YtadafohgglnneaaF1
namespace Go.Proofs.Ytadafohgglnneaa
open Go.RowKit
set_option maxRecDepth 100000 in
set_option maxHeartbeats 1000000 in
theorem want_known {S : Nat → Prop} (w : World) (c k t : Nat) (xs : List Acc) (ts : List (Adr × Nat)) (a : Adr) (h : CacheAt S w c k t xs ts) (hk : (findK a xs).isSome = true) :
    Calls Try.prog 23 #[.pointer (some ⟨c, 0, none⟩), .agg a.cells] w fun e w' => e = .returned (.int .u8 1) ∧ Below w.heap.size w w' := by
  obtain ⟨kn, kc, e1, e2, e3⟩ := h.objK
  have c0 : w.cell? ⟨c, 0, none⟩ = some (.map (some k)) := by rw [cell_row, h.row]; rfl
  have lc := isRow_lt h.isRow
  have lk := objAt_lt e1
  have lk1 : k < w.heap.size + 1 := by omega
  have lc1 : c < w.heap.size + 1 := by omega
  rcases e3.find a with ⟨g1, g2⟩ | ⟨r, x, g1, g2, g3, g4⟩
  · rw [g2] at hk; cases hk
  have hl : ∀ W, objAt W k = some (mapObj Adr.cells kn kc) → (Instr.lookup 119 (.map (some k)) (.agg a.cells) true).run Try.prog W = .ok (.tuple #[.agg r, .bool true]) W := fun W hW => by
    rw [look119 W k kn kc hW a true, g1]; rfl
  have hsz := g4.size
  have h1s := g4.one
  clear h hk e2 e3 g1 g2 g3 g4
  go_enter Try.func23, Try.ntmps23
  go_wp2
  go_region
  go_wp2
  go_ret
  exact ⟨rfl, by repeat (first | exact Below.refl _ _ | apply bel_drewN | apply bel_drew | apply bel_alloc)⟩
set_option maxRecDepth 100000 in
set_option maxHeartbeats 1000000 in
theorem want_asked {S : Nat → Prop} (w : World) (c k t : Nat) (xs : List Acc) (ts : List (Adr × Nat)) (a : Adr) (h : CacheAt S w c k t xs ts) (hk : findK a xs = none) (ht : (findT a ts).isSome = true) :
    Calls Try.prog 23 #[.pointer (some ⟨c, 0, none⟩), .agg a.cells] w fun e w' => e = .returned (.int .u8 2) ∧ Below w.heap.size w w' := by
  obtain ⟨kn, kc, e1, e2, e3⟩ := h.objK
  obtain ⟨tr, tc, f1, f2, f3⟩ := h.objT
  have c0 : w.cell? ⟨c, 0, none⟩ = some (.map (some k)) := by rw [cell_row, h.row]; rfl
  have c1 : w.cell? ⟨c, 1, none⟩ = some (.map (some t)) := by rw [cell_row, h.row]; rfl
  have lc := isRow_lt h.isRow
  have lk := objAt_lt e1
  have lk1 : k < w.heap.size + 1 := by omega
  have lc1 : c < w.heap.size + 1 := by omega
  have lt := objAt_lt f1
  have lt1 : t < w.heap.size + 1 := by omega
  rcases e3.find a with ⟨g1, g2⟩ | ⟨r, x, g1, g2, g3, g4⟩
  rotate_left
  · rw [g2] at hk; cases hk
  rcases f3.find a with ⟨g3, g4⟩ | ⟨n, g3, g4, g5⟩
  · rw [g4] at ht; cases ht
  have hl : ∀ W, objAt W k = some (mapObj Adr.cells kn kc) → (Instr.lookup 119 (.map (some k)) (.agg a.cells) true).run Try.prog W = .ok (.tuple #[zeroAccV, .bool false]) W := fun W hW => by
    rw [look119 W k kn kc hW a true, g1]; rfl
  unfold zeroAccV at hl
  have hl2 : ∀ W, objAt W t = some (mapObj Adr.cells tr tc) → (Instr.lookup 120 (.map (some t)) (.agg a.cells) true).run Try.prog W = .ok (.tuple #[.int .i64 n, .bool true]) W := fun W hW => by
    rw [look120 W t tr tc hW a true, g3]; rfl
  clear h hk ht e2 e3 f2 f3 g1 g2 g3 g4
  go_enter Try.func23, Try.ntmps23
  go_wp2
  go_region
  go_wp2
  go_quiet (fail)
  go_wp2
  go_ret
  exact ⟨rfl, by repeat (first | exact Below.refl _ _ | apply bel_drewN | apply bel_drew | apply bel_alloc)⟩
/-- A fetch begun. -/
def Begun (S : Nat → Prop) (w : World) (c k t : Nat) (xs : List Acc) (ts : List (Adr × Nat)) (v : Value) (e : Ending) (w' : World) : Prop := e = .returned v ∧ CacheAt S w' c k t xs ts ∧ Kept (fun b => b = t) w w'
set_option maxRecDepth 100000 in
set_option maxHeartbeats 1000000 in
theorem want_new {S : Nat → Prop} (w : World) (c k t : Nat) (xs : List Acc) (ts : List (Adr × Nat)) (a : Adr) (h : CacheAt S w c k t xs ts) (hk : findK a xs = none) (ht : findT a ts = none) :
    Calls Try.prog 23 #[.pointer (some ⟨c, 0, none⟩), .agg a.cells] w (Begun S w c k t xs (setT a 0 ts) (.int .u8 3)) := by
  have h0 := Lib.hid h
  obtain ⟨kn, kc, e1, e2, e3⟩ := h.objK
  obtain ⟨tr, tc, f1, f2, f3⟩ := h.objT
  have c0 : w.cell? ⟨c, 0, none⟩ = some (.map (some k)) := by rw [cell_row, h.row]; rfl
  have c1 : w.cell? ⟨c, 1, none⟩ = some (.map (some t)) := by rw [cell_row, h.row]; rfl
  have lc := isRow_lt h.isRow
  have lk := objAt_lt e1
  have lk1 : k < w.heap.size + 1 := by omega
  have lc1 : c < w.heap.size + 1 := by omega
  have lt := objAt_lt f1
  have lt1 : t < w.heap.size + 1 := by omega
  rcases e3.find a with ⟨g1, g2⟩ | ⟨r, x, g1, g2, g3, g4⟩
  rotate_left
  · rw [g2] at hk; cases hk
  rcases f3.find a with ⟨g3, g4⟩ | ⟨n, g3, g4, g5⟩
  rotate_left
  · rw [g4] at ht; cases ht
  have hl : ∀ W, objAt W k = some (mapObj Adr.cells kn kc) → (Instr.lookup 119 (.map (some k)) (.agg a.cells) true).run Try.prog W = .ok (.tuple #[zeroAccV, .bool false]) W := fun W hW => by
    rw [look119 W k kn kc hW a true, g1]; rfl
  unfold zeroAccV at hl
  have hl2 : ∀ W, objAt W t = some (mapObj Adr.cells tr tc) → (Instr.lookup 120 (.map (some t)) (.agg a.cells) true).run Try.prog W = .ok (.tuple #[.int .i64 0, .bool false]) W := fun W hW => by
    rw [look120 W t tr tc hW a true, g3]; rfl
  have hl3 : ∀ W, objAt W t = some (mapObj Adr.cells tr tc) → (Instr.mapUpdate 120 (.map (some t)) (.agg a.cells) (.int .i64 0)).run Try.prog W = .ok () (World.setMap W t (mapObj Adr.cells (putE a (.int .i64 0) tc tr) (putC a tc tr))) := fun W hW => upd120 W t tr tc hW f2.1 a _
  have Hk := Lib.hid hk; have Ht := Lib.hid ht
  have E2 := Lib.hid e2; have E3 := Lib.hid e3; have F2 := Lib.hid f2; have F3 := Lib.hid f3
  clear h hk ht e2 e3 f2 f3 g1 g2 g3 g4
  go_enter Try.func23, Try.ntmps23
  go_wp2
  go_region
  go_wp2
  go_quiet (fail)
  go_wp2
  go_region
  go_wp2
  go_ret
  refine (fun K => ⟨rfl, h0.out.tries K ?_ (F2.out.put a _) (F3.out.put (by omega)) (disj_set h0.out.disj Hk.out 0), K⟩) ?_
  · refine Kept.setMap ?_ _ _ (.inl rfl)
    repeat (first | exact Kept.refl _ _ | apply Kept.drewN | apply Kept.drew | apply Kept.alloc)
  · refine objAt_setMap_same _ _ _ ?_
    show t < ((w.alloc _).alloc _).heap.size
    simp only [World.size_alloc]; omega
end Go.Proofs.Ytadafohgglnneaa
