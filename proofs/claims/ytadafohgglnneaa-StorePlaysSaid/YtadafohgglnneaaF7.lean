/- The cache's Account: what is known, its lists one's own. No condition. -/
import Derived.Test.YtadafohgglnneaaF6
namespace Go.Proofs.Ytadafohgglnneaa
open Go.RowKit
/-- What Account answers. -/
def Known15 (w : World) (a : Adr) (o : Option Acc) (e : Ending) (w' : World) : Prop :=
  ∃ r, e = .returned (.tuple #[.agg r, .bool o.isSome]) ∧ AccIn (Fresh w w') w' r (o.getD (emptyAcc a)) ∧ Below w.heap.size w w'
set_option maxRecDepth 100000 in
set_option maxHeartbeats 1000000 in
theorem fork_Account {S : Nat → Prop} (w : World) (c k t : Nat) (xs : List Acc) (ts : List (Adr × Nat)) (a : Adr) (h : CacheAt S w c k t xs ts) (hsm : ∀ x ∈ xs, smallAcc x) :
    Calls Try.prog 26 #[.pointer (some ⟨c, 0, none⟩), .agg a.cells] w (Known15 w a (findK a xs)) := by
  obtain ⟨kn, kc, e1, e2, e3⟩ := h.objK
  have c0 : w.cell? ⟨c, 0, none⟩ = some (.map (some k)) := by rw [cell_row, h.row]; rfl
  have lc := isRow_lt h.isRow
  have lk := objAt_lt e1
  have lk1 : k < w.heap.size + 1 := by omega
  have lc1 : c < w.heap.size + 1 := by omega
  have lk2 : k < w.heap.size + 1 + 1 := by omega
  have lc2 : c < w.heap.size + 1 + 1 := by omega
  rcases e3.find a with ⟨g1, g2⟩ | ⟨r, x, g1, g2, g3, g4⟩
  · have hl : ∀ W, objAt W k = some (mapObj Adr.cells kn kc) → (Instr.lookup 119 (.map (some k)) (.agg a.cells) true).run Try.prog W = .ok (.tuple #[zeroAccV, .bool false]) W := fun W hW => by
      rw [look119 W k kn kc hW a true, g1]; rfl
    unfold zeroAccV at hl
    rw [g2]
    clear h e2 e3 g1 g2
    go_enter Try.func26, Try.ntmps26
    go_wp2
    go_region
    go_wp2
    refine bodyPost_ret (v := .tuple #[.agg (accRow a 0 zeroWrd (.slice none 0 0) (.slice none 0 0)), .bool false]) (by simp [results, Try.results26, go_sem]) rfl ⟨_, rfl, AccIn.empty _ _ _, ?_⟩
    repeat (first | exact Below.refl _ _ | apply bel_drewN | apply bel_drew | apply bel_alloc | (refine bel_setSeg ?_ _ _ _ (by omega)))
  · have hl : ∀ W, objAt W k = some (mapObj Adr.cells kn kc) → (Instr.lookup 119 (.map (some k)) (.agg a.cells) true).run Try.prog W = .ok (.tuple #[.agg r, .bool true]) W := fun W hW => by
      rw [look119 W k kn kc hW a true, g1]; rfl
    have hz := g4.size
    have ho := g4.one
    have hrw : r.extract 0 27 = r := by rw [← hz]; simp
    have hx : smallAcc x := hsm x (findK_mem g2)
    rw [g2]
    clear h e2 e3 g1 g2
    go_enter Try.func26, Try.ntmps26
    go_wp2
    go_region
    go_upto_region 4 with (fail)
    generalize hW : World.drew _ = W
    have B3 : Below w.heap.size w W := by rw [← hW]; exact bel_drew (bel_alloc (bel_alloc (bel_alloc (Below.refl _ _) _) _) _)
    have z3 : W.heap.size = w.heap.size + 3 := by rw [← hW]; show (World.alloc (World.alloc (World.alloc w _) _) _).heap.size = _; simp
    have r2 : rowOf W (w.heap.size + 1 + 1) = r := by rw [← hW]; simp [go_sem]
    have i2 : isRow W (w.heap.size + 1 + 1) = true := by rw [← hW]; simp [go_sem]
    have r1 : rowOf W (w.heap.size + 1) = accRow zeroAdr 0 zeroWrd (.slice none 0 0) (.slice none 0 0) := by rw [← hW]; simp [go_sem]
    have i1 : isRow W (w.heap.size + 1) = true := by rw [← hW]; simp [go_sem]
    have f1 : rowFr W (w.heap.size + 1) = (0, 0) := by rw [← hW]; simp [go_sem]
    have l2 := isRow_lt i2
    clear hW
    go_wp2_with fail
    refine (fork_own _ r x (g4.below B3) hx).mono ?_
    rintro e w4 ⟨r4, rfl, a4, b4⟩
    have s4 := b4.size
    have hz4 := a4.size
    have ho4 := a4.one
    have hrw4 : r4.extract 0 27 = r4 := by rw [← hz4]; simp
    have y1 : rowOf w4 (w.heap.size + 1) = accRow zeroAdr 0 zeroWrd (.slice none 0 0) (.slice none 0 0) := by rw [bel_row b4 _ (by omega), r1]
    have j1 : isRow w4 (w.heap.size + 1) = true := by rw [bel_isRow b4 _ (by omega), i1]
    have h1 : rowFr w4 (w.heap.size + 1) = (0, 0) := by rw [bel_rowFr b4 _ (by omega), f1]
    have B4 := bel_trans B3 b4
    clear b4
    go_wp2
    refine bodyPost_ret (v := .tuple #[.agg r4, .bool true]) (by simp [results, Try.results26, go_sem, hz4, hrw4, y1]) rfl ⟨r4, rfl, ?_, ?_⟩
    · refine (a4.same fun b hb hF => ?_).mono fun b hb => ?_
      · have := hF.1
        rw [setSeg_block_ne _ _ _ _ _ (by omega)]
      · obtain ⟨p1, p2⟩ := hb
        exact ⟨by omega, by simp; omega⟩
    · exact bel_setSeg B4 _ _ _ (by omega)
end Go.Proofs.Ytadafohgglnneaa
