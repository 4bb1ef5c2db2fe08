/- The store's Find: the account of a version, its lists one's own. No condition. -/
import Derived.Test.YtadafohgglnneaaS2
namespace Go.Proofs.Ytadafohgglnneaa
open Go.RowKit
def SmallNds (nds : List Nd) : Prop := ∀ d ∈ nds, ∀ x ∈ d.xs, smallAcc x
theorem findK_mem {a : Adr} {xs : List Acc} {x : Acc} (h : findK a xs = some x) : x ∈ xs := List.mem_of_find?_eq_some h
theorem findF_small {nds : List Nd} (hs : SmallNds nds) (a : Adr) : ∀ (f : Nat) (v : Int) (x : Acc), findF nds a f v = some x → smallAcc x
  | 0, _, _, h => by simp [findF] at h
  | f + 1, v, x, h => by
    simp only [findF] at h
    split at h
    · cases hd : nds[v.toNat]? with
      | none => simp [hd] at h
      | some d =>
        simp only [hd] at h
        cases hk : findK a d.xs with
        | some y =>
          simp only [hk] at h
          cases h
          exact hs d (List.mem_of_getElem? hd) _ (findK_mem hk)
        | none =>
          simp only [hk] at h
          exact findF_small hs a f _ x h
    · cases h
theorem findV_small {nds : List Nd} (hs : SmallNds nds) (v : Int) (a : Adr) : smallAcc ((findV nds v a).getD zeroAcc) := by
  cases h : findV nds v a with
  | none => exact ⟨by simp [zeroAcc, emptyAcc], by simp [zeroAcc, emptyAcc]⟩
  | some x =>
    unfold findV at h
    split at h
    · exact findF_small hs a _ _ x h
    · cases h
/-- What Find answers: the account, its lists new. -/
def GotOwn (w : World) (o : Option Acc) (e : Ending) (w' : World) : Prop :=
  ∃ r, e = .returned (.tuple #[.agg r, .bool o.isSome]) ∧ AccIn (Fresh w w') w' r (o.getD zeroAcc) ∧ Below w.heap.size w w'
set_option maxRecDepth 100000 in
set_option maxHeartbeats 1000000 in
theorem store_Find {S : Nat → Prop} {w : World} {s g c : Nat} {nds : List Nd} (h : StoreAt S w s g c nds) (hs : SmallNds nds) (v : Int) (a : Adr) :
    Calls Try.prog 44 #[.pointer (some ⟨s, 0, none⟩), .int .i64 v, .agg a.cells] w (GotOwn w (findV nds v a)) := by
  have B1 : Below w.heap.size w ((w.alloc (.cells a.cells 23)).alloc (.cells zeroRow 30)) := bel_alloc (bel_alloc (Below.refl _ _) _) _
  unfold zeroRow at B1
  have hsm := findV_small hs v a
  go_enter Try.func44, Try.ntmps44
  go_wp2_with fail
  refine (store_find (h.below B1) v a).mono ?_
  rintro e w1 ⟨r, rfl, hr, hb1⟩
  have hrs := hr.size
  have hr1 := hr.one
  have hrw : r.extract 0 27 = r := by rw [← hrs]; simp
  have z1 : rowOf w1 (w.heap.size + 1) = accRow zeroAdr 0 zeroWrd (.slice none 0 0) (.slice none 0 0) := by rw [bel_row hb1 _ (by simp)]; simp [go_sem]
  have z2 : isRow w1 (w.heap.size + 1) = true := by rw [bel_isRow hb1 _ (by simp)]; simp [go_sem]
  have z3 : rowFr w1 (w.heap.size + 1) = (0, 0) := by rw [bel_rowFr hb1 _ (by simp)]; simp [go_sem]
  have B2 := bel_trans B1 hb1
  have z4 := isRow_lt z2
  clear hb1
  have B3 : Below w1.heap.size w1 (w1.alloc (.cells r 30)) := bel_alloc (Below.refl _ _) _
  generalize findV nds v a = o at *
  go_wp2_with fail
  refine (store_own _ r _ (hr.below B3) hsm).mono ?_
  rintro e w2 ⟨r2, rfl, hr2, hb2⟩
  have hrs2 := hr2.size
  have hr21 := hr2.one
  have hrw2 : r2.extract 0 27 = r2 := by rw [← hrs2]; simp
  have y1 : rowOf w2 (w.heap.size + 1) = accRow zeroAdr 0 zeroWrd (.slice none 0 0) (.slice none 0 0) := by rw [bel_row hb2 _ (by simp; omega)]; simp [go_sem, z1, z4]
  have y2 : isRow w2 (w.heap.size + 1) = true := by rw [bel_isRow hb2 _ (by simp; omega)]; simp [go_sem, z2, z4]
  have y3 : rowFr w2 (w.heap.size + 1) = (0, 0) := by rw [bel_rowFr hb2 _ (by simp; omega)]; simp [go_sem, z3, z4]
  have y4 := isRow_lt y2
  have B4 := bel_trans (bel_trans B2 B3) hb2
  have hz := hb2.size
  clear hb2
  go_wp2
  refine bodyPost_ret (v := .tuple #[.agg r2, .bool o.isSome]) (by simp [results, Try.results44, go_sem, hrs2, hrw2, y1]) rfl ⟨r2, rfl, ?_, ?_⟩
  · refine (hr2.same fun b hb hF => ?_).mono fun b hb => ?_
    · have := hF.1
      simp at this
      rw [setSeg_block_ne _ _ _ _ _ (by omega)]
    · obtain ⟨p1, p2⟩ := hb
      simp at p1
      exact ⟨by omega, by simp; omega⟩
  · exact bel_setSeg B4 _ _ _ (by omega)
end Go.Proofs.Ytadafohgglnneaa
