/- The cache's Fill: what it turns down, and what it takes. No condition. -/
import Derived.Test.YtadafohgglnneaaF3
import Derived.Test.YtadafohgglnneaaS4
namespace Go.Proofs.Ytadafohgglnneaa
open Go.RowKit
/-- What lies somewhere lies in a block that is there. -/
theorem SegIn.bound {S : Nat → Prop} {w : World} {a : Addr} {cs : Array Value} (h : SegIn S w a cs) : SegIn (fun b => S b ∧ b < w.heap.size) w a cs := by
  rcases h with h | ⟨h1, h2, h3, h4⟩
  · exact .inl h
  · by_cases h0 : cs.size = 0
    · exact .inl h0
    · exact .inr ⟨h1, ⟨h2, rowOf_lt (by omega)⟩, h3, h4⟩
theorem SlIn.bound {S : Nat → Prop} {w : World} {v : Value} {n : Nat} {cs : Array Value} (h : SlIn S w v n cs) : SlIn (fun b => S b ∧ b < w.heap.size) w v n cs :=
  h.imp id fun ⟨a, c, h1, h2, h3, h4⟩ => ⟨a, c, h1, h2, h3, h4.bound⟩
theorem AccIn.bound {S : Nat → Prop} {w : World} {row : Array Value} {x : Acc} (h : AccIn S w row x) : AccIn (fun b => S b ∧ b < w.heap.size) w row x :=
  let ⟨c, s, h1, h2, h3⟩ := h
  ⟨c, s, h1, h2.bound, h3.bound⟩
theorem AccsAt.bound {S : Nat → Prop} {w : World} {v : Value} {xs : List Acc} (h : AccsAt S w v xs) : AccsAt (fun b => S b ∧ b < w.heap.size) w v xs :=
  let ⟨rs, h1, h2⟩ := h
  ⟨rs, h1.bound, h2.imp fun _ _ h => h.bound⟩
set_option maxRecDepth 100000 in
set_option maxHeartbeats 1000000 in
theorem fill_bad {T : Nat → Prop} (w : World) (c : Addr) (row : Array Value) (x : Acc) (hx : AccIn T w row x) (hr : rightB x.stor = false) :
    Calls Try.prog 25 #[.pointer (some c), .agg row] w fun e w' => e = .returned (.bool false) ∧ Below w.heap.size w w' := by
  have hsz := hx.size
  have h1 := hx.one
  have hw27 : row.extract 0 27 = row := by rw [← hsz]; simp
  have B1 : Below w.heap.size w (w.alloc (.cells row 30)) := bel_alloc (Below.refl _ _) _
  go_enter Try.func25, Try.ntmps25
  go_wp2_with fail
  refine (store_Right (S := T) _ row x (hx.below B1)).mono ?_
  rintro e w1 ⟨rfl, hb1⟩
  rw [hr]
  go_wp2
  go_ret
  exact ⟨rfl, bel_trans B1 hb1⟩
set_option maxRecDepth 100000 in
set_option maxHeartbeats 1000000 in
theorem fill_not {S T : Nat → Prop} (w : World) (c k t : Nat) (xs : List Acc) (ts : List (Adr × Nat)) (row : Array Value) (x : Acc) (h : CacheAt S w c k t xs ts) (hx : AccIn T w row x) (hr : rightB x.stor = true) (ht : findT x.adr ts = none) :
    Calls Try.prog 25 #[.pointer (some ⟨c, 0, none⟩), .agg row] w fun e w' => e = .returned (.bool false) ∧ Below w.heap.size w w' := by
  obtain ⟨tr, tc, f1, f2, f3⟩ := h.objT
  have hsz := hx.size
  have h1 := hx.one
  have hw27 : row.extract 0 27 = row := by rw [← hsz]; simp
  have had : row.extract 0 20 = x.adr.cells := by obtain ⟨c, s, rfl, -⟩ := hx; simp
  have B1 : Below w.heap.size w (w.alloc (.cells row 30)) := bel_alloc (Below.refl _ _) _
  have lc := isRow_lt h.isRow
  have lt := objAt_lt f1
  have hrow := h.row
  rcases f3.find x.adr with ⟨g3, g4⟩ | ⟨n, g3, g4, g5⟩
  rotate_left
  · rw [g4] at ht; cases ht
  have hl2 : ∀ W, objAt W t = some (mapObj Adr.cells tr tc) → (Instr.lookup 120 (.map (some t)) (.agg x.adr.cells) true).run Try.prog W = .ok (.tuple #[.int .i64 0, .bool false]) W := fun W hW => by
    rw [look120 W t tr tc hW x.adr true, g3]; rfl
  clear h ht f2 f3 g3 g4
  go_enter Try.func25, Try.ntmps25
  go_wp2_with fail
  refine (store_Right (S := T) _ row x (hx.below B1)).mono ?_
  rintro e w1 ⟨rfl, hb1⟩
  rw [hr]
  have c1 : w1.cell? ⟨c, 1, none⟩ = some (.map (some t)) := by rw [cell_row, bel_row (bel_trans B1 hb1) _ lc, hrow]; rfl
  have o1 : objAt w1 t = some (mapObj Adr.cells tr tc) := by rw [bel_objAt (bel_trans B1 hb1) _ lt, f1]
  have r1 : rowOf w1 w.heap.size = row := by rw [bel_row hb1 _ (by simp)]; simp [go_sem]
  have i1 : isRow w1 w.heap.size = true := by rw [bel_isRow hb1 _ (by simp)]; simp [go_sem]
  go_wp2
  go_quiet (fail)
  go_wp2
  go_ret
  exact ⟨rfl, bel_drewN (bel_trans B1 hb1) _⟩
/-- An account taken. -/
def Taken (S : Nat → Prop) (w : World) (c k t : Nat) (xs : List Acc) (ts : List (Adr × Nat)) (e : Ending) (w' : World) : Prop :=
  e = .returned (.bool true) ∧ CacheAt (fun b => S b ∨ Fresh w w' b) w' c k t xs ts ∧ Kept (fun b => b = k ∨ b = t) w w'
theorem findK_setK {x : Acc} {xs : List Acc} {a : Adr} (hne : a ≠ x.adr) : findK a (setK x xs) = findK a xs := by
  unfold setK
  generalize (findK x.adr xs).isSome = bb
  split
  · induction xs with
    | nil => rfl
    | cons y xs ih =>
      simp only [List.map_cons, findK, List.find?_cons] at ih ⊢
      by_cases e : y.adr = x.adr
      · have e1 : ¬ x.adr = a := fun h => hne h.symm
        have e2 : ¬ y.adr = a := fun h => hne (by rw [← h, e])
        simp only [if_pos e, e1, e2, decide_false]; exact ih
      · simp only [if_neg e]
        by_cases e2 : y.adr = a
        · simp [e2]
        · simp only [e2, decide_false]; exact ih
  · have e1 : ¬ x.adr = a := fun h => hne h.symm
    simp [findK, List.find?_append, e1]
/-- The cache behind a fill. -/
theorem fill_end {S : Nat → Prop} {w w4 w6 : World} {c k t : Nat} {xs : List Acc} {ts : List (Adr × Nat)} {x : Acc} {r4 : Array Value} (h : CacheAt S w c k t xs ts)
    {kn : List (Ent Adr)} {kc : Nat} (e1 : objAt w k = some (mapObj Adr.cells kn kc)) (e2 : Tidy kn kc) (e3 : KnIn S w kn xs) {tr : List (Ent Adr)} {tc : Nat} (f2 : Tidy tr tc) (f3 : TrIn tr ts)
    (hk : Kept (fun b => b = t) w w6) (ho : objAt w6 t = some (mapObj Adr.cells (delE x.adr tr) tc)) (b4 : Below w6.heap.size w6 w4) (a4 : AccIn (fun b => w6.heap.size ≤ b ∧ b < w4.heap.size) w4 r4 x) :
    Taken S w c k t (setK x xs) (delT x.adr ts) (.returned (.bool true)) (World.setMap w4 k (mapObj Adr.cells (putE x.adr (.agg r4) kc kn) (putC x.adr kc kn))) := by
  have lc := isRow_lt h.isRow
  have lk := objAt_lt e1
  have lt := objAt_lt ho
  have s6 := hk.size
  have s4 := b4.size
  obtain ⟨n1, n2, n3⟩ := h.ne
  have K4 : Kept (fun b => b = k ∨ b = t) w w4 := (hk.mono fun b _ e => .inr e).bel b4
  have K5 : Kept (fun b => b = k) w4 (World.setMap w4 k (mapObj Adr.cells (putE x.adr (.agg r4) kc kn) (putC x.adr kc kn))) := (Kept.refl _ w4).setMap _ _ (.inl rfl)
  have K : Kept (fun b => b = k ∨ b = t) w (World.setMap w4 k (mapObj Adr.cells (putE x.adr (.agg r4) kc kn) (putC x.adr kc kn))) := K4.trans (K5.mono fun b _ e => .inl e)
  refine ⟨rfl, ⟨?_, ?_, ?_, ⟨_, _, objAt_setMap_same _ _ _ (by omega), e2.put _ _, KnIn.put ?_ ?_⟩, ⟨delE x.adr tr, tc, ?_, f2.del _, f3.del⟩, ⟨n1, n2, n3⟩, ?_, ?_⟩, K⟩
  · rw [K.row _ lc (by omega)]; exact h.row
  · rw [K.isRow _ lc (by omega)]; exact h.isRow
  · rw [K.rowFr _ lc (by omega)]; exact h.fr
  · exact (a4.kept K5 (fun b hb e => by omega)).mono fun b hb => .inr (by unfold Fresh; simp; omega)
  · exact e3.imp fun r y hy => (hy.kept K (fun b hb e => by have := h.apart b hb; omega)).mono fun b hb => .inl hb
  · rw [objAt_setMap_other _ _ _ _ (by omega), bel_objAt b4 _ lt, ho]
  · intro b hb
    rcases hb with hb | hb
    · exact h.apart b hb
    · have := hb.1
      have lt0 : t < w.heap.size := by obtain ⟨_, _, q, _⟩ := h.objT; exact objAt_lt q
      omega
  · intro y hy
    have hm := List.mem_filter.1 hy
    have hne : y.1 ≠ x.adr := by simpa using hm.2
    rw [findK_setK hne]
    exact h.disj y hm.1
set_option maxRecDepth 100000 in
set_option maxHeartbeats 2000000 in
theorem fill_ok {S T : Nat → Prop} (w : World) (c k t : Nat) (xs : List Acc) (ts : List (Adr × Nat)) (row : Array Value) (x : Acc) (n : Nat) (h : CacheAt S w c k t xs ts) (hx : AccIn T w row x) (hT : ∀ b, T b → b ≠ t)
    (hr : rightB x.stor = true) (ht : findT x.adr ts = some n) (hsm : smallAcc x) :
    Calls Try.prog 25 #[.pointer (some ⟨c, 0, none⟩), .agg row] w (Taken S w c k t (setK x xs) (delT x.adr ts)) := by
  have h0 := Lib.hid h
  obtain ⟨kn, kc, e1, e2, e3⟩ := h.objK
  obtain ⟨tr, tc, f1, f2, f3⟩ := h.objT
  have hsz := hx.size
  have h1 := hx.one
  have hw27 : row.extract 0 27 = row := by rw [← hsz]; simp
  have had : row.extract 0 20 = x.adr.cells := by obtain ⟨c, s, rfl, -⟩ := hx; simp
  have B1 : Below w.heap.size w (w.alloc (.cells row 30)) := bel_alloc (Below.refl _ _) _
  have lc := isRow_lt h.isRow
  have lt := objAt_lt f1
  have lk := objAt_lt e1
  have hrow := h.row
  have nkt := h.ne.2.2
  have nct := h.ne.2.1
  rcases f3.find x.adr with ⟨g3, g4⟩ | ⟨m, g3, g4, g5⟩
  · rw [g4] at ht; cases ht
  have hl2 : ∀ W, objAt W t = some (mapObj Adr.cells tr tc) → (Instr.lookup 120 (.map (some t)) (.agg x.adr.cells) true).run Try.prog W = .ok (.tuple #[.int .i64 m, .bool true]) W := fun W hW => by
    rw [look120 W t tr tc hW x.adr true, g3]; rfl
  have hl3 : ∀ W ty at2, objAt W t = some (mapObj Adr.cells tr tc) → (Builtin.delete_ #[120, at2] ty #[.map (some t), .agg x.adr.cells]).run Try.prog W = .ok (.tuple #[]) (World.setMap W t (mapObj Adr.cells (delE x.adr tr) tc)) := fun W ty at2 hW => del120 W t tr tc hW f2.1 x.adr ty at2
  have hu : ∀ W' v, objAt W' k = some (mapObj Adr.cells kn kc) → (Instr.mapUpdate 119 (.map (some k)) (.agg x.adr.cells) v).run Try.prog W' = .ok () (World.setMap W' k (mapObj Adr.cells (putE x.adr v kc kn) (putC x.adr kc kn))) :=
    fun W' v h => upd119 W' _ kn kc h e2.1 x.adr v
  have Hend := Lib.hid (fun w4 w6 r4 => fill_end (w4 := w4) (w6 := w6) (r4 := r4) (x := x) h e1 e2 e3 f2 f3)
  clear h ht e2 e3 f2 f3 g3 g4 g5
  go_enter Try.func25, Try.ntmps25
  go_wp2_with fail
  refine (store_Right (S := T) _ row x (hx.below B1)).mono ?_
  rintro e w1 ⟨rfl, hb1⟩
  rw [hr]
  have B2 := bel_trans B1 hb1
  have c0 : w1.cell? ⟨c, 0, none⟩ = some (.map (some k)) := by rw [cell_row, bel_row B2 _ lc, hrow]; rfl
  have c1 : w1.cell? ⟨c, 1, none⟩ = some (.map (some t)) := by rw [cell_row, bel_row B2 _ lc, hrow]; rfl
  have o1 : objAt w1 t = some (mapObj Adr.cells tr tc) := by rw [bel_objAt B2 _ lt, f1]
  have o0 : objAt w1 k = some (mapObj Adr.cells kn kc) := by rw [bel_objAt B2 _ lk, e1]
  have r1 : rowOf w1 w.heap.size = row := by rw [bel_row hb1 _ (by simp)]; simp [go_sem]
  have i1 : isRow w1 w.heap.size = true := by rw [bel_isRow hb1 _ (by simp)]; simp [go_sem]
  have hx1 := hx.below B2
  have s1 := B2.size
  have nwt : w.heap.size ≠ t := by omega
  have nwt' : ¬ c = t := by omega
  clear B1 hb1 hx hrow
  go_wp2
  go_quiet (fail)
  go_wp2
  go_region
  go_wp2
  generalize hW6 : World.setMap (w1.drewN _) t _ = W6
  have K1 : Kept (fun b => b = t) w1 W6 := by rw [← hW6]; exact ((Kept.refl _ w1).drewN _).setMap _ _ (.inl rfl)
  have o6 : objAt W6 t = some (mapObj Adr.cells (delE x.adr tr) tc) := by rw [← hW6]; exact objAt_setMap_same _ _ _ (objAt_lt o1)
  clear hW6
  have K6 : Kept (fun b => b = t) w W6 := (Kept.of_below B2).trans K1
  have c6 : W6.cell? ⟨c, 0, none⟩ = some (.map (some k)) := by rw [cell_row, K1.row _ (by omega) nwt', ← cell_row, c0]
  have k6 : objAt W6 k = some (mapObj Adr.cells kn kc) := by rw [K1.obj _ (by omega) nkt, o0]
  have r6 : rowOf W6 w.heap.size = row := by rw [K1.row _ (isRow_lt i1) nwt, r1]
  have i6 : isRow W6 w.heap.size = true := by rw [K1.isRow _ (isRow_lt i1) nwt, i1]
  have x6 : AccIn T W6.drew row x := (hx1.kept K1 hT).below (bel_drew (Below.refl _ _))
  have l6 := isRow_lt i6
  have l6c := K6.size
  clear c0 c1 o0 r1 i1 hx1 K1 B2
  go_region_with (first
    | (go_at_call 67; refine (fork_own (S := T) _ row x x6 hsm).mono ?_; rintro e w4 ⟨r4, rfl, a4, b4⟩
       have o4 : objAt w4 k = some (mapObj Adr.cells kn kc) := by rw [bel_objAt b4 _ (objAt_lt k6)]; exact k6
       have c4 : w4.cell? ⟨c, 0, none⟩ = some (.map (some k)) := by rw [b4.cell (show c < W6.drew.heap.size by show c < W6.heap.size; omega)]; exact c6
       have y4 : rowOf w4 w.heap.size = row := by rw [bel_row b4 _ l6]; exact r6
       have j4 : isRow w4 w.heap.size = true := by rw [bel_isRow b4 _ l6]; exact i6))
  all_goals
    have Hlast := Lib.hid (Hend.out _ _ _ K6 o6 (bel_trans (bel_drew (Below.refl W6.heap.size W6)) b4) a4)
    go_wp2
    go_ret
    exact Hlast.out
end Go.Proofs.Ytadafohgglnneaa
