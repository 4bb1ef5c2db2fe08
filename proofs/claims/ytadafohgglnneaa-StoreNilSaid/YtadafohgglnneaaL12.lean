/- A nil store has nothing: the walk of the law, and the law. No condition. -/
import Derived.Test.YtadafohgglnneaaS6
import Derived.Test.YtadafohgglnneaaX9
import Derived.Test.YtadafohgglnneaaOpen2
namespace Go.Proofs.Ytadafohgglnneaa
open Go.RowKit
/-- The law's two variables, as they lie. -/
structure Vars12 (w wk : World) (par : Int) (v : Value) (a : Adr) : Prop where
  c0 : wk.cell? ⟨w.heap.size, 0, none⟩ = some (.int .i64 par)
  c1 : wk.cell? ⟨w.heap.size, 1, none⟩ = some v
  y1 : rowOf wk (w.heap.size + 1) = a.cells
  j1 : isRow wk (w.heap.size + 1) = true
  bel : Below w.heap.size w wk
  lt : w.heap.size + 2 ≤ wk.heap.size
theorem Vars12.next {w wk wl : World} {par : Int} {v : Value} {a : Adr} (h : Vars12 w wk par v a) (hb : Below wk.heap.size wk wl) : Vars12 w wl par v a := by
  have h1 := h.lt
  have h2 := hb.size
  exact ⟨by rw [hb.cell (by simp only; omega)]; exact h.c0, by rw [hb.cell (by simp only; omega)]; exact h.c1, by rw [bel_row hb _ (by omega)]; exact h.y1, by rw [bel_isRow hb _ (by omega)]; exact h.j1, bel_trans h.bel hb, by omega⟩
set_option maxRecDepth 100000 in
set_option maxHeartbeats 2000000 in
theorem storeNil_walk (w : World) (row : Array Value) (o : Op13) (ho : Op13In w row o) (a : Adr) :
    Calls Try.prog 12 #[.agg row, .agg a.cells] w fun e w' => e = .returned (.bool true) ∧ Below w.heap.size w w' := by
  obtain ⟨v, rfl, hx⟩ := ho
  obtain ⟨par, xs⟩ := o
  obtain ⟨p, n, rfl⟩ := hx.form
  simp only at hx ⊢
  have B2 : Below w.heap.size w ((w.alloc (.cells #[.int .i64 par, .slice p xs.length n] 73)).alloc (.cells a.cells 23)) := bel_alloc (bel_alloc (Below.refl _ _) _) _
  have V0 : Vars12 w ((w.alloc (.cells #[.int .i64 par, .slice p xs.length n] 73)).alloc (.cells a.cells 23)) par (.slice p xs.length n) a := by
    have hw : rowOf ((w.alloc (.cells #[.int .i64 par, .slice p xs.length n] 73)).alloc (.cells a.cells 23)) w.heap.size = #[.int .i64 par, .slice p xs.length n] := by simp [go_sem]
    exact ⟨by rw [cell_row, hw]; rfl, by rw [cell_row, hw]; rfl, by simp [go_sem], by simp [go_sem], B2, by simp⟩
  have hx2 := hx.below B2
  generalize hrow : (#[.int .i64 par, .slice p xs.length n] : Array Value) = row at *
  have W0 := V0
  obtain ⟨c0, c1, y1, j1, -, -⟩ := W0
  have V0 := Lib.hid V0
  have hz2 : ((w.alloc (.cells row 73)).alloc (.cells a.cells 23)).heap.size = w.heap.size + 2 := by simp
  go_enter Try.func12, Try.ntmps12
  go_wp2_with fail
  refine (ref13_Great (S := AnyBlock) _ _ xs hx2).mono ?_
  rintro e w1 ⟨rfl, hb1⟩
  have V1 := Lib.hid (V0.out.next hb1)
  clear V0 c0 c1 y1 j1 hb1 hx2
  rcases hg : greatB xs with _ | _
  · obtain ⟨c0, c1, y1, j1, -, l1⟩ := V1.out
    go_wp2_with fail
    refine (nilS_Commit _ par p xs.length n).mono ?_
    rintro e w2 ⟨rfl, hb2⟩
    have V2 := Lib.hid (V1.out.next hb2)
    clear V1 c0 c1 y1 j1 l1 hb2
    obtain ⟨c0, c1, y1, j1, -, l1⟩ := V2.out
    go_wp2_with fail
    refine (nilS_Find _ par a).mono ?_
    rintro e w3 ⟨r3, rfl, a3, hb3⟩
    have z3 := a3.size
    have o3 := a3.one
    have V3 := Lib.hid ((V2.out.next hb3).next (bel_alloc (Below.refl _ _) (.cells r3 30)))
    clear V2 c0 c1 y1 j1 l1 hb3 a3
    obtain ⟨c0, c1, y1, j1, -, l1⟩ := V3.out
    go_wp2_with fail
    refine (nilS_Parent _ par).mono ?_
    rintro e w4 ⟨rfl, hb4⟩
    have V4 := Lib.hid (V3.out.next hb4)
    clear V3 c0 c1 y1 j1 l1 hb4
    obtain ⟨c0, c1, y1, j1, -, l1⟩ := V4.out
    go_wp2_with fail
    refine (fixed13 _).mono ?_
    rintro e w5 ⟨rfl, hb5⟩
    have V5 := Lib.hid (V4.out.next hb5)
    clear V4 c0 c1 y1 j1 l1 hb5
    obtain ⟨c0, c1, y1, j1, -, l1⟩ := V5.out
    go_wp2_with fail
    refine (nilS_All _ 0).mono ?_
    rintro e w6 ⟨rfl, hb6⟩
    have V6 := Lib.hid (V5.out.next hb6)
    clear V5 c0 c1 y1 j1 l1 hb6
    obtain ⟨c0, c1, y1, j1, -, l1⟩ := V6.out
    go_wp2_with fail
    refine (nilS_Len _).mono ?_
    rintro e w7 ⟨rfl, hb7⟩
    have V7 := Lib.hid (V6.out.next hb7)
    clear V6 c0 c1 y1 j1 l1 hb7
    obtain ⟨c0, c1, y1, j1, -, l1⟩ := V7.out
    go_wp2_with fail
    refine (nilS_Slot _ 0 a zeroWrd).mono ?_
    rintro e w8 ⟨rfl, hb8⟩
    have V8 := Lib.hid (V7.out.next hb8)
    clear V7 c0 c1 y1 j1 l1 hb8
    obtain ⟨c0, c1, y1, j1, -, l1⟩ := V8.out
    go_wp2
    go_ret
    exact ⟨rfl, V8.out.bel⟩
  · go_wp2_with fail
    refine (fixed13 _).mono ?_
    rintro e w2 ⟨rfl, hb2⟩
    go_wp2
    go_ret
    exact ⟨rfl, bel_trans V1.out.bel hb2⟩
namespace storeNilDone
open Go.ChangeShapes Go.WideShapes Go.ChangeAt
set_option maxRecDepth 100000 in
set_option maxHeartbeats 1000000 in
theorem lifted (os : Os) (started : os.Started) (H : Type) (enc : TypeId × Value → H) :
    ReturnsInHanded {} Try.checked os 12 .any (Rows.storeNilSpec.pre6 enc Try.prog Try.f12 Rows.storeNilRow.domain false) (Rows.storeNilSpec.post enc Try.prog Try.f12 false true false false) := by
  refine returnsInHanded_of_change (C := Try.checked) own started (by kernel_rfl) Try.func12
    (ChangeSpec.witness6 (enc := enc) (C := Try.checked) false ⟨#[], #[.agg #[.int .i64 0, .slice none 0 0], .agg zeroAdr.cells], []⟩ 8 (by kernel_rfl) (by kernel_rfl) (by kernel_rfl) (by kernel_rfl)) ?_
  intro W base args ds gs before hval0 hW hcnd _
  have hval : ∀ (j : Nat) t v, Try.f12.params[j]? = some t → args[j]? = some v → Value.okWide Try.prog W .any base t v := hval0
  have hW' := hW
  obtain ⟨p, q, hA0, hV, rfl, hfz, hnd⟩ := hW
  have hA : DataW.TrodAll enc Try.prog W 0 (fun _ => true) true Try.f12.params.toList args.toList ds p := hA0
  rw [Try.params12] at hA hval
  obtain ⟨v0, vs0, d0, ds0, pp0, q0, hargs, rfl, rfl, h0, r0⟩ := trodAll_cons hA
  obtain ⟨v1, vs1, d1, ds1, pp1, q1, rfl, rfl, rfl, h1, r1⟩ := trodAll_cons r0
  obtain ⟨rfl, rfl, rfl⟩ := trodAll_nil r1
  obtain rfl : args = #[v0, v1] := by cases args; simp_all
  obtain ⟨rfl, rfl⟩ := trodVars_none hV
  obtain ⟨cs0, rfl, _⟩ := okWide_struct Try.underlying73 (hval 0 73 v0 rfl rfl)
  have k0 := h0
  have lt0 : ∀ x ∈ pp0, x.block < W.heap.size := by obtain ⟨m, hm⟩ := k0; exact DataW.trod_lt m _ _ _ hm
  obtain ⟨a0, w0⟩ : ∃ a, Op13In W cs0 a := by
    obtain ⟨fuel, hf⟩ := h0
    exact open_op13 hf
  obtain ⟨cs1, rfl, _⟩ := okWide_arr Try.underlying23 (hval 1 23 v1 rfl rfl)
  have k1 := h1
  have lt1 : ∀ x ∈ pp1, x.block < W.heap.size := by obtain ⟨m, hm⟩ := k1; exact DataW.trod_lt m _ _ _ hm
  obtain ⟨a1, w1⟩ : ∃ a : Adr, cs1 = a.cells := by
    obtain ⟨fuel, hf⟩ := h1
    exact open_adr hf
  subst w1
  clear hA0 hval0
  refine (storeNil_walk W cs0 a0 w0 a1).mono fun e W' ⟨he, bel⟩ => ?_
  subst he
  exact ⟨_, rfl, _, _, _, [], _, [], hW', trodAll_mk1 (shut_bool Try.underlying4 _), (trodAll_cons_mk (Below.trod laidOut (by kernel_rfl) (of_decide_eq_true (by kernel_rfl)) k0 bel lt0) (trodAll_cons_mk (Below.trod laidOut (by kernel_rfl) (of_decide_eq_true (by kernel_rfl)) k1 bel lt1) trodAll_mk0)), rfl, bel.frame _, fun h => by cases h⟩
theorem over : Rows.storeNilRow.holds Try.pinned (OpenSpec.ofChange Rows.storeNilSpec) :=
  OpenClaim.holds_of_wide 12 Try.f12 rfl rfl rfl rfl rfl rfl rfl ⟨rfl, rfl, rfl, rfl, rfl⟩ rfl rfl rfl rfl rfl (by kernel_rfl) Try.func12 (by kernel_rfl)
    (of_decide_eq_true (by kernel_rfl)) (by unfold Func.isWrapper; first | (rw [if_pos (by decide +kernel)]; kernel_rfl) | (rw [if_neg (by decide +kernel)]; exact ⟨rfl, rfl⟩))
    (fun os started H enc _ => lifted os started H enc)
end storeNilDone
theorem storeNil_proved : Rows.StoreNilSaid := storeNilDone.over
#print axioms storeNil_proved
end Go.Proofs.Ytadafohgglnneaa
