/- Which accounts are right, and which are empty, is the same to the store and to the document: the walk of the law, and the law. No condition. -/
import Derived.Test.YtadafohgglnneaaS5
import Derived.Test.YtadafohgglnneaaX5
import Derived.Test.YtadafohgglnneaaX9
import Derived.Test.YtadafohgglnneaaX11
import Derived.Test.YtadafohgglnneaaOpen
namespace Go.Proofs.Ytadafohgglnneaa
open Go.RowKit
set_option maxRecDepth 100000 in
set_option maxHeartbeats 2000000 in
theorem storeTells_walk (w : World) (row : Array Value) (x : Acc) (hx : AccIn AnyBlock w row x) :
    Calls Try.prog 3 #[.agg row] w fun e w' => e = .returned (.bool true) ∧ Below w.heap.size w w' := by
  have hsz := hx.size
  have h1 := hx.one
  have hw27 : row.extract 0 27 = row := by rw [← hsz]; simp
  have B1 : Below w.heap.size w (w.alloc (.cells row 30)) := bel_alloc (Below.refl _ _) _
  have B2 : Below w.heap.size w ((w.alloc (.cells row 30)).alloc (.cells row 30)) := bel_alloc B1 _
  go_enter Try.func3, Try.ntmps3
  go_wp2_with fail
  refine (ref13_Great (S := AnyBlock) _ _ [x] (AccsAt.single (hx.below B2) _ trivial (by simp) (by simp [go_sem]))).mono ?_
  rintro e w1 ⟨rfl, hb1⟩
  obtain ⟨r1, i1, hs1⟩ := carryRow hb1 (r := row) (b := w.heap.size) (by simp [go_sem]) (by simp [go_sem])
  have B3 := bel_trans B2 hb1
  have hxw := hx.below B3
  clear hb1
  rcases hg : greatB [x] with _ | _
  · have bb : ∀ b : Bool, (b == b) = true := by simp
    have e1 := bb (rightB x.stor)
    have e2 := bb (emptyAt x)
    go_wp2
    refine wp_region_quiet_below (by kernel_rfl) (by kernel_rfl) ?_
    repeat (go_big_quiet_step ((first
      | (go_at_call 15; exact Calls.regrown_of (fixed13 _))
      | (go_at_call 16; exact Calls.regrown_of (store_Right (S := AnyBlock) _ _ x (hxw.below (below_regrown _ _ _))))
      | (go_at_call 17; exact Calls.regrown_of (ref13_Right (S := AnyBlock) _ _ x (hxw.below (below_regrown _ _ _))))
      | (go_at_call 18; exact Calls.regrown_of (store_Empty (S := AnyBlock) _ _ x (hxw.below (below_regrown _ _ _))))
      | (go_at_call 19; exact Calls.regrown_of (ref13_Empty (S := AnyBlock) _ _ x (hxw.below (below_regrown _ _ _)))))))
    refine wpQuiet_nil ?_
    rintro w2 ⟨p, rfl⟩
    go_wp2
    go_ret
    exact ⟨rfl, bel_trans B3 (below_regrown _ _ _)⟩
  · go_wp2_with fail
    refine (fixed13 _).mono ?_
    rintro e w2 ⟨rfl, hb2⟩
    go_wp2
    go_ret
    exact ⟨rfl, bel_trans B3 hb2⟩
namespace storeTellsDone
open Go.ChangeShapes Go.WideShapes Go.ChangeAt
set_option maxRecDepth 100000 in
theorem lifted (os : Os) (started : os.Started) (H : Type) (enc : TypeId × Value → H) :
    ReturnsInHanded {} Try.checked os 3 .any (Rows.storeTellsSpec.pre6 enc Try.prog Try.f3 Rows.storeTellsRow.domain false) (Rows.storeTellsSpec.post enc Try.prog Try.f3 false true false false) := by
  refine returnsInHanded_of_change (C := Try.checked) own started (by kernel_rfl) Try.func3
    (ChangeSpec.witness6 (enc := enc) (C := Try.checked) false ⟨#[], #[.agg (accRow zeroAdr 0 zeroWrd (.slice none 0 0) (.slice none 0 0))], []⟩ 8 (by kernel_rfl) (by kernel_rfl) (by kernel_rfl) (by kernel_rfl)) ?_
  intro W base args ds gs before hval0 hW hcnd _
  have hval : ∀ (j : Nat) t v, Try.f3.params[j]? = some t → args[j]? = some v → Value.okWide Try.prog W .any base t v := hval0
  have hW' := hW
  obtain ⟨p, q, hA0, hV, rfl, hfz, hnd⟩ := hW
  have hA : DataW.TrodAll enc Try.prog W 0 (fun _ => true) true Try.f3.params.toList args.toList ds p := hA0
  rw [Try.params3] at hA hval
  obtain ⟨v0, vs0, d0, ds0, pp0, q0, hargs, rfl, rfl, h0, r0⟩ := trodAll_cons hA
  obtain ⟨rfl, rfl, rfl⟩ := trodAll_nil r0
  obtain rfl : args = #[v0] := by cases args; simp_all
  obtain ⟨rfl, rfl⟩ := trodVars_none hV
  obtain ⟨cs0, rfl, _⟩ := okWide_struct Try.underlying30 (hval 0 30 v0 rfl rfl)
  have k0 := h0
  have lt0 : ∀ x ∈ pp0, x.block < W.heap.size := by obtain ⟨m, hm⟩ := k0; exact DataW.trod_lt m _ _ _ hm
  obtain ⟨a0, w0⟩ : ∃ a, AccIn AnyBlock W cs0 a := by
    obtain ⟨fuel, hf⟩ := h0
    exact open_acc hf
  clear hA0 hval0
  refine (storeTells_walk W cs0 a0 w0).mono fun e W' ⟨he, bel⟩ => ?_
  subst he
  exact ⟨_, rfl, _, _, _, [], _, [], hW', trodAll_mk1 (shut_bool Try.underlying4 _), (trodAll_cons_mk (Below.trod laidOut (by kernel_rfl) (of_decide_eq_true (by kernel_rfl)) k0 bel lt0) trodAll_mk0), rfl, bel.frame _, fun h => by cases h⟩
theorem over : Rows.storeTellsRow.holds Try.pinned (OpenSpec.ofChange Rows.storeTellsSpec) :=
  OpenClaim.holds_of_wide 3 Try.f3 rfl rfl rfl rfl rfl rfl rfl ⟨rfl, rfl, rfl, rfl, rfl⟩ rfl rfl rfl rfl rfl (by kernel_rfl) Try.func3 (by kernel_rfl)
    (of_decide_eq_true (by kernel_rfl)) (by unfold Func.isWrapper; first | (rw [if_pos (by decide +kernel)]; kernel_rfl) | (rw [if_neg (by decide +kernel)]; exact ⟨rfl, rfl⟩))
    (fun os started H enc _ => lifted os started H enc)
end storeTellsDone
theorem storeTells_proved : Rows.StoreTellsSaid := storeTellsDone.over
#print axioms storeTells_proved
end Go.Proofs.Ytadafohgglnneaa
