/- StoreNever: the row's frame, the theorem. No condition. -/
import Derived.Test.YtadafohgglnneaaL7
namespace Go.Proofs.Ytadafohgglnneaa
open Go.RowKit
theorem storeNever_over (w : World) (v : Value) (os : List Op13) (h : Ops13At w v os) (v2 : Value) (os2 : List Op13) (h2 : Ops13At w v2 os2) :
    Calls Try.prog 7 #[v, v2] w fun e w' => e = .returned (.bool true) ∧ Below w.heap.size w w' := by
  have hr := ops13_rows h
  have hr2 := ops13_rows h2
  obtain ⟨p, c, rfl⟩ := hr.form
  obtain ⟨p2, c2, rfl⟩ := hr2.form
  exact storeNever_walk w p c os hr p2 c2 os2 hr2
namespace storeNeverDone
open Go.ChangeShapes Go.WideShapes Go.ChangeAt
set_option maxRecDepth 100000 in
set_option maxHeartbeats 1000000 in
theorem lifted (os : Os) (started : os.Started) (H : Type) (enc : TypeId × Value → H) :
    ReturnsInHanded {} Try.checked os 7 .any (Rows.storeNeverSpec.pre6 enc Try.prog Try.f7 Rows.storeNeverRow.domain false) (Rows.storeNeverSpec.post enc Try.prog Try.f7 false true false false) := by
  refine returnsInHanded_of_change (C := Try.checked) own started (by kernel_rfl) Try.func7
    (ChangeSpec.witness6 (enc := enc) (C := Try.checked) false ⟨#[], #[.slice none 0 0, .slice none 0 0], []⟩ 8 (by kernel_rfl) (by kernel_rfl) (by kernel_rfl) (by kernel_rfl)) ?_
  intro W base args ds gs before hval0 hW hcnd _
  have hval : ∀ (j : Nat) t v, Try.f7.params[j]? = some t → args[j]? = some v → Value.okWide Try.prog W .any base t v := hval0
  have hW' := hW
  obtain ⟨p, q, hA0, hV, rfl, hfz, hnd⟩ := hW
  have hA : DataW.TrodAll enc Try.prog W 0 (fun _ => true) true Try.f7.params.toList args.toList ds p := hA0
  rw [Try.params7] at hA hval
  obtain ⟨v0, vs0, d0, ds0, pp0, q0, hargs, rfl, rfl, h0, r0⟩ := trodAll_cons hA
  obtain ⟨v1, vs1, d1, ds1, pp1, q1, rfl, rfl, rfl, h1, r1⟩ := trodAll_cons r0
  obtain ⟨rfl, rfl, rfl⟩ := trodAll_nil r1
  obtain rfl : args = #[v0, v1] := by cases args; simp_all
  obtain ⟨rfl, rfl⟩ := trodVars_none hV
  obtain ⟨p0, l0, c0, rfl⟩ := okWide_slice Try.underlying70 (hval 0 70 v0 rfl rfl)
  have k0 := h0
  have lt0 : ∀ x ∈ pp0, x.block < W.heap.size := by obtain ⟨m, hm⟩ := k0; exact DataW.trod_lt m _ _ _ hm
  obtain ⟨a0, w0⟩ : ∃ a, Ops13At W (.slice p0 l0 c0) a := by
    obtain ⟨fuel, hf⟩ := h0
    obtain ⟨v, a, e, h⟩ := open_ops13 hf
    have e2 : v = .slice p0 l0 c0 := by simpa [Value.cells] using e.symm
    subst e2; exact ⟨a, h⟩
  obtain ⟨p1, l1, c1, rfl⟩ := okWide_slice Try.underlying70 (hval 1 70 v1 rfl rfl)
  have k1 := h1
  have lt1 : ∀ x ∈ pp1, x.block < W.heap.size := by obtain ⟨m, hm⟩ := k1; exact DataW.trod_lt m _ _ _ hm
  obtain ⟨a1, w1⟩ : ∃ a, Ops13At W (.slice p1 l1 c1) a := by
    obtain ⟨fuel, hf⟩ := h1
    obtain ⟨v, a, e, h⟩ := open_ops13 hf
    have e2 : v = .slice p1 l1 c1 := by simpa [Value.cells] using e.symm
    subst e2; exact ⟨a, h⟩
  clear hA0 hval0
  refine (storeNever_over W _ a0 w0 _ a1 w1).mono fun e W' ⟨he, bel⟩ => ?_
  subst he
  exact ⟨_, rfl, _, _, _, [], _, [], hW', trodAll_mk1 (shut_bool Try.underlying4 _), (trodAll_cons_mk (Below.trod laidOut (by kernel_rfl) (of_decide_eq_true (by kernel_rfl)) k0 bel lt0) (trodAll_cons_mk (Below.trod laidOut (by kernel_rfl) (of_decide_eq_true (by kernel_rfl)) k1 bel lt1) trodAll_mk0)), rfl, bel.frame _, fun h => by cases h⟩
theorem over : Rows.storeNeverRow.holds Try.pinned (OpenSpec.ofChange Rows.storeNeverSpec) :=
  OpenClaim.holds_of_wide 7 Try.f7 rfl rfl rfl rfl rfl rfl rfl ⟨rfl, rfl, rfl, rfl, rfl⟩ rfl rfl rfl rfl rfl (by kernel_rfl) Try.func7 (by kernel_rfl)
    (of_decide_eq_true (by kernel_rfl)) (by unfold Func.isWrapper; first | (rw [if_pos (by decide +kernel)]; kernel_rfl) | (rw [if_neg (by decide +kernel)]; exact ⟨rfl, rfl⟩))
    (fun os started H enc _ => lifted os started H enc)
end storeNeverDone
theorem storeNever_proved : Rows.StoreNeverSaid := storeNeverDone.over
#print axioms storeNever_proved
end Go.Proofs.Ytadafohgglnneaa
