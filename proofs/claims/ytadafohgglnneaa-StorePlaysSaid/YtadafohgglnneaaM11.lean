/- StorePlays: the row's frame, the theorem. No condition. -/
import Derived.Test.YtadafohgglnneaaL11
namespace Go.Proofs.Ytadafohgglnneaa
open Go.RowKit
theorem storePlays_over (w : World) (v : Value) (os : List Op13) (h : Ops13At w v os) (a : Adr) (key : Wrd) :
    Calls Try.prog 11 #[v, .agg a.cells, .agg key.cells] w fun e w' => e = .returned (.bool true) ∧ Below w.heap.size w w' := by
  have hr := ops13_rows h
  obtain ⟨p, c, rfl⟩ := hr.form
  exact storePlays_walk w p c os hr a key
namespace storePlaysDone
open Go.ChangeShapes Go.WideShapes Go.ChangeAt
set_option maxRecDepth 100000 in
set_option maxHeartbeats 1000000 in
theorem lifted (os : Os) (started : os.Started) (H : Type) (enc : TypeId × Value → H) :
    ReturnsInHanded {} Try.checked os 11 .any (Rows.storePlaysSpec.pre6 enc Try.prog Try.f11 Rows.storePlaysRow.domain false) (Rows.storePlaysSpec.post enc Try.prog Try.f11 false true false false) := by
  refine returnsInHanded_of_change (C := Try.checked) own started (by kernel_rfl) Try.func11
    (ChangeSpec.witness6 (enc := enc) (C := Try.checked) false ⟨#[], #[.slice none 0 0, .agg zeroAdr.cells, .agg zeroWrd.cells], []⟩ 8 (by kernel_rfl) (by kernel_rfl) (by kernel_rfl) (by kernel_rfl)) ?_
  intro W base args ds gs before hval0 hW hcnd _
  have hval : ∀ (j : Nat) t v, Try.f11.params[j]? = some t → args[j]? = some v → Value.okWide Try.prog W .any base t v := hval0
  have hW' := hW
  obtain ⟨p, q, hA0, hV, rfl, hfz, hnd⟩ := hW
  have hA : DataW.TrodAll enc Try.prog W 0 (fun _ => true) true Try.f11.params.toList args.toList ds p := hA0
  rw [Try.params11] at hA hval
  obtain ⟨v0, vs0, d0, ds0, pp0, q0, hargs, rfl, rfl, h0, r0⟩ := trodAll_cons hA
  obtain ⟨v1, vs1, d1, ds1, pp1, q1, rfl, rfl, rfl, h1, r1⟩ := trodAll_cons r0
  obtain ⟨v2, vs2, d2, ds2, pp2, q2, rfl, rfl, rfl, h2, r2⟩ := trodAll_cons r1
  obtain ⟨rfl, rfl, rfl⟩ := trodAll_nil r2
  obtain rfl : args = #[v0, v1, v2] := by cases args; simp_all
  obtain ⟨rfl, rfl⟩ := trodVars_none hV
  obtain ⟨p0, l0, c0, rfl⟩ := okWide_slice Try.underlying70 (hval 0 70 v0 rfl rfl)
  have k0 := h0
  have lt0 : ∀ x ∈ pp0, x.block < W.heap.size := by obtain ⟨m, hm⟩ := k0; exact DataW.trod_lt m _ _ _ hm
  obtain ⟨a0, w0⟩ : ∃ a, Ops13At W (.slice p0 l0 c0) a := by
    obtain ⟨fuel, hf⟩ := h0
    obtain ⟨v, a, e, h⟩ := open_ops13 hf
    have e2 : v = .slice p0 l0 c0 := by simpa [Value.cells] using e.symm
    subst e2; exact ⟨a, h⟩
  obtain ⟨cs1, rfl, _⟩ := okWide_arr Try.underlying23 (hval 1 23 v1 rfl rfl)
  have k1 := h1
  have lt1 : ∀ x ∈ pp1, x.block < W.heap.size := by obtain ⟨m, hm⟩ := k1; exact DataW.trod_lt m _ _ _ hm
  obtain ⟨a1, w1⟩ : ∃ a : Adr, cs1 = a.cells := by
    obtain ⟨fuel, hf⟩ := h1
    exact open_adr hf
  subst w1
  obtain ⟨cs2, rfl, _⟩ := okWide_arr Try.underlying26 (hval 2 26 v2 rfl rfl)
  have k2 := h2
  have lt2 : ∀ x ∈ pp2, x.block < W.heap.size := by obtain ⟨m, hm⟩ := k2; exact DataW.trod_lt m _ _ _ hm
  obtain ⟨a2, w2⟩ : ∃ a : Wrd, cs2 = a.cells := by
    obtain ⟨fuel, hf⟩ := h2
    exact open_wrd hf
  subst w2
  clear hA0 hval0
  refine (storePlays_over W _ a0 w0 a1 a2).mono fun e W' ⟨he, bel⟩ => ?_
  subst he
  exact ⟨_, rfl, _, _, _, [], _, [], hW', trodAll_mk1 (shut_bool Try.underlying4 _), (trodAll_cons_mk (Below.trod laidOut (by kernel_rfl) (of_decide_eq_true (by kernel_rfl)) k0 bel lt0) (trodAll_cons_mk (Below.trod laidOut (by kernel_rfl) (of_decide_eq_true (by kernel_rfl)) k1 bel lt1) (trodAll_cons_mk (Below.trod laidOut (by kernel_rfl) (of_decide_eq_true (by kernel_rfl)) k2 bel lt2) trodAll_mk0))), rfl, bel.frame _, fun h => by cases h⟩
theorem over : Rows.storePlaysRow.holds Try.pinned (OpenSpec.ofChange Rows.storePlaysSpec) :=
  OpenClaim.holds_of_wide 11 Try.f11 rfl rfl rfl rfl rfl rfl rfl ⟨rfl, rfl, rfl, rfl, rfl⟩ rfl rfl rfl rfl rfl (by kernel_rfl) Try.func11 (by kernel_rfl)
    (of_decide_eq_true (by kernel_rfl)) (by unfold Func.isWrapper; first | (rw [if_pos (by decide +kernel)]; kernel_rfl) | (rw [if_neg (by decide +kernel)]; exact ⟨rfl, rfl⟩))
    (fun os started H enc _ => lifted os started H enc)
end storePlaysDone
theorem storePlays_proved : Rows.StorePlaysSaid := storePlaysDone.over
#print axioms storePlays_proved
end Go.Proofs.Ytadafohgglnneaa
