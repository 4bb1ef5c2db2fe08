/- A nil cache knows nothing and takes nothing: the walk of the law, and the law. No condition. -/
import Derived.Test.YtadafohgglnneaaF4
import Derived.Test.YtadafohgglnneaaF5
import Derived.Test.YtadafohgglnneaaX9
import Derived.Test.YtadafohgglnneaaX10
import Derived.Test.YtadafohgglnneaaOpen
namespace Go.Proofs.Ytadafohgglnneaa
open Go.RowKit
theorem carry {w w' : World} {b : Nat} {r : Array Value} (h : Below w.heap.size w w') (hr : rowOf w b = r) (hi : isRow w b = true) :
    rowOf w' b = r ∧ isRow w' b = true ∧ b < w'.heap.size := by
  have hb := isRow_lt hi
  have h2 : isRow w' b = true := by rw [bel_isRow h _ hb, hi]
  exact ⟨by rw [bel_row h _ hb, hr], h2, isRow_lt h2⟩
set_option maxRecDepth 100000 in
set_option maxHeartbeats 2000000 in
theorem forkNil_walk (w : World) (row : Array Value) (x : Acc) (hx : AccIn AnyBlock w row x) :
    Calls Try.prog 10 #[.agg row] w fun e w' => e = .returned (.bool true) ∧ Below w.heap.size w w' := by
  have hsz := hx.size
  have h1 := hx.one
  have hw27 : row.extract 0 27 = row := by rw [← hsz]; simp
  have had : row.extract 0 20 = x.adr.cells := by obtain ⟨c, s, rfl, -⟩ := hx; simp
  have B1 : Below w.heap.size w (w.alloc (.cells row 30)) := bel_alloc (Below.refl _ _) _
  have B2 : Below w.heap.size w ((w.alloc (.cells row 30)).alloc (.cells row 30)) := bel_alloc B1 _
  go_enter Try.func10, Try.ntmps10
  go_wp2_with fail
  refine (ref13_Great (S := AnyBlock) _ _ [x] (AccsAt.single (hx.below B2) _ trivial (by simp) (by simp [go_sem]))).mono ?_
  rintro e w1 ⟨rfl, hb1⟩
  have Hb1 := Lib.hid hb1
  have r1 : rowOf w1 w.heap.size = row := by rw [bel_row hb1 _ (by simp; omega)]; simp [go_sem]
  have i1 : isRow w1 w.heap.size = true := by rw [bel_isRow hb1 _ (by simp; omega)]; simp [go_sem]
  have B3 := bel_trans B2 hb1
  have hxw := hx.below B3
  clear hb1
  have hs1 : w.heap.size < w1.heap.size := isRow_lt i1
  rcases hg : greatB [x] with _ | _
  · go_wp2_with fail
    refine (nil_Account _ x.adr).mono ?_
    rintro e w2 ⟨rfl, hb2⟩
    have r2 : rowOf w2 w.heap.size = row := by rw [bel_row hb2 _ hs1, r1]
    have i2 : isRow w2 w.heap.size = true := by rw [bel_isRow hb2 _ hs1, i1]
    have B4 := bel_trans B3 hb2
    clear hb2
    have hs2 : w.heap.size < w2.heap.size := isRow_lt i2
    have hzs : (accRow x.adr 0 zeroWrd (.slice none 0 0) (.slice none 0 0)).size = 27 := (AccIn.empty AnyBlock w x.adr).size
    have hz1 : ones (accRow x.adr 0 zeroWrd (.slice none 0 0) (.slice none 0 0)) = true := (AccIn.empty AnyBlock w x.adr).one
    generalize hR : accRow x.adr 0 zeroWrd (.slice none 0 0) (.slice none 0 0) = R at *
    go_wp2_with fail
    refine (fixed15 _).mono ?_
    rintro e w3 ⟨rfl, hb3⟩
    have B5 := bel_trans (bel_alloc B4 _) hb3
    obtain ⟨r3, i3, hs3⟩ := carry hb3 (r := row) (b := w.heap.size) (by simp [go_sem, r2, hs2]) (by simp [go_sem, i2, hs2])
    obtain ⟨q3, j3, ht3⟩ := carry hb3 (r := R) (b := w2.heap.size) (by simp [go_sem]) (by simp [go_sem])
    have hzR : R.extract 0 27 = R := by rw [← hzs]; simp
    clear hb3
    go_wp2_with fail
    subst hR
    refine (ref13_Same (S := AnyBlock) (T := AnyBlock) _ _ _ _ _ (AccIn.empty AnyBlock _ x.adr) (AccIn.empty AnyBlock _ x.adr)).mono ?_
    rintro e w4 ⟨rfl, hb4⟩
    have B6 := bel_trans B5 hb4
    obtain ⟨r4, i4, hs4⟩ := carry hb4 r3 i3
    clear hb4
    simp only [decide_true]
    go_wp2_with fail
    refine (nil_Want _ x.adr).mono ?_
    rintro e w5 ⟨rfl, hb5⟩
    have B7 := bel_trans B6 hb5
    obtain ⟨r5, i5, hs5⟩ := carry hb5 r4 i4
    clear hb5
    go_wp2_with fail
    refine (nil_Fill _ row).mono ?_
    rintro e w6 ⟨rfl, hb6⟩
    have B8 := bel_trans B7 hb6
    obtain ⟨r6, i6, hs6⟩ := carry hb6 r5 i5
    clear hb6
    go_wp2_with fail
    refine (nil_Fail _ x.adr).mono ?_
    rintro e w7 ⟨rfl, hb7⟩
    have B9 := bel_trans B8 hb7
    obtain ⟨r7, i7, hs7⟩ := carry hb7 r6 i6
    clear hb7
    go_wp2_with fail
    refine (nil_Tries _ x.adr).mono ?_
    rintro e w8 ⟨rfl, hb8⟩
    have B10 := bel_trans B9 hb8
    obtain ⟨r8, i8, hs8⟩ := carry hb8 r7 i7
    clear hb8
    go_wp2_with fail
    refine (nil_Known _).mono ?_
    rintro e w9 ⟨rfl, hb9⟩
    have B11 := bel_trans B10 hb9
    obtain ⟨r9, i9, hs9⟩ := carry hb9 r8 i8
    clear hb9
    go_wp2_with fail
    refine (nil_Fetched _).mono ?_
    rintro e w10 ⟨rfl, hb10⟩
    have B12 := bel_trans B11 hb10
    obtain ⟨r10, i10, hs10⟩ := carry hb10 r9 i9
    clear hb10
    go_wp2
    go_ret
    exact ⟨rfl, B12⟩
  · go_wp2_with fail
    refine (fixed15 _).mono ?_
    rintro e w2 ⟨rfl, hb2⟩
    go_wp2
    go_ret
    exact ⟨rfl, bel_trans B3 hb2⟩
namespace forkNilDone
open Go.ChangeShapes Go.WideShapes Go.ChangeAt
set_option maxRecDepth 100000 in
theorem lifted (os : Os) (started : os.Started) (H : Type) (enc : TypeId × Value → H) :
    ReturnsInHanded {} Try.checked os 10 .any (Rows.forkNilSpec.pre6 enc Try.prog Try.f10 Rows.forkNilRow.domain false) (Rows.forkNilSpec.post enc Try.prog Try.f10 false true false false) := by
  refine returnsInHanded_of_change (C := Try.checked) own started (by kernel_rfl) Try.func10
    (ChangeSpec.witness6 (enc := enc) (C := Try.checked) false ⟨#[], #[.agg (accRow zeroAdr 0 zeroWrd (.slice none 0 0) (.slice none 0 0))], []⟩ 8 (by kernel_rfl) (by kernel_rfl) (by kernel_rfl) (by kernel_rfl)) ?_
  intro W base args ds gs before hval0 hW hcnd _
  have hval : ∀ (j : Nat) t v, Try.f10.params[j]? = some t → args[j]? = some v → Value.okWide Try.prog W .any base t v := hval0
  have hW' := hW
  obtain ⟨p, q, hA0, hV, rfl, hfz, hnd⟩ := hW
  have hA : DataW.TrodAll enc Try.prog W 0 (fun _ => true) true Try.f10.params.toList args.toList ds p := hA0
  rw [Try.params10] at hA hval
  obtain ⟨v0, vs0, d0, ds0, p0, q0, hargs, rfl, rfl, h0, r0⟩ := trodAll_cons hA
  obtain ⟨rfl, rfl, rfl⟩ := trodAll_nil r0
  obtain rfl : args = #[v0] := by cases args; simp_all
  obtain ⟨rfl, rfl⟩ := trodVars_none hV
  obtain ⟨cs0, rfl, _⟩ := okWide_struct Try.underlying30 (hval 0 30 v0 rfl rfl)
  have k0 := h0
  have lt0 : ∀ x ∈ p0, x.block < W.heap.size := by obtain ⟨m, hm⟩ := k0; exact DataW.trod_lt m _ _ _ hm
  obtain ⟨a0, w0⟩ : ∃ x, AccIn AnyBlock W cs0 x := by
    obtain ⟨fuel, hf⟩ := h0
    exact open_acc hf
  clear hA0 hval0
  refine (forkNil_walk W cs0 a0 w0).mono fun e W' ⟨he, bel⟩ => ?_
  subst he
  exact ⟨_, rfl, _, _, _, [], _, [], hW', trodAll_mk1 (shut_bool Try.underlying4 _), (trodAll_cons_mk (Below.trod laidOut (by kernel_rfl) (of_decide_eq_true (by kernel_rfl)) k0 bel lt0) trodAll_mk0), rfl, bel.frame _, fun h => by cases h⟩

theorem over : Rows.forkNilRow.holds Try.pinned (OpenSpec.ofChange Rows.forkNilSpec) :=
  OpenClaim.holds_of_wide 10 Try.f10 rfl rfl rfl rfl rfl rfl rfl ⟨rfl, rfl, rfl, rfl, rfl⟩ rfl rfl rfl rfl rfl (by kernel_rfl) Try.func10 (by kernel_rfl)
    (of_decide_eq_true (by kernel_rfl)) (by unfold Func.isWrapper; first | (rw [if_pos (by decide +kernel)]; kernel_rfl) | (rw [if_neg (by decide +kernel)]; exact ⟨rfl, rfl⟩))
    (fun os started H enc _ => lifted os started H enc)
end forkNilDone
theorem forkNil_proved : Rows.ForkNilSaid := forkNilDone.over
#print axioms forkNil_proved
end Go.Proofs.Ytadafohgglnneaa
