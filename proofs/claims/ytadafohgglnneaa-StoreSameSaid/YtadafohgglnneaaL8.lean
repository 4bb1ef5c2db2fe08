/- StoreSame: the walk of the law. No condition. -/
import Derived.Test.YtadafohgglnneaaS10
import Derived.Test.YtadafohgglnneaaOpen2
namespace Go.Proofs.Ytadafohgglnneaa
open Go.RowKit
theorem hasV_nat {nds : List Nd} {i : Nat} (h : i < nds.length) : hasV nds i = true := by simp [hasV]; omega
/-- The three last versions are the same. -/
theorem same_three {nds : List Nd} {L k1 k2 : Nat} (hL : nds.length = L + 1) (hp : ParOk nds) (hp1 : ParOk (nds ++ [⟨(L : Int), some k1, setAll []⟩])) {zs : List Acc} (hz : ∀ x ∈ zs, findV (nds ++ [⟨(L : Int), some k1, setAll []⟩]) L x.adr = some x) :
    ∀ i : Int, i = L ∨ i = L + 1 ∨ i = L + 2 → ∀ a, findV ((nds ++ [⟨(L : Int), some k1, setAll []⟩]) ++ [⟨(L : Int) + 1, some k2, setAll zs⟩]) i a = findV nds L a := by
  have h1 : hasV nds L = true := hasV_nat (by omega)
  have e1 : ∀ a, findV (nds ++ [⟨(L : Int), some k1, setAll []⟩]) L a = findV nds L a := fun a => findV_append _ hp a _ h1
  have e2 : ∀ a, findV (nds ++ [⟨(L : Int), some k1, setAll []⟩]) ((L : Int) + 1) a = findV nds L a := fun a => by
    have := findV_last (L : Int) (some k1) (setAll []) hp h1 a
    rw [hL] at this
    rw [show (L : Int) + 1 = ((L + 1 : Nat) : Int) by omega, this]; rfl
  have hl1 : (nds ++ [(⟨(L : Int), some k1, setAll []⟩ : Nd)]).length = L + 2 := by simp [hL]
  have hv0 : hasV (nds ++ [⟨(L : Int), some k1, setAll []⟩]) (L : Int) = true := hasV_nat (by omega)
  have hv1 : hasV (nds ++ [⟨(L : Int), some k1, setAll []⟩]) ((L : Int) + 1) = true := by
    rw [show (L : Int) + 1 = ((L + 1 : Nat) : Int) by omega]; exact hasV_nat (by omega)
  rintro i (rfl | rfl | rfl) a
  · rw [findV_append _ hp1 a _ hv0, e1]
  · rw [findV_append _ hp1 a _ hv1, e2]
  · have := findV_last ((L : Int) + 1) (some k2) (setAll zs) hp1 hv1 a
    rw [hl1] at this
    rw [show (L : Int) + 2 = ((L + 2 : Nat) : Int) by omega, this, e2]
    exact set_same (f := fun a => findV nds L a) (fun x hx => by rw [← e1]; exact hz x hx) a
/-- Rows of versions that are the same are the same. -/
theorem all_eq {f g : Adr → Option Acc} (h : ∀ a, f a = g a) {zs ys : List Acc} (h1 : Rising zs) (h2 : Rising ys) (e1 : ∀ x, x ∈ zs ↔ f x.adr = some x ∧ emptyAt x = false) (e2 : ∀ x, x ∈ ys ↔ g x.adr = some x ∧ emptyAt x = false) : zs = ys :=
  rising_accs h1 h2 fun x => by rw [e1, e2, h]
set_option maxRecDepth 100000 in
set_option maxHeartbeats 4000000 in
theorem storeSame_walk (w : World) (p : Option Addr) (c0 : Nat) (os : List Op13) (hR : RowsAt AnyBlock Op13E w (.slice p os.length c0) os) (a : Adr) :
    Calls Try.prog 8 #[.slice p os.length c0, .agg a.cells] w fun e w' => e = .returned (.bool true) ∧ Below w.heap.size w w' := by
  have hle := RowsAt.le hR
  unfold maxLen at hle
  have HR := Lib.hid hR
  clear hR
  have B0 := Lib.hid (show Below w.heap.size w (w.alloc (.cells a.cells 23)) from bel_alloc (Below.refl _ _) _)
  go_enter Try.func8, Try.ntmps8
  go_wp2_with fail
  refine (new_hold (w.alloc (.cells a.cells 23)) _ (Below.refl _ _)).mono ?_
  rintro e w1 ⟨s, g, rfl, hH, b1, -, -⟩
  generalize hW : w.alloc (.cells a.cells 23) = W0 at *
  have r0 : rowOf W0 w.heap.size = a.cells := by rw [← hW]; simp [go_sem]
  have i0 : isRow W0 w.heap.size = true := by rw [← hW]; simp [go_sem]
  have HZ := Lib.hid (show W0.heap.size = w.heap.size + 1 by rw [← hW]; simp)
  clear hW
  have H1 := Lib.hid hH
  clear hH b1
  go_wp2_with fail
  refine (fixed13 _).mono ?_
  rintro e w2 ⟨rfl, b2⟩
  have H2 := Lib.hid (H1.out.below b2)
  clear b2
  go_wp2_with fail
  refine (cut13 _ p c0 os (rowsOp13_below HR.out (bel_trans B0.out H2.out.bel))).mono ?_
  rintro e w3 ⟨n, rfl, hn1, hn2, hbad, b3⟩
  have H3 := Lib.hid (H2.out.below b3)
  have Hbad := Lib.hid hbad
  clear b3 hbad H1 H2
  go_wp2
  go_loopw [27] (fun vi wr => ∃ j : Nat, j ≤ n ∧ vi = .int .i64 j ∧ ∃ g c nds, Hold W0 wr s g c nds ∧ Good nds j) (fun vi _ => n - (intOf vi).toNat)
  case atStart => exact ⟨0, Nat.zero_le _, rfl, g, 1, _, H3.out, .start⟩
  case round =>
    obtain ⟨j, hj, rfl, g, c, nds, hH, hG⟩ := hrel
    clear H3
    have HB := Lib.hid (bel_trans B0.out hH.bel)
    by_cases hlt : j < n
    · have hjo : j < os.length := by omega
      obtain ⟨b, o, cc, rs, hv', q1, q2, -, hbb, hsz, hall⟩ := RowsAt.pos (rowsOp13_below HR.out HB.out) 2 (op13_size _) (by decide) (by omega)
      cases hv'
      obtain ⟨hrow, a', c', hr', hacc⟩ := hall j hjo
      rw [hr'] at hrow
      have hs1 : o + j * 2 + 2 ≤ (rowOf wr b).size := by omega
      have hki : (j : Int) < (n : Int) := by omega
      have hki2 : (j : Int) < (os.length : Int) := by omega
      have hki0 : (0 : Int) ≤ (j : Int) := by omega
      have hgr : greatB os[j].l = false := by have := Hbad.out j hlt; simpa [bad13, hjo] using this
      generalize os[j].l = l at *
      generalize os[j].par = par at *
      clear hall hr'
      have hB1 : Below wr.heap.size wr (wr.alloc (.cells (opArr par a' l.length c') 73)) := bel_alloc (Below.refl _ _) _
      have hH1 := Lib.hid (hH.below hB1)
      have Hat := Lib.hid (hacc.below hB1)
      have hlen : nds.length < 1048576 := by have := hG.len; omega
      have HG := Lib.hid hG
      clear hB1 hacc hH hG
      go_wp2_with fail
      refine (commit_any hH1.out par _ l Hat.out hlen (great_small hgr)).mono ?_
      rintro e w4 ⟨m1, m2, g', c'', nds', rfl, hcm, hH4, -, -⟩
      have HG4 := Lib.hid (HG.out.commit hcm (great_len hgr))
      have H4 := Lib.hid hH4
      clear hcm hH4 hH1 HG
      go_wp2
      go_roundw
      case rel => exact ⟨j + 1, by omega, by go_num, g', c'', nds', H4.out, HG4.out⟩
      case measure => simp [intOf]; omega
    · obtain rfl : j = n := by omega
      have hki : ¬ ((j : Int) < (j : Int)) := by omega
      obtain ⟨L, hL⟩ : ∃ L, nds.length = L + 1 := by
        obtain ⟨S, h1, h2⟩ := hH.st
        exact ⟨nds.length - 1, by have := h2.pos; omega⟩
      have hp : ParOk nds := by obtain ⟨S, h1, h2⟩ := hH.st; exact h2.par
      have hLs : L ≤ 100 := by have := hG.len; omega
      have H4 := Lib.hid hH
      have HG := Lib.hid hG
      clear hH hG
      go_wp2_with fail
      refine (Len_hold H4.out).mono ?_
      rintro e w4 ⟨rfl, rfl⟩
      rw [hL]
      have hsub : ((L + 1 : Nat) : Int) - 1 = (L : Int) := by omega
      go_wp2_with fail
      refine (commit_hold H4.out _ _ [] (AccsAt.nil (fun _ => False) _) (hasV_nat (by omega)) rfl (by omega) (fun x hx => by simp at hx)).mono ?_
      rintro e w5 ⟨g5, c5, k1, rfl, hH5, -, -⟩
      rw [hL]
      have hl1 : (nds ++ [(⟨(L : Int), some k1, setAll []⟩ : Nd)]).length = L + 2 := by simp [hL]
      have hT1 : totalN (nds ++ [(⟨(L : Int), some k1, setAll []⟩ : Nd)]) ≤ 5000 := by
        rw [totalN_append]
        have := HG.out.total
        simp [totalN, setAll]
        unfold totalN at this
        omega
      have hr1 : ∀ d ∈ (nds ++ [(⟨(L : Int), some k1, setAll []⟩ : Nd)]), ∀ x ∈ d.xs, rightB x.stor = true := fun d hd x hx => by
        rcases List.mem_append.1 hd with hd | hd
        · exact HG.out.right d hd x hx
        · simp at hd; subst hd; simp [setAll] at hx
      have hp1 : ParOk (nds ++ [(⟨(L : Int), some k1, setAll []⟩ : Nd)]) := by obtain ⟨S, h1, h2⟩ := hH5.st; exact h2.par
      have H5 := Lib.hid hH5
      clear hH5 H4
      have HT1 := Lib.hid hT1
      have Hr1 := Lib.hid hr1
      have Hp1 := Lib.hid hp1
      have Hp := Lib.hid hp
      have H3 := Lib.hid (fun k2 zs => @same_three nds L k1 k2 hL hp hp1 zs)
      have HL1 := Lib.hid hl1
      have HLL := Lib.hid hL
      clear hT1 hr1 hp1 hp hl1 hL
      generalize hN1 : nds ++ [(⟨(L : Int), some k1, setAll []⟩ : Nd)] = nds1 at *
      go_wp2_with fail
      refine (All_hold H5.out (by have := HT1.out; omega) _).mono ?_
      rintro e w6 ⟨vo, zs, rfl, hz1, hz2, hz3, hz4⟩
      have H6 := Lib.hid (H5.out.below hz1.bel)
      have hzs := Lib.hid hz1.accs
      have Hz3 := Lib.hid (fun x hx => ((hz3 x).1 hx).1)
      have hrz : badAny zs = false := right_badAny fun x hx => by
        obtain ⟨d, hd, hxd⟩ := findV_mem ((hz3 x).1 hx).1
        exact Hr1.out d hd x hxd
      have hsz : ∀ x ∈ zs, smallAcc x := fun x hx => by
        obtain ⟨d, hd, hxd⟩ := findV_mem ((hz3 x).1 hx).1
        exact H5.out.small d hd x hxd
      have HSame := Lib.hid (fun k2 => H3.out k2 zs Hz3.out)
      have Hzl := Lib.hid hz4
      clear hz1 hz2 hz3 hz4 H5 H3
      go_wp2_with fail
      refine (commit_hold H6.out _ _ zs hzs.out (by rw [show (L : Int) + 1 = ((L + 1 : Nat) : Int) by omega]; exact hasV_nat (by have := HL1.out; omega)) hrz (by have := HL1.out; omega) hsz).mono ?_
      rintro e w7 ⟨g7, c7, k2, rfl, hH7, -, -⟩
      rw [HL1.out]
      have hF := HSame.out k2
      have hT2 : totalN (nds1 ++ [(⟨(L : Int) + 1, some k2, setAll zs⟩ : Nd)]) ≤ 1000000 := by
        rw [totalN_append]
        have h1 := HT1.out
        have h2 := setAll_len zs
        have h3 := Hzl.out
        simp [totalN]
        unfold totalN at h1 h3
        omega
      generalize nds1 ++ [(⟨(L : Int) + 1, some k2, setAll zs⟩ : Nd)] = nds2 at *
      have H7 := Lib.hid hH7
      have HF := Lib.hid hF
      have HT2 := Lib.hid hT2
      clear hH7 hF hT2 H6 hzs HSame
      have y0 : rowOf w7 w.heap.size = a.cells := by rw [bel_row H7.out.bel _ (by have := HZ.out; omega)]; exact r0
      have j0 : isRow w7 w.heap.size = true := by rw [bel_isRow H7.out.bel _ (by have := HZ.out; omega)]; exact i0
      have l0 := isRow_lt j0
      go_wp2_with fail
      have ef1 := HF.out L (.inl rfl) a
      have ef2 := HF.out (L + 1) (.inr (.inl rfl)) a
      have hf1 := Find_hold H7.out L a
      rw [ef1] at hf1
      generalize hO : findV nds L a = o at *
      clear hO
      refine hf1.mono ?_
      rintro e w8 ⟨r1, rfl, hr1, b8⟩
      have hrs1 := hr1.size
      have hr11 := hr1.one
      obtain ⟨x27, -⟩ := hr1.ext0
      obtain ⟨y8, j8, l8⟩ := carryRow b8 y0 j0
      have B8 := Lib.hid (show Below w8.heap.size w8 (w8.alloc (.cells r1 30)) from bel_alloc (Below.refl _ _) _)
      have H8 := Lib.hid ((H7.out.below b8).below B8.out)
      have A1 := Lib.hid (hr1.below B8.out)
      have y9 : rowOf (w8.alloc (.cells r1 30)) w8.heap.size = r1 := by simp [go_sem]
      have j9 : isRow (w8.alloc (.cells r1 30)) w8.heap.size = true := by simp [go_sem]
      clear hr1 b8 hf1 ef1 y0 j0 l0 H7
      go_wp2_with fail
      have hf2 := Find_hold H8.out (L + 1) a
      rw [ef2] at hf2
      refine hf2.mono ?_
      rintro e w9 ⟨r2, rfl, hr2, b9⟩
      have hrs2 := hr2.size
      have hr21 := hr2.one
      obtain ⟨x272, -⟩ := hr2.ext0
      obtain ⟨y9, j9, l9⟩ := carryRow b9 y9 j9
      have B9 := Lib.hid (show Below w9.heap.size w9 (w9.alloc (.cells r2 30)) from bel_alloc (Below.refl _ _) _)
      have H9 := Lib.hid ((H8.out.below b9).below B9.out)
      have A2 := Lib.hid (hr2.below B9.out)
      have A1 := Lib.hid ((A1.out.below b9).below B9.out)
      have y10 : rowOf (w9.alloc (.cells r2 30)) w9.heap.size = r2 := by simp [go_sem]
      have j10 : isRow (w9.alloc (.cells r2 30)) w9.heap.size = true := by simp [go_sem]
      obtain ⟨y9, j9, l9⟩ := carryRow B9.out y9 j9
      clear hr2 b9 hf2 ef2 y8 j8 l8 H8 B8
      go_wp2_with fail
      generalize hW10 : w9.alloc (.cells r2 30) = W10 at *
      have HE := Lib.hid (fun (i i' : Int) (hi : i = L ∨ i = L + 1 ∨ i = L + 2) (hi' : i' = L ∨ i' = L + 1 ∨ i' = L + 2) (zs ys : List Acc) => all_eq (f := findV nds2 i) (g := findV nds2 i') (fun a => by rw [HF.out i hi, HF.out i' hi']) (zs := zs) (ys := ys))
      clear hW10
      refine (All_hold H9.out HT2.out _).mono ?_
      rintro e w11 ⟨v1, za, rfl, q1, q2, q3, -⟩
      have H11 := Lib.hid (H9.out.below q1.bel)
      have A11 := Lib.hid (A1.out.below q1.bel)
      have A21 := Lib.hid (A2.out.below q1.bel)
      have C11 := Lib.hid q1.accs
      obtain ⟨y9, j9, l9⟩ := carryRow q1.bel y9 j9
      obtain ⟨y10, j10, l10⟩ := carryRow q1.bel y10 j10
      have Q2 := Lib.hid q2
      have Q3 := Lib.hid q3
      clear q1 q2 q3 H9 A1 A2
      go_wp2_with fail
      refine (All_hold H11.out HT2.out _).mono ?_
      rintro e w12 ⟨v2, zb, rfl, q1, q2, q3, -⟩
      obtain rfl : zb = za := HE.out _ _ (.inl rfl) (.inr (.inl rfl)) _ _ q2 Q2.out q3 Q3.out
      have H12 := Lib.hid (H11.out.below q1.bel)
      have A12 := Lib.hid (A11.out.below q1.bel)
      have A22 := Lib.hid (A21.out.below q1.bel)
      have C12 := Lib.hid (C11.out.below q1.bel)
      have D12 := Lib.hid q1.accs
      obtain ⟨y9, j9, l9⟩ := carryRow q1.bel y9 j9
      obtain ⟨y10, j10, l10⟩ := carryRow q1.bel y10 j10
      clear q1 q2 q3 H11 A11 A21 C11 Q2 Q3
      go_wp2_with fail
      refine (same_all _ _ _ _ C12.out D12.out).mono ?_
      rintro e w13 ⟨rfl, b13⟩
      have H13 := Lib.hid (H12.out.below b13)
      have A13 := Lib.hid (A12.out.below b13)
      have A23 := Lib.hid (A22.out.below b13)
      obtain ⟨y9, j9, l9⟩ := carryRow b13 y9 j9
      obtain ⟨y10, j10, l10⟩ := carryRow b13 y10 j10
      clear b13 H12 A12 A22 C12 D12
      go_wp2_with fail
      refine (All_hold H13.out HT2.out _).mono ?_
      rintro e w14 ⟨v3, zc, rfl, q1, q2, q3, -⟩
      have H14 := Lib.hid (H13.out.below q1.bel)
      have A14 := Lib.hid (A13.out.below q1.bel)
      have A24 := Lib.hid (A23.out.below q1.bel)
      have C14 := Lib.hid q1.accs
      obtain ⟨y9, j9, l9⟩ := carryRow q1.bel y9 j9
      obtain ⟨y10, j10, l10⟩ := carryRow q1.bel y10 j10
      have Q2 := Lib.hid q2
      have Q3 := Lib.hid q3
      clear q1 q2 q3 H13 A13 A23
      go_wp2_with fail
      refine (All_hold H14.out HT2.out _).mono ?_
      rintro e w15 ⟨v4, zd, rfl, q1, q2, q3, -⟩
      obtain rfl : zd = zc := HE.out _ _ (.inl rfl) (.inr (.inr rfl)) _ _ q2 Q2.out q3 Q3.out
      have H15 := Lib.hid (H14.out.below q1.bel)
      have A15 := Lib.hid (A14.out.below q1.bel)
      have A25 := Lib.hid (A24.out.below q1.bel)
      have C15 := Lib.hid (C14.out.below q1.bel)
      have D15 := Lib.hid q1.accs
      obtain ⟨y9, j9, l9⟩ := carryRow q1.bel y9 j9
      obtain ⟨y10, j10, l10⟩ := carryRow q1.bel y10 j10
      clear q1 q2 q3 H14 A14 A24 C14 Q2 Q3
      go_wp2_with fail
      refine (same_all _ _ _ _ C15.out D15.out).mono ?_
      rintro e w16 ⟨rfl, b16⟩
      have H16 := Lib.hid (H15.out.below b16)
      have A16 := Lib.hid (A15.out.below b16)
      have A26 := Lib.hid (A25.out.below b16)
      obtain ⟨y9, j9, l9⟩ := carryRow b16 y9 j9
      obtain ⟨y10, j10, l10⟩ := carryRow b16 y10 j10
      clear b16 H15 A15 A25 C15 D15
      have hss : (o.isSome == o.isSome) = true := by simp
      go_wp2_with fail
      refine (same_self _ _ _ _ A16.out A26.out).mono ?_
      rintro e w17 ⟨rfl, b17⟩
      go_wp2
      go_ret
      exact ⟨rfl, bel_trans B0.out (bel_trans H16.out.bel b17)⟩
theorem storeSame_over (w : World) (v : Value) (os : List Op13) (h : Ops13At w v os) (a : Adr) :
    Calls Try.prog 8 #[v, .agg a.cells] w fun e w' => e = .returned (.bool true) ∧ Below w.heap.size w w' := by
  have hr := ops13_rows h
  obtain ⟨p, c, rfl⟩ := hr.form
  exact storeSame_walk w p c os hr a
namespace storeSameDone
open Go.ChangeShapes Go.WideShapes Go.ChangeAt
set_option maxRecDepth 100000 in
set_option maxHeartbeats 1000000 in
theorem lifted (os : Os) (started : os.Started) (H : Type) (enc : TypeId × Value → H) :
    ReturnsInHanded {} Try.checked os 8 .any (Rows.storeSameSpec.pre6 enc Try.prog Try.f8 Rows.storeSameRow.domain false) (Rows.storeSameSpec.post enc Try.prog Try.f8 false true false false) := by
  refine returnsInHanded_of_change (C := Try.checked) own started (by kernel_rfl) Try.func8
    (ChangeSpec.witness6 (enc := enc) (C := Try.checked) false ⟨#[], #[.slice none 0 0, .agg zeroAdr.cells], []⟩ 8 (by kernel_rfl) (by kernel_rfl) (by kernel_rfl) (by kernel_rfl)) ?_
  intro W base args ds gs before hval0 hW hcnd _
  have hval : ∀ (j : Nat) t v, Try.f8.params[j]? = some t → args[j]? = some v → Value.okWide Try.prog W .any base t v := hval0
  have hW' := hW
  obtain ⟨p, q, hA0, hV, rfl, hfz, hnd⟩ := hW
  have hA : DataW.TrodAll enc Try.prog W 0 (fun _ => true) true Try.f8.params.toList args.toList ds p := hA0
  rw [Try.params8] at hA hval
  obtain ⟨v0, vs0, d0, ds0, pp0, q0, hargs, rfl, rfl, h0, r0⟩ := trodAll_cons hA
  obtain ⟨v1, vs1, d1, ds1, pp1, q1, rfl, rfl, rfl, h1, r1⟩ := trodAll_cons r0
  obtain ⟨rfl, rfl, rfl⟩ := trodAll_nil r1
  obtain rfl : args = #[v0, v1] := by cases args; simp_all
  obtain ⟨rfl, rfl⟩ := trodVars_none hV
  obtain ⟨p0, l0, c0, rfl⟩ := okWide_slice Try.underlying70 (hval 0 70 v0 rfl rfl)
  have k0 := h0
  have lt0 : ∀ x ∈ pp0, x.block < W.heap.size := by obtain ⟨m, hm⟩ := k0; exact DataW.trod_lt m _ _ _ hm
  obtain ⟨a0, w0⟩ : ∃ a, Ops13At W (.slice p0 l0 c0) a := by
    obtain ⟨fuel, hf⟩ := h0
    obtain ⟨v, a, e, h⟩ := open_ops13 hf
    have e2 : v = .slice p0 l0 c0 := by simpa [Value.cells] using e.symm
    subst e2; exact ⟨a, h⟩
  obtain ⟨cs1, rfl, _⟩ := okWide_arr Try.underlying23 (hval 1 23 v1 rfl rfl)
  have k1 := h1
  have lt1 : ∀ x ∈ pp1, x.block < W.heap.size := by obtain ⟨m, hm⟩ := k1; exact DataW.trod_lt m _ _ _ hm
  obtain ⟨a1, w1⟩ : ∃ a : Adr, cs1 = a.cells := by
    obtain ⟨fuel, hf⟩ := h1
    exact open_adr hf
  subst w1
  clear hA0 hval0
  refine (storeSame_over W _ a0 w0 a1).mono fun e W' ⟨he, bel⟩ => ?_
  subst he
  exact ⟨_, rfl, _, _, _, [], _, [], hW', trodAll_mk1 (shut_bool Try.underlying4 _), (trodAll_cons_mk (Below.trod laidOut (by kernel_rfl) (of_decide_eq_true (by kernel_rfl)) k0 bel lt0) (trodAll_cons_mk (Below.trod laidOut (by kernel_rfl) (of_decide_eq_true (by kernel_rfl)) k1 bel lt1) trodAll_mk0)), rfl, bel.frame _, fun h => by cases h⟩
theorem over : Rows.storeSameRow.holds Try.pinned (OpenSpec.ofChange Rows.storeSameSpec) :=
  OpenClaim.holds_of_wide 8 Try.f8 rfl rfl rfl rfl rfl rfl rfl ⟨rfl, rfl, rfl, rfl, rfl⟩ rfl rfl rfl rfl rfl (by kernel_rfl) Try.func8 (by kernel_rfl)
    (of_decide_eq_true (by kernel_rfl)) (by unfold Func.isWrapper; first | (rw [if_pos (by decide +kernel)]; kernel_rfl) | (rw [if_neg (by decide +kernel)]; exact ⟨rfl, rfl⟩))
    (fun os started H enc _ => lifted os started H enc)
end storeSameDone
theorem storeSame_proved : Rows.StoreSameSaid := storeSameDone.over
#print axioms storeSame_proved
end Go.Proofs.Ytadafohgglnneaa
