/- A store that one has laid oneself, call by call; the example of chapter 13. No condition. -/
import Derived.Test.YtadafohgglnneaaS4
namespace Go.Proofs.Ytadafohgglnneaa
open Go.RowKit
theorem setK_mem {x y : Acc} {ys : List Acc} (h : y ∈ setK x ys) : y = x ∨ y ∈ ys := by
  unfold setK at h
  split at h
  · obtain ⟨z, hz, rfl⟩ := List.mem_map.1 h
    split
    · exact .inl rfl
    · exact .inr hz
  · rcases List.mem_append.1 h with h | h
    · exact .inr h
    · simp at h; exact .inl h
theorem setFold_mem {y : Acc} : ∀ {xs ys : List Acc}, y ∈ xs.foldl (fun ys x => setK x ys) ys → y ∈ xs ∨ y ∈ ys
  | [], _, h => .inr h
  | x :: xs, ys, h => by
    rcases setFold_mem (xs := xs) h with h | h
    · exact .inl (List.mem_cons_of_mem _ h)
    · rcases setK_mem h with rfl | h
      · exact .inl (List.mem_cons_self ..)
      · exact .inr h
theorem setAll_mem {y : Acc} {xs : List Acc} (h : y ∈ setAll xs) : y ∈ xs := by
  rcases setFold_mem h with h | h
  · exact h
  · simp at h
/-- A store laid since the world w0, and all else of w0 as it was. -/
structure Hold (w0 w : World) (s g c : Nat) (nds : List Nd) : Prop where
  st : ∃ S, (∀ b, S b → w0.heap.size ≤ b ∧ b < w.heap.size) ∧ StoreAt S w s g c nds
  s0 : w0.heap.size ≤ s
  g0 : w0.heap.size ≤ g
  bel : Below w0.heap.size w0 w
  small : SmallNds nds
theorem Hold.below {w0 w w' : World} {s g c : Nat} {nds : List Nd} (h : Hold w0 w s g c nds) (hb : Below w.heap.size w w') : Hold w0 w' s g c nds := by
  obtain ⟨⟨S, h1, h2⟩, h3, h4, h5, h6⟩ := h
  have := hb.size
  exact ⟨⟨S, fun b hb' => by have := h1 b hb'; omega, h2.below hb⟩, h3, h4, bel_trans h5 hb, h6⟩
theorem Hold.lt {w0 w : World} {s g c : Nat} {nds : List Nd} (h : Hold w0 w s g c nds) : s < w.heap.size ∧ g < w.heap.size := by
  obtain ⟨⟨S, h1, h2⟩, _⟩ := h; exact h2.lt
theorem new_hold (w0 w : World) (hb : Below w0.heap.size w0 w) : Calls Try.prog 28 #[] w fun e w' => ∃ s g, e = .returned (.pointer (some ⟨s, 0, none⟩)) ∧ Hold w0 w' s g 1 [⟨-1, none, []⟩] ∧ Below w.heap.size w w' ∧ w.heap.size ≤ s ∧ w.heap.size ≤ g := by
  refine (store_New w).mono ?_
  rintro e w' ⟨s, g, rfl, h1, h2, h3, h4⟩
  have := hb.size
  refine ⟨s, g, rfl, ⟨⟨_, fun b hb => ?_, h3⟩, by omega, by omega, bel_trans hb h4, ?_⟩, h4, h1, h2⟩
  · unfold Fresh at hb; omega
  · intro d hd x hx; simp at hd; subst hd; simp at hx
/-- A version laid, by Commit. -/
def LaidHold (w0 w : World) (s g : Nat) (nds : List Nd) (par : Int) (xs : List Acc) (e : Ending) (w' : World) : Prop :=
  ∃ g' c' k, e = .returned (.tuple #[.int .i64 nds.length, .int .i64 0]) ∧ Hold w0 w' s g' c' (nds ++ [⟨par, some k, setAll xs⟩]) ∧ (g' = g ∨ w.heap.size ≤ g') ∧ Kept (fun b => b = s ∨ b = g) w w'
theorem commit_hold {T : Nat → Prop} {w0 w : World} {s g c : Nat} {nds : List Nd} (h : Hold w0 w s g c nds) (par : Int) (v : Value) (xs : List Acc) (hx : AccsAt T w v xs) (hv : hasV nds par = true) (hb : badAny xs = false)
    (hn : nds.length < 1048576) (hsm : ∀ x ∈ xs, smallAcc x) : Calls Try.prog 29 #[.pointer (some ⟨s, 0, none⟩), .int .i64 par, v] w (LaidHold w0 w s g nds par xs) := by
  obtain ⟨⟨S, h1, h2⟩, h3, h4, h5, h6⟩ := h
  refine (commit_ok h2 par v xs hx hv hb hn hsm (fun b hb => (h1 b hb).2)).mono ?_
  rintro e w' ⟨g', c', k, rfl, q1, q2, q3, q4⟩
  have hs := h5.size
  have hs2 := q4.size
  refine ⟨g', c', k, rfl, ⟨⟨_, fun b hb => ?_, q1⟩, h3, by omega, bel_kept h5 q4 (fun x hx e => by omega), ?_⟩, q2, q4⟩
  · rcases hb with hb | ⟨hb, _⟩
    · have := h1 b hb; omega
    · unfold Fresh at hb; omega
  · intro d hd x hx'
    rcases List.mem_append.1 hd with hd | hd
    · exact h6 d hd x hx'
    · simp at hd; subst hd
      exact hsm x (setAll_mem hx')
theorem Find_hold {w0 w : World} {s g c : Nat} {nds : List Nd} (h : Hold w0 w s g c nds) (v : Int) (a : Adr) : Calls Try.prog 44 #[.pointer (some ⟨s, 0, none⟩), .int .i64 v, .agg a.cells] w (GotOwn w (findV nds v a)) := by
  obtain ⟨⟨S, h1, h2⟩, h3, h4, h5, h6⟩ := h
  exact store_Find h2 h6 v a
theorem carryRow {w w' : World} {b : Nat} {r : Array Value} (h : Below w.heap.size w w') (hr : rowOf w b = r) (hi : isRow w b = true) :
    rowOf w' b = r ∧ isRow w' b = true ∧ b < w'.heap.size := by
  have hb := isRow_lt hi
  have h2 : isRow w' b = true := by rw [bel_isRow h _ hb, hi]
  exact ⟨by rw [bel_row h _ hb, hr], h2, isRow_lt h2⟩
def accBal (a : Adr) (b : Wrd) : Acc := ⟨a, 0, b, [], []⟩
theorem accBal_in (S : Nat → Prop) (w : World) (a : Adr) (b : Wrd) : AccIn S w (accRow a 0 b (.slice none 0 0) (.slice none 0 0)) (accBal a b) :=
  ⟨_, _, rfl, SlIn.nil _ _ _ rfl, SlIn.nil _ _ _ rfl⟩
def Anywhere (_ : Nat) : Prop := True
theorem accBal_at {w : World} (a : Adr) (b : Wrd) : AccsAt Anywhere (w.alloc (.cells (accRow a 0 b (.slice none 0 0) (.slice none 0 0)) 30)) (.slice (some ⟨w.heap.size, 0, none⟩) 1 1) [accBal a b] :=
  AccsAt.single (accBal_in _ _ a b) _ trivial (by simp) (rowOf_alloc_at _ _ _ _ rfl)
theorem accBal_small (a : Adr) (b : Wrd) : ∀ x ∈ [accBal a b], smallAcc x := by
  intro x hx; simp at hx; subst hx; exact ⟨by simp [accBal], by simp [accBal]⟩
/-- The row of a balance found. -/
theorem bal_row {S : Nat → Prop} {w : World} {r : Array Value} {x : Acc} (h : AccIn S w r x) : r.extract 21 25 = x.bal.cells := by
  obtain ⟨c, s, rfl, -⟩ := h; simp
set_option maxRecDepth 100000 in
set_option maxHeartbeats 2000000 in
theorem fixed13 (w : World) : Calls Try.prog 15 #[] w fun e w' => e = .returned (.bool true) ∧ Below w.heap.size w w' := by
  go_enter Try.func15, Try.ntmps15
  go_wp2_with fail
  refine (new_hold w w (Below.refl _ _)).mono ?_
  rintro e w1 ⟨s, g, rfl, h1, -, -, -⟩
  have H1 := Lib.hid h1
  clear h1
  go_wp2_with fail
  refine (commit_hold (T := Anywhere) (H1.out.below (bel_alloc (Below.refl _ _) _)) 0 _ [accBal adr1 wrd5] (accBal_at _ _) rfl rfl (by decide) (accBal_small _ _)).mono ?_
  rintro e w2 ⟨g2, c2, k2, rfl, h2, -, -⟩
  have H2 := Lib.hid h2
  clear H1 h2
  go_wp2_with fail
  refine (commit_hold (T := Anywhere) (H2.out.below (bel_alloc (Below.refl _ _) _)) 0 _ [accBal adr1 wrd7] (accBal_at _ _) rfl rfl (by simp) (accBal_small _ _)).mono ?_
  rintro e w3 ⟨g3, c3, k3, rfl, h3, -, -⟩
  have H3 := Lib.hid h3
  clear H2 h3
  go_wp2_with fail
  have f1 : findV ([⟨-1, none, []⟩] ++ [⟨0, some k2, setAll [accBal adr1 wrd5]⟩] ++ [⟨0, some k3, setAll [accBal adr1 wrd7]⟩]) 1 adr1 = some (accBal adr1 wrd5) := rfl
  have f2 : findV ([⟨-1, none, []⟩] ++ [⟨0, some k2, setAll [accBal adr1 wrd5]⟩] ++ [⟨0, some k3, setAll [accBal adr1 wrd7]⟩]) 2 adr1 = some (accBal adr1 wrd7) := rfl
  have f3 : findV ([⟨-1, none, []⟩] ++ [⟨0, some k2, setAll [accBal adr1 wrd5]⟩] ++ [⟨0, some k3, setAll [accBal adr1 wrd7]⟩]) 0 adr1 = none := rfl
  generalize ([⟨-1, none, []⟩] ++ [⟨0, some k2, setAll [accBal adr1 wrd5]⟩] ++ [⟨0, some k3, setAll [accBal adr1 wrd7]⟩] : List Nd) = nds at *
  have C1 := Find_hold H3.out 1 adr1
  rw [f1] at C1
  refine C1.mono ?_
  rintro e w4 ⟨r4, rfl, a4, b4⟩
  have H4 := Lib.hid ((H3.out.below b4).below (bel_alloc (Below.refl w4.heap.size w4) (.cells r4 30)))
  have z4 := a4.size
  have o4 := a4.one
  have x4 := bal_row a4
  have e4 : r4.extract 0 27 = r4 := by rw [← z4]; simp
  clear H3 C1 a4 b4
  go_wp2_with fail
  have C2 := Find_hold H4.out 2 adr1
  rw [f2] at C2
  refine C2.mono ?_
  rintro e w5 ⟨r5, rfl, a5, b5⟩
  have H5 := Lib.hid ((H4.out.below b5).below (bel_alloc (Below.refl w5.heap.size w5) (.cells r5 30)))
  have z5 := a5.size
  have o5 := a5.one
  have x5 := bal_row a5
  have e5 : r5.extract 0 27 = r5 := by rw [← z5]; simp
  obtain ⟨q4, i4, l4⟩ := carryRow b5 (r := r4) (b := w4.heap.size) (by simp [go_sem]) (by simp [go_sem])
  clear H4 C2 a5 b5
  go_wp2_with fail
  have C3 := Find_hold H5.out 0 adr1
  rw [f3] at C3
  refine C3.mono ?_
  rintro e w6 ⟨r6, rfl, a6, b6⟩
  have H6 := Lib.hid ((H5.out.below b6).below (bel_alloc (Below.refl w6.heap.size w6) (.cells r6 30)))
  have z6 := a6.size
  have o6 := a6.one
  obtain ⟨q5, i5, l5⟩ := carryRow b6 (r := r5) (b := w5.heap.size) (by simp [go_sem]) (by simp [go_sem])
  obtain ⟨q4, i4, l4⟩ := carryRow b6 (r := r4) (b := w4.heap.size) (by simp [go_sem, q4, l4]) (by simp [go_sem, i4, l4])
  clear H5 C3 a6 b6
  have l4' : w4.heap.size < w6.heap.size + 1 := by omega
  have l5' : w5.heap.size < w6.heap.size + 1 := by omega
  go_wp2
  go_ret
  exact ⟨rfl, H6.out.bel⟩
end Go.Proofs.Ytadafohgglnneaa
