/- A cache that one has laid oneself, call by call, each answer as data. No condition. -/
import Derived.Test.YtadafohgglnneaaF7
namespace Go.Proofs.Ytadafohgglnneaa
open Go.RowKit
/-- A cache laid since the world w0; what it knows lies in no block of N. -/
structure HoldC (N : Nat → Prop) (w0 w : World) (c k t : Nat) (xs : List Acc) (ts : List (Adr × Nat)) : Prop where
  st : ∃ S, (∀ b, S b → w0.heap.size ≤ b ∧ b < w.heap.size ∧ ¬ N b) ∧ CacheAt S w c k t xs ts
  own : w0.heap.size ≤ c ∧ w0.heap.size ≤ k ∧ w0.heap.size ≤ t
  nb : ∀ b, N b → b < w.heap.size
  small : ∀ x ∈ xs, smallAcc x
theorem HoldC.kept {N M : Nat → Prop} {w0 w w' : World} {c k t : Nat} {xs : List Acc} {ts : List (Adr × Nat)} (h : HoldC N w0 w c k t xs ts) (hk : Kept M w w') (hM : ∀ b, M b → N b ∧ b ≠ c ∧ b ≠ k ∧ b ≠ t) : HoldC N w0 w' c k t xs ts := by
  obtain ⟨⟨S, h1, h2⟩, h3, h4, h5⟩ := h
  have hs := hk.size
  refine ⟨⟨S, fun b hb => ?_, h2.kept hk (fun b hb hm => (h1 b hb).2.2 (hM b hm).1) (fun hm => (hM _ hm).2.1 rfl) (fun hm => (hM _ hm).2.2.1 rfl) (fun hm => (hM _ hm).2.2.2 rfl)⟩, h3, fun b hb => ?_, h5⟩
  · obtain ⟨p1, p2, p3⟩ := h1 b hb
    exact ⟨p1, by omega, p3⟩
  · have := h4 b hb; omega
theorem HoldC.below {N : Nat → Prop} {w0 w w' : World} {c k t : Nat} {xs : List Acc} {ts : List (Adr × Nat)} (h : HoldC N w0 w c k t xs ts) (hb : Below w.heap.size w w') : HoldC N w0 w' c k t xs ts :=
  h.kept (M := fun _ => False) (.of_below hb) (fun _ h => h.elim)
theorem setK_mem' {x y : Acc} {ys : List Acc} (h : y ∈ setK x ys) : y = x ∨ y ∈ ys := by
  unfold setK at h
  split at h
  · obtain ⟨z, hz, rfl⟩ := List.mem_map.1 h
    split
    · exact .inl rfl
    · exact .inr hz
  · rcases List.mem_append.1 h with h | h
    · exact .inr h
    · simp at h; exact .inl h
/-- What Want says, and the tries behind it. -/
def wantC (xs : List Acc) (ts : List (Adr × Nat)) (a : Adr) : Int := if (findK a xs).isSome then 1 else if (findT a ts).isSome then 2 else 3
def wantT (xs : List Acc) (ts : List (Adr × Nat)) (a : Adr) : List (Adr × Nat) := if (findK a xs).isSome then ts else if (findT a ts).isSome then ts else setT a 0 ts
theorem want_any {N : Nat → Prop} {w0 w : World} {c k t : Nat} {xs : List Acc} {ts : List (Adr × Nat)} (h : HoldC N w0 w c k t xs ts) (a : Adr) :
    Calls Try.prog 23 #[.pointer (some ⟨c, 0, none⟩), .agg a.cells] w fun e w' => e = .returned (.int .u8 (wantC xs ts a)) ∧ HoldC N w0 w' c k t xs (wantT xs ts a) ∧ Kept (fun b => b = t) w w' := by
  have h0 := h
  obtain ⟨⟨S, h1, h2⟩, h3, h4, h5⟩ := h
  unfold wantC wantT
  by_cases hk : (findK a xs).isSome = true
  · rw [if_pos hk, if_pos hk]
    refine (want_known w c k t xs ts a h2 hk).mono ?_
    rintro e w' ⟨rfl, hb⟩
    exact ⟨rfl, h0.below hb, .of_below hb⟩
  · rw [if_neg hk, if_neg hk]
    have hk' : findK a xs = none := by simpa using hk
    by_cases ht : (findT a ts).isSome = true
    · rw [if_pos ht, if_pos ht]
      refine (want_asked w c k t xs ts a h2 hk' ht).mono ?_
      rintro e w' ⟨rfl, hb⟩
      exact ⟨rfl, h0.below hb, .of_below hb⟩
    · rw [if_neg ht, if_neg ht]
      have ht' : findT a ts = none := by simpa using ht
      refine (want_new w c k t xs ts a h2 hk' ht').mono ?_
      rintro e w' ⟨rfl, q1, q2⟩
      have hs := q2.size
      exact ⟨rfl, ⟨⟨S, fun b hb => by obtain ⟨p1, p2, p3⟩ := h1 b hb; exact ⟨p1, by omega, p3⟩, q1⟩, h3, fun b hb => by have := h4 b hb; omega, h5⟩, q2⟩
/-- What Fail says, and the tries behind it. -/
def failC (ts : List (Adr × Nat)) (a : Adr) : Int := match findT a ts with
  | none => 0
  | some n => if n = 7 then 5 else 4
def failT (ts : List (Adr × Nat)) (a : Adr) : List (Adr × Nat) := match findT a ts with
  | none => ts
  | some n => if n = 7 then delT a ts else setT a (n + 1) ts
theorem fail_any {N : Nat → Prop} {w0 w : World} {c k t : Nat} {xs : List Acc} {ts : List (Adr × Nat)} (h : HoldC N w0 w c k t xs ts) (a : Adr) :
    Calls Try.prog 24 #[.pointer (some ⟨c, 0, none⟩), .agg a.cells] w fun e w' => e = .returned (.int .u8 (failC ts a)) ∧ HoldC N w0 w' c k t xs (failT ts a) ∧ Kept (fun b => b = t) w w' := by
  have h0 := h
  obtain ⟨⟨S, h1, h2⟩, h3, h4, h5⟩ := h
  unfold failC failT
  cases ht : findT a ts with
  | none =>
    refine (fail_none w c k t xs ts a h2 ht).mono ?_
    rintro e w' ⟨rfl, hb⟩
    exact ⟨rfl, h0.below hb, .of_below hb⟩
  | some n =>
    have hn : n < 8 := by
      obtain ⟨tr, tc, _, _, f3⟩ := h2.objT
      rcases f3.find a with ⟨_, g⟩ | ⟨m, _, g, hm⟩
      · rw [g] at ht; cases ht
      · rw [g] at ht; cases ht; exact hm
    simp only
    by_cases h7 : n = 7
    · subst h7
      rw [if_pos rfl, if_pos rfl]
      refine (fail_lost w c k t xs ts a h2 ht).mono ?_
      rintro e w' ⟨rfl, q1, q2⟩
      have hs := q2.size
      exact ⟨rfl, ⟨⟨S, fun b hb => by obtain ⟨p1, p2, p3⟩ := h1 b hb; exact ⟨p1, by omega, p3⟩, q1⟩, h3, fun b hb => by have := h4 b hb; omega, h5⟩, q2⟩
    · rw [if_neg h7, if_neg h7]
      refine (fail_again w c k t xs ts a n h2 ht (by omega)).mono ?_
      rintro e w' ⟨rfl, q1, q2⟩
      have hs := q2.size
      exact ⟨rfl, ⟨⟨S, fun b hb => by obtain ⟨p1, p2, p3⟩ := h1 b hb; exact ⟨p1, by omega, p3⟩, q1⟩, h3, fun b hb => by have := h4 b hb; omega, h5⟩, q2⟩
/-- Whether Fill takes it. -/
def fillB (ts : List (Adr × Nat)) (x : Acc) : Bool := rightB x.stor && (findT x.adr ts).isSome
theorem fill_any {N T : Nat → Prop} {w0 w : World} {c k t : Nat} {xs : List Acc} {ts : List (Adr × Nat)} (h : HoldC N w0 w c k t xs ts) (row : Array Value) (x : Acc) (hx : AccIn T w row x) (hT : ∀ b, T b → b ≠ t) (hsm : smallAcc x) :
    Calls Try.prog 25 #[.pointer (some ⟨c, 0, none⟩), .agg row] w fun e w' => e = .returned (.bool (fillB ts x)) ∧ HoldC N w0 w' c k t (if fillB ts x then setK x xs else xs) (if fillB ts x then delT x.adr ts else ts) ∧ Kept (fun b => b = k ∨ b = t) w w' := by
  have h0 := h
  obtain ⟨⟨S, h1, h2⟩, h3, h4, h5⟩ := h
  unfold fillB
  cases hr : rightB x.stor with
  | false =>
    refine (fill_bad w ⟨c, 0, none⟩ row x hx hr).mono ?_
    rintro e w' ⟨rfl, hb⟩
    exact ⟨rfl, by simpa using h0.below hb, .of_below hb⟩
  | true =>
    cases ht : findT x.adr ts with
    | none =>
      refine (fill_not w c k t xs ts row x h2 hx hr ht).mono ?_
      rintro e w' ⟨rfl, hb⟩
      exact ⟨rfl, by simpa using h0.below hb, .of_below hb⟩
    | some n =>
      refine (fill_ok w c k t xs ts row x n h2 hx hT hr ht hsm).mono ?_
      rintro e w' ⟨rfl, q1, q2⟩
      have hs := q2.size
      have hb0 : w0.heap.size ≤ w.heap.size := by
        have := isRow_lt h2.isRow
        omega
      refine ⟨rfl, ?_, q2⟩
      simp only [Option.isSome_some, Bool.and_self, if_true]
      refine ⟨⟨_, fun b hb => ?_, q1⟩, h3, fun b hb => by have := h4 b hb; omega, fun y hy => ?_⟩
      · rcases hb with hb | hb
        · obtain ⟨p1, p2, p3⟩ := h1 b hb; exact ⟨p1, by omega, p3⟩
        · obtain ⟨p1, p2⟩ := hb
          exact ⟨by omega, p2, fun hn => by have := h4 b hn; omega⟩
      · rcases setK_mem' hy with rfl | hy
        · exact hsm
        · exact h5 y hy
theorem account_any {N : Nat → Prop} {w0 w : World} {c k t : Nat} {xs : List Acc} {ts : List (Adr × Nat)} (h : HoldC N w0 w c k t xs ts) (a : Adr) :
    Calls Try.prog 26 #[.pointer (some ⟨c, 0, none⟩), .agg a.cells] w (Known15 w a (findK a xs)) := by
  obtain ⟨⟨S, h1, h2⟩, h3, h4, h5⟩ := h
  exact fork_Account w c k t xs ts a h2 h5
end Go.Proofs.Ytadafohgglnneaa
