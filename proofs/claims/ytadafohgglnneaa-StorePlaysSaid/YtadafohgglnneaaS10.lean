/- Any commit at a store that is held; what commits leave of the versions ahead. No condition. -/
import Derived.Test.YtadafohgglnneaaS9
namespace Go.Proofs.Ytadafohgglnneaa
open Go.RowKit
/-- What a commit answers, and the versions behind it. -/
def Committed (nds : List Nd) (par : Int) (xs : List Acc) (n m : Int) (nds' : List Nd) : Prop :=
  (hasV nds par = true ∧ badAny xs = false ∧ n = nds.length ∧ m = 0 ∧ ∃ k, nds' = nds ++ [⟨par, some k, setAll xs⟩]) ∨ (hasV nds par = false ∧ n = 0 ∧ m = 12 ∧ nds' = nds) ∨ (hasV nds par = true ∧ badAny xs = true ∧ n = 0 ∧ m = 1 ∧ nds' = nds)
def CommitOut (w0 w : World) (s g : Nat) (nds : List Nd) (par : Int) (xs : List Acc) (e : Ending) (w' : World) : Prop :=
  ∃ n m g' c' nds', e = .returned (.tuple #[.int .i64 n, .int .i64 m]) ∧ Committed nds par xs n m nds' ∧ Hold w0 w' s g' c' nds' ∧ (g' = g ∨ w.heap.size ≤ g') ∧ Kept (fun b => b = s ∨ b = g) w w'
theorem commit_any {T : Nat → Prop} {w0 w : World} {s g c : Nat} {nds : List Nd} (h : Hold w0 w s g c nds) (par : Int) (v : Value) (xs : List Acc) (hx : AccsAt T w v xs) (hn : nds.length < 1048576) (hsm : ∀ x ∈ xs, smallAcc x) :
    Calls Try.prog 29 #[.pointer (some ⟨s, 0, none⟩), .int .i64 par, v] w (CommitOut w0 w s g nds par xs) := by
  obtain ⟨S, h1, h2⟩ := h.st
  cases hv : hasV nds par with
  | false =>
    obtain ⟨p, n, rfl⟩ := hx.form
    refine (commit_none h2 par p _ n hv).mono ?_
    rintro e w' ⟨rfl, hb⟩
    exact ⟨0, 12, g, c, nds, rfl, .inr (.inl ⟨hv, rfl, rfl, rfl⟩), h.below hb, .inl rfl, .of_below hb⟩
  | true =>
    cases hb : badAny xs with
    | true =>
      refine (commit_bad h2 par v xs hx hv hb).mono ?_
      rintro e w' ⟨rfl, hbw⟩
      exact ⟨0, 1, g, c, nds, rfl, .inr (.inr ⟨hv, hb, rfl, rfl, rfl⟩), h.below hbw, .inl rfl, .of_below hbw⟩
    | false =>
      refine (commit_hold h par v xs hx hv hb hn hsm).mono ?_
      rintro e w' ⟨g', c', k, rfl, q1, q2, q3⟩
      exact ⟨_, 0, g', c', _, rfl, .inl ⟨hv, hb, rfl, rfl, k, rfl⟩, q1, q2, q3⟩
theorem All_hold {w0 w : World} {s g c : Nat} {nds : List Nd} (h : Hold w0 w s g c nds) (hT : totalN nds ≤ 1000000) (v : Int) : Calls Try.prog 42 #[.pointer (some ⟨s, 0, none⟩), .int .i64 v] w (AllOut w nds v) := by
  obtain ⟨S, h1, h2⟩ := h.st
  exact store_All h2 h.small hT v
theorem Len_hold {w0 w : World} {s g c : Nat} {nds : List Nd} (h : Hold w0 w s g c nds) : Calls Try.prog 41 #[.pointer (some ⟨s, 0, none⟩)] w fun e w' => e = .returned (.int .i64 nds.length) ∧ w' = w := by
  obtain ⟨S, h1, h2⟩ := h.st
  exact store_Len h2
theorem setK_len (x : Acc) (ys : List Acc) : (setK x ys).length ≤ ys.length + 1 := by
  unfold setK; split <;> simp
theorem setFold_len : ∀ (xs ys : List Acc), (xs.foldl (fun ys x => setK x ys) ys).length ≤ ys.length + xs.length
  | [], ys => by simp
  | x :: xs, ys => by
    have h1 := setFold_len xs (setK x ys)
    have h2 := setK_len x ys
    simp only [List.foldl_cons, List.length_cons]
    omega
theorem setAll_len (xs : List Acc) : (setAll xs).length ≤ xs.length := by
  have := setFold_len xs []
  simpa [setAll] using this
theorem totalN_append (l m : List Nd) : totalN (l ++ m) = totalN l + totalN m := by simp [totalN]
/-- All that is stored is right. -/
structure Good (nds : List Nd) (n : Nat) : Prop where
  len : nds.length ≤ n + 1
  total : totalN nds ≤ 50 * n
  right : ∀ d ∈ nds, ∀ x ∈ d.xs, rightB x.stor = true
theorem Good.start : Good [⟨-1, none, []⟩] 0 := ⟨by simp, by simp [totalN], fun d hd x hx => by simp at hd; subst hd; simp at hx⟩
theorem badAny_right {xs : List Acc} (h : badAny xs = false) : ∀ x ∈ xs, rightB x.stor = true := fun x hx => by
  rw [badAny, List.any_eq_false] at h
  simpa using h x hx
theorem right_badAny {xs : List Acc} (h : ∀ x ∈ xs, rightB x.stor = true) : badAny xs = false := by
  rw [badAny, List.any_eq_false]
  intro x hx
  simp [h x hx]
theorem Good.commit {nds nds' : List Nd} {n : Nat} (h : Good nds n) {par : Int} {xs : List Acc} {a b : Int} (hc : Committed nds par xs a b nds') (hl : xs.length ≤ 50) : Good nds' (n + 1) := by
  have h1 := h.len
  have h2 := h.total
  rcases hc with ⟨_, hb, _, _, k, rfl⟩ | ⟨_, _, _, rfl⟩ | ⟨_, _, _, _, rfl⟩
  · refine ⟨by simp; omega, ?_, fun d hd x hx => ?_⟩
    · rw [totalN_append]
      have := setAll_len xs
      simp [totalN]
      unfold totalN at h2
      omega
    · rcases List.mem_append.1 hd with hd | hd
      · exact h.right d hd x hx
      · simp at hd; subst hd
        exact badAny_right hb x (setAll_mem hx)
  · exact ⟨by omega, by omega, h.right⟩
  · exact ⟨by omega, by omega, h.right⟩
theorem great_len {xs : List Acc} (h : greatB xs = false) : xs.length ≤ 50 := by
  simp only [greatB, Bool.or_eq_false_iff, decide_eq_false_iff_not] at h
  omega
/-! ### what is found behind a commit -/
theorem findF_mem {nds : List Nd} {a : Adr} : ∀ (f : Nat) (v : Int) (x : Acc), findF nds a f v = some x → ∃ d ∈ nds, x ∈ d.xs
  | 0, _, _, h => by simp [findF] at h
  | f + 1, v, x, h => by
    simp only [findF] at h
    split at h
    · cases hd : nds[v.toNat]? with
      | none => simp [hd] at h
      | some d =>
        simp only [hd] at h
        cases hk : findK a d.xs with
        | some y => simp only [hk] at h; cases h; exact ⟨d, List.mem_of_getElem? hd, findK_mem hk⟩
        | none => simp only [hk] at h; exact findF_mem f _ x h
    · cases h
theorem findV_mem {nds : List Nd} {v : Int} {a : Adr} {x : Acc} (h : findV nds v a = some x) : ∃ d ∈ nds, x ∈ d.xs := by
  unfold findV at h
  split at h
  · exact findF_mem _ _ _ h
  · cases h
/-- A version ahead stays. -/
theorem findF_append {nds : List Nd} (d : Nd) (hp : ParOk nds) (a : Adr) : ∀ (f : Nat) (v : Int), v < nds.length → findF (nds ++ [d]) a f v = findF nds a f v
  | 0, _, _ => rfl
  | f + 1, v, hv => by
    simp only [findF]
    split
    · rename_i h0
      have hi : v.toNat < nds.length := by omega
      rw [List.getElem?_append_left hi, List.getElem?_eq_getElem hi]
      simp only
      rw [findF_append d hp a f _ (by have := hp v.toNat hi; omega)]
    · rfl
theorem findV_append {nds : List Nd} (d : Nd) (hp : ParOk nds) (a : Adr) (v : Int) (hv : hasV nds v = true) : findV (nds ++ [d]) v a = findV nds v a := by
  have hv' : hasV (nds ++ [d]) v = true := by simp [hasV] at hv ⊢; omega
  have h1 : v < nds.length := by simp [hasV] at hv; omega
  rw [findV, findV, hv, hv']
  simp only [if_true]
  rw [findF_append d hp a _ v h1]
/-- The version just laid. -/
theorem findV_last {nds : List Nd} (par : Int) (m : Option Nat) (xs : List Acc) (hp : ParOk nds) (hv : hasV nds par = true) (a : Adr) : findV (nds ++ [⟨par, m, xs⟩]) nds.length a = (findK a xs).or (findV nds par a) := by
  have h0 : 0 ≤ par ∧ par < nds.length := by simp [hasV] at hv; omega
  have hv' : hasV (nds ++ [⟨par, m, xs⟩]) nds.length = true := by simp [hasV]; omega
  have e : ((nds.length : Int) + 1).toNat = nds.length + 1 := by omega
  rw [findV, hv', if_pos rfl, e]
  simp only [findF]
  rw [if_pos (by omega), Int.toNat_natCast, List.getElem?_append_right (Nat.le_refl _)]
  simp only [Nat.sub_self, List.getElem?_cons_zero]
  rw [findF_append _ hp a _ _ h0.2, findV, hv]
  cases findK a xs with
  | some x => rfl
  | none =>
    simp only [if_true, Option.none_or]
    exact findF_fuel hp a _ _ _ (by omega) (by omega)
/-- What is set again as it is, changes nothing. -/
theorem set_same {f : Adr → Option Acc} {zs : List Acc} (h : ∀ x ∈ zs, f x.adr = some x) (a : Adr) : (findK a (setAll zs)).or (f a) = f a := by
  cases hk : findK a (setAll zs) with
  | none => rfl
  | some x =>
    have hx : x ∈ zs := setAll_mem (findK_mem hk)
    have ha : x.adr = a := by simpa using List.find?_some hk
    rw [← ha, h x hx]
    rfl
theorem rising_accs {l m : List Acc} (h1 : Rising l) (h2 : Rising m) (h : ∀ x, x ∈ l ↔ x ∈ m) : l = m := by
  have e : l.map (·.adr) = m.map (·.adr) := by
    refine rising_eq (by rw [List.pairwise_map]; exact h1) (by rw [List.pairwise_map]; exact h2) fun a => ?_
    simp only [List.mem_map]
    constructor
    · rintro ⟨x, hx, rfl⟩; exact ⟨x, (h x).1 hx, rfl⟩
    · rintro ⟨x, hx, rfl⟩; exact ⟨x, (h x).2 hx, rfl⟩
  have hn : (m.map (·.adr)).Nodup := by
    refine List.Pairwise.imp (R := fun (a b : Adr) => a.lt b = true) (fun h e => lt_ne h e) ?_
    rw [List.pairwise_map]; exact h2
  have hinj : ∀ x ∈ m, ∀ y ∈ m, x.adr = y.adr → x = y := fun x hx y hy he => by
    obtain ⟨i, hi, rfl⟩ := List.getElem_of_mem hx
    obtain ⟨j, hj, rfl⟩ := List.getElem_of_mem hy
    have := (List.getElem_inj (xs := m.map (·.adr)) (h₀ := by simpa using hi) (h₁ := by simpa using hj) hn).1 (by simpa using he)
    subst this; rfl
  have hlen : l.length = m.length := by simpa using congrArg List.length e
  refine List.ext_getElem hlen fun i hi1 hi2 => ?_
  have he : l[i].adr = m[i].adr := by
    have := congrArg (fun t => t[i]?) e
    simpa [hi1, hi2] using this
  exact hinj _ ((h _).1 (List.getElem_mem hi1)) _ (List.getElem_mem hi2) he
end Go.Proofs.Ytadafohgglnneaa
