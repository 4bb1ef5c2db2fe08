/- Clearing lists of one's own: what it leaves; a store that some blocks are apart from. No condition. -/
import Derived.Test.YtadafohgglnneaaS10
namespace Go.Proofs.Ytadafohgglnneaa
open Go.RowKit
/-- A list that may be cleared: it lies in a block of S. -/
def Wipe (S : Nat → Prop) (w : World) (p : Option Addr) (n k : Nat) : Prop := n = 0 ∨ ∃ b o, p = some ⟨b, o, none⟩ ∧ S b ∧ b < w.heap.size ∧ openB w b = true ∧ o + n * k ≤ (rowOf w b).size
/-- What clearing leaves: blocks of S are written, all stay as long. -/
structure Wiped (S : Nat → Prop) (w w' : World) : Prop where
  kept : Kept S w w'
  open_ : ∀ b, b < w.heap.size → openB w' b = openB w b
  size : ∀ b, b < w.heap.size → (rowOf w' b).size = (rowOf w b).size
theorem Wiped.refl (S : Nat → Prop) (w : World) : Wiped S w w := ⟨.refl _ _, fun _ _ => rfl, fun _ _ => rfl⟩
theorem Wiped.of_below {S : Nat → Prop} {w w' : World} (h : Below w.heap.size w w') : Wiped S w w' := ⟨.of_below h, fun b hb => openB_same (h.block b hb), fun b hb => by rw [bel_row h b hb]⟩
theorem Wiped.trans {S : Nat → Prop} {a b c : World} (h : Wiped S a b) (k : Wiped S b c) : Wiped S a c :=
  ⟨h.kept.trans k.kept, fun x hx => by rw [k.open_ x (Nat.lt_of_lt_of_le hx h.kept.size), h.open_ x hx], fun x hx => by rw [k.size x (Nat.lt_of_lt_of_le hx h.kept.size), h.size x hx]⟩
theorem Wiped.setSeg {S : Nat → Prop} (w : World) (b o : Nat) (vs : List Value) (h : S b) : Wiped S w (World.setSeg w b o vs) :=
  ⟨(Kept.refl _ w).setSeg _ _ _ (.inl h), fun x _ => by simp only [openB, isRow_setSeg, rowFr_setSeg], fun x _ => by
    by_cases e : x = b
    · subst e; rw [rowOf_setSeg_same]; simp
    · rw [rowOf_setSeg_other _ _ _ _ _ e]⟩
theorem Wipe.wiped {S T : Nat → Prop} {w w' : World} {p : Option Addr} {n k : Nat} (h : Wipe S w p n k) (hw : Wiped T w w') : Wipe S w' p n k := by
  rcases h with h | ⟨b, o, h1, h2, h3, h4, h5⟩
  · exact .inl h
  · exact .inr ⟨b, o, h1, h2, Nat.lt_of_lt_of_le h3 hw.kept.size, by rw [hw.open_ b h3]; exact h4, by rw [hw.size b h3]; exact h5⟩
theorem zeroCells_size (z : Array Value) (n : Nat) : (Builtin.zeroCells z n).size = n * z.size := by simp [Builtin.zeroCells]
theorem zeroCells_one {z : Array Value} (n : Nat) (h : ones z = true) : ones (Builtin.zeroCells z n) = true := by
  by_cases hz : z.size = 0
  · have : (Builtin.zeroCells z n).size = 0 := by rw [zeroCells_size, hz, Nat.mul_zero]
    rw [Array.eq_empty_of_size_eq_zero this]; rfl
  · refine ones_of fun v hv => ?_
    simp only [Builtin.zeroCells, Array.mem_map] at hv
    obtain ⟨i, _, rfl⟩ := hv
    have hi : i % z.size < z.size := Nat.mod_lt _ (by omega)
    rw [getElem!_pos z _ hi]
    exact ones_mem h _ (Array.getElem_mem hi)
theorem run_clear {S : Nat → Prop} {t e : TypeId} {z : Value} (ty : TypeId) (w : World) (p : Option Addr) (n c : Nat) (ht : Try.prog.underlying t = some (.slice e)) (hz : ∀ W, (zeroValue e).run Try.prog W = .ok z W) (h1 : ones z.cells = true) (h : Wipe S w p n z.cells.size) :
    ∃ v w', (Builtin.clear_ #[t] ty #[.slice p n c]).run Try.prog w = .ok v w' ∧ Wiped S w w' := by
  rcases h with rfl | ⟨b, o, rfl, h2, h3, h4, h5⟩
  · refine ⟨.tuple #[], w, ?_, .refl _ _⟩
    cases p <;> simp [Builtin.clear_, run_underlying ht, Result.andThen] <;> rfl
  · by_cases hn : n = 0
    · subst hn
      refine ⟨.tuple #[], w, ?_, .refl _ _⟩
      simp [Builtin.clear_, run_underlying ht, Result.andThen] <;> rfl
    · obtain ⟨m, rfl⟩ : ∃ m, n = m + 1 := ⟨n - 1, by omega⟩
      simp only [openB, Bool.and_eq_true, decide_eq_true_eq] at h4
      refine ⟨.tuple #[], World.setSeg w b o (Builtin.zeroCells z.cells (m + 1)).toList, ?_, .setSeg _ _ _ _ h2⟩
      have hrun := run_storeRow (P := Try.prog) b (Builtin.zeroCells z.cells (m + 1)).toList w o 0 h4.1 h4.2 (by simpa [zeroCells_size] using h5) (fun v hv => ones_mem (zeroCells_one _ h1) v (by simpa using hv))
      simp [Builtin.clear_, run_underlying ht, hz, hrun, Result.andThen]
theorem wpList_clear {S : Nat → Prop} {w : World} {ops : Array Oper} {rest : List Oper} {o : Oper} {a : Act} {Q : Exit → Act → World → Prop} (hg : o.guard = none) (x : Operand) (t : TypeId)
    (hop : o.op = .call { callee := .builtin .clear, args := #[x], argTypes := #[t] }) (hd : o.dst = none) {e : TypeId} {z : Value} (p : Option Addr) (n c : Nat) (ht : Try.prog.underlying t = some (.slice e)) (hz : ∀ W, (zeroValue e).run Try.prog W = .ok z W) (h1 : ones z.cells = true)
    (hx : a.eval x = .slice p n c) (h : Wipe S w p n z.cells.size) (hK : ∀ w', Wiped S w w' → wpList Try.prog ops Q rest a w') : wpList Try.prog ops Q (o :: rest) a w := by
  obtain ⟨v, w', hrun, h2⟩ := run_clear o.type w p n c ht hz h1 h
  refine wpList_plain hg fun K' hK' => ?_
  unfold Oper.wp
  simp [execOp, hop, resolve, invoke, builtin, hx, hrun, Result.andThen]
  have h3 : a.put o.dst v = a := by rw [hd]; rfl
  have h4 := hK' (a.put o.dst v) w'
  rw [h3] at h4
  have h5 := h4 (hK w' h2)
  rw [← h3] at h5
  exact h5
/-- An account's cells whose lists may be cleared. -/
def WipeRow (S : Nat → Prop) (w : World) (r : Array Value) : Prop := ∃ adr n bal p1 n1 c1 p2 n2 c2, r = accRow adr n bal (.slice p1 n1 c1) (.slice p2 n2 c2) ∧ Wipe S w p1 n1 1 ∧ Wipe S w p2 n2 8
theorem WipeRow.wiped {S T : Nat → Prop} {w w' : World} {r : Array Value} (h : WipeRow S w r) (hw : Wiped T w w') : WipeRow S w' r := by
  obtain ⟨a, n, b, p1, n1, c1, p2, n2, c2, e, h1, h2⟩ := h
  exact ⟨a, n, b, p1, n1, c1, p2, n2, c2, e, h1.wiped hw, h2.wiped hw⟩
theorem wipe_of {S : Nat → Prop} {w : World} {v : Value} {n k : Nat} {cs : Array Value} (h : SlIn (fun b => S b ∧ b < w.heap.size ∧ openB w b = true) w v n cs) (hc : cs.size = n * k) (hk : 0 < k) : ∃ p c, v = .slice p n c ∧ Wipe S w p n k := by
  rcases h with ⟨rfl, rfl, _⟩ | ⟨a, c, rfl, _, _, h⟩
  · exact ⟨none, 0, rfl, .inl rfl⟩
  · refine ⟨some a, c, rfl, ?_⟩
    rcases h with h | ⟨h1, h2, h3, _⟩
    · left
      rw [hc] at h
      rcases Nat.mul_eq_zero.1 h with h | h
      · exact h
      · omega
    · obtain ⟨b, o, sp⟩ := a
      simp only at h1 h2 h3
      subst h1
      exact .inr ⟨b, o, rfl, h2.1, h2.2.1, h2.2.2, by rw [← hc]; exact h3⟩
theorem wipeRow_of {S : Nat → Prop} {w : World} {r : Array Value} {x : Acc} (h : AccIn (fun b => S b ∧ b < w.heap.size ∧ openB w b = true) w r x) : WipeRow S w r := by
  obtain ⟨c, s, rfl, h1, h2⟩ := h
  obtain ⟨p1, c1, rfl, q1⟩ := wipe_of (k := 1) h1 (by simp) (by decide)
  obtain ⟨p2, c2, rfl, q2⟩ := wipe_of (k := 8) h2 (by simp [sltRow_size]) (by decide)
  exact ⟨_, _, _, _, _, _, _, _, _, rfl, q1, q2⟩
/-- A row of such cells, in a block that clearing leaves. -/
structure WipeAt (S : Nat → Prop) (w : World) (v : Value) (n : Nat) : Prop where
  at_ : n = 0 ∨ ∃ b c, v = .slice (some ⟨b, 0, none⟩) n c ∧ n ≤ c ∧ c ≤ maxLen ∧ b < w.heap.size ∧ ¬ S b ∧ n * 27 ≤ (rowOf w b).size ∧ ∀ k, k < n → ∃ r, (rowOf w b).extract (k * 27) (k * 27 + 27) = r ∧ WipeRow S w r
theorem AccOut.wipe {N : Nat → Prop} {w0 w : World} {v : Value} {ys : List Acc} (h : AccOut N w0 w v ys) : WipeAt (fun b => w0.heap.size ≤ b ∧ b < w.heap.size ∧ v.ownBlock ≠ some b) w v ys.length := by
  obtain ⟨⟨rs, p, q⟩, h3, h4⟩ := h
  by_cases h0 : ys.length = 0
  · exact ⟨.inl h0⟩
  obtain ⟨p1, p2⟩ := p
  rcases p2 with ⟨_, hz⟩ | ⟨g, cap, cur, rfl, q1, q2, q3, q4, q5, q6⟩
  · exact absurd hz h0
  have hcur : rowOf w g = cur := by simp [rowOf, q2]
  have hgl := (Array.getElem?_eq_some_iff.1 q2).1
  have hq := q.length
  have hz := q.sizes
  refine ⟨.inr ⟨g, cap, rfl, q3, q4, hgl, fun e => e.2.2 rfl, by rw [hcur, q5]; exact Nat.mul_le_mul_right _ q3, fun k hk => ?_⟩⟩
  have hk' : k < rs.length := by omega
  refine ⟨rs[k], ?_, ?_⟩
  · rw [hcur]
    have hj : (joinR rs).size = ys.length * 27 := by rw [joinR_size 27 rs hz, hq]
    have e5 : cur.extract 0 (0 + (joinR rs).size) = joinR rs := by
      rw [Nat.zero_add, hj]
      apply Array.ext'
      rw [Array.toList_extract]
      simpa using q6
    have := seg_part (by rw [Nat.zero_add, hj, q5]; exact Nat.mul_le_mul_right _ q3) e5 (by rw [hj]; omega) (joinR_part 27 rs k hk' hz)
    simpa using this
  · exact wipeRow_of ((q.get k hk' hk).mono fun b hb => ⟨⟨hb.1, hb.2.1, hb.2.2.2.1⟩, hb.2.1, hb.2.2.2.2⟩)
theorem WipeAt.kept {S : Nat → Prop} {w w' : World} {v : Value} {n : Nat} (h : WipeAt S w v n) {M : Nat → Prop} (hk : Kept M w w') (hS : ∀ b, S b → ¬ M b) (hv : ∀ b, v.ownBlock = some b → ¬ M b) : WipeAt S w' v n := by
  have hz := hk.size
  obtain ⟨h | ⟨b, c, rfl, h1, h2, h3, h4, h5, h6⟩⟩ := h
  · exact ⟨.inl h⟩
  · have hb : ¬ M b := hv b rfl
    refine ⟨.inr ⟨b, c, rfl, h1, h2, by omega, h4, by rw [hk.row b h3 hb]; exact h5, fun k hk' => ?_⟩⟩
    obtain ⟨r, e, a1, a2, a3, p1, n1, c1, p2, n2, c2, e1, x1, x2⟩ := h6 k hk'
    have hw : ∀ p n k, Wipe S w p n k → Wipe S w' p n k := fun p n k hx => by
      rcases hx with hx | ⟨b', o, e1, e2, e3, e4, e5⟩
      · exact .inl hx
      · exact .inr ⟨b', o, e1, e2, by omega, by rw [openB_same (hk.block b' e3 (hS b' e2))]; exact e4, by rw [hk.row b' e3 (hS b' e2)]; exact e5⟩
    exact ⟨r, by rw [hk.row b h3 hb]; exact e, a1, a2, a3, p1, n1, c1, p2, n2, c2, e1, hw _ _ _ x1, hw _ _ _ x2⟩
theorem WipeAt.wiped {S : Nat → Prop} {w w' : World} {v : Value} {n : Nat} (h : WipeAt S w v n) (hw : Wiped S w w') : WipeAt S w' v n := by
  have hz := hw.kept.size
  obtain ⟨h | ⟨b, c, rfl, h1, h2, h3, h4, h5, h6⟩⟩ := h
  · exact ⟨.inl h⟩
  · refine ⟨.inr ⟨b, c, rfl, h1, h2, by omega, h4, by rw [hw.kept.row b h3 h4]; exact h5, fun k hk' => ?_⟩⟩
    obtain ⟨r, e, hr⟩ := h6 k hk'
    exact ⟨r, by rw [hw.kept.row b h3 h4]; exact e, hr.wiped hw⟩
/-! ### a store, and blocks apart from it -/
structure HoldN (N : Nat → Prop) (w0 w : World) (s g c : Nat) (nds : List Nd) : Prop where
  st : ∃ S, (∀ b, S b → w0.heap.size ≤ b ∧ b < w.heap.size ∧ ¬ N b) ∧ StoreAt S w s g c nds
  maps : ∀ d ∈ nds, ∀ m, d.m = some m → ¬ N m
  ns : ¬ N s
  ng : ¬ N g
  s0 : w0.heap.size ≤ s
  g0 : w0.heap.size ≤ g
  bel : Below w0.heap.size w0 w
  small : SmallNds nds
section
variable {N : Nat → Prop} {w0 w w' : World} {s g c : Nat} {nds : List Nd}
theorem HoldN.hold (h : HoldN N w0 w s g c nds) : Hold w0 w s g c nds := by
  obtain ⟨⟨S, h1, h2⟩, h3, h4, h5, h6, h7, h8, h9⟩ := h
  exact ⟨⟨S, fun b hb => ⟨(h1 b hb).1, (h1 b hb).2.1⟩, h2⟩, h6, h7, h8, h9⟩
theorem NdIn.lt {S : Nat → Prop} {d : Nd} (h : NdIn S w d) {m : Nat} (hm : d.m = some m) : m < w.heap.size := by
  unfold NdIn at h
  rw [hm] at h
  obtain ⟨kn, kc, e1, _⟩ := h
  exact objAt_lt e1
theorem Hold.mark (h : Hold w0 w s g c nds) : HoldN (fun b => w.heap.size ≤ b) w0 w s g c nds := by
  obtain ⟨⟨S, h1, h2⟩, h6, h7, h8, h9⟩ := h
  obtain ⟨l1, l2⟩ := h2.lt
  exact ⟨⟨S, fun b hb => ⟨(h1 b hb).1, (h1 b hb).2, by have := (h1 b hb).2; omega⟩, h2⟩, fun d hd m hm => by have := (h2.nodes d hd).lt hm; omega, by omega, by omega, h6, h7, h8, h9⟩
theorem HoldN.below (h : HoldN N w0 w s g c nds) (hb : Below w.heap.size w w') : HoldN N w0 w' s g c nds := by
  obtain ⟨⟨S, h1, h2⟩, h3, h4, h5, h6, h7, h8, h9⟩ := h
  have := hb.size
  exact ⟨⟨S, fun b hb' => ⟨(h1 b hb').1, by have := (h1 b hb').2.1; omega, (h1 b hb').2.2⟩, h2.below hb⟩, h3, h4, h5, h6, h7, bel_trans h8 hb, h9⟩
theorem HoldN.more {N' : Nat → Prop} (h : HoldN N w0 w s g c nds) (hN : ∀ b, N' b → N b) : HoldN N' w0 w s g c nds := by
  obtain ⟨⟨S, h1, h2⟩, h3, h4, h5, h6, h7, h8, h9⟩ := h
  exact ⟨⟨S, fun b hb => ⟨(h1 b hb).1, (h1 b hb).2.1, fun e => (h1 b hb).2.2 (hN b e)⟩, h2⟩, fun d hd m hm e => h3 d hd m hm (hN m e), fun e => h4 (hN _ e), fun e => h5 (hN _ e), h6, h7, h8, h9⟩
theorem HoldN.kept {M : Nat → Prop} (h : HoldN N w0 w s g c nds) (hk : Kept M w w') (hM : ∀ b, M b → N b ∧ w0.heap.size ≤ b) : HoldN N w0 w' s g c nds := by
  obtain ⟨⟨S, h1, h2⟩, h3, h4, h5, h6, h7, h8, h9⟩ := h
  have := hk.size
  exact ⟨⟨S, fun b hb => ⟨(h1 b hb).1, by have := (h1 b hb).2.1; omega, (h1 b hb).2.2⟩, h2.kept hk (fun b hb e => (h1 b hb).2.2 (hM b e).1) (fun e => h4 (hM _ e).1) (fun e => h5 (hM _ e).1) (fun d hd m hm e => h3 d hd m hm (hM _ e).1)⟩, h3, h4, h5, h6, h7, bel_kept h8 hk (fun x hx e => by have := (hM x e).2; omega), h9⟩
def CommitOutN (N : Nat → Prop) (w0 w : World) (s g : Nat) (nds : List Nd) (par : Int) (xs : List Acc) (e : Ending) (w' : World) : Prop :=
  ∃ n m g' c' nds', e = .returned (.tuple #[.int .i64 n, .int .i64 m]) ∧ Committed nds par xs n m nds' ∧ HoldN N w0 w' s g' c' nds' ∧ (g' = g ∨ w.heap.size ≤ g') ∧ Kept (fun b => b = s ∨ b = g) w w'
theorem commit_anyN {T : Nat → Prop} (h : HoldN N w0 w s g c nds) (hN : ∀ b, N b → b < w.heap.size) (par : Int) (v : Value) (xs : List Acc) (hx : AccsAt T w v xs) (hn : nds.length < 1048576) (hsm : ∀ x ∈ xs, smallAcc x) :
    Calls Try.prog 29 #[.pointer (some ⟨s, 0, none⟩), .int .i64 par, v] w (CommitOutN N w0 w s g nds par xs) := by
  have h' := h
  obtain ⟨⟨S, h1, h2⟩, h3, h4, h5, h6, h7, h8, h9⟩ := h
  cases hv : hasV nds par with
  | false =>
    obtain ⟨p, n, rfl⟩ := hx.form
    refine (commit_none h2 par p _ n hv).mono ?_
    rintro e w' ⟨rfl, hb⟩
    exact ⟨0, 12, g, c, nds, rfl, .inr (.inl ⟨hv, rfl, rfl, rfl⟩), h'.below hb, .inl rfl, .of_below hb⟩
  | true =>
    cases hb : badAny xs with
    | true =>
      refine (commit_bad h2 par v xs hx hv hb).mono ?_
      rintro e w' ⟨rfl, hbw⟩
      exact ⟨0, 1, g, c, nds, rfl, .inr (.inr ⟨hv, hb, rfl, rfl, rfl⟩), h'.below hbw, .inl rfl, .of_below hbw⟩
    | false =>
      refine (commit_ok h2 par v xs hx hv hb hn hsm (fun b hb => (h1 b hb).2.1)).mono ?_
      rintro e w' ⟨g', c', k, rfl, q1, q2, q3, q4⟩
      have hs := h8.size
      have hs2 := q4.size
      refine ⟨_, 0, g', c', _, rfl, .inl ⟨hv, hb, rfl, rfl, k, rfl⟩, ⟨⟨_, fun b hb => ?_, q1⟩, fun d hd m hm e => ?_, h4, ?_, h6, by omega, bel_kept h8 q4 (fun x hx e => by omega), ?_⟩, q2, q4⟩
      · rcases hb with hb | ⟨hb, _⟩
        · obtain ⟨x1, x2, x3⟩ := h1 b hb
          exact ⟨x1, by omega, x3⟩
        · unfold Fresh at hb
          exact ⟨by omega, by omega, fun e => by have := hN b e; omega⟩
      · rcases List.mem_append.1 hd with hd | hd
        · exact h3 d hd m hm e
        · simp at hd
          subst hd
          cases hm
          have := hN _ e
          omega
      · rcases q2 with rfl | q2
        · exact h5
        · intro e; have := hN _ e; omega
      · intro d hd x hx'
        rcases List.mem_append.1 hd with hd | hd
        · exact h9 d hd x hx'
        · simp at hd; subst hd
          exact hsm x (setAll_mem hx')
end
/-! ### what stays of versions ahead -/
/-- nds' goes on from nds. -/
structure Ext (nds nds' : List Nd) : Prop where
  len : nds.length ≤ nds'.length
  find : ∀ v : Int, v < nds.length → ∀ a, findV nds' v a = findV nds v a
theorem Ext.refl (nds : List Nd) : Ext nds nds := ⟨Nat.le_refl _, fun _ _ _ => rfl⟩
theorem Ext.commit {nds nds1 nds2 : List Nd} (h : Ext nds nds1) (hp : ParOk nds1) {par : Int} {xs : List Acc} {n m : Int} (hc : Committed nds1 par xs n m nds2) : Ext nds nds2 := by
  have h1 := h.len
  rcases hc with ⟨_, _, _, _, k, rfl⟩ | ⟨_, _, _, rfl⟩ | ⟨_, _, _, _, rfl⟩
  · refine ⟨by simp; omega, fun v hv a => ?_⟩
    rw [← h.find v hv a]
    by_cases h0 : hasV nds1 v = true
    · exact findV_append _ hp a v h0
    · have hn : v < 0 := by simp [hasV] at h0; omega
      have e1 : hasV nds1 v = false := by simp [hasV]; omega
      have e2 : hasV (nds1 ++ [⟨par, some k, setAll xs⟩]) v = false := by simp [hasV]; omega
      rw [findV, findV, e1, e2]; rfl
  · exact h
  · exact h
/-- Just a version's accounts that aren't empty, by rising addresses. -/
def IsAll (nds : List Nd) (v : Int) (zs : List Acc) : Prop := Rising zs ∧ ∀ x, x ∈ zs ↔ findV nds v x.adr = some x ∧ emptyAt x = false
theorem IsAll.eq {nds nds' : List Nd} {v : Int} (he : Ext nds nds') (hv : v < nds.length) {zs ys : List Acc} (h1 : IsAll nds v zs) (h2 : IsAll nds' v ys) : ys = zs :=
  (fun {f g : Adr → Option Acc} (h : ∀ a, f a = g a) {zs ys : List Acc} (h1 : Rising zs) (h2 : Rising ys) (e1 : ∀ x, x ∈ zs ↔ f x.adr = some x ∧ emptyAt x = false) (e2 : ∀ x, x ∈ ys ↔ g x.adr = some x ∧ emptyAt x = false) => rising_accs h1 h2 fun x => by rw [e1, e2, h]) (fun a => he.find v hv a) h2.1 h1.1 h2.2 h1.2
end Go.Proofs.Ytadafohgglnneaa
