/- A copy by append; a row of rows of accounts. No condition. -/
import Derived.Test.YtadafohgglnneaaN1
namespace Go.Proofs.Ytadafohgglnneaa
open Go.RowKit
theorem elt32 : Elt 32 1 24 := Elt.mk' (z := .slice none 0 0) (by kernel_rfl) (by simp [Value.cells]) (by decide)
theorem elt5 : Elt 5 1 1 := Elt.mk' (z := .int .u8 0) (by kernel_rfl) (by simp [Value.cells]) (by decide)
/-- 'append([]T{}, l...)': the run, where the empty row was just laid. -/
theorem run_copy {t e : TypeId} {size bytes : Nat} (hE : Elt e size bytes) (ht : Try.prog.underlying t = some (.slice e)) (ty : TypeId) {V : World} {S : Nat → Prop} {sv : Value} {n : Nat} {cs : Array Value} (hsv : SlIn S V sv n cs) (hc : cs.size = n * size) (h1 : ones cs = true) (hlen : n * bytes ≤ 140737488355328) (hmx : n ≤ maxLen) :
    ∃ p c w', (Builtin.append_ #[t, t] ty #[.slice (some ⟨V.heap.size, 0, none⟩) 0 0, sv]).run Try.prog (V.alloc (.cells #[] e)) = .ok (.slice p n c) w' ∧ SlIn (FreshO V w') w' (.slice p n c) n cs ∧ Below V.heap.size V w' := by
  obtain ⟨⟨i, z, i1, i2, i3, i4, i5⟩, hp⟩ := hE
  have hB : Below V.heap.size V (V.alloc (.cells #[] e)) := bel_alloc (Below.refl _ _) _
  have hm : (V.alloc (.cells #[] e)).ownsRow V.heap.size e size (.slice (some ⟨V.heap.size, 0, none⟩) 0 0) 0 [] := World.ownsRow_made _ _ _ (Nat.le_refl _) (Nat.zero_le _) (by simp)
  have hsv' := hsv.below hB
  rcases hsv' with ⟨rfl, hz1, hz2⟩ | ⟨a, c, rfl, hnc, hcm, hseg⟩
  · subst hz1
    have hrun := run_append_owned_none (P := Try.prog) (w := V.alloc (.cells #[] e)) V.heap.size t ty e i size ht i1 _ 0 [] hm
    exact ⟨_, _, _, hrun, .inr ⟨_, _, rfl, Nat.le_refl _, by decide, .inl hz2⟩, hB⟩
  · have hcl := segIn_cells hseg
    obtain ⟨v', w', hrun, r1, r2, r3⟩ := run_append_own (P := Try.prog) (V.alloc (.cells #[] e)) V.heap.size t ty e i z size bytes ht i1 i2 i3 i4 i5 hp _ 0 [] hm a n c cs.toList (by simpa using hc) hcl (ones_list h1) (by omega) (by rw [Nat.zero_add]; exact hlen) (by simp)
    have h5 := ownsRow_segO r1
    rw [Nat.zero_add, List.nil_append, Array.toArray_toList] at h5
    obtain ⟨p, c', rfl⟩ := h5.form
    exact ⟨p, c', w', hrun, h5.mono fun b hb => hb, bel_grown hB r2 (fun k hk => by simp [Value.ownBlock] at hk; omega)⟩
theorem wpList_copy {t e : TypeId} {size bytes : Nat} {ops : Array Oper} {rest : List Oper} {o : Oper} {a : Act} {Q : Exit → Act → World → Prop} (hgd : o.guard = none) (s x : Operand)
    (hop : o.op = .call { callee := .builtin .append, args := #[s, x], argTypes := #[t, t] }) (hE : Elt e size bytes) (ht : Try.prog.underlying t = some (.slice e)) {V : World} {S : Nat → Prop} {sv : Value} {n : Nat} {cs : Array Value} (hsv : SlIn S V sv n cs) (hc : cs.size = n * size) (h1 : ones cs = true) (hlen : n * bytes ≤ 140737488355328) (hmx : n ≤ maxLen)
    (hs : a.eval s = .slice (some ⟨V.heap.size, 0, none⟩) 0 0) (hx : a.eval x = sv)
    (hK : ∀ p c w', SlIn (FreshO V w') w' (.slice p n c) n cs → Below V.heap.size V w' → wpList Try.prog ops Q rest (a.put o.dst (.slice p n c)) w') :
    wpList Try.prog ops Q (o :: rest) a (V.alloc (.cells #[] e)) := by
  obtain ⟨p, c, w', hrun, r1, r2⟩ := run_copy hE ht o.type hsv hc h1 hlen hmx
  refine wpList_plain hgd fun _ hKK => ?_
  unfold Oper.wp
  simp [execOp, hop, resolve, invoke, builtin, hs, hx, hrun, Result.andThen]
  exact hKK _ _ (hK _ _ _ r1 r2)
/-- What is kept of versions: a row of rows of accounts. -/
structure Was (B w : World) (nds : List Nd) (wv : Value) (vs : List Value) : Prop where
  row : RowOut 32 1 (fun _ r (y : Value) => r = #[y]) B w wv vs
  all : ∀ k (h : k < vs.length), ∃ zs, AccsAt (fun b => B.heap.size ≤ b ∧ b < w.heap.size ∧ wv.ownBlock ≠ some b) w vs[k] zs ∧ IsAll nds k zs
theorem Was.nil (B w : World) (nds : List Nd) (hb : Below B.heap.size B w) : Was B w nds (.slice none 0 0) [] := ⟨.nil hb, fun k h => by simp at h⟩
theorem Was.below {B w w' : World} {nds : List Nd} {wv : Value} {vs : List Value} (h : Was B w nds wv vs) (hb : Below w.heap.size w w') : Was B w' nds wv vs := by
  have hz := hb.size
  refine ⟨h.row.below .eq hb, fun k hk => ?_⟩
  obtain ⟨zs, h1, h2⟩ := h.all k hk
  exact ⟨zs, (h1.below hb).mono fun b hb => ⟨hb.1, by omega, hb.2.2⟩, h2⟩
theorem Was.snoc {B w W w' : World} {nds : List Nd} {wv wv' v : Value} {vs : List Value} {zs : List Acc} (h : Was B w nds wv vs) (hb : Below w.heap.size w W) (hv : AccsAt (fun b => w.heap.size ≤ b ∧ b < W.heap.size) W v zs) (hi : IsAll nds vs.length zs)
    (hr : RowOut 32 1 (fun _ r (y : Value) => r = #[y]) B w' wv' (vs ++ [v])) (hk : Kept (fun k => wv.ownBlock = some k) W w') (hg : ∀ g, wv'.ownBlock = some g → wv.ownBlock = some g ∨ W.heap.size ≤ g) : Was B w' nds wv' (vs ++ [v]) := by
  have hbase := h.row.base
  have hz := hb.size
  have hz2 := hk.size
  have hB := h.row.bel.size
  refine ⟨hr, fun k hk' => ?_⟩
  by_cases e : k < vs.length
  · rw [List.getElem_append_left e]
    obtain ⟨ys, h1, h2⟩ := h.all k e
    refine ⟨ys, ((h1.below hb).kept hk (fun b hb e => hb.2.2 e)).mono fun b hb => ⟨hb.1, by omega, fun e => ?_⟩, h2⟩
    rcases hg b e with e | e
    · exact hb.2.2 e
    · omega
  · have hkl : k = vs.length := by simp at hk'; omega
    subst hkl
    rw [List.getElem_append_right (Nat.le_refl _)]
    simp only [Nat.sub_self, List.getElem_cons_zero]
    refine ⟨zs, (hv.kept hk (fun b hb e => by have := hbase b e; omega)).mono fun b hb => ⟨by omega, by omega, fun e => ?_⟩, hi⟩
    rcases hg b e with e | e
    · have := hbase b e; omega
    · omega
/-- What commits write leaves what was kept. -/
theorem Was.read {B w w' : World} {nds : List Nd} {wv : Value} {vs : List Value} (h : Was B w nds wv vs) {M : Nat → Prop} (hk : Kept M w w') (hM : ∀ b, M b → b < B.heap.size) :
    RowsAt (fun b => B.heap.size ≤ b ∧ b < w.heap.size) (fun _ r (y : Value) => r = #[y]) w' wv vs ∧ ∀ k (h : k < vs.length), ∃ zs, AccsAt AnyBlock w' vs[k] zs ∧ IsAll nds k zs := by
  refine ⟨?_, fun k hk' => ?_⟩
  · exact RowsAt.same (f := fun y : Value => #[y]) h.row.rows fun b hb hS => hk.block b hb (fun e => by have := hM b e; omega)
  · obtain ⟨zs, h1, h2⟩ := h.all k hk'
    exact ⟨zs, (h1.kept hk (fun b hb e => by have := hM b e; omega)).mono fun _ _ => trivial, h2⟩
/-- An account whose lists were copied, each in its turn, lies in lists of its own. -/
theorem own_lists {wr w6 w7 : World} {adr : Adr} {nonce : Int} {bal : Wrd} {row0 : Array Value} {code : List UInt8} {stor : List Slt} {p1 p2 : Option Addr} {k1 k2 : Nat}
    (hv1 : SlIn (FreshO (wr.alloc (.cells row0 30)) w6) w6 (.slice p1 code.length k1) code.length (ints .u8 (bI code))) (hb1 : Below (wr.alloc (.cells row0 30)).heap.size (wr.alloc (.cells row0 30)) w6)
    (hb2 : Below (w6.setCell ⟨wr.heap.size, 25, none⟩ (.slice p1 code.length k1)).heap.size (w6.setCell ⟨wr.heap.size, 25, none⟩ (.slice p1 code.length k1)) w7)
    (hv2 : SlIn (FreshO (w6.setCell ⟨wr.heap.size, 25, none⟩ (.slice p1 code.length k1)) w7) w7 (.slice p2 stor.length k2) stor.length (sltRow stor)) :
    Below wr.heap.size wr ((w7.setCell ⟨wr.heap.size, 26, none⟩ (.slice p2 stor.length k2)).alloc (.cells (accRow adr nonce bal (.slice p1 code.length k1) (.slice p2 stor.length k2)) 30)) ∧
    AccIn (fun k => wr.heap.size ≤ k ∧ k < ((w7.setCell ⟨wr.heap.size, 26, none⟩ (.slice p2 stor.length k2)).alloc (.cells (accRow adr nonce bal (.slice p1 code.length k1) (.slice p2 stor.length k2)) 30)).heap.size ∧ openB ((w7.setCell ⟨wr.heap.size, 26, none⟩ (.slice p2 stor.length k2)).alloc (.cells (accRow adr nonce bal (.slice p1 code.length k1) (.slice p2 stor.length k2)) 30)) k = true)
      ((w7.setCell ⟨wr.heap.size, 26, none⟩ (.slice p2 stor.length k2)).alloc (.cells (accRow adr nonce bal (.slice p1 code.length k1) (.slice p2 stor.length k2)) 30)) (accRow adr nonce bal (.slice p1 code.length k1) (.slice p2 stor.length k2)) ⟨adr, nonce, bal, code, stor⟩ := by
  have hz1 := hb1.size
  have hz2 := hb2.size
  simp only [World.size_alloc, World.size_setCell] at hz1 hz2
  have B1 : Below wr.heap.size wr w6 := bel_trans (bel_alloc (Below.refl _ _) _) hb1
  have B2 : Below wr.heap.size wr w7 := bel_trans (bel_setCell B1 ⟨wr.heap.size, 25, none⟩ _ (Nat.le_refl _)) hb2
  have e2 : ∀ b, wr.heap.size + 1 ≤ b → b < w7.heap.size → ((w7.setCell ⟨wr.heap.size, 26, none⟩ (.slice p2 stor.length k2)).alloc (.cells (accRow adr nonce bal (.slice p1 code.length k1) (.slice p2 stor.length k2)) 30)).heap[b]? = w7.heap[b]? := fun b h1 h2 => by
    rw [heap_alloc_old _ _ (by simp; exact h2), Below.heap_setCell _ _ _ _ (by simp only; omega)]
  have e1 : ∀ b, wr.heap.size + 1 ≤ b → b < w6.heap.size → ((w7.setCell ⟨wr.heap.size, 26, none⟩ (.slice p2 stor.length k2)).alloc (.cells (accRow adr nonce bal (.slice p1 code.length k1) (.slice p2 stor.length k2)) 30)).heap[b]? = w6.heap[b]? := fun b h1 h2 => by
    rw [e2 b h1 (by omega), hb2.block b (by simp; exact h2), Below.heap_setCell _ _ _ _ (by simp only; omega)]
  refine ⟨bel_alloc (bel_setCell B2 _ _ (Nat.le_refl _)) _, _, _, rfl, ?_, ?_⟩
  · refine (hv1.same fun b hb hF => e1 b ?_ hb).mono fun b hb => ?_
    · simpa using hF.1
    · obtain ⟨h1, h2, h3⟩ := hb
      simp at h1
      exact ⟨by omega, by simp; omega, by rw [openB_same (e1 b (by omega) h2)]; exact h3⟩
  · refine (hv2.same fun b hb hF => e2 b ?_ hb).mono fun b hb => ?_
    · have := hF.1; simp at this; omega
    · obtain ⟨h1, h2, h3⟩ := hb
      simp at h1
      exact ⟨by omega, by simp; omega, by rw [openB_same (e2 b (by omega) h2)]; exact h3⟩
theorem Kept.thn {M M' : Nat → Prop} {a b c : World} (h : Kept M a b) (k : Kept M' b c) (hm : ∀ x, x < a.heap.size → M' x → M x) : Kept M a c :=
  ⟨k.os.trans h.os, k.tape.trans h.tape, k.output.trans h.output, Nat.le_trans h.size k.size, fun x hx hn => by
    rw [k.block x (Nat.lt_of_lt_of_le hx h.size) (fun e => hn (hm x hx e)), h.block x hx hn]⟩
section
variable {S : Nat → Prop} {w : World} {ops : Array Oper} {rest : List Oper} {o : Oper} {a : Act} {Q : Exit → Act → World → Prop}
theorem wpList_clear27 (hg : o.guard = none) (x : Operand) (hop : o.op = .call { callee := .builtin .clear, args := #[x], argTypes := #[27] }) (hd : o.dst = none) (p : Option Addr) (n c : Nat) (hx : a.eval x = .slice p n c) (h : Wipe S w p n 1)
    (hK : ∀ w', Wiped S w w' → wpList Try.prog ops Q rest a w') : wpList Try.prog ops Q (o :: rest) a w :=
  wpList_clear hg x 27 hop hd p n c Try.underlying27 (z := .int .u8 0) (fun W => by rw [Try.zeroValue5]) rfl hx h hK
theorem wpList_clear28 (hg : o.guard = none) (x : Operand) (hop : o.op = .call { callee := .builtin .clear, args := #[x], argTypes := #[28] }) (hd : o.dst = none) (p : Option Addr) (n c : Nat) (hx : a.eval x = .slice p n c) (h : Wipe S w p n 8)
    (hK : ∀ w', Wiped S w w' → wpList Try.prog ops Q rest a w') : wpList Try.prog ops Q (o :: rest) a w :=
  wpList_clear hg x 28 hop hd p n c Try.underlying28 (z := .agg (Slt.cells ⟨zeroWrd, zeroWrd⟩)) (fun W => zero116 W) (Slt.cells_one _) hx (by simpa [Value.cells] using h) hK
end
/-- An element of a row that may be cleared. -/
theorem WipeAt.get {S : Nat → Prop} {w : World} {v : Value} {n : Nat} (h : WipeAt S w v n) {k : Nat} (hk : k < n) : ∃ b c, v = .slice (some ⟨b, 0, none⟩) n c ∧ n ≤ c ∧ c ≤ maxLen ∧ b < w.heap.size ∧ n * 27 ≤ (rowOf w b).size ∧ ∃ adr m bal p1 n1 c1 p2 n2 c2, (rowOf w b).extract (k * 27) (k * 27 + 27) = accRow adr m bal (.slice p1 n1 c1) (.slice p2 n2 c2) ∧ Wipe S w p1 n1 1 ∧ Wipe S w p2 n2 8 := by
  obtain ⟨h | ⟨b, c, rfl, h1, h2, h3, h4, h5, h6⟩⟩ := h
  · omega
  · obtain ⟨r, e, a1, a2, a3, p1, n1, c1, p2, n2, c2, e1, x1, x2⟩ := h6 k hk
    exact ⟨b, c, rfl, h1, h2, h3, h5, a1, a2, a3, p1, n1, c1, p2, n2, c2, by rw [e, e1], x1, x2⟩
theorem cell_of_one {w : World} {b o i : Nat} {v : Value} (h : (rowOf w b).extract (o + i * 1) (o + i * 1 + 1) = #[v]) : w.cell? ⟨b, o + i, none⟩ = some v := by
  rw [cell_row]
  rw [Nat.mul_one] at h
  have h2 : ((rowOf w b).extract (o + i) (o + i + 1))[0]? = some v := by rw [h]; rfl
  have h3 : ((rowOf w b).extract (o + i) (o + i + 1)).size = 1 := by rw [h]; rfl
  rw [Array.size_extract] at h3
  have h4 : o + i < (rowOf w b).size := by omega
  rw [Array.getElem?_eq_getElem (by rw [h]; exact Nat.zero_lt_one)] at h2
  rw [Array.getElem?_eq_getElem h4]
  simpa using h2
end Go.Proofs.Ytadafohgglnneaa
