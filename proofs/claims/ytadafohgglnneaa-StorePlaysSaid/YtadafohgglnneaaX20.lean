/- A version and a cache below it: the world's Account; what both lists of a cache have to do with each other. No condition. -/
import Derived.Test.YtadafohgglnneaaX16
import Derived.Test.YtadafohgglnneaaF9
namespace Go.Proofs.Ytadafohgglnneaa
open Go.RowKit
theorem putL_len (a : Acc) : ∀ (l : List Acc), (putL a true l).length = l.length ∧ (putL a false l).length ≤ l.length + 1
  | [] => by simp [putL]
  | x :: l => by
    obtain ⟨h1, h2⟩ := putL_len a l
    unfold putL
    constructor
    · by_cases e : x.adr = a.adr <;> simp [e, h1]
    · by_cases e : x.adr = a.adr
      · rw [List.length_append, if_pos e]
        have : a.adr.lt x.adr = false := by rw [e]; exact Adr.lt_irr _
        simp [this, h1]
      · rw [List.length_append, if_neg e]
        cases a.adr.lt x.adr <;> simp <;> omega
theorem TrIn.keys : ∀ {l : List (Ent Adr)} {m : List (Adr × Nat)}, TrIn l m → l.map (·.a) = m.map (·.1)
  | [], [], _ => rfl
  | _ :: _, _ :: _, h => by simp only [List.map_cons]; rw [h.1.1, TrIn.keys h.2]
  | [], _ :: _, h => h.elim
  | _ :: _, [], h => h.elim
theorem CacheAt.nodup {S : Nat → Prop} {w : World} {c k t : Nat} {xs : List Acc} {ts : List (Adr × Nat)} (h : CacheAt S w c k t xs ts) : (ts.map (·.1)).Nodup := by
  obtain ⟨tr, tc, _, f2, f3⟩ := h.objT
  rw [← f3.keys]; exact f2.1
theorem HoldC.nodup {N : Nat → Prop} {w0 w : World} {c k t : Nat} {xs : List Acc} {ts : List (Adr × Nat)} (h : HoldC N w0 w c k t xs ts) : (ts.map (·.1)).Nodup := by
  obtain ⟨⟨S, _, h2⟩, _⟩ := h; exact h2.nodup
theorem erase_del {ts : List (Adr × Nat)} (hn : (ts.map (·.1)).Nodup) {a : Adr} {n : Nat} (h : findT a ts = some n) : ts.eraseIdx (atI ts a).toNat = delT a ts := by
  rcases atI_cases ts a with ⟨_, e⟩ | ⟨k, hk, e, h1, -, h2⟩
  · rw [e] at h; cases h
  · rw [e, Int.toNat_natCast]
    clear e h
    induction ts generalizing k with
    | nil => simp at hk
    | cons x ts ih =>
      simp only [List.map_cons, List.nodup_cons] at hn
      cases k with
      | zero =>
        simp at h1
        have hall : ∀ z ∈ ts, z.1 ≠ a := fun z hz e => hn.1 (by rw [h1, ← e]; exact List.mem_map_of_mem hz)
        have e2 : ts.filter (fun x => !decide (x.1 = a)) = ts := by rw [List.filter_eq_self]; intro z hz; simp [hall z hz]
        simp [delT, h1, e2]
      | succ k =>
        have hx : x.1 ≠ a := h2 0 (by omega)
        have := ih hn.2 k (by simpa using hk) (by simpa using h1) (fun j hj => by simpa using h2 (j + 1) (by omega))
        simp only [delT] at this ⊢
        simp [hx, this]
/-- The cells of a version and a cache below it. -/
def ovRow (s : Nat) (v : Int) (c : Nat) : Array Value := #[.pointer (some ⟨s, 0, none⟩)] ++ (#[.int .i64 v] ++ #[.pointer (some ⟨c, 0, none⟩)])
section
variable (s : Nat) (v : Int) (c : Nat)
@[go_sem, simp] theorem ovRow_size : (ovRow s v c).size = 3 := by simp [ovRow]
@[go_sem] theorem ovRow_ones : ones (ovRow s v c) = true := by rw [ovRow, ones_append, ones_append]; rfl
@[go_sem, simp] theorem ovRow_whole : (ovRow s v c).extract 0 3 = ovRow s v c := rfl
@[go_sem] theorem ovRow_at0 (h : 0 < (ovRow s v c).size) : (ovRow s v c)[0] = .pointer (some ⟨s, 0, none⟩) := by simp [ovRow]
@[go_sem] theorem ovRow_at1 (h : 1 < (ovRow s v c).size) : (ovRow s v c)[1] = .int .i64 v := by simp [ovRow]
@[go_sem] theorem ovRow_at2 (h : 2 < (ovRow s v c).size) : (ovRow s v c)[2] = .pointer (some ⟨c, 0, none⟩) := by simp [ovRow]
@[go_sem ↓ high] theorem build134 (w : World) : (Instr.build 134 #[(0, .pointer (some ⟨s, 0, none⟩)), (1, .int .i64 v), (2, .pointer (some ⟨c, 0, none⟩))]).run Try.prog w = .ok (.agg (ovRow s v c)) w := by kernel_rfl
end
set_option maxRecDepth 100000 in
set_option maxHeartbeats 1000000 in
theorem fork_Over (w : World) (s : Nat) (v : Int) (c : Nat) :
    Calls Try.prog 32 #[.pointer (some ⟨s, 0, none⟩), .int .i64 v, .pointer (some ⟨c, 0, none⟩)] w fun e w' => e = .returned (.iface 134 (.agg (ovRow s v c))) ∧ w' = w := by
  go_enter Try.func32, Try.ntmps32
  go_wp2
  go_ret
  exact ⟨rfl, rfl⟩
@[go_sem ↓ high] theorem method134 (w : World) (s : Nat) (v : Int) (c : Nat) : (method 330 134 (.agg (ovRow s v c)) "Account").run Try.prog w = .ok (170, .agg (ovRow s v c)) w := by kernel_rfl
/-- A store and a cache, both laid since w0, apart from each other and from the blocks of N. -/
structure Both (N : Nat → Prop) (w0 w : World) (s g cs : Nat) (nds : List Nd) (c k t : Nat) (xs : List Acc) (ts : List (Adr × Nat)) : Prop where
  st : ∃ S, (∀ b, S b → w0.heap.size ≤ b ∧ b < w.heap.size ∧ b ≠ k ∧ b ≠ t ∧ ¬ N b) ∧ StoreAt S w s g cs nds
  maps : ∀ d ∈ nds, ∀ m, d.m = some m → m ≠ k ∧ m ≠ t ∧ ¬ N m
  ne : s ≠ k ∧ s ≠ t ∧ g ≠ k ∧ g ≠ t ∧ ¬ N s ∧ ¬ N g
  low : w0.heap.size ≤ s ∧ w0.heap.size ≤ g
  small : SmallNds nds
  ca : HoldC N w0 w c k t xs ts
section
variable {N : Nat → Prop} {w0 w w' : World} {s g cs : Nat} {nds : List Nd} {c k t : Nat} {xs xs' : List Acc} {ts ts' : List (Adr × Nat)}
theorem Both.below (h : Both N w0 w s g cs nds c k t xs ts) (hb : Below w.heap.size w w') : Both N w0 w' s g cs nds c k t xs ts := by
  obtain ⟨⟨S, h1, h2⟩, h3, h4, h5, h6, h7⟩ := h
  have := hb.size
  exact ⟨⟨S, fun b hb => by obtain ⟨p1, p2, p3⟩ := h1 b hb; exact ⟨p1, by omega, p3⟩, h2.below hb⟩, h3, h4, h5, h6, h7.below hb⟩
theorem HoldC.drop (h : HoldC N w0 w c k t xs ts) : HoldC (fun _ => False) w0 w c k t xs ts := by
  obtain ⟨⟨S, h1, h2⟩, h3, h4, h5⟩ := h
  exact ⟨⟨S, fun b hb => ⟨(h1 b hb).1, (h1 b hb).2.1, id⟩, h2⟩, h3, fun b hb => hb.elim, h5⟩
/-- A new block is apart from all that was there. -/
theorem HoldC.mark (h : HoldC N w0 w c k t xs ts) (hb : Below w.heap.size w w') (hz : w.heap.size < w'.heap.size) : HoldC (fun b => b = w.heap.size) w0 w' c k t xs ts := by
  obtain ⟨⟨S, h1, h2⟩, h3, h4, h5⟩ := h
  exact ⟨⟨S, fun b hb => ⟨(h1 b hb).1, by have := (h1 b hb).2.1; omega, fun e => by have := (h1 b hb).2.1; omega⟩, h2.kept (M := fun _ => False) (.of_below hb) (fun _ _ h => h) id id id⟩, h3, fun b hb => by omega, h5⟩
theorem Both.mark (h : Both N w0 w s g cs nds c k t xs ts) (hb : Below w.heap.size w w') (hz : w.heap.size < w'.heap.size) : Both (fun b => b = w.heap.size) w0 w' s g cs nds c k t xs ts := by
  obtain ⟨⟨S, h1, h2⟩, h3, h4, h5, h6, h7⟩ := h
  have lz := h2.lt
  refine ⟨⟨S, fun b hb => ?_, h2.below hb⟩, fun d hd m hm => ?_, by omega, h5, h6, h7.mark hb hz⟩
  · obtain ⟨p1, p2, p3, p4, _⟩ := h1 b hb
    exact ⟨p1, by omega, p3, p4, by omega⟩
  · obtain ⟨q1, q2, _⟩ := h3 d hd m hm
    have hn := h2.nodes d hd
    unfold NdIn at hn
    rw [hm] at hn
    obtain ⟨kn, kc, e1, _⟩ := hn
    have := objAt_lt e1
    exact ⟨q1, q2, by omega⟩
theorem Both.kept {M : Nat → Prop} (h : Both N w0 w s g cs nds c k t xs ts) (hk : Kept M w w') (hM : ∀ b, M b → N b ∧ b ≠ c ∧ b ≠ k ∧ b ≠ t) : Both N w0 w' s g cs nds c k t xs ts := by
  obtain ⟨⟨S, h1, h2⟩, h3, h4, h5, h6, h7⟩ := h
  have hz := hk.size
  exact ⟨⟨S, fun b hb => by obtain ⟨p1, p2, p3⟩ := h1 b hb; exact ⟨p1, by omega, p3⟩, h2.kept hk (fun b hb e => (h1 b hb).2.2.2.2 (hM b e).1) (fun e => h4.2.2.2.2.1 (hM _ e).1) (fun e => h4.2.2.2.2.2 (hM _ e).1) (fun d hd m hm e => (h3 d hd m hm).2.2 (hM _ e).1)⟩, h3, h4, h5, h6, h7.kept hk hM⟩
/-- What the cache's calls turn leaves the store as it is. -/
theorem Both.turn (h : Both N w0 w s g cs nds c k t xs ts) (hk : Kept (fun b => b = k ∨ b = t) w w') (hc : HoldC N w0 w' c k t xs' ts') : Both N w0 w' s g cs nds c k t xs' ts' := by
  obtain ⟨⟨S, h1, h2⟩, h3, h4, h5, h6, h7⟩ := h
  have hz := hk.size
  refine ⟨⟨S, fun b hb => by obtain ⟨p1, p2, p3⟩ := h1 b hb; exact ⟨p1, by omega, p3⟩, h2.kept hk (fun b hb e => by have := h1 b hb; omega) (by omega) (by omega) (fun d hd m hm e => by have := h3 d hd m hm; omega)⟩, h3, h4, h5, h6, hc⟩
end
/-- The world's account: a version's, or the cache's. -/
def overK (nds : List Nd) (v : Int) (xs : List Acc) (a : Adr) : Option Acc := (findV nds v a).or (findK a xs)
theorem findF_adr {nds : List Nd} {a : Adr} : ∀ (f : Nat) (v : Int) (x : Acc), findF nds a f v = some x → x.adr = a
  | 0, _, _, h => by simp [findF] at h
  | f + 1, v, x, h => by
    simp only [findF] at h
    split at h
    · cases hd : nds[v.toNat]? with
      | none => simp [hd] at h
      | some d =>
        simp only [hd] at h
        cases hk : findK a d.xs with
        | some y => simp only [hk] at h; cases h; simpa using List.find?_some hk
        | none => simp only [hk] at h; exact findF_adr f _ x h
    · cases h
theorem findV_adr {nds : List Nd} {v : Int} {a : Adr} {x : Acc} (h : findV nds v a = some x) : x.adr = a := by
  unfold findV at h
  split at h
  · exact findF_adr _ _ _ h
  · cases h
set_option maxRecDepth 100000 in
set_option maxHeartbeats 1000000 in
theorem over_Account {N : Nat → Prop} {w0 w : World} {s g cs : Nat} {nds : List Nd} {c k t : Nat} {xs : List Acc} {ts : List (Adr × Nat)} (h : Both N w0 w s g cs nds c k t xs ts) (v : Int) (a : Adr) :
    Calls Try.prog 170 #[.agg (ovRow s v c), .agg a.cells] w (Known15 w a (overK nds v xs a)) := by
  have H := Lib.hid h
  obtain ⟨⟨S, h1, h2⟩, h3, h4, h5, h6, h7⟩ := h
  have H2 := Lib.hid h2
  have H6 := Lib.hid h6
  clear h1 h2 h3 h4 h5 h6 h7
  have BW := Lib.hid (show Below w.heap.size w (((w.alloc (.cells (ovRow s v c) 134)).alloc (.cells a.cells 23)).alloc (.cells (accRow zeroAdr 0 zeroWrd (.slice none 0 0) (.slice none 0 0)) 30)) from bel_alloc (bel_alloc (bel_alloc (Below.refl _ _) _) _) _)
  generalize hO : overK nds v xs a = O
  have HO := Lib.hid hO; clear hO
  go_enter Try.func170, Try.ntmps170
  generalize hW0 : (((w.alloc (.cells (ovRow s v c) 134)).alloc (.cells a.cells 23)).alloc (.cells (accRow zeroAdr 0 zeroWrd (.slice none 0 0) (.slice none 0 0)) 30)) = W0 at *
  have r0 : rowOf W0 w.heap.size = ovRow s v c := by rw [← hW0]; simp [go_sem]
  have i0 : isRow W0 w.heap.size = true := by rw [← hW0]; simp [go_sem]
  have r1 : rowOf W0 (w.heap.size + 1) = a.cells := by rw [← hW0]; simp [go_sem]
  have i1 : isRow W0 (w.heap.size + 1) = true := by rw [← hW0]; simp [go_sem]
  have r2 : rowOf W0 (w.heap.size + 2) = accRow zeroAdr 0 zeroWrd (.slice none 0 0) (.slice none 0 0) := by rw [← hW0]; simp [go_sem]
  have i2 : isRow W0 (w.heap.size + 2) = true := by rw [← hW0]; simp [go_sem]
  have f2 : rowFr W0 (w.heap.size + 2) = (0, 0) := by rw [← hW0]; simp [go_sem]
  have c0 : W0.cell? ⟨w.heap.size, 0, none⟩ = some (.pointer (some ⟨s, 0, none⟩)) := by rw [cell_row, r0]; rfl
  have c1 : W0.cell? ⟨w.heap.size, 1, none⟩ = some (.int .i64 v) := by rw [cell_row, r0]; rfl
  have HW := Lib.hid hW0
  clear hW0
  have s0 := isRow_lt i0
  have s1 := isRow_lt i1
  have s2 := isRow_lt i2
  go_upto_region 1 with (fail)
  rw [HW.out]
  go_wp2_with fail
  refine (store_Find (H2.out.below BW.out) H6.out v a).mono ?_
  rintro e w1 ⟨r, rfl, a1, hb1⟩
  have hrz1 := a1.size
  have hr11 := a1.one
  obtain ⟨hx27, -⟩ := a1.ext0
  obtain ⟨y0, j0, l0⟩ := carryRow hb1 r0 i0
  obtain ⟨y1, j1, l1⟩ := carryRow hb1 r1 i1
  obtain ⟨y2, j2, l2⟩ := carryRow hb1 r2 i2
  have g2 := carryFr hb1 s2 f2
  have z1 := hb1.size
  have B1 := Lib.hid (bel_trans BW.out hb1)
  have A1 := Lib.hid a1
  clear hb1 r0 i0 r1 i1 r2 i2 f2 c0 c1 a1
  have HZ := Lib.hid (show w.heap.size + 3 = W0.heap.size by rw [← HW.out]; simp)
  cases hf : findV nds v a with
  | some x =>
    have hO : O = some x := by rw [← HO.out]; simp [overK, hf]
    subst hO
    rw [hf] at A1
    clear HO hf
    go_wp2
    have K9 : Kept (fun b => b = w.heap.size + 2) w1 (World.setSeg (w1.alloc (.cells r 30)) (w.heap.size + 2) 0 r.toList) := ((Kept.refl _ w1).alloc _).setSeg _ _ _ (.inl rfl)
    rw [setSeg_alloc_past _ _ _ _ _ l2] at K9
    have hw9 : rowOf ((World.setSeg w1 (w.heap.size + 1 + 1) 0 r.toList).alloc (.cells r 30)) (w.heap.size + 1 + 1) = r := by
      rw [rowOf_alloc_past _ _ _ (by simp; exact l2), rowOf_setSeg_same, y2, putSeg_all _ _ (by simp; exact hrz1)]
    refine bodyPost_ret (v := .tuple #[.agg r, .bool true]) (by simp [results, Try.results170, go_sem, hw9, hrz1, hx27]) rfl ⟨r, rfl, ?_, ?_⟩
    · refine (A1.out.kept K9 (fun b hb e => ?_)).mono fun b hb => ?_
      · unfold Fresh at hb; have := HZ.out; omega
      · unfold Fresh at hb ⊢; have := HZ.out; exact ⟨by have := HZ.out; omega, Nat.lt_of_lt_of_le hb.2 K9.size⟩
    · exact bel_kept B1.out K9 (fun b hb e => by omega)
  | none =>
    have hO : O = findK a xs := by rw [← HO.out]; simp [overK, hf]
    subst hO
    rw [hf] at A1
    have c2 : (w1.alloc (.cells r 30)).cell? ⟨w.heap.size, 2, none⟩ = some (.pointer (some ⟨c, 0, none⟩)) := by rw [cell_row, rowOf_alloc_past _ _ _ l0, y0]; rfl
    have Bc : Below w.heap.size w (w1.alloc (.cells r 30)) := bel_alloc B1.out _
    have HC := Lib.hid (H.out.ca.below Bc)
    have HB := Lib.hid Bc
    clear HO hf Bc
    go_wp2_with fail
    refine (account_any HC.out a).mono ?_
    rintro e w2 ⟨r3, rfl, a3, hb3⟩
    have hrz3 := a3.size
    have hr13 := a3.one
    obtain ⟨hx37, -⟩ := a3.ext0
    obtain ⟨u2, k2, m2⟩ := carryRow hb3 (b := w.heap.size + 2) (r := accRow zeroAdr 0 zeroWrd (.slice none 0 0) (.slice none 0 0)) (by rw [rowOf_alloc_past _ _ _ l2, y2]) (by rw [isRow_alloc_past _ _ _ l2, j2])
    have g3 := carryFr hb3 (by simp; omega) (show rowFr (w1.alloc (.cells r 30)) (w.heap.size + 2) = (0, 0) by rw [rowFr_alloc_past _ _ _ l2, g2])
    have z3 := hb3.size
    simp only [World.size_alloc] at z3
    have B3 := Lib.hid (bel_trans HB.out hb3)
    have A3 := Lib.hid a3
    clear hb3 a3 c2
    go_wp2
    have K9 : Kept (fun b => b = w.heap.size + 2) w2 (World.setSeg w2 (w.heap.size + 2) 0 r3.toList) := (Kept.refl _ w2).setSeg _ _ _ (.inl rfl)
    have hw9 : rowOf (World.setSeg w2 (w.heap.size + 1 + 1) 0 r3.toList) (w.heap.size + 1 + 1) = r3 := by
      rw [rowOf_setSeg_same, u2, putSeg_all _ _ (by simp; exact hrz3)]
    refine bodyPost_ret (v := .tuple #[.agg r3, .bool (findK a xs).isSome]) (by simp [results, Try.results170, go_sem, hw9, hrz3, hx37]) rfl ⟨r3, rfl, ?_, ?_⟩
    · refine (A3.out.kept K9 (fun b hb e => ?_)).mono fun b hb => ?_
      · unfold Fresh at hb; simp at hb; omega
      · unfold Fresh at hb ⊢; simp at hb; exact ⟨by have := HZ.out; omega, Nat.lt_of_lt_of_le hb.2 K9.size⟩
    · exact bel_kept B3.out K9 (fun b hb e => by omega)
end Go.Proofs.Ytadafohgglnneaa
