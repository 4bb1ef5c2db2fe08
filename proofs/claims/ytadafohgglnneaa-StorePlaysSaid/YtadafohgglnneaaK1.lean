/- The cache's Known: what is collected ahead of the sort. No condition. -/
import Derived.Test.YtadafohgglnneaaR1
import Derived.Test.YtadafohgglnneaaX20
namespace Go.Proofs.Ytadafohgglnneaa
open Go.RowKit
/-- What the sort does to a row of addresses: its cells are a row of the same addresses, in rising order. -/
def SortsAdr : Prop := ∀ (w0 w : World) (v : Value) (ys : List Adr), RowOut 23 20 (fun _ r (y : Adr) => r = y.cells) w0 w v ys → ys.length ≤ 1048576 →
  Calls Try.prog 83 #[v, .func (.func 81) #[] #[]] w fun e w' => e = .returned (.tuple #[]) ∧ ∃ zs, zs.Perm ys ∧ zs.Pairwise (fun a b => b.lt a = false) ∧ RowOut 23 20 (fun _ r (y : Adr) => r = y.cells) w0 w' v zs
theorem KnIn.keys {S : Nat → Prop} {w : World} : ∀ {l : List (Ent Adr)} {m : List Acc}, KnIn S w l m → l.map (·.a) = m.map (·.adr)
  | [], [], _ => rfl
  | _ :: _, _ :: _, h => by simp only [List.map_cons]; rw [h.1.1, KnIn.keys h.2]
  | [], _ :: _, h => h.elim
  | _ :: _, [], h => h.elim
/-- A row of addresses answered. -/
def AdrsOut (w : World) (ys : List Adr) (e : Ending) (w' : World) : Prop := ∃ v zs, e = .returned v ∧ zs.Perm ys ∧ zs.Pairwise (fun a b => b.lt a = false) ∧ RowOut 23 20 (fun _ r (y : Adr) => r = y.cells) w w' v zs
set_option maxRecDepth 100000 in
set_option maxHeartbeats 1000000 in
theorem fork_Known (hS : SortsAdr) {S : Nat → Prop} (w : World) (c k t : Nat) (xs : List Acc) (ts : List (Adr × Nat)) (h : CacheAt S w c k t xs ts) (hl : xs.length ≤ 1000000) :
    Calls Try.prog 49 #[.pointer (some ⟨c, 0, none⟩)] w (AdrsOut w (xs.map (·.adr))) := by
  have c0 : w.cell? ⟨c, 0, none⟩ = some (.map (some k)) := by rw [cell_row, h.row]; rfl
  obtain ⟨kn, kc, e1, e2, e3⟩ := h.objK
  have HT := Lib.hid (show (kn.map (·.n)).Nodup ∧ ∀ x ∈ kn, x.n < kc from ⟨e2.2.1, e2.2.2⟩)
  have Hkeys := Lib.hid e3.keys
  have hkl : kn.length ≤ 1000000 := by have := congrArg List.length e3.keys; simp at this; omega
  have hkm := objAt_lt e1
  clear e2 e3 h hl
  have HST : Hid (Stab w (fun _ r (y : Adr) => r = y.cells)) := Lib.hid Stab.eq
  have HS := Lib.hid hS
  clear hS
  go_enter Try.func49, Try.ntmps49
  go_wp2_with (first | (at_range; refine wpList_range_mine rfl (.tmp 11) 119 rfl Try.underlying119 k kn kc (by simp [Act.eval]) e1 HT.out ?_; intro w1 hit b1 z1; clear e1) | fail)
  go_frame
  go_loopw [3] (fun vo wr => ∃ (done left : List (Ent Adr)) (q : Option Addr) (cc : Nat), Hid (IterAt Adr.cells wr w.heap.size k kn kc left) ∧ Hid ((done ++ left).Perm kn) ∧ vo = .slice q done.length cc ∧ Hid (RowOut 23 20 (fun _ r (y : Adr) => r = y.cells) w wr vo (done.map (·.a))) ∧ Hid (∀ g, vo.ownBlock = some g → g ≠ w.heap.size)) (fun _ wr => wr.rangeLeft k w.heap.size)
  case atStart => exact ⟨[], kn, none, 0, Lib.hid hit, Lib.hid (List.Perm.refl _), rfl, Lib.hid (RowOut.nil b1), Lib.hid (fun g hg => by simp [Value.ownBlock] at hg)⟩
  case round =>
    obtain ⟨done, left, q, cc, hit', hperm, rfl, hout, hown⟩ := hrel
    clear hit b1 z1
    go_wp2_with (first
      | (at_next; refine wpList_next_mine rfl (.tmp 12) rfl w.heap.size k kn kc left (by simp [Act.eval]) hit'.out ?_ ?_)
      | fail)
    · intro h0
      subst h0
      have hl0 : (done.map (·.a)).length = done.length := by simp
      have hdl : done.length ≤ 1000000 := by have := hperm.out.length_eq; simp at this; omega
      have HO := hout.out
      go_wp2_with fail
      refine (HS.out w _ _ _ HO (by simp; omega)).mono ?_
      rintro e w5 ⟨rfl, zs, hz1, hz2, hz3⟩
      have hp2 : zs.Perm (xs.map (·.adr)) := by
        refine hz1.trans ?_
        rw [← Hkeys.out]
        have := hperm.out
        rw [List.append_nil] at this
        exact this.map _
      go_wp2
      go_ret
      exact ⟨_, zs, rfl, hp2, hz2, hz3⟩
    · intro x left' w2 hp2 hit2 hk2 hz2 hen
      have Hit2 := Lib.hid hit2
      have hlt := hit'.out.lt
      have hmeas := hit'.out.left_eq
      have Hmeas := Lib.hid hmeas
      have hO2 : RowOut 23 20 (fun _ r (y : Adr) => r = y.cells) w w2 (.slice q done.length cc) (done.map (·.a)) := hout.out.kept HST.out hk2 (fun b hb e => by omega) (fun g hg e => hown.out g hg e)
      have HO2 := Lib.hid (hO2.below HST.out (bel_alloc (bel_alloc (Below.refl w2.heap.size w2) (.cells x.a.cells 23)) (.cells x.a.cells 23)))
      have hdl : done.length ≤ 1000000 := by have := hperm.out.length_eq; simp at this; omega
      have Hp := Lib.hid (show ((done ++ [x]) ++ left').Perm kn by
        refine List.Perm.trans ?_ hperm.out
        rw [List.append_assoc]
        exact List.Perm.append_left done hp2.symm)
      have Hlen := Lib.hid (show left.length = left'.length + 1 by rw [hp2.length_eq]; simp)
      clear hp2 hit2 hO2 hk2 hmeas hz2
      go_wp2_with (first
        | (at_builtin; refine wpList_append_out rfl (.tmp 17) (.tmp 19) 35 rfl elt23 Try.underlying35 HST.out HO2.out (by simp [Act.eval]) (w2.heap.size + 1) x.a.cells x.a (by simp [Act.eval]) (by simp [go_sem]) (by simp) (Adr.cells_one _) rfl (by simp; omega) (by simp; unfold maxLen; omega) ?_; intro g5 c5 w5 ho5 hk5 hg5)
        | fail)
      have hb4 : Below w2.heap.size w2 ((w2.alloc (.cells x.a.cells 23)).alloc (.cells x.a.cells 23)) := bel_alloc (bel_alloc (Below.refl _ _) _) _
      have hbase := HO2.out.base
      have hit5 : IterAt Adr.cells w5 w.heap.size k kn kc left' := (Hit2.out.below hb4).kept hk5 (fun e => hown.out _ e rfl) (fun e => by have := hbase _ e; omega)
      have hz5 := Hit2.out.lt
      refine ⟨⟨done ++ [x], left', some ⟨g5, 0, none⟩, c5, Lib.hid hit5, Hp, by simp, Lib.hid (by simpa using ho5), Lib.hid (fun g hg => ?_)⟩, ?_⟩
      · simp [Value.ownBlock] at hg
        subst hg
        rcases hg5 with h | h
        · exact hown.out _ h
        · simp at h; omega
      · rw [Hmeas.out, hit5.left_eq]
        have := Hlen.out
        omega
end Go.Proofs.Ytadafohgglnneaa
/- The cache's Fetched: what is collected ahead of the sort; Tries. No condition. -/
namespace Go.Proofs.Ytadafohgglnneaa
open Go.RowKit
set_option maxRecDepth 100000 in
set_option maxHeartbeats 1000000 in
theorem fork_Fetched (hS : SortsAdr) {S : Nat → Prop} (w : World) (c k t : Nat) (xs : List Acc) (ts : List (Adr × Nat)) (h : CacheAt S w c k t xs ts) (hl : ts.length ≤ 1000000) :
    Calls Try.prog 50 #[.pointer (some ⟨c, 0, none⟩)] w (AdrsOut w (ts.map (·.1))) := by
  have c0 : w.cell? ⟨c, 1, none⟩ = some (.map (some t)) := by rw [cell_row, h.row]; rfl
  obtain ⟨kn, kc, e1, e2, e3⟩ := h.objT
  have HT := Lib.hid (show (kn.map (·.n)).Nodup ∧ ∀ x ∈ kn, x.n < kc from ⟨e2.2.1, e2.2.2⟩)
  have Hkeys := Lib.hid e3.keys
  have hkl : kn.length ≤ 1000000 := by have := congrArg List.length e3.keys; simp at this; omega
  have hkm := objAt_lt e1
  clear e2 e3 h hl
  have HST : Hid (Stab w (fun _ r (y : Adr) => r = y.cells)) := Lib.hid Stab.eq
  have HS := Lib.hid hS
  clear hS
  go_enter Try.func50, Try.ntmps50
  go_wp2_with (first | (at_range; refine wpList_range_mine rfl (.tmp 11) 120 rfl Try.underlying120 t kn kc (by simp [Act.eval]) e1 HT.out ?_; intro w1 hit b1 z1; clear e1) | fail)
  go_frame
  go_loopw [3] (fun vo wr => ∃ (done left : List (Ent Adr)) (q : Option Addr) (cc : Nat), Hid (IterAt Adr.cells wr w.heap.size t kn kc left) ∧ Hid ((done ++ left).Perm kn) ∧ vo = .slice q done.length cc ∧ Hid (RowOut 23 20 (fun _ r (y : Adr) => r = y.cells) w wr vo (done.map (·.a))) ∧ Hid (∀ g, vo.ownBlock = some g → g ≠ w.heap.size)) (fun _ wr => wr.rangeLeft t w.heap.size)
  case atStart => exact ⟨[], kn, none, 0, Lib.hid hit, Lib.hid (List.Perm.refl _), rfl, Lib.hid (RowOut.nil b1), Lib.hid (fun g hg => by simp [Value.ownBlock] at hg)⟩
  case round =>
    obtain ⟨done, left, q, cc, hit', hperm, rfl, hout, hown⟩ := hrel
    clear hit b1 z1
    go_wp2_with (first
      | (at_next; refine wpList_next_mine rfl (.tmp 12) rfl w.heap.size t kn kc left (by simp [Act.eval]) hit'.out ?_ ?_)
      | fail)
    · intro h0
      subst h0
      have hl0 : (done.map (·.a)).length = done.length := by simp
      have hdl : done.length ≤ 1000000 := by have := hperm.out.length_eq; simp at this; omega
      have HO := hout.out
      go_wp2_with fail
      refine (HS.out w _ _ _ HO (by simp; omega)).mono ?_
      rintro e w5 ⟨rfl, zs, hz1, hz2, hz3⟩
      have hp2 : zs.Perm (ts.map (·.1)) := by
        refine hz1.trans ?_
        rw [← Hkeys.out]
        have := hperm.out
        rw [List.append_nil] at this
        exact this.map _
      go_wp2
      go_ret
      exact ⟨_, zs, rfl, hp2, hz2, hz3⟩
    · intro x left' w2 hp2 hit2 hk2 hz2 hen
      have Hit2 := Lib.hid hit2
      have hlt := hit'.out.lt
      have hmeas := hit'.out.left_eq
      have Hmeas := Lib.hid hmeas
      have hO2 : RowOut 23 20 (fun _ r (y : Adr) => r = y.cells) w w2 (.slice q done.length cc) (done.map (·.a)) := hout.out.kept HST.out hk2 (fun b hb e => by omega) (fun g hg e => hown.out g hg e)
      have HO2 := Lib.hid (hO2.below HST.out (bel_alloc (bel_alloc (Below.refl w2.heap.size w2) (.cells x.a.cells 23)) (.cells x.a.cells 23)))
      have hdl : done.length ≤ 1000000 := by have := hperm.out.length_eq; simp at this; omega
      have Hp := Lib.hid (show ((done ++ [x]) ++ left').Perm kn by
        refine List.Perm.trans ?_ hperm.out
        rw [List.append_assoc]
        exact List.Perm.append_left done hp2.symm)
      have Hlen := Lib.hid (show left.length = left'.length + 1 by rw [hp2.length_eq]; simp)
      clear hp2 hit2 hO2 hk2 hmeas hz2
      go_wp2_with (first
        | (at_builtin; refine wpList_append_out rfl (.tmp 17) (.tmp 19) 35 rfl elt23 Try.underlying35 HST.out HO2.out (by simp [Act.eval]) (w2.heap.size + 1) x.a.cells x.a (by simp [Act.eval]) (by simp [go_sem]) (by simp) (Adr.cells_one _) rfl (by simp; omega) (by simp; unfold maxLen; omega) ?_; intro g5 c5 w5 ho5 hk5 hg5)
        | fail)
      have hb4 : Below w2.heap.size w2 ((w2.alloc (.cells x.a.cells 23)).alloc (.cells x.a.cells 23)) := bel_alloc (bel_alloc (Below.refl _ _) _) _
      have hbase := HO2.out.base
      have hit5 : IterAt Adr.cells w5 w.heap.size t kn kc left' := (Hit2.out.below hb4).kept hk5 (fun e => hown.out _ e rfl) (fun e => by have := hbase _ e; omega)
      have hz5 := Hit2.out.lt
      refine ⟨⟨done ++ [x], left', some ⟨g5, 0, none⟩, c5, Lib.hid hit5, Hp, by simp, Lib.hid (by simpa using ho5), Lib.hid (fun g hg => ?_)⟩, ?_⟩
      · simp [Value.ownBlock] at hg
        subst hg
        rcases hg5 with h | h
        · exact hown.out _ h
        · simp at h; omega
      · rw [Hmeas.out, hit5.left_eq]
        have := Hlen.out
        omega
set_option maxRecDepth 100000 in
set_option maxHeartbeats 1000000 in
theorem fork_Tries {S : Nat → Prop} (w : World) (c k t : Nat) (xs : List Acc) (ts : List (Adr × Nat)) (a : Adr) (h : CacheAt S w c k t xs ts) :
    Calls Try.prog 48 #[.pointer (some ⟨c, 0, none⟩), .agg a.cells] w fun e w' => e = .returned (.int .i64 ((findT a ts).getD 0 : Nat)) ∧ Below w.heap.size w w' := by
  have c0 : w.cell? ⟨c, 1, none⟩ = some (.map (some t)) := by rw [cell_row, h.row]; rfl
  have lc := isRow_lt h.isRow
  obtain ⟨tr, tc, f1, f2, f3⟩ := h.objT
  have lt := objAt_lt f1
  have lc1 : c < w.heap.size + 1 := by omega
  have lt1 : t < w.heap.size + 1 := by omega
  have hl : ∀ W, objAt W t = some (mapObj Adr.cells tr tc) → (Instr.lookup 120 (.map (some t)) (.agg a.cells) false).run Try.prog W = .ok (.int .i64 ((findT a ts).getD 0 : Nat)) W := fun W hW => by
    rw [look120 W t tr tc hW a false]
    rcases f3.find a with ⟨g3, g4⟩ | ⟨n, g3, g4, g5⟩
    · rw [g3, g4]; rfl
    · rw [g3, g4]; rfl
  generalize (findT a ts).getD 0 = n at *
  clear h f2 f3
  go_enter Try.func48, Try.ntmps48
  go_wp2
  go_quiet (fail)
  go_wp2
  go_ret
  exact ⟨rfl, bel_drewN (bel_alloc (Below.refl _ _) _) _⟩
end Go.Proofs.Ytadafohgglnneaa
