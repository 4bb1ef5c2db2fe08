import Derived.Test.YtadafohgglnneaaFacts
import Derived.Test.YtadafohgglnneaaBase
namespace Go.Proofs.Ytadafohgglnneaa
open Go.RowKit
/-- What a copy of a list is. -/
def Cloned (w : World) (n : Nat) (cs : Array Value) (e : Ending) (w' : World) : Prop := ∃ v, e = .returned v ∧ SlIn (Fresh w w') w' v n cs ∧ Below w.heap.size w w'
set_option maxRecDepth 100000 in
set_option maxHeartbeats 1000000 in
theorem clone_bytes {S : Nat → Prop} (w : World) (v : Value) (n : Nat) (cs : Array Value) (hv : SlIn S w v n cs) (hc : cs.size = n * 1) (h1 : ones cs = true) (hn : n ≤ 1048576) :
    Calls Try.prog 77 #[v] w (Cloned w n cs) := by
  rcases hv with ⟨rfl, rfl, hz⟩ | ⟨a, c, rfl, hnc, hcm, hseg⟩
  · have heq := fun w => Lib.run_eql_slice_nil (P := Try.prog) w 27 5 none 0 0 0 0 Try.underlying27
    go_enter Try.func77, Try.ntmps77
    go_wp2
    go_ret
    exact ⟨_, rfl, SlIn.nil _ _ _ hz, Below.refl _ _⟩
  · have heq := fun w => Lib.run_eql_slice_nil (P := Try.prog) w 27 5 (some a) n c 0 0 Try.underlying27
    obtain ⟨i0, hi, hz0, hz1, hz2⟩ := info_parts (show (Try.prog.info? 5).map (fun i => (i.zero, i.size, i.bytes)) = some (some (.int .u8 0), 1, 1) by kernel_rfl)
    have hcells := segIn_cells hseg
    have Hc := Lib.hid hcells; clear hcells
    have Hseg := Lib.hid hseg; clear hseg
    have Hsz := Lib.hid hc; clear hc
    have H1 := Lib.hid h1; clear h1
    go_enter Try.func77, Try.ntmps77
    have hl1 : cs.toList.length = n * 1 := by simpa using Hsz.out
    have Hl1 := Lib.hid hl1; clear hl1
    go_wp2_with (at_builtin; refine wpList_append_own _ rfl _ _ 27 rfl w.heap.size 5 i0 (.int .u8 0) 1 1 Try.underlying27 hi hz0 hz1 hz2 rfl (by decide) _ 0 [] rfl (World.ownsRow_made _ _ _ (Nat.le_refl _) (Nat.zero_le _) rfl) a n c cs.toList rfl Hl1.out (fun j u hu => Lib.cell?_alloc_some _ (Hc.out j u hu)) (ones_list H1.out) (by unfold maxLen; omega) (by omega) (by simp) ?_; intro v' w' hown hgrow _)
    go_ret
    refine ⟨v', rfl, ?_, bel_grown (bel_alloc (Below.refl _ _) _) hgrow (fun k hk => by simp [Act.eval, Value.ownBlock] at hk; omega)⟩
    have := ownsRow_seg hown
    rw [Nat.zero_add, List.nil_append, Array.toArray_toList] at this
    exact this
set_option maxRecDepth 100000 in
set_option maxHeartbeats 1000000 in
theorem clone_slots {S : Nat → Prop} (w : World) (v : Value) (n : Nat) (cs : Array Value) (hv : SlIn S w v n cs) (hc : cs.size = n * 8) (h1 : ones cs = true) (hn : n ≤ 1048576) :
    Calls Try.prog 78 #[v] w (Cloned w n cs) := by
  rcases hv with ⟨rfl, rfl, hz⟩ | ⟨a, c, rfl, hnc, hcm, hseg⟩
  · have heq := fun w => Lib.run_eql_slice_nil (P := Try.prog) w 28 116 none 0 0 0 0 Try.underlying28
    go_enter Try.func78, Try.ntmps78
    go_wp2
    go_ret
    exact ⟨_, rfl, SlIn.nil _ _ _ hz, Below.refl _ _⟩
  · have heq := fun w => Lib.run_eql_slice_nil (P := Try.prog) w 28 116 (some a) n c 0 0 Try.underlying28
    obtain ⟨i0, hi, hz0, hz1, hz2⟩ := info_parts (show (Try.prog.info? 116).map (fun i => (i.zero, i.size, i.bytes)) = some (some (.agg (Slt.cells ⟨zeroWrd, zeroWrd⟩)), 8, 64) by kernel_rfl)
    have hcells := segIn_cells hseg
    have Hc := Lib.hid hcells; clear hcells
    have Hseg := Lib.hid hseg; clear hseg
    have Hsz := Lib.hid hc; clear hc
    have H1 := Lib.hid h1; clear h1
    go_enter Try.func78, Try.ntmps78
    have hl1 : cs.toList.length = n * 8 := by simpa using Hsz.out
    have Hl1 := Lib.hid hl1; clear hl1
    go_wp2_with (at_builtin; refine wpList_append_own _ rfl _ _ 28 rfl w.heap.size 116 i0 (.agg (Slt.cells ⟨zeroWrd, zeroWrd⟩)) 8 64 Try.underlying28 hi hz0 hz1 hz2 rfl (by decide) _ 0 [] rfl (World.ownsRow_made _ _ _ (Nat.le_refl _) (Nat.zero_le _) rfl) a n c cs.toList rfl Hl1.out (fun j u hu => Lib.cell?_alloc_some _ (Hc.out j u hu)) (ones_list H1.out) (by unfold maxLen; omega) (by omega) (by simp) ?_; intro v' w' hown hgrow _)
    go_ret
    refine ⟨v', rfl, ?_, bel_grown (bel_alloc (Below.refl _ _) _) hgrow (fun k hk => by simp [Act.eval, Value.ownBlock] at hk; omega)⟩
    have := ownsRow_seg hown
    rw [Nat.zero_add, List.nil_append, Array.toArray_toList] at this
    exact this
set_option maxRecDepth 100000 in
set_option maxHeartbeats 1000000 in
theorem clone_words {S : Nat → Prop} (w : World) (v : Value) (n : Nat) (cs : Array Value) (hv : SlIn S w v n cs) (hc : cs.size = n * 4) (h1 : ones cs = true) (hn : n ≤ 1048576) :
    Calls Try.prog 103 #[v] w (Cloned w n cs) := by
  rcases hv with ⟨rfl, rfl, hz⟩ | ⟨a, c, rfl, hnc, hcm, hseg⟩
  · have heq := fun w => Lib.run_eql_slice_nil (P := Try.prog) w 102 26 none 0 0 0 0 Try.underlying102
    go_enter Try.func103, Try.ntmps103
    go_wp2
    go_ret
    exact ⟨_, rfl, SlIn.nil _ _ _ hz, Below.refl _ _⟩
  · have heq := fun w => Lib.run_eql_slice_nil (P := Try.prog) w 102 26 (some a) n c 0 0 Try.underlying102
    obtain ⟨i0, hi, hz0, hz1, hz2⟩ := info_parts (show (Try.prog.info? 26).map (fun i => (i.zero, i.size, i.bytes)) = some (some (.agg zeroWrd.cells), 4, 32) by kernel_rfl)
    have hcells := segIn_cells hseg
    have Hc := Lib.hid hcells; clear hcells
    have Hseg := Lib.hid hseg; clear hseg
    have Hsz := Lib.hid hc; clear hc
    have H1 := Lib.hid h1; clear h1
    go_enter Try.func103, Try.ntmps103
    have hl1 : cs.toList.length = n * 4 := by simpa using Hsz.out
    have Hl1 := Lib.hid hl1; clear hl1
    go_wp2_with (at_builtin; refine wpList_append_own _ rfl _ _ 102 rfl w.heap.size 26 i0 (.agg zeroWrd.cells) 4 32 Try.underlying102 hi hz0 hz1 hz2 rfl (by decide) _ 0 [] rfl (World.ownsRow_made _ _ _ (Nat.le_refl _) (Nat.zero_le _) rfl) a n c cs.toList rfl Hl1.out (fun j u hu => Lib.cell?_alloc_some _ (Hc.out j u hu)) (ones_list H1.out) (by unfold maxLen; omega) (by omega) (by simp) ?_; intro v' w' hown hgrow _)
    go_ret
    refine ⟨v', rfl, ?_, bel_grown (bel_alloc (Below.refl _ _) _) hgrow (fun k hk => by simp [Act.eval, Value.ownBlock] at hk; omega)⟩
    have := ownsRow_seg hown
    rw [Nat.zero_add, List.nil_append, Array.toArray_toList] at this
    exact this
end Go.Proofs.Ytadafohgglnneaa
