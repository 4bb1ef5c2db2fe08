/- What a call leaves as it was, but for the blocks of a set. No condition. -/
import Derived.Test.YtadafohgglnneaaMaps
namespace Go.Proofs.Ytadafohgglnneaa
open Go.RowKit
/-- But for the blocks of M what lay in w is as it was. -/
structure Kept (M : Nat → Prop) (w w' : World) : Prop where
  os : w'.os = w.os
  tape : w'.tape = w.tape
  output : w'.output = w.output
  size : w.heap.size ≤ w'.heap.size
  block : ∀ k, k < w.heap.size → ¬ M k → w'.heap[k]? = w.heap[k]?
theorem Kept.refl (M : Nat → Prop) (w : World) : Kept M w w := ⟨rfl, rfl, rfl, Nat.le_refl _, fun _ _ _ => rfl⟩
theorem Kept.trans {M : Nat → Prop} {a b c : World} (h : Kept M a b) (k : Kept M b c) : Kept M a c :=
  ⟨k.os.trans h.os, k.tape.trans h.tape, k.output.trans h.output, Nat.le_trans h.size k.size, fun i hi hm => (k.block i (Nat.lt_of_lt_of_le hi h.size) hm).trans (h.block i hi hm)⟩
theorem Kept.mono {M N : Nat → Prop} {w w' : World} (h : Kept M w w') (hm : ∀ b, b < w.heap.size → M b → N b) : Kept N w w' :=
  ⟨h.os, h.tape, h.output, h.size, fun k hk hn => h.block k hk fun m => hn (hm k hk m)⟩
theorem Kept.of_below {M : Nat → Prop} {w w' : World} (h : Below w.heap.size w w') : Kept M w w' := ⟨h.os, h.tape, h.output, h.size, fun k hk _ => h.block k hk⟩
theorem Kept.below {M : Nat → Prop} {w w' : World} (h : Kept M w w') (B : Nat) (hB : B ≤ w.heap.size) (hm : ∀ b, b < B → ¬ M b) : Below B w w' := ⟨h.os, h.tape, h.output, h.size, fun k hk => h.block k (by omega) (hm k hk)⟩
theorem Kept.alloc {M : Nat → Prop} {a w : World} (h : Kept M a w) (o : Obj) : Kept M a (w.alloc o) := h.trans (.of_below (bel_alloc (Below.refl _ _) o))
theorem Kept.drewN {M : Nat → Prop} {a w : World} (h : Kept M a w) (n : Nat) : Kept M a (w.drewN n) := h.trans (.of_below (bel_drewN (Below.refl _ _) n))
theorem Kept.drew {M : Nat → Prop} {a w : World} (h : Kept M a w) : Kept M a w.drew := h.trans (.of_below (bel_drew (Below.refl _ _)))
theorem Kept.bel {M : Nat → Prop} {a w w' : World} (h : Kept M a w) (hb : Below w.heap.size w w') : Kept M a w' := h.trans (.of_below hb)
theorem Kept.setMap {M : Nat → Prop} {a w : World} (h : Kept M a w) (r : Nat) (o : Obj) (hr : M r ∨ a.heap.size ≤ r) : Kept M a (World.setMap w r o) :=
  ⟨h.os, h.tape, h.output, by simp; exact h.size, fun k hk hm => by
    have hne : k ≠ r := by rintro rfl; rcases hr with hr | hr; exact hm hr; omega
    have := objAt_setMap_other w r k o hne
    simp only [objAt] at this
    rw [this]; exact h.block k hk hm⟩
theorem Kept.setCell {M : Nat → Prop} {a w : World} (h : Kept M a w) (p : Addr) (v : Value) (hr : M p.block ∨ a.heap.size ≤ p.block) : Kept M a (w.setCell p v) :=
  ⟨h.os, h.tape, h.output, by simp; exact h.size, fun k hk hm => by
    have hne : k ≠ p.block := by rintro rfl; rcases hr with hr | hr; exact hm hr; omega
    rw [Below.heap_setCell _ _ _ _ hne]; exact h.block k hk hm⟩
theorem Kept.setSeg {M : Nat → Prop} {a w : World} (h : Kept M a w) (b o : Nat) (vs : List Value) (hr : M b ∨ a.heap.size ≤ b) : Kept M a (World.setSeg w b o vs) :=
  ⟨h.os, h.tape, h.output, by simp; exact h.size, fun k hk hm => by
    have hne : k ≠ b := by rintro rfl; rcases hr with hr | hr; exact hm hr; omega
    rw [setSeg_block_ne _ _ _ _ _ hne]; exact h.block k hk hm⟩
theorem Kept.row {M : Nat → Prop} {w w' : World} (h : Kept M w w') (b : Nat) (hb : b < w.heap.size) (hm : ¬ M b) : rowOf w' b = rowOf w b := by simp only [rowOf, h.block b hb hm]
theorem Kept.isRow {M : Nat → Prop} {w w' : World} (h : Kept M w w') (b : Nat) (hb : b < w.heap.size) (hm : ¬ M b) : Ytadafohgglnneaa.isRow w' b = Ytadafohgglnneaa.isRow w b := by simp only [Ytadafohgglnneaa.isRow, h.block b hb hm]
theorem Kept.rowFr {M : Nat → Prop} {w w' : World} (h : Kept M w w') (b : Nat) (hb : b < w.heap.size) (hm : ¬ M b) : Ytadafohgglnneaa.rowFr w' b = Ytadafohgglnneaa.rowFr w b := by simp only [Ytadafohgglnneaa.rowFr, h.block b hb hm]
theorem Kept.obj {M : Nat → Prop} {w w' : World} (h : Kept M w w') (b : Nat) (hb : b < w.heap.size) (hm : ¬ M b) : objAt w' b = objAt w b := h.block b hb hm
theorem bel_kept {M : Nat → Prop} {W a b : World} (h : Below W.heap.size W a) (k : Kept M a b) (hm : ∀ x, x < W.heap.size → ¬ M x) : Below W.heap.size W b := h.trans (k.below _ h.size hm)
theorem AccIn.kept {S M : Nat → Prop} {w w' : World} {row : Array Value} {x : Acc} (h : AccIn S w row x) (k : Kept M w w') (hs : ∀ b, S b → ¬ M b) : AccIn S w' row x := h.same fun b hb hS => k.block b hb (hs b hS)
theorem AccsAt.kept {S M : Nat → Prop} {w w' : World} {v : Value} {xs : List Acc} (h : AccsAt S w v xs) (k : Kept M w w') (hs : ∀ b, S b → ¬ M b) : AccsAt S w' v xs := h.same fun b hb hS => k.block b hb (hs b hS)
end Go.Proofs.Ytadafohgglnneaa
