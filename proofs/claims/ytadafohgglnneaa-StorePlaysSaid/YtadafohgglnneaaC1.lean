/- The program's order of addresses. No condition. -/
import Derived.Test.YtadafohgglnneaaX13
import Derived.Test.YtadafohgglnneaaBase
import Derived.Laws.Externs
namespace Go.Proofs.Ytadafohgglnneaa
open Go.RowKit
/-- An address as bytes. -/
def Adr.bytes (a : Adr) : ByteArray := strOfNums a.l
theorem Adr.bytes_size (a : Adr) : a.bytes.size = 20 := by
  show (strOfNums a.l).data.size = 20
  simp [strOfNums, a.len]
theorem Adr.bytes_get (a : Adr) (i : Nat) (h : i < 20) : a.bytes[i]! = (a.g i).toNat.toUInt8 := by
  have hs := a.bytes_size
  have hl : i < a.l.length := by rw [a.len]; exact h
  rw [getElem!_pos a.bytes i (by omega)]
  have hz : i < (strOfNums a.l).data.size := by have h2 : i < a.bytes.size := by omega
                                                exact h2
  show (strOfNums a.l).data[i]'hz = _
  simp [strOfNums, Adr.g, List.getD_eq_getElem?_getD, hl, Nat.toUInt8]
theorem u8_lt {m n : Int} (h1 : 0 ≤ m ∧ m < 256) (h2 : 0 ≤ n ∧ n < 256) : (m.toNat.toUInt8 < n.toNat.toUInt8) = (m < n) := by
  rw [UInt8.lt_iff_toNat_lt]
  simp
  omega
theorem u8_eq {m n : Int} (h1 : 0 ≤ m ∧ m < 256) (h2 : 0 ≤ n ∧ n < 256) : (m.toNat.toUInt8 = n.toNat.toUInt8) = (m = n) := by
  rw [← UInt8.toNat_inj]
  simp
  omega
theorem cmp_adr (x y : Adr) : Extern.BytealgCompare.cmp x.bytes y.bytes = x.cmp y := by
  unfold Extern.BytealgCompare.cmp
  rw [x.bytes_size, y.bytes_size]
  cases hf : (List.range (min 20 20)).find? (fun i => x.bytes[i]! != y.bytes[i]!) with
  | none =>
    rw [List.find?_eq_none] at hf
    have : x = y := Adr.ext_g fun i hi => by
      have := hf i (by simpa using hi)
      simp only [bne_iff_ne, ne_eq, Decidable.not_not] at this
      rw [x.bytes_get i hi, y.bytes_get i hi, u8_eq (x.g_bd i) (y.g_bd i)] at this
      exact this
    subst this
    simp [Adr.cmp]
  | some i =>
    rw [List.find?_eq_some_iff_getElem] at hf
    obtain ⟨h1, j, hj, h2, h3⟩ := hf
    simp only [List.length_range] at hj
    have hj20 : j < 20 := by simpa using hj
    have hij : i = j := by simpa using h2.symm
    subst hij
    simp only [bne_iff_ne, ne_eq] at h1
    rw [x.bytes_get i hj20, y.bytes_get i hj20, u8_eq (x.g_bd i) (y.g_bd i)] at h1
    have h4 : ∀ k, k < i → x.g k = y.g k := fun k hk => by
      have := h3 k hk
      simp only [List.getElem_range, Bool.not_eq_true', bne_eq_false_iff_eq] at this
      rw [x.bytes_get k (by omega), y.bytes_get k (by omega), u8_eq (x.g_bd k) (y.g_bd k)] at this
      exact this
    have h5 := adrLt_at i hj20 h4 h1
    have hne : x ≠ y := fun e => h1 (by rw [e])
    simp only [x.bytes_get i hj20, y.bytes_get i hj20, u8_lt (x.g_bd i) (y.g_bd i), Adr.cmp, if_neg hne, h5, decide_eq_true_eq]
theorem run_bytesOf_adr {P : Program} (w : World) (b o c : Nat) (x : Adr) (h : (rowOf w b).extract o (o + 20) = x.cells) (hs : o + 20 ≤ (rowOf w b).size) :
    (Extern.Bytes.bytesOf (.slice (some ⟨b, o, none⟩) 20 c)).run P w = .ok x.bytes w := by
  have key : ∀ (l : List Int) (o : Nat) (acc : ByteArray), (∀ j z, l[j]? = some z → w.cell? ⟨b, o + j, none⟩ = some (.int .u8 z)) →
      (Extern.Bytes.loadBytes ⟨b, o, none⟩ l.length acc).run P w = .ok (l.foldl (fun s z => s.push z.toNat.toUInt8) acc) w := by
    intro l
    induction l with
    | nil => intro o acc _; simp [Extern.Bytes.loadBytes]
    | cons z l ih =>
      intro o acc hc
      have h0 := hc 0 z rfl
      rw [Nat.add_zero] at h0
      have hadd : (⟨b, o, none⟩ : Addr).add 1 = ⟨b, o + 1, none⟩ := Addr.add_lit b o 1
      simp only [List.length_cons, Extern.Bytes.loadBytes, Sem.run_bind, run_load P w, h0, Result.andThen_ok, hadd, List.foldl_cons]
      exact ih (o + 1) _ (fun j u hj => by
        have := hc (j + 1) u (by simpa using hj)
        rwa [show o + 1 + j = o + (j + 1) by omega])
  have hx : (x.l.foldl (fun s z => s.push z.toNat.toUInt8) ByteArray.empty) = x.bytes := by
    rw [foldl_push_bytes]
    simp [Adr.bytes, strOfNums, ByteArray.empty, ByteArray.emptyWithCapacity]
    rfl
  have := key x.l o .empty (fun j z hj => by
    have hj2 : j < x.l.length := (List.getElem?_eq_some_iff.1 hj).1
    have hj20 : j < 20 := by rw [x.len] at hj2; exact hj2
    have e : (rowOf w b)[o + j]? = x.cells[j]? := seg_get (cs := x.cells) (by simp; omega) (by simpa using h) (by simpa using hj20)
    rw [cell_row, e, Adr.cells, ints_get, hj]; rfl)
  rw [x.len] at this
  unfold Extern.Bytes.bytesOf
  rw [this, hx]
end Go.Proofs.Ytadafohgglnneaa
/- bytes.Compare at addresses, and the program's Compare. No condition. -/
namespace Go.Proofs.Ytadafohgglnneaa
open Go.RowKit
theorem run_compare (w : World) (b1 o1 c1 b2 o2 c2 : Nat) (x y : Adr) (h1 : (rowOf w b1).extract o1 (o1 + 20) = x.cells) (s1 : o1 + 20 ≤ (rowOf w b1).size) (h2 : (rowOf w b2).extract o2 (o2 + 20) = y.cells) (s2 : o2 + 20 ≤ (rowOf w b2).size) :
    (callFunc 119 #[.slice (some ⟨b1, o1, none⟩) 20 c1, .slice (some ⟨b2, o2, none⟩) 20 c2]).run Try.prog w = .ok (.value (.int .i64 (x.cmp y))) w := by
  rw [run_callFunc_extern Try.func119 (by kernel_rfl) (by kernel_rfl) (by kernel_rfl) (e := Extern.BytealgCompare.compare) (by kernel_rfl)]
  have hd : ∀ a b : Value, Extern.BytealgCompare.compare #[a, b] = (do let u ← Extern.Bytes.bytesOf a; let v ← Extern.Bytes.bytesOf b; pure (goInt (Extern.BytealgCompare.cmp u v))) := fun _ _ => rfl
  rw [hd]
  simp only [Sem.run_bind, run_bytesOf_adr w b1 o1 c1 x h1 s1, run_bytesOf_adr w b2 o2 c2 y h2 s2, Result.andThen_ok, Sem.run_pure, cmp_adr]
  rfl
set_option maxRecDepth 100000 in
set_option maxHeartbeats 1000000 in
theorem bytes_Compare (w : World) (b1 o1 c1 b2 o2 c2 : Nat) (x y : Adr) (h1 : (rowOf w b1).extract o1 (o1 + 20) = x.cells) (s1 : o1 + 20 ≤ (rowOf w b1).size) (h2 : (rowOf w b2).extract o2 (o2 + 20) = y.cells) (s2 : o2 + 20 ≤ (rowOf w b2).size) :
    Calls Try.prog 101 #[.slice (some ⟨b1, o1, none⟩) 20 c1, .slice (some ⟨b2, o2, none⟩) 20 c2] w fun e w' => e = .returned (.int .i64 (x.cmp y)) ∧ w' = w := by
  have hrun := run_compare w b1 o1 c1 b2 o2 c2 x y h1 s1 h2 s2
  generalize x.cmp y = r at *
  clear h1 s1 h2 s2
  go_enter Try.func101, Try.ntmps101
  go_wp2_with fail
  go_ret
  exact ⟨rfl, rfl⟩
set_option maxRecDepth 100000 in
set_option maxHeartbeats 1000000 in
theorem addr_Compare (w : World) (x y : Adr) :
    Calls Try.prog 81 #[.agg x.cells, .agg y.cells] w fun e w' => e = .returned (.int .i64 (x.cmp y)) ∧ ∃ n, w' = ((w.alloc (.cells x.cells 23)).alloc (.cells y.cells 23)).drewN n := by
  have hc : ∀ n, Calls Try.prog 101 #[.slice (some ⟨w.heap.size, 0, none⟩) 20 20, .slice (some ⟨w.heap.size + 1, 0, none⟩) 20 20] (((w.alloc (.cells x.cells 23)).alloc (.cells y.cells 23)).drewN n) (fun e w' => e = .returned (.int .i64 (x.cmp y)) ∧ w' = ((w.alloc (.cells x.cells 23)).alloc (.cells y.cells 23)).drewN n) := fun n =>
    bytes_Compare _ _ 0 20 _ 0 20 x y (by simp [go_sem]) (by simp [go_sem]) (by simp [go_sem]) (by simp [go_sem])
  generalize x.cmp y = r at *
  go_enter Try.func81, Try.ntmps81
  go_wp2
  go_quiet ((go_at_call 101; exact Calls.quiet_of_same (hc _)))
  go_wp2
  go_ret
  exact ⟨rfl, _, rfl⟩
end Go.Proofs.Ytadafohgglnneaa
