/- The store's Commit: what it turns down, and the version that it lays. No condition. -/
import Derived.Test.YtadafohgglnneaaS3
import Derived.Test.YtadafohgglnneaaX8
import Derived.Deep.RegionWith
import Derived.Deep.DeepCutAuto
namespace Go.Proofs.Ytadafohgglnneaa
open Go.RowKit
/-- An account set among others. -/
def setK (x : Acc) (ys : List Acc) : List Acc := if (findK x.adr ys).isSome then ys.map fun y => if y.adr = x.adr then x else y else ys ++ [x]
def setAll (xs : List Acc) : List Acc := xs.foldl (fun ys x => setK x ys) []
theorem setAll_snoc (xs : List Acc) (x : Acc) : setAll (xs ++ [x]) = setK x (setAll xs) := by simp [setAll]
theorem KnIn.chg {S : Nat → Prop} {w : World} {r : Array Value} {y : Acc} (hy : AccIn S w r y) : ∀ {l : List (Ent Adr)} {m : List Acc}, KnIn S w l m →
    KnIn S w (l.map fun x => if x.a = y.adr then { x with v := .agg r } else x) (m.map fun z => if z.adr = y.adr then y else z)
  | [], [], _ => trivial
  | x :: l, z :: m, ⟨⟨h1, r', h2, h3⟩, h⟩ => by
    refine ⟨?_, KnIn.chg hy h⟩
    by_cases e : x.a = y.adr
    · have e' : z.adr = y.adr := by rw [← h1]; exact e
      simp only [if_pos e, if_pos e']; exact ⟨e, r, rfl, hy⟩
    · have e' : z.adr ≠ y.adr := by rw [← h1]; exact e
      simp only [if_neg e, if_neg e']; exact ⟨h1, r', h2, h3⟩
  | [], _ :: _, h => h.elim
  | _ :: _, [], h => h.elim
theorem KnIn.put {S : Nat → Prop} {w : World} {r : Array Value} {y : Acc} {c : Nat} (hy : AccIn S w r y) {l : List (Ent Adr)} {m : List Acc} (h : KnIn S w l m) : KnIn S w (putE y.adr (.agg r) c l) (setK y m) := by
  unfold putE setK
  rcases h.find y.adr with ⟨h1, h2⟩ | ⟨r', x', h1, h2, _⟩
  · rw [h1, h2]; exact h.snoc rfl hy
  · rw [h1, h2]; exact h.chg hy
/-- What Commit answers where it lays nothing. -/
def Denied (n : Int) (w : World) (e : Ending) (w' : World) : Prop := e = .returned (.tuple #[.int .i64 0, .int .i64 n]) ∧ Below w.heap.size w w'
set_option maxRecDepth 100000 in
set_option maxHeartbeats 1000000 in
theorem commit_none {S : Nat → Prop} {w : World} {s g c : Nat} {nds : List Nd} (h : StoreAt S w s g c nds) (par : Int) (p : Option Addr) (n m : Nat) (hv : hasV nds par = false) :
    Calls Try.prog 29 #[.pointer (some ⟨s, 0, none⟩), .int .i64 par, .slice p n m] w (Denied 12 w) := by
  go_enter Try.func29, Try.ntmps29
  go_wp2_with fail
  refine (store_has h par).mono ?_
  rintro e w1 ⟨rfl, rfl⟩
  rw [hv]
  go_wp2
  refine bodyPost_ret (v := .tuple #[.int .i64 0, .int .i64 12]) (by simp [results, Try.results29, go_sem]) rfl ⟨rfl, Below.refl _ _⟩
set_option maxRecDepth 100000 in
set_option maxHeartbeats 1000000 in
theorem commit_bad {S T : Nat → Prop} {w : World} {s g c : Nat} {nds : List Nd} (h : StoreAt S w s g c nds) (par : Int) (v : Value) (xs : List Acc) (hx : AccsAt T w v xs) (hv : hasV nds par = true) (hb : badAny xs = true) :
    Calls Try.prog 29 #[.pointer (some ⟨s, 0, none⟩), .int .i64 par, v] w (Denied 1 w) := by
  obtain ⟨p, n, rfl⟩ := hx.form
  go_enter Try.func29, Try.ntmps29
  go_wp2_with fail
  refine (store_has h par).mono ?_
  rintro e w1 ⟨rfl, rfl⟩
  rw [hv]
  go_wp2_with fail
  refine (contains_bad w1 _ xs hx).mono ?_
  rintro e w1 ⟨rfl, hb1⟩
  rw [hb]
  go_wp2
  refine bodyPost_ret (v := .tuple #[.int .i64 0, .int .i64 1]) (by simp [results, Try.results29, go_sem]) rfl ⟨rfl, hb1⟩
/-- A version laid. -/
def Laid (S : Nat → Prop) (w : World) (s g : Nat) (nds : List Nd) (par : Int) (xs : List Acc) (e : Ending) (w' : World) : Prop :=
  ∃ g' c' k, e = .returned (.tuple #[.int .i64 nds.length, .int .i64 0]) ∧ StoreAt (fun b => S b ∨ (Fresh w w' b ∧ b ≠ g')) w' s g' c' (nds ++ [⟨par, some k, setAll xs⟩]) ∧
    (g' = g ∨ w.heap.size ≤ g') ∧ w.heap.size ≤ k ∧ Kept (fun b => b = s ∨ b = g) w w'
theorem Kept.of_grown {M : Nat → Prop} {w w' : World} {g : Nat} (h : w.grownBy w' (some g)) (hg : M g) : Kept M w w' :=
  ⟨h.os, h.tape, h.output, h.size, fun k hk hm => h.block k hk (fun e => hm (by cases e; exact hg))⟩
/-- The store behind a commit. -/
theorem commit_end {S : Nat → Prop} {w0 w1 wr w5 : World} {s g c g' c' : Nat} {nds : List Nd} {par : Int} {kn : List (Ent Adr)} {kc : Nat} {ys : List Acc} (h : StoreAt S w0 s g c nds) (hS : ∀ b, S b → b < w0.heap.size)
    (hv : hasV nds par = true) (hn : nds.length < 1048576) (hsz : w0.heap.size ≤ w1.heap.size) (hbel : Below w0.heap.size w0 wr) (hgz : w1.heap.size + 2 ≤ wr.heap.size)
    (e1 : objAt wr w1.heap.size = some (mapObj Adr.cells kn kc)) (e2 : Tidy kn kc) (e3 : KnIn (fun b => w1.heap.size + 2 ≤ b ∧ b < wr.heap.size) wr kn ys)
    (hgrow : (wr.alloc (.cells (ndArr par (some w1.heap.size)) 125)).grownBy w5 (some g))
    (hown : w5.ownsRow 0 125 2 (.slice (some ⟨g', 0, none⟩) (nds.length + 1) c') (nds.length + 1) (ndRow nds ++ [.int .i64 par, .map (some w1.heap.size)]))
    (hg' : some g = some g' ∨ (wr.alloc (.cells (ndArr par (some w1.heap.size)) 125)).heap.size ≤ g') :
    let w6 := w5.setCell ⟨s, 0, none⟩ (.slice (some ⟨g', 0, none⟩) (nds.length + 1) c')
    StoreAt (fun b => S b ∨ (Fresh w0 w6 b ∧ b ≠ g')) w6 s g' c' (nds ++ [⟨par, some w1.heap.size, ys⟩]) ∧ (g' = g ∨ w0.heap.size ≤ g') ∧ w0.heap.size ≤ w1.heap.size ∧ Kept (fun b => b = s ∨ b = g) w0 w6 := by
  intro w6
  obtain ⟨l1, l2⟩ := h.lt
  have hz5 := hgrow.size
  simp only [World.size_alloc] at hz5 hg'
  have hz6 : w6.heap.size = w5.heap.size := by simp [w6]
  have K5 : Kept (fun b => b = s ∨ b = g) wr w5 := ((Kept.refl _ wr).alloc _).trans (Kept.of_grown hgrow (.inr rfl))
  have K6 : Kept (fun b => b = s ∨ b = g) wr w6 := K5.setCell _ _ (.inl (.inl rfl))
  have K0 : Kept (fun b => b = s ∨ b = g) w0 w6 := (Kept.of_below hbel).trans K6
  have hb0 := hbel.size
  have hgg : g' = g ∨ wr.heap.size + 1 ≤ g' := hg'.imp (fun e => by injection e with e; exact e.symm) id
  have hsg : s ≠ g' := by have := h.ne; omega
  have hrow5 : rowOf w5 s = rowOf w0 s ∧ isRow w5 s = Ytadafohgglnneaa.isRow w0 s ∧ rowFr w5 s = Ytadafohgglnneaa.rowFr w0 s := by
    have hb : w5.heap[s]? = w0.heap[s]? := by
      rw [hgrow.block s (by simp; omega) (by intro e; injection e with e; exact h.ne e), heap_alloc_old _ _ (by omega), hbel.block s l1]
    simp only [rowOf, Ytadafohgglnneaa.isRow, rowFr, hb, and_self]
  refine ⟨⟨?_, ?_, ?_, ?_, hsg, ?_, ?_, by simp, by simp; omega, ?_⟩, by omega, hsz, K0⟩
  · rw [rowOf_setCell_same, hrow5.1, h.row]; simp
  · rw [isRow_setCell, hrow5.2.1, h.isRow]
  · rw [rowFr_setCell, hrow5.2.2, h.fr]
  · rw [ndRow_append]
    obtain ⟨p1, p2⟩ := hown
    refine ⟨by simpa [ndRow, Nd.cells] using p1, .inr ?_⟩
    rcases p2 with ⟨e, _⟩ | ⟨g2, cap, cur, e, q1, q2, q3⟩
    · cases e
    · cases e
      refine ⟨g', c', cur, by simp, q1, ?_, by simpa [ndRow, Nd.cells] using q3⟩
      rw [Below.heap_setCell _ _ _ _ (by simp only; omega), q2]
  · intro d hd
    rcases List.mem_append.1 hd with hd | hd
    · refine ((h.nodes d hd).kept K0 (fun b hb e => ?_) (fun k hk e => ?_)).mono fun b hb => .inl hb
      · have := h.apart b hb; omega
      · have m1 := h.mapNe hd hk h.isRow
        have m2 := h.mapNe hd hk h.gRow.1
        omega
    · simp at hd; subst hd
      refine ⟨kn, kc, by rw [K6.obj _ (by omega) (by omega)]; exact e1, e2, e3.imp fun r y hy => (hy.kept K6 (fun b hb e => by omega)).mono fun b hb => .inr ⟨⟨by omega, by rw [hz6]; omega⟩, by omega⟩⟩
  · intro b hb
    rcases hb with hb | ⟨hb, hb2⟩
    · have := h.apart b hb
      have := hS b hb
      omega
    · have := hb.1
      exact ⟨by omega, hb2⟩
  · intro i hi
    simp only [List.length_append, List.length_cons, List.length_nil] at hi
    by_cases hi' : i < nds.length
    · rw [List.getElem_append_left hi']; exact h.par i hi'
    · have : i = nds.length := by omega
      subst this
      simp [hasV] at hv
      simp; omega
/-- The map's growth by one account: what the round of Commit leaves. -/
theorem commit_step {w0 w1 wr W w4 : World} {par : Int} {kn : List (Ent Adr)} {kc : Nat} {ys : List Acc} {x : Acc} {r4 : Array Value} (hsz : w0.heap.size ≤ w1.heap.size)
    (B2 : Below w0.heap.size w0 W) (hgz : w1.heap.size + 2 ≤ wr.heap.size) (hz : wr.heap.size < W.heap.size)
    (r2 : rowOf W (w1.heap.size + 1) = ndArr par (some w1.heap.size)) (i2 : isRow W (w1.heap.size + 1) = true) (e2 : Tidy kn kc)
    (k2 : KnIn (fun b => w1.heap.size + 2 ≤ b ∧ b < wr.heap.size) W kn ys) (b4 : Below W.heap.size W w4) (a4 : AccIn (fun b => W.heap.size ≤ b ∧ b < w4.heap.size) w4 r4 x) :
    let w' := World.setMap w4 w1.heap.size (mapObj Adr.cells (putE x.adr (.agg r4) kc kn) (putC x.adr kc kn))
    Below w0.heap.size w0 w' ∧ w1.heap.size + 2 ≤ w'.heap.size ∧ rowOf w' (w1.heap.size + 1) = ndArr par (some w1.heap.size) ∧ isRow w' (w1.heap.size + 1) = true ∧
      ∃ kn kc, objAt w' w1.heap.size = some (mapObj Adr.cells kn kc) ∧ Tidy kn kc ∧ KnIn (fun b => w1.heap.size + 2 ≤ b ∧ b < w'.heap.size) w' kn (setK x ys) := by
  intro w'
  have hs4 := b4.size
  have hK : Kept (fun b => b = w1.heap.size) w4 w' := (Kept.refl _ w4).setMap _ _ (.inl rfl)
  refine ⟨bel_kept (bel_trans B2 b4) hK (fun x hx e => by omega), by simp [w']; omega, ?_, ?_, _, _, objAt_setMap_same _ _ _ (by omega), e2.put _ _, KnIn.put ?_ ?_⟩
  · rw [hK.row _ (by omega) (by omega), bel_row b4 _ (by omega), r2]
  · rw [hK.isRow _ (by omega) (by omega), bel_isRow b4 _ (by omega), i2]
  · exact (a4.kept hK (fun b hb e => by omega)).mono fun b hb => by simp [w']; omega
  · exact k2.imp fun r y h => ((h.below b4).kept hK (fun b hb e => by omega)).mono fun b hb => by simp [w']; omega
set_option maxRecDepth 100000 in
set_option maxHeartbeats 2000000 in
theorem commit_ok {S T : Nat → Prop} {w : World} {s g c : Nat} {nds : List Nd} (h : StoreAt S w s g c nds) (par : Int) (v : Value) (xs : List Acc) (hx : AccsAt T w v xs) (hv : hasV nds par = true) (hb : badAny xs = false)
    (hn : nds.length < 1048576) (hsm : ∀ x ∈ xs, smallAcc x) (hS : ∀ b, S b → b < w.heap.size) :
    Calls Try.prog 29 #[.pointer (some ⟨s, 0, none⟩), .int .i64 par, v] w (Laid S w s g nds par xs) := by
  obtain ⟨p, n, rfl⟩ := hx.form
  have hxl := hx.le
  unfold maxLen at hxl
  have hH := Lib.hid h
  have hX := Lib.hid hx
  have hne : ((nds.length : Int) == 1048576) = false := by simp; omega
  have hmm := mm
  go_enter Try.func29, Try.ntmps29
  go_wp2_with fail
  refine (store_has h par).mono ?_
  rintro e w0 ⟨rfl, rfl⟩
  rw [hv]
  go_wp2_with fail
  refine (contains_bad w0 _ xs hx).mono ?_
  rintro e w1 ⟨rfl, hb1⟩
  rw [hb]
  have h1 := h.below hb1
  have hc := h1.cell
  have hsz1 := hb1.size
  clear h hx
  go_wp2
  go_loopw [34] (fun i wr => ∃ k : Nat, k ≤ xs.length ∧ i = .int .i64 k ∧ Below w0.heap.size w0 wr ∧ w1.heap.size + 2 ≤ wr.heap.size ∧ rowOf wr (w1.heap.size + 1) = ndArr par (some w1.heap.size) ∧ isRow wr (w1.heap.size + 1) = true ∧
    ∃ kn kc, objAt wr w1.heap.size = some (mapObj Adr.cells kn kc) ∧ Tidy kn kc ∧ KnIn (fun b => w1.heap.size + 2 ≤ b ∧ b < wr.heap.size) wr kn (setAll (xs.take k))) (fun i _ => xs.length - (intOf i).toNat)
  case atStart => exact ⟨0, Nat.zero_le _, rfl, bel_alloc (bel_alloc hb1 _) _, by simp, by simp [go_sem], by simp [go_sem], [], 0, by simp [go_sem], tidy_nil, trivial⟩
  case round =>
    obtain ⟨k, hk, rfl, hbel, hgz, r1, i1, kn, kc, e1, e2, e3⟩ := hrel
    by_cases hlt : k < xs.length
    · obtain ⟨b, o, cc, rs, hv', q1, q2, -, hbb, hsz, hall⟩ := (hX.out.below hbel).pos (by omega)
      cases hv'
      obtain ⟨hrow, hacc⟩ := hall k hlt
      have hs1 : o + k * 27 + 27 ≤ (rowOf wr b).size := by omega
      have hki : (k : Int) < (xs.length : Int) := by omega
      have hki0 : (0 : Int) ≤ (k : Int) := by omega
      have hsm1 : smallAcc (accAt xs k) := by
        have : accAt xs k = xs[k] := by simp [accAt, hlt]
        rw [this]; exact hsm _ (List.getElem_mem hlt)
      have hrz := hacc.size
      have hr1 := hacc.one
      generalize hrr : rowAt rs k = row at *
      have hw27 : row.extract 0 27 = row := by rw [← hrz]; simp
      generalize hxx : accAt xs k = x at *
      have had : row.extract 0 20 = x.adr.cells := by obtain ⟨c, s, rfl, -⟩ := hacc; simp
      go_upto_region 13 with (fail)
      have hW1 : Below wr.heap.size wr (wr.alloc (.cells row 30)) := bel_alloc (Below.refl _ _) _
      have r2 : rowOf (wr.alloc (.cells row 30)) (w1.heap.size + 1) = ndArr par (some w1.heap.size) := by rw [bel_row hW1 _ (by omega), r1]
      have i2 : isRow (wr.alloc (.cells row 30)) (w1.heap.size + 1) = true := by rw [bel_isRow hW1 _ (by omega), i1]
      have c2 : (wr.alloc (.cells row 30)).cell? ⟨w1.heap.size + 1, 1, none⟩ = some (.map (some w1.heap.size)) := by rw [cell_row, r2]; rfl
      have o2 : objAt (wr.alloc (.cells row 30)) w1.heap.size = some (mapObj Adr.cells kn kc) := by rw [bel_objAt hW1 _ (by omega), e1]
      have y2 : rowOf (wr.alloc (.cells row 30)) wr.heap.size = row := rowOf_alloc_at _ _ _ _ rfl
      have j2 : isRow (wr.alloc (.cells row 30)) wr.heap.size = true := isRow_alloc_at _ _ _ _ rfl
      have a2 := hacc.below hW1
      have k2 : KnIn (fun b => w1.heap.size + 2 ≤ b ∧ b < wr.heap.size) (wr.alloc (.cells row 30)) kn (setAll (xs.take k)) := e3.imp fun _ _ h => h.below hW1
      have z2 : wr.heap.size < (wr.alloc (.cells row 30)).heap.size := by simp
      have B2 := bel_trans hbel hW1
      clear hW1 hrow hacc e1 e3 r1 i1
      generalize wr.alloc (.cells row 30) = W at *
      have hu : ∀ W' v, objAt W' w1.heap.size = some (mapObj Adr.cells kn kc) → (Instr.mapUpdate 119 (.map (some w1.heap.size)) (.agg x.adr.cells) v).run Try.prog W' = .ok () (World.setMap W' w1.heap.size (mapObj Adr.cells (putE x.adr v kc kn) (putC x.adr kc kn))) :=
        fun W' v h => upd119 W' _ kn kc h e2.1 x.adr v
      have ad : AccIn T W.drew row x := a2.below (bel_drew (Below.refl _ _))
      have z3 : w1.heap.size < W.heap.size := by omega
      have z4 : w1.heap.size + 1 < W.heap.size := by omega
      have hset : setAll (xs.take (k + 1)) = setK x (setAll (xs.take k)) := by
        rw [← setAll_snoc, ← hxx]
        congr 1
        rw [List.take_add_one]
        simp [accAt, hlt]
      have Bd : Below W.heap.size W W.drew := bel_drew (Below.refl _ _)
      have hfin : ∀ w4 r4, Below W.drew.heap.size W.drew w4 → AccIn (Fresh W.drew w4) w4 r4 x → _ := fun w4 r4 b4 a4 =>
        commit_step (ys := setAll (xs.take k)) (x := x) (r4 := r4) hsz1 B2 hgz z2 r2 i2 e2 k2 (bel_trans Bd b4) a4
      rw [← hset] at hfin
      have Hfin := Lib.hid hfin
      clear hfin
      go_region_with (first
        | (go_at_call 71; refine (store_own (S := T) _ row x ad hsm1).mono ?_; rintro e w4 ⟨r4, rfl, a4, b4⟩
           have o4 : objAt w4 w1.heap.size = some (mapObj Adr.cells kn kc) := by rw [bel_objAt b4 _ z3]; exact o2
           have n4 : rowOf w4 (w1.heap.size + 1) = ndArr par (some w1.heap.size) := by rw [bel_row b4 _ z4]; exact r2
           have c4 : w4.cell? ⟨w1.heap.size + 1, 1, none⟩ = some (.map (some w1.heap.size)) := by rw [cell_row, n4]; rfl
           have y4 : rowOf w4 wr.heap.size = row := by rw [bel_row b4 _ z2]; exact y2
           have j4 : isRow w4 wr.heap.size = true := by rw [bel_isRow b4 _ z2]; exact j2))
      all_goals
        go_wp2
        go_roundw
        case rel => exact ⟨k + 1, by omega, by go_num, Hfin.out _ _ b4 a4⟩
        case measure => simp [intOf]; omega
    · obtain rfl : k = xs.length := by omega
      rw [List.take_length] at e3
      have hSr := hH.out.below hbel
      have c2 := hSr.cell
      have f2 : wr.frozen? ⟨s, 0, none⟩ = false := frozen_row _ _ _ hSr.fr
      obtain ⟨l1, l2⟩ := hSr.lt
      obtain ⟨i0, hi, hz0, hz1, hz2⟩ := info_parts (show (Try.prog.info? 125).map (fun i => (i.zero, i.size, i.bytes)) = some (some (.agg (ndArr 0 none)), 2, 16) by kernel_rfl)
      have hsg := hSr.ne
      have how : (wr.alloc (.cells (ndArr par (some w1.heap.size)) 125)).ownsRow 0 125 2 (.slice (some ⟨g, 0, none⟩) nds.length c) nds.length (ndRow nds) := (hSr.below (bel_alloc (Below.refl _ _) _)).owns
      have Hend := Lib.hid (fun w5 g' c' => commit_end (w5 := w5) (g' := g') (c' := c') hH.out hS hv hn hsz1 hbel hgz e1 e2 e3)
      have hki : ¬ ((xs.length : Int) < (xs.length : Int)) := by omega
      have hg1 : w1.heap.size + 1 < wr.heap.size := by omega
      have f3 : (wr.alloc (.cells (ndArr par (some w1.heap.size)) 125)).frozen? ⟨s, 0, none⟩ = false := frozen_row _ _ _ (hSr.below (bel_alloc (Below.refl _ _) _)).fr
      have hnews : ∀ j u, [Value.int .i64 par, Value.map (some w1.heap.size)][j]? = some u → (wr.alloc (.cells (ndArr par (some w1.heap.size)) 125)).cell? ((⟨wr.heap.size, 0, none⟩ : Addr).add j) = some u := by
        intro j u hu
        rw [Addr.add_lit, cell_row, rowOf_alloc_at _ _ _ _ rfl, Nat.zero_add]
        match j, hu with
        | 0, hu => simpa [ndArr] using hu
        | 1, hu => simpa [ndArr] using hu
        | j + 2, hu => simp at hu
      have hend : ∀ g' c' w5, w5.ownsRow 0 125 2 (.slice (some ⟨g', 0, none⟩) (nds.length + 1) c') (nds.length + 1) (ndRow nds ++ [.int .i64 par, .map (some w1.heap.size)]) →
          (wr.alloc (.cells (ndArr par (some w1.heap.size)) 125)).drew.grownBy w5 (some g) →
          ((some g : Option Nat) = some g' ∨ (wr.alloc (.cells (ndArr par (some w1.heap.size)) 125)).drew.heap.size ≤ g') → _ := fun g' c' w5 p1 p2 p3 => Hend.out w5 g' c' ⟨p2.os, p2.tape, p2.output, p2.size, p2.block⟩ p1 p3
      have Hend2 := Lib.hid hend
      clear hend Hend
      go_wp2
      go_region_law (refine step_append_mine rfl (.tmp 49) (.tmp 51) 126 rfl 0 125 i0 (.agg (ndArr 0 none)) 2 16 Try.underlying126 hi hz0 hz1 hz2 rfl (by decide) (.slice (some ⟨g, 0, none⟩) nds.length c) nds.length (ndRow nds) (by simp [Act.eval]) how ⟨wr.heap.size, 0, none⟩ 1 1 [.int .i64 par, .map (some w1.heap.size)] (by decide) (by simp [Act.eval]) rfl hnews (by simp [go_sem]) (by unfold maxLen; omega) (by omega) (Nat.zero_le _) ?_; intro g' c' w5 hown hgrow hg'; have s5 : w5.cell? ⟨s, 0, none⟩ = some (.slice (some ⟨g, 0, none⟩) nds.length c) := hgrow.cell (Lib.cell?_alloc_some _ c2) (by intro e; injection e with e; exact hsg e); have t5 : w5.frozen? ⟨s, 0, none⟩ = false := by rw [World.frozen?_of_block (hgrow.block s (by simp; omega) (by intro e; injection e with e; exact hsg e))]; exact f3)
      all_goals
        have Hlast := Lib.hid (Hend2.out g' c' w5 hown hgrow hg')
        clear hown hgrow hg'
        go_wp2
        refine bodyPost_ret (v := .tuple #[.int .i64 nds.length, .int .i64 0]) (by simp [results, Try.results29, go_sem]) rfl ⟨g', c', w1.heap.size, rfl, Hlast.out⟩
end Go.Proofs.Ytadafohgglnneaa
