/- The walk of the store's All. No condition. -/
import Derived.Test.YtadafohgglnneaaS7
namespace Go.Proofs.Ytadafohgglnneaa
open Go.RowKit
section
variable {w : World} {ops : Array Oper} {rest : List Oper} {o : Oper} {a : Act} {Q : Exit → Act → World → Prop}
theorem wpList_seen_put (hg : o.guard = none) (m x v : Operand) (hop : o.op = Op.mapUpdate 150 m x v) {sm : Nat} {K : Adr → Bool} (h : SeenAt w sm K) (y : Adr) (hm : a.eval m = .map (some sm)) (hx : a.eval x = .agg y.cells) (hv : a.eval v = .bool true)
    (hK : ∀ w', SeenAt w' sm (fun b => decide (b = y) || K b) → Kept (fun b => b = sm) w w' → w'.heap.size = w.heap.size → wpList Try.prog ops Q rest (a.put o.dst (.tuple #[])) w') :
    wpList Try.prog ops Q (o :: rest) a w := by
  refine wpList_plain hg fun K' hK' => ?_
  obtain ⟨w', hrun, h1, h2, h3⟩ := h.put y
  unfold Oper.wp
  simp [execOp, hop, hm, hx, hv, hrun, Result.andThen]
  exact hK' _ _ (hK _ h1 h2 h3)
end
/-- What a version's round knows: the iterator in block r, the set in the block behind w, the row. -/
structure InAll (w wr : World) (r : Nat) (mo : Option Nat) (kn : List (Ent Adr)) (kc : Nat) (xs : List Acc) (f : Adr → Option Acc) (n0 : Nat) (done left : List (Ent Adr)) (K : Adr → Bool) (ys : List Acc) (vo : Value) : Prop where
  it : IterO wr r mo kn kc left
  perm : (done ++ left).Perm kn
  out : AccOut (fun b => b = w.heap.size ∨ b = r) w wr vo ys
  seen : SeenAt wr w.heap.size K
  inv : AllInv (fDone f xs (done.map (·.a))) K ys
  len : ys.length ≤ n0 + done.length
  low : w.heap.size < r
  mlt : ∀ m, mo = some m → m < w.heap.size
/-- The same, with an entry taken. -/
structure InNext (w wr : World) (r : Nat) (mo : Option Nat) (kn : List (Ent Adr)) (kc : Nat) (xs : List Acc) (f : Adr → Option Acc) (n0 : Nat) (done : List (Ent Adr)) (x : Ent Adr) (left : List (Ent Adr)) (K : Adr → Bool) (ys : List Acc) (vo : Value) : Prop where
  it : IterO wr r mo kn kc left
  perm : (done ++ [x] ++ left).Perm kn
  out : AccOut (fun b => b = w.heap.size ∨ b = r) w wr vo ys
  seen : SeenAt wr w.heap.size K
  inv : AllInv (fDone f xs (done.map (·.a))) K ys
  len : ys.length ≤ n0 + done.length
  low : w.heap.size < r
  mlt : ∀ m, mo = some m → m < w.heap.size
section
variable {w wr w2 : World} {r : Nat} {mo : Option Nat} {kn : List (Ent Adr)} {kc : Nat} {xs : List Acc} {f : Adr → Option Acc} {n0 : Nat} {done left left' : List (Ent Adr)} {x : Ent Adr} {K : Adr → Bool} {ys : List Acc} {vo : Value}
theorem InAll.next (h : InAll w wr r mo kn kc xs f n0 done left K ys vo) (hp : left.Perm (x :: left')) (hi : IterO w2 r mo kn kc left') (hk : Kept (fun b => b = r) wr w2) : InNext w w2 r mo kn kc xs f n0 done x left' K ys vo :=
  ⟨hi, by
    refine List.Perm.trans ?_ h.perm
    rw [List.append_assoc]
    exact List.Perm.append_left done hp.symm, h.out.kept hk (fun b hb => ⟨.inr hb, by have := h.low; omega⟩), h.seen.kept hk (by have := h.low; omega), h.inv, h.len, h.low, h.mlt⟩
theorem InNext.below (h : InNext w wr r mo kn kc xs f n0 done x left K ys vo) (hb : Below wr.heap.size wr w2) : InNext w w2 r mo kn kc xs f n0 done x left K ys vo :=
  ⟨h.it.kept (M := fun _ => False) (.of_below hb) id (fun _ _ => id), h.perm, h.out.below hb, h.seen.kept (M := fun _ => False) (.of_below hb) id, h.inv, h.len, h.low, h.mlt⟩
theorem InNext.fin {K' : Adr → Bool} {ys' : List Acc} {vo' : Value} (h : InNext w wr r mo kn kc xs f n0 done x left K ys vo) (hk : Kept (fun b => b = w.heap.size ∨ vo.ownBlock = some b) wr w2) (ho : AccOut (fun b => b = w.heap.size ∨ b = r) w w2 vo' ys') (hs : SeenAt w2 w.heap.size K')
    (hi : AllInv (fDone f xs (done.map (·.a) ++ [x.a])) K' ys') (hl : ys'.length ≤ ys.length + 1) : InAll w w2 r mo kn kc xs f n0 (done ++ [x]) left K' ys' vo' := by
  have hbase := h.out.base
  have hnb := h.out.nb
  have hlow := h.low
  refine ⟨h.it.kept hk ?_ (fun m hm e => ?_), h.perm, ho, hs, by simpa using hi, by have := h.len; simp; omega, h.low, h.mlt⟩
  · rintro (e | e)
    · omega
    · exact hnb r e (.inr rfl)
  · have := h.mlt m hm
    rcases e with e | e
    · omega
    · have := hbase m e; omega
theorem InAll.form (h : InAll w wr r mo kn kc xs f n0 done left K ys vo) : ∃ p c, vo = .slice p ys.length c := h.out.form
end
theorem RangeOk.lt {w : World} {mo : Option Nat} {kn : List (Ent Adr)} {kc : Nat} (h : RangeOk w mo kn kc) : ∀ m, mo = some m → m < w.heap.size := by
  rintro m rfl; exact objAt_lt h.1
theorem RangeOk.below {w w' : World} {mo : Option Nat} {kn : List (Ent Adr)} {kc : Nat} (h : RangeOk w mo kn kc) (hb : Below w.heap.size w w') : RangeOk w' mo kn kc := by
  cases mo with
  | none => exact h
  | some m =>
    have h' : objAt w m = some (mapObj Adr.cells kn kc) ∧ (kn.map (·.n)).Nodup ∧ ∀ x ∈ kn, x.n < kc := h
    exact ⟨by rw [bel_objAt hb m (objAt_lt h'.1)]; exact h'.1, h'.2⟩
theorem NdIn.rows {S : Nat → Prop} {w : World} {p : Int} {mo : Option Nat} {xs : List Acc} (h : NdIn S w ⟨p, mo, xs⟩) : ∃ kn kc, RangeOk w mo kn kc ∧ kn.map (·.a) = xs.map (·.adr) ∧ ∀ x ∈ kn, ∃ r y, x.v = .agg r ∧ findK x.a xs = some y ∧ y.adr = x.a ∧ AccIn S w r y := by
  unfold NdIn at h
  cases mo with
  | none =>
    have h' : xs = [] := h
    subst h'
    exact ⟨[], 0, rfl, rfl, fun x hx => by simp at hx⟩
  | some k =>
    obtain ⟨kn, kc, h1, h2, h3⟩ := h
    exact ⟨kn, kc, ⟨h1, h2.2.1, h2.2.2⟩, h3.keys, fun x hx => h3.ent h2.1 hx⟩
/-- What All answers. -/
def AllOut (w : World) (nds : List Nd) (v : Int) (e : Ending) (w' : World) : Prop :=
  ∃ vo zs, e = .returned vo ∧ AccOut (fun _ => False) w w' vo zs ∧ Rising zs ∧ (∀ x, x ∈ zs ↔ findV nds v x.adr = some x ∧ emptyAt x = false) ∧ zs.length ≤ totalN nds
/-- What a round of the outer loop knows. -/
structure OutAll (S : Nat → Prop) (w wr : World) (s g c : Nat) (nds : List Nd) (v u : Int) (f : Adr → Option Acc) (K : Adr → Bool) (ys : List Acc) (vo : Value) : Prop where
  fin : ∀ a, findV nds v a = (f a).or (findF nds a (u + 1).toNat u)
  inv : AllInv f K ys
  out : AccOut (fun b => b = w.heap.size) w wr vo ys
  seen : SeenAt wr w.heap.size K
  len : ys.length + cntU nds u ≤ totalN nds
section
variable {S : Nat → Prop} {w wr : World} {s g c : Nat} {nds : List Nd} {v u : Int} {f : Adr → Option Acc} {K : Adr → Bool} {ys : List Acc} {vo : Value}
theorem OutAll.start (h : hasV nds v = true) (hm : objAt wr w.heap.size = some (mapObj Adr.cells [] 0)) (hb : Below w.heap.size w wr) : OutAll S w wr s g c nds v v (fun _ => none) (fun _ => false) [] (.slice none 0 0) :=
  ⟨fun a => by simp [findV, h], .nil, .nil hb, ⟨[], 0, hm, tidy_nil, fun a => by simp [findE]⟩, by have := cntU_le nds v; simpa using this⟩
theorem OutAll.enter {wi : World} {r : Nat} {mo : Option Nat} {kn : List (Ent Adr)} {kc : Nat} {xs : List Acc} (h : OutAll S w wr s g c nds v u f K ys vo) (hi : IterO wi r mo kn kc kn) (hr : r = wr.heap.size) (hb : Below wr.heap.size wr wi) (hm : ∀ m, mo = some m → m < w.heap.size) :
    InAll w wi r mo kn kc xs f ys.length [] kn K ys vo :=
  ⟨hi, List.Perm.refl _, (h.out.more (fun b hb' e => by
    rcases e with e | e
    · exact e
    · omega)).below hb, h.seen.kept (M := fun _ => False) (.of_below hb) id, h.inv.congr fun a => by simp [fDone], by simp, by have := h.seen.lt; omega, hm⟩
theorem OutAll.leave {wi : World} {r i : Nat} {mo : Option Nat} {kn done : List (Ent Adr)} {kc n0 : Nat} {K' : Adr → Bool} {ys' : List Acc} {vo' : Value} (hi : i < nds.length) (hp : ParOk nds) (hfin : ∀ a, findV nds v a = (f a).or (findF nds a ((i : Int) + 1).toNat i)) (hn0 : n0 + cntU nds i ≤ totalN nds)
    (hn : kn.map (·.a) = nds[i].xs.map (·.adr)) (h2 : InAll w wi r mo kn kc nds[i].xs f n0 done [] K' ys' vo') : OutAll S w wi s g c nds v nds[i].par (fDone f nds[i].xs (done.map (·.a))) K' ys' vo' := by
  have hperm := h2.perm
  rw [List.append_nil] at hperm
  have hmem : ∀ a, a ∈ done.map (·.a) ↔ (findK a nds[i].xs).isSome = true := fun a => by
    rw [← mem_findK, ← hn]
    exact (hperm.map _).mem_iff
  refine ⟨fun a => ?_, h2.inv, h2.out.more (fun b _ e => .inl e), h2.seen, ?_⟩
  · rw [hfin a, findF_step hp a i hi]
    unfold fDone
    cases hk : findK a nds[i].xs with
    | none =>
      have : ¬ a ∈ done.map (·.a) := fun e => by rw [hmem, hk] at e; cases e
      simp [this]
    | some x =>
      have : a ∈ done.map (·.a) := by rw [hmem, hk]; rfl
      rw [if_pos this]
      cases f a <;> rfl
  · have h3 := h2.len
    have h4 := hperm.length_eq
    have h5 := congrArg List.length hn
    simp only [List.length_map] at h5
    have h6 := cntU_step nds i hi (hp i hi).2
    omega
theorem OutAll.last {zs : List Acc} (h : OutAll S w wr s g c nds v u f K ys vo) (hu : u < 0) (hp : zs.Perm ys) (hs : zs.Pairwise (fun a b => b.adr.lt a.adr = false)) : Rising zs ∧ ∀ x, x ∈ zs ↔ findV nds v x.adr = some x ∧ emptyAt x = false := by
  refine ⟨?_, fun x => ?_⟩
  · have hn : (zs.map (·.adr)).Nodup := (hp.map _).nodup_iff.2 h.inv.nod
    have := rising_of (l := zs.map (·.adr)) (by rw [List.pairwise_map]; exact hs) hn
    rw [List.pairwise_map] at this
    exact this
  · rw [hp.mem_iff, h.inv.mem, h.fin, findF_end _ _ _ hu, Option.or_none]
end
set_option maxRecDepth 100000 in
set_option maxHeartbeats 4000000 in
theorem store_All {S : Nat → Prop} {w : World} {s g c : Nat} {nds : List Nd} (h : StoreAt S w s g c nds) (hs : SmallNds nds) (hT : totalN nds ≤ 1000000) (v : Int) :
    Calls Try.prog 42 #[.pointer (some ⟨s, 0, none⟩), .int .i64 v] w (AllOut w nds v) := by
  by_cases hv : hasV nds v = true
  rotate_left
  · have hv' : hasV nds v = false := by simpa using hv
    go_enter Try.func42, Try.ntmps42
    go_wp2_with fail
    refine (store_has h v).mono ?_
    rintro e w1 ⟨rfl, rfl⟩
    rw [hv']
    go_wp2
    go_ret
    exact ⟨_, [], rfl, .nil (Below.refl _ _), List.Pairwise.nil, fun x => by simp [findV, hv'], Nat.zero_le _⟩
  · have hmm := mm
    have hv1 : v < nds.length := by simp [hasV] at hv; omega
    have hv0 : 0 ≤ v := by simp [hasV] at hv; omega
    have Hp : Hid (ParOk nds) := Lib.hid h.par
    have hS := Lib.hid h
    have hcap := h.cap
    unfold maxLen at hcap
    have hlen : nds.length ≤ 1048576 := h.fits
    have Hsm := Lib.hid hs
    have HT := Lib.hid hT
    have Hv := Lib.hid hv
    clear hs hT
    go_enter Try.func42, Try.ntmps42
    go_wp2_with fail
    refine (store_has h v).mono ?_
    rintro e w1 ⟨rfl, rfl⟩
    rw [hv]
    clear h hv
    go_wp2
    have HO := Lib.hid (OutAll.start (S := S) (s := s) (g := g) (c := c) Hv.out (wr := w1.alloc (mapObj Adr.cells [] 0)) (heap_alloc_new _ _) (bel_alloc (Below.refl _ _) _))
    go_loopw [1, 5] (fun i vo wr => ∃ (u : Int) (f : Adr → Option Acc) (K : Adr → Bool) (ys : List Acc) (q : Option Addr) (cc : Nat), -1 ≤ u ∧ u < nds.length ∧ i = .int .i64 u ∧ vo = .slice q ys.length cc ∧ Hid (OutAll S w1 wr s g c nds v u f K ys vo)) (fun i _ _ => (intOf i + 1).toNat)
    case atStart => exact ⟨v, _, _, _, none, 0, by omega, hv1, rfl, rfl, HO⟩
    case round =>
      obtain ⟨u, f, K, ys, q, cc, hu0, hu1, rfl, rfl, hO⟩ := hrel
      clear HO
      by_cases hu : u < 0
      · have hd : decide (0 ≤ u) = false := by simpa using hu
        have HO2 := Lib.hid (hO.out.out.more (N' := fun _ => False) (fun _ _ e => e.elim))
        have hyl : ys.length ≤ 1000000 := by have := hO.out.len; have := HT.out; omega
        go_wp2_with fail
        refine (sortsOut HO2.out (by omega)).mono ?_
        rintro e w5 ⟨rfl, zs, hz1, hz2, hz3, hz4⟩
        have hl2 := Lib.hid (hO.out.last hu hz1 hz2)
        have hzl : ys.length = zs.length := hz1.length_eq.symm
        have hyn := Lib.hid (show zs.length ≤ totalN nds by have := hO.out.len; omega)
        rw [hzl] at hz3 ⊢
        clear hz2 hz4 hz1
        go_wp2
        go_ret
        exact ⟨_, zs, rfl, hz3, hl2.out.1, hl2.out.2, hyn.out⟩
      · obtain ⟨i, rfl⟩ : ∃ i : Nat, u = i := ⟨u.toNat, by omega⟩
        have hi : i < nds.length := by omega
        have hd : decide (0 ≤ (i : Int)) = true := by simp
        have hi0 : (0 : Int) ≤ (i : Int) := by omega
        have hbel := hO.out.out.bel
        have hSr := hS.out.below hbel
        have hc := hSr.cell
        obtain ⟨n1, n2⟩ := hSr.node i hi
        have hlt := hS.out.lt
        have hpar := Hp.out i hi
        have hnd := hS.out.nodes nds[i] (List.getElem_mem hi)
        have hsmd := Hsm.out nds[i] (List.getElem_mem hi)
        have hleave := Lib.hid (fun (wi : World) (r : Nat) mo kn done kc K' ys' vo' (hn : kn.map (·.a) = nds[i].xs.map (·.adr)) (h2 : InAll w1 wi r mo kn kc nds[i].xs f ys.length done [] K' ys' vo') => OutAll.leave (S := S) (s := s) (g := g) (c := c) hi Hp.out hO.out.fin hO.out.len hn h2)
        have hcapl : ys.length + nds[i].xs.length ≤ 1000000 := by have := hO.out.len; have := HT.out; have := cntU_step nds i hi hpar.2; omega
        have Hcap := Lib.hid hcapl
        clear hcapl
        generalize hD : nds[i] = d at n1 n2 hpar hnd hsmd hleave Hcap
        have HD := Lib.hid hD
        clear hD hSr
        obtain ⟨par, m, xs⟩ := d
        simp only at n1 n2 hpar hsmd hleave
        obtain ⟨kn, kc, hr1, hr2, hr3⟩ := hnd.rows
        have Hro := Lib.hid (hr1.below hbel)
        have Hmlt := Lib.hid hr1.lt
        have Hkeys := Lib.hid hr2
        have Hent := Lib.hid hr3
        have Hsmd := Lib.hid hsmd
        clear hr1 hr2 hr3 hnd hsmd
        go_wp2_with (first | (at_range; refine wpList_range_o rfl (.tmp 32) 119 rfl Try.underlying119 m kn kc (by simp [Act.eval]) Hro.out ?_; intro w2 hit b2 z2) | fail)
        have hI := Lib.hid (hO.out.enter (xs := xs) hit rfl b2 Hmlt.out)
        clear hit b2 z2 hO hc n1 n2 hbel Hro
        generalize wr.heap.size = r at *
        go_loopw [5] (fun vo wq => ∃ (done left : List (Ent Adr)) (K' : Adr → Bool) (ys' : List Acc) (q' : Option Addr) (c' : Nat), vo = .slice q' ys'.length c' ∧ Hid (InAll w1 wq r m kn kc xs f ys.length done left K' ys' vo)) (fun _ wq => World.leftAt wq r)
        case atStart => exact ⟨[], kn, K, ys, q, cc, rfl, hI⟩
        case round =>
          obtain ⟨done, left, K', ys', q', c', rfl, hI2⟩ := hrel
          clear hI
          have hyl : ys'.length ≤ 1000000 := by
            have h1 := hI2.out.perm.length_eq
            have h2 := congrArg List.length Hkeys.out
            have h3 := hI2.out.len
            have h4 : ys.length + xs.length ≤ 1000000 := Hcap.out
            simp only [List.length_append, List.length_map] at h1 h2
            omega
          go_wp2_with (first | (at_next; refine wpList_next_o rfl (.tmp 33) rfl r m kn kc left (by simp [Act.eval]) hI2.out.it ?_ ?_) | fail)
          · intro h0
            subst h0
            have hO3 := Lib.hid (hleave.out _ _ _ _ _ _ _ _ _ Hkeys.out hI2.out)
            have hS3 := hS.out.below hI2.out.out.bel
            have hc3 := hS3.cell
            obtain ⟨n1, n2⟩ := hS3.node i hi
            rw [HD.out] at n1 n2
            simp only at n1 n2
            clear hS3
            go_wp2
            go_roundw
            case rel => exact ⟨par, _, _, ys', q', c', hpar.1, by omega, rfl, rfl, hO3⟩
            case measure => simp [intOf]; omega
          · intro x left' w2 hp2 hit2 hk2 hz2 hen
            have hN := Lib.hid (hI2.out.next hp2 hit2 hk2)
            have hx : x ∈ kn := hN.out.perm.mem_iff.1 (by simp)
            obtain ⟨rw, y, hxv, hfy, hya, hay⟩ := Hent.out x hx
            rw [hxv] at hen ⊢
            have hay2 := hay.below hN.out.out.bel
            have hrs := hay.size
            have hr1 := hay.one
            have hrw : rw.extract 0 27 = rw := by rw [← hrs]; simp
            have hB : Below w2.heap.size w2 ((w2.alloc (.cells x.a.cells 23)).alloc (.cells rw 30)) := bel_alloc (bel_alloc (Below.refl _ _) _) _
            have hNW := Lib.hid (hN.out.below hB)
            have HayW := Lib.hid (hay2.below hB)
            have hlook := hNW.out.seen.look x.a
            have Hmeas := Lib.hid (show World.leftAt wr r = left'.length + 1 by rw [hI2.out.it.left_eq, hp2.length_eq]; simp)
            have hsma := Hsmd.out y (findK_mem hfy)
            have Hst := Lib.hid (hN.out.inv.step hfy hya)
            clear hp2 hit2 hk2 hz2 hay hay2 hB hfy hya
            have hlow := hN.out.low
            cases hK : K' x.a with
            | true =>
              rw [hK] at hlook
              rw [hK] at Hst
              go_wp2_with (first | (at_mapUpdate; go_loud (refine wpList_seen_put rfl (.tmp 53) (.tmp 54) _ rfl hNW.out.seen x.a (by simp [Act.eval]) (by simp [Act.eval]) (by simp [Act.eval]) ?_); intro w5 hs5 hk5 hz5) | fail)
              have hA := Lib.hid (hNW.out.fin (hk5.mono (fun b _ e => .inl e)) (hNW.out.out.kept hk5 (fun b e => ⟨.inl e, by omega⟩)) hs5 (by simpa using Hst.out) (by omega))
              go_frame
              go_roundw
              case rel => exact ⟨done ++ [x], left', _, ys', q', c', rfl, hA⟩
              case measure =>
                rw [Hmeas.out, hA.out.it.left_eq]
                omega
            | false =>
              rw [hK] at hlook
              rw [hK] at Hst
              go_wp2_with fail
              refine (store_Empty _ rw y HayW.out).mono ?_
              rintro e w3 ⟨rfl, hb3⟩
              obtain ⟨y0, j0, l0⟩ := carryRow hb3 (b := w2.heap.size) (r := x.a.cells) (by simp [go_sem]) (by simp [go_sem])
              obtain ⟨y1, j1, l1⟩ := carryRow hb3 (b := w2.heap.size + 1) (r := rw) (by simp [go_sem]) (by simp [go_sem])
              have hN3 := Lib.hid (hNW.out.below hb3)
              have HayW3 := Lib.hid (HayW.out.below hb3)
              have z3 := hb3.size
              clear hb3 hlook
              cases hE : emptyAt y with
              | true =>
                rw [hE] at Hst
                go_wp2_with (first | (at_mapUpdate; go_loud (refine wpList_seen_put rfl (.tmp 53) (.tmp 54) _ rfl hN3.out.seen x.a (by simp [Act.eval]) (by simp [Act.eval]) (by simp [Act.eval]) ?_); intro w5 hs5 hk5 hz5) | fail)
                have hA := Lib.hid (hN3.out.fin (hk5.mono (fun b _ e => .inl e)) (hN3.out.out.kept hk5 (fun b e => ⟨.inl e, by omega⟩)) hs5 (by simpa using Hst.out) (by omega))
                go_frame
                go_roundw
                case rel => exact ⟨done ++ [x], left', _, ys', q', c', rfl, hA⟩
                case measure =>
                  rw [Hmeas.out, hA.out.it.left_eq]
                  omega
              | false =>
                rw [hE] at Hst
                go_wp2_with fail
                refine (store_ownO _ rw y HayW3.out hsma).mono ?_
                rintro e w4 ⟨r4, rfl, hr4, hb4⟩
                obtain ⟨y2, j2, l2⟩ := carryRow hb4 y0 j0
                have hrs4 := hr4.size
                have hr41 := hr4.one
                have hrw4 : r4.extract 0 27 = r4 := by rw [← hrs4]; simp
                have hb5 := bel_alloc hb4 (.cells r4 30)
                have hr5 := Lib.hid ((hr4.below (bel_alloc (Below.refl _ _) (.cells r4 30))).mono (T := fun k => w3.heap.size ≤ k ∧ k < (w4.alloc (.cells r4 30)).heap.size ∧ openB (w4.alloc (.cells r4 30)) k = true) (fun b hb => ⟨hb.1, by have := hb.2.1; simp; omega, by rw [openB_same (heap_alloc_old w4 _ hb.2.1)]; exact hb.2.2⟩))
                have hN5 := Lib.hid (hN3.out.below hb5)
                have hb5' := Lib.hid hb5
                have hlt5 := Lib.hid (show ∀ b, (b = w1.heap.size ∨ b = r) → b < w3.heap.size from fun b e => by
                  have h1 := hN3.out.it.lt
                  have h2 := hN3.out.seen.lt
                  rcases e with e | e <;> omega)
                have hnm := Lib.hid (show ¬ (Value.slice q' ys'.length c').ownBlock = some w2.heap.size from fun e => by have := hN.out.out.base _ e; omega)
                clear hb4 hb5 hr4
                go_wp2_with (first
                  | (at_builtin; refine wpList_append_accOut rfl (.tmp 48) (.tmp 51) 32 rfl Try.underlying32 hN3.out.out (by simp [Act.eval]) hb5'.out hlt5.out w4.heap.size r4 y (by simp [Act.eval]) (by simp [go_sem]) hr5.out hyl ?_; intro g5 c5 w5 ho5 hk5; have y3 : rowOf w5 w2.heap.size = x.a.cells := by { rw [hk5.row _ (by simp; omega) hnm.out, rowOf_alloc_past _ _ _ l2]; exact y2 }; have j3 : isRow w5 w2.heap.size = true := by { rw [hk5.isRow _ (by simp; omega) hnm.out, isRow_alloc_past _ _ _ l2]; exact j2 }; have l3 := isRow_lt j3)
                  | (at_mapUpdate; go_loud (refine wpList_seen_put rfl (.tmp 53) (.tmp 54) _ rfl (hN5.out.seen.kept hk5 (fun e => hN3.out.out.nb _ e (.inl rfl))) x.a (by simp [Act.eval]) (by simp [Act.eval]) (by simp [Act.eval]) ?_); intro w6 hs6 hk6 hz6)
                  | fail)
                have hA := Lib.hid (hN5.out.fin ((hk5.mono (fun b _ e => .inr e)).trans (hk6.mono (fun b _ e => .inl e))) (ho5.kept hk6 (fun b e => ⟨.inl e, by omega⟩)) hs6 (by simpa using Hst.out) (by simp))
                go_frame
                go_roundw
                case rel => exact ⟨done ++ [x], left', _, ys' ++ [y], some ⟨g5, 0, none⟩, c5, by simp, hA⟩
                case measure =>
                  rw [Hmeas.out, hA.out.it.left_eq]
                  omega
end Go.Proofs.Ytadafohgglnneaa
