/- The sort of a row of accounts whose lists are one's own, too. No condition. -/
import Derived.Test.YtadafohgglnneaaA1
import Derived.Test.YtadafohgglnneaaT1
namespace Go.Proofs.Ytadafohgglnneaa
open Go.RowKit
section
variable {α β : Type} [Inhabited β] {e : TypeId} {size : Nat} {E : Array Value → α → Prop} {enc : β → List Value}
/-- What the library's sort leaves of a row of one's own: its cells. -/
theorem sort_core (hk : ∀ x, (enc x).length = size) (cf : β → β → Int) (F : FuncId) (fv : Value)
    (hcall : ∀ (blk off cap : Nat) (d : Array β) (w : World), Go.Sort.HoldsK enc size w blk off d → blk < w.heap.size → d.size < 4611686018427387904 → Calls Try.prog F #[.slice (some ⟨blk, off, none⟩) d.size cap, fv] w fun e w' =>
      e = .returned (.tuple #[]) ∧ ∃ d' n os, Go.Sort.PermIn 0 d.size d d' ∧ Go.Sort.SortedIn (ltOf cf) 0 d.size d' ∧ w' = sortWorldK enc size w blk off n d' os)
    (hnone : ∀ (p : Option Addr) (cap : Nat) (w : World), Calls Try.prog F #[.slice p 0 cap, fv] w fun e w' => e = .returned (.tuple #[]) ∧ w' = w)
    {base : Nat} {w : World} {v : Value} {ys : List α} {rs : List (Array Value)} (p : w.ownsRow base e size v ys.length (joinR rs).toList) (h2 : All2 E rs ys) (hE : ∀ r y, E r y → ∃ b, r = (enc b).toArray) (hl : ys.length ≤ 1048576) :
    Calls Try.prog F #[v, fv] w fun e' w' => e' = .returned (.tuple #[]) ∧ ∃ zs rs', ys.Perm zs ∧ (∃ bs : List β, Rel2 (fun b y => E (enc b).toArray y) bs zs ∧ bs.Pairwise (fun a b => ltOf cf b a = false)) ∧ w'.ownsRow base e size v zs.length (joinR rs').toList ∧ All2 E rs' zs ∧ Kept (fun k => v.ownBlock = some k) w w' := by
  by_cases h0 : ys = []
  · subst h0
    have hv : ∃ q c, v = .slice q 0 c := by
      rcases p.2 with ⟨rfl, _⟩ | ⟨g, cap, cur, rfl, _⟩
      · exact ⟨_, _, rfl⟩
      · exact ⟨_, _, rfl⟩
    obtain ⟨q, c, rfl⟩ := hv
    refine (hnone q c w).mono ?_
    rintro e' w' ⟨rfl, rfl⟩
    exact ⟨rfl, [], rs, List.Perm.refl _, ⟨[], trivial, List.Pairwise.nil⟩, p, h2, Kept.refl _ _⟩
  · obtain ⟨p1, p2⟩ := p
    rcases p2 with ⟨_, hz⟩ | ⟨g, cap, cur, rfl, q1, q2, q3, q4, q5, q6⟩
    · exact absurd (List.eq_nil_of_length_eq_zero hz) h0
    obtain ⟨bs, rfl, hR⟩ := All2.rel h2 hE
    have hlb := hR.length
    have hflat := flat_joinR enc size hk bs
    have hjz : (joinR (bs.map fun b => (enc b).toArray)).size = ys.length * size := by rw [← hflat]; simp [hlb]
    have hcl : ys.length * size ≤ cur.size := by rw [q5]; exact Nat.mul_le_mul_right _ q3
    have hH : Go.Sort.HoldsK enc size w g 0 bs.toArray := by
      unfold Go.Sort.HoldsK
      rw [hflat]
      intro j hj
      refine ⟨?_, by simp [World.frozen?, q2]⟩
      have h5 : (cur.toList.take (ys.length * size))[j]? = (joinR (bs.map fun b => (enc b).toArray)).toList[j]? := by rw [q6]
      rw [List.getElem?_take_of_lt (by omega)] at h5
      simp only [World.cell?, q2, Nat.zero_add]
      simp only [Option.isSome_none, Bool.false_eq_true, if_false]
      rw [← Array.getElem?_toList, h5]
      simp [hj]
    have hc := hcall g 0 cap bs.toArray w hH (Array.getElem?_eq_some_iff.1 q2).1 (by simp; omega)
    have hsz : bs.toArray.size = ys.length := by simp [hlb]
    rw [hsz] at hc
    refine hc.mono ?_
    rintro e' w' ⟨rfl, d', n, os, hperm, hsorted, rfl⟩
    obtain ⟨hp1, -, hp3⟩ := hperm
    have hd1 : d'.size = ys.length := by rw [hp1, hsz]
    have hperm2 : bs.Perm d'.toList := by
      have e1 : (d'.extract 0 ys.length).toList = d'.toList := by rw [← hd1]; simp
      have e2 : (bs.toArray.extract 0 ys.length).toList = bs := by rw [← hlb]; simp
      rw [e1, e2] at hp3
      exact hp3.symm
    obtain ⟨zs, hz1, hz2⟩ := hR.perm hperm2
    have hsorted2 : d'.toList.Pairwise (fun a b => ltOf cf b a = false) := by
      rw [List.pairwise_iff_getElem]
      intro i j hi hj hij
      simp only [Array.length_toList] at hi hj
      have := hsorted i j (Nat.zero_le _) hij (by omega)
      simpa [hi, hj] using this
    have hflat2 := flat_joinR enc size hk d'.toList
    have hK : Kept (fun k => k = g) w (sortWorldK enc size w g 0 n d' os) := kept_sorted _
    have hzl : zs.length = ys.length := hz1.length_eq.symm
    refine ⟨rfl, zs, d'.toList.map fun b => (enc b).toArray, hz1, ⟨d'.toList, hz2, hsorted2⟩, ⟨?_, .inr ⟨g, cap, _, by rw [hzl], q1, heap_sorted_mine _ q2, by omega, q4, by simp [Go.Sort.putCells, q5], ?_⟩⟩, Rel2.all2 hz2, ?_⟩
    · rw [← hflat2]; simp [hzl, hd1]
    · rw [← hflat2]
      have hfs : (Go.Sort.flatK enc size d'.toList.toArray).size = zs.length * size := by simp [hzl, hd1]
      have := take_put cur (Go.Sort.flatK enc size d'.toList.toArray) (by rw [hfs, hzl]; exact hcl)
      rw [hfs] at this
      exact this
    · exact hK.mono fun b _ hb => by simp [Value.ownBlock]; exact hb.symm
end
theorem sortsOut {N : Nat → Prop} {w0 w : World} {v : Value} {ys : List Acc} (h : AccOut N w0 w v ys) (hl : ys.length ≤ 1048576) :
    Calls Try.prog 79 #[v, .func (.func 80) #[] #[]] w fun e w' => e = .returned (.tuple #[]) ∧ ∃ zs, zs.Perm ys ∧ zs.Pairwise (fun a b => b.adr.lt a.adr = false) ∧ AccOut N w0 w' v zs ∧ Kept (fun k => v.ownBlock = some k) w w' := by
  have hbase := h.base
  obtain ⟨⟨rs, p, q⟩, h3, h4⟩ := h
  have hE : ∀ r (y : Acc), AccIn (fun b => w0.heap.size ≤ b ∧ b < w.heap.size ∧ ¬ N b ∧ v.ownBlock ≠ some b ∧ openB w b = true) w r y → ∃ b : AR, r = (encAcc b).toArray := fun r y e => by
    obtain ⟨c, s, rfl, h1, h2⟩ := e
    exact ⟨⟨y.adr, y.nonce, y.bal, c, s, h1.one, h2.one⟩, by rw [encAcc_arr]; rfl⟩
  refine (sort_core (enc := encAcc) (fun x => by simp [encAcc, x.size]) (fun x y : AR => x.adr.cmp y.adr) 79 (.func (.func 80) #[] #[]) (fun blk off cap d w hH hblk hsz => ?_) (fun p cap w => ?_) p (All2.of_accs q) hE hl).mono ?_
  · exact AnyQ.slices_SortFunc sortAcc 27 Try.isAgg30 Try.sizeOf30 encAcc (fun x => by simp [encAcc, x.size]) (fun x u hu => ones_list x.one u hu) _ swoAcc 80 #[] blk off cap d w enters80 (lays80 _ _ _ _) hH hblk hsz
  · exact AnyF.slices_SortFunc_none sortAcc p cap _ w
  · rintro e w' ⟨rfl, zs, rs', h1, ⟨bs, h2, h3'⟩, h5, h6, hK⟩
    have hz := hK.size
    refine ⟨rfl, zs, h1.symm, ?_, ⟨⟨rs', h5, h6.accs.imp fun r x hx => (hx.kept hK (fun b hb e => hb.2.2.2.1 e)).mono fun b hb => ⟨hb.1, by omega, hb.2.2.1, hb.2.2.2.1, by rw [openB_same (hK.block b hb.2.1 (fun e => hb.2.2.2.1 e))]; exact hb.2.2.2.2⟩⟩, bel_kept h3 hK (fun x hx e => by have := hbase x e; omega), h4⟩, hK⟩
    refine Rel2.pairwise (R := fun (b : AR) (y : Acc) => AccIn _ w (encAcc b).toArray y) (fun a b c d r1 r2 hp => ?_) h2 h3'
    rw [encAcc_arr] at r1 r2
    obtain ⟨c1, s1, q1, _⟩ := r1
    obtain ⟨c2, s2, q2, _⟩ := r2
    have e1 := (accRow_inj q1).1
    have e2 := (accRow_inj q2).1
    rw [← e1, ← e2]
    simpa [ltOf, cmp_lt] using hp
end Go.Proofs.Ytadafohgglnneaa
