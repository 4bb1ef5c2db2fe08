/- Closed facts of this seat's program in the spelling of the walks: equality of words, addresses, slots; zero values. No condition. -/
import Derived.Test.YtadafohgglnneaaRows
import Derived.Test.YtadafohgglnneaaBase
namespace Go.Proofs.Ytadafohgglnneaa
open Go.RowKit

@[go_sem] theorem eq23 (a b : Adr) (w : World) : (Op.equalIn 10000 23 (.agg a.cells) (.agg b.cells)).run Try.prog w = .ok (decide (a = b)) w := by
  have := run_equalIn_arr (P := Try.prog) w 9998 23 5 20 .u8 Try.underlying23 Try.underlying5 Try.sizeOf5 a.l b.l a.len b.len
  rw [Adr.cells, Adr.cells, this, Adr.dec]
theorem eqIn26 (d : Nat) (a b : Wrd) (w : World) : (Op.equalIn (d + 2) 26 (.agg a.cells) (.agg b.cells)).run Try.prog w = .ok (decide (a = b)) w := by
  have := run_equalIn_arr (P := Try.prog) w d 26 24 4 .u64 Try.underlying26 Try.underlying24 Try.sizeOf24 a.l b.l a.len b.len
  rw [Wrd.cells, Wrd.cells, this, Wrd.dec]
@[go_sem] theorem eq26 (a b : Wrd) (w : World) : (Op.equalIn 10000 26 (.agg a.cells) (.agg b.cells)).run Try.prog w = .ok (decide (a = b)) w := eqIn26 9998 a b w
@[go_sem] theorem eq26' (a b : Wrd) (w : World) : (Op.equalIn 9999 26 (.agg a.cells) (.agg b.cells)).run Try.prog w = .ok (decide (a = b)) w := eqIn26 9997 a b w
@[go_sem ↓ high] theorem eq116 (a b : Slt) (w : World) : (Op.equalIn 10000 116 (.agg a.cells) (.agg b.cells)).run Try.prog w = .ok (decide (a = b)) w := by
  rw [run_equalIn_struct w 9999 116 _ _ (by kernel_rfl) Try.stoodInHeld116]
  have hf : (Try.prog.fieldsOf 116).toList = [{ name := "Key", type := 26, offset := 0, embedded := false, tag := "", pkgPath := "", byteOffset := 0 }, { name := "Value", type := 26, offset := 4, embedded := false, tag := "", pkgPath := "", byteOffset := 32 }] := by kernel_rfl
  rw [hf]
  have p1 : ∀ s : Slt, (part 26 s.cells 0).run Try.prog w = .ok (.agg s.k.cells) w := fun s => by simp [part, Try.isAgg26, Try.sizeOf26]
  have p2 : ∀ s : Slt, (part 26 s.cells 4).run Try.prog w = .ok (.agg s.v.cells) w := fun s => by simp [part, Try.isAgg26, Try.sizeOf26]
  simp only [Op.eqFields, ne_eq, Sem.run_bind, Sem.run_ite, p1, p2, Result.andThen_ok, eq26']
  by_cases h1 : a.k = b.k
  · by_cases h2 : a.v = b.v
    · have : a = b := by cases a; cases b; simp_all
      simp [this]
    · have : a ≠ b := fun e => h2 (by rw [e])
      simp [h1, h2, this]
  · have : a ≠ b := fun e => h1 (by rw [e])
    simp [h1, this]
theorem zeroAdr_cells : zeroAdr.cells = #[.int .u8 0, .int .u8 0, .int .u8 0, .int .u8 0, .int .u8 0, .int .u8 0, .int .u8 0, .int .u8 0, .int .u8 0, .int .u8 0, .int .u8 0, .int .u8 0, .int .u8 0, .int .u8 0, .int .u8 0, .int .u8 0, .int .u8 0, .int .u8 0, .int .u8 0, .int .u8 0] := rfl
theorem zeroWrd_cells : zeroWrd.cells = #[.int .u64 0, .int .u64 0, .int .u64 0, .int .u64 0] := rfl
@[go_sem ↓ high] theorem zero23 (w : World) : (zeroValue 23).run Try.prog w = .ok (.agg zeroAdr.cells) w := by rw [Try.zeroValue23]; rfl
@[go_sem ↓ high] theorem zero26 (w : World) : (zeroValue 26).run Try.prog w = .ok (.agg zeroWrd.cells) w := by rw [Try.zeroValue26]; rfl
@[go_sem ↓ high] theorem zero30 (w : World) : (zeroValue 30).run Try.prog w = .ok (.agg (accRow zeroAdr 0 zeroWrd (.slice none 0 0) (.slice none 0 0))) w := by rw [Try.zeroValue30]; rfl
@[go_sem ↓ high] theorem zero116 (w : World) : (zeroValue 116).run Try.prog w = .ok (.agg (Slt.cells ⟨zeroWrd, zeroWrd⟩)) w := by rw [Try.zeroValue116]; rfl
def zero32 : List Int := List.replicate 32 0
@[go_sem] theorem zero32_len : zero32.length = 32 := rfl
@[go_sem ↓ high] theorem zero163 (w : World) : (zeroValue 163).run Try.prog w = .ok (.agg (ints .i64 zero32)) w := by rw [Try.zeroValue163]; rfl
@[go_sem ↓ high] theorem build163 (w : World) : (Instr.build 163 #[]).run Try.prog w = .ok (.agg (ints .i64 zero32)) w := by kernel_rfl
@[go_sem ↓ high] theorem build26 (w : World) : (Instr.build 26 #[]).run Try.prog w = .ok (.agg zeroWrd.cells) w := by kernel_rfl
@[go_sem ↓ high] theorem build30 (w : World) : (Instr.build 30 #[]).run Try.prog w = .ok (.agg (accRow zeroAdr 0 zeroWrd (.slice none 0 0) (.slice none 0 0))) w := by kernel_rfl

def adr1 : Adr := ⟨[0,0,0,0,0,0,0,0,0,0,0,0,0,0,0,0,0,0,0,1], rfl, by decide⟩
@[go_sem] theorem build23_1 : zeroAdr.cells.setIfInBounds 19 (.int .u8 1) = adr1.cells := rfl
def wrd5 : Wrd := ⟨[5, 0, 0, 0], rfl, by decide⟩
def wrd7 : Wrd := ⟨[7, 0, 0, 0], rfl, by decide⟩
@[go_sem] theorem build26_5 : zeroWrd.cells.setIfInBounds 0 (.int .u64 5) = wrd5.cells := rfl
@[go_sem] theorem build26_7 : zeroWrd.cells.setIfInBounds 0 (.int .u64 7) = wrd7.cells := rfl
/-! ### maps keyed by addresses: 119 (accounts), 120 (numbers) -/
theorem equal23 (a b : Adr) (w : World) : (Op.equal 23 (.agg a.cells) (.agg b.cells)).run Try.prog w = .ok (decide (a = b)) w := eq23 a b w
theorem check23 (e : Bool) (a : Adr) (w : World) : (Instr.checkKey e 10000 23 (.agg a.cells)).run Try.prog w = .ok () w :=
  run_checkKey_ints e 9998 23 5 20 .u8 Try.underlying23 Try.underlying5 Try.sizeOf5 a.l a.len w
theorem same23 (a : Adr) : Instr.sameBits 10000 (.agg a.cells) (.agg a.cells) = true := sameBits_ints 9999 .u8 a.l
theorem wide23 : isWide Try.prog 23 = true := by unfold isWide; rw [Try.underlying23]
def zeroAccV : Value := .agg (accRow zeroAdr 0 zeroWrd (.slice none 0 0) (.slice none 0 0))
theorem look119 (w : World) (r : Nat) (l : List (Ent Adr)) (c : Nat) (h : objAt w r = some (mapObj Adr.cells l c)) (a : Adr) (ok : Bool) :
    (Instr.lookup 119 (.map (some r)) (.agg a.cells) ok).run Try.prog w = .ok (if ok then .tuple #[(findE a l).getD zeroAccV, .bool (findE a l).isSome] else (findE a l).getD zeroAccV) w :=
  run_lookup_ent Adr.cells equal23 wide23 check23 Try.underlying119 w r l c h a ok _ (zero30 w)
theorem look120 (w : World) (r : Nat) (l : List (Ent Adr)) (c : Nat) (h : objAt w r = some (mapObj Adr.cells l c)) (a : Adr) (ok : Bool) :
    (Instr.lookup 120 (.map (some r)) (.agg a.cells) ok).run Try.prog w = .ok (if ok then .tuple #[(findE a l).getD (.int .i64 0), .bool (findE a l).isSome] else (findE a l).getD (.int .i64 0)) w :=
  run_lookup_ent Adr.cells equal23 wide23 check23 Try.underlying120 w r l c h a ok _ (Try.zeroValue3 w)
theorem upd119 (w : World) (r : Nat) (l : List (Ent Adr)) (c : Nat) (h : objAt w r = some (mapObj Adr.cells l c)) (hd : (l.map (·.a)).Nodup) (a : Adr) (v : Value) :
    (Instr.mapUpdate 119 (.map (some r)) (.agg a.cells) v).run Try.prog w = .ok () (World.setMap w r (mapObj Adr.cells (putE a v c l) (putC a c l))) :=
  run_update_ent Adr.cells equal23 wide23 check23 Try.underlying119 same23 w r l c h hd a v
theorem upd120 (w : World) (r : Nat) (l : List (Ent Adr)) (c : Nat) (h : objAt w r = some (mapObj Adr.cells l c)) (hd : (l.map (·.a)).Nodup) (a : Adr) (v : Value) :
    (Instr.mapUpdate 120 (.map (some r)) (.agg a.cells) v).run Try.prog w = .ok () (World.setMap w r (mapObj Adr.cells (putE a v c l) (putC a c l))) :=
  run_update_ent Adr.cells equal23 wide23 check23 Try.underlying120 same23 w r l c h hd a v
theorem del120 (w : World) (r : Nat) (l : List (Ent Adr)) (c : Nat) (h : objAt w r = some (mapObj Adr.cells l c)) (hd : (l.map (·.a)).Nodup) (a : Adr) (ty at2 : TypeId) :
    (Builtin.delete_ #[120, at2] ty #[.map (some r), .agg a.cells]).run Try.prog w = .ok (.tuple #[]) (World.setMap w r (mapObj Adr.cells (delE a l) c)) :=
  run_delete_ent Adr.cells equal23 wide23 check23 Try.underlying120 w r l c h hd a ty at2
end Go.Proofs.Ytadafohgglnneaa
