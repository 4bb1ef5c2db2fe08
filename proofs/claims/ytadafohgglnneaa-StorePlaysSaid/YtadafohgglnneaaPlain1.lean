/- Plain: words told by digits to the base 256 stand to each other as the words do. No condition. -/
import Derived.Test.YtadafohgglnneaaX2
namespace Go.Proofs.Ytadafohgglnneaa
def d8 (a : Int) (i : Nat) : Int := a / 2 ^ (8 * i) % 256
theorem ltFrom_congr {f g f' g' : Nat → Int} : ∀ n, (∀ i, i < n → f i = f' i) → (∀ i, i < n → g i = g' i) → ltFrom f g n = ltFrom f' g' n
  | 0, _, _ => rfl
  | n + 1, h1, h2 => by
    unfold ltFrom
    rw [h1 n (by omega), h2 n (by omega), ltFrom_congr n (fun i h => h1 i (by omega)) (fun i h => h2 i (by omega))]
theorem pow8 (n : Nat) : (2 : Int) ^ (8 * n) = 256 ^ n := by rw [Int.pow_mul]; rfl
theorem d8_rem (a : Int) (n i : Nat) (h : i < n) : d8 (a % 256 ^ n) i = d8 a i := by
  unfold d8
  rw [pow8]
  have hp : (0 : Int) < 256 ^ i := Int.pow_pos (by decide)
  obtain ⟨m, rfl⟩ : ∃ m, n = i + 1 + m := ⟨n - i - 1, by omega⟩
  have e : (256 : Int) ^ (i + 1 + m) = 256 ^ i * (256 * 256 ^ m) := by rw [Int.pow_add, Int.pow_add]; simp [Int.mul_assoc]
  rw [e]
  have hd := Int.mul_ediv_add_emod a (256 ^ i * (256 * 256 ^ m))
  generalize hq : a / (256 ^ i * (256 * 256 ^ m)) = q at hd
  generalize hr : a % (256 ^ i * (256 * 256 ^ m)) = r at hd
  have : a = r + 256 ^ i * (256 * 256 ^ m * q) := by rw [← hd]; simp [Int.mul_assoc, Int.add_comm]
  rw [this, Int.add_mul_ediv_left _ _ (by omega), Int.mul_assoc 256, Int.add_mul_emod_self_left]
theorem ltFrom_d8 : ∀ (n : Nat) (a b : Int), 0 ≤ a → a < 256 ^ n → 0 ≤ b → b < 256 ^ n → ltFrom (d8 a) (d8 b) n = decide (a < b)
  | 0, a, b, h1, h2, h3, h4 => by simp at h2 h4; simp [ltFrom]; omega
  | n + 1, a, b, h1, h2, h3, h4 => by
    have hp : (0 : Int) < 256 ^ n := Int.pow_pos (by decide)
    have top : ∀ c : Int, 0 ≤ c → c < 256 ^ (n + 1) → d8 c n = c / 256 ^ n := by
      intro c c1 c2
      unfold d8
      rw [pow8]
      apply Int.emod_eq_of_lt (Int.ediv_nonneg c1 (by omega))
      apply Int.ediv_lt_of_lt_mul hp
      rw [Int.pow_succ] at c2
      omega
    unfold ltFrom
    rw [top a h1 h2, top b h3 h4]
    have ha := Int.mul_ediv_add_emod a (256 ^ n)
    have hb := Int.mul_ediv_add_emod b (256 ^ n)
    have a1 := Int.emod_nonneg a (show (256 : Int) ^ n ≠ 0 by omega)
    have b1 := Int.emod_nonneg b (show (256 : Int) ^ n ≠ 0 by omega)
    have a2 := Int.emod_lt_of_pos a hp
    have b2 := Int.emod_lt_of_pos b hp
    by_cases e : a / 256 ^ n = b / 256 ^ n
    · rw [if_pos e]
      have := ltFrom_d8 n (a % 256 ^ n) (b % 256 ^ n) a1 a2 b1 b2
      rw [ltFrom_congr n (fun i hi => d8_rem a n i hi) (fun i hi => d8_rem b n i hi)] at this
      rw [this, Bool.eq_iff_iff, decide_eq_true_eq, decide_eq_true_eq]
      rw [e] at ha
      omega
    · rw [if_neg e, Bool.eq_iff_iff, decide_eq_true_eq, decide_eq_true_eq]
      constructor
      · intro h
        have : 256 ^ n * (a / 256 ^ n + 1) ≤ 256 ^ n * (b / 256 ^ n) := Int.mul_le_mul_of_nonneg_left (by omega) (by omega)
        rw [Int.mul_add] at this
        omega
      · intro h
        by_cases h' : b / 256 ^ n < a / 256 ^ n
        · have : 256 ^ n * (b / 256 ^ n + 1) ≤ 256 ^ n * (a / 256 ^ n) := Int.mul_le_mul_of_nonneg_left (by omega) (by omega)
          rw [Int.mul_add] at this
          omega
        · omega
theorem ltFrom_succ (f g : Nat → Int) (n : Nat) : ltFrom f g (n + 1) = if f n = g n then ltFrom f g n else decide (f n < g n) := rfl
/-- The higher part decides, else the lower. -/
theorem ltFrom_add (f g : Nat → Int) (a : Nat) : ∀ n, ltFrom f g (a + n) = if ltFrom (fun i => f (a + i)) (fun i => g (a + i)) n then true else if ltFrom (fun i => g (a + i)) (fun i => f (a + i)) n then false else ltFrom f g a
  | 0 => by simp [ltFrom]
  | n + 1 => by
    rw [show a + (n + 1) = (a + n) + 1 from rfl, ltFrom_succ, ltFrom_succ, ltFrom_succ]
    by_cases e : f (a + n) = g (a + n)
    · rw [if_pos e, ltFrom_add f g a n]; simp [e]
    · rw [if_neg e]
      have e' := Ne.symm e
      simp [e, e']
      by_cases h : f (a + n) < g (a + n)
      · simp [h]
      · simp [h]; intro h2; omega
theorem ltFrom_dig (x y : Wrd) : ∀ m, m ≤ 4 → ltFrom x.dig y.dig (8 * m) = ltFrom x.g y.g m
  | 0, _ => rfl
  | m + 1, hm => by
    have s : ∀ z : Wrd, ∀ i, i < 8 → z.dig (8 * m + i) = d8 (z.g m) i := by
      intro z i hi
      unfold Wrd.dig d8
      rw [show (8 * m + i) / 8 = m by omega, show (8 * m + i) % 8 = i by omega]
    have e64 : big64 = 256 ^ 8 := by decide
    have bx := x.g_bd m
    have by_ := y.g_bd m
    rw [e64] at bx by_
    have h1 := ltFrom_d8 8 (x.g m) (y.g m) bx.1 bx.2 by_.1 by_.2
    have h2 := ltFrom_d8 8 (y.g m) (x.g m) by_.1 by_.2 bx.1 bx.2
    rw [show 8 * (m + 1) = 8 * m + 8 by omega, ltFrom_add]
    rw [ltFrom_congr 8 (s x) (s y), ltFrom_congr 8 (s y) (s x), h1, h2, ltFrom_dig x y m (by omega)]
    show _ = if x.g m = y.g m then ltFrom x.g y.g m else decide (x.g m < y.g m)
    by_cases c1 : x.g m < y.g m
    · simp [c1]; left; omega
    · by_cases c2 : y.g m < x.g m
      · simp [c1, c2]; omega
      · have : x.g m = y.g m := by omega
        simp [this]
theorem gi_dig (x : Wrd) (i : Nat) (h : i < 32) : gi ((List.range 32).map x.dig) i = x.dig i := by
  rw [gi_lt _ _ (by simpa using h)]; simp
theorem digCmp_words (x y : Wrd) : digCmp ((List.range 32).map x.dig) ((List.range 32).map y.dig) = if x.lt y then -1 else if y.lt x then 1 else 0 := by
  unfold digCmp
  rw [ltFrom_congr 32 (gi_dig x) (gi_dig y), ltFrom_congr 32 (gi_dig y) (gi_dig x), show (32 : Nat) = 8 * 4 from rfl, ltFrom_dig x y 4 (by omega), ltFrom_dig y x 4 (by omega)]
  rfl
theorem digCmp_lt (x y : Wrd) : decide (digCmp ((List.range 32).map x.dig) ((List.range 32).map y.dig) < 0) = x.lt y := by
  rw [digCmp_words]
  cases x.lt y <;> cases y.lt x <;> simp
theorem digCmp_le (x y : Wrd) : decide (digCmp ((List.range 32).map x.dig) ((List.range 32).map y.dig) ≤ 0) = !y.lt x := by
  rw [digCmp_words]
  cases h : x.lt y <;> cases h' : y.lt x <;> simp
  have := Wrd.lt_trans h h'
  rw [Wrd.lt_irr] at this; cases this
end Go.Proofs.Ytadafohgglnneaa
