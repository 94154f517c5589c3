/- Plain mathematics of chapter 2 and 29: sums and products that stop at the greatest number, the square root, binary digits. No program. -/
import Derived.Lib.BitFns
namespace Go.Proofs.Ytblajeildolloaa
set_option linter.unusedVariables false
set_option linter.unusedSimpArgs false

def plusI (a b : Int) : Int := if a < 0 ∨ b < 0 then 0 else if 9223372036854775807 < a + b then 9223372036854775807 else a + b
def timesI (a b : Int) : Int := if a ≤ 0 ∨ b ≤ 0 then 0 else if 9223372036854775807 < a * b then 9223372036854775807 else a * b
def sqrtN : Nat → Nat
  | 0 => 0
  | n + 1 => if (sqrtN n + 1) * (sqrtN n + 1) ≤ n + 1 then sqrtN n + 1 else sqrtN n
def rootI (n : Int) : Int := (sqrtN n.toNat : Int)
def bitsI (n : Int) : Int := (Go.Lib.bitLen n.toNat : Int)

theorem sqrtN_spec (n : Nat) : sqrtN n * sqrtN n ≤ n ∧ n < (sqrtN n + 1) * (sqrtN n + 1) := by
  induction n with
  | zero => simp [sqrtN]
  | succ n ih =>
    simp only [sqrtN]
    split
    · rename_i h
      refine ⟨h, ?_⟩
      have e : (sqrtN n + 1 + 1) * (sqrtN n + 1 + 1) = (sqrtN n + 1) * (sqrtN n + 1) + 2 * (sqrtN n + 1) + 1 := by
        rw [Nat.mul_add, Nat.add_mul]; omega
      omega
    · rename_i h
      exact ⟨by omega, by omega⟩

theorem sq_lt {a b : Nat} (h : a < b) : (a + 1) * (a + 1) ≤ b * b := Nat.mul_le_mul h h

theorem sqrtN_unique {n r : Nat} (h1 : r * r ≤ n) (h2 : n < (r + 1) * (r + 1)) : sqrtN n = r := by
  obtain ⟨s1, s2⟩ := sqrtN_spec n
  rcases Nat.lt_trichotomy (sqrtN n) r with h | h | h
  · have := sq_lt h; omega
  · exact h
  · have := sq_lt h; omega

theorem sqrtN_mono {m n : Nat} (h : m ≤ n) : sqrtN m ≤ sqrtN n := by
  obtain ⟨s1, s2⟩ := sqrtN_spec n
  obtain ⟨t1, t2⟩ := sqrtN_spec m
  rcases Nat.lt_or_ge (sqrtN n) (sqrtN m) with g | g
  · have := sq_lt g; omega
  · exact g

theorem rootI_nonneg (n : Int) : 0 ≤ rootI n := Int.natCast_nonneg _
theorem rootI_low {n : Int} (h : n ≤ 0) : rootI n = 0 := by
  unfold rootI; rw [Int.toNat_of_nonpos h]; rfl
theorem rootI_spec {n : Int} (h : 0 ≤ n) : rootI n * rootI n ≤ n ∧ n < (rootI n + 1) * (rootI n + 1) := by
  obtain ⟨s1, s2⟩ := sqrtN_spec n.toNat
  unfold rootI
  constructor
  · have : ((sqrtN n.toNat * sqrtN n.toNat : Nat) : Int) ≤ (n.toNat : Int) := by exact_mod_cast s1
    rw [Int.natCast_mul] at this; omega
  · have : ((n.toNat : Nat) : Int) < (((sqrtN n.toNat + 1) * (sqrtN n.toNat + 1) : Nat) : Int) := by exact_mod_cast s2
    rw [Int.natCast_mul, Int.natCast_add] at this; simp only [Int.natCast_one] at this; omega
theorem rootI_unique {n r : Int} (h0 : 0 ≤ r) (h1 : r * r ≤ n) (h2 : n < (r + 1) * (r + 1)) : rootI n = r := by
  obtain ⟨k, rfl⟩ := Int.eq_ofNat_of_zero_le h0
  unfold rootI
  have hn : 0 ≤ n := Int.le_trans (by rw [← Int.natCast_mul]; exact Int.natCast_nonneg _) h1
  obtain ⟨m, rfl⟩ := Int.eq_ofNat_of_zero_le hn
  have e1 : k * k ≤ m := by exact_mod_cast h1
  have e2 : m < (k + 1) * (k + 1) := by exact_mod_cast h2
  rw [Int.toNat_natCast, sqrtN_unique e1 e2]
theorem rootI_mono {m n : Int} (h : m ≤ n) : rootI m ≤ rootI n := by
  unfold rootI
  have : sqrtN m.toNat ≤ sqrtN n.toNat := sqrtN_mono (by omega)
  omega
/-- The square root of what an int64 may be. -/
theorem rootI_le {n : Int} (h : n ≤ 9223372036854775807) : rootI n ≤ 3037000499 := by
  have e : rootI 9223372036854775807 = 3037000499 := rootI_unique (by decide) (by decide) (by decide)
  have := rootI_mono h
  omega

/-! ### bits -/
theorem bitLen_zero : Go.Lib.bitLen 0 = 0 := by decide
theorem bitLen_pos {x : Nat} (h0 : x ≠ 0) (h : x < 2 ^ 64) : 0 < Go.Lib.bitLen x := by
  rw [Go.Lib.bitLen_half x h0 h]; omega
theorem bitLen_spec : ∀ (d x : Nat), x ≤ d → x ≠ 0 → x < 2 ^ 64 → 2 ^ (Go.Lib.bitLen x - 1) ≤ x ∧ x < 2 ^ Go.Lib.bitLen x
  | 0, x, hd, h0, _ => absurd (Nat.le_zero.1 hd) h0
  | d + 1, x, hd, h0, h => by
    have e := Go.Lib.bitLen_half x h0 h
    rw [e]
    by_cases h2 : x / 2 = 0
    · rw [h2, bitLen_zero]
      simp; omega
    · obtain ⟨i1, i2⟩ := bitLen_spec d (x / 2) (by omega) h2 (by omega)
      have p := bitLen_pos h2 (by omega)
      obtain ⟨b, hb⟩ : ∃ b, Go.Lib.bitLen (x / 2) = b + 1 := ⟨Go.Lib.bitLen (x / 2) - 1, by omega⟩
      rw [hb] at i1 i2 ⊢
      have e1 : 1 + (b + 1) - 1 = b + 1 := by omega
      have e2 : 1 + (b + 1) = b + 1 + 1 := by omega
      have e3 : b + 1 - 1 = b := by omega
      rw [e1, e2]
      rw [e3] at i1
      rw [Nat.pow_succ 2 (b + 1)]
      rw [Nat.pow_succ] at i2 ⊢
      omega
theorem bitLen_lt {x : Nat} (h0 : x ≠ 0) (h : x < 2 ^ 64) : 2 ^ (Go.Lib.bitLen x - 1) ≤ x ∧ x < 2 ^ Go.Lib.bitLen x := bitLen_spec x x (Nat.le_refl _) h0 h
theorem bitLen_unique {x b : Nat} (h : x < 2 ^ 64) (h1 : 2 ^ b ≤ x) (h2 : x < 2 ^ (b + 1)) : Go.Lib.bitLen x = b + 1 := by
  have hp : 0 < 2 ^ b := Nat.two_pow_pos b
  obtain ⟨s1, s2⟩ := bitLen_lt (x := x) (by omega) h
  have p := bitLen_pos (x := x) (by omega) h
  have a1 : b < Go.Lib.bitLen x := by
    rcases Nat.lt_or_ge b (Go.Lib.bitLen x) with g | g
    · exact g
    · have := Nat.pow_le_pow_right (n := 2) (by decide) g; omega
  have a2 : Go.Lib.bitLen x - 1 < b + 1 := by
    rcases Nat.lt_or_ge (Go.Lib.bitLen x - 1) (b + 1) with g | g
    · exact g
    · have := Nat.pow_le_pow_right (n := 2) (by decide) g; omega
  omega
theorem bitLen_mono {x y : Nat} (h : x ≤ y) (hy : y < 2 ^ 64) : Go.Lib.bitLen x ≤ Go.Lib.bitLen y := by
  by_cases h0 : x = 0
  · subst h0; rw [bitLen_zero]; omega
  · obtain ⟨s1, _⟩ := bitLen_lt h0 (by omega)
    obtain ⟨_, t2⟩ := bitLen_lt (x := y) (by omega) hy
    have p := bitLen_pos h0 (by omega)
    rcases Nat.lt_or_ge (Go.Lib.bitLen y) (Go.Lib.bitLen x) with g | g
    · have := Nat.pow_le_pow_right (n := 2) (by decide) (show Go.Lib.bitLen y ≤ Go.Lib.bitLen x - 1 by omega); omega
    · exact g

theorem bitsI_nonneg (n : Int) : 0 ≤ bitsI n := Int.natCast_nonneg _
theorem bitsI_low {n : Int} (h : n ≤ 0) : bitsI n = 0 := by
  unfold bitsI; rw [Int.toNat_of_nonpos h, bitLen_zero]; rfl
theorem bitsI_le {n : Int} (h : n ≤ 9223372036854775807) : bitsI n ≤ 63 := by
  unfold bitsI
  have := Go.Lib.bitLen_le n.toNat 63 (by decide) (by omega)
  omega
theorem bitsI_mono {m n : Int} (h : m ≤ n) (hn : n ≤ 9223372036854775807) : bitsI m ≤ bitsI n := by
  unfold bitsI
  have := bitLen_mono (x := m.toNat) (y := n.toNat) (by omega) (by omega)
  omega
/-- Half of a number has one digit less. -/
theorem bitsI_half {n : Int} (h : 0 < n) (hn : n ≤ 9223372036854775807) : bitsI n = bitsI (n / 2) + 1 := by
  unfold bitsI
  rw [Go.Lib.bitLen_half n.toNat (by omega) (by omega)]
  have : (n / 2).toNat = n.toNat / 2 := by omega
  rw [this]; omega

/-! ### plus and times -/
theorem plusI_neg1 {a : Int} (b : Int) (h : a < 0) : plusI a b = 0 := if_pos (.inl h)
theorem plusI_neg2 (a : Int) {b : Int} (h : b < 0) : plusI a b = 0 := if_pos (.inr h)
theorem plusI_top {a b : Int} (h1 : 0 ≤ a) (h2 : 0 ≤ b) (h : 9223372036854775807 - b < a) : plusI a b = 9223372036854775807 := by
  unfold plusI; rw [if_neg (by omega), if_pos (by omega)]
theorem plusI_in {a b : Int} (h1 : 0 ≤ a) (h2 : 0 ≤ b) (h : a ≤ 9223372036854775807 - b) : plusI a b = a + b := by
  unfold plusI; rw [if_neg (by omega), if_neg (by omega)]
theorem plusI_nonneg (a b : Int) : 0 ≤ plusI a b := by
  unfold plusI; split
  · omega
  · split <;> omega
theorem plusI_le (a b : Int) : plusI a b ≤ 9223372036854775807 := by
  unfold plusI; split
  · omega
  · split <;> omega
theorem plusI_mono {a b c d : Int} (h1 : 0 ≤ a) (h2 : 0 ≤ b) (h : a ≤ c) (k : b ≤ d) : plusI a b ≤ plusI c d := by
  unfold plusI; rw [if_neg (show ¬ (a < 0 ∨ b < 0) by omega), if_neg (show ¬ (c < 0 ∨ d < 0) by omega)]; split <;> split <;> omega
theorem timesI_low1 {a : Int} (b : Int) (h : a ≤ 0) : timesI a b = 0 := if_pos (.inl h)
theorem timesI_low2 (a : Int) {b : Int} (h : b ≤ 0) : timesI a b = 0 := if_pos (.inr h)
theorem lt_div_iff {a b m : Int} (hb : 0 < b) : m / b < a ↔ m < a * b := by
  exact Int.ediv_lt_iff_lt_mul hb
theorem timesI_top {a b : Int} (h1 : 0 < a) (h2 : 0 < b) (h : 9223372036854775807 / b < a) : timesI a b = 9223372036854775807 := by
  unfold timesI; rw [if_neg (by omega), if_pos ((lt_div_iff h2).1 h)]
theorem timesI_in {a b : Int} (h1 : 0 < a) (h2 : 0 < b) (h : a ≤ 9223372036854775807 / b) : timesI a b = a * b := by
  unfold timesI; rw [if_neg (by omega), if_neg]
  intro g
  have := (lt_div_iff h2).2 g
  omega
theorem times_fits {a b : Int} (h1 : 0 < a) (h2 : 0 < b) (h : a ≤ 9223372036854775807 / b) : 0 < a * b ∧ a * b ≤ 9223372036854775807 := by
  refine ⟨Int.mul_pos h1 h2, ?_⟩
  have : ¬ 9223372036854775807 < a * b := fun g => by have := (lt_div_iff h2).2 g; omega
  omega
theorem timesI_nonneg (a b : Int) : 0 ≤ timesI a b := by
  unfold timesI; split
  · omega
  · split
    · omega
    · rename_i h _
      exact Int.mul_nonneg (by omega) (by omega)
theorem timesI_le (a b : Int) : timesI a b ≤ 9223372036854775807 := by
  unfold timesI; split
  · omega
  · split <;> omega
theorem timesI_mono {a b c d : Int} (h : a ≤ c) (k : b ≤ d) : timesI a b ≤ timesI c d := by
  by_cases h0 : a ≤ 0 ∨ b ≤ 0
  · have : timesI a b = 0 := if_pos h0
    rw [this]; exact timesI_nonneg _ _
  · have hm : a * b ≤ c * d := Int.mul_le_mul h k (by omega) (by omega)
    unfold timesI; rw [if_neg h0, if_neg (show ¬ (c ≤ 0 ∨ d ≤ 0) by omega)]; split <;> split <;> omega
theorem timesI_one {a : Int} (h : 0 ≤ a) (h' : a ≤ 9223372036854775807) : timesI 1 a = a := by
  unfold timesI; split
  · omega
  · rw [Int.one_mul, if_neg (by omega)]
theorem plusI_zero {a : Int} (h : 0 ≤ a) (h' : a ≤ 9223372036854775807) : plusI 0 a = a := by
  unfold plusI; rw [if_neg (by omega), Int.zero_add, if_neg (by omega)]
theorem plusI_eq {a b : Int} (h1 : 0 ≤ a) (h2 : 0 ≤ b) (h : a + b ≤ 9223372036854775807) : plusI a b = a + b := plusI_in h1 h2 (by omega)
theorem timesI_eq {a b : Int} (h1 : 0 ≤ a) (h2 : 0 ≤ b) (h : a * b ≤ 9223372036854775807) : timesI a b = a * b := by
  unfold timesI; split
  · rename_i g
    have : a = 0 ∨ b = 0 := by omega
    rcases this with rfl | rfl <;> simp
  · rw [if_neg (by omega)]

def posI (a : Int) : Int := if a < 0 then 0 else a
theorem posI_nonneg (a : Int) : 0 ≤ posI a := by unfold posI; split <;> omega
theorem posI_le {a : Int} (h : a ≤ 9223372036854775807) : posI a ≤ 9223372036854775807 := by unfold posI; split <;> omega
theorem posI_of {a : Int} (h : 0 ≤ a) : posI a = a := if_neg (by omega)
theorem posI_mono {a b : Int} (h : a ≤ b) : posI a ≤ posI b := by unfold posI; split <;> split <;> omega
theorem rootI_pos (a : Int) : rootI (posI a) = rootI a := by
  unfold posI; split
  · rw [rootI_low (by omega), rootI_low (by omega)]
  · rfl

end Go.Proofs.Ytblajeildolloaa
