/- Part 1 of what the statement of RoutePlays needs: Math, MathS, MathG, Span, Words, Ints, Mv, Mem, Only, Mul, Div, Minmax, Share, Probe, Probe2, Path, Pairs, Concat, Make, RouteM, Node, Begin, Chg, RefW, Route, Step, Peek. No condition. -/
import Derived.Lib.BitFns
import Derived.Laws.Bits64b
import Derived.IntWalk
import Derived.Test.YtblajeildolloaaGreatProg
import Derived.WalkKit
import Derived.WalkSpells
import Derived.Lib.Strings
import Derived.Lib.Slices
import Derived.Lib.Small
import Derived.Lib.Walk
import Derived.Lib.Hide
import Derived.Deep.Light
import Derived.Deep.Draws
import Derived.Below
import Derived.Laws.OwnMore
import Derived.Deep.AppendLies
import Derived.Laws.Rows
import Derived.Maps.AppendAt
import Derived.RegionTactic
import Derived.OwnWalk
import Derived.WalkSmall
import Derived.OneCell
import Derived.Deep.QuietTactic
import Derived.BigQuiet
import Derived.Lib.Mul64
import Derived.Lib.AppendZeros
import Derived.Lib.SliceRun
import Derived.Laws.Bits128
import Derived.StillTailTactics
import Derived.Outline
import Derived.Deep.RegionWith
/- Plain mathematics of chapter 2 and 29: sums and products that stop at the greatest number, the square root, binary digits. No program. -/
namespace Go.Proofs.YtblajeildolloaaGreat
set_option linter.unusedVariables false
set_option linter.unusedSimpArgs false

def plusI (a b : Int) : Int := if a < 0 ∨ b < 0 then 0 else if 9223372036854775807 < a + b then 9223372036854775807 else a + b
def timesI (a b : Int) : Int := if a ≤ 0 ∨ b ≤ 0 then 0 else if 9223372036854775807 < a * b then 9223372036854775807 else a * b
def sqrtN : Nat → Nat
  | 0 => 0
  | n + 1 => if (sqrtN n + 1) * (sqrtN n + 1) ≤ n + 1 then sqrtN n + 1 else sqrtN n
def rootI (n : Int) : Int := (sqrtN n.toNat : Int)
def bitsI (n : Int) : Int := (Go.Lib.bitLen n.toNat : Int)

theorem sqrtN_spec (n : Nat) : sqrtN n * sqrtN n ≤ n ∧ n < (sqrtN n + 1) * (sqrtN n + 1) := by
  induction n with
  | zero => simp [sqrtN]
  | succ n ih =>
    simp only [sqrtN]
    split
    · rename_i h
      refine ⟨h, ?_⟩
      have e : (sqrtN n + 1 + 1) * (sqrtN n + 1 + 1) = (sqrtN n + 1) * (sqrtN n + 1) + 2 * (sqrtN n + 1) + 1 := by
        rw [Nat.mul_add, Nat.add_mul]; omega
      omega
    · rename_i h
      exact ⟨by omega, by omega⟩

theorem sq_lt {a b : Nat} (h : a < b) : (a + 1) * (a + 1) ≤ b * b := Nat.mul_le_mul h h

theorem sqrtN_unique {n r : Nat} (h1 : r * r ≤ n) (h2 : n < (r + 1) * (r + 1)) : sqrtN n = r := by
  obtain ⟨s1, s2⟩ := sqrtN_spec n
  rcases Nat.lt_trichotomy (sqrtN n) r with h | h | h
  · have := sq_lt h; omega
  · exact h
  · have := sq_lt h; omega

theorem sqrtN_mono {m n : Nat} (h : m ≤ n) : sqrtN m ≤ sqrtN n := by
  obtain ⟨s1, s2⟩ := sqrtN_spec n
  obtain ⟨t1, t2⟩ := sqrtN_spec m
  rcases Nat.lt_or_ge (sqrtN n) (sqrtN m) with g | g
  · have := sq_lt g; omega
  · exact g

theorem rootI_nonneg (n : Int) : 0 ≤ rootI n := Int.natCast_nonneg _
theorem rootI_low {n : Int} (h : n ≤ 0) : rootI n = 0 := by
  unfold rootI; rw [Int.toNat_of_nonpos h]; rfl
theorem rootI_spec {n : Int} (h : 0 ≤ n) : rootI n * rootI n ≤ n ∧ n < (rootI n + 1) * (rootI n + 1) := by
  obtain ⟨s1, s2⟩ := sqrtN_spec n.toNat
  unfold rootI
  constructor
  · have : ((sqrtN n.toNat * sqrtN n.toNat : Nat) : Int) ≤ (n.toNat : Int) := by exact_mod_cast s1
    rw [Int.natCast_mul] at this; omega
  · have : ((n.toNat : Nat) : Int) < (((sqrtN n.toNat + 1) * (sqrtN n.toNat + 1) : Nat) : Int) := by exact_mod_cast s2
    rw [Int.natCast_mul, Int.natCast_add] at this; simp only [Int.natCast_one] at this; omega
theorem rootI_unique {n r : Int} (h0 : 0 ≤ r) (h1 : r * r ≤ n) (h2 : n < (r + 1) * (r + 1)) : rootI n = r := by
  obtain ⟨k, rfl⟩ := Int.eq_ofNat_of_zero_le h0
  unfold rootI
  have hn : 0 ≤ n := Int.le_trans (by rw [← Int.natCast_mul]; exact Int.natCast_nonneg _) h1
  obtain ⟨m, rfl⟩ := Int.eq_ofNat_of_zero_le hn
  have e1 : k * k ≤ m := by exact_mod_cast h1
  have e2 : m < (k + 1) * (k + 1) := by exact_mod_cast h2
  rw [Int.toNat_natCast, sqrtN_unique e1 e2]
theorem rootI_mono {m n : Int} (h : m ≤ n) : rootI m ≤ rootI n := by
  unfold rootI
  have : sqrtN m.toNat ≤ sqrtN n.toNat := sqrtN_mono (by omega)
  omega
/-- The square root of what an int64 may be. -/
theorem rootI_le {n : Int} (h : n ≤ 9223372036854775807) : rootI n ≤ 3037000499 := by
  have e : rootI 9223372036854775807 = 3037000499 := rootI_unique (by decide) (by decide) (by decide)
  have := rootI_mono h
  omega

/-! ### bits -/
theorem bitLen_zero : Go.Lib.bitLen 0 = 0 := by decide
theorem bitLen_pos {x : Nat} (h0 : x ≠ 0) (h : x < 2 ^ 64) : 0 < Go.Lib.bitLen x := by
  rw [Go.Lib.bitLen_half x h0 h]; omega
theorem bitLen_spec : ∀ (d x : Nat), x ≤ d → x ≠ 0 → x < 2 ^ 64 → 2 ^ (Go.Lib.bitLen x - 1) ≤ x ∧ x < 2 ^ Go.Lib.bitLen x
  | 0, x, hd, h0, _ => absurd (Nat.le_zero.1 hd) h0
  | d + 1, x, hd, h0, h => by
    have e := Go.Lib.bitLen_half x h0 h
    rw [e]
    by_cases h2 : x / 2 = 0
    · rw [h2, bitLen_zero]
      simp; omega
    · obtain ⟨i1, i2⟩ := bitLen_spec d (x / 2) (by omega) h2 (by omega)
      have p := bitLen_pos h2 (by omega)
      obtain ⟨b, hb⟩ : ∃ b, Go.Lib.bitLen (x / 2) = b + 1 := ⟨Go.Lib.bitLen (x / 2) - 1, by omega⟩
      rw [hb] at i1 i2 ⊢
      have e1 : 1 + (b + 1) - 1 = b + 1 := by omega
      have e2 : 1 + (b + 1) = b + 1 + 1 := by omega
      have e3 : b + 1 - 1 = b := by omega
      rw [e1, e2]
      rw [e3] at i1
      rw [Nat.pow_succ 2 (b + 1)]
      rw [Nat.pow_succ] at i2 ⊢
      omega
theorem bitLen_lt {x : Nat} (h0 : x ≠ 0) (h : x < 2 ^ 64) : 2 ^ (Go.Lib.bitLen x - 1) ≤ x ∧ x < 2 ^ Go.Lib.bitLen x := bitLen_spec x x (Nat.le_refl _) h0 h
theorem bitLen_unique {x b : Nat} (h : x < 2 ^ 64) (h1 : 2 ^ b ≤ x) (h2 : x < 2 ^ (b + 1)) : Go.Lib.bitLen x = b + 1 := by
  have hp : 0 < 2 ^ b := Nat.two_pow_pos b
  obtain ⟨s1, s2⟩ := bitLen_lt (x := x) (by omega) h
  have p := bitLen_pos (x := x) (by omega) h
  have a1 : b < Go.Lib.bitLen x := by
    rcases Nat.lt_or_ge b (Go.Lib.bitLen x) with g | g
    · exact g
    · have := Nat.pow_le_pow_right (n := 2) (by decide) g; omega
  have a2 : Go.Lib.bitLen x - 1 < b + 1 := by
    rcases Nat.lt_or_ge (Go.Lib.bitLen x - 1) (b + 1) with g | g
    · exact g
    · have := Nat.pow_le_pow_right (n := 2) (by decide) g; omega
  omega
theorem bitLen_mono {x y : Nat} (h : x ≤ y) (hy : y < 2 ^ 64) : Go.Lib.bitLen x ≤ Go.Lib.bitLen y := by
  by_cases h0 : x = 0
  · subst h0; rw [bitLen_zero]; omega
  · obtain ⟨s1, _⟩ := bitLen_lt h0 (by omega)
    obtain ⟨_, t2⟩ := bitLen_lt (x := y) (by omega) hy
    have p := bitLen_pos h0 (by omega)
    rcases Nat.lt_or_ge (Go.Lib.bitLen y) (Go.Lib.bitLen x) with g | g
    · have := Nat.pow_le_pow_right (n := 2) (by decide) (show Go.Lib.bitLen y ≤ Go.Lib.bitLen x - 1 by omega); omega
    · exact g

theorem bitsI_nonneg (n : Int) : 0 ≤ bitsI n := Int.natCast_nonneg _
theorem bitsI_low {n : Int} (h : n ≤ 0) : bitsI n = 0 := by
  unfold bitsI; rw [Int.toNat_of_nonpos h, bitLen_zero]; rfl
theorem bitsI_le {n : Int} (h : n ≤ 9223372036854775807) : bitsI n ≤ 63 := by
  unfold bitsI
  have := Go.Lib.bitLen_le n.toNat 63 (by decide) (by omega)
  omega
theorem bitsI_mono {m n : Int} (h : m ≤ n) (hn : n ≤ 9223372036854775807) : bitsI m ≤ bitsI n := by
  unfold bitsI
  have := bitLen_mono (x := m.toNat) (y := n.toNat) (by omega) (by omega)
  omega
/-- Half of a number has one digit less. -/
theorem bitsI_half {n : Int} (h : 0 < n) (hn : n ≤ 9223372036854775807) : bitsI n = bitsI (n / 2) + 1 := by
  unfold bitsI
  rw [Go.Lib.bitLen_half n.toNat (by omega) (by omega)]
  have : (n / 2).toNat = n.toNat / 2 := by omega
  rw [this]; omega

/-! ### plus and times -/
theorem plusI_neg1 {a : Int} (b : Int) (h : a < 0) : plusI a b = 0 := if_pos (.inl h)
theorem plusI_neg2 (a : Int) {b : Int} (h : b < 0) : plusI a b = 0 := if_pos (.inr h)
theorem plusI_top {a b : Int} (h1 : 0 ≤ a) (h2 : 0 ≤ b) (h : 9223372036854775807 - b < a) : plusI a b = 9223372036854775807 := by
  unfold plusI; rw [if_neg (by omega), if_pos (by omega)]
theorem plusI_in {a b : Int} (h1 : 0 ≤ a) (h2 : 0 ≤ b) (h : a ≤ 9223372036854775807 - b) : plusI a b = a + b := by
  unfold plusI; rw [if_neg (by omega), if_neg (by omega)]
theorem plusI_nonneg (a b : Int) : 0 ≤ plusI a b := by
  unfold plusI; split
  · omega
  · split <;> omega
theorem plusI_le (a b : Int) : plusI a b ≤ 9223372036854775807 := by
  unfold plusI; split
  · omega
  · split <;> omega
theorem plusI_mono {a b c d : Int} (h1 : 0 ≤ a) (h2 : 0 ≤ b) (h : a ≤ c) (k : b ≤ d) : plusI a b ≤ plusI c d := by
  unfold plusI; rw [if_neg (show ¬ (a < 0 ∨ b < 0) by omega), if_neg (show ¬ (c < 0 ∨ d < 0) by omega)]; split <;> split <;> omega
theorem timesI_low1 {a : Int} (b : Int) (h : a ≤ 0) : timesI a b = 0 := if_pos (.inl h)
theorem timesI_low2 (a : Int) {b : Int} (h : b ≤ 0) : timesI a b = 0 := if_pos (.inr h)
theorem lt_div_iff {a b m : Int} (hb : 0 < b) : m / b < a ↔ m < a * b := by
  exact Int.ediv_lt_iff_lt_mul hb
theorem timesI_top {a b : Int} (h1 : 0 < a) (h2 : 0 < b) (h : 9223372036854775807 / b < a) : timesI a b = 9223372036854775807 := by
  unfold timesI; rw [if_neg (by omega), if_pos ((lt_div_iff h2).1 h)]
theorem timesI_in {a b : Int} (h1 : 0 < a) (h2 : 0 < b) (h : a ≤ 9223372036854775807 / b) : timesI a b = a * b := by
  unfold timesI; rw [if_neg (by omega), if_neg]
  intro g
  have := (lt_div_iff h2).2 g
  omega
theorem times_fits {a b : Int} (h1 : 0 < a) (h2 : 0 < b) (h : a ≤ 9223372036854775807 / b) : 0 < a * b ∧ a * b ≤ 9223372036854775807 := by
  refine ⟨Int.mul_pos h1 h2, ?_⟩
  have : ¬ 9223372036854775807 < a * b := fun g => by have := (lt_div_iff h2).2 g; omega
  omega
theorem timesI_nonneg (a b : Int) : 0 ≤ timesI a b := by
  unfold timesI; split
  · omega
  · split
    · omega
    · rename_i h _
      exact Int.mul_nonneg (by omega) (by omega)
theorem timesI_le (a b : Int) : timesI a b ≤ 9223372036854775807 := by
  unfold timesI; split
  · omega
  · split <;> omega
theorem timesI_mono {a b c d : Int} (h : a ≤ c) (k : b ≤ d) : timesI a b ≤ timesI c d := by
  by_cases h0 : a ≤ 0 ∨ b ≤ 0
  · have : timesI a b = 0 := if_pos h0
    rw [this]; exact timesI_nonneg _ _
  · have hm : a * b ≤ c * d := Int.mul_le_mul h k (by omega) (by omega)
    unfold timesI; rw [if_neg h0, if_neg (show ¬ (c ≤ 0 ∨ d ≤ 0) by omega)]; split <;> split <;> omega
theorem timesI_one {a : Int} (h : 0 ≤ a) (h' : a ≤ 9223372036854775807) : timesI 1 a = a := by
  unfold timesI; split
  · omega
  · rw [Int.one_mul, if_neg (by omega)]
theorem plusI_zero {a : Int} (h : 0 ≤ a) (h' : a ≤ 9223372036854775807) : plusI 0 a = a := by
  unfold plusI; rw [if_neg (by omega), Int.zero_add, if_neg (by omega)]
theorem plusI_eq {a b : Int} (h1 : 0 ≤ a) (h2 : 0 ≤ b) (h : a + b ≤ 9223372036854775807) : plusI a b = a + b := plusI_in h1 h2 (by omega)
theorem timesI_eq {a b : Int} (h1 : 0 ≤ a) (h2 : 0 ≤ b) (h : a * b ≤ 9223372036854775807) : timesI a b = a * b := by
  unfold timesI; split
  · rename_i g
    have : a = 0 ∨ b = 0 := by omega
    rcases this with rfl | rfl <;> simp
  · rw [if_neg (by omega)]

def posI (a : Int) : Int := if a < 0 then 0 else a
theorem posI_nonneg (a : Int) : 0 ≤ posI a := by unfold posI; split <;> omega
theorem posI_le {a : Int} (h : a ≤ 9223372036854775807) : posI a ≤ 9223372036854775807 := by unfold posI; split <;> omega
theorem posI_of {a : Int} (h : 0 ≤ a) : posI a = a := if_neg (by omega)
theorem posI_mono {a b : Int} (h : a ≤ b) : posI a ≤ posI b := by unfold posI; split <;> split <;> omega
theorem rootI_pos (a : Int) : rootI (posI a) = rootI a := by
  unfold posI; split
  · rw [rootI_low (by omega), rootI_low (by omega)]
  · rfl

end Go.Proofs.YtblajeildolloaaGreat

/- Chapter 2's plain mathematics: gaps and shares. No program. -/
namespace Go.Proofs.YtblajeildolloaaGreat
set_option linter.unusedVariables false
set_option linter.unusedSimpArgs false

def gapI (a b : Int) : Int := if b < a then 0 else b - a
def lesI (a b : Int) : Int := if b < a then b else a
def shareI (p x n : Int) : Int := if x = 0 ∨ n < 1 ∨ 65536 < n then 0 else lesI p x * n / x
theorem shareI_none {p x n : Int} (h : x = 0 ∨ n < 1 ∨ 65536 < n) : shareI p x n = 0 := if_pos h
theorem lesI_bd {p x : Int} (p0 : 0 ≤ p) (x0 : 0 ≤ x) : 0 ≤ lesI p x ∧ lesI p x ≤ x ∧ lesI p x ≤ p := by unfold lesI; split <;> omega
theorem gap_wrap {a b : Int} (a0 : -9223372036854775808 ≤ a) (a1 : a ≤ 9223372036854775807) (b0 : -9223372036854775808 ≤ b) (b1 : b ≤ 9223372036854775807) (h : a ≤ b) : IntKind.u64.wrap (IntKind.u64.wrap b - IntKind.u64.wrap a) = gapI a b := by
  unfold gapI; rw [if_neg (by omega)]
  simp only [IntKind.wrap_u64]
  omega
theorem gapI_bd {a b : Int} (a0 : -9223372036854775808 ≤ a) (b1 : b ≤ 9223372036854775807) : 0 ≤ gapI a b ∧ gapI a b ≤ 18446744073709551615 := by unfold gapI; split <;> omega

theorem share_split {m x n : Int} (m0 : 0 ≤ m) (m1 : m ≤ x) (x0 : 0 < x) (x1 : x ≤ 18446744073709551615) (n0 : 1 ≤ n) (n1 : n ≤ 65536) :
    0 ≤ m * n / 18446744073709551616 ∧ m * n / 18446744073709551616 < x ∧ 0 ≤ m * n % 18446744073709551616 ∧ m * n % 18446744073709551616 ≤ 18446744073709551615 ∧ (m * n / 18446744073709551616 * 18446744073709551616 + m * n % 18446744073709551616) / x = m * n / x ∧ m * n / 18446744073709551616 * 18446744073709551616 + m * n % 18446744073709551616 < x * 4294967296 ∧ (0 ≤ m * n / x ∧ m * n / x ≤ 65536) := by
  have a0 : 0 ≤ m * n := Int.mul_nonneg m0 (by omega)
  have a1 : m * n ≤ x * 65536 := Int.mul_le_mul m1 n1 (by omega) (by omega)
  have e : m * n / 18446744073709551616 * 18446744073709551616 + m * n % 18446744073709551616 = m * n := by omega
  rw [e]
  have b0 : 0 ≤ m * n / x := Int.ediv_nonneg a0 (by omega)
  have b1 : m * n / x < 65537 := Int.ediv_lt_of_lt_mul x0 (by omega)
  refine ⟨by omega, by omega, by omega, by omega, rfl, by omega, b0, by omega⟩

/-- What is known when b binary digits of n are still to come: q * x + r = m * (n without these). -/
structure ShareAt (m x n : Int) (b : Nat) (q r : Int) : Prop where
  eq : q * x + r = m * (n / 2 ^ b)
  r0 : 0 ≤ r
  r1 : r < x

theorem ShareAt.start {m x n : Int} (n0 : 0 ≤ n) (n1 : n ≤ 65536) (x0 : 0 < x) : ShareAt m x n 17 0 0 := by
  have : n / 2 ^ 17 = 0 := Int.ediv_eq_zero_of_lt n0 (by omega)
  exact ⟨by rw [this]; simp, by omega, x0⟩
theorem ShareAt.done {m x n q r : Int} (h : ShareAt m x n 0 q r) (x0 : 0 < x) : m * n / x = q := by
  have e := h.eq
  have : n / 2 ^ 0 = n := by simp
  rw [this] at e
  rw [← e, Int.add_comm, Int.add_mul_ediv_right _ _ (by omega), Int.ediv_eq_zero_of_lt h.r0 h.r1, Int.zero_add]
theorem half_pow (n : Int) (j : Nat) : n / 2 ^ (j + 1) = n / 2 ^ j / 2 := by
  rw [Int.pow_succ, Int.ediv_ediv_of_nonneg (Int.pow_nonneg (by decide))]
theorem ShareAt.bd {m x n q r : Int} {j : Nat} (h : ShareAt m x n (j + 1) q r) (m0 : 0 ≤ m) (m1 : m ≤ x) (x0 : 0 < x) (n0 : 0 ≤ n) (n1 : n ≤ 65536) : 0 ≤ r ∧ r < x ∧ 0 ≤ q ∧ q ≤ 65536 := by
  refine ⟨h.r0, h.r1, ?_⟩
  have e := h.eq
  have k0 : 0 ≤ n / 2 ^ (j + 1) := Int.ediv_nonneg n0 (Int.pow_nonneg (by decide))
  have k1 : n / 2 ^ (j + 1) ≤ n := Int.ediv_le_self _ n0
  generalize n / 2 ^ (j + 1) = k at *
  have a0 : 0 ≤ m * k := Int.mul_nonneg m0 k0
  have a1 : m * k ≤ x * k := Int.mul_le_mul_of_nonneg_right m1 k0
  have r0 := h.r0
  have r1 := h.r1
  constructor
  · rcases Int.lt_or_le q 0 with g | g
    · have : q * x ≤ (-1) * x := Int.mul_le_mul_of_nonneg_right (by omega) (by omega)
      omega
    · exact g
  · rcases Int.lt_or_le 65536 q with g | g
    · have : 65537 * x ≤ q * x := Int.mul_le_mul_of_nonneg_right (by omega) (by omega)
      have : x * k ≤ x * 65536 := Int.mul_le_mul_of_nonneg_left (by omega) (by omega)
      omega
    · exact g
section
variable {m x n q r : Int} {j : Nat}
theorem ShareAt.twice (h : ShareAt m x n (j + 1) q r) (c2 : n / 2 ^ j % 2 = 0) : (2 * q) * x + (r + r) = m * (n / 2 ^ j) := by
  have e := h.eq
  rw [half_pow] at e
  have : n / 2 ^ j = 2 * (n / 2 ^ j / 2) := by omega
  rw [this, Int.mul_left_comm, ← e, Int.mul_assoc, Int.mul_add]; omega
theorem ShareAt.twice1 (h : ShareAt m x n (j + 1) q r) (c2 : n / 2 ^ j % 2 = 1) : (2 * q) * x + (r + r) + m = m * (n / 2 ^ j) := by
  have e := h.eq
  rw [half_pow] at e
  have : n / 2 ^ j = 2 * (n / 2 ^ j / 2) + 1 := by omega
  rw [this, Int.mul_add, Int.mul_one, Int.mul_left_comm, ← e, Int.mul_assoc, Int.mul_add]; omega
theorem ShareAt.step1 (h : ShareAt m x n (j + 1) q r) (c1 : x - r ≤ r) (c2 : n / 2 ^ j % 2 = 0) : ShareAt m x n j (2 * q + 1) (r - (x - r)) :=
  ⟨by rw [← h.twice c2, Int.add_mul]; omega, by have := h.r0; omega, by have := h.r1; omega⟩
theorem ShareAt.step2 (h : ShareAt m x n (j + 1) q r) (m1 : m ≤ x) (c1 : x - r ≤ r) (c2 : n / 2 ^ j % 2 = 1) (c3 : x - (r - (x - r)) ≤ m) : ShareAt m x n j (2 * q + 1 + 1) (r - (x - r) - (x - m)) :=
  ⟨by rw [← h.twice1 c2, Int.add_mul, Int.add_mul]; omega, by omega, by have := h.r1; omega⟩
theorem ShareAt.step3 (h : ShareAt m x n (j + 1) q r) (m0 : 0 ≤ m) (c1 : x - r ≤ r) (c2 : n / 2 ^ j % 2 = 1) (c3 : ¬ x - (r - (x - r)) ≤ m) : ShareAt m x n j (2 * q + 1) (r - (x - r) + m) :=
  ⟨by rw [← h.twice1 c2, Int.add_mul]; omega, by omega, by omega⟩
theorem ShareAt.step4 (h : ShareAt m x n (j + 1) q r) (c1 : ¬ x - r ≤ r) (c2 : n / 2 ^ j % 2 = 0) : ShareAt m x n j (2 * q) (r + r) :=
  ⟨h.twice c2, by have := h.r0; omega, by omega⟩
theorem ShareAt.step5 (h : ShareAt m x n (j + 1) q r) (m1 : m ≤ x) (c1 : ¬ x - r ≤ r) (c2 : n / 2 ^ j % 2 = 1) (c3 : x - (r + r) ≤ m) : ShareAt m x n j (2 * q + 1) (r + r - (x - m)) :=
  ⟨by rw [← h.twice1 c2, Int.add_mul]; omega, by omega, by omega⟩
theorem ShareAt.step6 (h : ShareAt m x n (j + 1) q r) (m0 : 0 ≤ m) (c1 : ¬ x - r ≤ r) (c2 : n / 2 ^ j % 2 = 1) (c3 : ¬ x - (r + r) ≤ m) : ShareAt m x n j (2 * q) (r + r + m) :=
  ⟨by rw [← h.twice1 c2]; omega, by have := h.r0; omega, by omega⟩
end
theorem bit_eq (n : Int) (j : Nat) (n0 : 0 ≤ n) (n1 : n ≤ 9223372036854775807) : bits .and .i64 (n / 2 ^ j) 1 = n / 2 ^ j % 2 := by
  have k0 : 0 ≤ n / 2 ^ j := Int.ediv_nonneg n0 (Int.pow_nonneg (by decide))
  have k1 : n / 2 ^ j ≤ n := Int.ediv_le_self _ n0
  generalize n / 2 ^ j = k at *
  obtain ⟨a, rfl⟩ := Int.eq_ofNat_of_zero_le k0
  have h1 : (BitVec.ofInt 64 (a : Int)).toNat = a := by
    rw [BitVec.ofInt_natCast, BitVec.toNat_ofNat]; exact Nat.mod_eq_of_lt (by omega)
  have h2 : (BitVec.ofInt 64 (1 : Int)).toNat = 1 := rfl
  show IntKind.i64.wrap ((BitVec.ofInt 64 (a : Int) &&& BitVec.ofInt 64 (1 : Int)).toNat : Int) = _
  rw [BitVec.toNat_and, h1, h2, Nat.and_one_is_mod, IntWalk.i64_in _ (by omega)]
  omega
end Go.Proofs.YtblajeildolloaaGreat

/- Chapter 6's plain mathematics: rising keys, how many are not above one, guesses, the keys that are looked at. No program. -/
namespace Go.Proofs.YtblajeildolloaaGreat
set_option linter.unusedVariables false
set_option linter.unusedSimpArgs false

/-- The key at a place. -/
def keyAt (q : List Int) (i : Nat) : Int := q.getD i 0
def ascTo (q : List Int) : Nat → Bool
  | 0 => true
  | k + 1 => ascTo q k && (k == 0 || decide (keyAt q (k - 1) < keyAt q k))
def asc (q : List Int) : Bool := ascTo q q.length
def rightB (q : List Int) : Bool := asc q && decide (q.length ≤ 65536)
theorem ascTo_one (q : List Int) : ascTo q 1 = true := rfl
theorem ascTo_step {q : List Int} {k : Nat} (h : ascTo q k = true) (hk : 1 ≤ k) (h' : keyAt q (k - 1) < keyAt q k) : ascTo q (k + 1) = true := by
  simp [ascTo, h, h']
theorem ascTo_down {q : List Int} : ∀ {m k : Nat}, k ≤ m → ascTo q m = true → ascTo q k = true
  | 0, k, h, _ => by
    have : k = 0 := by omega
    subst this; rfl
  | m + 1, k, h, hm => by
    by_cases e : k = m + 1
    · subst e; exact hm
    · simp only [ascTo, Bool.and_eq_true] at hm
      exact ascTo_down (by omega) hm.1
theorem ascTo_no {q : List Int} {k : Nat} (hk : 1 ≤ k) (h' : ¬ keyAt q (k - 1) < keyAt q k) (hl : k < q.length) : asc q = false := by
  cases h : asc q with
  | false => rfl
  | true =>
    have := ascTo_down (show k + 1 ≤ q.length by omega) h
    simp only [ascTo, Bool.and_eq_true, Bool.or_eq_true, beq_iff_eq, decide_eq_true_eq] at this
    omega
theorem asc_next {q : List Int} (h : asc q = true) {k : Nat} (hk : 1 ≤ k) (hl : k < q.length) : keyAt q (k - 1) < keyAt q k := by
  have := ascTo_down (show k + 1 ≤ q.length by omega) h
  simp only [ascTo, Bool.and_eq_true, Bool.or_eq_true, beq_iff_eq, decide_eq_true_eq] at this
  omega
theorem asc_lt {q : List Int} (h : asc q = true) {i : Nat} : ∀ {j : Nat}, i < j → j < q.length → keyAt q i < keyAt q j
  | 0, hij, _ => absurd hij (by omega)
  | j + 1, hij, hj => by
    have s := asc_next h (k := j + 1) (by omega) hj
    have e : j + 1 - 1 = j := by omega
    rw [e] at s
    by_cases c : i = j
    · subst c; exact s
    · have := asc_lt h (i := i) (j := j) (by omega) (by omega)
      omega
theorem asc_le {q : List Int} (h : asc q = true) {i j : Nat} (hij : i ≤ j) (hj : j < q.length) : keyAt q i ≤ keyAt q j := by
  by_cases c : i = j
  · subst c; omega
  · have := asc_lt h (i := i) (j := j) (by omega) hj; omega
theorem rightB_asc {q : List Int} (h : rightB q = true) : asc q = true := by
  simp only [rightB, Bool.and_eq_true] at h; exact h.1
theorem rightB_len {q : List Int} (h : rightB q = true) : q.length ≤ 65536 := by
  simp only [rightB, Bool.and_eq_true, decide_eq_true_eq] at h; exact h.2

/-- How many of the first i keys are not above k. -/
def cntTo (q : List Int) (k : Int) : Nat → Nat
  | 0 => 0
  | i + 1 => cntTo q k i + if keyAt q i ≤ k then 1 else 0
def findI (q : List Int) (k : Int) : Int := if rightB q = true then (cntTo q k q.length : Int) else 0
theorem cntTo_le (q : List Int) (k : Int) : ∀ i, cntTo q k i ≤ i
  | 0 => Nat.le_refl _
  | i + 1 => by have := cntTo_le q k i; simp only [cntTo]; split <;> omega
theorem cntTo_all {q : List Int} {k : Int} : ∀ {i : Nat}, (∀ j, j < i → keyAt q j ≤ k) → cntTo q k i = i
  | 0, _ => rfl
  | i + 1, h => by rw [cntTo, cntTo_all (fun j hj => h j (by omega)), if_pos (h i (by omega))]
theorem cntTo_rest {q : List Int} {k : Int} {i : Nat} : ∀ {m : Nat}, (∀ j, i ≤ j → j < i + m → k < keyAt q j) → cntTo q k (i + m) = cntTo q k i
  | 0, _ => rfl
  | m + 1, h => by
    rw [← Nat.add_assoc, cntTo, cntTo_rest (fun j h1 h2 => h j h1 (by omega)), if_neg (by have := h (i + m) (by omega) (by omega); omega)]; omega
/-- A place before which all keys are not above k, and from which on all are. -/
theorem findI_at {q : List Int} {k : Int} (h : rightB q = true) {i : Nat} (hi : i ≤ q.length) (h1 : ∀ j, j < i → keyAt q j ≤ k) (h2 : ∀ j, i ≤ j → j < q.length → k < keyAt q j) : findI q k = i := by
  unfold findI
  rw [if_pos h]
  obtain ⟨m, hm⟩ : ∃ m, q.length = i + m := ⟨q.length - i, by omega⟩
  rw [hm, cntTo_rest (fun j a b => h2 j a (by omega)), cntTo_all h1]
theorem findI_none {q : List Int} {k : Int} (h : rightB q = false) : findI q k = 0 := by
  unfold findI; rw [if_neg (by rw [h]; simp)]
theorem findI_bd (q : List Int) (k : Int) : 0 ≤ findI q k ∧ findI q k ≤ q.length := by
  have := cntTo_le q k q.length
  unfold findI; split <;> omega

def guessI (f l k n : Int) : Int := if n < 2 ∨ 65536 < n ∨ k < f ∨ l ≤ k then 0 else 1 + shareI (gapI f k) (gapI f l) (n - 1)
theorem guessI_none {f l k n : Int} (h : n < 2 ∨ 65536 < n ∨ k < f ∨ l ≤ k) : guessI f l k n = 0 := if_pos h
theorem guessI_in {f l k n : Int} (h : ¬ (n < 2 ∨ 65536 < n ∨ k < f ∨ l ≤ k)) : guessI f l k n = 1 + shareI (gapI f k) (gapI f l) (n - 1) := if_neg h
theorem share_lt {p x n : Int} (p0 : 0 ≤ p) (px : p < x) (n0 : 1 ≤ n) (n1 : n ≤ 65536) : 0 ≤ shareI p x n ∧ shareI p x n < n := by
  have e : lesI p x = p := by unfold lesI; rw [if_neg (by omega)]
  unfold shareI
  rw [if_neg (by omega), e]
  have a0 : 0 ≤ p * n := Int.mul_nonneg p0 (by omega)
  have a1 : p * n < x * n := Int.mul_lt_mul_of_pos_right px (by omega)
  exact ⟨Int.ediv_nonneg a0 (by omega), Int.ediv_lt_of_lt_mul (by omega) (by rw [Int.mul_comm n x]; exact a1)⟩
theorem guessI_bd {f l k n : Int} (h0 : 2 ≤ n) (h1 : n ≤ 65536) (h2 : f ≤ k) (h3 : k < l) : 1 ≤ guessI f l k n ∧ guessI f l k n ≤ n - 1 := by
  rw [guessI_in (by omega)]
  have := share_lt (p := gapI f k) (x := gapI f l) (n := n - 1) (by unfold gapI; split <;> omega) (by unfold gapI; rw [if_neg (by omega), if_neg (by omega)]; omega) (by omega) (by omega)
  omega

/-- The keys looked at upwards from place i (from 1), d at most. -/
def upP (q : List Int) (k : Int) : Nat → Nat → List Int
  | 0, _ => []
  | d + 1, i => if i < q.length then (i : Int) :: (if k < keyAt q (i - 1) then [] else upP q k d (i + 1)) else []
/-- The keys looked at downwards from place i. -/
def downP (q : List Int) (k : Int) : Nat → List Int
  | 0 => []
  | i + 1 => if 0 < i then ((i + 1 : Nat) : Int) :: (if keyAt q i ≤ k then [] else downP q k i) else []
def jI (q : List Int) (k : Int) : Int := guessI (keyAt q 0) (keyAt q (q.length - 1)) k q.length
def baseP (q : List Int) (k : Int) : List Int := [1, (q.length : Int)] ++ (if 1 < jI q k then [jI q k] else [])
def pathI (q : List Int) (k : Int) : List Int :=
  if q.length = 0 ∨ rightB q = false then []
  else if k < keyAt q 0 ∨ q.length = 1 then [1]
  else if keyAt q (q.length - 1) ≤ k then [1, (q.length : Int)]
  else baseP q k ++ (if keyAt q ((jI q k).toNat - 1) ≤ k then upP q k q.length ((jI q k).toNat + 1) else downP q k ((jI q k).toNat - 1))

theorem upP_len (q : List Int) (k : Int) : ∀ d i, (upP q k d i).length ≤ d
  | 0, _ => Nat.le_refl _
  | d + 1, i => by
    simp only [upP]
    split
    · split
      · simp
      · have := upP_len q k d (i + 1); simp; omega
    · simp
theorem downP_len (q : List Int) (k : Int) : ∀ i, (downP q k i).length ≤ i
  | 0 => Nat.le_refl _
  | i + 1 => by
    simp only [downP]
    split
    · split
      · simp
      · have := downP_len q k i; simp; omega
    · simp
theorem pathI_len (q : List Int) (k : Int) : (pathI q k).length ≤ q.length + 70003 := by
  have a : ((if 1 < jI q k then [jI q k] else []) : List Int).length ≤ 1 := by split <;> simp
  have j : (jI q k).toNat ≤ 65537 := by
    unfold jI guessI
    split
    · omega
    · unfold shareI
      split
      · omega
      · rename_i h g
        obtain ⟨m0, m1, _⟩ := lesI_bd (p := gapI (keyAt q 0) k) (x := gapI (keyAt q 0) (keyAt q (q.length - 1))) (by unfold gapI; split <;> omega) (by unfold gapI; split <;> omega)
        have x0 : 0 ≤ gapI (keyAt q 0) (keyAt q (q.length - 1)) := by unfold gapI; split <;> omega
        generalize gapI (keyAt q 0) (keyAt q (q.length - 1)) = x at *
        generalize lesI (gapI (keyAt q 0) k) x = m at *
        have e : m * ((q.length : Int) - 1) ≤ x * 65536 := Int.mul_le_mul m1 (by omega) (by omega) (by omega)
        have : m * ((q.length : Int) - 1) / x < 65537 := Int.ediv_lt_of_lt_mul (by omega) (by omega)
        omega
  have u := upP_len q k q.length ((jI q k).toNat + 1)
  have d := downP_len q k ((jI q k).toNat - 1)
  have r : (if keyAt q ((jI q k).toNat - 1) ≤ k then upP q k q.length ((jI q k).toNat + 1) else downP q k ((jI q k).toNat - 1)).length ≤ q.length + 65537 := by split <;> omega
  unfold pathI baseP
  split
  · simp
  · split
    · simp
    · split
      · simp
      · rw [List.length_append, List.length_append]
        have : ([1, (q.length : Int)] : List Int).length = 2 := rfl
        omega
theorem ascTo_of {q : List Int} : ∀ {k : Nat}, (∀ i, 1 ≤ i → i < k → keyAt q (i - 1) < keyAt q i) → ascTo q k = true
  | 0, _ => rfl
  | k + 1, h => by
    have := ascTo_of (k := k) (fun i a b => h i a (by omega))
    by_cases e : k = 0
    · subst e; rfl
    · exact ascTo_step this (by omega) (h k (by omega) (by omega))
theorem rightB_of {q : List Int} (hl : q.length ≤ 65536) (h : ∀ i, 1 ≤ i → i < q.length → keyAt q (i - 1) < keyAt q i) : rightB q = true := by
  unfold rightB asc
  rw [ascTo_of h, Bool.true_and]
  exact decide_eq_true hl
end Go.Proofs.YtblajeildolloaaGreat

/- The walks of math/bits.Len64, bits.Len, span.Bits, span.Root, span.Plus, span.Times. -/
namespace Go.Proofs.YtblajeildolloaaGreat
set_option linter.unusedVariables false
set_option linter.unusedSimpArgs false
open Go.RowKit

theorem ret_int {k : IntKind} {a b : Int} (h : a = b) : Ending.returned (.int k a) = .returned (.int k b) := by rw [h]

/-- The world is as it was, but for what was drawn from the tape. -/
def Drawn (w w' : World) : Prop := ∃ m, w' = w.drewN m
theorem Drawn.refl (w : World) : Drawn w w := ⟨0, rfl⟩
theorem Drawn.of (w : World) (n : Nat) : Drawn w (w.drewN n) := ⟨n, rfl⟩
theorem Drawn.trans {w w1 w2 : World} (h : Drawn w w1) (k : Drawn w1 w2) : Drawn w w2 := by
  obtain ⟨m, rfl⟩ := h
  obtain ⟨n, rfl⟩ := k
  exact ⟨m + n, World.drewN_drewN _ _ _⟩
theorem Drawn.grown {w w' : World} (h : Drawn w w') : Grown w w' := by
  obtain ⟨m, rfl⟩ := h
  exact Grown.refl w
theorem grown_trans {W w1 w2 : World} (h : Grown W w1) (k : Grown w1 w2) : Grown W w2 :=
  ⟨World.keptBut_trans h.1 k.1, fun a => (k.2.1 a).trans (h.2.1 a), Nat.le_trans h.2.2 k.2.2⟩

theorem pow_pos2 (j : Nat) : (0 : Int) < 2 ^ j := Int.pow_pos (by decide)
theorem len8tab_size : (Lib.len8tab.size : Int) = 256 := by
  have : Lib.len8tab.size = 256 := by decide +kernel
  omega
/-- The table's byte where one shift by k bits has left y of x. -/
theorem len8_close (x y : Int) (k : Nat) (hk : k ≤ 56) (h : y.toNat < Lib.len8tab.size) (y0 : 0 ≤ y) (y1 : y ≤ 255) (hs : Lib.bitLen x.toNat = k + Lib.bitLen y.toNat) :
    wrap64 ((k : Int) + wrap64 ((Lib.len8tab[y.toNat]'h).toNat : Int)) = (Lib.bitLen x.toNat : Int) := by
  have e : ((Lib.len8tab[y.toNat]'h).toNat : Int) = Lib.len8 y := by
    unfold Lib.len8
    rw [getElem?_pos Lib.len8tab y.toNat h]
    rfl
  have l := Lib.bitLen_le8' y y0 y1
  rw [e, Lib.len8_of y y0 y1, hs]
  unfold wrap64
  omega
theorem len8_close0 (x : Int) (h : x.toNat < Lib.len8tab.size) (y0 : 0 ≤ x) (y1 : x ≤ 255) :
    wrap64 (wrap64 ((Lib.len8tab[x.toNat]'h).toNat : Int)) = (Lib.bitLen x.toNat : Int) := by
  have e : ((Lib.len8tab[x.toNat]'h).toNat : Int) = Lib.len8 x := by
    unfold Lib.len8
    rw [getElem?_pos Lib.len8tab x.toNat h]
    rfl
  have l := Lib.bitLen_le8' x y0 y1
  rw [e, Lib.len8_of x y0 y1]
  unfold wrap64
  omega

set_option maxHeartbeats 4000000 in
set_option maxRecDepth 100000 in
theorem len64_any (x : Int) (w : World) (h0 : 0 ≤ x) (h1 : x ≤ 18446744073709551615) :
    Calls Tryz.prog 274 #[.int .u64 x] w fun e w' => e = .returned (.int .i64 (Lib.bitLen x.toNat)) ∧ w = w' := by
  go_enter Tryz.func274, Tryz.ntmps274
  go_wp2
  all_goals first
    | (go_ret; refine ⟨congrArg Ending.returned (congrArg (Value.int IntKind.i64) ?_), rfl⟩; go_light)
    | (exfalso
       go_light
       have hs := len8tab_size
       omega)
  all_goals first
    | (refine len8_close x (x / 4294967296 / 65536 / 256) 56 (by decide) _ (by omega) (by omega) ?_
       have e : (x / 4294967296 / 65536 / 256).toNat = x.toNat / 72057594037927936 := by omega
       rw [e]
       exact Lib.bitLen_shift56 x.toNat (by omega) (by omega))
    | (refine len8_close x (x / 4294967296 / 65536) 48 (by decide) _ (by omega) (by omega) ?_
       have e : (x / 4294967296 / 65536).toNat = x.toNat / 281474976710656 := by omega
       rw [e]
       exact Lib.bitLen_shift48 x.toNat (by omega) (by omega))
    | (refine len8_close x (x / 4294967296 / 256) 40 (by decide) _ (by omega) (by omega) ?_
       have e : (x / 4294967296 / 256).toNat = x.toNat / 1099511627776 := by omega
       rw [e]
       exact Lib.bitLen_shift40 x.toNat (by omega) (by omega))
    | (refine len8_close x (x / 4294967296) 32 (by decide) _ (by omega) (by omega) ?_
       have e : (x / 4294967296).toNat = x.toNat / 4294967296 := by omega
       rw [e]
       exact Lib.bitLen_shift32 x.toNat (by omega) (by omega))
    | (refine len8_close x (x / 65536 / 256) 24 (by decide) _ (by omega) (by omega) ?_
       have e : (x / 65536 / 256).toNat = x.toNat / 16777216 := by omega
       rw [e]
       exact Lib.bitLen_shift24 x.toNat (by omega) (by omega))
    | (refine len8_close x (x / 65536) 16 (by decide) _ (by omega) (by omega) ?_
       have e : (x / 65536).toNat = x.toNat / 65536 := by omega
       rw [e]
       exact Lib.bitLen_shift16 x.toNat (by omega) (by omega))
    | (refine len8_close x (x / 256) 8 (by decide) _ (by omega) (by omega) ?_
       have e : (x / 256).toNat = x.toNat / 256 := by omega
       rw [e]
       exact Lib.bitLen_shift8 x.toNat (by omega) (by omega))
    | exact len8_close0 x _ (by omega) (by omega)

theorem len_any (x : Int) (w : World) (h0 : 0 ≤ x) (h1 : x ≤ 18446744073709551615) :
    Calls Tryz.prog 267 #[.int .u64 x] w fun e w' => e = .returned (.int .i64 (Lib.bitLen x.toNat)) ∧ w = w' := by
  go_enter Tryz.func267, Tryz.ntmps267
  go_wp2_with (go_at_call 274; refine (len64_any _ _ h0 h1).mono ?_; rintro e w' ⟨rfl, rfl⟩)
  go_ret
  exact ⟨rfl, rfl⟩

theorem bits_any (n : Int) (w : World) (h1 : n ≤ 9223372036854775807) :
    Calls Tryz.prog 250 #[.int .i64 n] w fun e w' => e = .returned (.int .i64 (bitsI n)) ∧ w = w' := by
  by_cases h : n < 1
  · go_enter Tryz.func250, Tryz.ntmps250
    go_wp2
    go_ret
    exact ⟨ret_int (bitsI_low (by omega)).symm, rfl⟩
  · have h0 : 0 ≤ n := by omega
    go_enter Tryz.func250, Tryz.ntmps250
    go_wp2_with (go_at_call 267; refine (len_any _ _ (by omega) (by omega)).mono ?_; rintro e w' ⟨rfl, rfl⟩)
    go_ret
    exact ⟨rfl, rfl⟩

end Go.Proofs.YtblajeildolloaaGreat

/- Words for memory (the guide's blocks to copy: a slice that reads as a list, a block known whole, append from any source), and a few of my own. -/
namespace Go.Proofs.YtblajeildolloaaGreat
set_option linter.unusedVariables false
set_option linter.unusedSimpArgs false
open Go.RowKit
theorem block_of_add (a : Addr) (n : Nat) : (a.add n).block = a.block := by unfold Addr.add; split <;> rfl
theorem add_of_add (a : Addr) (i j : Nat) : (a.add i).add j = a.add (i + j) := by
  unfold Addr.add
  by_cases hi : i = 0 <;> by_cases hj : j = 0 <;> simp [hi, hj, Nat.add_assoc]

def Reads (w : World) (B size : Nat) (A : Option Addr) (n : Nat) (xs : List Value) : Prop :=
  xs.length = n * size ∧ (0 < n → ∃ ad, A = some ad ∧ ad.block < B ∧ ∀ j u, xs[j]? = some u → w.cell? (ad.add j) = some u)

section
variable {w w' : World} {B B' size n : Nat} {A : Option Addr} {xs : List Value}
theorem Reads.none_ : Reads w B size A 0 [] := ⟨by simp, fun h => absurd h (by omega)⟩
theorem Reads.at_ {k : Nat} (h : Reads w B 1 A n xs) (hk : k < n) : ∃ ad u, A = some ad ∧ ad.block < B ∧ xs[k]? = some u ∧ w.cell? (ad.add k) = some u := by
  obtain ⟨ad, e, hb, hc⟩ := h.2 (by omega)
  have hl : k < xs.length := by have := h.1; omega
  exact ⟨ad, xs[k], e, hb, List.getElem?_eq_getElem hl, hc k _ (List.getElem?_eq_getElem hl)⟩
theorem Reads.keep (h : Reads w B size A n xs) (hk : ∀ p : Addr, p.block < B → w'.cell? p = w.cell? p) : Reads w' B size A n xs :=
  ⟨h.1, fun hn => by
    obtain ⟨ad, e, hb, hc⟩ := h.2 hn
    exact ⟨ad, e, hb, fun j u hu => (hk _ (by rw [block_of_add]; exact hb)).trans (hc j u hu)⟩⟩
theorem Reads.more (h : Reads w B size A n xs) (hB : B ≤ B') : Reads w B' size A n xs :=
  ⟨h.1, fun hn => by
    obtain ⟨ad, e, hb, hc⟩ := h.2 hn
    exact ⟨ad, e, by omega, hc⟩⟩
theorem Reads.below (h : Reads w B size A n xs) (hb : Below B w w') : Reads w' B size A n xs := h.keep fun _ hp => hb.cell hp
theorem Reads.drew (h : Reads w B size A n xs) : Reads w.drew B size A n xs := h
theorem Reads.drewN (h : Reads w B size A n xs) (k : Nat) : Reads (w.drewN k) B size A n xs := h
theorem Reads.alloc (h : Reads w B size A n xs) (hB : B ≤ w.heap.size) (o : Obj) : Reads (w.alloc o) B size A n xs := h.keep fun p hp => World.cell?_alloc_lt w o p (by omega)
theorem Reads.setCell (h : Reads w B size A n xs) {p : Addr} (hB : B ≤ p.block) (u : Value) : Reads (w.setCell p u) B size A n xs :=
  h.keep fun q hq => World.cell?_setCell_other w p q u (fun e => by subst e; omega)
theorem Reads.grown (h : Reads w B size A n xs) {row : Option Nat} (hg : w.grownBy w' row) (hB : B ≤ w.heap.size) (hr : ∀ g, row = some g → B ≤ g) : Reads w' B size A n xs :=
  h.keep fun p hp => World.cell?_of_block (hg.block p.block (by omega) (fun e => by have := hr _ e.symm; omega))
theorem Reads.cut (h : Reads w B size A n xs) {k cap : Nat} (hk : k ≤ n) (hc : n ≤ cap) :
    Reads w B size (if cap = k then A else A.map (·.add (k * size))) (n - k) (xs.drop (k * size)) := by
  refine ⟨by rw [List.length_drop, h.1, Nat.sub_mul], fun hn => ?_⟩
  obtain ⟨ad, rfl, hb, hcell⟩ := h.2 (by omega)
  rw [if_neg (by omega)]
  refine ⟨ad.add (k * size), rfl, by rw [block_of_add]; exact hb, fun j u hu => ?_⟩
  rw [add_of_add]
  exact hcell _ u (by rw [← hu, List.getElem?_drop])
theorem Reads.of_own {base : Nat} {e : TypeId} {c : Nat} (h : w.ownsRow base e size (.slice A n c) n xs) : Reads w w.heap.size size A n xs := by
  refine ⟨h.1, fun hn => ?_⟩
  obtain ⟨g, cap, hv, _, hlt⟩ := h.form hn
  have hA : A = some ⟨g, 0, none⟩ := by injection hv
  subst hA
  exact ⟨_, rfl, hlt, h.cells (g := g) rfl⟩
end

def Blk (w : World) (g : Nat) (t : TypeId) (cs : Array Value) : Prop := w.heap[g]? = some (.cells cs t (0, 0))

section
variable {w w' : World} {g : Nat} {t : TypeId} {cs : Array Value}
theorem Blk.lt (h : Blk w g t cs) : g < w.heap.size := by
  rcases Nat.lt_or_ge g w.heap.size with hlt | hge
  · exact hlt
  · unfold Blk at h; rw [Array.getElem?_eq_none hge] at h; cases h
theorem Blk.cell (h : Blk w g t cs) (i : Nat) : w.cell? ⟨g, i, none⟩ = cs[i]? := cell_of_row w g i cs t (0, 0) h
theorem Blk.frozen (h : Blk w g t cs) (i : Nat) : w.frozen? ⟨g, i, none⟩ = false := by
  unfold Blk at h
  simp [World.frozen?, h]
theorem Blk.new (w : World) (t : TypeId) (cs : Array Value) : Blk (w.alloc (.cells cs t)) w.heap.size t cs := heap_alloc_new w _
theorem Blk.drew (h : Blk w g t cs) : Blk w.drew g t cs := h
theorem Blk.drewN (h : Blk w g t cs) (n : Nat) : Blk (w.drewN n) g t cs := h
theorem Blk.alloc (h : Blk w g t cs) (o : Obj) : Blk (w.alloc o) g t cs := (Below.heap_alloc w o g h.lt).trans h
theorem Blk.set_ (h : Blk w g t cs) (i : Nat) (u : Value) : Blk (w.setCell ⟨g, i, none⟩ u) g t (cs.setIfInBounds i u) := by
  unfold Blk at h ⊢
  simp [World.setCell, Array.getElem?_modify, h]
theorem Blk.far (h : Blk w g t cs) {p : Addr} (hp : g ≠ p.block) (u : Value) : Blk (w.setCell p u) g t cs := (Below.heap_setCell w p u g hp).trans h
theorem Blk.below {B : Nat} (h : Blk w g t cs) (hb : Below B w w') (hg : g < B) : Blk w' g t cs := (hb.block g hg).trans h
theorem Blk.grown {row : Option Nat} (h : Blk w g t cs) (hb : w.grownBy w' row) (hg : some g ≠ row) : Blk w' g t cs := (hb.block g h.lt hg).trans h
theorem Blk.ne_ {g' : Nat} {t' : TypeId} {cs' : Array Value} (h : Blk w g t cs) (h' : Blk w g' t' cs') (hne : t ≠ t') : g ≠ g' := by
  rintro rfl
  unfold Blk at h h'
  rw [h] at h'
  injection h' with h'
  injection h' with _ ht
  exact hne ht
theorem own_blk_ne {base : Nat} {e : TypeId} {size n : Nat} {v : Value} {xs : List Value} (h : w.ownsRow base e size v n xs) (hg : Blk w g t cs) (hne : e ≠ t) : v.ownBlock ≠ some g := by
  rcases h.2 with ⟨rfl, _⟩ | ⟨g', cap, cur, rfl, _, hh, _⟩
  · simp [Value.ownBlock]
  · intro he
    have : g' = g := by simpa [Value.ownBlock] using he
    subst this
    exact Blk.ne_ (t := e) hh hg hne rfl
end

section
variable {P : Program} (w : World)

theorem run_append_of_nil (base : Nat) (t ty e : TypeId) (i : TypeInfo) (size : Nat) (ht : P.underlying t = some (.slice e)) (hi : P.info? e = some i)
    (v : Value) (n : Nat) (xs : List Value) (hown : w.ownsRow base e size v n xs) (c : Nat) : (Builtin.append_ #[t, t] ty #[v, .slice none 0 c]).run P w = .ok v w := by
  rcases hown.2 with ⟨rfl, rfl⟩ | ⟨g, cap, cur, rfl, _, _, hnc, _⟩
  · simp [Builtin.append_, run_underlying ht, sizeOf, typeInfo, hi, Builtin.lenOf, Builtin.firstCells]
  · simp [Builtin.append_, run_underlying ht, sizeOf, typeInfo, hi, Builtin.lenOf, Builtin.firstCells, hnc, storeCells]

theorem run_append_any (base : Nat) (t ty e : TypeId) (i : TypeInfo) (z : Value) (size bytes : Nat) (ht : P.underlying t = some (.slice e)) (hi : P.info? e = some i) (hz : i.zero = some z)
    (hsize : i.size = size) (hby : i.bytes = bytes) (hzs : z.cells.size = size) (hsz : 0 < size)
    (v : Value) (n : Nat) (xs : List Value) (hown : w.ownsRow base e size v n xs)
    (B : Nat) (A : Option Addr) (m c : Nat) (news : List Value) (hr : Reads w B size A m news) (h1 : ∀ u ∈ news, u.oneCell' = true)
    (h63 : n + m ≤ maxLen) (hbytes : (n + m) * bytes ≤ 140737488355328) (hbase : base ≤ w.heap.size) :
    ∃ v' w', (Builtin.append_ #[t, t] ty #[v, .slice A m c]).run P w = .ok v' w' ∧ w'.ownsRow base e size v' (n + m) (xs ++ news) ∧ w.grownBy w' v.ownBlock ∧
      (v'.ownBlock = v.ownBlock ∨ v'.ownBlock = some w.heap.size) := by
  rcases A with _ | ad
  · have hm : m = 0 := by
      rcases Nat.eq_zero_or_pos m with h0 | h0
      · exact h0
      · obtain ⟨ad, h, _⟩ := hr.2 h0
        cases h
    subst hm
    have hn : news = [] := List.eq_nil_of_length_eq_zero (by simpa using hr.1)
    subst hn
    exact ⟨v, w, run_append_of_nil w base t ty e i size ht hi v n xs hown c, by simpa using hown, World.grownBy.refl w _, .inl rfl⟩
  · have hcells : ∀ j u, news[j]? = some u → w.cell? (ad.add j) = some u := by
      intro j u hu
      rcases Nat.eq_zero_or_pos m with h0 | h0
      · subst h0
        have hn : news = [] := List.eq_nil_of_length_eq_zero (by simpa using hr.1)
        subst hn
        simp at hu
      · obtain ⟨ad', h, _, hc⟩ := hr.2 h0
        injection h with h
        subst h
        exact hc j u hu
    obtain ⟨v', w', hrun, h2, h3, _, h5⟩ := run_append_own_at (P := P) w base t ty e i z size bytes ht hi hz hsize hby hzs hsz v n xs hown ad m c news hr.1 hcells h1 h63 hbytes hbase
    exact ⟨v', w', hrun, h2, h3, h5⟩

theorem wp_append_any {o : Oper} {a : Act} {K : Act → World → Prop} {Q : Exit → Act → World → Prop} (s x : Operand) (t : TypeId)
    (ho : o.op = .call { callee := .builtin .append, args := #[s, x], argTypes := #[t, t] })
    (base : Nat) (e : TypeId) (i : TypeInfo) (z : Value) (size bytes : Nat) (ht : P.underlying t = some (.slice e)) (hi : P.info? e = some i) (hz : i.zero = some z)
    (hsize : i.size = size) (hby : i.bytes = bytes) (hzs : z.cells.size = size) (hsz : 0 < size)
    (v : Value) (n : Nat) (xs : List Value) (hs : a.eval s = v) (hown : w.ownsRow base e size v n xs)
    (B : Nat) (A : Option Addr) (m c : Nat) (news : List Value) (hx : a.eval x = .slice A m c) (hr : Reads w B size A m news) (h1 : ∀ u ∈ news, u.oneCell' = true)
    (h63 : n + m ≤ maxLen) (hbytes : (n + m) * bytes ≤ 140737488355328) (hbase : base ≤ w.heap.size)
    (h : ∀ v' w', w'.ownsRow base e size v' (n + m) (xs ++ news) → w.grownBy w' v.ownBlock → (v'.ownBlock = v.ownBlock ∨ v'.ownBlock = some w.heap.size) → K (a.put o.dst v') w') : o.wp P a w K Q := by
  obtain ⟨v', w', hrun, h2, h3, h4⟩ := run_append_any (P := P) w base t o.type e i z size bytes ht hi hz hsize hby hzs hsz v n xs hown B A m c news hr h1 h63 hbytes hbase
  unfold Oper.wp execOp
  simp only [ho, resolve, invoke, builtin, Sem.run_bind, Sem.run_pure, Result.andThen_ok, List.map_toArray, List.map_cons, List.map_nil, hs, hx, hrun]
  exact h v' w' h2 h3 h4

theorem wpList_append_any {ops : Array Oper} {rest : List Oper} {o : Oper} {a : Act} {Q : Exit → Act → World → Prop} (hgd : o.guard = none) (s x : Operand) (t : TypeId)
    (ho : o.op = .call { callee := .builtin .append, args := #[s, x], argTypes := #[t, t] })
    (base : Nat) (e : TypeId) (i : TypeInfo) (z : Value) (size bytes : Nat) (ht : P.underlying t = some (.slice e)) (hi : P.info? e = some i) (hz : i.zero = some z)
    (hsize : i.size = size) (hby : i.bytes = bytes) (hzs : z.cells.size = size) (hsz : 0 < size)
    (v : Value) (n : Nat) (xs : List Value) (hs : a.eval s = v) (hown : w.ownsRow base e size v n xs)
    (B : Nat) (A : Option Addr) (m c : Nat) (news : List Value) (hx : a.eval x = .slice A m c) (hr : Reads w B size A m news) (h1 : ∀ u ∈ news, u.oneCell' = true)
    (h63 : n + m ≤ maxLen) (hbytes : (n + m) * bytes ≤ 140737488355328) (hbase : base ≤ w.heap.size)
    (h : ∀ v' w', w'.ownsRow base e size v' (n + m) (xs ++ news) → w.grownBy w' v.ownBlock → (v'.ownBlock = v.ownBlock ∨ v'.ownBlock = some w.heap.size) → wpList P ops Q rest (a.put o.dst v') w') : wpList P ops Q (o :: rest) a w :=
  wpList_plain hgd fun _ hK => wp_append_any w s x t ho base e i z size bytes ht hi hz hsize hby hzs hsz v n xs hs hown B A m c news hx hr h1 h63 hbytes hbase fun v' w' h2 h3 h4 => hK _ _ (h v' w' h2 h3 h4)

theorem step_append_any {ops : Array Oper} {o : Oper} {a : Act} {K : Act → World → Prop} {Q : Exit → Act → World → Prop} {E : Prop} (hgd : o.guard = none) (s x : Operand) (t : TypeId)
    (ho : o.op = .call { callee := .builtin .append, args := #[s, x], argTypes := #[t, t] })
    (base : Nat) (e : TypeId) (i : TypeInfo) (z : Value) (size bytes : Nat) (ht : P.underlying t = some (.slice e)) (hi : P.info? e = some i) (hz : i.zero = some z)
    (hsize : i.size = size) (hby : i.bytes = bytes) (hzs : z.cells.size = size) (hsz : 0 < size)
    (v : Value) (n : Nat) (xs : List Value) (hs : a.eval s = v) (hown : w.ownsRow base e size v n xs)
    (B : Nat) (A : Option Addr) (m c : Nat) (news : List Value) (hx : a.eval x = .slice A m c) (hr : Reads w B size A m news) (h1 : ∀ u ∈ news, u.oneCell' = true)
    (h63 : n + m ≤ maxLen) (hbytes : (n + m) * bytes ≤ 140737488355328) (hbase : base ≤ w.heap.size)
    (h : ∀ v' w', w'.ownsRow base e size v' (n + m) (xs ++ news) → w.grownBy w' v.ownBlock → (v'.ownBlock = v.ownBlock ∨ v'.ownBlock = some w.heap.size) → K (a.put o.dst v') w') :
    if Region.wanted o (yielded ops a.tmps) = true then Oper.wp P o a w K Q else E := by
  have hw : Region.wanted o (yielded ops a.tmps) = true := by simp [Region.wanted, hgd]
  rw [if_pos hw]
  exact wp_append_any w s x t ho base e i z size bytes ht hi hz hsize hby hzs hsz v n xs hs hown B A m c news hx hr h1 h63 hbytes hbase h
end

end Go.Proofs.YtblajeildolloaaGreat

/- Slices that read as whole numbers. -/
namespace Go.Proofs.YtblajeildolloaaGreat
set_option linter.unusedVariables false
set_option linter.unusedSimpArgs false
open Go.RowKit

/-- The slice A, n reads as these whole numbers, below block B. -/
def IntsAt (w : World) (B : Nat) (A : Option Addr) (q : List Int) : Prop := Reads w B 1 A q.length (q.map (Value.int .i64))
theorem IntsAt.cells {w : World} {B : Nat} {A : Option Addr} {q : List Int} (h : IntsAt w B A q) (hl : 0 < q.length) : ∃ ad, A = some ad ∧ ad.block < B ∧ ∀ k, k < q.length → w.cell? (ad.add k) = some (.int .i64 (keyAt q k)) := by
  obtain ⟨ad, e, hb, hc⟩ := h.2 hl
  refine ⟨ad, e, hb, fun k hk => hc k _ ?_⟩
  unfold keyAt
  rw [List.getElem?_map, List.getD_eq_getElem?_getD, List.getElem?_eq_getElem hk]
  rfl
theorem belowD {B : Nat} {a w : World} (h : Below B a w) (n : Nat) : Below B a (w.drewN n) := h.trans ⟨rfl, rfl, rfl, Nat.le_refl _, fun _ _ => rfl⟩
theorem Drawn.below {w w' : World} (h : Drawn w w') (B : Nat) : Below B w w' := by
  obtain ⟨n, rfl⟩ := h
  exact belowD (Below.refl _ _) _
theorem ret_bool {a b : Bool} (h : a = b) : Ending.returned (.bool a) = .returned (.bool b) := by rw [h]

theorem IntsAt.drewN {w : World} {B : Nat} {A : Option Addr} {q : List Int} (h : IntsAt w B A q) (n : Nat) : IntsAt (w.drewN n) B A q := h
theorem IntsAt.alloc {w : World} {B : Nat} {A : Option Addr} {q : List Int} (h : IntsAt w B A q) (hB : B ≤ w.heap.size) (o : Obj) : IntsAt (w.alloc o) B A q := Reads.alloc h hB o
theorem IntsAt.below {w w' : World} {B : Nat} {A : Option Addr} {q : List Int} (h : IntsAt w B A q) (hb : Below B w w') : IntsAt w' B A q := Reads.below h hb
theorem IntsAt.more {w : World} {B B' : Nat} {A : Option Addr} {q : List Int} (h : IntsAt w B A q) (hb : B ≤ B') : IntsAt w B' A q := Reads.more h hb

theorem below_called {w v v' : World} (h : Below w.heap.size w v) (hb : Below v.heap.size v v') : Below w.heap.size w v' := h.trans (hb.mono h.size)
theorem quiet_left {P : Program} {f : FuncId} {args : Array Value} {w : World} {n : Nat} {v : Value}
    (h : Calls P f args (w.drewN n) fun e w' => e = .returned v ∧ w.drewN n = w') : Calls P f args (w.drewN n) fun e w'' => e = .returned v ∧ ∃ m, w'' = w.drewN m :=
  h.mono fun _ _ ⟨he, hm⟩ => ⟨he, n, hm.symm⟩
theorem drawn_facts {w w0 : World} (h : Drawn w w0) : Below w.heap.size w w0 ∧ w.heap.size ≤ w0.heap.size := by
  obtain ⟨n, rfl⟩ := h
  exact ⟨belowD (Below.refl _ _) _, Nat.le_refl _⟩

theorem info_int64 : (Tryz.prog.info? 2).map (fun i => (i.zero, i.size, i.bytes)) = some (some (.int .i64 0), 1, 8) := by kernel_rfl
end Go.Proofs.YtblajeildolloaaGreat

/- Words: what a method turns. -/
namespace Go.Proofs.YtblajeildolloaaGreat
set_option linter.unusedVariables false
set_option linter.unusedSimpArgs false
open Go.RowKit

/-- Nothing but block b and the row has been turned. -/
structure Mv (b : Nat) (r : Option Nat) (w w' : World) : Prop where
  os : w'.os = w.os
  tape : w'.tape = w.tape
  output : w'.output = w.output
  size : w.heap.size ≤ w'.heap.size
  block : ∀ k, k < w.heap.size → k ≠ b → some k ≠ r → w'.heap[k]? = w.heap[k]?
theorem Mv.below {b base : Nat} {r : Option Nat} {w w' : World} (h : Mv b r w w') (hb : base ≤ b) (hs : base ≤ w.heap.size) (hr : ∀ g, r = some g → base ≤ g) : Below base w w' :=
  ⟨h.os, h.tape, h.output, h.size, fun k hk => h.block k (by omega) (by omega) (fun e => by have := hr k e.symm; omega)⟩
theorem Mv.of_grown {b : Nat} {r : Option Nat} {w w' : World} (h : w.grownBy w' r) (u : Value) : Mv b r w (w'.setCell ⟨b, 0, none⟩ u) :=
  ⟨h.os, h.tape, h.output, by simpa using h.size, fun k hk hb hr => (Below.heap_setCell w' _ u k (by simpa using hb)).trans (h.block k hk hr)⟩
theorem Mv.blk {b : Nat} {r : Option Nat} {w w' : World} (h : Mv b r w w') {g : Nat} {t : TypeId} {cs : Array Value} (hB : Blk w g t cs) (h1 : g ≠ b) (h2 : some g ≠ r) : Blk w' g t cs := (h.block g hB.lt h1 h2).trans hB
theorem Mv.own {b : Nat} {r : Option Nat} {w w' : World} (h : Mv b r w w') {base : Nat} {e : TypeId} {size n : Nat} {v : Value} {xs : List Value} (hO : w.ownsRow base e size v n xs) (h1 : v.ownBlock ≠ some b) (h2 : v.ownBlock = none ∨ v.ownBlock ≠ r) : w'.ownsRow base e size v n xs := by
  refine ⟨hO.1, ?_⟩
  rcases hO.2 with hn | ⟨g, cap, cur, rfl, hb, hgg, rest⟩
  · exact .inl hn
  · refine .inr ⟨g, cap, cur, rfl, hb, ?_, rest⟩
    rw [h.block g (Array.getElem?_eq_some_iff.1 hgg).1 (fun e => h1 (by simp [Value.ownBlock, e])) (by simpa [Value.ownBlock] using h2)]
    exact hgg
theorem own_shape {w : World} {base n : Nat} {e : TypeId} {size : Nat} {v : Value} {xs : List Value} (hO : w.ownsRow base e size v n xs) : ∃ A c, v = .slice A n c := by
  rcases hO.2 with ⟨rfl, rfl⟩ | ⟨g, cap, cur, rfl, _⟩
  · exact ⟨_, _, rfl⟩
  · exact ⟨_, _, rfl⟩
theorem reads_one (w : World) (t : TypeId) (a : Value) : Reads (w.alloc (.cells #[a] t)) (w.heap.size + 1) 1 (some ⟨w.heap.size, 0, none⟩) 1 [a] := by
  refine ⟨rfl, fun _ => ⟨_, rfl, Nat.lt_succ_self _, fun j u hu => ?_⟩⟩
  rcases j with _ | j
  · simp at hu; subst hu; simp [Addr.add, World.cell?_alloc_at]
  · simp at hu
theorem one_of (x : Value) (h : x.oneCell' = true) : ∀ u ∈ [x], u.oneCell' = true := fun u hu => by
  rw [List.mem_singleton.1 hu]; exact h
theorem drawn_bl {w w' : World} (h : Drawn w w') (B : Nat) : Below B w w' := by
  obtain ⟨n, rfl⟩ := h
  exact ⟨rfl, rfl, rfl, Nat.le_refl _, fun _ _ => rfl⟩
theorem Mv.after {b : Nat} {r : Option Nat} {w V w' : World} (h : Below w.heap.size w V) (k : Mv b r V w') : Mv b r w w' :=
  ⟨k.os.trans h.os, k.tape.trans h.tape, k.output.trans h.output, Nat.le_trans h.size k.size, fun i hi h1 h2 => (k.block i (Nat.lt_of_lt_of_le hi h.size) h1 h2).trans (h.block i hi)⟩
theorem own_cap {w : World} {base n c : Nat} {e : TypeId} {size : Nat} {A : Option Addr} {xs : List Value} (hO : w.ownsRow base e size (.slice A n c) n xs) : n ≤ c := by
  rcases hO.2 with ⟨h, h0⟩ | ⟨g, cap, cur, h, _, _, hle, _⟩
  · omega
  · injection h with _ _ hc; omega
theorem map_snoc {α : Type} (f : α → Value) (L : List α) (x : α) : (L ++ [x]).map f = L.map f ++ [f x] := by simp

theorem own_kept {base n : Nat} {e : TypeId} {size : Nat} {v : Value} {xs : List Value} {w w' : World} (hO : w.ownsRow base e size v n xs) {row : Option Nat} (hg : w.grownBy w' row) (h : v.ownBlock = none ∨ v.ownBlock ≠ row) : w'.ownsRow base e size v n xs := by
  refine ⟨hO.1, ?_⟩
  rcases hO.2 with hn | ⟨g, cap, cur, rfl, hb, hgg, rest⟩
  · exact .inl hn
  · refine .inr ⟨g, cap, cur, rfl, hb, ?_, rest⟩
    rw [hg.block g (Array.getElem?_eq_some_iff.1 hgg).1 (by simpa [Value.ownBlock] using h)]
    exact hgg
theorem own_new {v v' : Value} {n : Nat} (h : v'.ownBlock = v.ownBlock ∨ v'.ownBlock = some n) {u : Value} (hu : u.ownBlock = none ∨ u.ownBlock ≠ v.ownBlock) (hn : ∀ g, u.ownBlock = some g → g < n) : u.ownBlock = none ∨ u.ownBlock ≠ v'.ownBlock := by
  rcases hu with hu | hu
  · exact .inl hu
  · rcases h with h | h
    · rw [h]; exact .inr hu
    · rw [h]
      exact .inr fun e => by have := hn n e; omega

theorem dj_symm {a b : Option Nat} (h : a = none ∨ a ≠ b) : b = none ∨ b ≠ a := by
  rcases b with _ | b
  · exact .inl rfl
  · rcases h with h | h
    · right; rw [h]; simp
    · exact .inr fun e => h e.symm
theorem dj_push {v vs vs' : Value} {n : Nat} (ob : vs'.ownBlock = vs.ownBlock ∨ vs'.ownBlock = some (n + 1)) (hdj : v.ownBlock = none ∨ v.ownBlock ≠ vs.ownBlock) (hO : ∀ g, v.ownBlock = some g → g < n) : vs'.ownBlock = none ∨ vs'.ownBlock ≠ v.ownBlock := by
  rcases ob with h | h
  · rw [h]; exact dj_symm hdj
  · rw [h]
    exact .inr fun e => by have := hO _ e.symm; omega
theorem own_below {base n : Nat} {e : TypeId} {size : Nat} {v : Value} {xs : List Value} {w w' : World} (hO : w.ownsRow base e size v n xs) (hb : Below w.heap.size w w') : w'.ownsRow base e size v n xs :=
  hO.kept ⟨hb.os, hb.tape, hb.output, hb.size, fun k hk _ => hb.block k hk⟩ (row := none) (by cases v.ownBlock <;> simp)
end Go.Proofs.YtblajeildolloaaGreat

/- The program's memory: New, cell, Read, Make, Count, Odd, Used, Size, Cells. -/
namespace Go.Proofs.YtblajeildolloaaGreat
set_option linter.unusedVariables false
set_option linter.unusedSimpArgs false
open Go.RowKit

def bump (c : Int) : Int := wrap64 (c + 1)
/-- What a cell holds; 0: there is none. -/
def rdC (C : List Int) (a : Int) : Int := if 1 ≤ a ∧ a ≤ C.length then keyAt C (a.toNat - 1) else 0
theorem rdC_in {C : List Int} {a : Nat} (h1 : 1 ≤ a) (h2 : a ≤ C.length) : rdC C a = keyAt C (a - 1) := by
  unfold rdC; rw [if_pos (by omega), Int.toNat_natCast]
theorem rdC_out {C : List Int} {a : Int} (h : a < 1 ∨ C.length < a) : rdC C a = 0 := if_neg (by omega)

structure MemP (B b : Nat) (v : Value) (C : List Int) (size count odd ref : Int) (w : World) : Prop where
  blk : Blk w b 134 #[v, .int .i64 size, .int .i64 count, .int .i64 odd, .int .i64 ref]
  own : w.ownsRow B 2 1 v C.length (C.map (Value.int .i64))
  base : B ≤ b
theorem info_int64m : (Tryz.prog.info? 2).map (fun i => (i.zero, i.size, i.bytes)) = some (some (.int .i64 0), 1, 8) := by kernel_rfl

section
variable {B b : Nat} {v : Value} {C : List Int} {size count odd ref : Int} {w w' : World}
theorem MemP.below (h : MemP B b v C size count odd ref w) (hb : Below w.heap.size w w') : MemP B b v C size count odd ref w' :=
  ⟨h.blk.below hb h.blk.lt, own_below h.own hb, h.base⟩
theorem MemP.mv {b2 : Nat} {r : Option Nat} (h : MemP B b v C size count odd ref w) (m : Mv b2 r w w') (h1 : b ≠ b2) (h2 : some b ≠ r) (h3 : v.ownBlock ≠ some b2) (h4 : v.ownBlock = none ∨ v.ownBlock ≠ r) : MemP B b v C size count odd ref w' :=
  ⟨m.blk h.blk h1 h2, m.own h.own h3 h4, h.base⟩
theorem MemP.apart (h : MemP B b v C size count odd ref w) : v.ownBlock ≠ some b := own_blk_ne h.own h.blk (by decide)
theorem Mv.set1 (w : World) (b k : Nat) (u : Value) : Mv b none w (w.setCell ⟨b, k, none⟩ u) :=
  ⟨rfl, rfl, rfl, by simp, fun i _ h _ => Below.heap_setCell w _ _ i (by simpa using h)⟩
theorem Mv.trans_ {r : Option Nat} {w1 : World} (h : Mv b r w w1) (k : Mv b r w1 w') : Mv b r w w' :=
  ⟨k.os.trans h.os, k.tape.trans h.tape, k.output.trans h.output, Nat.le_trans h.size k.size, fun i hi h1 h2 => (k.block i (Nat.lt_of_lt_of_le hi h.size) h1 h2).trans (h.block i hi h1 h2)⟩
theorem MemP.set (h : MemP B b v C size count odd ref w) (k : Nat) (hk : k ≠ 0) (u : Value) {size' count' odd' ref' : Int} (he : (#[v, .int .i64 size, .int .i64 count, .int .i64 odd, .int .i64 ref] : Array Value).setIfInBounds k u = #[v, .int .i64 size', .int .i64 count', .int .i64 odd', .int .i64 ref']) : MemP B b v C size' count' odd' ref' (w.setCell ⟨b, k, none⟩ u) :=
  ⟨by have := h.blk.set_ k u; rw [he] at this; exact this, ownsRow_setCell_other h.own (fun e => h.apart (by simpa using e)) u, h.base⟩
end

set_option maxHeartbeats 1000000 in
theorem cell_out (B b : Nat) (v : Value) (C : List Int) (size count odd ref a : Int) (w : World) (h : MemP B b v C size count odd ref w) (hC : C.length ≤ 1000000) (a0 : -9223372036854775808 ≤ a) (a1 : a ≤ 9223372036854775807) (ha : a < 1 ∨ (C.length : Int) < a) :
    Calls Tryz.prog 102 #[.pointer (some ⟨b, 0, none⟩), .int .i64 a] w fun e w' => e = .returned (.pointer none) ∧ MemP B b v C size (bump count) (bump odd) ref w' ∧ Mv b none w w' := by
  obtain ⟨A, c, rfl⟩ := own_shape h.own
  have H := Lib.hid ((h.set 2 (by decide) (.int .i64 (bump count)) rfl).set 3 (by decide) (.int .i64 (bump odd)) rfl)
  have c0 : w.cell? ⟨b, 2, none⟩ = some (.int .i64 count) := h.blk.cell 2
  have f0 := h.blk.frozen 2
  have h1 := (h.set 2 (by decide) (.int .i64 (bump count)) rfl)
  have c1 : (w.setCell ⟨b, 2, none⟩ (.int .i64 (wrap64 (count + 1)))).cell? ⟨b, 0, none⟩ = some (.slice A C.length c) := h1.blk.cell 0
  have c2 : (w.setCell ⟨b, 2, none⟩ (.int .i64 (wrap64 (count + 1)))).cell? ⟨b, 3, none⟩ = some (.int .i64 odd) := h1.blk.cell 3
  have f2 : (w.setCell ⟨b, 2, none⟩ (.int .i64 (wrap64 (count + 1)))).frozen? ⟨b, 3, none⟩ = false := h1.blk.frozen 3
  clear h h1
  by_cases h0 : a < 1
  · clear ha
    go_enter Tryz.func102, Tryz.ntmps102
    go_wp2_with (fail)
    go_ret
    exact ⟨rfl, H.out, (Mv.set1 _ _ _ _).trans_ (Mv.set1 _ _ _ _)⟩
  · have h2 : (C.length : Int) < a := by omega
    clear ha
    go_enter Tryz.func102, Tryz.ntmps102
    go_wp2_with (fail)
    go_ret
    exact ⟨rfl, H.out, (Mv.set1 _ _ _ _).trans_ (Mv.set1 _ _ _ _)⟩

set_option maxHeartbeats 1000000 in
theorem cell_in (B b : Nat) (v : Value) (C : List Int) (size count odd ref : Int) (a : Nat) (w : World) (h : MemP B b v C size count odd ref w) (hC : C.length ≤ 1000000) (a0 : 1 ≤ a) (a1 : a ≤ C.length) :
    Calls Tryz.prog 102 #[.pointer (some ⟨b, 0, none⟩), .int .i64 a] w fun e w' => ∃ g, e = .returned (.pointer (some ⟨g, a - 1, none⟩)) ∧ v.ownBlock = some g ∧ MemP B b v C size (bump count) odd ref w' ∧ Mv b none w w' := by
  obtain ⟨g, c, rfl, _, _⟩ := h.own.form (by omega)
  obtain ⟨k, rfl⟩ : ∃ k, a = k + 1 := ⟨a - 1, by omega⟩
  have H := Lib.hid (h.set 2 (by decide) (.int .i64 (bump count)) rfl)
  have c0 : w.cell? ⟨b, 2, none⟩ = some (.int .i64 count) := h.blk.cell 2
  have f0 := h.blk.frozen 2
  have h1 := (h.set 2 (by decide) (.int .i64 (bump count)) rfl)
  have c1 : (w.setCell ⟨b, 2, none⟩ (.int .i64 (wrap64 (count + 1)))).cell? ⟨b, 0, none⟩ = some (.slice (some ⟨g, 0, none⟩) C.length c) := h1.blk.cell 0
  have e1 : (k : Int) + 1 - 1 = k := by omega
  clear h h1
  go_enter Tryz.func102, Tryz.ntmps102
  go_wp2_with (fail)
  go_ret
  exact ⟨g, rfl, rfl, H.out, Mv.set1 _ _ _ _⟩

set_option maxHeartbeats 1000000 in
/-- Read: what stands there; one access more. -/
theorem read_any (B b : Nat) (v : Value) (C : List Int) (size count odd ref a : Int) (w : World) (h : MemP B b v C size count odd ref w) (hC : C.length ≤ 1000000) (a0 : -9223372036854775808 ≤ a) (a1 : a ≤ 9223372036854775807) :
    Calls Tryz.prog 91 #[.pointer (some ⟨b, 0, none⟩), .int .i64 a] w fun e w' => e = .returned (.int .i64 (rdC C a)) ∧ MemP B b v C size (bump count) (if 1 ≤ a ∧ a ≤ C.length then odd else bump odd) ref w' ∧ Mv b none w w' := by
  by_cases ha : 1 ≤ a ∧ a ≤ C.length
  · obtain ⟨k, rfl⟩ : ∃ k : Nat, a = k := ⟨a.toNat, by omega⟩
    have HR := Lib.hid (rdC_in (C := C) (a := k) (by omega) (by omega))
    rw [if_pos ha]
    have HH := Lib.hid h
    obtain ⟨k1, k2⟩ := ha
    clear h
    go_enter Tryz.func91, Tryz.ntmps91
    go_wp2_with (fail)
    with_reducible refine (cell_in B b v C size count odd ref k w HH.out hC (by omega) (by omega)).mono ?_
    rintro e w1 ⟨g, rfl, hv, h1, m1⟩
    have hx : w1.cell? ⟨g, k - 1, none⟩ = some (.int .i64 (keyAt C (k - 1))) := by
      obtain ⟨g', c, rfl, _, _⟩ := h1.own.form (by omega)
      have : g' = g := by simpa [Value.ownBlock] using hv
      subst this
      rw [h1.own.cellAt (k - 1) (by simp; omega)]
      rw [List.getElem?_map, List.getElem?_eq_getElem (by omega)]
      simp [keyAt, List.getD_eq_getElem?_getD, List.getElem?_eq_getElem (show k - 1 < C.length by omega)]
    have H1 := Lib.hid h1
    have M1 := Lib.hid m1
    clear h1 m1 hv
    go_wp2_with (fail)
    go_ret
    rw [HR.out]
    exact ⟨rfl, H1.out, M1.out⟩
  · have HR := Lib.hid (rdC_out (C := C) (a := a) (by omega))
    rw [if_neg ha]
    have HH := Lib.hid h
    clear h
    go_enter Tryz.func91, Tryz.ntmps91
    go_wp2_with (fail)
    with_reducible refine (cell_out B b v C size count odd ref a w HH.out hC a0 a1 (by omega)).mono ?_
    rintro e w1 ⟨rfl, h1, m1⟩
    have H1 := Lib.hid h1
    have M1 := Lib.hid m1
    clear h1 m1 ha
    go_wp2_with (fail)
    go_ret
    rw [HR.out]
    exact ⟨rfl, H1.out, M1.out⟩
end Go.Proofs.YtblajeildolloaaGreat

/- Words: nothing but some blocks has been turned. -/
namespace Go.Proofs.YtblajeildolloaaGreat
set_option linter.unusedVariables false
set_option linter.unusedSimpArgs false
open Go.RowKit

/-- Of what there was nothing but the blocks in S has been turned. -/
structure Only (S : List Nat) (w w' : World) : Prop where
  os : w'.os = w.os
  tape : w'.tape = w.tape
  output : w'.output = w.output
  size : w.heap.size ≤ w'.heap.size
  block : ∀ k, k < w.heap.size → k ∉ S → w'.heap[k]? = w.heap[k]?
section
variable {S T : List Nat} {w w1 w' : World}
theorem Only.refl (S : List Nat) (w : World) : Only S w w := ⟨rfl, rfl, rfl, Nat.le_refl _, fun _ _ _ => rfl⟩
theorem Only.trans (h : Only S w w1) (k : Only S w1 w') : Only S w w' :=
  ⟨k.os.trans h.os, k.tape.trans h.tape, k.output.trans h.output, Nat.le_trans h.size k.size, fun i hi h1 => (k.block i (Nat.lt_of_lt_of_le hi h.size) h1).trans (h.block i hi h1)⟩
theorem Only.mono (h : Only S w w') (hs : ∀ x ∈ S, x ∈ T) : Only T w w' := ⟨h.os, h.tape, h.output, h.size, fun k hk hn => h.block k hk (fun hm => hn (hs k hm))⟩
theorem Only.of_below (h : Below w.heap.size w w') : Only S w w' := ⟨h.os, h.tape, h.output, h.size, fun k hk _ => h.block k hk⟩
theorem Only.of_drawn (h : Drawn w w') : Only S w w' := Only.of_below (drawn_bl h _)
theorem Only.of_mv {b : Nat} (h : Mv b none w w') (hb : b ∈ S) : Only S w w' := ⟨h.os, h.tape, h.output, h.size, fun k hk hn => h.block k hk (fun e => hn (e ▸ hb)) (by simp)⟩
theorem Only.of_mvr {b : Nat} {r : Option Nat} (h : Mv b r w w') (hb : b ∈ S) (hr : ∀ g, r = some g → g ∈ S) : Only S w w' := ⟨h.os, h.tape, h.output, h.size, fun k hk hn => h.block k hk (fun e => hn (e ▸ hb)) (fun e => hn (hr k e.symm))⟩
theorem Only.below {B : Nat} (h : Only S w w') (hS : ∀ x ∈ S, B ≤ x) (hB : B ≤ w.heap.size) : Below B w w' := ⟨h.os, h.tape, h.output, h.size, fun k hk => h.block k (by omega) (fun hm => by have := hS k hm; omega)⟩
theorem Only.blk (h : Only S w w') {g : Nat} {t : TypeId} {cs : Array Value} (hg : Blk w g t cs) (hn : g ∉ S) : Blk w' g t cs := (h.block g hg.lt hn).trans hg
theorem Only.own (h : Only S w w') {base n : Nat} {e : TypeId} {size : Nat} {v : Value} {xs : List Value} (hO : w.ownsRow base e size v n xs) (hn : ∀ g, v.ownBlock = some g → g ∉ S) : w'.ownsRow base e size v n xs := by
  refine ⟨hO.1, ?_⟩
  rcases hO.2 with h0 | ⟨g, cap, cur, rfl, hb, hgg, rest⟩
  · exact .inl h0
  · refine .inr ⟨g, cap, cur, rfl, hb, ?_, rest⟩
    rw [h.block g (Array.getElem?_eq_some_iff.1 hgg).1 (hn g rfl)]
    exact hgg
theorem MemP.only {B b : Nat} {v : Value} {C : List Int} {size count odd ref : Int} (h : MemP B b v C size count odd ref w) (m : Only S w w') (h1 : b ∉ S) (h2 : ∀ g, v.ownBlock = some g → g ∉ S) : MemP B b v C size count odd ref w' :=
  ⟨m.blk h.blk h1, m.own h.own h2, h.base⟩
theorem IntsAt.only {B : Nat} {A : Option Addr} {q : List Int} (h : IntsAt w B A q) (m : Only S w w') (hS : ∀ x ∈ S, B ≤ x) (hB : B ≤ w.heap.size) : IntsAt w' B A q := h.below (m.below hS hB)
end
end Go.Proofs.YtblajeildolloaaGreat

/- The walk of math/bits.Mul64 (the shelf's proof, turned to this program) and of bits.LeadingZeros64. -/
namespace Go.Proofs.YtblajeildolloaaGreat
set_option linter.unusedVariables false
set_option linter.unusedSimpArgs false
open Go.RowKit
namespace Mul64
theorem maskN (a : Nat) (ha : a < 18446744073709551616) : bits .and .u64 (a : Int) 4294967295 = ((a % 4294967296 : Nat) : Int) := by
  have h := bits_and_u64_nat a 4294967295 ha (by omega)
  have e : a &&& 4294967295 = a % 4294967296 := Nat.and_two_pow_sub_one_eq_mod a 32
  rw [e] at h
  exact h
theorem divN (a : Nat) : (a : Int) / 4294967296 = ((a / 4294967296 : Nat) : Int) := by omega
theorem mulN (a b : Nat) : (a : Int) * (b : Int) = ((a * b : Nat) : Int) := (Int.natCast_mul a b).symm
theorem addN (a b : Nat) : (a : Int) + (b : Int) = ((a + b : Nat) : Int) := (Int.natCast_add a b).symm
theorem wrapN (a : Nat) (ha : a < 18446744073709551616) : IntKind.u64.wrap (a : Int) = (a : Int) := by rw [IntKind.wrap_u64]; omega
theorem wrapM (a : Nat) : IntKind.u64.wrap (a : Int) = ((a % 18446744073709551616 : Nat) : Int) := by rw [IntKind.wrap_u64]; omega
end Mul64

set_option maxHeartbeats 1000000 in
theorem mul64_nat (x y : Nat) (hx : x < 18446744073709551616) (hy : y < 18446744073709551616) (w : World) :
    Calls Tryz.prog 257 #[.int .u64 x, .int .u64 y] w fun e w' => e = .returned (.tuple #[.int .u64 ((x * y / 18446744073709551616 : Nat) : Int), .int .u64 ((x * y % 18446744073709551616 : Nat) : Int)]) ∧ w = w' := by
  obtain ⟨bd, bt, bw, hhi⟩ := Lib.mul64_hi x y hx hy
  have ba := Lib.half_mul_le (a := x / 4294967296) (b := y / 4294967296) (by omega) (by omega)
  have bb := Lib.half_mul_le (a := x / 4294967296) (b := y % 4294967296) (by omega) (by omega)
  have bc := Lib.half_mul_le (a := x % 4294967296) (b := y / 4294967296) (by omega) (by omega)
  have ba' : x / 4294967296 * (y / 4294967296) < 18446744073709551616 := by omega
  have bb' : x / 4294967296 * (y % 4294967296) < 18446744073709551616 := by omega
  have bc' : x % 4294967296 * (y / 4294967296) < 18446744073709551616 := by omega
  have bh1 : x / 4294967296 * (y / 4294967296) + (x / 4294967296 * (y % 4294967296) + x % 4294967296 * (y % 4294967296) / 4294967296) / 4294967296 < 18446744073709551616 := by omega
  have bh : x / 4294967296 * (y / 4294967296) + (x / 4294967296 * (y % 4294967296) + x % 4294967296 * (y % 4294967296) / 4294967296) / 4294967296 + ((x / 4294967296 * (y % 4294967296) + x % 4294967296 * (y % 4294967296) / 4294967296) % 4294967296 + x % 4294967296 * (y / 4294967296)) / 4294967296 < 18446744073709551616 := by omega
  go_enter Tryz.func257, Tryz.ntmps257
  go_wp2
  simp only [Mul64.maskN x hx, Mul64.maskN y hy, Mul64.divN, Mul64.mulN, Mul64.addN, Mul64.wrapN _ bd, Mul64.wrapN _ bb', Mul64.wrapN _ bt, Mul64.maskN _ bt, Mul64.wrapN _ bc', Mul64.wrapN _ bw, Mul64.wrapN _ ba', Mul64.wrapN _ bh1, Mul64.wrapN _ bh, Mul64.wrapM (x * y)]
  rw [hhi]
  go_ret2
  exact ⟨rfl, rfl⟩
theorem mul64_any (x y : Int) (x0 : 0 ≤ x) (x1 : x ≤ 18446744073709551615) (y0 : 0 ≤ y) (y1 : y ≤ 18446744073709551615) (w : World) :
    Calls Tryz.prog 257 #[.int .u64 x, .int .u64 y] w fun e w' => e = .returned (.tuple #[.int .u64 (x * y / 18446744073709551616), .int .u64 (x * y % 18446744073709551616)]) ∧ w = w' := by
  obtain ⟨m, rfl⟩ := Int.eq_ofNat_of_zero_le x0
  obtain ⟨n, rfl⟩ := Int.eq_ofNat_of_zero_le y0
  have h := mul64_nat m n (by omega) (by omega) w
  have e1 : ((m * n / 18446744073709551616 : Nat) : Int) = (m : Int) * n / 18446744073709551616 := by rw [Int.natCast_ediv, Int.natCast_mul]; rfl
  have e2 : ((m * n % 18446744073709551616 : Nat) : Int) = (m : Int) * n % 18446744073709551616 := by rw [Int.natCast_emod, Int.natCast_mul]; rfl
  rw [e1, e2] at h
  exact h

theorem lz64_any (y : Int) (s : Nat) (w : World) (h0 : 0 ≤ y) (h1 : y ≤ 18446744073709551615) (hs : Hid (Lib.bitLen y.toNat + s = 64)) :
    Calls Tryz.prog 271 #[.int .u64 y] w fun e w' => e = .returned (.int .i64 s) ∧ w = w' := by
  have hs2 := hs.out
  have b : (Lib.bitLen y.toNat : Int) ≤ 64 := by omega
  have b0 : 0 ≤ (Lib.bitLen y.toNat : Int) := by omega
  have H := Lib.hid (show 64 - (Lib.bitLen y.toNat : Int) = s by omega)
  clear hs2
  go_enter Tryz.func271, Tryz.ntmps271
  go_wp2_with (go_at_call 274; refine (len64_any _ _ h0 h1).mono ?_; rintro e w' ⟨rfl, rfl⟩)
  go_ret
  exact ⟨ret_int H.out, rfl⟩
end Go.Proofs.YtblajeildolloaaGreat

/- The walk of math/bits.Div64, where the quotient is below 2^32 (span.Share asks no more). -/
namespace Go.Proofs.YtblajeildolloaaGreat
set_option linter.unusedVariables false
set_option linter.unusedSimpArgs false
open Go.RowKit

theorem powI (s : Nat) : (2 : Int) ^ s = ((2 ^ s : Nat) : Int) := by rw [Int.natCast_pow]; rfl

theorem or_low (h l s : Nat) (hl : l < 2 ^ s) (hh : h * 2 ^ s < 18446744073709551616) (h2 : l < 18446744073709551616) (h3 : h * 2 ^ s + l < 18446744073709551616) : bits .or .u64 ((h * 2 ^ s : Nat) : Int) (l : Int) = ((h * 2 ^ s + l : Nat) : Int) := by
  rw [bits_or_u64_nat _ _ hh h2, Nat.mul_comm h, Nat.two_pow_add_eq_or_of_lt hl]
theorem and_mask (a : Int) (h0 : 0 ≤ a) (h1 : a < 18446744073709551616) : bits .and .u64 a 4294967295 = a % 4294967296 := by
  obtain ⟨n, rfl⟩ := Int.eq_ofNat_of_zero_le h0
  rw [Mul64.maskN n (by omega)]
  omega

/-- What Div64 works with: y shifted up till its highest bit is set, and the dividend with it. -/
structure DivSet (hi lo y : Int) (s : Nat) (yn yn1 yn0 a b un32 un10 un1 un0 : Int) : Prop where
  e1 : y * 2 ^ s = yn
  e2 : yn / 4294967296 = yn1
  e3 : bits .and .u64 yn 4294967295 = yn0
  e4 : hi * 2 ^ s = a
  e5 : lo / 2 ^ (64 - s) = b
  e6 : bits .or .u64 a b = un32
  e7 : IntKind.u64.wrap (lo * 2 ^ s) = un10
  e8 : un10 / 4294967296 = un1
  e9 : bits .and .u64 un10 4294967295 = un0
  y0 : 0 ≤ yn
  y1 : yn < 18446744073709551616
  y2 : yn = yn1 * 4294967296 + yn0
  y3 : 2147483648 ≤ yn1
  y4 : yn1 < 4294967296
  y5 : 0 ≤ yn0
  y6 : yn0 < 4294967296
  a0 : 0 ≤ a
  a1 : a < 18446744073709551616
  b0 : 0 ≤ b
  b1 : b < 18446744073709551616
  u0 : 0 ≤ un32
  u1 : 0 ≤ un1
  u2 : un1 < 4294967296
  u3 : 0 ≤ un0
  u4 : un0 < 4294967296
  u5 : un32 * 4294967296 + un1 < yn
  u6 : 0 ≤ un10
  u7 : un10 < 18446744073709551616
  same : (hi * 18446744073709551616 + lo) / y = ((un32 * 4294967296 + un1) * 4294967296 + un0) / yn

theorem div_set (hi lo y : Int) (s : Nat) (hs : Lib.bitLen y.toNat + s = 64) (h0 : 0 < hi) (h1 : hi < y) (hy : y < 18446744073709551616) (l0 : 0 ≤ lo) (l1 : lo < 18446744073709551616)
    (hq : hi * 18446744073709551616 + lo < y * 4294967296) : ∃ yn yn1 yn0 a b un32 un10 un1 un0 : Int, DivSet hi lo y s yn yn1 yn0 a b un32 un10 un1 un0 := by
  obtain ⟨b1, b2⟩ := bitLen_lt (x := y.toNat) (by omega) (by omega)
  have bp := bitLen_pos (x := y.toNat) (by omega) (by omega)
  have hs1 : s ≤ 63 := by omega
  have P0 : (0 : Int) < 2 ^ s := pow_pos2 s
  have R0 : (0 : Int) < 2 ^ (64 - s) := pow_pos2 _
  have PR : (2 : Int) ^ s * 2 ^ (64 - s) = 18446744073709551616 := by
    rw [← Int.pow_add, show s + (64 - s) = 64 by omega]; decide
  -- y in its place
  have yl : 9223372036854775808 ≤ y * 2 ^ s := by
    have : 2 ^ (Lib.bitLen y.toNat - 1) * 2 ^ s ≤ y.toNat * 2 ^ s := Nat.mul_le_mul_right _ b1
    rw [← Nat.pow_add, show Lib.bitLen y.toNat - 1 + s = 63 by omega] at this
    have t : ((2 ^ 63 : Nat) : Int) ≤ ((y.toNat * 2 ^ s : Nat) : Int) := by exact_mod_cast this
    rw [Int.natCast_mul, ← powI, show ((y.toNat : Nat) : Int) = y by omega] at t
    exact t
  have yu : y * 2 ^ s < 18446744073709551616 := by
    have : y.toNat * 2 ^ s < 2 ^ Lib.bitLen y.toNat * 2 ^ s := Nat.mul_lt_mul_of_pos_right b2 (Nat.two_pow_pos s)
    rw [← Nat.pow_add, hs] at this
    have t : ((y.toNat * 2 ^ s : Nat) : Int) < ((2 ^ 64 : Nat) : Int) := by exact_mod_cast this
    rw [Int.natCast_mul, ← powI, show ((y.toNat : Nat) : Int) = y by omega] at t
    exact t
  -- hi and lo
  have hl : hi * 2 ^ s < y * 2 ^ s := Int.mul_lt_mul_of_pos_right h1 P0
  have h00 : 0 ≤ hi * 2 ^ s := Int.mul_nonneg (by omega) (by omega)
  have lb0 : 0 ≤ lo / 2 ^ (64 - s) := Int.ediv_nonneg l0 (by omega)
  have lb1 : lo / 2 ^ (64 - s) < 2 ^ s := Int.ediv_lt_of_lt_mul R0 (by rw [PR]; exact l1)
  have Pb : (2 : Int) ^ s ≤ 9223372036854775808 := by
    have : (2 : Nat) ^ s ≤ 9223372036854775808 := Nat.pow_le_pow_right (n := 2) (by decide) hs1
    rw [powI]; omega
  have lm0 := Int.emod_nonneg lo (show (2 : Int) ^ (64 - s) ≠ 0 by omega)
  have lm1 := Int.emod_lt_of_pos lo R0
  have le := Int.mul_ediv_add_emod lo (2 ^ (64 - s))
  have lP : lo * 2 ^ s = 18446744073709551616 * (lo / 2 ^ (64 - s)) + (lo % 2 ^ (64 - s)) * 2 ^ s := by
    have : lo * 2 ^ s = (2 ^ (64 - s) * (lo / 2 ^ (64 - s)) + lo % 2 ^ (64 - s)) * 2 ^ s := by rw [le]
    rw [this, Int.add_mul, ← PR, Int.mul_comm (2 ^ (64 - s)) (lo / 2 ^ (64 - s)), Int.mul_assoc, Int.mul_comm (2 ^ (64 - s)) (2 ^ s), Int.mul_comm (lo / 2 ^ (64 - s))]
  have m0 : 0 ≤ (lo % 2 ^ (64 - s)) * 2 ^ s := Int.mul_nonneg lm0 (by omega)
  have m1 : (lo % 2 ^ (64 - s)) * 2 ^ s < 18446744073709551616 := by
    have := Int.mul_lt_mul_of_pos_right lm1 P0
    rw [Int.mul_comm (2 ^ (64 - s)), PR] at this
    exact this
  have w10 : IntKind.u64.wrap (lo * 2 ^ s) = (lo % 2 ^ (64 - s)) * 2 ^ s := by
    rw [IntKind.wrap_u64, lP, Int.mul_add_emod_self_left]
    exact Int.emod_eq_of_lt m0 m1
  have ho : hi * 2 ^ s + lo / 2 ^ (64 - s) < 18446744073709551616 := by
    have : hi * 2 ^ s + 2 ^ s ≤ y * 2 ^ s := by
      have := Int.mul_le_mul_of_nonneg_right (show hi + 1 ≤ y by omega) (show (0 : Int) ≤ 2 ^ s by omega)
      rw [Int.add_mul, Int.one_mul] at this; exact this
    omega
  have or1 : bits .or .u64 (hi * 2 ^ s) (lo / 2 ^ (64 - s)) = hi * 2 ^ s + lo / 2 ^ (64 - s) := by
    obtain ⟨h, rfl⟩ := Int.eq_ofNat_of_zero_le (show 0 ≤ hi by omega)
    obtain ⟨l, el⟩ := Int.eq_ofNat_of_zero_le lb0
    rw [el] at lb1 ho ⊢
    rw [powI] at lb1 ho h00 hl ⊢
    rw [← Int.natCast_mul] at ho ⊢
    have q1 : l < 2 ^ s := by exact_mod_cast lb1
    rw [or_low h l s q1 (by omega) (by omega) (by omega), Int.natCast_add]
  refine ⟨_, _, _, _, _, _, _, _, _, ⟨rfl, rfl, rfl, rfl, rfl, rfl, rfl, rfl, rfl, by omega, yu, ?_, by omega, by omega, ?_, ?_, h00, by omega, lb0, by omega, ?_, ?_, ?_, ?_, ?_, ?_, ?_, ?_, ?_⟩⟩
  · rw [and_mask _ (by omega) yu]; omega
  · rw [and_mask _ (by omega) yu]; omega
  · rw [and_mask _ (by omega) yu]; omega
  · rw [or1]; omega
  · rw [w10]; omega
  · rw [w10]; omega
  · rw [w10, and_mask _ m0 m1]; omega
  · rw [w10, and_mask _ m0 m1]; omega
  · rw [or1, w10]
    have t : (hi * 18446744073709551616 + lo) * 2 ^ s < y * 4294967296 * 2 ^ s := Int.mul_lt_mul_of_pos_right hq P0
    rw [Int.add_mul, lP, Int.mul_right_comm hi, Int.mul_right_comm y] at t
    generalize lo / 2 ^ (64 - s) = b at *
    generalize lo % 2 ^ (64 - s) * 2 ^ s = c at *
    generalize hi * 2 ^ s = h at *
    generalize y * 2 ^ s = yy at *
    omega
  · rw [w10]; exact m0
  · rw [w10]; exact m1
  · rw [or1, w10, and_mask _ m0 m1]
    have e : ((hi * 2 ^ s + lo / 2 ^ (64 - s)) * 4294967296 + lo % 2 ^ (64 - s) * 2 ^ s / 4294967296) * 4294967296 + lo % 2 ^ (64 - s) * 2 ^ s % 4294967296 = (hi * 18446744073709551616 + lo) * 2 ^ s := by
      rw [Int.add_mul (hi * 18446744073709551616), lP, Int.mul_right_comm hi]
      generalize lo / 2 ^ (64 - s) = b at *
      generalize lo % 2 ^ (64 - s) * 2 ^ s = c at *
      generalize hi * 2 ^ s = h at *
      omega
    rw [e]
    exact (Int.mul_ediv_mul_of_pos_left _ _ P0).symm

/-- One digit of the quotient: it is never too small, and at the end it is right. -/
theorem digit_low {n un0 yn yn1 yn0 q r : Int} (hy : yn = yn1 * 4294967296 + yn0) (y3 : 2147483648 ≤ yn1) (y5 : 0 ≤ yn0) (hr : q * yn1 + r = n) (hq : 0 ≤ q) (h : q * yn0 ≤ 4294967296 * r + un0) : q ≤ (n * 4294967296 + un0) / yn := by
  refine (Int.le_ediv_iff_mul_le (by omega)).2 ?_
  have e : q * yn = q * yn1 * 4294967296 + q * yn0 := by rw [hy, Int.mul_add, ← Int.mul_assoc]
  rw [e]
  omega
theorem digit_high {n un0 yn yn1 yn0 q r : Int} (hy : yn = yn1 * 4294967296 + yn0) (y3 : 2147483648 ≤ yn1) (y5 : 0 ≤ yn0) (hr : q * yn1 + r = n) (h : 4294967296 * r + un0 < q * yn0) : (n * 4294967296 + un0) / yn < q := by
  refine (Int.ediv_lt_iff_lt_mul (by omega)).2 ?_
  have e : q * yn = q * yn1 * 4294967296 + q * yn0 := by rw [hy, Int.mul_add, ← Int.mul_assoc]
  rw [e]
  omega

theorem first_digit {un32 un1 yn yn1 yn0 : Int} (u0 : 0 ≤ un32) (u1 : 0 ≤ un1) (y3 : 2147483648 ≤ yn1) (y6 : yn0 < 4294967296) (y2 : yn = yn1 * 4294967296 + yn0) (u5 : un32 * 4294967296 + un1 < yn) :
    (un32 / yn1 = 1 ∧ un32 = yn1 ∧ un1 < yn0) ∨ un32 / yn1 = 0 := by
  by_cases c : un32 < yn1
  · exact .inr (Int.ediv_eq_zero_of_lt u0 c)
  · have e : un32 = yn1 := by omega
    subst e
    exact .inl ⟨Int.ediv_self (by omega), rfl, by omega⟩
theorem second_digit {n un0 yn yn1 yn0 : Int} (n0 : 0 ≤ n) (u5 : n < yn) (y2 : yn = yn1 * 4294967296 + yn0) (y3 : 2147483648 ≤ yn1) (y4 : yn1 < 4294967296) (y5 : 0 ≤ yn0) (y6 : yn0 < 4294967296) (u3 : 0 ≤ un0) (u4 : un0 < 4294967296) :
    0 ≤ n / yn1 ∧ n / yn1 ≤ 4294967297 ∧ 0 ≤ n - n / yn1 * yn1 ∧ n - n / yn1 * yn1 < 4294967296 ∧ 0 ≤ n / yn1 * yn1 ∧ (n * 4294967296 + un0) / yn ≤ n / yn1 := by
  have e := Int.mul_ediv_add_emod n yn1
  have m0 := Int.emod_nonneg n (show yn1 ≠ 0 by omega)
  have m1 := Int.emod_lt_of_pos n (show 0 < yn1 by omega)
  have q0 : 0 ≤ n / yn1 := Int.ediv_nonneg n0 (by omega)
  have q1 : n / yn1 < 4294967298 := Int.ediv_lt_of_lt_mul (by omega) (by omega)
  have e' : n / yn1 * yn1 = yn1 * (n / yn1) := Int.mul_comm _ _
  have m2 : 0 ≤ n / yn1 * yn1 := Int.mul_nonneg q0 (by omega)
  refine ⟨q0, by omega, by omega, by omega, m2, ?_⟩
  have : (n * 4294967296 + un0) / yn < n / yn1 + 1 := by
    refine (Int.ediv_lt_iff_lt_mul (by omega)).2 ?_
    have a : n + 1 ≤ (n / yn1 + 1) * yn1 := by rw [Int.add_mul]; omega
    have b : (n / yn1 + 1) * yn = (n / yn1 + 1) * yn1 * 4294967296 + (n / yn1 + 1) * yn0 := by
      rw [y2, Int.mul_add, ← Int.mul_assoc]
    have c : 0 ≤ (n / yn1 + 1) * yn0 := Int.mul_nonneg (by omega) y5
    rw [b]; omega
  omega
theorem digit_next {q r yn1 n : Int} (h : q * yn1 + r = n) : (q - 1) * yn1 + (r + yn1) = n := by
  rw [Int.sub_mul, Int.one_mul]; omega
/-- A guess of 2^32 or more is too large. -/
theorem digit_large {n un0 yn yn1 yn0 Q q : Int} (hQ : (n * 4294967296 + un0) / yn = Q) (hy : yn = yn1 * 4294967296 + yn0) (y3 : 2147483648 ≤ yn1) (y4 : yn1 < 4294967296) (y5 : 0 ≤ yn0) (y6 : yn0 < 4294967296) (u4 : un0 < 4294967296) (u5 : n < yn) (n0 : 0 ≤ n) (c : 4294967296 ≤ q) : Q < q := by
  have : Q < 4294967296 := by
    rw [← hQ]
    exact Int.ediv_lt_of_lt_mul (by omega) (by omega)
  omega
theorem digit_done {n un0 yn yn1 yn0 Q q r : Int} (hQ : (n * 4294967296 + un0) / yn = Q) (hy : yn = yn1 * 4294967296 + yn0) (y3 : 2147483648 ≤ yn1) (y5 : 0 ≤ yn0) (y6 : yn0 < 4294967296) (u3 : 0 ≤ un0) (q0 : 0 ≤ q) (q1 : q ≤ 4294967296) (hq : Q ≤ q) (h : q * yn1 + r = n) (c : 4294967296 ≤ r) : Q = q := by
  have m : q * yn0 ≤ 4294967296 * 4294967295 := Int.mul_le_mul q1 (by omega) y5 (by omega)
  have := digit_low (un0 := un0) hy y3 y5 h q0 (by omega)
  omega
/-- What Div64 answers: the quotient, and some remainder that nobody asks for. -/
def SomeRem (q : Int) (w : World) (e : Ending) (w' : World) : Prop := (∃ r : Int, e = .returned (.tuple #[.int .u64 q, .int .u64 r])) ∧ Drawn w w'

theorem div64_low (lo y : Int) (w : World) (y0 : 0 < y) (y1 : y ≤ 18446744073709551615) (l0 : 0 ≤ lo) (l1 : lo ≤ 18446744073709551615) :
    Calls Tryz.prog 258 #[.int .u64 0, .int .u64 lo, .int .u64 y] w (SomeRem (lo / y) w) := by
  have yz : (y == 0) = false := by simpa using (show y ≠ 0 by omega)
  go_enter Tryz.func258, Tryz.ntmps258
  go_wp2
  go_quiet (fail)
  go_wp2
  go_ret2
  exact ⟨⟨_, rfl⟩, Drawn.of _ _⟩

set_option maxHeartbeats 2000000 in
set_option maxRecDepth 100000 in
theorem div64_high (hi lo y : Int) (w : World) (h0 : 0 < hi) (h1 : hi < y) (y1 : y ≤ 18446744073709551615) (l0 : 0 ≤ lo) (l1 : lo ≤ 18446744073709551615) (hq : hi * 18446744073709551616 + lo < y * 4294967296) :
    Calls Tryz.prog 258 #[.int .u64 hi, .int .u64 lo, .int .u64 y] w (SomeRem ((hi * 18446744073709551616 + lo) / y) w) := by
  obtain ⟨s, hs⟩ : ∃ s : Nat, Lib.bitLen y.toNat + s = 64 := ⟨64 - Lib.bitLen y.toNat, by have := Lib.bitLen_le y.toNat 64 (by decide) (by omega); omega⟩
  obtain ⟨yn, yn1, yn0, a, b, un32, un10, un1, un0, D⟩ := div_set hi lo y s hs h0 h1 (by omega) l0 (by omega) hq
  have bp := bitLen_pos (x := y.toNat) (by omega) (by omega)
  have s1 : s ≤ 63 := by omega
  have HS := Lib.hid hs
  clear hs hq bp
  obtain ⟨e1, e2, e3, e4, e5, e6, e7, e8, e9, y0, y1', y2, y3, y4, y5, y6, a0, a1, b0, b1, u0, u1, u2, u3, u4, u5, u6, u7, same⟩ := D
  obtain ⟨n, hn⟩ : ∃ n, un32 * 4294967296 + un1 = n := ⟨_, rfl⟩
  rw [hn] at same u5
  have n0 : 0 ≤ n := by omega
  have u32 : un32 < 4294967296 := by omega
  have HQ := Lib.hid same
  have HY := Lib.hid y2
  -- the first digit: nothing, or one too much
  have A := first_digit u0 u1 y3 y6 y2 (by rw [hn]; exact u5)
  -- the second digit, guessed
  obtain ⟨g0, g1, g2, g3, g4, g5⟩ := second_digit (un0 := un0) n0 u5 y2 y3 y4 y5 y6 u3 u4
  obtain ⟨q0, hq0⟩ : ∃ q, n / yn1 = q := ⟨_, rfl⟩
  rw [hq0] at g0 g1 g2 g3 g4 g5
  obtain ⟨r0, hr0⟩ : ∃ r, n - q0 * yn1 = r := ⟨_, rfl⟩
  rw [hr0] at g2 g3
  have hqr : q0 * yn1 + r0 = n := by omega
  have HQR := Lib.hid hqr
  obtain ⟨Q, hQ⟩ : ∃ Q, (n * 4294967296 + un0) / yn = Q := ⟨_, rfl⟩
  have HQ2 := Lib.hid hQ
  rw [hQ] at g5
  clear same y2 hqr hQ
  have AH := Lib.hid A
  clear A
  have yz : (y == 0) = false := by simpa using (show y ≠ 0 by omega)
  have hz : (hi == 0) = false := by simpa using (show hi ≠ 0 by omega)
  go_enter Tryz.func258, Tryz.ntmps258
  go_wp2_with (go_at_call 271; refine (lz64_any _ s _ (by omega) (by omega) HS).mono ?_; rintro e w' ⟨rfl, rfl⟩)
  go_loop [15, 16] (fun u v => ∃ q r : Int, u = .int .u64 q ∧ v = .int .u64 r ∧ ((q = 1 ∧ r = 0 ∧ un1 < yn0) ∨ (q = 0 ∧ 0 ≤ r ∧ r < 4294967296))) (fun u _ => (intOf u).toNat)
  case atStart =>
    rcases AH.out with ⟨c, c1, c2⟩ | c
    · refine ⟨1, 0, by rw [c], ?_, .inl ⟨rfl, rfl, c2⟩⟩
      rw [c, c1, Int.one_mul, IntWalk.u64_in yn1 (by omega), Int.sub_self]
      rfl
    · refine ⟨0, un32, by rw [c], ?_, .inr ⟨rfl, u0, by omega⟩⟩
      rw [c, Int.zero_mul, IntWalk.u64_in 0 (by omega), Int.sub_zero, IntWalk.u64_in un32 (by omega)]
  case round =>
    obtain ⟨q, r, rfl, rfl, ⟨rfl, rfl, c⟩ | ⟨rfl, r1, r2⟩⟩ := hrel
    · go_wp2
      go_round
      case rel => exact ⟨0, yn1, rfl, rfl, .inr ⟨rfl, by omega, y4⟩⟩
      case measure => simp [intOf]
    · go_wp2
      go_loop [18, 16] (fun u v => ∃ q r : Int, u = .int .u64 q ∧ v = .int .u64 r ∧ q * yn1 + r = n ∧ 0 ≤ q ∧ q ≤ 4294967297 ∧ 0 ≤ r ∧ r < 4294967296 ∧ Q ≤ q) (fun u _ => (intOf u).toNat)
      case atStart => exact ⟨q0, r0, rfl, rfl, HQR.out, g0, g1, g2, g3, g5⟩
      case round =>
        obtain ⟨q, r, rfl, rfl, k1, k2, k3, k4, k5, k6⟩ := hrel
        have K1 := Lib.hid k1
        clear k1
        by_cases c : 4294967296 ≤ q
        · have hlt := digit_large HQ2.out HY.out y3 y4 y5 y6 u4 u5 n0 c
          have K2 := digit_next K1.out
          by_cases c3 : 4294967296 ≤ r + yn1
          · have F := Lib.hid (digit_done HQ2.out HY.out y3 y5 y6 u3 (by omega) (by omega) (by omega) K2 c3)
            clear K2
            go_wp2
            go_ret2
            rw [HQ.out, HQ2.out, F.out]; exact ⟨⟨_, rfl⟩, Drawn.refl _⟩
          · have K3 := Lib.hid K2
            clear K2
            go_wp2
            go_round
            case rel => exact ⟨q - 1, r + yn1, rfl, rfl, K3.out, by omega, by omega, by omega, by omega, by omega⟩
            case measure => simp [intOf]; omega
        · have m0 : 0 ≤ q * yn0 := Int.mul_nonneg k2 y5
          have m1 : q * yn0 ≤ 4294967295 * 4294967295 := Int.mul_le_mul (by omega) (by omega) y5 (by omega)
          by_cases c2 : 4294967296 * r + un0 < q * yn0
          · have hlt := digit_high HY.out y3 y5 K1.out c2
            rw [HQ2.out] at hlt
            have K2 := digit_next K1.out
            have q1 : 1 ≤ q := by
              rcases Int.lt_or_le q 1 with g | g
              · have : q = 0 := by omega
                subst this; omega
              · exact g
            by_cases c3 : 4294967296 ≤ r + yn1
            · have F := Lib.hid (digit_done HQ2.out HY.out y3 y5 y6 u3 (by omega) (by omega) (by omega) K2 c3)
              clear K2
              go_wp2
              go_ret2
              rw [HQ.out, HQ2.out, F.out]; exact ⟨⟨_, rfl⟩, Drawn.refl _⟩
            · have K3 := Lib.hid K2
              clear K2
              go_wp2
              go_round
              case rel => exact ⟨q - 1, r + yn1, rfl, rfl, K3.out, by omega, by omega, by omega, by omega, by omega⟩
              case measure => simp [intOf]; omega
          · have F0 := digit_low (un0 := un0) HY.out y3 y5 K1.out k2 (by omega)
            rw [HQ2.out] at F0
            have F := Lib.hid (show Q = q by omega)
            go_wp2
            go_ret2
            rw [HQ.out, HQ2.out, F.out]; exact ⟨⟨_, rfl⟩, Drawn.refl _⟩
end Go.Proofs.YtblajeildolloaaGreat

/- The builtins max and min at two whole numbers, as rules for a walk. -/
namespace Go.Proofs.YtblajeildolloaaGreat
set_option linter.unusedVariables false
set_option linter.unusedSimpArgs false
theorem max2_int (k k' : IntKind) (x y : Int) : Builtin.max2 (.int k x) (.int k' y) = pure (.int k (if x < y then y else x)) := by simp only [Builtin.max2, gt_iff_lt]
theorem min2_int (k k' : IntKind) (x y : Int) : Builtin.min2 (.int k x) (.int k' y) = pure (.int k (if y < x then y else x)) := by simp only [Builtin.min2]
theorem min_two (ats : Array TypeId) (ty : TypeId) (a b : Value) : Builtin.min_ ats ty #[a, b] = (Builtin.min2 a b >>= fun s => pure s) := by simp only [Builtin.min_, List.foldlM_cons, List.foldlM_nil]
theorem max_two (ats : Array TypeId) (ty : TypeId) (a b : Value) : Builtin.max_ ats ty #[a, b] = (Builtin.max2 a b >>= fun s => pure s) := by simp only [Builtin.max_, List.foldlM_cons, List.foldlM_nil]
end Go.Proofs.YtblajeildolloaaGreat

/- The walks of span.Gap, span.Share and the reference's. -/
namespace Go.Proofs.YtblajeildolloaaGreat
set_option linter.unusedVariables false
set_option linter.unusedSimpArgs false
open Go.RowKit
attribute [local go_sem] max2_int max_two min2_int min_two

theorem ret_u64 {a b : Int} (h : a = b) : Ending.returned (.int .u64 a) = .returned (.int .u64 b) := by rw [h]
theorem gap_any (a b : Int) (w : World) (a0 : -9223372036854775808 ≤ a) (a1 : a ≤ 9223372036854775807) (b0 : -9223372036854775808 ≤ b) (b1 : b ≤ 9223372036854775807) :
    Calls Tryz.prog 224 #[.int .i64 a, .int .i64 b] w fun e w' => e = .returned (.int .u64 (gapI a b)) ∧ w = w' := by
  by_cases h : b < a
  · go_enter Tryz.func224, Tryz.ntmps224
    go_wp2
    go_ret
    exact ⟨ret_u64 (if_pos h).symm, rfl⟩
  · have E := gap_wrap a0 a1 b0 b1 (show a ≤ b by omega)
    go_enter Tryz.func224, Tryz.ntmps224
    go_wp2
    go_ret
    exact ⟨rfl, rfl⟩
theorem refgap_any (a b : Int) (w : World) (a0 : -9223372036854775808 ≤ a) (a1 : a ≤ 9223372036854775807) (b0 : -9223372036854775808 ≤ b) (b1 : b ≤ 9223372036854775807) :
    Calls Tryz.prog 261 #[.int .i64 a, .int .i64 b] w fun e w' => e = .returned (.int .u64 (gapI a b)) ∧ w = w' := by
  by_cases h : b < a
  · go_enter Tryz.func261, Tryz.ntmps261
    go_wp2
    go_ret
    exact ⟨ret_u64 (if_pos h).symm, rfl⟩
  · have E := gap_wrap a0 a1 b0 b1 (show a ≤ b by omega)
    go_enter Tryz.func261, Tryz.ntmps261
    go_wp2
    go_ret
    exact ⟨rfl, rfl⟩

theorem div64_any (hi lo y : Int) (w : World) (h0 : 0 ≤ hi) (h1 : hi < y) (y1 : y ≤ 18446744073709551615) (l0 : 0 ≤ lo) (l1 : lo ≤ 18446744073709551615) (hq : hi * 18446744073709551616 + lo < y * 4294967296) :
    Calls Tryz.prog 258 #[.int .u64 hi, .int .u64 lo, .int .u64 y] w (SomeRem ((hi * 18446744073709551616 + lo) / y) w) := by
  by_cases z : hi = 0
  · subst z
    have := div64_low lo y w h1 y1 l0 l1
    rw [Int.zero_mul, Int.zero_add]
    exact this
  · exact div64_high hi lo y w (by omega) h1 y1 l0 l1 hq

set_option maxHeartbeats 1000000 in
theorem share_any (p x n : Int) (w : World) (p0 : 0 ≤ p) (p1 : p ≤ 18446744073709551615) (x0 : 0 ≤ x) (x1 : x ≤ 18446744073709551615) (n0 : -9223372036854775808 ≤ n) (n1 : n ≤ 9223372036854775807) :
    Calls Tryz.prog 223 #[.int .u64 p, .int .u64 x, .int .i64 n] w fun e w' => e = .returned (.int .i64 (shareI p x n)) ∧ Drawn w w' := by
  by_cases z : x = 0
  · subst z
    go_enter Tryz.func223, Tryz.ntmps223
    go_wp2_with (fail)
    go_ret
    exact ⟨ret_int (shareI_none (.inl rfl)).symm, Drawn.refl _⟩
  · have xz : (x == 0) = false := by simpa using z
    by_cases g : n < 1
    · go_enter Tryz.func223, Tryz.ntmps223
      go_wp2_with (fail)
      go_ret
      exact ⟨ret_int (shareI_none (.inr (.inl g))).symm, Drawn.refl _⟩
    · by_cases k : 65536 < n
      · go_enter Tryz.func223, Tryz.ntmps223
        go_wp2_with (fail)
        go_ret
        exact ⟨ret_int (shareI_none (.inr (.inr k))).symm, Drawn.refl _⟩
      · have hm : (if x < p then x else p) = lesI p x := rfl
        obtain ⟨m0, m1, m2⟩ := lesI_bd p0 x0
        obtain ⟨d1, d2, d3, d4, d5, d6, d7⟩ := share_split (n := n) m0 m1 (show 0 < x by omega) x1 (by omega) (by omega)
        have H := Lib.hid (show shareI p x n = lesI p x * n / x from if_neg (by omega))
        have HE := Lib.hid d5
        clear d5
        have hG := Drawn.refl w
        go_enter Tryz.func223, Tryz.ntmps223
        go_wp2_with (first | (go_at_call 257; refine (mul64_any _ _ (by omega) (by omega) (by omega) (by omega) _).mono ?_; rintro e w' ⟨rfl, rfl⟩) | (go_at_call 258; refine (div64_any _ _ _ _ (by omega) (by omega) (by omega) (by omega) (by omega) (by omega)).mono ?_; rintro e w' ⟨⟨r, rfl⟩, hg⟩; replace hG := hG.trans hg; clear hg; rw [HE.out]))
        go_ret
        exact ⟨ret_int H.out.symm, hG⟩

set_option maxHeartbeats 2000000 in
set_option maxRecDepth 100000 in
theorem refshare_any (p x n : Int) (w : World) (p0 : 0 ≤ p) (p1 : p ≤ 18446744073709551615) (x0 : 0 ≤ x) (x1 : x ≤ 18446744073709551615) (n0 : -9223372036854775808 ≤ n) (n1 : n ≤ 9223372036854775807) :
    Calls Tryz.prog 260 #[.int .u64 p, .int .u64 x, .int .i64 n] w fun e w' => e = .returned (.int .i64 (shareI p x n)) ∧ w = w' := by
  by_cases z : x = 0
  · subst z
    go_enter Tryz.func260, Tryz.ntmps260
    go_wp2_with (fail)
    go_ret
    exact ⟨ret_int (shareI_none (.inl rfl)).symm, rfl⟩
  · have xz : (x == 0) = false := by simpa using z
    by_cases g : n < 1
    · go_enter Tryz.func260, Tryz.ntmps260
      go_wp2_with (fail)
      go_ret
      exact ⟨ret_int (shareI_none (.inr (.inl g))).symm, rfl⟩
    · by_cases k : 65536 < n
      · go_enter Tryz.func260, Tryz.ntmps260
        go_wp2_with (fail)
        go_ret
        exact ⟨ret_int (shareI_none (.inr (.inr k))).symm, rfl⟩
      · have hm : (if x < p then x else p) = lesI p x := rfl
        obtain ⟨m0, m1, m2⟩ := lesI_bd p0 x0
        have H := Lib.hid (show shareI p x n = lesI p x * n / x from if_neg (by omega))
        obtain ⟨m, hM⟩ : ∃ m, lesI p x = m := ⟨_, rfl⟩
        rw [hM] at hm m0 m1 m2 H
        clear hM
        have N0 : 0 ≤ n := by omega
        have X0 : 0 < x := by omega
        go_enter Tryz.func260, Tryz.ntmps260
        go_wp2_with (fail)
        go_loop [7, 8, 9] (fun u v t => ∃ (b : Nat) (q r : Int), b ≤ 17 ∧ u = .int .i64 q ∧ v = .int .u64 r ∧ t = .int .i64 ((b : Int) - 1) ∧ ShareAt m x n b q r) (fun _ _ t => (intOf t + 1).toNat)
        case atStart => exact ⟨17, 0, 0, by omega, rfl, rfl, rfl, ShareAt.start N0 (by omega) X0⟩
        case round =>
          obtain ⟨b, q, r, hb, rfl, rfl, rfl, S⟩ := hrel
          rcases b with _ | j
          · have F := Lib.hid (S.done X0)
            clear S
            go_wp2_with (fail)
            go_ret
            exact ⟨ret_int (by rw [H.out, F.out]), rfl⟩
          · have hj : j ≤ 16 := by omega
            obtain ⟨r0, r1, q0, q1⟩ := S.bd m0 m1 X0 N0 (by omega)
            have HS := Lib.hid S
            clear S
            have B := bit_eq n j N0 (by omega)
            by_cases c1 : x - r ≤ r
            · by_cases c2 : n / 2 ^ j % 2 = 0
              · rw [c2] at B
                have N := Lib.hid (HS.out.step1 c1 c2)
                go_wp2_with (fail)
                go_round
                case rel => exact ⟨j, _, _, by omega, rfl, rfl, by go_num, N.out⟩
                case measure => simp [intOf]
              · have c2' : n / 2 ^ j % 2 = 1 := by omega
                rw [c2'] at B
                by_cases c3 : x - (r - (x - r)) ≤ m
                · have N := Lib.hid (HS.out.step2 m1 c1 c2' c3)
                  go_wp2_with (fail)
                  go_round
                  case rel => exact ⟨j, _, _, by omega, rfl, rfl, by go_num, N.out⟩
                  case measure => simp [intOf]
                · have N := Lib.hid (HS.out.step3 m0 c1 c2' c3)
                  go_wp2_with (fail)
                  go_round
                  case rel => exact ⟨j, _, _, by omega, rfl, rfl, by go_num, N.out⟩
                  case measure => simp [intOf]
            · by_cases c2 : n / 2 ^ j % 2 = 0
              · rw [c2] at B
                have N := Lib.hid (HS.out.step4 c1 c2)
                go_wp2_with (fail)
                go_round
                case rel => exact ⟨j, _, _, by omega, rfl, rfl, by go_num, N.out⟩
                case measure => simp [intOf]
              · have c2' : n / 2 ^ j % 2 = 1 := by omega
                rw [c2'] at B
                by_cases c3 : x - (r + r) ≤ m
                · have N := Lib.hid (HS.out.step5 m1 c1 c2' c3)
                  go_wp2_with (fail)
                  go_round
                  case rel => exact ⟨j, _, _, by omega, rfl, rfl, by go_num, N.out⟩
                  case measure => simp [intOf]
                · have N := Lib.hid (HS.out.step6 m0 c1 c2' c3)
                  go_wp2_with (fail)
                  go_round
                  case rel => exact ⟨j, _, _, by omega, rfl, rfl, by go_num, N.out⟩
                  case measure => simp [intOf]
end Go.Proofs.YtblajeildolloaaGreat

/- The walks of package probe. -/
namespace Go.Proofs.YtblajeildolloaaGreat
set_option linter.unusedVariables false
set_option linter.unusedSimpArgs false
open Go.RowKit

end Go.Proofs.YtblajeildolloaaGreat

/- The walks of probe.Guess, and of the reference's Guess, Rising, Find, Ints. -/
namespace Go.Proofs.YtblajeildolloaaGreat
set_option linter.unusedVariables false
set_option linter.unusedSimpArgs false
open Go.RowKit

set_option maxHeartbeats 1000000 in
theorem guess_any (f l k n : Int) (w : World) (f0 : -9223372036854775808 ≤ f) (f1 : f ≤ 9223372036854775807) (l0 : -9223372036854775808 ≤ l) (l1 : l ≤ 9223372036854775807) (k0 : -9223372036854775808 ≤ k) (k1 : k ≤ 9223372036854775807) (n0 : -9223372036854775808 ≤ n) (n1 : n ≤ 9223372036854775807) :
    Calls Tryz.prog 191 #[.int .i64 f, .int .i64 l, .int .i64 k, .int .i64 n] w fun e w' => e = .returned (.int .i64 (guessI f l k n)) ∧ Drawn w w' := by
  by_cases h1 : n < 2
  · have H := Lib.hid (guessI_none (f := f) (l := l) (k := k) (n := n) (.inl h1))
    go_enter Tryz.func191, Tryz.ntmps191
    go_wp2_with (fail)
    go_ret
    exact ⟨ret_int H.out.symm, Drawn.refl _⟩
  · by_cases h2 : 65536 < n
    · have H := Lib.hid (guessI_none (f := f) (l := l) (k := k) (n := n) (.inr (.inl h2)))
      go_enter Tryz.func191, Tryz.ntmps191
      go_wp2_with (fail)
      go_ret
      exact ⟨ret_int H.out.symm, Drawn.refl _⟩
    · by_cases h3 : k < f
      · have H := Lib.hid (guessI_none (f := f) (l := l) (k := k) (n := n) (.inr (.inr (.inl h3))))
        go_enter Tryz.func191, Tryz.ntmps191
        go_wp2_with (fail)
        go_ret
        exact ⟨ret_int H.out.symm, Drawn.refl _⟩
      · by_cases h4 : l ≤ k
        · have H := Lib.hid (guessI_none (f := f) (l := l) (k := k) (n := n) (.inr (.inr (.inr h4))))
          go_enter Tryz.func191, Tryz.ntmps191
          go_wp2_with (fail)
          go_ret
          exact ⟨ret_int H.out.symm, Drawn.refl _⟩
        · have H := Lib.hid (guessI_in (f := f) (l := l) (k := k) (n := n) (by omega))
          obtain ⟨g0, g1⟩ := gapI_bd (a := f) (b := k) (by omega) (by omega)
          obtain ⟨g2, g3⟩ := gapI_bd (a := f) (b := l) (by omega) (by omega)
          obtain ⟨s0, s1⟩ := share_lt (p := gapI f k) (x := gapI f l) (n := n - 1) (by omega) (by unfold gapI; rw [if_neg (by omega), if_neg (by omega)]; omega) (by omega) (by omega)
          go_enter Tryz.func191, Tryz.ntmps191
          go_wp2_with (first | (go_at_call 224; refine (gap_any _ _ _ (by omega) (by omega) (by omega) (by omega)).mono ?_; rintro e w' ⟨rfl, rfl⟩) | (go_at_call 223; refine (share_any _ _ _ _ (by omega) (by omega) (by omega) (by omega) (by omega) (by omega)).mono ?_; rintro e w' ⟨rfl, m, rfl⟩))
          go_ret
          exact ⟨ret_int H.out.symm, Drawn.of _ _⟩

set_option maxHeartbeats 1000000 in
theorem refguess_any (f l k n : Int) (w : World) (f0 : -9223372036854775808 ≤ f) (f1 : f ≤ 9223372036854775807) (l0 : -9223372036854775808 ≤ l) (l1 : l ≤ 9223372036854775807) (k0 : -9223372036854775808 ≤ k) (k1 : k ≤ 9223372036854775807) (n0 : -9223372036854775808 ≤ n) (n1 : n ≤ 9223372036854775807) :
    Calls Tryz.prog 232 #[.int .i64 f, .int .i64 l, .int .i64 k, .int .i64 n] w fun e w' => e = .returned (.int .i64 (guessI f l k n)) ∧ Drawn w w' := by
  by_cases h1 : n < 2
  · have H := Lib.hid (guessI_none (f := f) (l := l) (k := k) (n := n) (.inl h1))
    go_enter Tryz.func232, Tryz.ntmps232
    go_wp2_with (fail)
    go_ret
    exact ⟨ret_int H.out.symm, Drawn.refl _⟩
  · by_cases h2 : 65536 < n
    · have H := Lib.hid (guessI_none (f := f) (l := l) (k := k) (n := n) (.inr (.inl h2)))
      go_enter Tryz.func232, Tryz.ntmps232
      go_wp2_with (fail)
      go_ret
      exact ⟨ret_int H.out.symm, Drawn.refl _⟩
    · by_cases h3 : k < f
      · have H := Lib.hid (guessI_none (f := f) (l := l) (k := k) (n := n) (.inr (.inr (.inl h3))))
        go_enter Tryz.func232, Tryz.ntmps232
        go_wp2_with (fail)
        go_ret
        exact ⟨ret_int H.out.symm, Drawn.refl _⟩
      · by_cases h4 : l ≤ k
        · have H := Lib.hid (guessI_none (f := f) (l := l) (k := k) (n := n) (.inr (.inr (.inr h4))))
          go_enter Tryz.func232, Tryz.ntmps232
          go_wp2_with (fail)
          go_ret
          exact ⟨ret_int H.out.symm, Drawn.refl _⟩
        · have H := Lib.hid (guessI_in (f := f) (l := l) (k := k) (n := n) (by omega))
          obtain ⟨g0, g1⟩ := gapI_bd (a := f) (b := k) (by omega) (by omega)
          obtain ⟨g2, g3⟩ := gapI_bd (a := f) (b := l) (by omega) (by omega)
          obtain ⟨s0, s1⟩ := share_lt (p := gapI f k) (x := gapI f l) (n := n - 1) (by omega) (by unfold gapI; rw [if_neg (by omega), if_neg (by omega)]; omega) (by omega) (by omega)
          go_enter Tryz.func232, Tryz.ntmps232
          go_wp2_with (first | (go_at_call 261; refine (refgap_any _ _ _ (by omega) (by omega) (by omega) (by omega)).mono ?_; rintro e w' ⟨rfl, rfl⟩) | (go_at_call 260; refine (refshare_any _ _ _ _ (by omega) (by omega) (by omega) (by omega) (by omega) (by omega)).mono ?_; rintro e w' ⟨rfl, rfl⟩))
          go_ret
          exact ⟨ret_int H.out.symm, Drawn.refl _⟩

theorem cntTo_step (q : List Int) (k : Int) (i : Nat) : (cntTo q k (i + 1) : Int) = cntTo q k i + if keyAt q i ≤ k then 1 else 0 := by
  rw [cntTo]; split <;> omega

end Go.Proofs.YtblajeildolloaaGreat

/- The walks of probe.Path and of the reference's. -/
namespace Go.Proofs.YtblajeildolloaaGreat
set_option linter.unusedVariables false
set_option linter.unusedSimpArgs false
open Go.RowKit

theorem IntsAt.of_own {w : World} {base : Nat} {e : TypeId} {A : Option Addr} {n c : Nat} {l : List Int} (h : w.ownsRow base e 1 (.slice A n c) n (l.map (Value.int .i64))) : n = l.length ∧ IntsAt w w.heap.size A l := by
  have hn : n = l.length := by have := h.1; simp at this; omega
  subst hn
  exact ⟨rfl, Reads.of_own h⟩
theorem quiet_add {P : Program} {f : FuncId} {args : Array Value} {w : World} {a n : Nat} {v : Value}
    (h : Calls P f args (w.drewN (a + n)) fun e w' => e = .returned v ∧ ∃ m, w' = (w.drewN (a + n)).drewN m) :
    Calls P f args (w.drewN (a + n)) fun e w'' => e = .returned v ∧ ∃ m, w'' = w.drewN (a + m) :=
  h.mono fun _ _ ⟨he, m, hm⟩ => ⟨he, n + m, by rw [hm, World.drewN_drewN, Nat.add_assoc]⟩
theorem quiet_add_same {P : Program} {f : FuncId} {args : Array Value} {w : World} {a n : Nat} {v : Value}
    (h : Calls P f args (w.drewN (a + n)) fun e w' => e = .returned v ∧ w' = w.drewN (a + n)) :
    Calls P f args (w.drewN (a + n)) fun e w'' => e = .returned v ∧ ∃ m, w'' = w.drewN (a + m) :=
  h.mono fun _ _ ⟨he, hm⟩ => ⟨he, n, hm⟩
theorem quiet_add_left {P : Program} {f : FuncId} {args : Array Value} {w : World} {a n : Nat} {v : Value}
    (h : Calls P f args (w.drewN (a + n)) fun e w' => e = .returned v ∧ w.drewN (a + n) = w') :
    Calls P f args (w.drewN (a + n)) fun e w'' => e = .returned v ∧ ∃ m, w'' = w.drewN (a + m) :=
  h.mono fun _ _ ⟨he, hm⟩ => ⟨he, n, hm.symm⟩
theorem add_zero' (a : Addr) : a.add 0 = a := by simp [Addr.add]
/-- A list of whole numbers comes back, in new memory. -/
def SomeInts (l : List Int) (w : World) (e : Ending) (w' : World) : Prop := ∃ A c, e = .returned (.slice A l.length c) ∧ IntsAt w' w'.heap.size A l ∧ Below w.heap.size w w'
theorem SomeInts.of_own {l : List Int} {w w' : World} {base : Nat} {et : TypeId} {v : Value} {n : Nat} (h : w'.ownsRow base et 1 v n (l.map (Value.int .i64))) (hb : Below w.heap.size w w') : SomeInts l w (.returned v) w' := by
  have hn : n = l.length := by have := h.1; simp at this; omega
  subst hn
  rcases h.2 with ⟨rfl, h0⟩ | ⟨g, cap, cur, rfl, _⟩
  · refine ⟨none, 0, by rw [h0], ?_, hb⟩
    have : l = [] := List.eq_nil_of_length_eq_zero h0
    subst this
    exact Reads.none_
  · exact ⟨_, cap, rfl, (IntsAt.of_own h).2, hb⟩
theorem SomeInts.nil {w w' : World} (hb : Below w.heap.size w w') : SomeInts [] w (.returned (.slice none 0 0)) w' := ⟨none, 0, rfl, Reads.none_, hb⟩

theorem info_int : (Tryz.prog.info? 3).map (fun i => (i.zero, i.size, i.bytes)) = some (some (.int .i64 0), 1, 8) := by kernel_rfl





def restP (q : List Int) (k : Int) (j : Nat) : List Int := if keyAt q (j - 1) ≤ k then upP q k q.length (j + 1) else downP q k (j - 1)


def UpRel (q : List Int) (k : Int) (j : Nat) (w : World) (v i : Value) (wr : World) : Prop := ∃ (x d : Nat) (L : List Int), 1 ≤ x ∧ x ≤ q.length ∧ q.length ≤ d + x ∧ L.length ≤ x + 2 ∧ i = .int .i64 x ∧ wr.ownsRow w.heap.size 3 1 v L.length (L.map (Value.int .i64)) ∧ Hid (L ++ upP q k d x = baseP q k ++ restP q k j) ∧ Below w.heap.size w wr
def DownRel (q : List Int) (k : Int) (j : Nat) (w : World) (v i : Value) (wr : World) : Prop := ∃ (x : Nat) (L : List Int), x < q.length ∧ L.length + x ≤ q.length + 2 ∧ i = .int .i64 x ∧ wr.ownsRow w.heap.size 3 1 v L.length (L.map (Value.int .i64)) ∧ Hid (L ++ downP q k x = baseP q k ++ restP q k j) ∧ Below w.heap.size w wr


end Go.Proofs.YtblajeildolloaaGreat

/- Place, Put, Wide: lists of pairs. -/
namespace Go.Proofs.YtblajeildolloaaGreat
set_option linter.unusedVariables false
set_option linter.unusedSimpArgs false
open Go.RowKit

def cellsP (L : List (Int × Int)) : List Value := L.flatMap fun p => [.int .i64 p.1, .int .i64 p.2]
theorem cellsP_len : ∀ L, (cellsP L).length = L.length * 2
  | [] => rfl
  | p :: L => by
    have := cellsP_len L
    simp [cellsP] at this ⊢
    omega
theorem cellsP_append (a b : List (Int × Int)) : cellsP (a ++ b) = cellsP a ++ cellsP b := by simp [cellsP]
def pkey (L : List (Int × Int)) (i : Nat) : Int := (L.getD i (0, 0)).1
def PairsAt (w : World) (B : Nat) (A : Option Addr) (L : List (Int × Int)) : Prop := Reads w B 2 A L.length (cellsP L)
theorem cellsP_key : ∀ {L : List (Int × Int)} {i : Nat}, i < L.length → (cellsP L)[i * 2]? = some (.int .i64 (pkey L i))
  | [], i, h => absurd h (by simp)
  | p :: L, 0, h => by simp [cellsP, pkey]
  | p :: L, i + 1, h => by
    have := cellsP_key (L := L) (i := i) (by simpa using h)
    have e : (i + 1) * 2 = i * 2 + 1 + 1 := by omega
    rw [e]
    simp [cellsP, pkey] at this ⊢
    exact this
theorem PairsAt.key {w : World} {B : Nat} {A : Option Addr} {L : List (Int × Int)} (h : PairsAt w B A L) (hl : 0 < L.length) : ∃ ad, A = some ad ∧ ad.block < B ∧ ∀ i, i < L.length → w.cell? (ad.add (i * 2)) = some (.int .i64 (pkey L i)) := by
  obtain ⟨ad, e, hb, hc⟩ := h.2 hl
  exact ⟨ad, e, hb, fun i hi => hc _ _ (cellsP_key hi)⟩

/-- How many keys at the front are below k. -/
def placeP : List (Int × Int) → Int → Nat
  | [], _ => 0
  | p :: L, k => if p.1 < k then placeP L k + 1 else 0
theorem placeP_le : ∀ (L : List (Int × Int)) (k : Int), placeP L k ≤ L.length
  | [], k => Nat.le_refl _
  | p :: L, k => by
    have := placeP_le L k
    simp only [placeP, List.length_cons]
    split <;> omega
theorem placeP_at {k : Int} : ∀ {L : List (Int × Int)} {i : Nat}, i ≤ L.length → (∀ x, x < i → pkey L x < k) → (i < L.length → ¬ pkey L i < k) → placeP L k = i
  | [], i, h, _, _ => by simp at h; simp [placeP, h]
  | p :: L, 0, h, h1, h2 => by
    have := h2 (by simp)
    simp [pkey] at this
    simp only [placeP]
    rw [if_neg (by omega)]
  | p :: L, i + 1, h, h1, h2 => by
    have a := h1 0 (by omega)
    simp [pkey] at a
    simp only [placeP]
    rw [if_pos a, placeP_at (L := L) (i := i) (by simpa using h) (fun x hx => by have := h1 (x + 1) (by omega); simpa [pkey] using this) (fun hi => by have := h2 (by simpa using hi); simpa [pkey] using this)]

set_option maxHeartbeats 2000000 in
set_option maxRecDepth 100000 in
theorem place_any (A : Option Addr) (c : Nat) (L : List (Int × Int)) (k : Int) (w : World) (hq : PairsAt w w.heap.size A L) (hl : L.length ≤ 80) :
    Calls Tryz.prog 126 #[.slice A L.length c, .int .i64 k] w fun e w' => e = .returned (.int .i64 (placeP L k)) ∧ Drawn w w' := by
  have HQ := Lib.hid hq
  clear hq
  go_enter Tryz.func126, Tryz.ntmps126
  go_wp2_with (fail)
  go_loopw [5] (fun u wr => ∃ (i m : Nat), i ≤ L.length ∧ u = .int .i64 i ∧ Hid (∀ x, x < i → pkey L x < k) ∧ wr = w.drewN m) (fun u _ => L.length - (intOf u).toNat)
  case atStart => exact ⟨0, 0, by omega, rfl, Lib.hid (fun x h => absurd h (by omega)), rfl⟩
  case round =>
    obtain ⟨i, m, i1, rfl, hlow, rfl⟩ := hrel
    by_cases hlt : i < L.length
    · obtain ⟨ad, rfl, hbl, hc⟩ := PairsAt.key HQ.out (by omega)
      have hcell : (w.drewN m).cell? (ad.add (i * 2)) = some (.int .i64 (pkey L i)) := hc i hlt
      clear hc
      by_cases hk : pkey L i < k
      · go_wp2_with (fail)
        go_roundw
        case rel => exact ⟨i + 1, m, by omega, by go_num, Lib.hid (fun x h => by
          by_cases e : x = i
          · subst e; exact hk
          · exact hlow.out x (by omega)), rfl⟩
        case measure => simp [intOf]; omega
      · have E := Lib.hid (placeP_at i1 hlow.out (fun _ => hk))
        go_wp2_with (fail)
        go_ret
        rw [E.out]
        exact ⟨rfl, ⟨_, rfl⟩⟩
    · have E := Lib.hid (placeP_at (k := k) i1 hlow.out (fun h => absurd h hlt))
      go_wp2_with (fail)
      go_ret
      rw [E.out]
      exact ⟨rfl, ⟨_, rfl⟩⟩

/-! ### Put -/
def putP (L : List (Int × Int)) (k v : Int) : List (Int × Int) := L.take (placeP L k) ++ [(k, v)] ++ L.drop (if placeP L k < L.length ∧ pkey L (placeP L k) = k then placeP L k + 1 else placeP L k)
def SomePairs (L : List (Int × Int)) (w : World) (e : Ending) (w' : World) : Prop := ∃ A c, e = .returned (.slice A L.length c) ∧ L.length ≤ c ∧ PairsAt w' w'.heap.size A L ∧ Below w.heap.size w w'
theorem PairsAt.take {w : World} {B : Nat} {A : Option Addr} {L : List (Int × Int)} {n : Nat} (h : PairsAt w B A L) (hn : n ≤ L.length) : Reads w B 2 A n (cellsP (L.take n)) := by
  refine ⟨by rw [cellsP_len, List.length_take]; omega, fun h0 => ?_⟩
  obtain ⟨ad, e, hb, hc⟩ := h.2 (by omega)
  refine ⟨ad, e, hb, fun j u hu => hc j u ?_⟩
  have := cellsP_append (L.take n) (L.drop n)
  rw [List.take_append_drop] at this
  rw [this, List.getElem?_append_left]
  · exact hu
  · rcases Nat.lt_or_ge j (cellsP (L.take n)).length with g | g
    · exact g
    · rw [List.getElem?_eq_none g] at hu; cases hu
theorem cellsP_drop : ∀ (L : List (Int × Int)) (n : Nat), (cellsP L).drop (n * 2) = cellsP (L.drop n)
  | L, 0 => by simp
  | [], n + 1 => by simp [cellsP]
  | p :: L, n + 1 => by
    have := cellsP_drop L n
    have e : (n + 1) * 2 = n * 2 + 1 + 1 := by omega
    rw [e]
    simp [cellsP] at this ⊢
    exact this
theorem cellsP_one {L : List (Int × Int)} : ∀ u ∈ cellsP L, u.oneCell' = true := by
  intro u hu
  simp [cellsP] at hu
  obtain ⟨a, b, _, rfl | rfl⟩ := hu <;> simp [Value.oneCell']
theorem info_pair : (Tryz.prog.info? 52).map (fun i => (i.zero, i.size, i.bytes)) = some (some (.agg #[.int .i64 0, .int .i64 0]), 2, 16) := by kernel_rfl
theorem run_storeCells_nil {P : Program} {w : World} (a : Addr) : (storeCells a []).run P w = .ok () w := by simp [storeCells]
theorem reads_pair (w : World) (t : TypeId) (a b : Value) : Reads (w.alloc (.cells #[a, b] t)) (w.heap.size + 1) 2 (some ⟨w.heap.size, 0, none⟩) 1 [a, b] := by
  refine ⟨rfl, fun _ => ⟨_, rfl, Nat.lt_succ_self _, fun j u hu => ?_⟩⟩
  rcases j with _ | _ | j
  · simp at hu; subst hu; rw [add_zero', World.cell?_alloc_at _ _ _ _ rfl] <;> rfl
  · simp at hu; subst hu; simp [Addr.add]; try (rw [World.cell?_alloc_at _ _ _ _ rfl] <;> rfl)
  · simp at hu

theorem PairsAt.keyAt {w : World} {B : Nat} {ad : Addr} {L : List (Int × Int)} (h : PairsAt w B (some ad) L) {i : Nat} (hi : i < L.length) : w.cell? (ad.add (i * 2)) = some (.int .i64 (pkey L i)) := by
  obtain ⟨ad', e, hb, hc⟩ := PairsAt.key h (by omega)
  injection e with e
  subst e
  exact hc i hi
theorem SomePairs.of_own {L : List (Int × Int)} {w w' : World} {base : Nat} {et : TypeId} {v : Value} {n : Nat} (h : w'.ownsRow base et 2 v n (cellsP L)) (hb : Below w.heap.size w w') : SomePairs L w (.returned v) w' := by
  have hn : n = L.length := by have := h.1; rw [cellsP_len] at this; omega
  subst hn
  rcases h.2 with ⟨rfl, h0⟩ | ⟨g, cap, cur, rfl, _, _, hle, _⟩
  · have : L = [] := List.eq_nil_of_length_eq_zero h0
    subst this
    exact ⟨none, 0, rfl, Nat.le_refl _, Reads.none_, hb⟩
  · exact ⟨_, cap, rfl, hle, Reads.of_own h, hb⟩
theorem PairsAt.cut {w : World} {B n : Nat} {ad : Addr} {L : List (Int × Int)} (h : PairsAt w B (some ad) L) (hn : n ≤ L.length) : Reads w B 2 (some (ad.add (n * 2))) (L.length - n) (cellsP (L.drop n)) := by
  have := Reads.cut h (k := n) (cap := L.length + n + 1) hn (by omega)
  rw [if_neg (by omega), cellsP_drop] at this
  exact this
theorem PairsAt.cut0 {w : World} {B n : Nat} {A : Option Addr} {L : List (Int × Int)} (h : PairsAt w B A L) (hn : n ≤ L.length) (he : L.length ≤ n) : Reads w B 2 A (L.length - n) (cellsP (L.drop n)) := by
  have e : L.length - n = 0 := by omega
  rw [e, List.drop_eq_nil_of_le he]
  exact ⟨rfl, fun h => absurd h (by omega)⟩
theorem put_cells {L : List (Int × Int)} {k v : Int} {n : Nat} (h : (if placeP L k < L.length ∧ pkey L (placeP L k) = k then placeP L k + 1 else placeP L k) = n) : cellsP (L.take (placeP L k)) ++ [.int .i64 k, .int .i64 v] ++ cellsP (L.drop n) = cellsP (putP L k v) := by
  subst h
  unfold putP
  simp [cellsP_append, cellsP]

section
attribute [local go_sem] run_storeCells_nil Sem.run_pure Array.toList_empty
set_option maxHeartbeats 4000000 in
set_option maxRecDepth 100000 in
theorem put_any (A : Option Addr) (c : Nat) (L : List (Int × Int)) (k v : Int) (w : World) (hq : PairsAt w w.heap.size A L) (hl : L.length ≤ 80) (hc : L.length ≤ c) :
    Calls Tryz.prog 87 #[.slice A L.length c, .int .i64 k, .int .i64 v] w (SomePairs (putP L k v) w) := by
  obtain ⟨i0, hi0, hz0, hz1, hz2⟩ := info_parts info_pair
  have hn := placeP_le L k
  have e1 : ((placeP L k : Int) + 1).toNat = placeP L k + 1 := by omega
  rcases A with _ | ad
  · have hL : L = [] := by
      rcases Nat.eq_zero_or_pos L.length with g | g
      · exact List.eq_nil_of_length_eq_zero g
      · obtain ⟨ad, h, _⟩ := hq.2 g
        cases h
    subst hL
    have ep : placeP [] k = 0 := rfl
    have HE := Lib.hid (show putP [] k v = [(k, v)] from rfl)
    clear e1
    go_enter Tryz.func87, Tryz.ntmps87
    go_wp2_with (fail)
    refine (place_any none c [] k w hq hl).mono ?_
    rintro e V1 ⟨rfl, hd⟩
    have hge := (drawn_facts hd).2
    have hB1 := (drawn_facts hd).1
    clear hq hd
    rw [ep]
    have hc0 : 0 ≤ c := hc
    go_wp2_with (first | (at_builtin; refine wpList_append_any _ rfl _ _ 40 rfl w.heap.size 52 i0 (.agg #[.int .i64 0, .int .i64 0]) 2 16 Tryz.underlying40 hi0 hz0 hz1 hz2 rfl (by decide) _ 0 [] rfl (World.ownsRow_lit V1 #[] 0 (by omega) (by simp [maxLen]) rfl) w.heap.size none 0 _ [] rfl Reads.none_ (by simp) (by simp only [maxLen]; omega) (by omega) (by simp; omega) ?_; intro v1 W1 hown1 hg1 hb1; clear hb1; simp only [Nat.zero_add, List.nil_append] at hown1; have hB2 : Below w.heap.size w W1 := (hB1.alloc (by omega) _).grown hg1 (by simp; omega) (fun g hg => by injection hg with hg; subst hg; exact hge); clear hg1; have hz1' := hB2.size) | (at_builtin; refine wpList_append_any _ rfl _ _ 40 rfl w.heap.size 52 i0 (.agg #[.int .i64 0, .int .i64 0]) 2 16 Tryz.underlying40 hi0 hz0 hz1 hz2 rfl (by decide) v1 0 [] rfl (hown1.alloc _) (W1.heap.size + 1) (some ⟨W1.heap.size, 0, none⟩) 1 1 [.int .i64 k, .int .i64 v] rfl (reads_pair _ _ _ _) (by simp [Value.oneCell']) (by simp only [maxLen]; omega) (by omega) (by simp; omega) ?_; intro v2 W2 hown2 hg2 hb2; clear hb2; simp only [Nat.zero_add, List.nil_append] at hown2; have hB3 : Below w.heap.size w W2 := (hB2.alloc hz1' _).grown hg2 (by simp; omega) (fun g hg => (hown1.lt g hg).1); clear hg2; have hz2' := hB3.size) | (at_builtin; refine wpList_append_any _ rfl _ _ 40 rfl w.heap.size 52 i0 (.agg #[.int .i64 0, .int .i64 0]) 2 16 Tryz.underlying40 hi0 hz0 hz1 hz2 rfl (by decide) v2 1 [.int .i64 k, .int .i64 v] rfl hown2 w.heap.size none 0 _ [] rfl Reads.none_ (by simp) (by simp only [maxLen]; omega) (by omega) (by omega) ?_; intro v3 W3 hown3 hg3 hb3; clear hb3; have hB4 : Below w.heap.size w W3 := hB3.grown hg3 (by omega) (fun g hg => (hown2.lt g hg).1); clear hg3))
    all_goals go_ret
    all_goals exact SomePairs.of_own (L := putP [] k v) (by rw [HE.out]; exact hown3) hB4
  go_enter Tryz.func87, Tryz.ntmps87
  go_wp2_with (fail)
  refine (place_any (some ad) c L k w hq hl).mono ?_
  rintro e V1 ⟨rfl, hd⟩
  have hge := (drawn_facts hd).2
  have hB1 := (drawn_facts hd).1
  have HQ := Lib.hid hq
  clear hq hd
  by_cases hlt : placeP L k < L.length
  · by_cases hk : pkey L (placeP L k) = k
    · have E := Lib.hid (put_cells (L := L) (k := k) (v := v) (n := placeP L k + 1) (if_pos ⟨hlt, hk⟩))
      have hk' : (pkey L (placeP L k) == k) = true := by simpa using hk
      by_cases hcn : c = placeP L k + 1
      · go_wp2_with (first | (at_builtin; refine wpList_append_any _ rfl _ _ 40 rfl w.heap.size 52 i0 (.agg #[.int .i64 0, .int .i64 0]) 2 16 Tryz.underlying40 hi0 hz0 hz1 hz2 rfl (by decide) _ 0 [] rfl (World.ownsRow_lit V1 #[] 0 (by omega) (by simp [maxLen]) rfl) w.heap.size _ _ _ (cellsP (L.take (placeP L k))) rfl ((PairsAt.take (Reads.below HQ.out hB1) hn).alloc (by omega) _) cellsP_one (by simp only [maxLen]; omega) (by omega) (by simp; omega) ?_; intro v1 W1 hown1 hg1 hb1; clear hb1; simp only [Nat.zero_add, List.nil_append] at hown1; have hB2 : Below w.heap.size w W1 := (hB1.alloc (by omega) _).grown hg1 (by simp; omega) (fun g hg => by injection hg with hg; subst hg; exact hge); clear hg1; have hz1' := hB2.size) | (at_builtin; refine wpList_append_any _ rfl _ _ 40 rfl w.heap.size 52 i0 (.agg #[.int .i64 0, .int .i64 0]) 2 16 Tryz.underlying40 hi0 hz0 hz1 hz2 rfl (by decide) v1 (placeP L k) (cellsP (L.take (placeP L k))) rfl (hown1.alloc _) (W1.heap.size + 1) (some ⟨W1.heap.size, 0, none⟩) 1 1 [.int .i64 k, .int .i64 v] rfl (reads_pair _ _ _ _) (by simp [Value.oneCell']) (by simp only [maxLen]; omega) (by omega) (by simp; omega) ?_; intro v2 W2 hown2 hg2 hb2; clear hb2; have hB3 : Below w.heap.size w W2 := (hB2.alloc hz1' _).grown hg2 (by simp; omega) (fun g hg => (hown1.lt g hg).1); clear hg2; have hz2' := hB3.size; have hcell := PairsAt.keyAt (Reads.below HQ.out hB3) hlt) | (at_builtin; have HR3 : Reads W2 w.heap.size 2 (some ad) (L.length - (placeP L k + 1)) (cellsP (L.drop (placeP L k + 1))) := PairsAt.cut0 (Reads.below HQ.out hB3) (by omega) (by omega); refine wpList_append_any _ rfl _ _ 40 rfl w.heap.size 52 i0 (.agg #[.int .i64 0, .int .i64 0]) 2 16 Tryz.underlying40 hi0 hz0 hz1 hz2 rfl (by decide) v2 (placeP L k + 1) (cellsP (L.take (placeP L k)) ++ [.int .i64 k, .int .i64 v]) rfl hown2 w.heap.size (some ad) (L.length - (placeP L k + 1)) _ (cellsP (L.drop (placeP L k + 1))) rfl HR3 cellsP_one (by simp only [maxLen]; omega) (by omega) (by omega) ?_; intro v3 W3 hown3 hg3 hb3; clear hb3; have hB4 : Below w.heap.size w W3 := hB3.grown hg3 (by omega) (fun g hg => (hown2.lt g hg).1); clear hg3))
        go_ret
        rw [E.out] at hown3
        exact SomePairs.of_own hown3 hB4
      · go_wp2_with (first | (at_builtin; refine wpList_append_any _ rfl _ _ 40 rfl w.heap.size 52 i0 (.agg #[.int .i64 0, .int .i64 0]) 2 16 Tryz.underlying40 hi0 hz0 hz1 hz2 rfl (by decide) _ 0 [] rfl (World.ownsRow_lit V1 #[] 0 (by omega) (by simp [maxLen]) rfl) w.heap.size _ _ _ (cellsP (L.take (placeP L k))) rfl ((PairsAt.take (Reads.below HQ.out hB1) hn).alloc (by omega) _) cellsP_one (by simp only [maxLen]; omega) (by omega) (by simp; omega) ?_; intro v1 W1 hown1 hg1 hb1; clear hb1; simp only [Nat.zero_add, List.nil_append] at hown1; have hB2 : Below w.heap.size w W1 := (hB1.alloc (by omega) _).grown hg1 (by simp; omega) (fun g hg => by injection hg with hg; subst hg; exact hge); clear hg1; have hz1' := hB2.size) | (at_builtin; refine wpList_append_any _ rfl _ _ 40 rfl w.heap.size 52 i0 (.agg #[.int .i64 0, .int .i64 0]) 2 16 Tryz.underlying40 hi0 hz0 hz1 hz2 rfl (by decide) v1 (placeP L k) (cellsP (L.take (placeP L k))) rfl (hown1.alloc _) (W1.heap.size + 1) (some ⟨W1.heap.size, 0, none⟩) 1 1 [.int .i64 k, .int .i64 v] rfl (reads_pair _ _ _ _) (by simp [Value.oneCell']) (by simp only [maxLen]; omega) (by omega) (by simp; omega) ?_; intro v2 W2 hown2 hg2 hb2; clear hb2; have hB3 : Below w.heap.size w W2 := (hB2.alloc hz1' _).grown hg2 (by simp; omega) (fun g hg => (hown1.lt g hg).1); clear hg2; have hz2' := hB3.size; have hcell := PairsAt.keyAt (Reads.below HQ.out hB3) hlt) | (at_builtin; have HR3 : Reads W2 w.heap.size 2 (some (ad.add ((placeP L k + 1) * 2))) (L.length - (placeP L k + 1)) (cellsP (L.drop (placeP L k + 1))) := PairsAt.cut (Reads.below HQ.out hB3) (by omega); refine wpList_append_any _ rfl _ _ 40 rfl w.heap.size 52 i0 (.agg #[.int .i64 0, .int .i64 0]) 2 16 Tryz.underlying40 hi0 hz0 hz1 hz2 rfl (by decide) v2 (placeP L k + 1) (cellsP (L.take (placeP L k)) ++ [.int .i64 k, .int .i64 v]) rfl hown2 w.heap.size (some (ad.add ((placeP L k + 1) * 2))) (L.length - (placeP L k + 1)) _ (cellsP (L.drop (placeP L k + 1))) rfl HR3 cellsP_one (by simp only [maxLen]; omega) (by omega) (by omega) ?_; intro v3 W3 hown3 hg3 hb3; clear hb3; have hB4 : Below w.heap.size w W3 := hB3.grown hg3 (by omega) (fun g hg => (hown2.lt g hg).1); clear hg3))
        go_ret
        rw [E.out] at hown3
        exact SomePairs.of_own hown3 hB4
    · have E := Lib.hid (put_cells (L := L) (k := k) (v := v) (n := placeP L k) (if_neg fun h => hk h.2))
      have hk' : (pkey L (placeP L k) == k) = false := by simpa using hk
      have hcn : ¬ c = placeP L k := by omega
      · go_wp2_with (first | (at_builtin; refine wpList_append_any _ rfl _ _ 40 rfl w.heap.size 52 i0 (.agg #[.int .i64 0, .int .i64 0]) 2 16 Tryz.underlying40 hi0 hz0 hz1 hz2 rfl (by decide) _ 0 [] rfl (World.ownsRow_lit V1 #[] 0 (by omega) (by simp [maxLen]) rfl) w.heap.size _ _ _ (cellsP (L.take (placeP L k))) rfl ((PairsAt.take (Reads.below HQ.out hB1) hn).alloc (by omega) _) cellsP_one (by simp only [maxLen]; omega) (by omega) (by simp; omega) ?_; intro v1 W1 hown1 hg1 hb1; clear hb1; simp only [Nat.zero_add, List.nil_append] at hown1; have hB2 : Below w.heap.size w W1 := (hB1.alloc (by omega) _).grown hg1 (by simp; omega) (fun g hg => by injection hg with hg; subst hg; exact hge); clear hg1; have hz1' := hB2.size) | (at_builtin; refine wpList_append_any _ rfl _ _ 40 rfl w.heap.size 52 i0 (.agg #[.int .i64 0, .int .i64 0]) 2 16 Tryz.underlying40 hi0 hz0 hz1 hz2 rfl (by decide) v1 (placeP L k) (cellsP (L.take (placeP L k))) rfl (hown1.alloc _) (W1.heap.size + 1) (some ⟨W1.heap.size, 0, none⟩) 1 1 [.int .i64 k, .int .i64 v] rfl (reads_pair _ _ _ _) (by simp [Value.oneCell']) (by simp only [maxLen]; omega) (by omega) (by simp; omega) ?_; intro v2 W2 hown2 hg2 hb2; clear hb2; have hB3 : Below w.heap.size w W2 := (hB2.alloc hz1' _).grown hg2 (by simp; omega) (fun g hg => (hown1.lt g hg).1); clear hg2; have hz2' := hB3.size; have hcell := PairsAt.keyAt (Reads.below HQ.out hB3) hlt) | (at_builtin; have HR3 : Reads W2 w.heap.size 2 (some (ad.add ((placeP L k) * 2))) (L.length - (placeP L k)) (cellsP (L.drop (placeP L k))) := PairsAt.cut (Reads.below HQ.out hB3) (by omega); refine wpList_append_any _ rfl _ _ 40 rfl w.heap.size 52 i0 (.agg #[.int .i64 0, .int .i64 0]) 2 16 Tryz.underlying40 hi0 hz0 hz1 hz2 rfl (by decide) v2 (placeP L k + 1) (cellsP (L.take (placeP L k)) ++ [.int .i64 k, .int .i64 v]) rfl hown2 w.heap.size (some (ad.add ((placeP L k) * 2))) (L.length - (placeP L k)) _ (cellsP (L.drop (placeP L k))) rfl HR3 cellsP_one (by simp only [maxLen]; omega) (by omega) (by omega) ?_; intro v3 W3 hown3 hg3 hb3; clear hb3; have hB4 : Below w.heap.size w W3 := hB3.grown hg3 (by omega) (fun g hg => (hown2.lt g hg).1); clear hg3))
        go_ret
        rw [E.out] at hown3
        exact SomePairs.of_own hown3 hB4
  · have E := Lib.hid (put_cells (L := L) (k := k) (v := v) (n := placeP L k) (if_neg fun h => hlt h.1))
    by_cases hcn : c = placeP L k
    · go_wp2_with (first | (at_builtin; refine wpList_append_any _ rfl _ _ 40 rfl w.heap.size 52 i0 (.agg #[.int .i64 0, .int .i64 0]) 2 16 Tryz.underlying40 hi0 hz0 hz1 hz2 rfl (by decide) _ 0 [] rfl (World.ownsRow_lit V1 #[] 0 (by omega) (by simp [maxLen]) rfl) w.heap.size _ _ _ (cellsP (L.take (placeP L k))) rfl ((PairsAt.take (Reads.below HQ.out hB1) hn).alloc (by omega) _) cellsP_one (by simp only [maxLen]; omega) (by omega) (by simp; omega) ?_; intro v1 W1 hown1 hg1 hb1; clear hb1; simp only [Nat.zero_add, List.nil_append] at hown1; have hB2 : Below w.heap.size w W1 := (hB1.alloc (by omega) _).grown hg1 (by simp; omega) (fun g hg => by injection hg with hg; subst hg; exact hge); clear hg1; have hz1' := hB2.size) | (at_builtin; refine wpList_append_any _ rfl _ _ 40 rfl w.heap.size 52 i0 (.agg #[.int .i64 0, .int .i64 0]) 2 16 Tryz.underlying40 hi0 hz0 hz1 hz2 rfl (by decide) v1 (placeP L k) (cellsP (L.take (placeP L k))) rfl (hown1.alloc _) (W1.heap.size + 1) (some ⟨W1.heap.size, 0, none⟩) 1 1 [.int .i64 k, .int .i64 v] rfl (reads_pair _ _ _ _) (by simp [Value.oneCell']) (by simp only [maxLen]; omega) (by omega) (by simp; omega) ?_; intro v2 W2 hown2 hg2 hb2; clear hb2; have hB3 : Below w.heap.size w W2 := (hB2.alloc hz1' _).grown hg2 (by simp; omega) (fun g hg => (hown1.lt g hg).1); clear hg2; have hz2' := hB3.size) | (at_builtin; have HR3 : Reads W2 w.heap.size 2 (some ad) (L.length - (placeP L k)) (cellsP (L.drop (placeP L k))) := PairsAt.cut0 (Reads.below HQ.out hB3) (by omega) (by omega); refine wpList_append_any _ rfl _ _ 40 rfl w.heap.size 52 i0 (.agg #[.int .i64 0, .int .i64 0]) 2 16 Tryz.underlying40 hi0 hz0 hz1 hz2 rfl (by decide) v2 (placeP L k + 1) (cellsP (L.take (placeP L k)) ++ [.int .i64 k, .int .i64 v]) rfl hown2 w.heap.size (some ad) (L.length - (placeP L k)) _ (cellsP (L.drop (placeP L k))) rfl HR3 cellsP_one (by simp only [maxLen]; omega) (by omega) (by omega) ?_; intro v3 W3 hown3 hg3 hb3; clear hb3; have hB4 : Below w.heap.size w W3 := hB3.grown hg3 (by omega) (fun g hg => (hown2.lt g hg).1); clear hg3))
      go_ret
      rw [E.out] at hown3
      exact SomePairs.of_own hown3 hB4
    · go_wp2_with (first | (at_builtin; refine wpList_append_any _ rfl _ _ 40 rfl w.heap.size 52 i0 (.agg #[.int .i64 0, .int .i64 0]) 2 16 Tryz.underlying40 hi0 hz0 hz1 hz2 rfl (by decide) _ 0 [] rfl (World.ownsRow_lit V1 #[] 0 (by omega) (by simp [maxLen]) rfl) w.heap.size _ _ _ (cellsP (L.take (placeP L k))) rfl ((PairsAt.take (Reads.below HQ.out hB1) hn).alloc (by omega) _) cellsP_one (by simp only [maxLen]; omega) (by omega) (by simp; omega) ?_; intro v1 W1 hown1 hg1 hb1; clear hb1; simp only [Nat.zero_add, List.nil_append] at hown1; have hB2 : Below w.heap.size w W1 := (hB1.alloc (by omega) _).grown hg1 (by simp; omega) (fun g hg => by injection hg with hg; subst hg; exact hge); clear hg1; have hz1' := hB2.size) | (at_builtin; refine wpList_append_any _ rfl _ _ 40 rfl w.heap.size 52 i0 (.agg #[.int .i64 0, .int .i64 0]) 2 16 Tryz.underlying40 hi0 hz0 hz1 hz2 rfl (by decide) v1 (placeP L k) (cellsP (L.take (placeP L k))) rfl (hown1.alloc _) (W1.heap.size + 1) (some ⟨W1.heap.size, 0, none⟩) 1 1 [.int .i64 k, .int .i64 v] rfl (reads_pair _ _ _ _) (by simp [Value.oneCell']) (by simp only [maxLen]; omega) (by omega) (by simp; omega) ?_; intro v2 W2 hown2 hg2 hb2; clear hb2; have hB3 : Below w.heap.size w W2 := (hB2.alloc hz1' _).grown hg2 (by simp; omega) (fun g hg => (hown1.lt g hg).1); clear hg2; have hz2' := hB3.size) | (at_builtin; have HR3 : Reads W2 w.heap.size 2 (some (ad.add ((placeP L k) * 2))) (L.length - (placeP L k)) (cellsP (L.drop (placeP L k))) := PairsAt.cut (Reads.below HQ.out hB3) (by omega); refine wpList_append_any _ rfl _ _ 40 rfl w.heap.size 52 i0 (.agg #[.int .i64 0, .int .i64 0]) 2 16 Tryz.underlying40 hi0 hz0 hz1 hz2 rfl (by decide) v2 (placeP L k + 1) (cellsP (L.take (placeP L k)) ++ [.int .i64 k, .int .i64 v]) rfl hown2 w.heap.size (some (ad.add ((placeP L k) * 2))) (L.length - (placeP L k)) _ (cellsP (L.drop (placeP L k))) rfl HR3 cellsP_one (by simp only [maxLen]; omega) (by omega) (by omega) ?_; intro v3 W3 hown3 hg3 hb3; clear hb3; have hB4 : Below w.heap.size w W3 := hB3.grown hg3 (by omega) (fun g hg => (hown2.lt g hg).1); clear hg3))
      go_ret
      rw [E.out] at hown3
      exact SomePairs.of_own hown3 hB4
end
end Go.Proofs.YtblajeildolloaaGreat

/- slices.Grow of nil, slices.Concat; the words of an Inner. -/
namespace Go.Proofs.YtblajeildolloaaGreat
set_option linter.unusedVariables false
set_option linter.unusedSimpArgs false
open Go.RowKit

def SomeOwn (L : List Int) (w : World) (e : Ending) (w' : World) : Prop := ∃ v, e = .returned v ∧ w'.ownsRow w.heap.size 2 1 v L.length (L.map (Value.int .i64)) ∧ Below w.heap.size w w'
theorem SomeOwn.ints {L : List Int} {w w' : World} {e : Ending} (h : SomeOwn L w e w') : SomeInts L w e w' := by
  obtain ⟨v, rfl, hO, hb⟩ := h
  exact SomeInts.of_own hO hb
set_option maxHeartbeats 1000000 in
theorem growNil_any (n : Nat) (w : World) (hn : n ≤ 1000000) :
    Calls Tryz.prog 190 #[.slice none 0 0, .int .i64 n] w (SomeOwn [] w) := by
  obtain ⟨i0, hi0, hz0, hz1, hz2⟩ := info_parts info_int64m
  rcases Nat.eq_zero_or_pos n with h0 | h0
  · subst h0
    go_enter Tryz.func190, Tryz.ntmps190
    go_wp2_with (fail)
    go_ret
    exact ⟨_, rfl, World.ownsRow_nil _ _ _ _, Below.refl _ _⟩
  · have hr := Lib.run_append_nil_zeros (P := Tryz.prog) w 22 3 0 2 i0 (.int .i64 0) .i64 .i64 Tryz.underlying22 Tryz.underlying3 hi0 hz0 n h0 (by rw [hz1]; omega) (by omega) (by rw [hz2]; omega)
    have h1 : ¬ ((n : Int) < 0) := by omega
    have h2 : (0 : Int) < n := by omega
    have hge := grownCap_ge w n 0 2
    have hle := grownCap_le_maxLen w n 0 2 (by simp only [maxLen]; omega)
    have HR := Lib.hid hr
    clear hr
    go_enter Tryz.func190, Tryz.ntmps190
    go_wp2_with (at_builtin; refine Lib.wpList_append_run w rfl _ _ 22 3 rfl (.slice none 0 0) (.int .i64 n) rfl rfl _ _ HR.out ?_)
    go_ret
    refine ⟨_, rfl, ⟨rfl, .inr ⟨w.heap.size, grownCap w n 0 2, _, rfl, Nat.le_refl _, heap_alloc_new w _, Nat.zero_le _, hle, ?_, by simp⟩⟩, ((Below.refl _ w).alloc (Nat.le_refl _) _).trans (drawn_bl (Drawn.of _ 1) _)⟩
    simp [Builtin.zeroCells]
    omega

theorem ints_one (L : List Int) : ∀ u ∈ L.map (Value.int .i64), u.oneCell' = true := fun u hu => by
  obtain ⟨x, _, rfl⟩ := List.mem_map.1 hu
  rfl
/-- A row of slices of whole numbers: for each its address, its capacity, what it reads as. -/
def rowV (r : Option Addr × Nat × List Int) : Value := .slice r.1 r.2.2.length r.2.1
structure RowsAt (w : World) (B : Nat) (A : Option Addr) (R : List (Option Addr × Nat × List Int)) : Prop where
  outer : Reads w B 1 A R.length (R.map rowV)
  inner : ∀ r ∈ R, IntsAt w B r.1 r.2.2
def flatR (R : List (Option Addr × Nat × List Int)) : List Int := R.flatMap (·.2.2)
theorem RowsAt.below {w w' : World} {B : Nat} {A : Option Addr} {R : List (Option Addr × Nat × List Int)} (h : RowsAt w B A R) (hb : Below B w w') : RowsAt w' B A R :=
  ⟨h.outer.below hb, fun r hr => (h.inner r hr).below hb⟩
theorem flatR_take {R : List (Option Addr × Nat × List Int)} {k : Nat} (h : k < R.length) : flatR (R.take (k + 1)) = flatR (R.take k) ++ R[k].2.2 := by
  unfold flatR
  rw [List.take_add_one, List.getElem?_eq_getElem h, List.flatMap_append]
  simp only [Option.toList_some, List.flatMap_cons, List.flatMap_nil, List.append_nil]
theorem flatR_le (R : List (Option Addr × Nat × List Int)) (k : Nat) : (flatR (R.take k)).length ≤ (flatR R).length := by
  have : flatR R = flatR (R.take k) ++ flatR (R.drop k) := by
    unfold flatR
    rw [← List.flatMap_append, List.take_append_drop]
  rw [this, List.length_append]
  omega
def CatRel (R : List (Option Addr × Nat × List Int)) (w : World) (v i : Value) (wr : World) : Prop := ∃ k : Nat, k ≤ R.length ∧ i = .int .i64 k ∧ wr.ownsRow w.heap.size 2 1 v (flatR (R.take k)).length ((flatR (R.take k)).map (Value.int .i64)) ∧ Below w.heap.size w wr
set_option maxRecDepth 100000 in
set_option maxHeartbeats 2000000 in
theorem concat_any (A : Option Addr) (c N : Nat) (R : List (Option Addr × Nat × List Int)) (w : World) (hN : N = R.length) (h : RowsAt w w.heap.size A R) (hl : R.length ≤ 100) (ht : (flatR R).length ≤ 1000000) :
    Calls Tryz.prog 147 #[.slice A N c] w (SomeOwn (flatR R) w) := by
  subst hN
  obtain ⟨i0, hi0, hz0, hz1, hz2⟩ := info_parts info_int64m
  have H := Lib.hid h
  have HT := Lib.hid ht
  clear h ht
  go_enter Tryz.func147, Tryz.ntmps147
  go_wp2_with (fail)
  go_loop [3, 11] (fun t i => ∃ k : Nat, k ≤ R.length ∧ i = .int .i64 k ∧ t = .int .i64 ((flatR (R.take k)).length : Nat)) (fun _ i => R.length - (intOf i).toNat)
  case atStart => exact ⟨0, by omega, rfl, rfl⟩
  case round =>
    obtain ⟨k, k1, rfl, rfl⟩ := hrel
    have hle := flatR_le R k
    have ht1 := HT.out
    by_cases hlt : k < R.length
    · obtain ⟨ad, hA, hbl, hcc⟩ := H.out.outer.2 (by omega)
      have hx0 := hcc k (rowV R[k]) (by rw [List.getElem?_map, List.getElem?_eq_getElem hlt]; rfl)
      have e1 := Lib.hid (flatR_take hlt)
      have hle2 := flatR_le R (k + 1)
      subst hA
      obtain ⟨⟨A1, c1, L1⟩, hr⟩ : ∃ r, R[k] = r := ⟨_, rfl⟩
      rw [hr] at hx0 e1
      have hx1 : w.cell? (ad.add k) = some (.slice A1 L1.length c1) := hx0
      rw [e1.out, List.length_append] at hle2
      have hle3 : (flatR (R.take k)).length + L1.length ≤ 1000000 := by simp only [] at hle2; omega
      have e2 : (flatR (R.take (k + 1))).length = (flatR (R.take k)).length + L1.length := by rw [e1.out, List.length_append]
      have E2 := Lib.hid e2
      clear hcc hx0 hr hle2 e2
      generalize (flatR (R.take k)).length = z at hle hle3 E2 ⊢
      go_wp2_with (fail)
      go_round
      case rel => exact ⟨k + 1, by omega, by go_num, by rw [E2.out]; go_num⟩
      case measure => simp [intOf]; omega
    · have ek : k = R.length := by omega
      subst ek
      rw [List.take_of_length_le (Nat.le_refl _)]
      go_wp2_with (fail)
      with_reducible refine (growNil_any (flatR R).length _ ht1).mono ?_
      rintro e w1 ⟨v1, rfl, hO1, hB1⟩
      have HO1 := Lib.hid hO1
      have HB1 := Lib.hid hB1
      clear hO1 hB1 hle
      obtain ⟨A0, c0, rfl⟩ := own_shape HO1.out
      go_wp2_with (fail)
      go_loopw [6, 27] (fun v i wr => CatRel R w v i wr) (fun _ i _ => R.length - (intOf i).toNat)
      case atStart => unfold CatRel; exact ⟨0, by omega, rfl, HO1.out, HB1.out⟩
      case round =>
        obtain ⟨j, j1, rfl, hO, hB⟩ := hrel
        by_cases hj : j < R.length
        · obtain ⟨ad, hA, hbl, hcc⟩ := (H.out.below hB).outer.2 (by omega)
          have hx0 := hcc j (rowV R[j]) (by rw [List.getElem?_map, List.getElem?_eq_getElem hj]; rfl)
          have hin := (H.out.below hB).inner R[j] (List.getElem_mem _)
          have e1 := Lib.hid (flatR_take hj)
          have hle2 := flatR_le R (j + 1)
          subst hA
          obtain ⟨⟨A1, c1, L1⟩, hr⟩ : ∃ r, R[j] = r := ⟨_, rfl⟩
          rw [hr] at hx0 e1 hin
          have hx1 : wr.cell? (ad.add j) = some (.slice A1 L1.length c1) := hx0
          rw [e1.out, List.length_append] at hle2
          have hle3 : (flatR (R.take j)).length + L1.length ≤ 1000000 := by simp only [] at hle2; omega
          have hsz := hB.size
          clear hcc hx0 hr hle2
          obtain ⟨M, hM⟩ : ∃ M, flatR (R.take j) = M := ⟨_, rfl⟩
          rw [hM] at hO e1 hle3
          clear hM
          go_wp2_with (at_builtin; refine wpList_append_any _ rfl _ _ 22 rfl w.heap.size 2 i0 (.int .i64 0) 1 8 Tryz.underlying22 hi0 hz0 hz1 hz2 rfl (by decide) _ M.length (M.map (Value.int .i64)) rfl hO w.heap.size A1 L1.length c1 (L1.map (Value.int .i64)) rfl hin (ints_one L1) ?p1 ?p2 ?p3 ?_; (case p1 => (unfold maxLen; omega)); (case p2 => omega); (case p3 => exact hsz); intro v' w2 hO2 hg hvb)
          have hB2 : Below w.heap.size w w2 := hB.grown hg hsz (fun g h => (hO.lt g h).1)
          go_roundw
          case rel =>
            unfold CatRel
            refine ⟨j + 1, by omega, by go_num, ?_, hB2⟩
            rw [e1.out, List.map_append, List.length_append]
            exact hO2
          case measure => simp [intOf]; omega
        · have ej : j = R.length := by omega
          subst ej
          rw [List.take_of_length_le (Nat.le_refl _)] at hO
          go_wp2_with (fail)
          go_ret
          exact ⟨_, rfl, hO, hB⟩
end Go.Proofs.YtblajeildolloaaGreat

/- Make; New; Count, Odd, Used, Size. -/
namespace Go.Proofs.YtblajeildolloaaGreat
set_option linter.unusedVariables false
set_option linter.unusedSimpArgs false
open Go.RowKit

theorem IntsAt.far {w : World} {B : Nat} {A : Option Addr} {q : List Int} (h : IntsAt w B A q) {p : Addr} (hp : ∀ ad, A = some ad → ad.block ≠ p.block) (u : Value) : IntsAt (w.setCell p u) B A q :=
  ⟨h.1, fun hn => by
    obtain ⟨ad, e, hb, hc⟩ := h.2 hn
    refine ⟨ad, e, hb, fun j x hx => (World.cell?_setCell_other w p (ad.add j) u (fun e2 => ?_)).trans (hc j x hx)⟩
    have h1 := congrArg Addr.block e2
    rw [block_of_add] at h1
    exact hp ad e h1.symm⟩
set_option maxHeartbeats 1000000 in
theorem make_no (B b : Nat) (v : Value) (C : List Int) (size count odd ref : Int) (w : World) (h : MemP B b v C size count odd ref w) (hs : (C.length : Int) ≤ size) (hs2 : size ≤ 65536) (A : Option Addr) (c : Nat) (q : List Int) (N : Nat) (hN : N = q.length) (hq : q.length = 0 ∨ size - C.length < q.length) (hql : q.length ≤ 1000000) :
    Calls Tryz.prog 80 #[.pointer (some ⟨b, 0, none⟩), .slice A N c] w fun e w' => e = .returned (.tuple #[.int .i64 0, .bool false]) ∧ MemP B b v C size (bump count) odd (bump ref) w' ∧ Only [b] w w' := by
  subst hN
  obtain ⟨A0, c0', rfl⟩ := own_shape h.own
  have h1 := (h.set 2 (by decide) (.int .i64 (bump count)) rfl)
  have c2 : w.cell? ⟨b, 2, none⟩ = some (.int .i64 count) := h.blk.cell 2
  have f2 := h.blk.frozen 2
  have M1 := Lib.hid (Mv.set1 w b 2 (.int .i64 (bump count)))
  have eb : wrap64 (count + 1) = bump count := rfl
  by_cases h0 : q.length = 0
  · have e0 : ((q.length : Int) == 0) = true := by simpa using h0
    clear hq h h0
    go_enter Tryz.func80, Tryz.ntmps80
    go_wp2_with (fail)
    rw [eb]
    clear eb c2 f2
    generalize w.setCell ⟨b, 2, none⟩ (.int .i64 (bump count)) = w1 at h1 M1 ⊢
    have c0 : w1.cell? ⟨b, 0, none⟩ = some (.slice A0 C.length c0') := h1.blk.cell 0
    have c1 : w1.cell? ⟨b, 1, none⟩ = some (.int .i64 size) := h1.blk.cell 1
    have H1 := Lib.hid h1
    clear h1
    go_quiet (fail)
    rename_i nq
    have D1 := Lib.hid (drawn_bl (Drawn.of w1 nq) w1.heap.size)
    have h1q := H1.out.below D1.out
    generalize w1.drewN nq = w2 at D1 h1q ⊢
    have c4 : w2.cell? ⟨b, 4, none⟩ = some (.int .i64 ref) := h1q.blk.cell 4
    have f4 := h1q.blk.frozen 4
    have H2 := Lib.hid (h1q.set 4 (by decide) (.int .i64 (wrap64 (ref + 1))) (ref' := bump ref) rfl)
    clear h1q
    go_wp2_with (fail)
    go_ret2
    exact ⟨rfl, H2.out, ((Only.of_mv M1.out (by simp)).trans (Only.of_below D1.out)).trans (Only.of_mv (Mv.set1 _ _ _ _) (by simp))⟩
  · have e0 : ((q.length : Int) == 0) = false := by simpa using h0
    have hlt : size - (C.length : Int) < q.length := by omega
    clear hq h h0
    go_enter Tryz.func80, Tryz.ntmps80
    go_wp2_with (fail)
    rw [eb]
    clear eb c2 f2
    generalize w.setCell ⟨b, 2, none⟩ (.int .i64 (bump count)) = w1 at h1 M1 ⊢
    have c0 : w1.cell? ⟨b, 0, none⟩ = some (.slice A0 C.length c0') := h1.blk.cell 0
    have c1 : w1.cell? ⟨b, 1, none⟩ = some (.int .i64 size) := h1.blk.cell 1
    have H1 := Lib.hid h1
    clear h1
    go_quiet (fail)
    rename_i nq
    have D1 := Lib.hid (drawn_bl (Drawn.of w1 nq) w1.heap.size)
    have h1q := H1.out.below D1.out
    generalize w1.drewN nq = w2 at D1 h1q ⊢
    have c4 : w2.cell? ⟨b, 4, none⟩ = some (.int .i64 ref) := h1q.blk.cell 4
    have f4 := h1q.blk.frozen 4
    have H2 := Lib.hid (h1q.set 4 (by decide) (.int .i64 (wrap64 (ref + 1))) (ref' := bump ref) rfl)
    clear h1q
    go_wp2_with (fail)
    go_ret2
    exact ⟨rfl, H2.out, ((Only.of_mv M1.out (by simp)).trans (Only.of_below D1.out)).trans (Only.of_mv (Mv.set1 _ _ _ _) (by simp))⟩

theorem Mv.wide {b : Nat} {w w' : World} (h : Mv b none w w') (r : Option Nat) : Mv b r w w' := ⟨h.os, h.tape, h.output, h.size, fun k hk h1 _ => h.block k hk h1 (by simp)⟩
set_option maxRecDepth 100000 in
set_option maxHeartbeats 1000000 in
theorem make_ok (B b : Nat) (v : Value) (C : List Int) (size count odd ref : Int) (w : World) (h : MemP B b v C size count odd ref w) (hs : (C.length : Int) ≤ size) (hs2 : size ≤ 65536) (A : Option Addr) (c : Nat) (q : List Int) (N : Nat) (hN : N = q.length) (hq : IntsAt w w.heap.size A q) (hA : ∀ ad, A = some ad → ad.block ≠ b) (h0 : 0 < q.length) (h1 : (q.length : Int) ≤ size - C.length) :
    Calls Tryz.prog 80 #[.pointer (some ⟨b, 0, none⟩), .slice A N c] w fun e w' => e = .returned (.tuple #[.int .i64 ((C.length : Int) + 1), .bool true]) ∧ ∃ v', MemP B b v' (C ++ q) size (bump count) odd ref w' ∧ Mv b v.ownBlock w w' ∧ (v'.ownBlock = v.ownBlock ∨ ∃ g, v'.ownBlock = some g ∧ w.heap.size ≤ g) := by
  subst hN
  obtain ⟨i0, hi0, hz0, hz1, hz2⟩ := info_parts info_int64m
  obtain ⟨A0, c0', rfl⟩ := own_shape h.own
  have h1' := (h.set 2 (by decide) (.int .i64 (bump count)) rfl)
  have c2 : w.cell? ⟨b, 2, none⟩ = some (.int .i64 count) := h.blk.cell 2
  have f2 := h.blk.frozen 2
  have M1 := Lib.hid (Mv.set1 w b 2 (.int .i64 (bump count)))
  have eb : wrap64 (count + 1) = bump count := rfl
  have HQ := Lib.hid (hq.far (p := ⟨b, 2, none⟩) hA (.int .i64 (bump count)))
  have hsz : (w.setCell ⟨b, 2, none⟩ (.int .i64 (bump count))).heap.size = w.heap.size := by simp
  have hB : B ≤ w.heap.size := by have := h.base; have := h.blk.lt; omega
  have e0 : ((q.length : Int) == 0) = false := by rw [beq_eq_false_iff_ne]; omega
  have hlt : ¬ size - (C.length : Int) < q.length := by omega
  have SZ := Lib.hid hsz
  clear hq h hsz
  go_enter Tryz.func80, Tryz.ntmps80
  go_wp2_with (fail)
  try rw [eb]
  clear eb c2 f2
  generalize w.setCell ⟨b, 2, none⟩ (.int .i64 (bump count)) = w1 at h1' M1 HQ SZ ⊢
  have c0 : w1.cell? ⟨b, 0, none⟩ = some (.slice A0 C.length c0') := h1'.blk.cell 0
  have c1 : w1.cell? ⟨b, 1, none⟩ = some (.int .i64 size) := h1'.blk.cell 1
  have H1 := Lib.hid h1'
  clear h1'
  go_quiet (fail)
  rename_i nq
  have D1 := Lib.hid (drawn_bl (Drawn.of w1 nq) w1.heap.size)
  have h1q := H1.out.below D1.out
  have HQ2 := Lib.hid (show IntsAt (w1.drewN nq) w.heap.size A q from HQ.out)
  have hz3 : w.heap.size ≤ (w1.drewN nq).heap.size := by have := SZ.out; show w.heap.size ≤ w1.heap.size; omega
  clear c0 c1
  generalize w1.drewN nq = w2 at D1 h1q HQ2 hz3 ⊢
  have c0 : w2.cell? ⟨b, 0, none⟩ = some (.slice A0 C.length c0') := h1q.blk.cell 0
  have f0 := h1q.blk.frozen 0
  have H2 := Lib.hid h1q
  have hown := h1q.own
  clear h1q
  go_wp2_with (at_builtin; refine wpList_append_any _ rfl _ _ 22 rfl B 2 i0 (.int .i64 0) 1 8 Tryz.underlying22 hi0 hz0 hz1 hz2 rfl (by decide) _ C.length (C.map (Value.int .i64)) rfl hown w.heap.size A q.length c (q.map (Value.int .i64)) rfl HQ2.out (ints_one q) ?p1 ?p2 ?p3 ?_; (case p1 => (unfold maxLen; omega)); (case p2 => omega); (case p3 => omega); intro v' w3 hO' hg hvb; obtain ⟨A1, c1', rfl⟩ := own_shape hO'; have HV := Lib.hid hvb; clear hvb; have hb3 := H2.out.blk.grown hg (fun e => H2.out.apart e.symm); have HB3 := Lib.hid hb3; have HO := Lib.hid hO'; have c3 : w3.cell? ⟨b, 0, none⟩ = some (.slice A0 C.length c0') := hb3.cell 0; have f3 := hb3.frozen 0; clear hb3 hO')
  go_ret2
  have hb3 := HB3.out
  have hO' := HO.out
  refine ⟨rfl, .slice A1 (C.length + q.length) c1', ⟨?_, ?_, H2.out.base⟩, ?_, ?_⟩
  · exact hb3.set_ 0 _
  · have hap := own_blk_ne hO' hb3 (by decide)
    have := ownsRow_setCell_other hO' (a := ⟨b, 0, none⟩) (fun e => hap (by simpa using e)) (Value.slice A1 (C.length + q.length) c1')
    rw [List.map_append, List.length_append]
    exact this
  · exact Mv.trans_ (M1.out.wide _) (Mv.after D1.out (Mv.of_grown hg _))
  · rcases HV.out with e | e
    · exact .inl e
    · exact .inr ⟨_, e, by omega⟩
end Go.Proofs.YtblajeildolloaaGreat

/- The frame of route as numbers: its steps over a memory that is read by a function; over an Inner with ascending keys it reads what chapter 6's path says and ends at the right child. No program. -/
namespace Go.Proofs.YtblajeildolloaaGreat
set_option linter.unusedVariables false
set_option linter.unusedSimpArgs false

structure RS where
  next : Int
  n : Int
  k : Int
  degree : Int
  i : Int
  first : Int
  child : Int
def nearB (x : Int) : Bool := decide (0 ≤ x) && decide (x ≤ 1099511627776)
def keyAtI (n i : Int) : Int := if nearB n = true ∧ nearB i = true then n + 4 + i else 0
def childAtI (n d i : Int) : Int := if nearB n = true ∧ nearB d = true ∧ nearB i = true then n + 4 + d + i else 0
def RS.init (n k : Int) : RS := ⟨0, n, k, 0, 0, 0, 0⟩
def RS.ende (s : RS) (c : Int) : RS := { s with child := c, next := 6 }
def RS.up (s : RS) (i : Int) : RS := if s.degree - 1 ≤ i then { s with i := i, next := 6, child := s.degree - 1 - 1 } else { s with i := i, next := 4 }
def RS.down (s : RS) (i : Int) : RS := if i ≤ 1 then { s with i := i, next := 6, child := 1 } else { s with i := i, next := 5 }
def RS.guess (s : RS) (last : Int) : RS :=
  if 1 < guessI s.first last s.k (s.degree - 1) then { s with next := 3, i := guessI s.first last s.k (s.degree - 1) } else s.up 2
def RS.key (s : RS) (q : Int) : RS :=
  if s.next = 1 then (if s.k < q then { s with first := q, i := s.degree - 1, next := 6, child := 0 } else if s.degree - 1 = 1 then { s with first := q, i := s.degree - 1, next := 6, child := 1 } else { s with first := q, i := s.degree - 1, next := 2 })
  else if s.next = 2 then (if s.k < q then s.guess q else s.ende (s.degree - 1))
  else if s.next = 3 then (if s.k < q then s.down (s.i - 1) else s.up (s.i + 1))
  else if s.next = 4 then (if s.k < q then s.ende (s.i - 1) else s.up (s.i + 1))
  else if s.next = 5 then (if s.k < q then s.down (s.i - 1) else s.ende s.i)
  else s
def RS.step (R : Int → Int) (s : RS) : RS :=
  if s.next = 0 then (if R s.n < 2 then { s with degree := R s.n, i := 1, next := 6, child := 0 } else { s with degree := R s.n, i := 1, next := 1 })
  else if s.next = 6 then s
  else s.key (R (keyAtI s.n s.i))
theorem RS.key1 {s : RS} (h : s.next = 1) (q : Int) : s.key q = if s.k < q then { s with first := q, i := s.degree - 1, next := 6, child := 0 } else if s.degree - 1 = 1 then { s with first := q, i := s.degree - 1, next := 6, child := 1 } else { s with first := q, i := s.degree - 1, next := 2 } := by
  unfold RS.key; rw [if_pos h]
theorem RS.key2 {s : RS} (h : s.next = 2) (q : Int) : s.key q = if s.k < q then s.guess q else s.ende (s.degree - 1) := by
  unfold RS.key; rw [if_neg (by omega), if_pos h]
theorem RS.key3 {s : RS} (h : s.next = 3) (q : Int) : s.key q = if s.k < q then s.down (s.i - 1) else s.up (s.i + 1) := by
  unfold RS.key; rw [if_neg (by omega), if_neg (by omega), if_pos h]
theorem RS.key4 {s : RS} (h : s.next = 4) (q : Int) : s.key q = if s.k < q then s.ende (s.i - 1) else s.up (s.i + 1) := by
  unfold RS.key; rw [if_neg (by omega), if_neg (by omega), if_neg (by omega), if_pos h]
theorem RS.key5 {s : RS} (h : s.next = 5) (q : Int) : s.key q = if s.k < q then s.down (s.i - 1) else s.ende s.i := by
  unfold RS.key; rw [if_neg (by omega), if_neg (by omega), if_neg (by omega), if_neg (by omega), if_pos h]
theorem RS.step0 {R : Int → Int} {s : RS} (h : s.next = 0) : s.step R = if R s.n < 2 then { s with degree := R s.n, i := 1, next := 6, child := 0 } else { s with degree := R s.n, i := 1, next := 1 } := by
  unfold RS.step; rw [if_pos h]
theorem RS.stepK {R : Int → Int} {s : RS} (h : s.next ≠ 0) (h' : s.next ≠ 6) : s.step R = s.key (R (keyAtI s.n s.i)) := by
  unfold RS.step; rw [if_neg h, if_neg h']
def RS.it (R : Int → Int) (s : RS) : Nat → RS
  | 0 => s
  | t + 1 => (RS.it R s t).step R

theorem RS.it_succ (R : Int → Int) (s : RS) : ∀ t, RS.it R s (t + 1) = RS.it R (s.step R) t
  | 0 => rfl
  | t + 1 => by
    show (RS.it R s (t + 1)).step R = (RS.it R (s.step R) t).step R
    rw [RS.it_succ R s t]

/-- The cell that the next step reads. -/
def RS.addr (s : RS) : Int := if s.next = 0 then s.n else keyAtI s.n s.i
structure RS.Inv (s : RS) : Prop where
  n0 : -9223372036854775808 ≤ s.n
  n1 : s.n ≤ 9223372036854775807
  k0 : -9223372036854775808 ≤ s.k
  k1 : s.k ≤ 9223372036854775807
  g0 : -9223372036854775808 ≤ s.first
  g1 : s.first ≤ 9223372036854775807
  st : s.next = 0 ∨ s.next = 6 ∨ (1 ≤ s.next ∧ s.next ≤ 5 ∧ 2 ≤ s.degree ∧ s.degree ≤ 9223372036854775807 ∧ 1 ≤ s.i ∧ s.i ≤ s.degree - 1)
theorem guessI_le (f l k n : Int) (h : 1 ≤ n) : 0 ≤ guessI f l k n ∧ (1 < guessI f l k n → guessI f l k n ≤ n - 1) := by
  by_cases c : n < 2 ∨ 65536 < n ∨ k < f ∨ l ≤ k
  · rw [guessI_none c]; omega
  · have := guessI_bd (f := f) (l := l) (k := k) (n := n) (by omega) (by omega) (by omega) (by omega); omega
theorem RS.Inv.init {n k : Int} (n0 : -9223372036854775808 ≤ n) (n1 : n ≤ 9223372036854775807) (k0 : -9223372036854775808 ≤ k) (k1 : k ≤ 9223372036854775807) : (RS.init n k).Inv :=
  ⟨n0, n1, k0, k1, by simp [RS.init], by simp [RS.init], .inl rfl⟩
theorem RS.Inv.up {s : RS} (h : s.Inv) (d0 : 2 ≤ s.degree) (d1 : s.degree ≤ 9223372036854775807) {i : Int} (hi : 1 ≤ i) : (s.up i).Inv := by
  unfold RS.up
  split
  · exact ⟨h.n0, h.n1, h.k0, h.k1, h.g0, h.g1, .inr (.inl rfl)⟩
  · exact ⟨h.n0, h.n1, h.k0, h.k1, h.g0, h.g1, .inr (.inr ⟨by simp, by simp, d0, d1, hi, by simp; omega⟩)⟩
theorem RS.Inv.down {s : RS} (h : s.Inv) (d0 : 2 ≤ s.degree) (d1 : s.degree ≤ 9223372036854775807) {i : Int} (hi : i ≤ s.degree - 1) : (s.down i).Inv := by
  unfold RS.down
  split
  · exact ⟨h.n0, h.n1, h.k0, h.k1, h.g0, h.g1, .inr (.inl rfl)⟩
  · exact ⟨h.n0, h.n1, h.k0, h.k1, h.g0, h.g1, .inr (.inr ⟨by simp, by simp, d0, d1, by simp; omega, hi⟩)⟩
theorem RS.Inv.ende {s : RS} (h : s.Inv) (c : Int) : (s.ende c).Inv := ⟨h.n0, h.n1, h.k0, h.k1, h.g0, h.g1, .inr (.inl rfl)⟩
theorem RS.Inv.key {s : RS} (h : s.Inv) (h0 : s.next ≠ 0) (h6 : s.next ≠ 6) {q : Int} (q0 : -9223372036854775808 ≤ q) (q1 : q ≤ 9223372036854775807) : (s.key q).Inv := by
  have st : 1 ≤ s.next ∧ s.next ≤ 5 ∧ 2 ≤ s.degree ∧ s.degree ≤ 9223372036854775807 ∧ 1 ≤ s.i ∧ s.i ≤ s.degree - 1 := by rcases h.st with h | h | h <;> first | exact absurd h h0 | exact absurd h h6 | exact h
  obtain ⟨a1, a2, d0, d1, i0, i1⟩ := st
  unfold RS.key
  split
  · split
    · exact ⟨h.n0, h.n1, h.k0, h.k1, q0, q1, .inr (.inl rfl)⟩
    · split
      · exact ⟨h.n0, h.n1, h.k0, h.k1, q0, q1, .inr (.inl rfl)⟩
      · exact ⟨h.n0, h.n1, h.k0, h.k1, q0, q1, .inr (.inr ⟨by simp, by simp, d0, d1, by simp; omega, by simp⟩)⟩
  · split
    · split
      · unfold RS.guess
        split
        · rename_i hg
          have := guessI_le s.first q s.k (s.degree - 1) (by omega)
          exact ⟨h.n0, h.n1, h.k0, h.k1, h.g0, h.g1, .inr (.inr ⟨by simp, by simp, d0, d1, by simp; omega, by simp; omega⟩)⟩
        · exact h.up d0 d1 (by omega)
      · exact h.ende _
    · split
      · split
        · exact h.down d0 d1 (by omega)
        · exact h.up d0 d1 (by omega)
      · split
        · split
          · exact h.ende _
          · exact h.up d0 d1 (by omega)
        · split
          · split
            · exact h.down d0 d1 (by omega)
            · exact h.ende _
          · exact h
theorem RS.Inv.step {s : RS} (h : s.Inv) {R : Int → Int} (hR : ∀ a, -9223372036854775808 ≤ R a ∧ R a ≤ 9223372036854775807) : (s.step R).Inv := by
  by_cases h0 : s.next = 0
  · rw [RS.step0 h0]
    have := hR s.n
    split
    · exact ⟨h.n0, h.n1, h.k0, h.k1, h.g0, h.g1, .inr (.inl rfl)⟩
    · exact ⟨h.n0, h.n1, h.k0, h.k1, h.g0, h.g1, .inr (.inr ⟨by simp, by simp, by simp; omega, by simp; omega, by simp, by simp; omega⟩)⟩
  · by_cases h6 : s.next = 6
    · unfold RS.step; rw [if_neg h0, if_pos h6]; exact h
    · rw [RS.stepK h0 h6]; exact h.key h0 h6 (hR _).1 (hR _).2
theorem RS.Inv.it {s : RS} (h : s.Inv) {R : Int → Int} (hR : ∀ a, -9223372036854775808 ≤ R a ∧ R a ≤ 9223372036854775807) : ∀ t, (RS.it R s t).Inv
  | 0 => h
  | t + 1 => (RS.Inv.it h hR t).step hR

/-- From s it is n steps to the end, which is s'. -/
inductive RS.Runs (R : Int → Int) : RS → Nat → RS → Prop
  | ends {s : RS} : s.next = 6 → RS.Runs R s 0 s
  | step {s s' : RS} {n : Nat} : s.next ≠ 6 → RS.Runs R (s.step R) n s' → RS.Runs R s (n + 1) s'

theorem RS.step_done {R : Int → Int} {s : RS} (h : s.next = 6) : s.step R = s := by
  unfold RS.step; rw [if_neg (by omega), if_pos h]
theorem RS.Runs.it {R : Int → Int} {s s' : RS} {n : Nat} (h : RS.Runs R s n s') : (∀ t, t < n → (RS.it R s t).next ≠ 6) ∧ s'.next = 6 ∧ (∀ t, n ≤ t → RS.it R s t = s') := by
  induction h with
  | @ends s h =>
    refine ⟨fun t ht => absurd ht (by omega), h, fun t _ => ?_⟩
    induction t with
    | zero => rfl
    | succ t ih => show (RS.it R s t).step R = s; rw [ih (by omega), RS.step_done h]
  | @step s s' n hn _ ih =>
    refine ⟨fun t ht => ?_, ih.2.1, fun t ht => ?_⟩
    · rcases t with _ | t
      · exact hn
      · rw [RS.it_succ]; exact ih.1 t (by omega)
    · rcases t with _ | t
      · omega
      · rw [RS.it_succ]; exact ih.2.2 t (by omega)

/-- What is the same all along. -/
structure RS.Of (s : RS) (a k : Int) (q : List Int) : Prop where
  n : s.n = a
  k : s.k = k
  degree : s.degree = (q.length : Int) + 1
structure RS.End (s : RS) (q : List Int) (f : Nat) : Prop where
  degree : s.degree = (q.length : Int) + 1
  child : s.child = f

section
variable {R : Int → Int} {a k : Int} {q : List Int} {f : Nat}

theorem RS.runs_up (hR : ∀ i : Nat, 1 ≤ i → i ≤ q.length → R (keyAtI a i) = keyAt q (i - 1)) (f1 : f < q.length) (f2 : ∀ j, j < f → keyAt q j ≤ k) (f3 : ∀ j, f ≤ j → j < q.length → k < keyAt q j) :
    ∀ (d i : Nat) (s : RS), s.Of a k q → q.length ≤ d + i → 2 ≤ i → i ≤ f + 1 → ∃ s', RS.Runs R (s.up i) (upP q k d i).length s' ∧ s'.End q f
  | d, i, s, hs, hd, h2, hf => by
    by_cases hi : i < q.length
    · obtain ⟨d, rfl⟩ : ∃ m, d = m + 1 := ⟨d - 1, by omega⟩
      have hu : s.up i = { s with i := (i : Int), next := 4 } := by unfold RS.up; rw [if_neg (by rw [hs.degree]; omega)]
      have hq : R (keyAtI a i) = keyAt q (i - 1) := hR i (by omega) (by omega)
      have hst : (s.up i).step R = RS.key { s with i := (i : Int), next := 4 } (keyAt q (i - 1)) := by
        rw [hu]
        rw [RS.stepK (by simp) (by simp)]
        show RS.key _ (R (keyAtI s.n i)) = _
        rw [hs.n, hq]
      simp only [upP]
      rw [if_pos hi]
      by_cases c : k < keyAt q (i - 1)
      · have e : (s.up i).step R = RS.ende { s with i := (i : Int), next := 4 } ((i : Int) - 1) := by
          rw [hst]; rw [RS.key4 rfl, if_pos (by show s.k < _; rw [hs.k]; exact c)]
        have ef : f = i - 1 := by
          rcases Nat.lt_or_ge (i - 1) f with g | g
          · have := f2 (i - 1) g; omega
          · omega
        rw [if_pos c]
        exact ⟨(s.up i).step R, .step (by rw [hu]; simp) (.ends (by rw [e]; rfl)), ⟨by rw [e]; exact hs.degree, by rw [e]; show (i : Int) - 1 = f; omega⟩⟩
      · have e : (s.up i).step R = RS.up { s with i := (i : Int), next := 4 } ((i : Int) + 1) := by
          rw [hst]; rw [RS.key4 rfl, if_neg (by show ¬ s.k < _; rw [hs.k]; exact c)]
        have hfi : i ≤ f := by
          rcases Nat.lt_or_ge f i with g | g
          · have := f3 (i - 1) (by omega) (by omega); omega
          · exact g
        rw [if_neg c]
        obtain ⟨s', r, he⟩ := RS.runs_up hR f1 f2 f3 d (i + 1) { s with i := (i : Int), next := 4 } ⟨hs.n, hs.k, hs.degree⟩ (by omega) (by omega) (by omega)
        refine ⟨s', .step (by rw [hu]; simp) ?_, he⟩
        rw [e]
        have ei : ((i + 1 : Nat) : Int) = (i : Int) + 1 := by omega
        rw [ei] at r
        exact r
    · have hu : s.up i = { s with i := (i : Int), next := 6, child := s.degree - 1 - 1 } := by unfold RS.up; rw [if_pos (by rw [hs.degree]; omega)]
      have hl : (upP q k d i).length = 0 := by
        rcases d with _ | d
        · rfl
        · simp only [upP]; rw [if_neg hi]; rfl
      rw [hl, hu]
      refine ⟨_, .ends rfl, ⟨hs.degree, ?_⟩⟩
      show s.degree - 1 - 1 = f
      rw [hs.degree]; omega

theorem RS.runs_down (hR : ∀ i : Nat, 1 ≤ i → i ≤ q.length → R (keyAtI a i) = keyAt q (i - 1)) (f0 : 0 < f) (f2 : ∀ j, j < f → keyAt q j ≤ k) (f3 : ∀ j, f ≤ j → j < q.length → k < keyAt q j) :
    ∀ (i : Nat) (s : RS), s.Of a k q → i < q.length → f ≤ i ∨ (i = 0 ∧ f = 1) → ∃ s', RS.Runs R (s.down i) (downP q k i).length s' ∧ s'.End q f
  | 0, s, hs, hi, hf => by
    have hu : s.down (0 : Nat) = { s with i := ((0 : Nat) : Int), next := 6, child := 1 } := by unfold RS.down; rw [if_pos (by omega)]
    rw [hu]
    refine ⟨_, .ends rfl, ⟨hs.degree, ?_⟩⟩
    show (1 : Int) = f
    omega
  | i + 1, s, hs, hi, hf => by
    simp only [downP]
    by_cases h0 : 0 < i
    · have hu : s.down (i + 1 : Nat) = { s with i := ((i + 1 : Nat) : Int), next := 5 } := by unfold RS.down; rw [if_neg (by omega)]
      have hq : R (keyAtI a (i + 1 : Nat)) = keyAt q i := hR (i + 1) (by omega) (by omega)
      have hst : (s.down (i + 1 : Nat)).step R = RS.key { s with i := ((i + 1 : Nat) : Int), next := 5 } (keyAt q i) := by
        rw [hu]
        rw [RS.stepK (by simp) (by simp)]
        show RS.key _ (R (keyAtI s.n (i + 1 : Nat))) = _
        rw [hs.n, hq]
      rw [if_pos h0]
      by_cases c : keyAt q i ≤ k
      · have e : (s.down (i + 1 : Nat)).step R = RS.ende { s with i := ((i + 1 : Nat) : Int), next := 5 } ((i + 1 : Nat) : Int) := by
          rw [hst]; rw [RS.key5 rfl, if_neg (by show ¬ s.k < _; rw [hs.k]; omega)]
        have ef : f = i + 1 := by
          rcases Nat.lt_or_ge i f with g | g
          · omega
          · have := f3 i g (by omega); omega
        rw [if_pos c]
        exact ⟨(s.down (i + 1 : Nat)).step R, .step (by rw [hu]; simp) (.ends (by rw [e]; rfl)), ⟨by rw [e]; exact hs.degree, by rw [e]; show ((i + 1 : Nat) : Int) = f; omega⟩⟩
      · have e : (s.down (i + 1 : Nat)).step R = RS.down { s with i := ((i + 1 : Nat) : Int), next := 5 } (((i + 1 : Nat) : Int) - 1) := by
          rw [hst]; rw [RS.key5 rfl, if_pos (by show s.k < _; rw [hs.k]; omega)]
        have hfi : f ≤ i := by
          rcases Nat.lt_or_ge i f with g | g
          · have := f2 i g; omega
          · exact g
        rw [if_neg c]
        obtain ⟨s', r, he⟩ := RS.runs_down hR f0 f2 f3 i { s with i := ((i + 1 : Nat) : Int), next := 5 } ⟨hs.n, hs.k, hs.degree⟩ (by omega) (.inl hfi)
        refine ⟨s', .step (by rw [hu]; simp) ?_, he⟩
        rw [e]
        have ei : ((i + 1 : Nat) : Int) - 1 = i := by omega
        rw [ei]
        exact r
    · have hu : s.down (i + 1 : Nat) = { s with i := ((i + 1 : Nat) : Int), next := 6, child := 1 } := by unfold RS.down; rw [if_pos (by omega)]
      rw [if_neg h0, hu]
      refine ⟨_, .ends rfl, ⟨hs.degree, ?_⟩⟩
      show (1 : Int) = f
      omega

/-- Over an Inner at a with the keys q: as many steps as chapter 6's path has keys, and one; the right child. -/
theorem RS.runs_all (hr : rightB q = true) (h0 : R a = (q.length : Int) + 1) (hR : ∀ i : Nat, 1 ≤ i → i ≤ q.length → R (keyAtI a i) = keyAt q (i - 1)) (f1 : f ≤ q.length) (f2 : ∀ j, j < f → keyAt q j ≤ k) (f3 : ∀ j, f ≤ j → j < q.length → k < keyAt q j) :
    ∃ s', RS.Runs R (RS.init a k) (1 + (pathI q k).length) s' ∧ s'.End q f := by
  rw [Nat.add_comm]
  have hstep0 : (RS.init a k).step R = if R a < 2 then { RS.init a k with degree := R a, i := 1, next := 6, child := 0 } else { RS.init a k with degree := R a, i := 1, next := 1 } := by
    exact RS.step0 rfl
  by_cases hz : q.length = 0
  · have e : pathI q k = [] := by unfold pathI; rw [if_pos (.inl hz)]
    rw [e]
    refine ⟨_, .step (by simp [RS.init]) (by rw [hstep0, if_pos (by omega)]; exact .ends rfl), ⟨h0, ?_⟩⟩
    show (0 : Int) = f
    omega
  have hn : ¬ (q.length = 0 ∨ rightB q = false) := by simp [hz, hr]
  rw [if_neg (by omega)] at hstep0
  have hq1 : R (keyAtI a 1) = keyAt q 0 := hR 1 (by omega) (by omega)
  have hstep1 : (RS.step R { RS.init a k with degree := R a, i := 1, next := 1 }) = RS.key { RS.init a k with degree := R a, i := 1, next := 1 } (keyAt q 0) := by
    rw [RS.stepK (by simp) (by simp)]
    show RS.key _ (R (keyAtI a 1)) = _
    rw [hq1]
  have hl3 := rightB_len hr
  by_cases c1 : k < keyAt q 0
  · have e : pathI q k = [1] := by unfold pathI; rw [if_neg hn, if_pos (.inl c1)]
    rw [e]
    have ef : f = 0 := by
      rcases Nat.eq_zero_or_pos f with g | g
      · exact g
      · have := f2 0 g; omega
    have e1 : (RS.step R { RS.init a k with degree := R a, i := 1, next := 1 }) = { RS.init a k with degree := R a, first := keyAt q 0, i := R a - 1, next := 6, child := 0 } := by
      exact hstep1.trans ((RS.key1 rfl _).trans (if_pos c1))
    refine ⟨_, .step (by simp [RS.init]) (by rw [hstep0]; exact .step (by simp [RS.init]) (by rw [e1]; exact .ends rfl)), ⟨h0, ?_⟩⟩
    show (0 : Int) = f
    omega
  by_cases c2 : q.length = 1
  · have e : pathI q k = [1] := by unfold pathI; rw [if_neg hn, if_pos (.inr c2)]
    rw [e]
    have ef : f = 1 := by
      rcases Nat.eq_zero_or_pos f with g | g
      · have := f3 0 (by omega) (by omega); omega
      · omega
    have e1 : (RS.step R { RS.init a k with degree := R a, i := 1, next := 1 }) = { RS.init a k with degree := R a, first := keyAt q 0, i := R a - 1, next := 6, child := 1 } := by
      exact hstep1.trans ((RS.key1 rfl _).trans ((if_neg c1).trans (if_pos (by show R a - 1 = 1; omega))))
    refine ⟨_, .step (by simp [RS.init]) (by rw [hstep0]; exact .step (by simp [RS.init]) (by rw [e1]; exact .ends rfl)), ⟨h0, ?_⟩⟩
    show (1 : Int) = f
    omega
  have e1 : (RS.step R { RS.init a k with degree := R a, i := 1, next := 1 }) = { RS.init a k with degree := R a, first := keyAt q 0, i := R a - 1, next := 2 } := by
    exact hstep1.trans ((RS.key1 rfl _).trans ((if_neg c1).trans (if_neg (by show ¬ R a - 1 = 1; omega))))
  have hlast : R (keyAtI a (R a - 1)) = keyAt q (q.length - 1) := by
    rw [h0, show (q.length : Int) + 1 - 1 = (q.length : Nat) by omega]; exact hR q.length (by omega) (by omega)
  have hstep2 : (RS.step R { RS.init a k with degree := R a, first := keyAt q 0, i := R a - 1, next := 2 }) = RS.key { RS.init a k with degree := R a, first := keyAt q 0, i := R a - 1, next := 2 } (keyAt q (q.length - 1)) := by
    rw [RS.stepK (by simp) (by simp)]
    show RS.key _ (R (keyAtI a (R a - 1))) = _
    rw [hlast]
  by_cases c3 : keyAt q (q.length - 1) ≤ k
  · have e : pathI q k = [1, (q.length : Int)] := by unfold pathI; rw [if_neg hn, if_neg (by omega), if_pos c3]
    rw [e]
    have ef : f = q.length := by
      rcases Nat.lt_or_ge f q.length with g | g
      · have := f3 (q.length - 1) (by omega) (by omega); omega
      · omega
    have e2 : (RS.step R { RS.init a k with degree := R a, first := keyAt q 0, i := R a - 1, next := 2 }) = RS.ende { RS.init a k with degree := R a, first := keyAt q 0, i := R a - 1, next := 2 } (R a - 1) := by
      rw [hstep2]; rw [RS.key2 rfl, if_neg (by show ¬ k < _; omega)]
    refine ⟨_, .step (by simp [RS.init]) (by rw [hstep0]; exact .step (by simp [RS.init]) (by rw [e1]; exact .step (by simp [RS.init]) (by rw [e2]; exact .ends rfl))), ⟨h0, ?_⟩⟩
    show R a - 1 = f
    omega
  -- guessed
  obtain ⟨j0, j1⟩ := guessI_bd (f := keyAt q 0) (l := keyAt q (q.length - 1)) (k := k) (n := q.length) (by omega) (by omega) (by omega) (by omega)
  obtain ⟨j, hj⟩ : ∃ j : Nat, guessI (keyAt q 0) (keyAt q (q.length - 1)) k q.length = j := ⟨(guessI (keyAt q 0) (keyAt q (q.length - 1)) k q.length).toNat, by omega⟩
  rw [hj] at j0 j1
  have hJ : jI q k = j := hj
  have e : pathI q k = baseP q k ++ (if keyAt q (j - 1) ≤ k then upP q k q.length (j + 1) else downP q k (j - 1)) := by
    unfold pathI; rw [if_neg hn, if_neg (by omega), if_neg c3, hJ, Int.toNat_natCast]
  have fpos : 0 < f := by
    rcases Nat.eq_zero_or_pos f with g | g
    · have := f3 0 (by omega) (by omega); omega
    · exact g
  have flt : f < q.length := by
    rcases Nat.lt_or_ge f q.length with g | g
    · exact g
    · have := f2 (q.length - 1) (by omega); omega
  have e2 : (RS.step R { RS.init a k with degree := R a, first := keyAt q 0, i := R a - 1, next := 2 }) = RS.guess { RS.init a k with degree := R a, first := keyAt q 0, i := R a - 1, next := 2 } (keyAt q (q.length - 1)) := by
    rw [hstep2]; rw [RS.key2 rfl, if_pos (by show k < _; omega)]
  have hg : guessI (keyAt q 0) (keyAt q (q.length - 1)) k (R a - 1) = j := by rw [h0, show (q.length : Int) + 1 - 1 = q.length by omega]; exact hj
  rw [e]
  unfold baseP
  rw [hJ]
  by_cases c4 : 1 < j
  · have e3 : RS.guess { RS.init a k with degree := R a, first := keyAt q 0, i := R a - 1, next := 2 } (keyAt q (q.length - 1)) = { RS.init a k with degree := R a, first := keyAt q 0, i := (j : Int), next := 3 } := by
      unfold RS.guess
      show (if 1 < guessI (keyAt q 0) (keyAt q (q.length - 1)) k (R a - 1) then _ else _) = _
      rw [hg, if_pos (by omega)]
      show RS.mk 3 a k (R a) (guessI (keyAt q 0) (keyAt q (q.length - 1)) k (R a - 1)) _ _ = _
      rw [hg]; rfl
    have hjq : R (keyAtI a j) = keyAt q (j - 1) := hR j (by omega) (by omega)
    have hstep3 : (RS.step R { RS.init a k with degree := R a, first := keyAt q 0, i := (j : Int), next := 3 }) = RS.key { RS.init a k with degree := R a, first := keyAt q 0, i := (j : Int), next := 3 } (keyAt q (j - 1)) := by
      rw [RS.stepK (by simp) (by simp)]
      show RS.key _ (R (keyAtI a j)) = _
      rw [hjq]
    rw [if_pos (by omega)]
    have go : ∀ {n : Nat} {s' : RS}, RS.Runs R (RS.step R { RS.init a k with degree := R a, first := keyAt q 0, i := (j : Int), next := 3 }) n s' → RS.Runs R (RS.init a k) (n + 1 + 1 + 1 + 1) s' := by
      intro n s' h
      exact .step (by simp [RS.init]) (by rw [hstep0]; exact .step (by simp [RS.init]) (by rw [e1]; exact .step (by simp [RS.init]) (by rw [e2, e3]; exact .step (by simp [RS.init]) h)))
    by_cases c5 : keyAt q (j - 1) ≤ k
    · rw [if_pos c5]
      have jf : j ≤ f := by
        rcases Nat.lt_or_ge f j with g | g
        · have := f3 (j - 1) (by omega) (by omega); omega
        · exact g
      have e4 : (RS.step R { RS.init a k with degree := R a, first := keyAt q 0, i := (j : Int), next := 3 }) = RS.up { RS.init a k with degree := R a, first := keyAt q 0, i := (j : Int), next := 3 } ((j + 1 : Nat) : Int) := by
        rw [hstep3]; rw [RS.key3 rfl, if_neg (by show ¬ k < _; omega)]; rfl
      obtain ⟨s', r, he⟩ := RS.runs_up hR flt f2 f3 q.length (j + 1) { RS.init a k with degree := R a, first := keyAt q 0, i := (j : Int), next := 3 } ⟨rfl, rfl, h0⟩ (by omega) (by omega) (by omega)
      refine ⟨s', ?_, he⟩
      have := go (by rw [e4]; exact r)
      simpa [Nat.add_assoc, Nat.add_comm, Nat.add_left_comm] using this
    · rw [if_neg c5]
      have jf : f < j := by
        rcases Nat.lt_or_ge f j with g | g
        · exact g
        · have := f2 (j - 1) (by omega); omega
      have e4 : (RS.step R { RS.init a k with degree := R a, first := keyAt q 0, i := (j : Int), next := 3 }) = RS.down { RS.init a k with degree := R a, first := keyAt q 0, i := (j : Int), next := 3 } ((j - 1 : Nat) : Int) := by
        rw [hstep3]; rw [RS.key3 rfl, if_pos (by show k < _; omega)]
        show RS.down _ ((j : Int) - 1) = _
        rw [show (j : Int) - 1 = ((j - 1 : Nat) : Int) by omega]
      obtain ⟨s', r, he⟩ := RS.runs_down hR fpos f2 f3 (j - 1) { RS.init a k with degree := R a, first := keyAt q 0, i := (j : Int), next := 3 } ⟨rfl, rfl, h0⟩ (by omega) (.inl (by omega))
      refine ⟨s', ?_, he⟩
      have := go (by rw [e4]; exact r)
      simpa [Nat.add_assoc, Nat.add_comm, Nat.add_left_comm] using this
  · have ej : j = 1 := by omega
    have e3 : RS.guess { RS.init a k with degree := R a, first := keyAt q 0, i := R a - 1, next := 2 } (keyAt q (q.length - 1)) = RS.up { RS.init a k with degree := R a, first := keyAt q 0, i := R a - 1, next := 2 } ((2 : Nat) : Int) := by
      unfold RS.guess
      show (if 1 < guessI (keyAt q 0) (keyAt q (q.length - 1)) k (R a - 1) then _ else _) = _
      rw [hg, if_neg (by omega)]; rfl
    rw [if_neg (by omega)]
    have c5 : keyAt q (j - 1) ≤ k := by rw [ej]; show keyAt q 0 ≤ k; omega
    rw [if_pos c5, ej]
    obtain ⟨s', r, he⟩ := RS.runs_up hR flt f2 f3 q.length 2 { RS.init a k with degree := R a, first := keyAt q 0, i := R a - 1, next := 2 } ⟨rfl, rfl, h0⟩ (by omega) (by omega) (by omega)
    refine ⟨s', ?_, he⟩
    have : RS.Runs R (RS.init a k) ((upP q k q.length 2).length + 1 + 1 + 1) s' := .step (by simp [RS.init]) (by rw [hstep0]; exact .step (by simp [RS.init]) (by rw [e1]; exact .step (by simp [RS.init]) (by rw [e2, e3]; exact r)))
    simpa [Nat.add_assoc, Nat.add_comm, Nat.add_left_comm] using this
end
end Go.Proofs.YtblajeildolloaaGreat

/- Records' addresses: near, KeyAt, ChildAt. -/
namespace Go.Proofs.YtblajeildolloaaGreat
set_option linter.unusedVariables false
set_option linter.unusedSimpArgs false
open Go.RowKit

theorem nearB_yes {x : Int} (h : nearB x = true) : 0 ≤ x ∧ x ≤ 1099511627776 := by
  unfold nearB at h; simpa using h
theorem nearB_no {x : Int} (h : nearB x = false) : x < 0 ∨ 1099511627776 < x := by
  unfold nearB at h; simp at h; omega
set_option maxHeartbeats 400000 in
theorem near1_any (x : Int) (w : World) : Calls Tryz.prog 193 #[.int .i64 x] w fun e w' => e = .returned (.bool (!nearB x)) ∧ w = w' := by
  cases h : nearB x with
  | true =>
    obtain ⟨h1, h2⟩ := nearB_yes h
    have b1 : decide (x < 0) = false := by simp; omega
    have b2 : decide (1099511627776 < x) = false := by simp; omega
    clear h
    go_enter Tryz.func193, Tryz.ntmps193
    go_wp2
    go_ret
    exact ⟨rfl, rfl⟩
  | false =>
    by_cases h1 : x < 0
    · clear h
      go_enter Tryz.func193, Tryz.ntmps193
      go_wp2
      go_ret
      exact ⟨rfl, rfl⟩
    · have h2 : 1099511627776 < x := by have := nearB_no h; omega
      clear h
      go_enter Tryz.func193, Tryz.ntmps193
      go_wp2
      go_ret
      exact ⟨rfl, rfl⟩

def IdxPost (L : List Int) (w : World) (e : Ending) (w' : World) : Prop := ∃ j : Int, e = .returned (.int .i64 j) ∧ w = w' ∧ -1 ≤ j ∧ j ≤ 100 ∧ (L.all nearB = true → j = -1) ∧ (L.all nearB = false → 0 ≤ j)
theorem all_take_succ {L : List Int} {k : Nat} (h : k < L.length) (ha : (L.take k).all nearB = true) (hk : nearB (keyAt L k) = true) : (L.take (k + 1)).all nearB = true := by
  rw [List.take_add_one, List.getElem?_eq_getElem h, List.all_append, ha]
  simpa [keyAt, List.getD_eq_getElem?_getD, h] using hk
theorem all_not {L : List Int} {k : Nat} (h : k < L.length) (hk : nearB (keyAt L k) = false) : L.all nearB = false := by
  rw [List.all_eq_false]
  exact ⟨L[k], List.getElem_mem _, by simpa [keyAt, List.getD_eq_getElem?_getD, h] using hk⟩
set_option maxHeartbeats 1000000 in
theorem indexf_any (A : Option Addr) (c B : Nat) (L : List Int) (w : World) (hq : IntsAt w B A L) (hl : L.length ≤ 50) :
    Calls Tryz.prog 225 #[.slice A L.length c, .func (.func 193) #[] #[]] w (IdxPost L w) := by
  have HQ := Lib.hid hq
  clear hq
  go_enter Tryz.func225, Tryz.ntmps225
  go_wp2
  go_loop [8] (fun i => ∃ k : Nat, k ≤ L.length ∧ i = .int .i64 k ∧ Hid ((L.take k).all nearB = true)) (fun i => L.length - (intOf i).toNat)
  case atStart => exact ⟨0, by omega, rfl, Lib.hid rfl⟩
  case round =>
    obtain ⟨k, k1, rfl, ha⟩ := hrel
    by_cases hlt : k < L.length
    · obtain ⟨ad, rfl, hbl, hc⟩ := HQ.out.cells (by omega)
      have hx := hc k hlt
      have hS := Lib.hid (fun h => all_take_succ hlt ha.out h)
      have hN := Lib.hid (fun h => all_not hlt h)
      obtain ⟨x, hxe⟩ : ∃ x, keyAt L k = x := ⟨_, rfl⟩
      rw [hxe] at hx hS hN
      clear hc hxe
      cases hb : nearB x with
      | true =>
        have hs := Lib.hid (hS.out hb)
        clear hS hN ha
        have HB := Lib.hid hb
        clear hb
        go_wp2_with (fail)
        with_reducible refine (near1_any x _).mono ?_
        rintro e w1 ⟨rfl, rfl⟩
        have hb := HB.out
        go_wp2_with (fail)
        go_round
        case rel => exact ⟨k + 1, by omega, by go_num, hs⟩
        case measure => simp [intOf]; omega
      | false =>
        have hs := Lib.hid (hN.out hb)
        clear hS hN ha
        have HB := Lib.hid hb
        clear hb
        go_wp2_with (fail)
        with_reducible refine (near1_any x _).mono ?_
        rintro e w1 ⟨rfl, rfl⟩
        have hb := HB.out
        go_wp2_with (fail)
        go_ret
        exact ⟨k, rfl, rfl, by omega, by omega, fun h => (by rw [hs.out] at h; cases h), fun _ => by omega⟩
    · have hk : k = L.length := by omega
      have hs := Lib.hid (show L.all nearB = true by have := ha.out; rw [hk, List.take_of_length_le (Nat.le_refl _)] at this; exact this)
      clear ha
      go_wp2_with (fail)
      go_ret
      exact ⟨-1, rfl, rfl, by omega, by omega, fun _ => rfl, fun h => (by rw [hs.out] at h; cases h)⟩
set_option maxHeartbeats 400000 in
theorem contains_any (A : Option Addr) (c B : Nat) (L : List Int) (w : World) (hq : IntsAt w B A L) (hl : L.length ≤ 50) :
    Calls Tryz.prog 192 #[.slice A L.length c, .func (.func 193) #[] #[]] w fun e w' => e = .returned (.bool (!L.all nearB)) ∧ w = w' := by
  have HQ := Lib.hid hq
  clear hq
  go_enter Tryz.func192, Tryz.ntmps192
  go_wp2_with (fail)
  with_reducible refine (indexf_any A c B L w HQ.out hl).mono ?_
  rintro e w1 ⟨j, rfl, rfl, j0, j1, ht, hf⟩
  cases hb : L.all nearB with
  | true =>
    have e1 := ht hb
    have HB := Lib.hid hb
    clear ht hf hb
    subst e1
    go_wp2_with (fail)
    go_ret
    rw [HB.out]
    exact ⟨rfl, rfl⟩
  | false =>
    have e1 := hf hb
    have HB := Lib.hid hb
    clear ht hf hb
    go_wp2_with (fail)
    go_ret
    rw [HB.out]
    exact ⟨rfl, rfl⟩
set_option maxHeartbeats 400000 in
theorem near_any (A : Option Addr) (c B N : Nat) (L : List Int) (w : World) (hN : N = L.length) (hq : IntsAt w B A L) (hl : L.length ≤ 50) :
    Calls Tryz.prog 152 #[.slice A N c] w fun e w' => e = .returned (.bool (L.all nearB)) ∧ w = w' := by
  subst hN
  have HQ := Lib.hid hq
  clear hq
  go_enter Tryz.func152, Tryz.ntmps152
  go_wp2_with (fail)
  with_reducible refine (contains_any A c B L w HQ.out hl).mono ?_
  rintro e w1 ⟨rfl, rfl⟩
  cases hb : L.all nearB with
  | true =>
    have HB := Lib.hid hb
    clear hb
    go_wp2_with (fail)
    go_ret
    rw [HB.out]
    exact ⟨rfl, rfl⟩
  | false =>
    have HB := Lib.hid hb
    clear hb
    go_wp2_with (fail)
    go_ret
    rw [HB.out]
    exact ⟨rfl, rfl⟩

theorem ints_row (w : World) (t : TypeId) (L : List Int) : IntsAt (w.alloc (.cells (L.map (Value.int .i64)).toArray t)) (w.heap.size + 1) (some ⟨w.heap.size, 0, none⟩) L := by
  refine ⟨by simp, fun _ => ⟨_, rfl, Nat.lt_succ_self _, fun j u hu => ?_⟩⟩
  have e : (⟨w.heap.size, 0, none⟩ : Addr).add j = ⟨w.heap.size, j, none⟩ := by unfold Addr.add; split <;> simp_all
  rw [e]
  have := (Blk.new w t (L.map (Value.int .i64)).toArray).cell j
  rw [this]
  simpa using hu
set_option maxHeartbeats 400000 in
theorem keyat_any (n i : Int) (w : World) :
    Calls Tryz.prog 94 #[.int .i64 n, .int .i64 i] w fun e w' => e = .returned (.int .i64 (keyAtI n i)) ∧ Below w.heap.size w w' := by
  have hB := (Below.refl w.heap.size w).alloc (Nat.le_refl _) (.cells #[.int .i64 n, .int .i64 i] 3)
  have hq0 : IntsAt (w.alloc (.cells #[.int .i64 n, .int .i64 i] 3)) (w.heap.size + 1) (some ⟨w.heap.size, 0, none⟩) [n, i] := ints_row w 3 [n, i]
  have HQ := Lib.hid hq0
  clear hq0
  cases hb : [n, i].all nearB with
  | true =>
    have h2 : nearB n = true ∧ nearB i = true := by simpa using hb
    obtain ⟨a1, a2⟩ := nearB_yes h2.1
    obtain ⟨a3, a4⟩ := nearB_yes h2.2
    have HK := Lib.hid (show keyAtI n i = n + 4 + i from if_pos h2)
    have HB := Lib.hid hb
    clear hb h2
    go_enter Tryz.func94, Tryz.ntmps94
    go_wp2_with (fail)
    with_reducible refine (near_any _ _ _ 2 [n, i] _ (by kernel_rfl) HQ.out (by simp)).mono ?_
    rintro e w1 ⟨rfl, rfl⟩
    rw [HB.out]
    go_wp2_with (fail)
    go_ret
    rw [HK.out]
    exact ⟨rfl, hB⟩
  | false =>
    have HK := Lib.hid (show keyAtI n i = 0 from if_neg (fun h => by simp [h.1, h.2] at hb))
    have HB := Lib.hid hb
    clear hb
    go_enter Tryz.func94, Tryz.ntmps94
    go_wp2_with (fail)
    with_reducible refine (near_any _ _ _ 2 [n, i] _ (by kernel_rfl) HQ.out (by simp)).mono ?_
    rintro e w1 ⟨rfl, rfl⟩
    rw [HB.out]
    go_wp2_with (fail)
    go_ret
    rw [HK.out]
    exact ⟨rfl, hB⟩
set_option maxHeartbeats 400000 in
theorem childat_any (n d i : Int) (w : World) :
    Calls Tryz.prog 117 #[.int .i64 n, .int .i64 d, .int .i64 i] w fun e w' => e = .returned (.int .i64 (childAtI n d i)) ∧ Below w.heap.size w w' := by
  have hB := (Below.refl w.heap.size w).alloc (Nat.le_refl _) (.cells #[.int .i64 n, .int .i64 d, .int .i64 i] 3)
  have hq0 : IntsAt (w.alloc (.cells #[.int .i64 n, .int .i64 d, .int .i64 i] 3)) (w.heap.size + 1) (some ⟨w.heap.size, 0, none⟩) [n, d, i] := ints_row w 3 [n, d, i]
  have HQ := Lib.hid hq0
  clear hq0
  cases hb : [n, d, i].all nearB with
  | true =>
    have h2 : nearB n = true ∧ nearB d = true ∧ nearB i = true := by simpa using hb
    obtain ⟨a1, a2⟩ := nearB_yes h2.1
    obtain ⟨a3, a4⟩ := nearB_yes h2.2.1
    obtain ⟨a5, a6⟩ := nearB_yes h2.2.2
    have HK := Lib.hid (show childAtI n d i = n + 4 + d + i from if_pos h2)
    have HB := Lib.hid hb
    clear hb h2
    go_enter Tryz.func117, Tryz.ntmps117
    go_wp2_with (fail)
    with_reducible refine (near_any _ _ _ 3 [n, d, i] _ (by kernel_rfl) HQ.out (by simp)).mono ?_
    rintro e w1 ⟨rfl, rfl⟩
    rw [HB.out]
    go_wp2_with (fail)
    go_ret
    rw [HK.out]
    exact ⟨rfl, hB⟩
  | false =>
    have HK := Lib.hid (show childAtI n d i = 0 from if_neg (fun h => by simp [h.1, h.2.1, h.2.2] at hb))
    have HB := Lib.hid hb
    clear hb
    go_enter Tryz.func117, Tryz.ntmps117
    go_wp2_with (fail)
    with_reducible refine (near_any _ _ _ 3 [n, d, i] _ (by kernel_rfl) HQ.out (by simp)).mono ?_
    rintro e w1 ⟨rfl, rfl⟩
    rw [HB.out]
    go_wp2_with (fail)
    go_ret
    rw [HK.out]
    exact ⟨rfl, hB⟩
end Go.Proofs.YtblajeildolloaaGreat

/- New, Count, Odd, Used, Size; InnerWords, EmptyWords, Begin. -/
namespace Go.Proofs.YtblajeildolloaaGreat
set_option linter.unusedVariables false
set_option linter.unusedSimpArgs false
open Go.RowKit

theorem Only.grow {S T : List Nat} {w w1 w2 : World} (h : Only S w w1) (k : Only T w1 w2) (hT : ∀ x ∈ T, x ∈ S ∨ w.heap.size ≤ x) : Only S w w2 :=
  ⟨k.os.trans h.os, k.tape.trans h.tape, k.output.trans h.output, Nat.le_trans h.size k.size, fun i hi h1 => (k.block i (Nat.lt_of_lt_of_le hi h.size) (fun hm => by
    rcases hT i hm with h2 | h2
    · exact h1 h2
    · omega)).trans (h.block i hi h1)⟩
theorem own_base {w : World} {base base' n : Nat} {e : TypeId} {size : Nat} {v : Value} {xs : List Value} (h : w.ownsRow base e size v n xs) (hb : base' ≤ base) : w.ownsRow base' e size v n xs := by
  refine ⟨h.1, ?_⟩
  rcases h.2 with h0 | ⟨g, cap, cur, rfl, hg, rest⟩
  · exact .inl h0
  · exact .inr ⟨g, cap, cur, rfl, Nat.le_trans hb hg, rest⟩
theorem IntsAt.nil (w : World) (B : Nat) : IntsAt w B none [] := Reads.none_
theorem RowsAt.at_ {w : World} {B B' : Nat} {A : Option Addr} {R : List (Option Addr × Nat × List Int)} (h : RowsAt w B A R) (hb : B' = B) : RowsAt w B' A R := hb ▸ h
set_option maxHeartbeats 400000 in
theorem memNew_any (n : Int) (w : World) (h0 : 1 ≤ n) (h1 : n ≤ 65536) :
    Calls Tryz.prog 36 #[.int .i64 n] w fun e w' => e = .returned (.tuple #[.pointer (some ⟨w.heap.size, 0, none⟩), .int .i64 0]) ∧ MemP w.heap.size w.heap.size (.slice none 0 0) [] n 0 0 0 w' ∧ Below w.heap.size w w' := by
  have H : Hid (MemP w.heap.size w.heap.size (.slice none 0 0) [] n 0 0 0 (w.alloc (.cells #[.slice none 0 0, .int .i64 n, .int .i64 0, .int .i64 0, .int .i64 0] 134))) := Lib.hid ⟨Blk.new w _ _, World.ownsRow_nil _ _ _ _, Nat.le_refl _⟩
  go_enter Tryz.func36, Tryz.ntmps36
  go_wp2_with (fail)
  go_ret2
  exact ⟨rfl, H.out, (Below.refl _ _).alloc (Nat.le_refl _) _⟩
section
variable (B b : Nat) (v : Value) (C : List Int) (size count odd ref : Int) (w : World) (h : MemP B b v C size count odd ref w)
set_option maxHeartbeats 400000 in
include h in
theorem count_any : Calls Tryz.prog 69 #[.pointer (some ⟨b, 0, none⟩)] w fun e w' => e = .returned (.int .i64 count) ∧ w = w' := by
  have c2 : w.cell? ⟨b, 2, none⟩ = some (.int .i64 count) := h.blk.cell 2
  clear h
  go_enter Tryz.func69, Tryz.ntmps69
  go_wp2_with (fail)
  go_ret
  exact ⟨rfl, rfl⟩
set_option maxHeartbeats 400000 in
include h in
theorem odd_any : Calls Tryz.prog 85 #[.pointer (some ⟨b, 0, none⟩)] w fun e w' => e = .returned (.int .i64 odd) ∧ w = w' := by
  have c2 : w.cell? ⟨b, 3, none⟩ = some (.int .i64 odd) := h.blk.cell 3
  clear h
  go_enter Tryz.func85, Tryz.ntmps85
  go_wp2_with (fail)
  go_ret
  exact ⟨rfl, rfl⟩
set_option maxHeartbeats 400000 in
include h in
theorem used_any : Calls Tryz.prog 47 #[.pointer (some ⟨b, 0, none⟩)] w fun e w' => e = .returned (.int .i64 C.length) ∧ w = w' := by
  obtain ⟨A, c, rfl⟩ := own_shape h.own
  have c2 : w.cell? ⟨b, 0, none⟩ = some (.slice A C.length c) := h.blk.cell 0
  clear h
  go_enter Tryz.func47, Tryz.ntmps47
  go_wp2_with (fail)
  go_ret
  exact ⟨rfl, rfl⟩
set_option maxHeartbeats 400000 in
include h in
theorem size_any : Calls Tryz.prog 98 #[.pointer (some ⟨b, 0, none⟩)] w fun e w' => e = .returned (.int .i64 size) ∧ w = w' := by
  have c2 : w.cell? ⟨b, 1, none⟩ = some (.int .i64 size) := h.blk.cell 1
  clear h
  go_enter Tryz.func98, Tryz.ntmps98
  go_wp2_with (fail)
  go_ret
  exact ⟨rfl, rfl⟩
end
/-- A slice's place as read later: what a slice of whole numbers comes to. -/
theorem SomeOwn.later {L : List Int} {w w' : World} {e : Ending} (h : SomeOwn L w e w') : ∃ A c, e = .returned (.slice A L.length c) ∧ IntsAt w' w'.heap.size A L ∧ Below w.heap.size w w' ∧ ∀ ad, A = some ad → w.heap.size ≤ ad.block := by
  obtain ⟨v, rfl, hO, hb⟩ := h
  obtain ⟨A, c, rfl⟩ := own_shape hO
  refine ⟨A, c, rfl, Reads.of_own hO, hb, fun ad ha => ?_⟩
  subst ha
  exact (hO.lt ad.block rfl).1
set_option maxRecDepth 100000 in
set_option maxHeartbeats 1000000 in
theorem innerW_any (n : Int) (Aq : Option Addr) (cq : Nat) (q : List Int) (Ac : Option Addr) (cc : Nat) (ch : List Int) (Nq Nc : Nat) (w : World) (hNq : Nq = q.length) (hNc : Nc = ch.length) (hq : IntsAt w w.heap.size Aq q) (hc : IntsAt w w.heap.size Ac ch) (hl : ch.length = q.length + 1) (hq2 : q.length ≤ 100000) :
    Calls Tryz.prog 88 #[.int .i64 n, .slice Aq Nq cq, .slice Ac Nc cc] w (SomeOwn ([(ch.length : Int), n, 0, 0, 0] ++ q ++ ch) w) := by
  subst hNq hNc
  have e0 : ((ch.length : Int) != (q.length : Int) + 1) = false := by rw [hl]; simp
  have hl2 : ch.length ≤ 100001 := by omega
  have hsz1 : (w.alloc (.cells #[.int .i64 ch.length, .int .i64 n, .int .i64 0, .int .i64 0, .int .i64 0] 2)).heap.size = w.heap.size + 1 := by simp
  have hrows : RowsAt ((w.alloc (.cells #[.int .i64 ch.length, .int .i64 n, .int .i64 0, .int .i64 0, .int .i64 0] 2)).alloc (.cells #[.slice (some ⟨w.heap.size, 0, none⟩) 5 5, .slice Aq q.length cq, .slice Ac ch.length cc] 22)) (w.heap.size + 1 + 1) (some ⟨w.heap.size + 1, 0, none⟩) [(some ⟨w.heap.size, 0, none⟩, 5, [(ch.length : Int), n, 0, 0, 0]), (Aq, cq, q), (Ac, cc, ch)] := by
    refine ⟨⟨rfl, fun _ => ⟨_, rfl, by simp, fun j u hu => ?_⟩⟩, ?_⟩
    · have e : (⟨w.heap.size + 1, 0, none⟩ : Addr).add j = ⟨w.heap.size + 1, j, none⟩ := by unfold Addr.add; split <;> simp_all
      rw [e]
      have := (Blk.new (w.alloc (.cells #[.int .i64 ch.length, .int .i64 n, .int .i64 0, .int .i64 0, .int .i64 0] 2)) 22 #[.slice (some ⟨w.heap.size, 0, none⟩) 5 5, .slice Aq q.length cq, .slice Ac ch.length cc]).cell j
      rw [hsz1] at this
      rw [this]
      simpa [rowV] using hu
    · intro r hr
      simp at hr
      rcases hr with rfl | rfl | rfl
      · exact ((ints_row w 2 [(ch.length : Int), n, 0, 0, 0]).alloc (by simp) _).more (by omega)
      · exact ((hq.alloc (Nat.le_refl _) _).alloc (by simp) _).more (by omega)
      · exact ((hc.alloc (Nat.le_refl _) _).alloc (by simp) _).more (by omega)
  have HR := Lib.hid hrows
  have hB := Lib.hid (((Below.refl w.heap.size w).alloc (Nat.le_refl _) (.cells #[.int .i64 ch.length, .int .i64 n, .int .i64 0, .int .i64 0, .int .i64 0] 2)).alloc (by simp) (.cells #[.slice (some ⟨w.heap.size, 0, none⟩) 5 5, .slice Aq q.length cq, .slice Ac ch.length cc] 22))
  clear hq hc hl hsz1 hrows
  go_enter Tryz.func88, Tryz.ntmps88
  go_wp2_with (fail)
  with_reducible refine (concat_any _ _ 3 _ _ (by kernel_rfl) (HR.out.at_ (by simp)) (by simp) (by simp [flatR]; omega)).mono ?_
  rintro e w1 ⟨v1, rfl, hO, hb⟩
  have hB1 := hB.out.trans (hb.mono (by simp; omega))
  have hO1 : w1.ownsRow w.heap.size 2 1 v1 ([(ch.length : Int), n, 0, 0, 0] ++ q ++ ch).length (([(ch.length : Int), n, 0, 0, 0] ++ q ++ ch).map (Value.int .i64)) := by
    have e : flatR [(some (⟨w.heap.size, 0, none⟩ : Addr), 5, [(ch.length : Int), n, 0, 0, 0]), (Aq, cq, q), (Ac, cc, ch)] = [(ch.length : Int), n, 0, 0, 0] ++ q ++ ch := by simp [flatR]
    rw [e] at hO
    exact own_base hO (by simp; omega)
  have HO := Lib.hid hO1
  clear hO hb hO1
  go_wp2_with (fail)
  go_ret
  exact ⟨_, rfl, HO.out, hB1⟩

set_option maxHeartbeats 400000 in
theorem emptyW_any (w : World) : Calls Tryz.prog 81 #[] w fun e w' => e = .returned (.slice (some ⟨w.heap.size, 0, none⟩) 1 1) ∧ IntsAt w' (w.heap.size + 1) (some ⟨w.heap.size, 0, none⟩) [0] ∧ Below w.heap.size w w' := by
  have H : Hid (IntsAt (w.alloc (.cells #[.int .i64 0] 2)) (w.heap.size + 1) (some ⟨w.heap.size, 0, none⟩) [0]) := Lib.hid (ints_row w 2 [0])
  go_enter Tryz.func81, Tryz.ntmps81
  go_wp2_with (fail)
  go_ret
  exact ⟨rfl, H.out, (Below.refl _ _).alloc (Nat.le_refl _) _⟩
set_option maxHeartbeats 400000 in
theorem may17 (w : World) : Calls Tryz.prog 144 #[.int .i64 1, .int .i64 7] w fun e w' => e = .returned (.bool true) ∧ w = w' := by
  go_enter Tryz.func144, Tryz.ntmps144
  go_wp2_with (fail)
  go_ret
  exact ⟨rfl, rfl⟩
set_option maxHeartbeats 400000 in
theorem of17 (w : World) : Calls Tryz.prog 82 #[.int .i64 1, .int .i64 7] w fun e w' => e = .returned (.int .i64 57) ∧ w = w' := by
  go_enter Tryz.func82, Tryz.ntmps82
  go_wp2_with (fail)
  with_reducible refine (may17 _).mono ?_
  rintro e w1 ⟨rfl, rfl⟩
  go_wp2_with (fail)
  go_ret
  exact ⟨by rfl, rfl⟩
def beginL : List Int := [1, 0, 0, 0, 0, 57, 0]
set_option maxRecDepth 100000 in
set_option maxHeartbeats 1000000 in
theorem begin_any (B b : Nat) (size count odd ref : Int) (w : World) (h : MemP B b (.slice none 0 0) [] size count odd ref w) (h0 : 7 ≤ size) (h1 : size ≤ 65536) :
    Calls Tryz.prog 37 #[.pointer (some ⟨b, 0, none⟩)] w fun e w' => e = .returned (.bool true) ∧ ∃ v', MemP B b v' beginL size (bump (bump count)) odd ref w' ∧ Only [b] w w' ∧ (∀ g, v'.ownBlock = some g → w.heap.size ≤ g) := by
  have H := Lib.hid h
  clear h
  go_enter Tryz.func37, Tryz.ntmps37
  go_wp2_with (fail)
  with_reducible refine (used_any B b _ [] size count odd ref _ H.out).mono ?_
  rintro e w1 ⟨rfl, rfl⟩
  go_wp2_with (fail)
  with_reducible refine (size_any B b _ [] size count odd ref _ H.out).mono ?_
  rintro e w1 ⟨rfl, rfl⟩
  go_wp2_with (fail)
  with_reducible refine (of17 _).mono ?_
  rintro e w1 ⟨rfl, rfl⟩
  have hq0 : IntsAt (w.alloc (.cells #[.int .i64 57] 2)) (w.alloc (.cells #[.int .i64 57] 2)).heap.size (some ⟨w.heap.size, 0, none⟩) [57] := (ints_row w 2 [57]).more (by simp)
  have HQ := Lib.hid hq0
  have hb1 := (Below.refl w.heap.size w).alloc (Nat.le_refl _) (.cells #[.int .i64 57] 2)
  have H1 := Lib.hid (H.out.below hb1)
  have O1 := Lib.hid (Only.of_below (S := [b]) hb1)
  have hsz1 : w.heap.size + 1 = (w.alloc (.cells #[.int .i64 57] 2)).heap.size := by simp
  have Z1 := Lib.hid hsz1
  have hblt : b < w.heap.size := H.out.blk.lt
  clear hq0 hb1 H hsz1
  go_wp2_with (fail)
  with_reducible refine (innerW_any 0 none 0 [] _ _ [57] 0 1 _ (by kernel_rfl) (by kernel_rfl) (IntsAt.nil _ _) HQ.out (by simp) (by simp)).mono ?_
  rintro e w2 ⟨v2, rfl, hO2, hb2⟩
  have H2 := Lib.hid (H1.out.below hb2)
  have O2 := Lib.hid (O1.out.trans (Only.of_below hb2))
  have Z2 := Lib.hid (show w.heap.size + 1 ≤ w2.heap.size by have := hb2.size; rw [← Z1.out] at this; exact this)
  replace hO2 : w2.ownsRow (w.alloc (.cells #[.int .i64 57] 2)).heap.size 2 1 v2 6 (([1, 0, 0, 0, 0, 57] : List Int).map (Value.int .i64)) := hO2
  obtain ⟨A2, c2, rfl⟩ := own_shape hO2
  have hA2 : ∀ ad, A2 = some ad → ad.block ≠ b := by
    intro ad ha
    subst ha
    have := (hO2.lt ad.block rfl).1
    rw [← Z1.out] at this
    omega
  have HQ2 : Hid (IntsAt w2 w2.heap.size A2 ([1, 0, 0, 0, 0, 57] : List Int)) := Lib.hid (Reads.of_own hO2)
  clear hO2 hb2 H1 O1 HQ
  go_wp2_with (fail)
  with_reducible refine (make_ok B b _ [] size count odd ref _ H2.out (by simp; omega) h1 A2 c2 ([1, 0, 0, 0, 0, 57] : List Int) 6 (by kernel_rfl) HQ2.out hA2 (by simp) (by simp; omega)).mono ?_
  rintro e w3 ⟨rfl, v3, h3, m3, o3⟩
  have h3' : MemP B b v3 ([1, 0, 0, 0, 0, 57] : List Int) size (bump count) odd ref w3 := h3
  have g3 : ∀ g, v3.ownBlock = some g → w.heap.size ≤ g := by
    intro g hg
    rcases o3 with e | ⟨g', e, hge⟩
    · rw [e] at hg; simp [Value.ownBlock] at hg
    · rw [e] at hg; injection hg with hg; have := Z2.out; omega
  have H3 := Lib.hid h3'
  have O3 := Lib.hid (O2.out.trans (Only.of_mvr (S := [b]) m3 (by simp) (fun g hg => by simp [Value.ownBlock] at hg)))
  have G3 := Lib.hid g3
  have Z3 := Lib.hid (show w.heap.size + 1 ≤ w3.heap.size by have := m3.size; have := Z2.out; omega)
  clear h3 h3' m3 o3 H2 O2 Z2 HQ2 g3 Z1
  go_wp2_with (fail)
  with_reducible refine (emptyW_any _).mono ?_
  rintro e w4 ⟨rfl, hq4, hb4⟩
  have H4 := Lib.hid (H3.out.below hb4)
  have O4 := Lib.hid (O3.out.trans (Only.of_below hb4))
  have HQ4 := Lib.hid (show IntsAt w4 w4.heap.size (some ⟨w3.heap.size, 0, none⟩) [0] from hq4.more (by
    obtain ⟨ad, e, h1, h2⟩ := hq4.2 (by simp)
    injection e with e
    subst e
    have := World.block_lt_of_cell? w4 _ (h2 0 _ rfl)
    rw [block_of_add] at this
    exact this))
  have Z4 := Lib.hid (show w3.heap.size ≤ w4.heap.size from hb4.size)
  have hbl : b < w3.heap.size := H3.out.blk.lt
  clear hq4 hb4 H3 O3
  go_wp2_with (fail)
  with_reducible refine (make_ok B b v3 ([1, 0, 0, 0, 0, 57] : List Int) size (bump count) odd ref _ H4.out (by simp; omega) h1 (some ⟨w3.heap.size, 0, none⟩) 1 ([0] : List Int) 1 (by kernel_rfl) HQ4.out (fun ad ha => by injection ha with ha; subst ha; show w3.heap.size ≠ b; omega) (by simp) (by simp; omega)).mono ?_
  rintro e w5 ⟨rfl, v5, h5, m5, o5⟩
  have h5' : MemP B b v5 beginL size (bump (bump count)) odd ref w5 := h5
  have H5 := Lib.hid h5'
  have O5 := Lib.hid (O4.out.grow (Only.of_mvr (S := b :: v3.ownBlock.toList) m5 (by simp) (fun g hg => by simp [hg])) (fun x hx => by
    rcases List.mem_cons.1 hx with rfl | hx
    · exact .inl (by simp)
    · exact .inr (G3.out x (by simpa using hx))))
  have G5 : ∀ g, v5.ownBlock = some g → w.heap.size ≤ g := by
    intro g hg
    rcases o5 with e | ⟨g', e, hge⟩
    · rw [e] at hg; exact G3.out g hg
    · rw [e] at hg; injection hg with hg; have := Z3.out; have := Z4.out; omega
  have HG := Lib.hid G5
  clear h5 h5' m5 o5 G5 H4 O4 HQ4
  go_wp2_with (fail)
  go_ret
  exact ⟨rfl, v5, H5.out, O5.out, HG.out⟩
end Go.Proofs.YtblajeildolloaaGreat

/- Words: what may have been turned, as a set of blocks; lists of pairs and spots. -/
namespace Go.Proofs.YtblajeildolloaaGreat
set_option linter.unusedVariables false
set_option linter.unusedSimpArgs false
open Go.RowKit

/-- Of what there was nothing but blocks of F has been turned. -/
structure Chg (F : Nat → Prop) (w w' : World) : Prop where
  os : w'.os = w.os
  tape : w'.tape = w.tape
  output : w'.output = w.output
  size : w.heap.size ≤ w'.heap.size
  block : ∀ k, k < w.heap.size → ¬ F k → w'.heap[k]? = w.heap[k]?
section
variable {F G : Nat → Prop} {S : List Nat} {w w1 w' : World}
theorem Chg.refl (F : Nat → Prop) (w : World) : Chg F w w := ⟨rfl, rfl, rfl, Nat.le_refl _, fun _ _ _ => rfl⟩
theorem Chg.trans (h : Chg F w w1) (k : Chg F w1 w') : Chg F w w' :=
  ⟨k.os.trans h.os, k.tape.trans h.tape, k.output.trans h.output, Nat.le_trans h.size k.size, fun i hi h1 => (k.block i (Nat.lt_of_lt_of_le hi h.size) h1).trans (h.block i hi h1)⟩
/-- A later change may turn what is new besides. -/
theorem Chg.grow (h : Chg F w w1) (k : Chg G w1 w') (hG : ∀ x, G x → F x ∨ w.heap.size ≤ x) : Chg F w w' :=
  ⟨k.os.trans h.os, k.tape.trans h.tape, k.output.trans h.output, Nat.le_trans h.size k.size, fun i hi h1 => (k.block i (Nat.lt_of_lt_of_le hi h.size) (fun hg => by
    rcases hG i hg with h2 | h2
    · exact h1 h2
    · omega)).trans (h.block i hi h1)⟩
theorem Chg.mono (h : Chg F w w') (hs : ∀ x, F x → G x) : Chg G w w' := ⟨h.os, h.tape, h.output, h.size, fun k hk hn => h.block k hk (fun hm => hn (hs k hm))⟩
theorem Chg.of_below (h : Below w.heap.size w w') : Chg F w w' := ⟨h.os, h.tape, h.output, h.size, fun k hk _ => h.block k hk⟩
theorem Chg.of_only (h : Only S w w') (hs : ∀ x ∈ S, F x) : Chg F w w' := ⟨h.os, h.tape, h.output, h.size, fun k hk hn => h.block k hk (fun hm => hn (hs k hm))⟩
theorem Chg.of_mv {b : Nat} (h : Mv b none w w') (hb : F b) : Chg F w w' := Chg.of_only (Only.of_mv (S := [b]) h (by simp)) (by simpa using hb)
theorem Chg.below {B : Nat} (h : Chg F w w') (hS : ∀ x, F x → B ≤ x) (hB : B ≤ w.heap.size) : Below B w w' := ⟨h.os, h.tape, h.output, h.size, fun k hk => h.block k (by omega) (fun hm => by have := hS k hm; omega)⟩
theorem Chg.blk (h : Chg F w w') {g : Nat} {t : TypeId} {cs : Array Value} (hg : Blk w g t cs) (hn : ¬ F g) : Blk w' g t cs := (h.block g hg.lt hn).trans hg
theorem Chg.own (h : Chg F w w') {base n : Nat} {e : TypeId} {size : Nat} {v : Value} {xs : List Value} (hO : w.ownsRow base e size v n xs) (hn : ∀ g, v.ownBlock = some g → ¬ F g) : w'.ownsRow base e size v n xs := by
  refine ⟨hO.1, ?_⟩
  rcases hO.2 with h0 | ⟨g, cap, cur, rfl, hb, hgg, rest⟩
  · exact .inl h0
  · refine .inr ⟨g, cap, cur, rfl, hb, ?_, rest⟩
    rw [h.block g (Array.getElem?_eq_some_iff.1 hgg).1 (hn g rfl)]
    exact hgg
theorem MemP.chg {B b : Nat} {v : Value} {C : List Int} {size count odd ref : Int} (h : MemP B b v C size count odd ref w) (m : Chg F w w') (h1 : ¬ F b) (h2 : ∀ g, v.ownBlock = some g → ¬ F g) : MemP B b v C size count odd ref w' :=
  ⟨m.blk h.blk h1, m.own h.own h2, h.base⟩
theorem own_blk_not {base : Nat} {e t : TypeId} {size n g : Nat} {v : Value} {xs : List Value} {cs : Array Value} (h : w.ownsRow base e size v n xs) (hg : Blk w g t cs) (hne : e ≠ t) : ∀ x, v.ownBlock = some x → x ≠ g := fun x hx e => own_blk_ne h hg hne (by rw [hx, e])
end

theorem belowDrew {w w1 : World} (hb : Below w.drew.heap.size w.drew w1) : Below w.heap.size w w1 := ⟨hb.os, hb.tape, hb.output, hb.size, hb.block⟩
theorem own_lt {w : World} {base n : Nat} {e : TypeId} {size : Nat} {v : Value} {xs : List Value} (h : w.ownsRow base e size v n xs) : ∀ g, v.ownBlock = some g → g < w.heap.size := fun g hg => (h.lt g hg).2
theorem Chg.of_grown {w w' : World} {r : Option Nat} (h : w.grownBy w' r) : Chg (fun x => r = some x) w w' := ⟨h.os, h.tape, h.output, h.size, fun k hk hn => h.block k hk (fun e => hn e.symm)⟩
def pval (L : List (Int × Int)) (i : Nat) : Int := (L.getD i (0, 0)).2
theorem cellsP_val : ∀ {L : List (Int × Int)} {i : Nat}, i < L.length → (cellsP L)[i * 2 + 1]? = some (.int .i64 (pval L i))
  | [], i, h => absurd h (by simp)
  | p :: L, 0, h => by simp [cellsP, pval]
  | p :: L, i + 1, h => by
    have := cellsP_val (L := L) (i := i) (by simpa using h)
    have e : (i + 1) * 2 + 1 = i * 2 + 1 + 1 + 1 := by omega
    rw [e]
    simp [cellsP, pval] at this ⊢
    exact this
theorem PairsAt.nil (w : World) (B : Nat) : PairsAt w B none [] := Reads.none_
theorem pairs_row (w : World) (t : TypeId) (L : List (Int × Int)) : PairsAt (w.alloc (.cells (cellsP L).toArray t)) (w.heap.size + 1) (some ⟨w.heap.size, 0, none⟩) L := by
  refine ⟨cellsP_len L, fun _ => ⟨_, rfl, Nat.lt_succ_self _, fun j u hu => ?_⟩⟩
  have e : (⟨w.heap.size, 0, none⟩ : Addr).add j = ⟨w.heap.size, j, none⟩ := by unfold Addr.add; split <;> simp_all
  rw [e]
  have := (Blk.new w t (cellsP L).toArray).cell j
  rw [this]
  simpa using hu
theorem bd_of {L : List Int} (h : ∀ x ∈ L, -9223372036854775808 ≤ x ∧ x ≤ 9223372036854775807) : ∀ i, i < L.length → -9223372036854775808 ≤ keyAt L i ∧ keyAt L i ≤ 9223372036854775807 := fun i hi => h _ (by
  unfold keyAt
  rw [List.getD_eq_getElem?_getD, List.getElem?_eq_getElem hi]
  exact List.getElem_mem _)
/-- What a copied list comes to. -/
def SomeOwnP (T : TypeId) (L : List (Int × Int)) (w : World) (e : Ending) (w' : World) : Prop := ∃ v, e = .returned v ∧ w'.ownsRow w.heap.size T 2 v L.length (cellsP L) ∧ Below w.heap.size w w'
theorem info_spot : (Tryz.prog.info? 114).map (fun i => (i.zero, i.size, i.bytes)) = some (some (.agg #[.int .i64 0, .int .i64 0]), 2, 16) := by kernel_rfl
set_option maxRecDepth 100000 in
set_option maxHeartbeats 1000000 in
theorem cloneS_any (A : Option Addr) (c N : Nat) (L : List (Int × Int)) (w : World) (hN : N = L.length) (h : PairsAt w w.heap.size A L) (hl : L.length ≤ 1000000) :
    Calls Tryz.prog 136 #[.slice A N c] w (SomeOwnP 114 L w) := by
  subst hN
  have qT : ∀ (w : World) (a : Option Addr) (n c n' c' : Nat), (binOp .eql 41 (.slice a n c) (.slice none n' c')).run Tryz.prog w = .ok (.bool a.isNone) w := fun w a n c n' c' => Lib.run_eql_slice_nil w _ _ a n c n' c' Tryz.underlying41
  obtain ⟨i0, hi0, hz0, hz1, hz2⟩ := info_parts info_spot
  rcases A with _ | ad
  · have h0 : L = [] := by
      rcases L with _ | ⟨x, L⟩
      · rfl
      · obtain ⟨ad, e, _⟩ := h.2 (by simp)
        cases e
    subst h0
    clear h
    go_enter Tryz.func136, Tryz.ntmps136
    go_wp2_with (fail)
    go_ret
    exact ⟨_, rfl, World.ownsRow_nil _ _ _ _, Below.refl _ _⟩
  · have H := Lib.hid h
    clear h
    go_enter Tryz.func136, Tryz.ntmps136
    have hO := Lib.hid (World.ownsRow_lit (base := w.heap.size) (e := 114) (size := 2) w #[] 0 (Nat.le_refl _) (by simp [maxLen]) rfl)
    have hB := (Below.refl w.heap.size w).alloc (Nat.le_refl _) (.cells #[] 114)
    have hin := H.out.below hB
    have hsz := hB.size
    go_wp2_with (at_builtin; refine wpList_append_any _ rfl _ _ 41 rfl w.heap.size 114 i0 (.agg #[.int .i64 0, .int .i64 0]) 2 16 Tryz.underlying41 hi0 hz0 hz1 hz2 rfl (by decide) _ 0 [] rfl hO.out w.heap.size (some ad) L.length c (cellsP L) rfl hin cellsP_one ?p1 ?p2 ?p3 ?_; (case p1 => (unfold maxLen; omega)); (case p2 => omega); (case p3 => exact hsz); intro v' w2 hO2 hg hvb)
    have hB2 : Below w.heap.size w w2 := hB.grown hg hsz (fun g h => (hO.out.lt g h).1)
    go_wp2_with (fail)
    go_ret
    refine ⟨_, rfl, ?_, hB2⟩
    simpa using hO2
set_option maxRecDepth 100000 in
set_option maxHeartbeats 1000000 in
theorem cloneP_any (A : Option Addr) (c N : Nat) (L : List (Int × Int)) (w : World) (hN : N = L.length) (h : PairsAt w w.heap.size A L) (hl : L.length ≤ 1000000) :
    Calls Tryz.prog 108 #[.slice A N c] w (SomeOwnP 52 L w) := by
  subst hN
  have qT : ∀ (w : World) (a : Option Addr) (n c n' c' : Nat), (binOp .eql 40 (.slice a n c) (.slice none n' c')).run Tryz.prog w = .ok (.bool a.isNone) w := fun w a n c n' c' => Lib.run_eql_slice_nil w _ _ a n c n' c' Tryz.underlying40
  obtain ⟨i0, hi0, hz0, hz1, hz2⟩ := info_parts info_pair
  rcases A with _ | ad
  · have h0 : L = [] := by
      rcases L with _ | ⟨x, L⟩
      · rfl
      · obtain ⟨ad, e, _⟩ := h.2 (by simp)
        cases e
    subst h0
    clear h
    go_enter Tryz.func108, Tryz.ntmps108
    go_wp2_with (fail)
    go_ret
    exact ⟨_, rfl, World.ownsRow_nil _ _ _ _, Below.refl _ _⟩
  · have H := Lib.hid h
    clear h
    go_enter Tryz.func108, Tryz.ntmps108
    have hO := Lib.hid (World.ownsRow_lit (base := w.heap.size) (e := 52) (size := 2) w #[] 0 (Nat.le_refl _) (by simp [maxLen]) rfl)
    have hB := (Below.refl w.heap.size w).alloc (Nat.le_refl _) (.cells #[] 52)
    have hin := H.out.below hB
    have hsz := hB.size
    go_wp2_with (at_builtin; refine wpList_append_any _ rfl _ _ 40 rfl w.heap.size 52 i0 (.agg #[.int .i64 0, .int .i64 0]) 2 16 Tryz.underlying40 hi0 hz0 hz1 hz2 rfl (by decide) _ 0 [] rfl hO.out w.heap.size (some ad) L.length c (cellsP L) rfl hin cellsP_one ?p1 ?p2 ?p3 ?_; (case p1 => (unfold maxLen; omega)); (case p2 => omega); (case p3 => exact hsz); intro v' w2 hO2 hg hvb)
    have hB2 : Below w.heap.size w w2 := hB.grown hg hsz (fun g h => (hO.out.lt g h).1)
    go_wp2_with (fail)
    go_ret
    refine ⟨_, rfl, ?_, hB2⟩
    simpa using hO2
end Go.Proofs.YtblajeildolloaaGreat

/- Words that refer: may, parts, Kind, At, Of. -/
namespace Go.Proofs.YtblajeildolloaaGreat
set_option linter.unusedVariables false
set_option linter.unusedSimpArgs false
open Go.RowKit

theorem i64_and7 (n : Int) : bits .and .i64 n 7 = n % 8 := by
  have h7 : (BitVec.ofInt 64 7).toNat = 2 ^ 3 - 1 := by decide
  have key : (BitVec.ofInt 64 n &&& BitVec.ofInt 64 7).toNat = (n % ((2 ^ 64 : Nat) : Int)).toNat % 2 ^ 3 := by
    rw [BitVec.toNat_and, BitVec.toNat_ofInt, h7, Nat.and_two_pow_sub_one_eq_mod]
  show IntKind.i64.wrap ((BitVec.ofInt 64 n &&& BitVec.ofInt 64 7).toNat : Nat) = n % 8
  rw [key, IntKind.wrap_i64]
  omega
/-- May a kind and an address be in a word? -/
def mayB (k a : Int) : Bool := decide (1 ≤ k ∧ k ≤ 5 ∧ 1 ≤ a ∧ a ≤ 65536)
theorem mayB_yes {k a : Int} (h : mayB k a = true) : 1 ≤ k ∧ k ≤ 5 ∧ 1 ≤ a ∧ a ≤ 65536 := of_decide_eq_true h
theorem mayB_no {k a : Int} (h : mayB k a = false) : ¬ (1 ≤ k ∧ k ≤ 5 ∧ 1 ≤ a ∧ a ≤ 65536) := of_decide_eq_false h
theorem mayB_mk {k a : Int} (h1 : 1 ≤ k) (h2 : k ≤ 5) (h3 : 1 ≤ a) (h4 : a ≤ 65536) : mayB k a = true := decide_eq_true ⟨h1, h2, h3, h4⟩
theorem mayB_not {k a : Int} (h : ¬ (1 ≤ k ∧ k ≤ 5 ∧ 1 ≤ a ∧ a ≤ 65536)) : mayB k a = false := decide_eq_false h
/-- Does a word refer? -/
def wB (x : Int) : Bool := decide (0 ≤ x) && mayB (x % 8) (x / 8)
def wKind (x : Int) : Int := if wB x = true then x % 8 else 0
def wAt (x : Int) : Int := if wB x = true then x / 8 else 0
def wOf (k a : Int) : Int := if mayB k a = true then a * 8 + k else 0
theorem wB_yes {x : Int} (h : wB x = true) : 9 ≤ x ∧ x ≤ 524293 ∧ 1 ≤ x % 8 ∧ x % 8 ≤ 5 ∧ 1 ≤ x / 8 ∧ x / 8 ≤ 65536 := by
  unfold wB at h
  rw [Bool.and_eq_true] at h
  have h1 := of_decide_eq_true h.1
  have h2 := mayB_yes h.2
  omega
theorem wAt_bd (x : Int) : 0 ≤ wAt x ∧ wAt x ≤ 65536 := by
  unfold wAt
  split
  · rename_i h; have := wB_yes h; omega
  · omega
theorem wKind_bd (x : Int) : 0 ≤ wKind x ∧ wKind x ≤ 5 := by
  unfold wKind
  split
  · rename_i h; have := wB_yes h; omega
  · omega
theorem wOf_bd (k a : Int) : 0 ≤ wOf k a ∧ wOf k a ≤ 524293 := by
  unfold wOf
  split
  · rename_i h; have := mayB_yes h; omega
  · omega

set_option maxHeartbeats 400000 in
theorem may_any (k a : Int) (w : World) : Calls Tryz.prog 144 #[.int .i64 k, .int .i64 a] w fun e w' => e = .returned (.bool (mayB k a)) ∧ w = w' := by
  by_cases h1 : 1 ≤ k
  · by_cases h2 : k ≤ 5
    · by_cases h3 : 1 ≤ a
      · by_cases h4 : a ≤ 65536
        · have HB := Lib.hid (mayB_mk h1 h2 h3 h4)
          go_enter Tryz.func144, Tryz.ntmps144
          go_wp2_with (fail)
          go_ret
          rw [HB.out]
          exact ⟨rfl, rfl⟩
        · have HB := Lib.hid (mayB_not (k := k) (a := a) (by omega))
          have g : ¬ a ≤ 65536 := h4
          go_enter Tryz.func144, Tryz.ntmps144
          go_wp2_with (fail)
          go_ret
          rw [HB.out]
          exact ⟨rfl, rfl⟩
      · have HB := Lib.hid (mayB_not (k := k) (a := a) (by omega))
        go_enter Tryz.func144, Tryz.ntmps144
        go_wp2_with (fail)
        go_ret
        rw [HB.out]
        exact ⟨rfl, rfl⟩
    · have HB := Lib.hid (mayB_not (k := k) (a := a) (by omega))
      go_enter Tryz.func144, Tryz.ntmps144
      go_wp2_with (fail)
      go_ret
      rw [HB.out]
      exact ⟨rfl, rfl⟩
  · have HB := Lib.hid (mayB_not (k := k) (a := a) (by omega))
    go_enter Tryz.func144, Tryz.ntmps144
    go_wp2_with (fail)
    go_ret
    rw [HB.out]
    exact ⟨rfl, rfl⟩
set_option maxHeartbeats 400000 in
theorem parts_any (x : Int) (w : World) (x0 : -9223372036854775808 ≤ x) (x1 : x ≤ 9223372036854775807) : Calls Tryz.prog 178 #[.int .i64 x] w fun e w' => e = .returned (.tuple #[.int .i64 (wKind x), .int .i64 (wAt x), .bool (wB x)]) ∧ w = w' := by
  by_cases h1 : 0 ≤ x
  · by_cases h2 : x ≤ 524296
    · have e7 := i64_and7 x
      have e1 : 0 ≤ x % 8 ∧ x % 8 ≤ 7 := by omega
      have e2 : 0 ≤ x / 8 ∧ x / 8 ≤ 65537 := by omega
      cases hb : mayB (x % 8) (x / 8) with
      | true =>
        have HW := Lib.hid (show wB x = true by unfold wB; rw [hb, decide_eq_true h1]; rfl)
        have HB := Lib.hid hb
        clear hb
        go_enter Tryz.func178, Tryz.ntmps178
        go_wp2_with (fail)
        with_reducible refine (may_any _ _ _).mono ?_
        rintro e w1 ⟨rfl, rfl⟩
        rw [HB.out]
        go_wp2_with (fail)
        go_ret3
        have e := HW.out
        unfold wKind wAt
        rw [e, if_pos rfl, if_pos rfl]
        exact ⟨rfl, rfl⟩
      | false =>
        have HW := Lib.hid (show wB x = false by unfold wB; rw [hb, Bool.and_false])
        have HB := Lib.hid hb
        clear hb
        go_enter Tryz.func178, Tryz.ntmps178
        go_wp2_with (fail)
        with_reducible refine (may_any _ _ _).mono ?_
        rintro e w1 ⟨rfl, rfl⟩
        rw [HB.out]
        go_wp2_with (fail)
        go_ret3
        have e := HW.out
        unfold wKind wAt
        rw [e, if_neg Bool.false_ne_true, if_neg Bool.false_ne_true]
        exact ⟨rfl, rfl⟩
    · have HW := Lib.hid (show wB x = false by
        cases h : wB x with
        | false => rfl
        | true => have := wB_yes h; omega)
      have h3 : 524296 < x := by omega
      clear h2
      go_enter Tryz.func178, Tryz.ntmps178
      go_wp2_with (fail)
      go_ret3
      have e := HW.out
      unfold wKind wAt
      rw [e, if_neg Bool.false_ne_true, if_neg Bool.false_ne_true]
      exact ⟨rfl, rfl⟩
  · have HW := Lib.hid (show wB x = false by
      cases h : wB x with
      | false => rfl
      | true => have := wB_yes h; omega)
    go_enter Tryz.func178, Tryz.ntmps178
    go_wp2_with (fail)
    go_ret3
    have e := HW.out
    unfold wKind wAt
    rw [e, if_neg Bool.false_ne_true, if_neg Bool.false_ne_true]
    exact ⟨rfl, rfl⟩
set_option maxHeartbeats 400000 in
theorem kind_any (x : Int) (w : World) (x0 : -9223372036854775808 ≤ x) (x1 : x ≤ 9223372036854775807) : Calls Tryz.prog 138 #[.int .i64 x] w fun e w' => e = .returned (.int .i64 (wKind x)) ∧ w = w' := by
  go_enter Tryz.func138, Tryz.ntmps138
  go_wp2_with (fail)
  with_reducible refine (parts_any _ _ x0 x1).mono ?_
  rintro e w1 ⟨rfl, rfl⟩
  go_wp2_with (fail)
  go_ret
  exact ⟨rfl, rfl⟩
set_option maxHeartbeats 400000 in
theorem refAt_any (x : Int) (w : World) (x0 : -9223372036854775808 ≤ x) (x1 : x ≤ 9223372036854775807) : Calls Tryz.prog 121 #[.int .i64 x] w fun e w' => e = .returned (.int .i64 (wAt x)) ∧ w = w' := by
  go_enter Tryz.func121, Tryz.ntmps121
  go_wp2_with (fail)
  with_reducible refine (parts_any _ _ x0 x1).mono ?_
  rintro e w1 ⟨rfl, rfl⟩
  go_wp2_with (fail)
  go_ret
  exact ⟨rfl, rfl⟩
theorem i64_or3 (k a : Int) (h1 : 0 ≤ k) (h2 : k ≤ 7) (h3 : 0 ≤ a) (h4 : a ≤ 65536) : bits .or .i64 (a * 8) k = a * 8 + k := by
  have : k = 0 ∨ k = 1 ∨ k = 2 ∨ k = 3 ∨ k = 4 ∨ k = 5 ∨ k = 6 ∨ k = 7 := by omega
  obtain ⟨n, rfl⟩ : ∃ n : Nat, a = n := ⟨a.toNat, by omega⟩
  obtain ⟨m, rfl⟩ : ∃ m : Nat, k = m := ⟨k.toNat, by omega⟩
  have hx : (BitVec.ofInt 64 ((n : Int) * 8)).toNat = n * 8 := by
    rw [BitVec.toNat_ofInt]; omega
  have hy : (BitVec.ofInt 64 (m : Int)).toNat = m := by
    rw [BitVec.toNat_ofInt]; omega
  have key : (BitVec.ofInt 64 ((n : Int) * 8) ||| BitVec.ofInt 64 (m : Int)).toNat = n * 8 + m := by
    rw [BitVec.toNat_or, hx, hy, show n * 8 = n <<< 3 by rw [Nat.shiftLeft_eq], Nat.shiftLeft_add_eq_or_of_lt (by omega)]
  show IntKind.i64.wrap ((BitVec.ofInt 64 ((n : Int) * 8) ||| BitVec.ofInt 64 (m : Int)).toNat : Nat) = _
  rw [key, IntKind.wrap_i64]
  omega
set_option maxHeartbeats 400000 in
theorem of_any (k a : Int) (w : World) : Calls Tryz.prog 82 #[.int .i64 k, .int .i64 a] w fun e w' => e = .returned (.int .i64 (wOf k a)) ∧ w = w' := by
  cases hb : mayB k a with
  | true =>
    have h := mayB_yes hb
    have HW := Lib.hid (show wOf k a = a * 8 + k from if_pos hb)
    have eo := i64_or3 k a (by omega) (by omega) (by omega) (by omega)
    obtain ⟨a1, a2, a3, a4⟩ := h
    have HB := Lib.hid hb
    clear hb
    go_enter Tryz.func82, Tryz.ntmps82
    go_wp2_with (fail)
    with_reducible refine (may_any _ _ _).mono ?_
    rintro e w1 ⟨rfl, rfl⟩
    rw [HB.out]
    go_wp2_with (fail)
    go_ret
    rw [HW.out]
    exact ⟨rfl, rfl⟩
  | false =>
    have HW := Lib.hid (show wOf k a = 0 from if_neg (by rw [hb]; exact Bool.false_ne_true))
    have HB := Lib.hid hb
    clear hb
    go_enter Tryz.func82, Tryz.ntmps82
    go_wp2_with (fail)
    with_reducible refine (may_any _ _ _).mono ?_
    rintro e w1 ⟨rfl, rfl⟩
    rw [HB.out]
    go_wp2_with (fail)
    go_ret
    rw [HW.out]
    exact ⟨rfl, rfl⟩
end Go.Proofs.YtblajeildolloaaGreat

/- The frame of route: each method. -/
namespace Go.Proofs.YtblajeildolloaaGreat
set_option linter.unusedVariables false
set_option linter.unusedSimpArgs false
open Go.RowKit

def RouteP (b : Nat) (s : RS) (w : World) : Prop := Blk w b 136 #[.int .i64 s.next, .int .i64 s.n, .int .i64 s.k, .int .i64 s.degree, .int .i64 s.i, .int .i64 s.first, .int .i64 s.child]
theorem RouteP.blk {b : Nat} {s : RS} {w : World} (h : RouteP b s w) : Blk w b 136 #[.int .i64 s.next, .int .i64 s.n, .int .i64 s.k, .int .i64 s.degree, .int .i64 s.i, .int .i64 s.first, .int .i64 s.child] := h

theorem RouteP.drewN {b : Nat} {s : RS} {w : World} (h : RouteP b s w) (n : Nat) : RouteP b s (w.drewN n) := h
set_option maxHeartbeats 400000 in
theorem keys_any (b : Nat) (s : RS) (w : World) (h : RouteP b s w) (d0 : -9223372036854775808 < s.degree) (d1 : s.degree ≤ 9223372036854775807) :
    Calls Tryz.prog 148 #[.pointer (some ⟨b, 0, none⟩)] w fun e w' => e = .returned (.int .i64 (s.degree - 1)) ∧ w = w' := by
  have c3 : w.cell? ⟨b, 3, none⟩ = some (.int .i64 s.degree) := h.blk.cell 3
  clear h
  go_enter Tryz.func148, Tryz.ntmps148
  go_wp2
  go_ret
  exact ⟨rfl, rfl⟩
set_option maxHeartbeats 400000 in
theorem end_any (b : Nat) (s : RS) (c : Int) (w : World) (h : RouteP b s w) :
    Calls Tryz.prog 92 #[.pointer (some ⟨b, 0, none⟩), .int .i64 c] w fun e w' => e = .returned (.tuple #[]) ∧ RouteP b (s.ende c) w' ∧ Mv b none w w' := by
  have c0 : w.cell? ⟨b, 0, none⟩ = some (.int .i64 s.next) := h.blk.cell 0
  have c6 : w.cell? ⟨b, 6, none⟩ = some (.int .i64 s.child) := h.blk.cell 6
  have f0 := h.blk.frozen 0
  have f6 := h.blk.frozen 6
  have H : Hid (RouteP b (s.ende c) ((w.setCell ⟨b, 6, none⟩ (.int .i64 c)).setCell ⟨b, 0, none⟩ (.int .i64 6))) := Lib.hid ((h.blk.set_ 6 _).set_ 0 _)
  clear h
  go_enter Tryz.func92, Tryz.ntmps92
  go_wp2
  go_end0
  exact ⟨rfl, H.out, (Mv.set1 _ _ _ _).trans_ (Mv.set1 _ _ _ _)⟩

set_option maxHeartbeats 400000 in
theorem up_any (b : Nat) (s : RS) (i : Int) (w : World) (h : RouteP b s w) (d0 : 2 ≤ s.degree) (d1 : s.degree ≤ 9223372036854775807) (i0 : -9223372036854775808 ≤ i) (i1 : i ≤ 9223372036854775807) :
    Calls Tryz.prog 151 #[.pointer (some ⟨b, 0, none⟩), .int .i64 i] w fun e w' => e = .returned (.tuple #[]) ∧ RouteP b (s.up i) w' ∧ Mv b none w w' := by
  have c0 : w.cell? ⟨b, 0, none⟩ = some (.int .i64 s.next) := h.blk.cell 0
  have c4 : w.cell? ⟨b, 4, none⟩ = some (.int .i64 s.i) := h.blk.cell 4
  have f0 := h.blk.frozen 0
  have f4 := h.blk.frozen 4
  have H1 : Hid (RouteP b { s with next := 4, i := i } ((w.setCell ⟨b, 0, none⟩ (.int .i64 4)).setCell ⟨b, 4, none⟩ (.int .i64 i))) := Lib.hid ((h.blk.set_ 0 _).set_ 4 _)
  have M1 := Lib.hid ((Mv.set1 w b 0 (.int .i64 4)).trans_ (Mv.set1 _ b 4 (.int .i64 i)))
  clear h
  by_cases hi : s.degree - 1 ≤ i
  · have HS := Lib.hid (show s.up i = RS.ende { s with next := 4, i := i } (s.degree - 1 - 1) from if_pos hi)
    go_enter Tryz.func151, Tryz.ntmps151
    go_wp2_with (fail)
    with_reducible refine (keys_any b { s with next := 4, i := i } _ H1.out (by show _ < s.degree; omega) (by show s.degree ≤ _; omega)).mono ?_
    rintro e w1 ⟨rfl, rfl⟩
    go_wp2_with (fail)
    with_reducible refine (keys_any b { s with next := 4, i := i } _ H1.out (by show _ < s.degree; omega) (by show s.degree ≤ _; omega)).mono ?_
    rintro e w1 ⟨rfl, rfl⟩
    go_wp2_with (fail)
    with_reducible refine (end_any b { s with next := 4, i := i } (s.degree - 1 - 1) _ H1.out).mono ?_
    rintro e w1 ⟨rfl, h2, m2⟩
    have H2 := Lib.hid h2
    have M2 := Lib.hid m2
    clear h2 m2
    go_wp2_with (fail)
    go_end0
    rw [HS.out]
    exact ⟨rfl, H2.out, M1.out.trans_ M2.out⟩
  · have HS := Lib.hid (show s.up i = { s with next := 4, i := i } from if_neg hi)
    go_enter Tryz.func151, Tryz.ntmps151
    go_wp2_with (fail)
    with_reducible refine (keys_any b { s with next := 4, i := i } _ H1.out (by show _ < s.degree; omega) (by show s.degree ≤ _; omega)).mono ?_
    rintro e w1 ⟨rfl, rfl⟩
    go_wp2_with (fail)
    go_end0
    rw [HS.out]
    exact ⟨rfl, H1.out, M1.out⟩
set_option maxHeartbeats 400000 in
theorem down_any (b : Nat) (s : RS) (i : Int) (w : World) (h : RouteP b s w) (i0 : -9223372036854775808 ≤ i) (i1 : i ≤ 9223372036854775807) :
    Calls Tryz.prog 150 #[.pointer (some ⟨b, 0, none⟩), .int .i64 i] w fun e w' => e = .returned (.tuple #[]) ∧ RouteP b (s.down i) w' ∧ Mv b none w w' := by
  have c0 : w.cell? ⟨b, 0, none⟩ = some (.int .i64 s.next) := h.blk.cell 0
  have c4 : w.cell? ⟨b, 4, none⟩ = some (.int .i64 s.i) := h.blk.cell 4
  have f0 := h.blk.frozen 0
  have f4 := h.blk.frozen 4
  have H1 : Hid (RouteP b { s with next := 5, i := i } ((w.setCell ⟨b, 0, none⟩ (.int .i64 5)).setCell ⟨b, 4, none⟩ (.int .i64 i))) := Lib.hid ((h.blk.set_ 0 _).set_ 4 _)
  have M1 := Lib.hid ((Mv.set1 w b 0 (.int .i64 5)).trans_ (Mv.set1 _ b 4 (.int .i64 i)))
  clear h
  by_cases hi : i ≤ 1
  · have HS := Lib.hid (show s.down i = RS.ende { s with next := 5, i := i } 1 from if_pos hi)
    go_enter Tryz.func150, Tryz.ntmps150
    go_wp2_with (fail)
    with_reducible refine (end_any b { s with next := 5, i := i } 1 _ H1.out).mono ?_
    rintro e w1 ⟨rfl, h2, m2⟩
    have H2 := Lib.hid h2
    have M2 := Lib.hid m2
    clear h2 m2
    go_wp2_with (fail)
    go_end0
    rw [HS.out]
    exact ⟨rfl, H2.out, M1.out.trans_ M2.out⟩
  · have HS := Lib.hid (show s.down i = { s with next := 5, i := i } from if_neg hi)
    go_enter Tryz.func150, Tryz.ntmps150
    go_wp2_with (fail)
    go_end0
    rw [HS.out]
    exact ⟨rfl, H1.out, M1.out⟩
set_option maxHeartbeats 1000000 in
theorem guessF_any (b : Nat) (s : RS) (q : Int) (w : World) (h : RouteP b s w) (d0 : 2 ≤ s.degree) (d1 : s.degree ≤ 9223372036854775807) (k0 : -9223372036854775808 ≤ s.k) (k1 : s.k ≤ 9223372036854775807) (g0 : -9223372036854775808 ≤ s.first) (g1 : s.first ≤ 9223372036854775807) (q0 : -9223372036854775808 ≤ q) (q1 : q ≤ 9223372036854775807) :
    Calls Tryz.prog 149 #[.pointer (some ⟨b, 0, none⟩), .int .i64 q] w fun e w' => e = .returned (.tuple #[]) ∧ RouteP b (s.guess q) w' ∧ Mv b none w w' := by
  have c0 : w.cell? ⟨b, 0, none⟩ = some (.int .i64 s.next) := h.blk.cell 0
  have c2 : w.cell? ⟨b, 2, none⟩ = some (.int .i64 s.k) := h.blk.cell 2
  have c4 : w.cell? ⟨b, 4, none⟩ = some (.int .i64 s.i) := h.blk.cell 4
  have c5 : w.cell? ⟨b, 5, none⟩ = some (.int .i64 s.first) := h.blk.cell 5
  have f0 := h.blk.frozen 0
  have f4 := h.blk.frozen 4
  have H := Lib.hid h
  have hj := guessI_le s.first q s.k (s.degree - 1) (by omega)
  clear h
  by_cases hj1 : 1 < guessI s.first q s.k (s.degree - 1)
  · have HS := Lib.hid (show s.guess q = { s with next := 3, i := guessI s.first q s.k (s.degree - 1) } from if_pos hj1)
    go_enter Tryz.func149, Tryz.ntmps149
    go_wp2_with (fail)
    go_quiet ((first | (go_at_call 148; exact quiet_left (keys_any b s _ (H.out.drewN _) (by omega) (by omega))) | (go_at_call 191; exact Calls.quiet_of (guess_any _ _ _ _ _ (by omega) (by omega) (by omega) (by omega) (by omega) (by omega) (by omega) (by omega)))))
    rename_i nq
    generalize guessI s.first q s.k (s.degree - 1) = j at hj hj1 HS ⊢
    have c0' : (w.drewN nq).cell? ⟨b, 0, none⟩ = some (.int .i64 s.next) := c0
    have c4' : (w.drewN nq).cell? ⟨b, 4, none⟩ = some (.int .i64 s.i) := c4
    have f0' : (w.drewN nq).frozen? ⟨b, 0, none⟩ = false := f0
    have f4' : (w.drewN nq).frozen? ⟨b, 4, none⟩ = false := f4
    go_wp2_with (fail)
    refine bodyPost_ret (results_none rfl _ _ _) rfl ?_
    rw [HS.out]
    exact ⟨rfl, ((H.out.blk.drewN nq).set_ 0 _).set_ 4 _, Mv.after (drawn_bl (Drawn.of w nq) _) ((Mv.set1 _ b 0 _).trans_ (Mv.set1 _ b 4 _))⟩
  · have HS := Lib.hid (show s.guess q = s.up 2 from if_neg hj1)
    go_enter Tryz.func149, Tryz.ntmps149
    go_wp2_with (fail)
    go_quiet ((first | (go_at_call 148; exact quiet_left (keys_any b s _ (H.out.drewN _) (by omega) (by omega))) | (go_at_call 191; exact Calls.quiet_of (guess_any _ _ _ _ _ (by omega) (by omega) (by omega) (by omega) (by omega) (by omega) (by omega) (by omega)))))
    go_wp2_with (fail)
    with_reducible refine (up_any b s 2 _ (H.out.drewN _) d0 d1 (by omega) (by omega)).mono ?_
    rintro e w1 ⟨rfl, h2, m2⟩
    have H2 := Lib.hid h2
    have M2 := Lib.hid (Mv.after (drawn_bl (Drawn.of w _) _) m2)
    clear h2 m2
    go_wp2_with (fail)
    go_end0
    rw [HS.out]
    exact ⟨rfl, H2.out, M2.out⟩
set_option maxHeartbeats 1000000 in
set_option maxRecDepth 100000 in
theorem key2_any (b : Nat) (s : RS) (q : Int) (w : World) (h : RouteP b s w) (hn : s.next = 2) (d0 : 2 ≤ s.degree) (d1 : s.degree ≤ 9223372036854775807) (k0 : -9223372036854775808 ≤ s.k) (k1 : s.k ≤ 9223372036854775807) (g0 : -9223372036854775808 ≤ s.first) (g1 : s.first ≤ 9223372036854775807) (i0 : 1 ≤ s.i) (i1 : s.i ≤ s.degree - 1) (q0 : -9223372036854775808 ≤ q) (q1 : q ≤ 9223372036854775807) :
    Calls Tryz.prog 93 #[.pointer (some ⟨b, 0, none⟩), .int .i64 q] w fun e w' => e = .returned (.tuple #[]) ∧ RouteP b (s.key q) w' ∧ Mv b none w w' := by
  have c0 : w.cell? ⟨b, 0, none⟩ = some (.int .i64 2) := by rw [← hn]; exact h.blk.cell 0
  have c2 : w.cell? ⟨b, 2, none⟩ = some (.int .i64 s.k) := h.blk.cell 2
  have c3 : w.cell? ⟨b, 3, none⟩ = some (.int .i64 s.degree) := h.blk.cell 3
  have c4 : w.cell? ⟨b, 4, none⟩ = some (.int .i64 s.i) := h.blk.cell 4
  have c5 : w.cell? ⟨b, 5, none⟩ = some (.int .i64 s.first) := h.blk.cell 5
  have f0 := h.blk.frozen 0
  have f4 := h.blk.frozen 4
  have f5 := h.blk.frozen 5
  have H := Lib.hid h
  have hK := RS.key2 hn q
  have HN := Lib.hid hn
  clear h hn
  by_cases hq : s.k < q
  · rw [if_pos hq] at hK
    have HK := Lib.hid hK
    clear hK
    go_enter Tryz.func93, Tryz.ntmps93
    go_wp2_with (fail)
    with_reducible refine (guessF_any b s q _ H.out d0 d1 k0 k1 g0 g1 q0 q1).mono ?_
    rintro e w1 ⟨rfl, h2, m2⟩
    have H2 := Lib.hid h2
    have M2 := Lib.hid m2
    clear h2 m2
    go_wp2_with (fail)
    go_end0
    rw [HK.out]
    exact ⟨rfl, H2.out, M2.out⟩
  · rw [if_neg hq] at hK
    have HK := Lib.hid hK
    clear hK
    go_enter Tryz.func93, Tryz.ntmps93
    go_wp2_with (fail)
    with_reducible refine (keys_any b s _ H.out (by omega) (by omega)).mono ?_
    rintro e w1 ⟨rfl, rfl⟩
    go_wp2_with (fail)
    with_reducible refine (end_any b s (s.degree - 1) _ H.out).mono ?_
    rintro e w1 ⟨rfl, h2, m2⟩
    have H2 := Lib.hid h2
    have M2 := Lib.hid m2
    clear h2 m2
    go_wp2_with (fail)
    go_end0
    rw [HK.out]
    exact ⟨rfl, H2.out, M2.out⟩
set_option maxHeartbeats 1000000 in
set_option maxRecDepth 100000 in
theorem key3_any (b : Nat) (s : RS) (q : Int) (w : World) (h : RouteP b s w) (hn : s.next = 3) (d0 : 2 ≤ s.degree) (d1 : s.degree ≤ 9223372036854775807) (k0 : -9223372036854775808 ≤ s.k) (k1 : s.k ≤ 9223372036854775807) (g0 : -9223372036854775808 ≤ s.first) (g1 : s.first ≤ 9223372036854775807) (i0 : 1 ≤ s.i) (i1 : s.i ≤ s.degree - 1) (q0 : -9223372036854775808 ≤ q) (q1 : q ≤ 9223372036854775807) :
    Calls Tryz.prog 93 #[.pointer (some ⟨b, 0, none⟩), .int .i64 q] w fun e w' => e = .returned (.tuple #[]) ∧ RouteP b (s.key q) w' ∧ Mv b none w w' := by
  have c0 : w.cell? ⟨b, 0, none⟩ = some (.int .i64 3) := by rw [← hn]; exact h.blk.cell 0
  have c2 : w.cell? ⟨b, 2, none⟩ = some (.int .i64 s.k) := h.blk.cell 2
  have c3 : w.cell? ⟨b, 3, none⟩ = some (.int .i64 s.degree) := h.blk.cell 3
  have c4 : w.cell? ⟨b, 4, none⟩ = some (.int .i64 s.i) := h.blk.cell 4
  have c5 : w.cell? ⟨b, 5, none⟩ = some (.int .i64 s.first) := h.blk.cell 5
  have f0 := h.blk.frozen 0
  have f4 := h.blk.frozen 4
  have f5 := h.blk.frozen 5
  have H := Lib.hid h
  have hK := RS.key3 hn q
  have HN := Lib.hid hn
  clear h hn
  by_cases hq : s.k < q
  · rw [if_pos hq] at hK
    have HK := Lib.hid hK
    clear hK
    go_enter Tryz.func93, Tryz.ntmps93
    go_wp2_with (fail)
    with_reducible refine (down_any b s (s.i - 1) _ H.out (by omega) (by omega)).mono ?_
    rintro e w1 ⟨rfl, h2, m2⟩
    have H2 := Lib.hid h2
    have M2 := Lib.hid m2
    clear h2 m2
    go_wp2_with (fail)
    go_end0
    rw [HK.out]
    exact ⟨rfl, H2.out, M2.out⟩
  · rw [if_neg hq] at hK
    have HK := Lib.hid hK
    clear hK
    go_enter Tryz.func93, Tryz.ntmps93
    go_wp2_with (fail)
    with_reducible refine (up_any b s (s.i + 1) _ H.out d0 d1 (by omega) (by omega)).mono ?_
    rintro e w1 ⟨rfl, h2, m2⟩
    have H2 := Lib.hid h2
    have M2 := Lib.hid m2
    clear h2 m2
    go_wp2_with (fail)
    go_end0
    rw [HK.out]
    exact ⟨rfl, H2.out, M2.out⟩
set_option maxHeartbeats 1000000 in
set_option maxRecDepth 100000 in
theorem key4_any (b : Nat) (s : RS) (q : Int) (w : World) (h : RouteP b s w) (hn : s.next = 4) (d0 : 2 ≤ s.degree) (d1 : s.degree ≤ 9223372036854775807) (k0 : -9223372036854775808 ≤ s.k) (k1 : s.k ≤ 9223372036854775807) (g0 : -9223372036854775808 ≤ s.first) (g1 : s.first ≤ 9223372036854775807) (i0 : 1 ≤ s.i) (i1 : s.i ≤ s.degree - 1) (q0 : -9223372036854775808 ≤ q) (q1 : q ≤ 9223372036854775807) :
    Calls Tryz.prog 93 #[.pointer (some ⟨b, 0, none⟩), .int .i64 q] w fun e w' => e = .returned (.tuple #[]) ∧ RouteP b (s.key q) w' ∧ Mv b none w w' := by
  have c0 : w.cell? ⟨b, 0, none⟩ = some (.int .i64 4) := by rw [← hn]; exact h.blk.cell 0
  have c2 : w.cell? ⟨b, 2, none⟩ = some (.int .i64 s.k) := h.blk.cell 2
  have c3 : w.cell? ⟨b, 3, none⟩ = some (.int .i64 s.degree) := h.blk.cell 3
  have c4 : w.cell? ⟨b, 4, none⟩ = some (.int .i64 s.i) := h.blk.cell 4
  have c5 : w.cell? ⟨b, 5, none⟩ = some (.int .i64 s.first) := h.blk.cell 5
  have f0 := h.blk.frozen 0
  have f4 := h.blk.frozen 4
  have f5 := h.blk.frozen 5
  have H := Lib.hid h
  have hK := RS.key4 hn q
  have HN := Lib.hid hn
  clear h hn
  by_cases hq : s.k < q
  · rw [if_pos hq] at hK
    have HK := Lib.hid hK
    clear hK
    go_enter Tryz.func93, Tryz.ntmps93
    go_wp2_with (fail)
    with_reducible refine (end_any b s (s.i - 1) _ H.out).mono ?_
    rintro e w1 ⟨rfl, h2, m2⟩
    have H2 := Lib.hid h2
    have M2 := Lib.hid m2
    clear h2 m2
    go_wp2_with (fail)
    go_end0
    rw [HK.out]
    exact ⟨rfl, H2.out, M2.out⟩
  · rw [if_neg hq] at hK
    have HK := Lib.hid hK
    clear hK
    go_enter Tryz.func93, Tryz.ntmps93
    go_wp2_with (fail)
    with_reducible refine (up_any b s (s.i + 1) _ H.out d0 d1 (by omega) (by omega)).mono ?_
    rintro e w1 ⟨rfl, h2, m2⟩
    have H2 := Lib.hid h2
    have M2 := Lib.hid m2
    clear h2 m2
    go_wp2_with (fail)
    go_end0
    rw [HK.out]
    exact ⟨rfl, H2.out, M2.out⟩
set_option maxHeartbeats 1000000 in
set_option maxRecDepth 100000 in
theorem key5_any (b : Nat) (s : RS) (q : Int) (w : World) (h : RouteP b s w) (hn : s.next = 5) (d0 : 2 ≤ s.degree) (d1 : s.degree ≤ 9223372036854775807) (k0 : -9223372036854775808 ≤ s.k) (k1 : s.k ≤ 9223372036854775807) (g0 : -9223372036854775808 ≤ s.first) (g1 : s.first ≤ 9223372036854775807) (i0 : 1 ≤ s.i) (i1 : s.i ≤ s.degree - 1) (q0 : -9223372036854775808 ≤ q) (q1 : q ≤ 9223372036854775807) :
    Calls Tryz.prog 93 #[.pointer (some ⟨b, 0, none⟩), .int .i64 q] w fun e w' => e = .returned (.tuple #[]) ∧ RouteP b (s.key q) w' ∧ Mv b none w w' := by
  have c0 : w.cell? ⟨b, 0, none⟩ = some (.int .i64 5) := by rw [← hn]; exact h.blk.cell 0
  have c2 : w.cell? ⟨b, 2, none⟩ = some (.int .i64 s.k) := h.blk.cell 2
  have c3 : w.cell? ⟨b, 3, none⟩ = some (.int .i64 s.degree) := h.blk.cell 3
  have c4 : w.cell? ⟨b, 4, none⟩ = some (.int .i64 s.i) := h.blk.cell 4
  have c5 : w.cell? ⟨b, 5, none⟩ = some (.int .i64 s.first) := h.blk.cell 5
  have f0 := h.blk.frozen 0
  have f4 := h.blk.frozen 4
  have f5 := h.blk.frozen 5
  have H := Lib.hid h
  have hK := RS.key5 hn q
  have HN := Lib.hid hn
  clear h hn
  by_cases hq : s.k < q
  · rw [if_pos hq] at hK
    have HK := Lib.hid hK
    clear hK
    go_enter Tryz.func93, Tryz.ntmps93
    go_wp2_with (fail)
    with_reducible refine (down_any b s (s.i - 1) _ H.out (by omega) (by omega)).mono ?_
    rintro e w1 ⟨rfl, h2, m2⟩
    have H2 := Lib.hid h2
    have M2 := Lib.hid m2
    clear h2 m2
    go_wp2_with (fail)
    go_end0
    rw [HK.out]
    exact ⟨rfl, H2.out, M2.out⟩
  · rw [if_neg hq] at hK
    have HK := Lib.hid hK
    clear hK
    go_enter Tryz.func93, Tryz.ntmps93
    go_wp2_with (fail)
    with_reducible refine (end_any b s s.i _ H.out).mono ?_
    rintro e w1 ⟨rfl, h2, m2⟩
    have H2 := Lib.hid h2
    have M2 := Lib.hid m2
    clear h2 m2
    go_wp2_with (fail)
    go_end0
    rw [HK.out]
    exact ⟨rfl, H2.out, M2.out⟩
set_option maxHeartbeats 1000000 in
set_option maxRecDepth 100000 in
theorem key1_any (b : Nat) (s : RS) (q : Int) (w : World) (h : RouteP b s w) (hn : s.next = 1) (d0 : 2 ≤ s.degree) (d1 : s.degree ≤ 9223372036854775807) (k0 : -9223372036854775808 ≤ s.k) (k1 : s.k ≤ 9223372036854775807) (g0 : -9223372036854775808 ≤ s.first) (g1 : s.first ≤ 9223372036854775807) (i0 : 1 ≤ s.i) (i1 : s.i ≤ s.degree - 1) (q0 : -9223372036854775808 ≤ q) (q1 : q ≤ 9223372036854775807) :
    Calls Tryz.prog 93 #[.pointer (some ⟨b, 0, none⟩), .int .i64 q] w fun e w' => e = .returned (.tuple #[]) ∧ RouteP b (s.key q) w' ∧ Mv b none w w' := by
  have c0 : w.cell? ⟨b, 0, none⟩ = some (.int .i64 1) := by rw [← hn]; exact h.blk.cell 0
  have c2 : w.cell? ⟨b, 2, none⟩ = some (.int .i64 s.k) := h.blk.cell 2
  have c3 : w.cell? ⟨b, 3, none⟩ = some (.int .i64 s.degree) := h.blk.cell 3
  have c4 : w.cell? ⟨b, 4, none⟩ = some (.int .i64 s.i) := h.blk.cell 4
  have c5 : w.cell? ⟨b, 5, none⟩ = some (.int .i64 s.first) := h.blk.cell 5
  have f0 := h.blk.frozen 0
  have f4 := h.blk.frozen 4
  have f5 := h.blk.frozen 5
  have H := Lib.hid h
  have hK := RS.key1 hn q
  have HN := Lib.hid hn
  clear h hn
  have H1 : Hid (RouteP b { s with first := q } (w.setCell ⟨b, 5, none⟩ (.int .i64 q))) := Lib.hid (H.out.blk.set_ 5 _)
  have H2 : Hid (RouteP b { s with first := q, next := 2, i := s.degree - 1 } (((w.setCell ⟨b, 5, none⟩ (.int .i64 q)).setCell ⟨b, 0, none⟩ (.int .i64 2)).setCell ⟨b, 4, none⟩ (.int .i64 (s.degree - 1)))) := Lib.hid (((H.out.blk.set_ 5 _).set_ 0 _).set_ 4 _)
  have M1 := Lib.hid (((Mv.set1 w b 5 (.int .i64 q)).trans_ (Mv.set1 _ b 0 (.int .i64 2))).trans_ (Mv.set1 _ b 4 (.int .i64 (s.degree - 1))))
  by_cases hq : s.k < q
  · rw [if_pos hq] at hK
    have HK := Lib.hid hK
    clear hK
    go_enter Tryz.func93, Tryz.ntmps93
    go_wp2_with (fail)
    with_reducible refine (keys_any b { s with first := q } _ H1.out (by show _ < s.degree; omega) (by show s.degree ≤ _; omega)).mono ?_
    rintro e w1 ⟨rfl, rfl⟩
    go_wp2_with (fail)
    with_reducible refine (end_any b { s with first := q, next := 2, i := s.degree - 1 } 0 _ H2.out).mono ?_
    rintro e w1 ⟨rfl, h3, m3⟩
    have H3 := Lib.hid h3
    have M3 := Lib.hid m3
    clear h3 m3
    go_wp2_with (fail)
    go_end0
    rw [HK.out]
    exact ⟨rfl, H3.out, M1.out.trans_ M3.out⟩
  · rw [if_neg hq] at hK
    by_cases hd : s.degree - 1 = 1
    · have hd1 : (s.degree - 1 == 1) = true := by simpa using hd
      rw [if_pos hd] at hK
      have HK := Lib.hid hK
      clear hK hd
      go_enter Tryz.func93, Tryz.ntmps93
      go_wp2_with (fail)
      with_reducible refine (keys_any b { s with first := q } _ H1.out (by show _ < s.degree; omega) (by show s.degree ≤ _; omega)).mono ?_
      rintro e w1 ⟨rfl, rfl⟩
      go_wp2_with (fail)
      with_reducible refine (keys_any b { s with first := q, next := 2, i := s.degree - 1 } _ H2.out (by show _ < s.degree; omega) (by show s.degree ≤ _; omega)).mono ?_
      rintro e w1 ⟨rfl, rfl⟩
      go_wp2_with (fail)
      with_reducible refine (end_any b { s with first := q, next := 2, i := s.degree - 1 } 1 _ H2.out).mono ?_
      rintro e w1 ⟨rfl, h3, m3⟩
      have H3 := Lib.hid h3
      have M3 := Lib.hid m3
      clear h3 m3
      go_wp2_with (fail)
      go_end0
      rw [HK.out]
      exact ⟨rfl, H3.out, M1.out.trans_ M3.out⟩
    · have hd1 : (s.degree - 1 == 1) = false := by simpa using hd
      rw [if_neg hd] at hK
      have HK := Lib.hid hK
      clear hK hd
      go_enter Tryz.func93, Tryz.ntmps93
      go_wp2_with (fail)
      with_reducible refine (keys_any b { s with first := q } _ H1.out (by show _ < s.degree; omega) (by show s.degree ≤ _; omega)).mono ?_
      rintro e w1 ⟨rfl, rfl⟩
      go_wp2_with (fail)
      with_reducible refine (keys_any b { s with first := q, next := 2, i := s.degree - 1 } _ H2.out (by show _ < s.degree; omega) (by show s.degree ≤ _; omega)).mono ?_
      rintro e w1 ⟨rfl, rfl⟩
      go_wp2_with (fail)
      go_end0
      rw [HK.out]
      exact ⟨rfl, H2.out, M1.out⟩
end Go.Proofs.YtblajeildolloaaGreat

/- The frame of route: New, Done, Degree, Child, Step. -/
namespace Go.Proofs.YtblajeildolloaaGreat
set_option linter.unusedVariables false
set_option linter.unusedSimpArgs false
open Go.RowKit

theorem keyAtI_bd {n i : Int} : 0 ≤ keyAtI n i ∧ keyAtI n i ≤ 2199023255556 := by
  unfold keyAtI
  split
  · rename_i h
    have h1 := nearB_yes h.1
    have h2 := nearB_yes h.2
    omega
  · omega
theorem rdC_bd {C : List Int} (hC : ∀ i, i < C.length → -9223372036854775808 ≤ keyAt C i ∧ keyAt C i ≤ 9223372036854775807) (a : Int) : -9223372036854775808 ≤ rdC C a ∧ rdC C a ≤ 9223372036854775807 := by
  unfold rdC
  split
  · exact hC _ (by omega)
  · omega
set_option maxHeartbeats 400000 in
theorem done_any (b : Nat) (s : RS) (w : World) (h : RouteP b s w) :
    Calls Tryz.prog 32 #[.pointer (some ⟨b, 0, none⟩)] w fun e w' => e = .returned (.bool (s.next == 6)) ∧ w = w' := by
  have c0 : w.cell? ⟨b, 0, none⟩ = some (.int .i64 s.next) := h.blk.cell 0
  clear h
  go_enter Tryz.func32, Tryz.ntmps32
  go_wp2_with (fail)
  go_ret
  exact ⟨rfl, rfl⟩
set_option maxHeartbeats 400000 in
theorem degree_any (b : Nat) (s : RS) (w : World) (h : RouteP b s w) (hn : s.next = 6) :
    Calls Tryz.prog 33 #[.pointer (some ⟨b, 0, none⟩)] w fun e w' => e = .returned (.int .i64 s.degree) ∧ w = w' := by
  have c3 : w.cell? ⟨b, 3, none⟩ = some (.int .i64 s.degree) := h.blk.cell 3
  have H := Lib.hid h
  have e1 : (s.next == 6) = true := by simpa using hn
  clear h hn
  go_enter Tryz.func33, Tryz.ntmps33
  go_wp2_with (fail)
  with_reducible refine (done_any b s _ H.out).mono ?_
  rintro e w1 ⟨rfl, rfl⟩
  go_wp2_with (fail)
  go_ret
  exact ⟨rfl, rfl⟩
set_option maxHeartbeats 400000 in
theorem child_any (b : Nat) (s : RS) (w : World) (h : RouteP b s w) :
    Calls Tryz.prog 34 #[.pointer (some ⟨b, 0, none⟩)] w fun e w' => e = .returned (.int .i64 s.child) ∧ w = w' := by
  have c6 : w.cell? ⟨b, 6, none⟩ = some (.int .i64 s.child) := h.blk.cell 6
  clear h
  go_enter Tryz.func34, Tryz.ntmps34
  go_wp2_with (fail)
  go_ret
  exact ⟨rfl, rfl⟩
set_option maxHeartbeats 400000 in
theorem newR_any (n k : Int) (w : World) :
    Calls Tryz.prog 28 #[.int .i64 n, .int .i64 k] w fun e w' => e = .returned (.pointer (some ⟨w.heap.size, 0, none⟩)) ∧ RouteP w.heap.size (RS.init n k) w' ∧ Below w.heap.size w w' := by
  have H : Hid (RouteP w.heap.size (RS.init n k) (w.alloc (.cells #[.int .i64 0, .int .i64 n, .int .i64 k, .int .i64 0, .int .i64 0, .int .i64 0, .int .i64 0] 136))) := Lib.hid (Blk.new w _ _)
  go_enter Tryz.func28, Tryz.ntmps28
  go_wp2_with (fail)
  go_ret
  exact ⟨rfl, H.out, (Below.refl _ _).alloc (Nat.le_refl _) _⟩

theorem key_any (b : Nat) (s : RS) (q : Int) (w : World) (h : RouteP b s w) (a1 : 1 ≤ s.next) (a2 : s.next ≤ 5) (d0 : 2 ≤ s.degree) (d1 : s.degree ≤ 9223372036854775807) (k0 : -9223372036854775808 ≤ s.k) (k1 : s.k ≤ 9223372036854775807) (g0 : -9223372036854775808 ≤ s.first) (g1 : s.first ≤ 9223372036854775807) (i0 : 1 ≤ s.i) (i1 : s.i ≤ s.degree - 1) (q0 : -9223372036854775808 ≤ q) (q1 : q ≤ 9223372036854775807) :
    Calls Tryz.prog 93 #[.pointer (some ⟨b, 0, none⟩), .int .i64 q] w fun e w' => e = .returned (.tuple #[]) ∧ RouteP b (s.key q) w' ∧ Mv b none w w' := by
  have : s.next = 1 ∨ s.next = 2 ∨ s.next = 3 ∨ s.next = 4 ∨ s.next = 5 := by omega
  rcases this with hn | hn | hn | hn | hn
  · exact key1_any b s q w h hn d0 d1 k0 k1 g0 g1 i0 i1 q0 q1
  · exact key2_any b s q w h hn d0 d1 k0 k1 g0 g1 i0 i1 q0 q1
  · exact key3_any b s q w h hn d0 d1 k0 k1 g0 g1 i0 i1 q0 q1
  · exact key4_any b s q w h hn d0 d1 k0 k1 g0 g1 i0 i1 q0 q1
  · exact key5_any b s q w h hn d0 d1 k0 k1 g0 g1 i0 i1 q0 q1
theorem below_drew {w w1 : World} (hb : Below w.drew.heap.size w.drew w1) : Below w.heap.size w w1 := ⟨hb.os, hb.tape, hb.output, hb.size, hb.block⟩
def StepPost (b bm : Nat) (s : RS) (B : Nat) (v : Value) (C : List Int) (size count odd ref : Int) (w : World) (e : Ending) (w' : World) : Prop :=
  e = .returned (.bool ((s.step (rdC C)).next == 6)) ∧ RouteP b (s.step (rdC C)) w' ∧ MemP B bm v C size (if s.next = 6 then count else bump count) (if s.next = 6 ∨ (1 ≤ s.addr ∧ s.addr ≤ C.length) then odd else bump odd) ref w' ∧ Only [b, bm] w w'
set_option maxRecDepth 100000 in
set_option maxHeartbeats 1000000 in
theorem stepR_any (b bm : Nat) (s : RS) (B : Nat) (v : Value) (C : List Int) (size count odd ref : Int) (w : World) (h : RouteP b s w) (hm : MemP B bm v C size count odd ref w) (hI : s.Inv) (hC : C.length ≤ 1000000) (hw : ∀ i, i < C.length → -9223372036854775808 ≤ keyAt C i ∧ keyAt C i ≤ 9223372036854775807) :
    Calls Tryz.prog 30 #[.pointer (some ⟨b, 0, none⟩), .pointer (some ⟨bm, 0, none⟩)] w (StepPost b bm s B v C size count odd ref w) := by
  have hne : b ≠ bm := h.blk.ne_ hm.blk (by decide)
  have hvb : v.ownBlock ≠ some b := own_blk_ne hm.own h.blk (by decide)
  have hR := rdC_bd hw
  by_cases h6 : s.next = 6
  · have hs := Lib.hid (RS.step_done (R := rdC C) h6)
    have c0 : w.cell? ⟨b, 0, none⟩ = some (.int .i64 6) := by rw [← h6]; exact h.blk.cell 0
    have H := Lib.hid h
    have HM := Lib.hid hm
    have H6 := Lib.hid h6
    clear h hm h6
    go_enter Tryz.func30, Tryz.ntmps30
    go_wp2_with (fail)
    with_reducible refine (done_any b s _ H.out).mono ?_
    rintro e w1 ⟨rfl, rfl⟩
    go_wp2_with (fail)
    go_ret
    unfold StepPost
    rw [hs.out, if_pos H6.out, if_pos (.inl H6.out)]
    exact ⟨rfl, H.out, HM.out, Only.refl _ _⟩
  · by_cases h0 : s.next = 0
    · have hs := Lib.hid (RS.step0 (R := rdC C) h0)
      have c0 : w.cell? ⟨b, 0, none⟩ = some (.int .i64 0) := by rw [← h0]; exact h.blk.cell 0
      have c1 : w.cell? ⟨b, 1, none⟩ = some (.int .i64 s.n) := h.blk.cell 1
      have n0 := hI.n0
      have n1 := hI.n1
      have H := Lib.hid h
      have HM := Lib.hid hm
      have H0 := Lib.hid h0
      clear h hm h0 h6 hI
      go_enter Tryz.func30, Tryz.ntmps30
      go_wp2_with (fail)
      with_reducible refine (read_any B bm v C size count odd ref s.n _ HM.out hC n0 n1).mono ?_
      rintro e w2 ⟨rfl, hm2, m2⟩
      have h2 : RouteP b s w2 := m2.blk H.out hne (by simp)
      have HM2 := Lib.hid hm2
      have O2 := Lib.hid (Only.of_mv (S := [b, bm]) m2 (by simp))
      clear hm2 m2
      have c3 : w2.cell? ⟨b, 3, none⟩ = some (.int .i64 s.degree) := h2.blk.cell 3
      have c0' : w2.cell? ⟨b, 0, none⟩ = some (.int .i64 0) := by rw [← H0.out]; exact h2.blk.cell 0
      have c4 : w2.cell? ⟨b, 4, none⟩ = some (.int .i64 s.i) := h2.blk.cell 4
      have f0 := h2.blk.frozen 0
      have f3 := h2.blk.frozen 3
      have f4 := h2.blk.frozen 4
      have hr := hR s.n
      obtain ⟨x, hx⟩ : ∃ x, rdC C s.n = x := ⟨_, rfl⟩
      rw [hx] at hr ⊢
      have HX := Lib.hid hx
      clear hx
      have M3 := Lib.hid (((Mv.set1 w2 b 3 (.int .i64 x)).trans_ (Mv.set1 _ b 0 (.int .i64 1))).trans_ (Mv.set1 _ b 4 (.int .i64 1)))
      have h3 : RouteP b { s with degree := x, next := 1, i := 1 } (((w2.setCell ⟨b, 3, none⟩ (.int .i64 x)).setCell ⟨b, 0, none⟩ (.int .i64 1)).setCell ⟨b, 4, none⟩ (.int .i64 1)) := ((h2.blk.set_ 3 _).set_ 0 _).set_ 4 _
      have H3 := Lib.hid h3
      clear h3 h2
      by_cases hx2 : x < 2
      · go_wp2_with (fail)
        with_reducible refine (end_any b _ 0 _ H3.out).mono ?_
        rintro e w3 ⟨rfl, h4, m4⟩
        have H4 := Lib.hid h4
        have M4 := Lib.hid (M3.out.trans_ m4)
        clear h4 m4 M3 H3
        go_wp2_with (fail)
        with_reducible refine (done_any b _ _ H4.out).mono ?_
        rintro e w4 ⟨rfl, rfl⟩
        go_wp2_with (fail)
        go_ret
        unfold StepPost
        have e0 := H0.out
        have ea : s.addr = s.n := if_pos e0
        have e6 : ¬ s.next = 6 := by omega
        rw [hs.out, HX.out, if_pos hx2, if_neg e6, ea]
        simp only [e6, false_or]
        exact ⟨rfl, H4.out, HM2.out.mv M4.out (fun e => hne e.symm) (by simp) hvb (by cases v.ownBlock <;> simp), O2.out.trans (Only.of_mv M4.out (by simp))⟩
      · go_wp2_with (fail)
        with_reducible refine (done_any b _ _ H3.out).mono ?_
        rintro e w4 ⟨rfl, rfl⟩
        go_wp2_with (fail)
        go_ret
        unfold StepPost
        have e0 := H0.out
        have ea : s.addr = s.n := if_pos e0
        have e6 : ¬ s.next = 6 := by omega
        have hx3 : ¬ x < 2 := by omega
        rw [hs.out, HX.out, if_neg hx3, if_neg e6, ea]
        simp only [e6, false_or]
        exact ⟨rfl, H3.out, HM2.out.mv M3.out (fun e => hne e.symm) (by simp) hvb (by cases v.ownBlock <;> simp), O2.out.trans (Only.of_mv M3.out (by simp))⟩
    · have hs := Lib.hid (RS.stepK (R := rdC C) h0 h6)
      have hst : 1 ≤ s.next ∧ s.next ≤ 5 ∧ 2 ≤ s.degree ∧ s.degree ≤ 9223372036854775807 ∧ 1 ≤ s.i ∧ s.i ≤ s.degree - 1 := by rcases hI.st with h | h | h <;> first | exact absurd h h0 | exact absurd h h6 | exact h
      obtain ⟨a1, a2, d0, d1, i0, i1⟩ := hst
      have c0 : w.cell? ⟨b, 0, none⟩ = some (.int .i64 s.next) := h.blk.cell 0
      have c1 : w.cell? ⟨b, 1, none⟩ = some (.int .i64 s.n) := h.blk.cell 1
      have c4 : w.cell? ⟨b, 4, none⟩ = some (.int .i64 s.i) := h.blk.cell 4
      have e0 : (s.next == 0) = false := by simpa using h0
      have e6 : (s.next == 6) = false := by simpa using h6
      have H := Lib.hid h
      have HM := Lib.hid hm
      have HI := Lib.hid hI
      clear h hm h0 h6 hI
      go_enter Tryz.func30, Tryz.ntmps30
      go_wp2_with (fail)
      go_region_with (first | (go_at_call 94; (with_reducible refine (keyat_any _ _ _).mono ?_); rintro e w1 ⟨rfl, hB1⟩; replace hB1 := below_drew hB1; have H1 : Hid (RouteP b s w1) := Lib.hid (H.out.blk.below hB1 H.out.blk.lt); have HM1 := Lib.hid (HM.out.below hB1); have O1 := Lib.hid (Only.of_below (S := [b, bm]) hB1); clear hB1) | (go_at_call 91; (with_reducible refine (read_any B bm v C size count odd ref (keyAtI s.n s.i) _ HM1.out hC (by have := keyAtI_bd (n := s.n) (i := s.i); omega) (by have := keyAtI_bd (n := s.n) (i := s.i); omega)).mono ?_); rintro e w2 ⟨rfl, hm2, m2⟩; have H2 : Hid (RouteP b s w2) := Lib.hid (m2.blk H1.out hne (by simp)); have HM2 := Lib.hid hm2; have O2 := Lib.hid (O1.out.trans (Only.of_mv m2 (by simp))); clear hm2 m2 H1 HM1 O1) | (go_at_call 93; (with_reducible refine (key_any b s (rdC C (keyAtI s.n s.i)) _ H2.out a1 a2 d0 d1 HI.out.k0 HI.out.k1 HI.out.g0 HI.out.g1 i0 i1 (hR _).1 (hR _).2).mono ?_); rintro e w3 ⟨rfl, h3, m3⟩; have H3 := Lib.hid h3; have HM3 := Lib.hid (HM2.out.mv m3 (fun e => hne e.symm) (by simp) hvb (by cases v.ownBlock <;> simp)); have O3 := Lib.hid (O2.out.trans (Only.of_mv m3 (by simp))); clear h3 m3 H2 HM2 O2))
      all_goals
        go_wp2_with (fail)
        with_reducible refine (done_any b _ _ H3.out).mono ?_
        rintro e w4 ⟨rfl, rfl⟩
        go_wp2_with (fail)
        go_ret
        unfold StepPost
        rw [hs.out]
        have e6' : ¬ s.next = 6 := by simpa using e6
        have e0' : ¬ s.next = 0 := by simpa using e0
        have ea : s.addr = keyAtI s.n s.i := if_neg e0'
        rw [if_neg e6', ea]
        simp only [e6', false_or]
        exact ⟨rfl, H3.out, HM3.out, O3.out⟩
end Go.Proofs.YtblajeildolloaaGreat

/- The frame of peek. -/
namespace Go.Proofs.YtblajeildolloaaGreat
set_option linter.unusedVariables false
set_option linter.unusedSimpArgs false
open Go.RowKit

def cntO : Option Int → Int → Int
  | none, c => c
  | some _, c => bump c
def oddO (C : List Int) : Option Int → Int → Int
  | none, o => o
  | some a, o => if 1 ≤ a ∧ a ≤ C.length then o else bump o
/-- The memory behind an access (none: there was no access). -/
theorem MemP.read {B b : Nat} {v : Value} {C : List Int} {size count odd ref : Int} {w : World} {a : Int} (h : MemP B b v C size (bump count) (if 1 ≤ a ∧ a ≤ C.length then odd else bump odd) ref w) : MemP B b v C size (cntO (some a) count) (oddO C (some a) odd) ref w := h
structure PS where
  next : Int
  cell : Int
  at_ : Int
  word : Int
def PS.init (slot : Int) : PS := ⟨0, slot, 0, 0⟩
def PS.step (R : Int → Int) (s : PS) : PS :=
  if s.next = 0 then (if wKind (R s.cell) = 5 then { s with at_ := wAt (R s.cell), next := 1, cell := wAt (R s.cell) + 4 } else { s with word := R s.cell, next := 3 })
  else if s.next = 1 then (if R s.cell = 1 then { s with next := 2, cell := s.at_ + 3 } else { s with next := 2, cell := s.at_ + 2 })
  else if s.next = 2 then { s with word := R s.cell, next := 3 }
  else s
def PS.acc (s : PS) : Option Int := if s.next = 3 then none else some s.cell
structure PS.Inv (s : PS) : Prop where
  c0 : -9223372036854775808 ≤ s.cell
  c1 : s.cell ≤ 9223372036854775807
  a0 : 0 ≤ s.at_
  a1 : s.at_ ≤ 65536
  x0 : -9223372036854775808 ≤ s.word
  x1 : s.word ≤ 9223372036854775807
  st : s.next = 0 ∨ s.next = 1 ∨ s.next = 2 ∨ s.next = 3
theorem PS.Inv.init {a : Int} (h0 : -9223372036854775808 ≤ a) (h1 : a ≤ 9223372036854775807) : (PS.init a).Inv := ⟨h0, h1, by simp [PS.init], by simp [PS.init], by simp [PS.init], by simp [PS.init], .inl rfl⟩
theorem PS.step0 {R : Int → Int} {s : PS} (h : s.next = 0) : s.step R = if wKind (R s.cell) = 5 then { s with at_ := wAt (R s.cell), next := 1, cell := wAt (R s.cell) + 4 } else { s with word := R s.cell, next := 3 } := if_pos h
theorem PS.step1 {R : Int → Int} {s : PS} (h : s.next = 1) : s.step R = if R s.cell = 1 then { s with next := 2, cell := s.at_ + 3 } else { s with next := 2, cell := s.at_ + 2 } := by
  unfold PS.step; rw [if_neg (by omega), if_pos h]
theorem PS.step2 {R : Int → Int} {s : PS} (h : s.next = 2) : s.step R = { s with word := R s.cell, next := 3 } := by
  unfold PS.step; rw [if_neg (by omega), if_neg (by omega), if_pos h]
theorem PS.step3 {R : Int → Int} {s : PS} (h : s.next = 3) : s.step R = s := by
  unfold PS.step; rw [if_neg (by omega), if_neg (by omega), if_neg (by omega)]
theorem PS.acc_some {s : PS} (h : s.next ≠ 3) : s.acc = some s.cell := if_neg h
theorem PS.acc_none {s : PS} (h : s.next = 3) : s.acc = none := if_pos h
theorem PS.Inv.step {s : PS} (h : s.Inv) {R : Int → Int} (hR : ∀ a, -9223372036854775808 ≤ R a ∧ R a ≤ 9223372036854775807) : (s.step R).Inv := by
  have b := wAt_bd (R s.cell)
  have r := hR s.cell
  have := h.a0
  have := h.a1
  rcases h.st with e | e | e | e
  · rw [PS.step0 e]
    split
    · exact ⟨by simp; omega, by simp; omega, b.1, b.2, h.x0, h.x1, .inr (.inl rfl)⟩
    · exact ⟨h.c0, h.c1, h.a0, h.a1, r.1, r.2, .inr (.inr (.inr rfl))⟩
  · rw [PS.step1 e]
    split
    · exact ⟨by simp; omega, by simp; omega, h.a0, h.a1, h.x0, h.x1, .inr (.inr (.inl rfl))⟩
    · exact ⟨by simp; omega, by simp; omega, h.a0, h.a1, h.x0, h.x1, .inr (.inr (.inl rfl))⟩
  · rw [PS.step2 e]
    exact ⟨h.c0, h.c1, h.a0, h.a1, r.1, r.2, .inr (.inr (.inr rfl))⟩
  · rw [PS.step3 e]; exact h

def PeekP (b : Nat) (s : PS) (w : World) : Prop := Blk w b 221 #[.int .i64 s.next, .int .i64 s.cell, .int .i64 s.at_, .int .i64 s.word]
theorem PeekP.blk {b : Nat} {s : PS} {w : World} (h : PeekP b s w) : Blk w b 221 #[.int .i64 s.next, .int .i64 s.cell, .int .i64 s.at_, .int .i64 s.word] := h
set_option maxHeartbeats 400000 in
theorem newPk_any (a : Int) (w : World) :
    Calls Tryz.prog 116 #[.int .i64 a] w fun e w' => e = .returned (.pointer (some ⟨w.heap.size, 0, none⟩)) ∧ PeekP w.heap.size (PS.init a) w' ∧ Below w.heap.size w w' ∧ w'.heap.size = w.heap.size + 1 := by
  have H : Hid (PeekP w.heap.size (PS.init a) (w.alloc (.cells #[.int .i64 0, .int .i64 a, .int .i64 0, .int .i64 0] 221))) := Lib.hid (Blk.new w _ _)
  go_enter Tryz.func116, Tryz.ntmps116
  go_wp2_with (fail)
  go_ret
  exact ⟨rfl, H.out, (Below.refl _ _).alloc (Nat.le_refl _) _, by simp⟩
section
variable (b : Nat) (s : PS) (w : World) (h : PeekP b s w)
include h
set_option maxHeartbeats 400000 in
theorem donePk_any : Calls Tryz.prog 177 #[.pointer (some ⟨b, 0, none⟩)] w fun e w' => e = .returned (.bool (s.next == 3)) ∧ w = w' := by
  have c0 : w.cell? ⟨b, 0, none⟩ = some (.int .i64 s.next) := h.blk.cell 0
  clear h
  go_enter Tryz.func177, Tryz.ntmps177
  go_wp2_with (fail)
  go_ret
  exact ⟨rfl, rfl⟩
set_option maxHeartbeats 400000 in
theorem wordPk_any : Calls Tryz.prog 120 #[.pointer (some ⟨b, 0, none⟩)] w fun e w' => e = .returned (.int .i64 s.word) ∧ w = w' := by
  have c3 : w.cell? ⟨b, 3, none⟩ = some (.int .i64 s.word) := h.blk.cell 3
  clear h
  go_enter Tryz.func120, Tryz.ntmps120
  go_wp2_with (fail)
  go_ret
  exact ⟨rfl, rfl⟩
set_option maxHeartbeats 400000 in
theorem endPk_any (x : Int) : Calls Tryz.prog 176 #[.pointer (some ⟨b, 0, none⟩), .int .i64 x] w fun e w' => e = .returned (.tuple #[]) ∧ PeekP b { s with word := x, next := 3 } w' ∧ Mv b none w w' := by
  have c0 : w.cell? ⟨b, 0, none⟩ = some (.int .i64 s.next) := h.blk.cell 0
  have c3 : w.cell? ⟨b, 3, none⟩ = some (.int .i64 s.word) := h.blk.cell 3
  have f0 := h.blk.frozen 0
  have f3 := h.blk.frozen 3
  have H : Hid (PeekP b { s with word := x, next := 3 } ((w.setCell ⟨b, 3, none⟩ (.int .i64 x)).setCell ⟨b, 0, none⟩ (.int .i64 3))) := Lib.hid ((h.blk.set_ 3 _).set_ 0 _)
  clear h
  go_enter Tryz.func176, Tryz.ntmps176
  go_wp2_with (fail)
  go_end0
  exact ⟨rfl, H.out, (Mv.set1 _ _ _ _).trans_ (Mv.set1 _ _ _ _)⟩
end
def PkPost (b bm : Nat) (s : PS) (B : Nat) (v : Value) (C : List Int) (size count odd ref : Int) (w : World) (e : Ending) (w' : World) : Prop :=
  e = .returned (.bool ((s.step (rdC C)).next == 3)) ∧ PeekP b (s.step (rdC C)) w' ∧ MemP B bm v C size (cntO s.acc count) (oddO C s.acc odd) ref w' ∧ Only [b, bm] w w'
set_option maxRecDepth 100000 in
set_option maxHeartbeats 1000000 in
theorem stepPk_any (b bm : Nat) (s : PS) (B : Nat) (v : Value) (C : List Int) (size count odd ref : Int) (w : World) (h : PeekP b s w) (hm : MemP B bm v C size count odd ref w) (hI : s.Inv) (hC : C.length ≤ 1000000) (hw : ∀ i, i < C.length → -9223372036854775808 ≤ keyAt C i ∧ keyAt C i ≤ 9223372036854775807) :
    Calls Tryz.prog 118 #[.pointer (some ⟨b, 0, none⟩), .pointer (some ⟨bm, 0, none⟩)] w (PkPost b bm s B v C size count odd ref w) := by
  have hne : b ≠ bm := h.blk.ne_ hm.blk (by decide)
  have hvb : v.ownBlock ≠ some b := own_blk_ne hm.own h.blk (by decide)
  have hR := rdC_bd hw
  have a0 := hI.a0
  have a1 := hI.a1
  have z0 := hI.c0
  have z1 := hI.c1
  by_cases h3 : s.next = 3
  · have hs := Lib.hid (PS.step3 (R := rdC C) h3)
    have HA := Lib.hid (PS.acc_none h3)
    have c0 : w.cell? ⟨b, 0, none⟩ = some (.int .i64 3) := by rw [← h3]; exact h.blk.cell 0
    have H := Lib.hid h
    have HM := Lib.hid hm
    clear h hm
    clear hI h3
    go_enter Tryz.func118, Tryz.ntmps118
    go_wp2_with (fail)
    with_reducible refine (donePk_any b s _ H.out).mono ?_
    rintro e w1 ⟨rfl, rfl⟩
    go_wp2_with (fail)
    go_ret
    unfold PkPost
    rw [hs.out, HA.out]
    exact ⟨rfl, H.out, HM.out, Only.refl _ _⟩
  · have HA := Lib.hid (PS.acc_some h3)
    have ho := hI.st
    by_cases h0 : s.next = 0
    · have hs := Lib.hid (PS.step0 (R := rdC C) h0)
      have c0 : w.cell? ⟨b, 0, none⟩ = some (.int .i64 0) := by rw [← h0]; exact h.blk.cell 0
      have c1 : w.cell? ⟨b, 1, none⟩ = some (.int .i64 s.cell) := h.blk.cell 1
      have H := Lib.hid h
      have HM := Lib.hid hm
      have H0 := Lib.hid h0
      clear h hm h0
      clear h3 hI ho
      go_enter Tryz.func118, Tryz.ntmps118
      go_wp2_with (fail)
      with_reducible refine (read_any B bm v C size count odd ref s.cell _ HM.out hC z0 z1).mono ?_
      rintro e w2 ⟨rfl, hm2, m2⟩
      have h2 : PeekP b s w2 := m2.blk H.out hne (by simp)
      have HM2 := Lib.hid hm2.read
      have O2 := Lib.hid (Only.of_mv (S := [b, bm]) m2 (by simp))
      clear hm2 m2 c0 c1
      have hr := hR s.cell
      obtain ⟨x, hx⟩ : ∃ x, rdC C s.cell = x := ⟨_, rfl⟩
      rw [hx] at hr ⊢
      have HX := Lib.hid hx
      clear hx
      by_cases hk : wKind x = 5
      · have ek : (wKind x != 5) = false := by simpa using hk
        have ew := wAt_bd x
        have HK := Lib.hid hk
        clear hk
        have c0 : w2.cell? ⟨b, 0, none⟩ = some (.int .i64 0) := by rw [← H0.out]; exact h2.blk.cell 0
        have c1 : w2.cell? ⟨b, 1, none⟩ = some (.int .i64 s.cell) := h2.blk.cell 1
        have c2 : w2.cell? ⟨b, 2, none⟩ = some (.int .i64 s.at_) := h2.blk.cell 2
        have f0 := h2.blk.frozen 0
        have f1 := h2.blk.frozen 1
        have f2 := h2.blk.frozen 2
        have M3 := Lib.hid (((Mv.set1 w2 b 2 (.int .i64 (wAt x))).trans_ (Mv.set1 _ b 0 (.int .i64 1))).trans_ (Mv.set1 _ b 1 (.int .i64 (wAt x + 4))))
        have h3 : PeekP b { s with at_ := wAt x, next := 1, cell := wAt x + 4 } (((w2.setCell ⟨b, 2, none⟩ (.int .i64 (wAt x))).setCell ⟨b, 0, none⟩ (.int .i64 1)).setCell ⟨b, 1, none⟩ (.int .i64 (wAt x + 4))) := ((h2.blk.set_ 2 _).set_ 0 _).set_ 1 _
        have H3 := Lib.hid h3
        clear h3
        clear h2
        go_wp2_with (fail)
        with_reducible refine (kind_any x _ hr.1 hr.2).mono ?_
        rintro e w3 ⟨rfl, rfl⟩
        go_wp2_with (fail)
        with_reducible refine (refAt_any x _ hr.1 hr.2).mono ?_
        rintro e w3 ⟨rfl, rfl⟩
        go_wp2_with (fail)
        with_reducible refine (donePk_any b _ _ H3.out).mono ?_
        rintro e w4 ⟨rfl, rfl⟩
        go_wp2_with (fail)
        go_ret
        unfold PkPost
        rw [hs.out, HX.out, HA.out, if_pos HK.out]
        exact ⟨rfl, H3.out, HM2.out.mv M3.out (fun e => hne e.symm) (by simp) hvb (by cases v.ownBlock <;> simp), O2.out.trans (Only.of_mv M3.out (by simp))⟩
      · have ek : (wKind x != 5) = true := by simpa using hk
        have HK := Lib.hid hk
        clear hk
        have c0 : w2.cell? ⟨b, 0, none⟩ = some (.int .i64 0) := by rw [← H0.out]; exact h2.blk.cell 0
        have H2 := Lib.hid h2
        clear h2
        go_wp2_with (fail)
        with_reducible refine (kind_any x _ hr.1 hr.2).mono ?_
        rintro e w3 ⟨rfl, rfl⟩
        go_wp2_with (fail)
        with_reducible refine (endPk_any b s _ H2.out x).mono ?_
        rintro e w3 ⟨rfl, h3, m3⟩
        have H3 := Lib.hid h3
        have M3 := Lib.hid m3
        clear h3 m3
        go_wp2_with (fail)
        with_reducible refine (donePk_any b _ _ H3.out).mono ?_
        rintro e w4 ⟨rfl, rfl⟩
        go_wp2_with (fail)
        go_ret
        unfold PkPost
        rw [hs.out, HX.out, HA.out, if_neg HK.out]
        exact ⟨rfl, H3.out, HM2.out.mv M3.out (fun e => hne e.symm) (by simp) hvb (by cases v.ownBlock <;> simp), O2.out.trans (Only.of_mv M3.out (by simp))⟩
    · by_cases h1 : s.next = 1
      · have hs := Lib.hid (PS.step1 (R := rdC C) h1)
        have c0 : w.cell? ⟨b, 0, none⟩ = some (.int .i64 1) := by rw [← h1]; exact h.blk.cell 0
        have c1 : w.cell? ⟨b, 1, none⟩ = some (.int .i64 s.cell) := h.blk.cell 1
        have f0 := h.blk.frozen 0
        have h4 : PeekP b { s with next := 2 } (w.setCell ⟨b, 0, none⟩ (.int .i64 2)) := h.blk.set_ 0 _
        have M1 := Lib.hid (Mv.set1 w b 0 (.int .i64 2))
        have HM := Lib.hid (hm.mv M1.out (fun e => hne e.symm) (by simp) hvb (by cases v.ownBlock <;> simp))
        have c1' : (w.setCell ⟨b, 0, none⟩ (.int .i64 2)).cell? ⟨b, 1, none⟩ = some (.int .i64 s.cell) := h4.blk.cell 1
        have H := Lib.hid h
        have H4 := Lib.hid h4
        clear h h4
        clear h3 hI ho hm h0 h1 c1
        go_enter Tryz.func118, Tryz.ntmps118
        go_wp2_with (fail)
        with_reducible refine (read_any B bm v C size count odd ref s.cell _ HM.out hC z0 z1).mono ?_
        rintro e w2 ⟨rfl, hm2, m2⟩
        have h2 : PeekP b { s with next := 2 } w2 := m2.blk H4.out hne (by simp)
        have HM2 := Lib.hid hm2.read
        have O2 := Lib.hid ((Only.of_mv (S := [b, bm]) M1.out (by simp)).trans (Only.of_mv (S := [b, bm]) m2 (by simp)))
        clear hm2 m2 c0 c1'
        have hr := hR s.cell
        obtain ⟨x, hx⟩ : ∃ x, rdC C s.cell = x := ⟨_, rfl⟩
        rw [hx] at hr ⊢
        have HX := Lib.hid hx
        clear hx
        have c1 : w2.cell? ⟨b, 1, none⟩ = some (.int .i64 s.cell) := h2.blk.cell 1
        have c2 : w2.cell? ⟨b, 2, none⟩ = some (.int .i64 s.at_) := h2.blk.cell 2
        have f1 := h2.blk.frozen 1
        by_cases hk : x = 1
        · have ek : (x == 1) = true := by simpa using hk
          have HK := Lib.hid hk
          clear hk
          have M3 := Lib.hid (Mv.set1 w2 b 1 (.int .i64 (s.at_ + 3)))
          have h5 : PeekP b { s with next := 2, cell := s.at_ + 3 } (w2.setCell ⟨b, 1, none⟩ (.int .i64 (s.at_ + 3))) := h2.blk.set_ 1 _
          have H3 := Lib.hid h5
          clear h5
          clear h2
          go_wp2_with (fail)
          with_reducible refine (donePk_any b _ _ H3.out).mono ?_
          rintro e w4 ⟨rfl, rfl⟩
          go_wp2_with (fail)
          go_ret
          unfold PkPost
          rw [hs.out, HX.out, HA.out, if_pos HK.out]
          exact ⟨rfl, H3.out, HM2.out.mv M3.out (fun e => hne e.symm) (by simp) hvb (by cases v.ownBlock <;> simp), O2.out.trans (Only.of_mv M3.out (by simp))⟩
        · have ek : (x == 1) = false := by simpa using hk
          have HK := Lib.hid hk
          clear hk
          have M3 := Lib.hid (Mv.set1 w2 b 1 (.int .i64 (s.at_ + 2)))
          have h5 : PeekP b { s with next := 2, cell := s.at_ + 2 } (w2.setCell ⟨b, 1, none⟩ (.int .i64 (s.at_ + 2))) := h2.blk.set_ 1 _
          have H3 := Lib.hid h5
          clear h5
          clear h2
          go_wp2_with (fail)
          with_reducible refine (donePk_any b _ _ H3.out).mono ?_
          rintro e w4 ⟨rfl, rfl⟩
          go_wp2_with (fail)
          go_ret
          unfold PkPost
          rw [hs.out, HX.out, HA.out, if_neg HK.out]
          exact ⟨rfl, H3.out, HM2.out.mv M3.out (fun e => hne e.symm) (by simp) hvb (by cases v.ownBlock <;> simp), O2.out.trans (Only.of_mv M3.out (by simp))⟩
      · have h2 : s.next = 2 := by omega
        have hs := Lib.hid (PS.step2 (R := rdC C) h2)
        have c0 : w.cell? ⟨b, 0, none⟩ = some (.int .i64 2) := by rw [← h2]; exact h.blk.cell 0
        have c1 : w.cell? ⟨b, 1, none⟩ = some (.int .i64 s.cell) := h.blk.cell 1
        have H := Lib.hid h
        have HM := Lib.hid hm
        clear h hm
        clear h3 hI ho h0 h1 h2
        go_enter Tryz.func118, Tryz.ntmps118
        go_wp2_with (fail)
        with_reducible refine (read_any B bm v C size count odd ref s.cell _ HM.out hC z0 z1).mono ?_
        rintro e w2 ⟨rfl, hm2, m2⟩
        have h2 : PeekP b s w2 := m2.blk H.out hne (by simp)
        have HM2 := Lib.hid hm2.read
        have O2 := Lib.hid (Only.of_mv (S := [b, bm]) m2 (by simp))
        have H2 := Lib.hid h2
        clear h2
        clear hm2 m2 c0 c1
        go_wp2_with (fail)
        with_reducible refine (endPk_any b s _ H2.out _).mono ?_
        rintro e w3 ⟨rfl, h3, m3⟩
        have H3 := Lib.hid h3
        have M3 := Lib.hid m3
        clear h3 m3
        go_wp2_with (fail)
        with_reducible refine (donePk_any b _ _ H3.out).mono ?_
        rintro e w4 ⟨rfl, rfl⟩
        go_wp2_with (fail)
        go_ret
        unfold PkPost
        rw [hs.out, HA.out]
        exact ⟨rfl, H3.out, HM2.out.mv M3.out (fun e => hne e.symm) (by simp) hvb (by cases v.ownBlock <;> simp), O2.out.trans (Only.of_mv M3.out (by simp))⟩
end Go.Proofs.YtblajeildolloaaGreat
