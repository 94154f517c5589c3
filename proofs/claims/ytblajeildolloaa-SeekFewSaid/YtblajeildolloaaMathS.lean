/- Chapter 2's plain mathematics: gaps and shares. No program. -/
import Derived.Test.YtblajeildolloaaMath
import Derived.Laws.Bits64b
import Derived.IntWalk
namespace Go.Proofs.Ytblajeildolloaa
set_option linter.unusedVariables false
set_option linter.unusedSimpArgs false

def gapI (a b : Int) : Int := if b < a then 0 else b - a
def lesI (a b : Int) : Int := if b < a then b else a
def shareI (p x n : Int) : Int := if x = 0 ∨ n < 1 ∨ 65536 < n then 0 else lesI p x * n / x
theorem shareI_none {p x n : Int} (h : x = 0 ∨ n < 1 ∨ 65536 < n) : shareI p x n = 0 := if_pos h
theorem lesI_bd {p x : Int} (p0 : 0 ≤ p) (x0 : 0 ≤ x) : 0 ≤ lesI p x ∧ lesI p x ≤ x ∧ lesI p x ≤ p := by unfold lesI; split <;> omega
theorem gap_wrap {a b : Int} (a0 : -9223372036854775808 ≤ a) (a1 : a ≤ 9223372036854775807) (b0 : -9223372036854775808 ≤ b) (b1 : b ≤ 9223372036854775807) (h : a ≤ b) : IntKind.u64.wrap (IntKind.u64.wrap b - IntKind.u64.wrap a) = gapI a b := by
  unfold gapI; rw [if_neg (by omega)]
  simp only [IntKind.wrap_u64]
  omega
theorem gapI_bd {a b : Int} (a0 : -9223372036854775808 ≤ a) (b1 : b ≤ 9223372036854775807) : 0 ≤ gapI a b ∧ gapI a b ≤ 18446744073709551615 := by unfold gapI; split <;> omega

theorem share_split {m x n : Int} (m0 : 0 ≤ m) (m1 : m ≤ x) (x0 : 0 < x) (x1 : x ≤ 18446744073709551615) (n0 : 1 ≤ n) (n1 : n ≤ 65536) :
    0 ≤ m * n / 18446744073709551616 ∧ m * n / 18446744073709551616 < x ∧ 0 ≤ m * n % 18446744073709551616 ∧ m * n % 18446744073709551616 ≤ 18446744073709551615 ∧ (m * n / 18446744073709551616 * 18446744073709551616 + m * n % 18446744073709551616) / x = m * n / x ∧ m * n / 18446744073709551616 * 18446744073709551616 + m * n % 18446744073709551616 < x * 4294967296 ∧ (0 ≤ m * n / x ∧ m * n / x ≤ 65536) := by
  have a0 : 0 ≤ m * n := Int.mul_nonneg m0 (by omega)
  have a1 : m * n ≤ x * 65536 := Int.mul_le_mul m1 n1 (by omega) (by omega)
  have e : m * n / 18446744073709551616 * 18446744073709551616 + m * n % 18446744073709551616 = m * n := by omega
  rw [e]
  have b0 : 0 ≤ m * n / x := Int.ediv_nonneg a0 (by omega)
  have b1 : m * n / x < 65537 := Int.ediv_lt_of_lt_mul x0 (by omega)
  refine ⟨by omega, by omega, by omega, by omega, rfl, by omega, b0, by omega⟩

/-- What is known when b binary digits of n are still to come: q * x + r = m * (n without these). -/
structure ShareAt (m x n : Int) (b : Nat) (q r : Int) : Prop where
  eq : q * x + r = m * (n / 2 ^ b)
  r0 : 0 ≤ r
  r1 : r < x

theorem ShareAt.start {m x n : Int} (n0 : 0 ≤ n) (n1 : n ≤ 65536) (x0 : 0 < x) : ShareAt m x n 17 0 0 := by
  have : n / 2 ^ 17 = 0 := Int.ediv_eq_zero_of_lt n0 (by omega)
  exact ⟨by rw [this]; simp, by omega, x0⟩
theorem ShareAt.done {m x n q r : Int} (h : ShareAt m x n 0 q r) (x0 : 0 < x) : m * n / x = q := by
  have e := h.eq
  have : n / 2 ^ 0 = n := by simp
  rw [this] at e
  rw [← e, Int.add_comm, Int.add_mul_ediv_right _ _ (by omega), Int.ediv_eq_zero_of_lt h.r0 h.r1, Int.zero_add]
theorem half_pow (n : Int) (j : Nat) : n / 2 ^ (j + 1) = n / 2 ^ j / 2 := by
  rw [Int.pow_succ, Int.ediv_ediv_of_nonneg (Int.pow_nonneg (by decide))]
theorem ShareAt.bd {m x n q r : Int} {j : Nat} (h : ShareAt m x n (j + 1) q r) (m0 : 0 ≤ m) (m1 : m ≤ x) (x0 : 0 < x) (n0 : 0 ≤ n) (n1 : n ≤ 65536) : 0 ≤ r ∧ r < x ∧ 0 ≤ q ∧ q ≤ 65536 := by
  refine ⟨h.r0, h.r1, ?_⟩
  have e := h.eq
  have k0 : 0 ≤ n / 2 ^ (j + 1) := Int.ediv_nonneg n0 (Int.pow_nonneg (by decide))
  have k1 : n / 2 ^ (j + 1) ≤ n := Int.ediv_le_self _ n0
  generalize n / 2 ^ (j + 1) = k at *
  have a0 : 0 ≤ m * k := Int.mul_nonneg m0 k0
  have a1 : m * k ≤ x * k := Int.mul_le_mul_of_nonneg_right m1 k0
  have r0 := h.r0
  have r1 := h.r1
  constructor
  · rcases Int.lt_or_le q 0 with g | g
    · have : q * x ≤ (-1) * x := Int.mul_le_mul_of_nonneg_right (by omega) (by omega)
      omega
    · exact g
  · rcases Int.lt_or_le 65536 q with g | g
    · have : 65537 * x ≤ q * x := Int.mul_le_mul_of_nonneg_right (by omega) (by omega)
      have : x * k ≤ x * 65536 := Int.mul_le_mul_of_nonneg_left (by omega) (by omega)
      omega
    · exact g
section
variable {m x n q r : Int} {j : Nat}
theorem ShareAt.twice (h : ShareAt m x n (j + 1) q r) (c2 : n / 2 ^ j % 2 = 0) : (2 * q) * x + (r + r) = m * (n / 2 ^ j) := by
  have e := h.eq
  rw [half_pow] at e
  have : n / 2 ^ j = 2 * (n / 2 ^ j / 2) := by omega
  rw [this, Int.mul_left_comm, ← e, Int.mul_assoc, Int.mul_add]; omega
theorem ShareAt.twice1 (h : ShareAt m x n (j + 1) q r) (c2 : n / 2 ^ j % 2 = 1) : (2 * q) * x + (r + r) + m = m * (n / 2 ^ j) := by
  have e := h.eq
  rw [half_pow] at e
  have : n / 2 ^ j = 2 * (n / 2 ^ j / 2) + 1 := by omega
  rw [this, Int.mul_add, Int.mul_one, Int.mul_left_comm, ← e, Int.mul_assoc, Int.mul_add]; omega
theorem ShareAt.step1 (h : ShareAt m x n (j + 1) q r) (c1 : x - r ≤ r) (c2 : n / 2 ^ j % 2 = 0) : ShareAt m x n j (2 * q + 1) (r - (x - r)) :=
  ⟨by rw [← h.twice c2, Int.add_mul]; omega, by have := h.r0; omega, by have := h.r1; omega⟩
theorem ShareAt.step2 (h : ShareAt m x n (j + 1) q r) (m1 : m ≤ x) (c1 : x - r ≤ r) (c2 : n / 2 ^ j % 2 = 1) (c3 : x - (r - (x - r)) ≤ m) : ShareAt m x n j (2 * q + 1 + 1) (r - (x - r) - (x - m)) :=
  ⟨by rw [← h.twice1 c2, Int.add_mul, Int.add_mul]; omega, by omega, by have := h.r1; omega⟩
theorem ShareAt.step3 (h : ShareAt m x n (j + 1) q r) (m0 : 0 ≤ m) (c1 : x - r ≤ r) (c2 : n / 2 ^ j % 2 = 1) (c3 : ¬ x - (r - (x - r)) ≤ m) : ShareAt m x n j (2 * q + 1) (r - (x - r) + m) :=
  ⟨by rw [← h.twice1 c2, Int.add_mul]; omega, by omega, by omega⟩
theorem ShareAt.step4 (h : ShareAt m x n (j + 1) q r) (c1 : ¬ x - r ≤ r) (c2 : n / 2 ^ j % 2 = 0) : ShareAt m x n j (2 * q) (r + r) :=
  ⟨h.twice c2, by have := h.r0; omega, by omega⟩
theorem ShareAt.step5 (h : ShareAt m x n (j + 1) q r) (m1 : m ≤ x) (c1 : ¬ x - r ≤ r) (c2 : n / 2 ^ j % 2 = 1) (c3 : x - (r + r) ≤ m) : ShareAt m x n j (2 * q + 1) (r + r - (x - m)) :=
  ⟨by rw [← h.twice1 c2, Int.add_mul]; omega, by omega, by omega⟩
theorem ShareAt.step6 (h : ShareAt m x n (j + 1) q r) (m0 : 0 ≤ m) (c1 : ¬ x - r ≤ r) (c2 : n / 2 ^ j % 2 = 1) (c3 : ¬ x - (r + r) ≤ m) : ShareAt m x n j (2 * q) (r + r + m) :=
  ⟨by rw [← h.twice1 c2]; omega, by have := h.r0; omega, by omega⟩
end
theorem bit_eq (n : Int) (j : Nat) (n0 : 0 ≤ n) (n1 : n ≤ 9223372036854775807) : bits .and .i64 (n / 2 ^ j) 1 = n / 2 ^ j % 2 := by
  have k0 : 0 ≤ n / 2 ^ j := Int.ediv_nonneg n0 (Int.pow_nonneg (by decide))
  have k1 : n / 2 ^ j ≤ n := Int.ediv_le_self _ n0
  generalize n / 2 ^ j = k at *
  obtain ⟨a, rfl⟩ := Int.eq_ofNat_of_zero_le k0
  have h1 : (BitVec.ofInt 64 (a : Int)).toNat = a := by
    rw [BitVec.ofInt_natCast, BitVec.toNat_ofNat]; exact Nat.mod_eq_of_lt (by omega)
  have h2 : (BitVec.ofInt 64 (1 : Int)).toNat = 1 := rfl
  show IntKind.i64.wrap ((BitVec.ofInt 64 (a : Int) &&& BitVec.ofInt 64 (1 : Int)).toNat : Int) = _
  rw [BitVec.toNat_and, h1, h2, Nat.and_one_is_mod, IntWalk.i64_in _ (by omega)]
  omega
end Go.Proofs.Ytblajeildolloaa
