/- Chapter 2's plain laws. No program. -/
import Derived.Test.YtkfgnacbifiadaaMathS
namespace Go.Proofs.Ytkfgnacbifiadaa
set_option linter.unusedVariables false
set_option linter.unusedSimpArgs false

theorem gap_sum {x y z : Int} (h : x ≤ y) (k : y ≤ z) : gapI x y + gapI y z = gapI x z := by
  unfold gapI; rw [if_neg (show ¬ y < x by omega), if_neg (show ¬ z < y by omega), if_neg (show ¬ z < x by omega)]; omega
theorem gap_le {x y z : Int} (h : x ≤ y) (k : y ≤ z) : gapI x y ≤ gapI x z := by
  unfold gapI; rw [if_neg (show ¬ y < x by omega), if_neg (show ¬ z < x by omega)]; omega
theorem gap_back {x z : Int} (h : x ≤ z) : gapI z x = 0 := by unfold gapI; split <;> omega
theorem gap_pos {x y : Int} (h : x < y) : 0 < gapI x y := by unfold gapI; rw [if_neg (by omega)]; omega

theorem lesI_mono {p q x : Int} (h : p ≤ q) : lesI p x ≤ lesI q x := by unfold lesI; split <;> split <;> omega
theorem shareI_in {p x n : Int} (x0 : 0 < x) (n0 : 1 ≤ n) (n1 : n ≤ 65536) : shareI p x n = lesI p x * n / x := if_neg (by omega)
theorem share_mono {p q x n m : Int} (p0 : 0 ≤ p) (h : p ≤ q) (x0 : 0 < x) (n0 : 1 ≤ n) (hn : n ≤ m) (m1 : m ≤ 65536) : shareI p x n ≤ shareI q x m := by
  rw [shareI_in x0 n0 (by omega), shareI_in x0 (by omega) m1]
  have a := lesI_mono (x := x) h
  obtain ⟨b0, b1, b2⟩ := lesI_bd p0 (show 0 ≤ x by omega)
  exact Int.ediv_le_ediv x0 (Int.mul_le_mul a hn (by omega) (by omega))
theorem share_all {x n : Int} (x0 : 0 < x) (n0 : 1 ≤ n) (n1 : n ≤ 65536) : shareI x x n = n := by
  rw [shareI_in x0 n0 n1]
  have : lesI x x = x := by unfold lesI; split <;> omega
  rw [this]; exact Int.mul_ediv_cancel_left _ (by omega)
theorem share_nil {x n : Int} (x0 : 0 < x) (n0 : 1 ≤ n) (n1 : n ≤ 65536) : shareI 0 x n = 0 := by
  rw [shareI_in x0 n0 n1]
  have : lesI 0 x = 0 := by unfold lesI; split <;> omega
  rw [this]; simp
theorem share_bd (p x n : Int) (p0 : 0 ≤ p) (x0 : 0 ≤ x) : 0 ≤ shareI p x n ∧ shareI p x n ≤ 65536 := by
  unfold shareI
  split
  · omega
  · obtain ⟨m0, m1, _⟩ := lesI_bd p0 x0
    have a0 : 0 ≤ lesI p x * n := Int.mul_nonneg m0 (by omega)
    have a1 : lesI p x * n ≤ x * 65536 := Int.mul_le_mul m1 (by omega) (by omega) (by omega)
    refine ⟨Int.ediv_nonneg a0 x0, ?_⟩
    have : lesI p x * n / x < 65537 := Int.ediv_lt_of_lt_mul (by omega) (by omega)
    omega
/-- What SpanShare compares, in halves of 64 bits. -/
theorem share_sides {p x n : Int} (p0 : 0 ≤ p) (x0 : 0 < x) (x1 : x ≤ 18446744073709551615) (n0 : 1 ≤ n) (n1 : n ≤ 65536) :
    0 ≤ shareI p x n ∧ shareI p x n ≤ n ∧ x * shareI p x n ≤ lesI p x * n ∧ lesI p x * n < x * (shareI p x n + 1) := by
  obtain ⟨m0, m1, _⟩ := lesI_bd p0 (show 0 ≤ x by omega)
  have a0 : 0 ≤ lesI p x * n := Int.mul_nonneg m0 (by omega)
  have a1 : lesI p x * n ≤ x * n := Int.mul_le_mul_of_nonneg_right m1 (by omega)
  rw [shareI_in x0 n0 n1]
  generalize lesI p x * n = c at *
  have e := Int.mul_ediv_add_emod c x
  have r0 := Int.emod_nonneg c (show x ≠ 0 by omega)
  have r1 := Int.emod_lt_of_pos c x0
  refine ⟨Int.ediv_nonneg a0 (by omega), ?_, by omega, by rw [Int.mul_add]; omega⟩
  have : c / x < n + 1 := Int.ediv_lt_of_lt_mul x0 (by rw [Int.add_mul, Int.mul_comm n x]; omega)
  omega
theorem halves_le {a b : Int} (h : a ≤ b) : a / 18446744073709551616 < b / 18446744073709551616 ∨ (a / 18446744073709551616 = b / 18446744073709551616 ∧ a % 18446744073709551616 ≤ b % 18446744073709551616) := by omega
theorem halves_lt {a b : Int} (h : a < b) : a / 18446744073709551616 < b / 18446744073709551616 ∨ (a / 18446744073709551616 = b / 18446744073709551616 ∧ a % 18446744073709551616 < b % 18446744073709551616) := by omega

theorem root_facts {n : Int} (h0 : 1 ≤ n) (h1 : n ≤ 9223372036854775807) : 1 ≤ rootI n ∧ rootI n ≤ 3037000499 ∧ rootI n * rootI n ≤ n ∧ n < (rootI n + 1) * (rootI n + 1) ∧ (rootI n + 1) * (rootI n + 1) ≤ 9223372037000250000 := by
  obtain ⟨s1, s2⟩ := rootI_spec (n := n) (by omega)
  have r1 := rootI_le h1
  have r0 : 1 ≤ rootI n := by
    have := rootI_mono h0
    have e : rootI 1 = 1 := rootI_unique (by decide) (by decide) (by decide)
    omega
  have m : (rootI n + 1) * (rootI n + 1) ≤ 3037000500 * 3037000500 := Int.mul_le_mul (by omega) (by omega) (by omega) (by omega)
  exact ⟨r0, r1, s1, s2, by omega⟩
theorem bits_facts {n : Int} (h0 : 1 ≤ n) (h1 : n ≤ 9223372036854775807) : ∃ k : Nat, bitsI n = k + 1 ∧ k ≤ 62 ∧ n / 2 ^ k = 1 := by
  obtain ⟨b1, b2⟩ := bitLen_lt (x := n.toNat) (by omega) (by omega)
  have bp := bitLen_pos (x := n.toNat) (by omega) (by omega)
  have le := bitsI_le h1
  refine ⟨Go.Lib.bitLen n.toNat - 1, by unfold bitsI; omega, by unfold bitsI at le; omega, ?_⟩
  obtain ⟨k, hk⟩ : ∃ k, Go.Lib.bitLen n.toNat = k + 1 := ⟨Go.Lib.bitLen n.toNat - 1, by omega⟩
  rw [hk] at b1 b2 ⊢
  have e : k + 1 - 1 = k := by omega
  rw [e] at b1 ⊢
  rw [Nat.pow_succ] at b2
  have P : (2 : Int) ^ k = ((2 ^ k : Nat) : Int) := by rw [Int.natCast_pow]; rfl
  rw [P]
  have p0 : 0 < 2 ^ k := Nat.two_pow_pos k
  generalize 2 ^ k = p at *
  have l : 1 ≤ n / (p : Int) := (Int.le_ediv_iff_mul_le (by omega)).2 (by omega)
  have u : n / (p : Int) < 2 := Int.ediv_lt_of_lt_mul (by omega) (by omega)
  omega

/-! ### sums and products -/
def capI (x : Int) : Int := if 9223372036854775807 < x then 9223372036854775807 else x
theorem timesI_cap {a b : Int} (h : 0 ≤ a) (k : 0 ≤ b) : timesI a b = capI (a * b) := by
  unfold timesI capI
  split
  · rename_i g
    have : a = 0 ∨ b = 0 := by omega
    rcases this with rfl | rfl <;> simp
  · rfl
theorem capI_mul {x c : Int} (h : 0 ≤ x) (k : 0 ≤ c) : capI (capI x * c) = capI (x * c) := by
  unfold capI
  by_cases g : 9223372036854775807 < x
  · rw [if_pos g]
    by_cases z : c = 0
    · subst z; simp
    · have a : 9223372036854775807 * 1 ≤ 9223372036854775807 * c := Int.mul_le_mul_of_nonneg_left (by omega) (by omega)
      have b : x * 1 ≤ x * c := Int.mul_le_mul_of_nonneg_left (by omega) (by omega)
      rw [if_pos (show 9223372036854775807 < x * c by omega)]
      split <;> omega
  · rw [if_neg g]
theorem times_assoc {a b c : Int} (h : 0 ≤ a) (k : 0 ≤ b) (l : 0 ≤ c) : timesI (timesI a b) c = timesI a (timesI b c) := by
  have e1 := timesI_nonneg a b
  have e2 := timesI_nonneg b c
  rw [timesI_cap e1 l, timesI_cap h e2, timesI_cap h k, timesI_cap k l, capI_mul (Int.mul_nonneg h k) l, Int.mul_comm a (capI _), capI_mul (Int.mul_nonneg k l) h, Int.mul_comm (b * c) a, Int.mul_assoc]
theorem plus_assoc {a b c : Int} (h : 0 ≤ a) (k : 0 ≤ b) (l : 0 ≤ c) : plusI (plusI a b) c = plusI a (plusI b c) := by
  have e1 := plusI_nonneg a b
  have e2 := plusI_nonneg b c
  have u : ∀ {x y : Int}, 0 ≤ x → 0 ≤ y → plusI x y = if 9223372036854775807 < x + y then 9223372036854775807 else x + y := fun hx hy => if_neg (by omega)
  rw [u e1 l, u h e2, u h k, u k l]
  split <;> split <;> split <;> split <;> omega
theorem plus_comm (a b : Int) : plusI b a = plusI a b := by
  unfold plusI
  rw [Int.add_comm b a]
  split <;> split <;> first | rfl | omega
theorem times_comm (a b : Int) : timesI b a = timesI a b := by
  unfold timesI
  rw [Int.mul_comm b a]
  split <;> split <;> first | rfl | omega
theorem plus_ge {a b : Int} (h : 0 ≤ a) (k : 0 ≤ b) (u : a ≤ 9223372036854775807) (v : b ≤ 9223372036854775807) : a ≤ plusI a b ∧ b ≤ plusI a b := by
  unfold plusI; rw [if_neg (by omega)]; split <;> omega
theorem times_ge {a b : Int} (h : 0 ≤ a) (k : 0 < b) (u : a ≤ 9223372036854775807) : a ≤ timesI a b := by
  rw [timesI_cap h (by omega)]
  have : a * 1 ≤ a * b := Int.mul_le_mul_of_nonneg_left (by omega) h
  unfold capI; split <;> omega
theorem times_one {a : Int} (h : 0 ≤ a) (u : a ≤ 9223372036854775807) : timesI a 1 = a := by
  rw [timesI_cap h (by omega), Int.mul_one]; unfold capI; rw [if_neg (by omega)]
theorem plus_zero {a : Int} (h : 0 ≤ a) (u : a ≤ 9223372036854775807) : plusI a 0 = a := by
  rw [plusI_eq h (by omega) (by omega)]; omega
end Go.Proofs.Ytkfgnacbifiadaa
