/- Chapter 29's plain laws. -/
import Derived.Test.YtjlhngffkmbdmaaRef
namespace Go.Proofs.Ytjlhngffkmbdmaa
set_option linter.unusedVariables false
set_option linter.unusedSimpArgs false
open Go.RowKit

theorem posI_plusI (a b : Int) : posI (plusI a b) = plusI a b := posI_of (plusI_nonneg _ _)
theorem posI_timesI (a b : Int) : posI (timesI a b) = timesI a b := posI_of (timesI_nonneg _ _)
theorem posI_rootI (a : Int) : posI (rootI a) = rootI a := posI_of (rootI_nonneg _)
theorem posI_bitsI (a : Int) : posI (bitsI a) = bitsI a := posI_of (bitsI_nonneg _)
theorem window_eq {t c b : Int} (ht : t ≤ 9223372036854775807) (hc : c ≤ 9223372036854775807) : windowI t c b = refWindowI t c b := by
  have e10 : posI 10 = 10 := rfl
  have e64 : posI 64 = 64 := rfl
  have e8 : posI 8 = 8 := rfl
  have e1 : posI 1 = 1 := rfl
  have e2 : posI 2 = 2 := rfl
  have f10 : timesI 1 10 = 10 := rfl
  have f8 : timesI 1 8 = 8 := rfl
  have ft : timesI 1 (posI t) = posI t := timesI_one (posI_nonneg _) (posI_le ht)
  have fc : plusI 0 (posI c) = posI c := plusI_zero (posI_nonneg _) (posI_le hc)
  have fr : plusI 0 (rootI c) = rootI c := plusI_zero (rootI_nonneg _) (by have := rootI_le hc; omega)
  have f0 : ∀ x y, plusI 0 (timesI x y) = timesI x y := fun x y => plusI_zero (timesI_nonneg _ _) (timesI_le _ _)
  simp only [windowI, refWindowI, productI, sumI, posI_plusI, posI_timesI, posI_rootI, e10, e64, e8, e1, e2, f10, f8, ft, fc, fr, f0, rootI_pos]
theorem solo_eq {t c : Int} (ht : t ≤ 9223372036854775807) (hc : c ≤ 9223372036854775807) : soloI t c = refSoloI t c := by
  have e10 : posI 3 = 3 := rfl
  have e64 : posI 32 = 32 := rfl
  have e8 : posI 8 = 8 := rfl
  have e2 : posI 4 = 4 := rfl
  have f10 : timesI 1 3 = 3 := rfl
  have f8 : timesI 1 8 = 8 := rfl
  have ft : plusI 0 (posI t) = posI t := plusI_zero (posI_nonneg _) (posI_le ht)
  have fr : plusI 0 (rootI c) = rootI c := plusI_zero (rootI_nonneg _) (by have := rootI_le hc; omega)
  have f1 : ∀ x y, timesI 1 (plusI x y) = plusI x y := fun x y => timesI_one (plusI_nonneg _ _) (plusI_le _ _)
  have f0 : ∀ x y, plusI 0 (timesI x y) = timesI x y := fun x y => plusI_zero (timesI_nonneg _ _) (timesI_le _ _)
  simp only [soloI, refSoloI, productI, sumI, posI_plusI, posI_timesI, posI_rootI, e10, e64, e8, e2, f10, f8, ft, fr, f0, f1, rootI_pos]
theorem deep_eq {n : Int} (hn : n ≤ 9223372036854775807) : deepI n = 2 * bitsI n + 2 := by
  have b0 := bitsI_nonneg n
  have b1 := bitsI_le hn
  have e2 : posI 2 = 2 := rfl
  have f2 : timesI 1 2 = 2 := rfl
  have g : timesI 2 (bitsI n) = 2 * bitsI n := timesI_eq (by omega) b0 (by omega)
  have k : plusI 0 (2 * bitsI n) = 2 * bitsI n := plusI_zero (by omega) (by omega)
  have p : posI (2 * bitsI n) = 2 * bitsI n := posI_of (by omega)
  have q : plusI (2 * bitsI n) 2 = 2 * bitsI n + 2 := plusI_eq (by omega) (by omega) (by omega)
  simp only [deepI, productI, sumI, posI_bitsI, e2, f2, g, k, p, q]

theorem refWindow_mono {t c b t' c' b' : Int} (h1 : t ≤ t') (h2 : c ≤ c') (h3 : b ≤ b') : refWindowI t c b ≤ refWindowI t' c' b' := by
  have g1 := posI_mono h1
  have g2 := posI_mono h2
  have g3 := posI_mono h3
  have r := rootI_mono g2
  have r0 := rootI_nonneg (posI c)
  have c0 := posI_nonneg c
  have w := plusI_mono r0 (show (0 : Int) ≤ 2 by decide) r (Int.le_refl 2)
  have x := plusI_mono (timesI_nonneg _ _) (show (0 : Int) ≤ 64 by decide) (timesI_mono (timesI_mono (Int.le_refl 10) g2) w) (Int.le_refl 64)
  exact timesI_mono (timesI_mono g1 (plusI_mono c0 (by decide) g2 (Int.le_refl 1))) (plusI_mono (plusI_nonneg _ _) (timesI_nonneg _ _) x (timesI_mono (Int.le_refl 8) g3))
theorem refSolo_mono {t c t' c' : Int} (h1 : t ≤ t') (h2 : c ≤ c') : refSoloI t c ≤ refSoloI t' c' := by
  have g1 := posI_mono h1
  have g2 := posI_mono h2
  have r := rootI_mono g2
  have r0 := rootI_nonneg (posI c)
  have t0 := posI_nonneg t
  have w := plusI_mono r0 (show (0 : Int) ≤ 4 by decide) r (Int.le_refl 4)
  have x := plusI_mono (timesI_nonneg _ _) (timesI_nonneg _ _) (timesI_mono (timesI_mono (Int.le_refl 3) g2) w) (timesI_mono (Int.le_refl 8) g1)
  exact timesI_mono (plusI_mono t0 (by decide) g1 (Int.le_refl 3)) (plusI_mono (plusI_nonneg _ _) (by decide) x (Int.le_refl 32))

/-! ### numbers that stay far below the greatest -/
theorem refWindow_of {t c b : Int} (t0 : 0 ≤ t) (t1 : t ≤ 100) (c0 : 0 ≤ c) (c1 : c ≤ 70000) (b0 : 0 ≤ b) (b1 : b ≤ 100) : refWindowI t c b = t * (c + 1) * (10 * c * (rootI c + 2) + 64 + 8 * b) := by
  have r0 := rootI_nonneg c
  have r1 : rootI c ≤ 264 := by
    have := rootI_mono c1
    have e : rootI 70000 = 264 := rootI_unique (by decide) (by decide) (by decide)
    omega
  have m1 : 10 * c * (rootI c + 2) ≤ 700000 * 266 := Int.mul_le_mul (by omega) (by omega) (by omega) (by omega)
  have m0 : 0 ≤ 10 * c * (rootI c + 2) := Int.mul_nonneg (by omega) (by omega)
  have n1 : t * (c + 1) ≤ 100 * 70001 := Int.mul_le_mul t1 (by omega) (by omega) (by omega)
  have n0 : 0 ≤ t * (c + 1) := Int.mul_nonneg t0 (by omega)
  have k1 : t * (c + 1) * (10 * c * (rootI c + 2) + 64 + 8 * b) ≤ (100 * 70001) * (700000 * 266 + 64 + 800) := Int.mul_le_mul n1 (by omega) (by omega) (by omega)
  unfold refWindowI
  rw [posI_of t0, posI_of c0, posI_of b0, timesI_eq (a := 10) (b := c) (by omega) c0 (by omega), plusI_eq r0 (show (0 : Int) ≤ 2 by decide) (by omega), timesI_eq (a := 10 * c) (by omega) (by omega) (by omega), plusI_eq m0 (show (0 : Int) ≤ 64 by decide) (by omega), timesI_eq (a := 8) (by omega) b0 (by omega), plusI_eq (a := 10 * c * (rootI c + 2) + 64) (by omega) (by omega) (by omega), plusI_eq c0 (show (0 : Int) ≤ 1 by decide) (by omega), timesI_eq t0 (by omega) (by omega), timesI_eq n0 (by omega) (by omega)]
theorem refSolo_of {t c : Int} (t0 : 0 ≤ t) (t1 : t ≤ 100) (c0 : 0 ≤ c) (c1 : c ≤ 70000) : refSoloI t c = (t + 3) * (3 * c * (rootI c + 4) + 8 * t + 32) := by
  have r0 := rootI_nonneg c
  have r1 : rootI c ≤ 264 := by
    have := rootI_mono c1
    have e : rootI 70000 = 264 := rootI_unique (by decide) (by decide) (by decide)
    omega
  have m1 : 3 * c * (rootI c + 4) ≤ 210000 * 268 := Int.mul_le_mul (by omega) (by omega) (by omega) (by omega)
  have m0 : 0 ≤ 3 * c * (rootI c + 4) := Int.mul_nonneg (by omega) (by omega)
  have k1 : (t + 3) * (3 * c * (rootI c + 4) + 8 * t + 32) ≤ 103 * (210000 * 268 + 800 + 32) := Int.mul_le_mul (by omega) (by omega) (by omega) (by omega)
  unfold refSoloI
  rw [posI_of t0, posI_of c0, timesI_eq (a := 3) (b := c) (by omega) c0 (by omega), plusI_eq r0 (show (0 : Int) ≤ 4 by decide) (by omega), timesI_eq (a := 3 * c) (by omega) (by omega) (by omega), timesI_eq (a := 8) (by omega) t0 (by omega), plusI_eq m0 (by omega) (by omega), plusI_eq (a := 3 * c * (rootI c + 4) + 8 * t) (by omega) (by omega) (by omega), plusI_eq t0 (show (0 : Int) ≤ 3 by decide) (by omega), timesI_eq (by omega) (by omega) (by omega)]

theorem room_one {t c b : Int} (t0 : 1 ≤ t) (t1 : t ≤ 100) (c0 : 7 ≤ c) (c1 : c ≤ 70000) (b0 : 1 ≤ b) (b1 : b ≤ 100) : refSoloI 1 c ≤ refWindowI t c b := by
  rw [refSolo_of (by omega) (by omega) (by omega) c1, refWindow_of (by omega) t1 (by omega) c1 (by omega) b1]
  have r0 : 2 ≤ rootI c := by
    have := rootI_mono c0
    have e : rootI 7 = 2 := rootI_unique (by decide) (by decide) (by decide)
    omega
  generalize rootI c = r at *
  have a1 : 1 * 8 ≤ t * (c + 1) := Int.mul_le_mul t0 (by omega) (by omega) (by omega)
  have a2 : 1 * 8 * (10 * c * (r + 2) + 72) ≤ t * (c + 1) * (10 * c * (r + 2) + 64 + 8 * b) := Int.mul_le_mul a1 (by omega) (by have := Int.mul_nonneg (show 0 ≤ 10 * c by omega) (show 0 ≤ r + 2 by omega); omega) (by omega)
  have a3 : 10 * c * (r + 2) = 10 * (c * r) + 20 * c := by rw [Int.mul_add, Int.mul_assoc]; omega
  have a4 : 3 * c * (r + 4) = 3 * (c * r) + 12 * c := by rw [Int.mul_add, Int.mul_assoc]; omega
  have a5 : 0 ≤ c * r := Int.mul_nonneg (by omega) (by omega)
  omega
theorem room_two {t c : Int} (t0 : 1 ≤ t) (t1 : t ≤ 100) (c0 : 7 ≤ c) (c1 : c ≤ 70000) : c ≤ refSoloI t c := by
  rw [refSolo_of (by omega) (by omega) (by omega) c1]
  have r0 := rootI_nonneg c
  generalize rootI c = r at *
  have a4 : 3 * c * (r + 4) = 3 * (c * r) + 12 * c := by rw [Int.mul_add, Int.mul_assoc]; omega
  have a5 : 0 ≤ c * r := Int.mul_nonneg (by omega) (by omega)
  have a6 : 1 * (3 * c * (r + 4) + 8 * t + 32) ≤ (t + 3) * (3 * c * (r + 4) + 8 * t + 32) := Int.mul_le_mul_of_nonneg_right (by omega) (by omega)
  omega
theorem room_three {t c b : Int} (t0 : 1 ≤ t) (t1 : t ≤ 100) (c0 : 7 ≤ c) (c1 : c ≤ 70000) (b0 : 1 ≤ b) (b1 : b ≤ 100) : t * c ≤ refWindowI t c b := by
  rw [refWindow_of (by omega) t1 (by omega) c1 (by omega) b1]
  have r0 := rootI_nonneg c
  generalize rootI c = r at *
  have a0 : 0 ≤ 10 * c * (r + 2) := Int.mul_nonneg (by omega) (by omega)
  have a1 : t * c ≤ t * (c + 1) := Int.mul_le_mul_of_nonneg_left (by omega) (by omega)
  have a2 : 0 ≤ t * (c + 1) := Int.mul_nonneg (by omega) (by omega)
  have a3 : t * (c + 1) * 1 ≤ t * (c + 1) * (10 * c * (r + 2) + 64 + 8 * b) := Int.mul_le_mul_of_nonneg_left (by omega) a2
  omega

theorem deep_double {n : Int} (h : 0 < n) (hn : n ≤ 1000000) : deepI (2 * n) = deepI n + 2 := by
  rw [deep_eq (by omega), deep_eq (by omega), bitsI_half (n := 2 * n) (by omega) (by omega)]
  have : 2 * n / 2 = n := by omega
  rw [this]; omega
theorem bits_lt {n : Int} (h : 0 < n) (hn : n ≤ 9223372036854775807) : bitsI n ≤ n := by
  unfold bitsI
  obtain ⟨s1, _⟩ := bitLen_lt (x := n.toNat) (by omega) (by omega)
  have : Go.Lib.bitLen n.toNat - 1 < 2 ^ (Go.Lib.bitLen n.toNat - 1) := Nat.lt_two_pow_self
  omega
end Go.Proofs.Ytjlhngffkmbdmaa
