/- Chapter 5's plain laws. No program. -/
import Derived.Test.YtjlhngffkmbdmaaMathQ
namespace Go.Proofs.Ytjlhngffkmbdmaa
set_option linter.unusedVariables false
set_option linter.unusedSimpArgs false

theorem size_near {n i : Int} (h0 : 2 ≤ n) (h1 : n ≤ 16384) (i0 : 0 ≤ i) (i1 : i < degreeI n) : sizeI n i ≤ sizeI n 0 ∧ sizeI n 0 - 1 ≤ sizeI n i := by
  have d0 := (degreeI_bd h0 h1).1
  rw [(sizeI_in h0 h1 i0 i1).1, (sizeI_in (i := 0) h0 h1 (by omega) (by omega)).1]
  split <;> split <;> omega
theorem size_next {n i : Int} (h0 : 2 ≤ n) (h1 : n ≤ 16384) (i0 : 0 < i) (i1 : i < degreeI n) : sizeI n i ≤ sizeI n (i - 1) := by
  rw [(sizeI_in h0 h1 (by omega) i1).1, (sizeI_in (i := i - 1) h0 h1 (by omega) (by omega)).1]
  split <;> split <;> omega

theorem degree_root {n : Int} (h0 : 2 ≤ n) (h1 : n ≤ 16384) : 1 ≤ rootI n ∧ degreeI n - rootI n ≤ 1 ∧ rootI n - degreeI n ≤ 0 ∧ (degreeI n ≠ rootI n → n < 4) := by
  have r1 : 1 ≤ rootI n := by
    have := rootI_mono h0
    have e : rootI 2 = 1 := rootI_unique (by decide) (by decide) (by decide)
    omega
  have r2 : 4 ≤ n → 2 ≤ rootI n := fun h => by
    have := rootI_mono h
    have e : rootI 4 = 2 := rootI_unique (by decide) (by decide) (by decide)
    omega
  have e : degreeI n = if 2 < rootI n then rootI n else 2 := by unfold degreeI; rw [if_neg (show ¬ (n < 2 ∨ 16384 < n) by omega)]
  rw [e]
  refine ⟨r1, ?_, ?_, ?_⟩
  · split <;> omega
  · split <;> omega
  · split
    · intro h; exact absurd rfl h
    · intro h
      by_cases g : 4 ≤ n
      · have := r2 g; omega
      · omega

/-- The deepest of the first i parts. -/
def deepMax (n : Int) : Nat → Int
  | 0 => 0
  | i + 1 => maxI (deepMax n i) (depthI (sizeI n i))
theorem deepMax_to (n : Int) : ∀ i : Nat, 1 + deepMax n (i + 1) = deepTo n (i + 1)
  | 0 => by
    have := depthI_nonneg (sizeI n ((0 : Nat) : Int))
    have e0 : deepMax n 0 = 0 := rfl
    have e1 : deepTo n 0 = 0 := rfl
    rw [deepMax, deepTo, e0, e1]
    generalize depthI (sizeI n ((0 : Nat) : Int)) = x at *
    unfold maxI
    split <;> split <;> omega
  | i + 1 => by
    have ih := deepMax_to n i
    rw [deepMax, deepTo, ← ih]
    generalize deepMax n (i + 1) = x
    unfold maxI; split <;> split <;> omega
theorem deepMax_all {n : Int} (h0 : 2 ≤ n) (h1 : n ≤ 16384) : depthI n = 1 + deepMax n (degreeI n).toNat := by
  have d0 := (degreeI_bd h0 h1).1
  obtain ⟨k, hk⟩ : ∃ k, (degreeI n).toNat = k + 1 := ⟨(degreeI n).toNat - 1, by omega⟩
  rw [← deepTo_all h0 h1, hk, deepMax_to]
theorem deepMax_bd (n : Int) : ∀ i, 0 ≤ deepMax n i ∧ deepMax n i ≤ 16384
  | 0 => by simp [deepMax]
  | i + 1 => by
    have a := deepMax_bd n i
    have b := depthI_nonneg (sizeI n i)
    have c := depthI_le (sizeI n i)
    rw [deepMax]; unfold maxI; split <;> omega

theorem limit_facts {a b : Int} (h0 : 0 ≤ a) (h : a ≤ b) (h1 : b ≤ 16384) : 2 ≤ limitI a ∧ limitI a ≤ limitI b ∧ 2 * limitI b ≤ b + 4 ∧ 4 * (limitI b - 2) ≤ b ∧ b < 4 * (limitI b - 1) := by
  have e1 : limitI a = a / 4 + 2 := if_neg (by omega)
  have e2 : limitI b = b / 4 + 2 := if_neg (by omega)
  rw [e1, e2]; omega

/-! ### how deep -/
theorem depth_one {n : Int} (h0 : 2 ≤ n) (h1 : n ≤ 16384) : 1 ≤ depthI n := by
  have a := depthI_nonneg (n / degreeI n)
  have b := depthI_nonneg (n / degreeI n + 1)
  rw [depthI_eq h0 h1]
  split
  · unfold maxI; split <;> omega
  · omega
/-- If every part is no deeper than k, n is no deeper than k + 1. -/
theorem depth_step {n p k : Int} (h0 : 2 ≤ n) (h1 : n ≤ 16384) (hp : n ≤ p * degreeI n) (h : ∀ m, 1 ≤ m → m ≤ p → depthI m ≤ k) : depthI n ≤ k + 1 := by
  obtain ⟨p1, p2, p3, p4, p5, p6⟩ := parts h0 h1
  have d0 := (degreeI_bd h0 h1).1
  have q1 : n / degreeI n ≤ p := by
    have : n / degreeI n < p + 1 := Int.ediv_lt_of_lt_mul (by omega) (by rw [Int.add_mul]; omega)
    omega
  have a := h _ p4 q1
  rw [depthI_eq h0 h1]
  split
  · rename_i c
    have q2 : n / degreeI n + 1 ≤ p := by
      rcases Int.lt_or_le (n / degreeI n) p with g | g
      · omega
      · have e : n / degreeI n = p := by omega
        rw [e, Int.mul_comm] at p1
        omega
    have b := h _ (by omega) q2
    unfold maxI; split <;> omega
  · omega
theorem degree_two {n : Int} (h0 : 2 ≤ n) (h1 : n ≤ 16384) : n < (degreeI n + 1) * (degreeI n + 1) := by
  have s := (rootI_spec (n := n) (by omega)).2
  have e : degreeI n = if 2 < rootI n then rootI n else 2 := by unfold degreeI; rw [if_neg (show ¬ (n < 2 ∨ 16384 < n) by omega)]
  rw [e]
  split
  · exact s
  · have r := rootI_nonneg n
    have : (rootI n + 1) * (rootI n + 1) ≤ (2 + 1) * (2 + 1) := Int.mul_le_mul (by omega) (by omega) (by omega) (by omega)
    omega
theorem depth_2 {n : Int} (h0 : 1 ≤ n) (h1 : n ≤ 2) : depthI n ≤ 1 := by
  have : n = 1 ∨ n = 2 := by omega
  rcases this with rfl | rfl
  · have : depthI 1 = 0 := by decide +kernel
    omega
  · have : depthI 2 = 1 := by decide +kernel
    omega
theorem depth_4 {n : Int} (h0 : 1 ≤ n) (h1 : n ≤ 4) : depthI n ≤ 2 := by
  by_cases g : n ≤ 2
  · have := depth_2 h0 g; omega
  · have d0 := (degreeI_bd (n := n) (by omega) (by omega)).1
    exact depth_step (p := 2) (by omega) (by omega) (by omega) (fun m a b => depth_2 a b)
theorem depth_12 {n : Int} (h0 : 1 ≤ n) (h1 : n ≤ 12) : depthI n ≤ 3 := by
  by_cases g : n ≤ 2
  · have := depth_2 h0 g; omega
  · have d0 := (degreeI_bd (n := n) (by omega) (by omega)).1
    have d1 := degree_two (n := n) (by omega) (by omega)
    refine depth_step (p := 4) (by omega) (by omega) ?_ (fun m a b => depth_4 a b)
    by_cases c : degreeI n = 2
    · rw [c] at d1 ⊢; omega
    · omega
theorem depth_132 {n : Int} (h0 : 1 ≤ n) (h1 : n ≤ 132) : depthI n ≤ 4 := by
  by_cases g : n ≤ 2
  · have := depth_2 h0 g; omega
  · obtain ⟨d0, d2, d3⟩ := degreeI_bd (n := n) (by omega) (by omega)
    have d1 := degree_two (n := n) (by omega) (by omega)
    refine depth_step (p := 12) (by omega) (by omega) ?_ (fun m a b => depth_12 a b)
    by_cases c : 11 ≤ degreeI n
    · omega
    · generalize degreeI n = d at *
      have : (d + 1) * (d + 1) = d * d + 2 * d + 1 := by rw [Int.mul_add, Int.add_mul]; omega
      have : d * d ≤ 10 * d := Int.mul_le_mul_of_nonneg_right (by omega) (by omega)
      omega
theorem depth_5 {n : Int} (h0 : 1 ≤ n) (h1 : n ≤ 16384) : depthI n ≤ 5 := by
  by_cases g : n ≤ 2
  · have := depth_2 h0 g; omega
  · obtain ⟨d0, d2, d3⟩ := degreeI_bd (n := n) (by omega) (by omega)
    have d1 := degree_two (n := n) (by omega) (by omega)
    refine depth_step (p := 132) (by omega) (by omega) ?_ (fun m a b => depth_132 a b)
    generalize degreeI n = d at *
    have : (d + 1) * (d + 1) = d * d + 2 * d + 1 := by rw [Int.mul_add, Int.add_mul]; omega
    have : d * d ≤ 128 * d := Int.mul_le_mul_of_nonneg_right (by omega) (by omega)
    omega
theorem depth_shallow {n : Int} (h0 : 2 ≤ n) (h1 : n ≤ 16384) : depthI n ≤ 1 + bitsI (bitsI n) := by
  by_cases g : n ≤ 4
  · have a := depth_4 (n := n) (by omega) g
    have b : bitsI 2 ≤ bitsI n := bitsI_mono h0 (by omega)
    have e : bitsI 2 = 2 := by decide +kernel
    have c := bitsI_mono (m := 2) (n := bitsI n) (by omega) (by have := bitsI_le (n := n) (by omega); omega)
    omega
  · have b8 := bitsI_le (n := n) (by omega)
    by_cases g : n ≤ 12
    · have a := depth_12 (n := n) (by omega) g
      have b : bitsI 4 ≤ bitsI n := bitsI_mono (by omega) (by omega)
      have e : bitsI 4 = 3 := by decide +kernel
      have f : bitsI 3 = 2 := by decide +kernel
      have c := bitsI_mono (m := 3) (n := bitsI n) (by omega) (by omega)
      omega
    · by_cases g : n ≤ 132
      · have a := depth_132 (n := n) (by omega) g
        have b : bitsI 8 ≤ bitsI n := bitsI_mono (by omega) (by omega)
        have e : bitsI 8 = 4 := by decide +kernel
        have f : bitsI 4 = 3 := by decide +kernel
        have c := bitsI_mono (m := 4) (n := bitsI n) (by omega) (by omega)
        omega
      · have a := depth_5 (n := n) (by omega) h1
        have b : bitsI 128 ≤ bitsI n := bitsI_mono (by omega) (by omega)
        have e : bitsI 128 = 8 := by decide +kernel
        have f : bitsI 8 = 4 := by decide +kernel
        have c := bitsI_mono (m := 8) (n := bitsI n) (by omega) (by omega)
        omega
end Go.Proofs.Ytjlhngffkmbdmaa
