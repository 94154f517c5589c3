/- Chapter 5's plain mathematics: the ideal shape. No program. -/
import Derived.Test.YtblajeildolloaaMath
namespace Go.Proofs.Ytblajeildolloaa
set_option linter.unusedVariables false
set_option linter.unusedSimpArgs false

def degreeI (n : Int) : Int := if n < 2 ∨ 16384 < n then 0 else if 2 < rootI n then rootI n else 2
def sizeI (n i : Int) : Int := if i < 0 ∨ degreeI n ≤ i then 0 else if i < n % degreeI n then n / degreeI n + 1 else n / degreeI n
def minI (a b : Int) : Int := if b < a then b else a
def maxI (a b : Int) : Int := if a < b then b else a
def fromI (n i : Int) : Int := if i < 0 ∨ degreeI n ≤ i then 0 else n / degreeI n * i + minI i (n % degreeI n)
def limitI (n : Int) : Int := if n < 0 ∨ 16384 < n then 0 else n / 4 + 2

theorem degreeI_none {n : Int} (h : n < 2 ∨ 16384 < n) : degreeI n = 0 := if_pos h
theorem root_small {n : Int} (h : n ≤ 16384) : rootI n ≤ 128 := by
  have e : rootI 16384 = 128 := rootI_unique (by decide) (by decide) (by decide)
  have := rootI_mono h
  omega
theorem degreeI_bd {n : Int} (h0 : 2 ≤ n) (h1 : n ≤ 16384) : 2 ≤ degreeI n ∧ degreeI n ≤ 128 ∧ degreeI n ≤ n := by
  have r := root_small h1
  have s := (rootI_spec (n := n) (by omega)).1
  unfold degreeI
  rw [if_neg (by omega)]
  split
  · rename_i h
    have : 1 * rootI n ≤ rootI n * rootI n := Int.mul_le_mul_of_nonneg_right (by omega) (by omega)
    omega
  · omega
theorem degreeI_nonneg (n : Int) : 0 ≤ degreeI n := by
  by_cases h : n < 2 ∨ 16384 < n
  · rw [degreeI_none h]; omega
  · have := (degreeI_bd (n := n) (by omega) (by omega)).1; omega
theorem degreeI_le (n : Int) : degreeI n ≤ 128 := by
  by_cases h : n < 2 ∨ 16384 < n
  · rw [degreeI_none h]; omega
  · have := (degreeI_bd (n := n) (by omega) (by omega)).2.1; omega
theorem degreeI_zero {n : Int} (h : degreeI n = 0) : n < 2 ∨ 16384 < n := by
  by_cases g : n < 2 ∨ 16384 < n
  · exact g
  · have := (degreeI_bd (n := n) (by omega) (by omega)).1; omega

/-- What the parts of n keys are: q or q + 1 each, r of these. -/
theorem parts {n : Int} (h0 : 2 ≤ n) (h1 : n ≤ 16384) : n = degreeI n * (n / degreeI n) + n % degreeI n ∧ 0 ≤ n % degreeI n ∧ n % degreeI n < degreeI n ∧ 1 ≤ n / degreeI n ∧ n / degreeI n < n ∧ (0 < n % degreeI n → n / degreeI n + 1 < n) := by
  obtain ⟨d0, d1, d2⟩ := degreeI_bd h0 h1
  generalize degreeI n = d at *
  have e := Int.mul_ediv_add_emod n d
  have a := Int.emod_nonneg n (show d ≠ 0 by omega)
  have b := Int.emod_lt_of_pos n (show 0 < d by omega)
  have c : 1 ≤ n / d := (Int.le_ediv_iff_mul_le (by omega)).2 (by omega)
  have f : 2 * (n / d) ≤ d * (n / d) := Int.mul_le_mul_of_nonneg_right d0 (by omega)
  exact ⟨by omega, a, b, c, by omega, by omega⟩

theorem sizeI_in {n i : Int} (h0 : 2 ≤ n) (h1 : n ≤ 16384) (i0 : 0 ≤ i) (i1 : i < degreeI n) : sizeI n i = (if i < n % degreeI n then n / degreeI n + 1 else n / degreeI n) ∧ 1 ≤ sizeI n i ∧ sizeI n i < n := by
  obtain ⟨p1, p2, p3, p4, p5, p6⟩ := parts h0 h1
  have e : sizeI n i = (if i < n % degreeI n then n / degreeI n + 1 else n / degreeI n) := by
    unfold sizeI; rw [if_neg (by omega)]
  rw [e]
  refine ⟨rfl, ?_⟩
  split <;> omega
theorem sizeI_out {n i : Int} (h : i < 0 ∨ degreeI n ≤ i) : sizeI n i = 0 := if_pos h
theorem sizeI_bd (n i : Int) : 0 ≤ sizeI n i ∧ sizeI n i ≤ 16384 := by
  by_cases h : i < 0 ∨ degreeI n ≤ i
  · rw [sizeI_out h]; omega
  · have hd : degreeI n ≠ 0 := by omega
    have hn : ¬ (n < 2 ∨ 16384 < n) := fun g => hd (degreeI_none g)
    have := sizeI_in (n := n) (i := i) (by omega) (by omega) (by omega) (by omega)
    omega

/-! ### depth and cells: recursion -/
def depthF : Nat → Int → Int
  | 0, _ => 0
  | k + 1, n => if degreeI n = 0 then 0 else 1 + (if 0 < n % degreeI n then maxI (depthF k (n / degreeI n)) (depthF k (n / degreeI n + 1)) else depthF k (n / degreeI n))
def cellsF : Nat → Int → Int
  | 0, n => if n = 0 then 1 else 0
  | k + 1, n => if n < 0 ∨ 16384 < n then 0 else if n = 0 then 1 else if n = 1 then 2 else
      4 + 2 * degreeI n + (degreeI n - n % degreeI n) * cellsF k (n / degreeI n) + (if 0 < n % degreeI n then n % degreeI n * cellsF k (n / degreeI n + 1) else 0)
def depthI (n : Int) : Int := depthF n.toNat n
def cellsI (n : Int) : Int := cellsF n.toNat n

theorem depthF_fuel : ∀ (k : Nat) (n : Int), n ≤ k → ∀ j : Nat, n ≤ j → depthF j n = depthF k n
  | 0, n, h, j, _ => by
    cases j with
    | zero => rfl
    | succ j => simp only [depthF]; rw [if_pos (degreeI_none (by omega))]
  | k + 1, n, h, j, hj => by
    by_cases g : n < 2 ∨ 16384 < n
    · have e := degreeI_none g
      cases j with
      | zero => simp only [depthF]; rw [if_pos e]
      | succ j => simp only [depthF]; rw [if_pos e, if_pos e]
    · obtain ⟨i, rfl⟩ : ∃ i, j = i + 1 := ⟨j - 1, by omega⟩
      obtain ⟨p1, p2, p3, p4, p5, p6⟩ := parts (n := n) (by omega) (by omega)
      simp only [depthF]
      rw [depthF_fuel k (n / degreeI n) (by omega) i (by omega)]
      by_cases c : 0 < n % degreeI n
      · rw [depthF_fuel k (n / degreeI n + 1) (by have := p6 c; omega) i (by have := p6 c; omega)]
      · rw [if_neg c, if_neg c]
theorem depthI_eq {n : Int} (h0 : 2 ≤ n) (h1 : n ≤ 16384) : depthI n = 1 + (if 0 < n % degreeI n then maxI (depthI (n / degreeI n)) (depthI (n / degreeI n + 1)) else depthI (n / degreeI n)) := by
  obtain ⟨p1, p2, p3, p4, p5, p6⟩ := parts h0 h1
  have d0 := (degreeI_bd h0 h1).1
  unfold depthI
  obtain ⟨k, hk⟩ : ∃ k, n.toNat = k + 1 := ⟨n.toNat - 1, by omega⟩
  rw [hk, depthF, if_neg (by omega)]
  rw [depthF_fuel (n / degreeI n).toNat (n / degreeI n) (by omega) k (by omega)]
  by_cases c : 0 < n % degreeI n
  · rw [depthF_fuel (n / degreeI n + 1).toNat (n / degreeI n + 1) (by omega) k (by have := p6 c; omega)]
  · rw [if_neg c, if_neg c]
theorem depthI_none {n : Int} (h : n < 2 ∨ 16384 < n) : depthI n = 0 := by
  unfold depthI
  cases n.toNat with
  | zero => rfl
  | succ k => rw [depthF, if_pos (degreeI_none h)]
theorem depthF_bd : ∀ (k : Nat) (n : Int), 0 ≤ depthF k n ∧ depthF k n ≤ k
  | 0, n => by simp [depthF]
  | k + 1, n => by
    have a := depthF_bd k (n / degreeI n)
    have b := depthF_bd k (n / degreeI n + 1)
    simp only [depthF]
    split
    · omega
    · split
      · unfold maxI; split <;> omega
      · omega
theorem depthI_nonneg (n : Int) : 0 ≤ depthI n := (depthF_bd _ _).1
theorem depthI_le (n : Int) : depthI n ≤ 16384 := by
  by_cases h : n < 2 ∨ 16384 < n
  · rw [depthI_none h]; omega
  · have := (depthF_bd n.toNat n).2
    unfold depthI; omega

theorem cellsF_fuel : ∀ (k : Nat) (n : Int), n ≤ k → ∀ j : Nat, n ≤ j → cellsF j n = cellsF k n
  | 0, n, h, j, _ => by
    cases j with
    | zero => rfl
    | succ j =>
      simp only [cellsF]
      by_cases g : n < 0
      · rw [if_pos (Or.inl g), if_neg (by omega)]
      · rw [if_neg (by omega)]
        have : n = 0 := by omega
        rw [if_pos this, if_pos this]
  | k + 1, n, h, j, hj => by
    by_cases g : n < 0 ∨ 16384 < n
    · cases j with
      | zero => simp only [cellsF]; rw [if_pos g, if_neg (by omega)]
      | succ j => simp only [cellsF]; rw [if_pos g, if_pos g]
    · by_cases z : n = 0
      · subst z
        cases j with
        | zero => simp [cellsF]
        | succ j => simp [cellsF]
      · obtain ⟨i, rfl⟩ : ∃ i, j = i + 1 := ⟨j - 1, by omega⟩
        simp only [cellsF]
        rw [if_neg g, if_neg g, if_neg z, if_neg z]
        by_cases u : n = 1
        · rw [if_pos u, if_pos u]
        · rw [if_neg u, if_neg u]
          obtain ⟨p1, p2, p3, p4, p5, p6⟩ := parts (n := n) (by omega) (by omega)
          rw [cellsF_fuel k (n / degreeI n) (by omega) i (by omega)]
          by_cases c : 0 < n % degreeI n
          · rw [cellsF_fuel k (n / degreeI n + 1) (by have := p6 c; omega) i (by have := p6 c; omega)]
          · rw [if_neg c, if_neg c]
theorem cellsI_eq {n : Int} (h0 : 2 ≤ n) (h1 : n ≤ 16384) : cellsI n = 4 + 2 * degreeI n + (degreeI n - n % degreeI n) * cellsI (n / degreeI n) + (if 0 < n % degreeI n then n % degreeI n * cellsI (n / degreeI n + 1) else 0) := by
  obtain ⟨p1, p2, p3, p4, p5, p6⟩ := parts h0 h1
  unfold cellsI
  obtain ⟨k, hk⟩ : ∃ k, n.toNat = k + 1 := ⟨n.toNat - 1, by omega⟩
  rw [hk, cellsF, if_neg (by omega), if_neg (by omega), if_neg (by omega)]
  rw [cellsF_fuel (n / degreeI n).toNat (n / degreeI n) (by omega) k (by omega)]
  by_cases c : 0 < n % degreeI n
  · rw [cellsF_fuel (n / degreeI n + 1).toNat (n / degreeI n + 1) (by omega) k (by have := p6 c; omega)]
  · rw [if_neg c, if_neg c]
theorem cellsI_none {n : Int} (h : n < 0 ∨ 16384 < n) : cellsI n = 0 := by
  unfold cellsI
  cases hn : n.toNat with
  | zero => rw [cellsF, if_neg (by omega)]
  | succ k => rw [cellsF, if_pos h]
theorem cellsI_zero : cellsI 0 = 1 := rfl
theorem cellsI_one : cellsI 1 = 2 := by decide +kernel
theorem cellsI_bd (k : Nat) : ∀ n : Int, 1 ≤ n → n ≤ k → n ≤ 16384 → 2 ≤ cellsI n ∧ cellsI n ≤ 10 * n - 8 := by
  induction k with
  | zero => intro n h g; omega
  | succ k ih =>
    intro n h0 hk h1
    by_cases u : n = 1
    · subst u; rw [cellsI_one]; omega
    · obtain ⟨p1, p2, p3, p4, p5, p6⟩ := parts (n := n) (by omega) h1
      obtain ⟨d0, d1, d2⟩ := degreeI_bd (n := n) (by omega) h1
      have a := ih (n / degreeI n) p4 (by omega) (by omega)
      rw [cellsI_eq (by omega) h1]
      have m0 : (degreeI n - n % degreeI n) * 2 ≤ (degreeI n - n % degreeI n) * cellsI (n / degreeI n) := Int.mul_le_mul_of_nonneg_left a.1 (by omega)
      have m1 : (degreeI n - n % degreeI n) * cellsI (n / degreeI n) ≤ (degreeI n - n % degreeI n) * (10 * (n / degreeI n) - 8) := Int.mul_le_mul_of_nonneg_left a.2 (by omega)
      by_cases c : 0 < n % degreeI n
      · have b := ih (n / degreeI n + 1) (by omega) (by have := p6 c; omega) (by have := p6 c; omega)
        have q0 : (n % degreeI n) * 2 ≤ (n % degreeI n) * cellsI (n / degreeI n + 1) := Int.mul_le_mul_of_nonneg_left b.1 (by omega)
        have q1 : (n % degreeI n) * cellsI (n / degreeI n + 1) ≤ (n % degreeI n) * (10 * (n / degreeI n + 1) - 8) := Int.mul_le_mul_of_nonneg_left b.2 (by omega)
        rw [if_pos c]
        generalize degreeI n = d at *
        generalize n % d = r at *
        generalize n / d = q at *
        generalize cellsI q = cq at *
        generalize cellsI (q + 1) = cr at *
        have e1 : (d - r) * (10 * q - 8) = 10 * (d * q) - 10 * (r * q) - 8 * d + 8 * r := by
          rw [Int.sub_mul, Int.mul_sub, Int.mul_sub, ← Int.mul_assoc, ← Int.mul_assoc, Int.mul_comm d 10, Int.mul_comm r 10, Int.mul_assoc, Int.mul_assoc]; omega
        have e2 : r * (10 * (q + 1) - 8) = 10 * (r * q) + 2 * r := by
          have : 10 * (q + 1) - 8 = 10 * q + 2 := by omega
          rw [this, Int.mul_add, ← Int.mul_assoc, Int.mul_comm r 10, Int.mul_assoc]; omega
        omega
      · rw [if_neg c]
        generalize degreeI n = d at *
        generalize n % d = r at *
        generalize n / d = q at *
        generalize cellsI q = cq at *
        obtain rfl : r = 0 := by omega
        have e1 : (d - 0) * (10 * q - 8) = 10 * (d * q) - 8 * d := by
          rw [Int.sub_zero, Int.mul_sub, ← Int.mul_assoc, Int.mul_comm d 10, Int.mul_assoc]; omega
        omega
theorem cellsI_in {n : Int} (h0 : 1 ≤ n) (h1 : n ≤ 16384) : 2 ≤ cellsI n ∧ cellsI n ≤ 10 * n - 8 := cellsI_bd n.toNat n h0 (by omega) h1
end Go.Proofs.Ytblajeildolloaa
