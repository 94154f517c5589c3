/- Chapter 5: what loops over the parts come to. No program. -/
import Derived.Test.YtblajeildolloaaMathP
namespace Go.Proofs.Ytblajeildolloaa
set_option linter.unusedVariables false
set_option linter.unusedSimpArgs false

/-- The keys ahead of part i, i up to the degree itself. -/
def rawI (n i : Int) : Int := n / degreeI n * i + minI i (n % degreeI n)
theorem rawI_zero {n : Int} (h0 : 2 ≤ n) (h1 : n ≤ 16384) : rawI n 0 = 0 := by
  obtain ⟨p1, p2, p3, p4, p5, p6⟩ := parts h0 h1
  unfold rawI minI; rw [Int.mul_zero]; split <;> omega
theorem rawI_step {n i : Int} (h0 : 2 ≤ n) (h1 : n ≤ 16384) (i0 : 0 ≤ i) (i1 : i < degreeI n) : rawI n (i + 1) = rawI n i + sizeI n i := by
  obtain ⟨p1, p2, p3, p4, p5, p6⟩ := parts h0 h1
  rw [(sizeI_in h0 h1 i0 i1).1]
  unfold rawI minI
  rw [Int.mul_add, Int.mul_one]
  generalize degreeI n = d at *
  generalize n % d = r at *
  generalize n / d = q at *
  split <;> split <;> split <;> omega
theorem rawI_all {n : Int} (h0 : 2 ≤ n) (h1 : n ≤ 16384) : rawI n (degreeI n) = n := by
  obtain ⟨p1, p2, p3, p4, p5, p6⟩ := parts h0 h1
  unfold rawI minI
  rw [if_pos p3, Int.mul_comm]; omega
theorem rawI_bd {n i : Int} (h0 : 2 ≤ n) (h1 : n ≤ 16384) (i0 : 0 ≤ i) (i1 : i ≤ degreeI n) : 0 ≤ rawI n i ∧ rawI n i ≤ n := by
  obtain ⟨p1, p2, p3, p4, p5, p6⟩ := parts h0 h1
  have m0 : 0 ≤ n / degreeI n * i := Int.mul_nonneg (by omega) i0
  have m1 : n / degreeI n * i ≤ n / degreeI n * degreeI n := Int.mul_le_mul_of_nonneg_left (by omega) (by omega)
  rw [Int.mul_comm (n / degreeI n) (degreeI n)] at m1
  unfold rawI minI
  split <;> omega
theorem fromI_in {n i : Int} (i0 : 0 ≤ i) (i1 : i < degreeI n) : fromI n i = rawI n i := if_neg (by omega)

/-- The deepest of the first i parts, and one. -/
def deepTo (n : Int) : Nat → Int
  | 0 => 0
  | i + 1 => maxI (deepTo n i) (1 + depthI (sizeI n i))
theorem deepTo_eq {n : Int} (h0 : 2 ≤ n) (h1 : n ≤ 16384) : ∀ i : Nat, (i : Int) ≤ degreeI n → deepTo n i = if i = 0 then 0 else if (i : Int) ≤ n % degreeI n then 1 + depthI (n / degreeI n + 1) else if 0 < n % degreeI n then 1 + maxI (depthI (n / degreeI n)) (depthI (n / degreeI n + 1)) else 1 + depthI (n / degreeI n)
  | 0, _ => rfl
  | i + 1, hi => by
    have ih := deepTo_eq h0 h1 i (by omega)
    have s := (sizeI_in (n := n) (i := i) h0 h1 (by omega) (by omega)).1
    have a := depthI_nonneg (n / degreeI n)
    have b := depthI_nonneg (n / degreeI n + 1)
    rw [deepTo, ih, s, if_neg (show ¬ i + 1 = 0 by omega)]
    obtain ⟨p1, p2, p3, p4, p5, p6⟩ := parts h0 h1
    generalize n % degreeI n = r at *
    generalize degreeI n = d at *
    generalize n / d = q at *
    by_cases c : (i : Int) < r
    · rw [if_pos c, if_pos (show ((i + 1 : Nat) : Int) ≤ r by omega)]
      by_cases z : i = 0
      · rw [if_pos z]; unfold maxI; split <;> omega
      · rw [if_neg z, if_pos (by omega)]; unfold maxI; split <;> omega
    · rw [if_neg c, if_neg (show ¬ ((i + 1 : Nat) : Int) ≤ r by omega)]
      by_cases z : i = 0
      · have : ¬ 0 < r := by omega
        rw [if_pos z, if_neg this]; unfold maxI; split <;> omega
      · rw [if_neg z]
        by_cases e : (i : Int) ≤ r
        · rw [if_pos e, if_pos (show 0 < r by omega)]; unfold maxI; split <;> split <;> omega
        · rw [if_neg e]
          by_cases f : 0 < r
          · rw [if_pos f]; unfold maxI; split <;> split <;> omega
          · rw [if_neg f]; unfold maxI; split <;> omega
theorem deepTo_all {n : Int} (h0 : 2 ≤ n) (h1 : n ≤ 16384) : deepTo n (degreeI n).toNat = depthI n := by
  obtain ⟨p1, p2, p3, p4, p5, p6⟩ := parts h0 h1
  have d0 := (degreeI_bd h0 h1).1
  rw [deepTo_eq h0 h1 _ (by omega), depthI_eq h0 h1, if_neg (show ¬ (degreeI n).toNat = 0 by omega), if_neg (show ¬ ((degreeI n).toNat : Int) ≤ n % degreeI n by omega)]
  by_cases f : 0 < n % degreeI n
  · rw [if_pos f, if_pos f]
  · rw [if_neg f, if_neg f]
theorem deepTo_bd (n : Int) : ∀ i, 0 ≤ deepTo n i ∧ deepTo n i ≤ 16385
  | 0 => by simp [deepTo]
  | i + 1 => by
    have a := deepTo_bd n i
    have b := depthI_nonneg (sizeI n i)
    have c := depthI_le (sizeI n i)
    rw [deepTo]; unfold maxI; split <;> omega

def cellsTo (n : Int) : Nat → Int
  | 0 => 4 + 2 * degreeI n
  | i + 1 => cellsTo n i + cellsI (sizeI n i)
theorem cellsTo_eq {n : Int} (h0 : 2 ≤ n) (h1 : n ≤ 16384) : ∀ i : Nat, (i : Int) ≤ degreeI n → cellsTo n i = 4 + 2 * degreeI n + (if (i : Int) ≤ n % degreeI n then (i : Int) * cellsI (n / degreeI n + 1) else ((i : Int) - n % degreeI n) * cellsI (n / degreeI n) + n % degreeI n * cellsI (n / degreeI n + 1))
  | 0, _ => by
    obtain ⟨p1, p2, p3, p4, p5, p6⟩ := parts h0 h1
    rw [cellsTo, if_pos (by omega)]; simp
  | i + 1, hi => by
    have ih := cellsTo_eq h0 h1 i (by omega)
    have s := (sizeI_in (n := n) (i := i) h0 h1 (by omega) (by omega)).1
    rw [cellsTo, ih, s]
    obtain ⟨p1, p2, p3, p4, p5, p6⟩ := parts h0 h1
    generalize n % degreeI n = r at *
    generalize degreeI n = d at *
    generalize n / d = q at *
    have e1 : ((i + 1 : Nat) : Int) * cellsI (q + 1) = (i : Int) * cellsI (q + 1) + cellsI (q + 1) := by
      rw [Int.natCast_add, Int.add_mul]; simp
    have e2 : (((i + 1 : Nat) : Int) - r) * cellsI q = ((i : Int) - r) * cellsI q + cellsI q := by
      have : ((i + 1 : Nat) : Int) - r = ((i : Int) - r) + 1 := by omega
      rw [this, Int.add_mul]; simp
    by_cases c : (i : Int) < r
    · rw [if_pos c, if_pos (show ((i + 1 : Nat) : Int) ≤ r by omega), if_pos (show (i : Int) ≤ r by omega), e1]; omega
    · rw [if_neg c, if_neg (show ¬ ((i + 1 : Nat) : Int) ≤ r by omega), e2]
      by_cases e : (i : Int) ≤ r
      · have e3 : (i : Int) = r := by omega
        rw [if_pos e, e3, Int.sub_self, Int.zero_mul]; omega
      · rw [if_neg e]; omega
theorem cellsTo_all {n : Int} (h0 : 2 ≤ n) (h1 : n ≤ 16384) : cellsTo n (degreeI n).toNat = cellsI n := by
  obtain ⟨p1, p2, p3, p4, p5, p6⟩ := parts h0 h1
  have d0 := (degreeI_bd h0 h1).1
  rw [cellsTo_eq h0 h1 _ (by omega), cellsI_eq h0 h1, if_neg (show ¬ ((degreeI n).toNat : Int) ≤ n % degreeI n by omega)]
  have : (((degreeI n).toNat : Nat) : Int) = degreeI n := by omega
  rw [this]
  by_cases f : 0 < n % degreeI n
  · rw [if_pos f]; omega
  · have : n % degreeI n = 0 := by omega
    rw [if_neg f, this]; simp
theorem cellsI_abs (n : Int) : 0 ≤ cellsI n ∧ cellsI n ≤ 163840 := by
  by_cases h : n < 0 ∨ 16384 < n
  · rw [cellsI_none h]; omega
  · by_cases z : n = 0
    · subst z; rw [cellsI_zero]; omega
    · have := cellsI_in (n := n) (by omega) (by omega); omega
theorem cellsTo_bd (n : Int) : ∀ i : Nat, 0 ≤ cellsTo n i ∧ cellsTo n i ≤ 260 + 163840 * i
  | 0 => by
    have a := degreeI_nonneg n
    have b := degreeI_le n
    simp only [cellsTo]; omega
  | i + 1 => by
    have a := cellsTo_bd n i
    have b := cellsI_abs (sizeI n i)
    rw [cellsTo]; omega
end Go.Proofs.Ytblajeildolloaa
