/- Chapter 6's plain mathematics: rising keys, how many are not above one, guesses, the keys that are looked at. No program. -/
import Derived.Test.YtblajeildolloaaMathS
namespace Go.Proofs.Ytblajeildolloaa
set_option linter.unusedVariables false
set_option linter.unusedSimpArgs false

/-- The key at a place. -/
def keyAt (q : List Int) (i : Nat) : Int := q.getD i 0
def ascTo (q : List Int) : Nat → Bool
  | 0 => true
  | k + 1 => ascTo q k && (k == 0 || decide (keyAt q (k - 1) < keyAt q k))
def asc (q : List Int) : Bool := ascTo q q.length
def rightB (q : List Int) : Bool := asc q && decide (q.length ≤ 65536)
theorem ascTo_one (q : List Int) : ascTo q 1 = true := rfl
theorem ascTo_step {q : List Int} {k : Nat} (h : ascTo q k = true) (hk : 1 ≤ k) (h' : keyAt q (k - 1) < keyAt q k) : ascTo q (k + 1) = true := by
  simp [ascTo, h, h']
theorem ascTo_down {q : List Int} : ∀ {m k : Nat}, k ≤ m → ascTo q m = true → ascTo q k = true
  | 0, k, h, _ => by
    have : k = 0 := by omega
    subst this; rfl
  | m + 1, k, h, hm => by
    by_cases e : k = m + 1
    · subst e; exact hm
    · simp only [ascTo, Bool.and_eq_true] at hm
      exact ascTo_down (by omega) hm.1
theorem ascTo_no {q : List Int} {k : Nat} (hk : 1 ≤ k) (h' : ¬ keyAt q (k - 1) < keyAt q k) (hl : k < q.length) : asc q = false := by
  cases h : asc q with
  | false => rfl
  | true =>
    have := ascTo_down (show k + 1 ≤ q.length by omega) h
    simp only [ascTo, Bool.and_eq_true, Bool.or_eq_true, beq_iff_eq, decide_eq_true_eq] at this
    omega
theorem asc_next {q : List Int} (h : asc q = true) {k : Nat} (hk : 1 ≤ k) (hl : k < q.length) : keyAt q (k - 1) < keyAt q k := by
  have := ascTo_down (show k + 1 ≤ q.length by omega) h
  simp only [ascTo, Bool.and_eq_true, Bool.or_eq_true, beq_iff_eq, decide_eq_true_eq] at this
  omega
theorem asc_lt {q : List Int} (h : asc q = true) {i : Nat} : ∀ {j : Nat}, i < j → j < q.length → keyAt q i < keyAt q j
  | 0, hij, _ => absurd hij (by omega)
  | j + 1, hij, hj => by
    have s := asc_next h (k := j + 1) (by omega) hj
    have e : j + 1 - 1 = j := by omega
    rw [e] at s
    by_cases c : i = j
    · subst c; exact s
    · have := asc_lt h (i := i) (j := j) (by omega) (by omega)
      omega
theorem asc_le {q : List Int} (h : asc q = true) {i j : Nat} (hij : i ≤ j) (hj : j < q.length) : keyAt q i ≤ keyAt q j := by
  by_cases c : i = j
  · subst c; omega
  · have := asc_lt h (i := i) (j := j) (by omega) hj; omega
theorem rightB_asc {q : List Int} (h : rightB q = true) : asc q = true := by
  simp only [rightB, Bool.and_eq_true] at h; exact h.1
theorem rightB_len {q : List Int} (h : rightB q = true) : q.length ≤ 65536 := by
  simp only [rightB, Bool.and_eq_true, decide_eq_true_eq] at h; exact h.2

/-- How many of the first i keys are not above k. -/
def cntTo (q : List Int) (k : Int) : Nat → Nat
  | 0 => 0
  | i + 1 => cntTo q k i + if keyAt q i ≤ k then 1 else 0
def findI (q : List Int) (k : Int) : Int := if rightB q = true then (cntTo q k q.length : Int) else 0
theorem cntTo_le (q : List Int) (k : Int) : ∀ i, cntTo q k i ≤ i
  | 0 => Nat.le_refl _
  | i + 1 => by have := cntTo_le q k i; simp only [cntTo]; split <;> omega
theorem cntTo_all {q : List Int} {k : Int} : ∀ {i : Nat}, (∀ j, j < i → keyAt q j ≤ k) → cntTo q k i = i
  | 0, _ => rfl
  | i + 1, h => by rw [cntTo, cntTo_all (fun j hj => h j (by omega)), if_pos (h i (by omega))]
theorem cntTo_rest {q : List Int} {k : Int} {i : Nat} : ∀ {m : Nat}, (∀ j, i ≤ j → j < i + m → k < keyAt q j) → cntTo q k (i + m) = cntTo q k i
  | 0, _ => rfl
  | m + 1, h => by
    rw [← Nat.add_assoc, cntTo, cntTo_rest (fun j h1 h2 => h j h1 (by omega)), if_neg (by have := h (i + m) (by omega) (by omega); omega)]; omega
/-- A place before which all keys are not above k, and from which on all are. -/
theorem findI_at {q : List Int} {k : Int} (h : rightB q = true) {i : Nat} (hi : i ≤ q.length) (h1 : ∀ j, j < i → keyAt q j ≤ k) (h2 : ∀ j, i ≤ j → j < q.length → k < keyAt q j) : findI q k = i := by
  unfold findI
  rw [if_pos h]
  obtain ⟨m, hm⟩ : ∃ m, q.length = i + m := ⟨q.length - i, by omega⟩
  rw [hm, cntTo_rest (fun j a b => h2 j a (by omega)), cntTo_all h1]
theorem findI_none {q : List Int} {k : Int} (h : rightB q = false) : findI q k = 0 := by
  unfold findI; rw [if_neg (by rw [h]; simp)]
theorem findI_bd (q : List Int) (k : Int) : 0 ≤ findI q k ∧ findI q k ≤ q.length := by
  have := cntTo_le q k q.length
  unfold findI; split <;> omega

def guessI (f l k n : Int) : Int := if n < 2 ∨ 65536 < n ∨ k < f ∨ l ≤ k then 0 else 1 + shareI (gapI f k) (gapI f l) (n - 1)
theorem guessI_none {f l k n : Int} (h : n < 2 ∨ 65536 < n ∨ k < f ∨ l ≤ k) : guessI f l k n = 0 := if_pos h
theorem guessI_in {f l k n : Int} (h : ¬ (n < 2 ∨ 65536 < n ∨ k < f ∨ l ≤ k)) : guessI f l k n = 1 + shareI (gapI f k) (gapI f l) (n - 1) := if_neg h
theorem share_lt {p x n : Int} (p0 : 0 ≤ p) (px : p < x) (n0 : 1 ≤ n) (n1 : n ≤ 65536) : 0 ≤ shareI p x n ∧ shareI p x n < n := by
  have e : lesI p x = p := by unfold lesI; rw [if_neg (by omega)]
  unfold shareI
  rw [if_neg (by omega), e]
  have a0 : 0 ≤ p * n := Int.mul_nonneg p0 (by omega)
  have a1 : p * n < x * n := Int.mul_lt_mul_of_pos_right px (by omega)
  exact ⟨Int.ediv_nonneg a0 (by omega), Int.ediv_lt_of_lt_mul (by omega) (by rw [Int.mul_comm n x]; exact a1)⟩
theorem guessI_bd {f l k n : Int} (h0 : 2 ≤ n) (h1 : n ≤ 65536) (h2 : f ≤ k) (h3 : k < l) : 1 ≤ guessI f l k n ∧ guessI f l k n ≤ n - 1 := by
  rw [guessI_in (by omega)]
  have := share_lt (p := gapI f k) (x := gapI f l) (n := n - 1) (by unfold gapI; split <;> omega) (by unfold gapI; rw [if_neg (by omega), if_neg (by omega)]; omega) (by omega) (by omega)
  omega

/-- The keys looked at upwards from place i (from 1), d at most. -/
def upP (q : List Int) (k : Int) : Nat → Nat → List Int
  | 0, _ => []
  | d + 1, i => if i < q.length then (i : Int) :: (if k < keyAt q (i - 1) then [] else upP q k d (i + 1)) else []
/-- The keys looked at downwards from place i. -/
def downP (q : List Int) (k : Int) : Nat → List Int
  | 0 => []
  | i + 1 => if 0 < i then ((i + 1 : Nat) : Int) :: (if keyAt q i ≤ k then [] else downP q k i) else []
def jI (q : List Int) (k : Int) : Int := guessI (keyAt q 0) (keyAt q (q.length - 1)) k q.length
def baseP (q : List Int) (k : Int) : List Int := [1, (q.length : Int)] ++ (if 1 < jI q k then [jI q k] else [])
def pathI (q : List Int) (k : Int) : List Int :=
  if q.length = 0 ∨ rightB q = false then []
  else if k < keyAt q 0 ∨ q.length = 1 then [1]
  else if keyAt q (q.length - 1) ≤ k then [1, (q.length : Int)]
  else baseP q k ++ (if keyAt q ((jI q k).toNat - 1) ≤ k then upP q k q.length ((jI q k).toNat + 1) else downP q k ((jI q k).toNat - 1))

theorem upP_len (q : List Int) (k : Int) : ∀ d i, (upP q k d i).length ≤ d
  | 0, _ => Nat.le_refl _
  | d + 1, i => by
    simp only [upP]
    split
    · split
      · simp
      · have := upP_len q k d (i + 1); simp; omega
    · simp
theorem downP_len (q : List Int) (k : Int) : ∀ i, (downP q k i).length ≤ i
  | 0 => Nat.le_refl _
  | i + 1 => by
    simp only [downP]
    split
    · split
      · simp
      · have := downP_len q k i; simp; omega
    · simp
theorem pathI_len (q : List Int) (k : Int) : (pathI q k).length ≤ q.length + 70003 := by
  have a : ((if 1 < jI q k then [jI q k] else []) : List Int).length ≤ 1 := by split <;> simp
  have j : (jI q k).toNat ≤ 65537 := by
    unfold jI guessI
    split
    · omega
    · unfold shareI
      split
      · omega
      · rename_i h g
        obtain ⟨m0, m1, _⟩ := lesI_bd (p := gapI (keyAt q 0) k) (x := gapI (keyAt q 0) (keyAt q (q.length - 1))) (by unfold gapI; split <;> omega) (by unfold gapI; split <;> omega)
        have x0 : 0 ≤ gapI (keyAt q 0) (keyAt q (q.length - 1)) := by unfold gapI; split <;> omega
        generalize gapI (keyAt q 0) (keyAt q (q.length - 1)) = x at *
        generalize lesI (gapI (keyAt q 0) k) x = m at *
        have e : m * ((q.length : Int) - 1) ≤ x * 65536 := Int.mul_le_mul m1 (by omega) (by omega) (by omega)
        have : m * ((q.length : Int) - 1) / x < 65537 := Int.ediv_lt_of_lt_mul (by omega) (by omega)
        omega
  have u := upP_len q k q.length ((jI q k).toNat + 1)
  have d := downP_len q k ((jI q k).toNat - 1)
  have r : (if keyAt q ((jI q k).toNat - 1) ≤ k then upP q k q.length ((jI q k).toNat + 1) else downP q k ((jI q k).toNat - 1)).length ≤ q.length + 65537 := by split <;> omega
  unfold pathI baseP
  split
  · simp
  · split
    · simp
    · split
      · simp
      · rw [List.length_append, List.length_append]
        have : ([1, (q.length : Int)] : List Int).length = 2 := rfl
        omega
theorem ascTo_of {q : List Int} : ∀ {k : Nat}, (∀ i, 1 ≤ i → i < k → keyAt q (i - 1) < keyAt q i) → ascTo q k = true
  | 0, _ => rfl
  | k + 1, h => by
    have := ascTo_of (k := k) (fun i a b => h i a (by omega))
    by_cases e : k = 0
    · subst e; rfl
    · exact ascTo_step this (by omega) (h k (by omega) (by omega))
theorem rightB_of {q : List Int} (hl : q.length ≤ 65536) (h : ∀ i, 1 ≤ i → i < q.length → keyAt q (i - 1) < keyAt q i) : rightB q = true := by
  unfold rightB asc
  rw [ascTo_of h, Bool.true_and]
  exact decide_eq_true hl
end Go.Proofs.Ytblajeildolloaa
