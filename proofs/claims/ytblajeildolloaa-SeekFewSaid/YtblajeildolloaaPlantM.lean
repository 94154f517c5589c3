/- An ideal tree laid at once, as numbers. No program's text. -/
import Derived.Test.YtblajeildolloaaMathQ
import Derived.Test.YtblajeildolloaaChg
import Derived.Test.YtblajeildolloaaRefW
namespace Go.Proofs.Ytblajeildolloaa
set_option linter.unusedVariables false
set_option linter.unusedSimpArgs false
open Go.RowKit

/-- The parts up to the i-th one, laid one behind the other: the cells, the words. -/
def layTo (lay : List Int → List (Int × Int) → List Int × Int) (C : List Int) (l : List (Int × Int)) : Nat → List Int × List Int
  | 0 => (C, [])
  | i + 1 => ((lay (layTo lay C l i).1 ((l.drop (fromI l.length i).toNat).take (sizeI l.length i).toNat)).1, (layTo lay C l i).2 ++ [(lay (layTo lay C l i).1 ((l.drop (fromI l.length i).toNat).take (sizeI l.length i).toNat)).2])
def keysTo (l : List (Int × Int)) : Nat → List Int
  | 0 => []
  | 1 => []
  | i + 2 => keysTo l (i + 1) ++ [pkey l (fromI l.length ((i + 1 : Nat) : Int)).toNat]
def innerW (n : Int) (q c : List Int) : List Int := [(c.length : Int), n, 0, 0, 0] ++ q ++ c
def layF : Nat → List Int → List (Int × Int) → List Int × Int
  | 0, C, _ => (C, 0)
  | f + 1, C, l =>
    if l.length = 0 then (C ++ [0], wOf 1 ((C.length : Int) + 1))
    else if l.length = 1 then (C ++ [pkey l 0, pval l 0], wOf 2 ((C.length : Int) + 1))
    else ((layTo (layF f) C l (degreeI l.length).toNat).1 ++ innerW l.length (keysTo l (degreeI l.length).toNat) (layTo (layF f) C l (degreeI l.length).toNat).2, wOf 3 (((layTo (layF f) C l (degreeI l.length).toNat).1.length : Int) + 1))
theorem keysTo_len (l : List (Int × Int)) : ∀ i : Nat, (keysTo l (i + 1)).length = i
  | 0 => rfl
  | i + 1 => by
    show (keysTo l (i + 1) ++ [_]).length = i + 1
    rw [List.length_append, keysTo_len l i]; rfl
theorem layTo_words {lay : List Int → List (Int × Int) → List Int × Int} {C : List Int} {l : List (Int × Int)} : ∀ i, (layTo lay C l i).2.length = i
  | 0 => rfl
  | i + 1 => by
    show ((layTo lay C l i).2 ++ [_]).length = i + 1
    rw [List.length_append, layTo_words i]; rfl
theorem part_len {l : List (Int × Int)} (h0 : 2 ≤ l.length) (h1 : l.length ≤ 16384) {i : Nat} (hi : (i : Int) < degreeI l.length) : (((l.drop (fromI l.length i).toNat).take (sizeI l.length i).toNat).length : Int) = sizeI l.length i ∧ 0 ≤ fromI l.length i ∧ 1 ≤ sizeI l.length i ∧ sizeI l.length i < l.length ∧ fromI l.length i + sizeI l.length i ≤ l.length := by
  have e := fromI_in (n := l.length) (i := i) (by omega) hi
  have s := sizeI_in (n := l.length) (i := i) (by omega) (by omega) (by omega) hi
  have r := rawI_step (n := l.length) (i := i) (by omega) (by omega) (by omega) hi
  have b1 := rawI_bd (n := l.length) (i := i) (by omega) (by omega) (by omega) (by omega)
  have b2 := rawI_bd (n := l.length) (i := (i : Int) + 1) (by omega) (by omega) (by omega) (by omega)
  refine ⟨?_, by omega, s.2.1, s.2.2, by omega⟩
  rw [List.length_take, List.length_drop]
  omega
/-- It takes as many cells as chapter 5 says. -/
theorem lay_cells : ∀ (f : Nat) (C : List Int) (l : List (Int × Int)), l.length < f → l.length ≤ 16384 → ((layF f C l).1.length : Int) = C.length + cellsI l.length
  | 0, C, l, h, _ => absurd h (by omega)
  | f + 1, C, l, h, h1 => by
    unfold layF
    by_cases c0 : l.length = 0
    · rw [if_pos c0, c0]; simp [cellsI_zero]
    · rw [if_neg c0]
      by_cases c1 : l.length = 1
      · rw [if_pos c1, c1]; simp [cellsI_one]
      · rw [if_neg c1]
        have hd := degreeI_bd (n := l.length) (by omega) (by omega)
        have key : ∀ i : Nat, (i : Int) ≤ degreeI l.length → ((layTo (layF f) C l i).1.length : Int) + 4 + 2 * degreeI l.length = C.length + cellsTo l.length i := by
          intro i
          induction i with
          | zero => intro _; simp [layTo, cellsTo]; omega
          | succ i ih =>
            intro hi
            have := ih (by omega)
            obtain ⟨p1, p2, p3, p4, p5⟩ := part_len (l := l) (by omega) h1 (i := i) (by omega)
            have hl := lay_cells f (layTo (layF f) C l i).1 ((l.drop (fromI l.length i).toNat).take (sizeI l.length i).toNat) (by omega) (by omega)
            rw [p1] at hl
            simp only [layTo, cellsTo]
            omega
        have h3 := key (degreeI l.length).toNat (by omega)
        have h4 := cellsTo_all (n := l.length) (by omega) (by omega)
        rw [h4] at h3
        obtain ⟨d, hdd⟩ : ∃ d : Nat, (degreeI l.length).toNat = d + 1 := ⟨(degreeI l.length).toNat - 1, by omega⟩
        rw [List.length_append]
        unfold innerW
        rw [List.length_append, List.length_append, layTo_words, hdd, keysTo_len]
        rw [hdd] at h3
        simp
        omega
/-- The parts up to the i-th one and the whole: what chapter 5 reckons. -/
theorem lay_to (C : List Int) (l : List (Int × Int)) (f : Nat) (hf : l.length < f + 1) (h1 : l.length ≤ 16384) (h2 : 2 ≤ l.length) : ∀ i : Nat, (i : Int) ≤ degreeI l.length → ((layTo (layF f) C l i).1.length : Int) + 4 + 2 * degreeI l.length = C.length + cellsTo l.length i ∧ cellsTo l.length i ≤ cellsTo l.length (degreeI l.length).toNat := by
  have hd := degreeI_bd (n := l.length) (by omega) (by omega)
  have mono : ∀ (k i : Nat), cellsTo l.length i ≤ cellsTo l.length (i + k) := by
    intro k
    induction k with
    | zero => intro i; exact Int.le_refl _
    | succ k ih =>
      intro i
      have a := ih i
      have b := (cellsI_abs (sizeI l.length ((i + k : Nat) : Int))).1
      have e : cellsTo l.length (i + (k + 1)) = cellsTo l.length (i + k) + cellsI (sizeI l.length ((i + k : Nat) : Int)) := rfl
      rw [e]
      omega
  intro i
  induction i with
  | zero => intro _; exact ⟨by simp [layTo, cellsTo]; omega, by have := mono (degreeI l.length).toNat 0; simpa using this⟩
  | succ i ih =>
    intro hi
    have := (ih (by omega)).1
    obtain ⟨p1, p2, p3, p4, p5⟩ := part_len (l := l) h2 h1 (i := i) (by omega)
    have hl := lay_cells f (layTo (layF f) C l i).1 ((l.drop (fromI l.length i).toNat).take (sizeI l.length i).toNat) (by omega) (by omega)
    rw [p1] at hl
    refine ⟨by simp only [layTo, cellsTo]; omega, ?_⟩
    have := mono ((degreeI l.length).toNat - (i + 1)) (i + 1)
    rw [show i + 1 + ((degreeI l.length).toNat - (i + 1)) = (degreeI l.length).toNat by omega] at this
    exact this
end Go.Proofs.Ytblajeildolloaa
