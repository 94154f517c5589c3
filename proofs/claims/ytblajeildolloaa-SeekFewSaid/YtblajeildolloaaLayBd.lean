/- The cells of an ideal tree keep a machine's bounds. No program's text. -/
import Derived.Test.YtblajeildolloaaPlantM
import Derived.Test.YtblajeildolloaaMemW
namespace Go.Proofs.Ytblajeildolloaa
set_option linter.unusedVariables false
set_option linter.unusedSimpArgs false
open Go.RowKit

def bdI (x : Int) : Prop := -9223372036854775808 ≤ x ∧ x ≤ 9223372036854775807
def PB (l : List (Int × Int)) : Prop := ∀ p ∈ l, bdI p.1 ∧ bdI p.2
theorem PB.at_ {l : List (Int × Int)} (h : PB l) (i : Nat) : bdI (l.getD i (0, 0)).1 ∧ bdI (l.getD i (0, 0)).2 := by
  by_cases hi : i < l.length
  · have e : l.getD i (0, 0) = l[i] := by simp [List.getD, hi]
    rw [e]
    exact h _ (List.getElem_mem hi)
  · have e : l.getD i (0, 0) = (0, 0) := by simp [List.getD, List.getElem?_eq_none (by omega : l.length ≤ i)]
    rw [e]
    unfold bdI; decide
theorem PB.key {l : List (Int × Int)} (h : PB l) (i : Nat) : bdI (pkey l i) := (h.at_ i).1
theorem PB.val {l : List (Int × Int)} (h : PB l) (i : Nat) : bdI (pval l i) := (h.at_ i).2
theorem keysTo_bd {l : List (Int × Int)} (h : PB l) : ∀ i, ∀ x ∈ keysTo l i, bdI x
  | 0, x, hx => by cases hx
  | 1, x, hx => by cases hx
  | i + 2, x, hx => by
    unfold keysTo at hx
    rcases List.mem_append.1 hx with hx | hx
    · exact keysTo_bd h (i + 1) x hx
    · rw [List.mem_singleton.1 hx]; exact h.key _
theorem layF_word : ∀ f C l, 0 ≤ (layF f C l).2 ∧ (layF f C l).2 ≤ 524293
  | 0, C, l => by unfold layF; omega
  | f + 1, C, l => by
    unfold layF
    split
    · exact wOf_bd _ _
    · split <;> exact wOf_bd _ _
theorem layF_bd : ∀ (f : Nat) (C : List Int) (l : List (Int × Int)), (∀ x ∈ C, bdI x) → PB l → l.length ≤ 16384 → ∀ x ∈ (layF f C l).1, bdI x
  | 0, C, l, hC, _, _ => hC
  | f + 1, C, l, hC, hl, hn => by
    unfold layF
    split
    · intro x hx
      rcases List.mem_append.1 hx with hx | hx
      · exact hC x hx
      · have : x = 0 := by simpa using hx
        rw [this]; unfold bdI; decide
    · split
      · intro x hx
        rcases List.mem_append.1 hx with hx | hx
        · exact hC x hx
        · rcases List.mem_cons.1 hx with rfl | hx
          · exact hl.key 0
          · have : x = _ := List.mem_singleton.1 hx
            rw [this]; exact hl.val 0
      · rename_i c0 c1
        have hd := degreeI_bd (n := l.length) (by omega) (by omega)
        have key : ∀ i, (∀ x ∈ (layTo (layF f) C l i).1, bdI x) ∧ ∀ x ∈ (layTo (layF f) C l i).2, bdI x := by
          intro i
          induction i with
          | zero => exact ⟨hC, fun x hx => by cases hx⟩
          | succ i ih =>
            refine ⟨layF_bd f _ _ ih.1 (fun p hp => hl p (List.mem_of_mem_drop (List.mem_of_mem_take hp))) (by simp; omega), fun x hx => ?_⟩
            rcases List.mem_append.1 hx with hx | hx
            · exact ih.2 x hx
            · have e : x = _ := List.mem_singleton.1 hx
              have := layF_word f (layTo (layF f) C l i).1 ((l.drop (fromI l.length i).toNat).take (sizeI l.length i).toNat)
              rw [e]; unfold bdI; omega
        intro x hx
        rcases List.mem_append.1 hx with hx | hx
        · exact (key _).1 x hx
        · unfold innerW at hx
          rcases List.mem_append.1 hx with hx | hx
          · rcases List.mem_append.1 hx with hx | hx
            · rw [layTo_words] at hx
              simp only [List.mem_cons, List.not_mem_nil, or_false] at hx
              unfold bdI
              omega
            · exact keysTo_bd hl _ x hx
          · exact (key _).2 x hx
theorem layF_pre : ∀ (f : Nat) (C : List Int) (l : List (Int × Int)), ∃ X, (layF f C l).1 = C ++ X
  | 0, C, l => ⟨[], by simp [layF]⟩
  | f + 1, C, l => by
    unfold layF
    split
    · exact ⟨_, rfl⟩
    · split
      · exact ⟨_, rfl⟩
      · have key : ∀ i, ∃ X, (layTo (layF f) C l i).1 = C ++ X := by
          intro i
          induction i with
          | zero => exact ⟨[], by simp [layTo]⟩
          | succ i ih =>
            obtain ⟨X, hX⟩ := ih
            obtain ⟨Y, hY⟩ := layF_pre f (layTo (layF f) C l i).1 ((l.drop (fromI l.length i).toNat).take (sizeI l.length i).toNat)
            exact ⟨X ++ Y, by unfold layTo; rw [hY, hX, List.append_assoc]⟩
        obtain ⟨X, hX⟩ := key (degreeI l.length).toNat
        exact ⟨X ++ _, by rw [hX, List.append_assoc]⟩
theorem rdC_pre {C X : List Int} {a : Nat} (h1 : 1 ≤ a) (h2 : a ≤ C.length) : rdC (C ++ X) a = rdC C a := by
  rw [rdC_in h1 h2, rdC_in h1 (by simp; omega)]
  unfold keyAt
  simp [List.getD, List.getElem?_append_left (by omega : a - 1 < C.length)]
theorem rdC_wr {C : List Int} {a : Nat} {x : Int} (h1 : 1 ≤ a) (h2 : a ≤ C.length) : rdC (wrC C a x) a = x := by
  rw [rdC_in h1 (by rw [wrC_len]; exact h2)]
  unfold wrC
  rw [if_pos (by omega)]
  unfold keyAt
  rw [Int.toNat_natCast, List.getD, List.getElem?_set_self (by omega)]
  rfl
theorem rdC_wr_ne {C : List Int} {a b : Nat} {x : Int} (ha : 1 ≤ a) (h1 : 1 ≤ b) (h2 : b ≤ C.length) (hne : a ≠ b) : rdC (wrC C a x) b = rdC C b := by
  rw [rdC_in h1 (by rw [wrC_len]; exact h2), rdC_in h1 h2]
  unfold wrC
  split
  · unfold keyAt
    simp [List.getD]
    rw [List.getElem?_set_ne (by omega)]
  · rfl
end Go.Proofs.Ytblajeildolloaa
