/- (The draws kept.) The walks of package part. -/
import Derived.Test.YtblajeildolloaaMathP
import Derived.Test.YtblajeildolloaaRoot
import Derived.Test.YtblajeildolloaaMinmax
import Derived.Deep.QuietTactic
import Derived.BigQuiet
import Derived.RegionTactic
import Derived.ChangeAlike
namespace Go.Proofs.Ytblajeildolloaa
set_option linter.unusedVariables false
set_option linter.unusedSimpArgs false
open Go.RowKit
attribute [local go_sem] max2_int max_two min2_int min_two

theorem may_yes (n : Int) (w : World) (h0 : 0 ≤ n) (h1 : n ≤ 16384) : Calls Try.prog 38 #[.int .i64 n] w fun e w' => e = .returned (.bool true) ∧ w = w' := by
  go_enter Try.func38, Try.ntmps38
  go_wp2
  go_ret
  exact ⟨rfl, rfl⟩
theorem may_no (n : Int) (w : World) (h : n < 0 ∨ 16384 < n) : Calls Try.prog 38 #[.int .i64 n] w fun e w' => e = .returned (.bool false) ∧ w = w' := by
  rcases h with h | h
  · go_enter Try.func38, Try.ntmps38
    go_wp2
    go_ret
    exact ⟨rfl, rfl⟩
  · have h0 : 0 ≤ n := by omega
    have hd : decide (n ≤ 16384) = false := decide_eq_false (by omega)
    go_enter Try.func38, Try.ntmps38
    go_wp2
    go_ret
    exact ⟨rfl, rfl⟩

theorem pDegree_any (n : Int) (w : World) (h0 : -9223372036854775808 ≤ n) (h1 : n ≤ 9223372036854775807) : Calls Try.prog 14 #[.int .i64 n] w fun e w' => e = .returned (.int .i64 (degreeI n)) ∧ w = w' := by
  by_cases h : n < 0 ∨ 16384 < n
  · have H := Lib.hid (degreeI_none (n := n) (by omega))
    go_enter Try.func14, Try.ntmps14
    go_wp2_with (go_at_call 38; refine (may_no _ _ h).mono ?_; rintro e w' ⟨rfl, rfl⟩)
    go_ret
    exact ⟨ret_int H.out.symm, rfl⟩
  · by_cases g : n < 2
    · have H := Lib.hid (degreeI_none (n := n) (by omega))
      go_enter Try.func14, Try.ntmps14
      go_wp2_with (go_at_call 38; refine (may_yes _ _ (by omega) (by omega)).mono ?_; rintro e w' ⟨rfl, rfl⟩)
      go_ret
      exact ⟨ret_int H.out.symm, rfl⟩
    · have H : (if 2 < rootI n then rootI n else 2) = degreeI n := by unfold degreeI; rw [if_neg (show ¬ (n < 2 ∨ 16384 < n) by omega)]
      go_enter Try.func14, Try.ntmps14
      go_wp2_with (first | (go_at_call 38; refine (may_yes _ _ (by omega) (by omega)).mono ?_; rintro e w' ⟨rfl, rfl⟩) | (go_at_call 39; refine (root_any _ _ (by omega)).mono ?_; rintro e w' ⟨rfl, rfl⟩))
      go_ret
      exact ⟨rfl, rfl⟩

theorem pSize_any (n i : Int) (w : World) (h0 : -9223372036854775808 ≤ n) (h1 : n ≤ 9223372036854775807) (i0 : -9223372036854775808 ≤ i) (i1 : i ≤ 9223372036854775807) : Calls Try.prog 45 #[.int .i64 n, .int .i64 i] w fun e w' => e = .returned (.int .i64 (sizeI n i)) ∧ w = w' := by
  by_cases h : i < 0
  · have H := Lib.hid (sizeI_out (n := n) (i := i) (.inl h))
    go_enter Try.func45, Try.ntmps45
    go_wp2_with (go_at_call 14; refine (pDegree_any _ _ (by omega) (by omega)).mono ?_; rintro e w' ⟨rfl, rfl⟩)
    go_ret
    exact ⟨ret_int H.out.symm, rfl⟩
  · by_cases g : degreeI n ≤ i
    · have H := Lib.hid (sizeI_out (n := n) (i := i) (.inr g))
      go_enter Try.func45, Try.ntmps45
      go_wp2_with (go_at_call 14; refine (pDegree_any _ _ (by omega) (by omega)).mono ?_; rintro e w' ⟨rfl, rfl⟩)
      go_ret
      exact ⟨ret_int H.out.symm, rfl⟩
    · have hd : degreeI n ≠ 0 := by omega
      have hn : ¬ (n < 2 ∨ 16384 < n) := fun g => hd (degreeI_none g)
      clear hd
      obtain ⟨s1, s2, s3⟩ := sizeI_in (n := n) (i := i) (by omega) (by omega) (by omega) (by omega)
      obtain ⟨p1, p2, p3, p4, p5, p6⟩ := parts (n := n) (by omega) (by omega)
      obtain ⟨d0, d1, d2⟩ := degreeI_bd (n := n) (by omega) (by omega)
      have n0 : 0 ≤ n := by omega
      clear p1 p6
      by_cases c : i < n % degreeI n
      · rw [if_pos c] at s1
        have H := Lib.hid s1
        clear s1
        go_enter Try.func45, Try.ntmps45
        go_wp2_with (go_at_call 14; refine (pDegree_any _ _ (by omega) (by omega)).mono ?_; rintro e w' ⟨rfl, rfl⟩)
        go_ret
        exact ⟨ret_int H.out.symm, rfl⟩
      · rw [if_neg c] at s1
        have H := Lib.hid s1
        clear s1
        go_enter Try.func45, Try.ntmps45
        go_wp2_with (go_at_call 14; refine (pDegree_any _ _ (by omega) (by omega)).mono ?_; rintro e w' ⟨rfl, rfl⟩)
        go_ret
        exact ⟨ret_int H.out.symm, rfl⟩

set_option maxHeartbeats 400000 in
theorem sizes_any (n : Int) (w : World) (h0 : 2 ≤ n) (h1 : n ≤ 16384) : Calls Try.prog 37 #[.int .i64 n] w fun e w' => e = .returned (.tuple #[.int .i64 (n % degreeI n), .int .i64 (n / degreeI n + 1), .int .i64 (degreeI n - n % degreeI n), .int .i64 (n / degreeI n)]) ∧ Drawn w w' := by
  obtain ⟨p1, p2, p3, p4, p5, p6⟩ := parts (n := n) (by omega) (by omega)
  obtain ⟨d0, d1, d2⟩ := degreeI_bd (n := n) (by omega) (by omega)
  clear p1 p6
  go_enter Try.func37, Try.ntmps37
  go_wp2_with (go_at_call 14; refine (pDegree_any _ _ (by omega) (by omega)).mono ?_; rintro e w' ⟨rfl, rfl⟩)
  go_quiet (fail)
  go_wp2
  exact bodyPost_ret (v := .tuple #[.int .i64 (n % degreeI n), .int .i64 (n / degreeI n + 1), .int .i64 (degreeI n - n % degreeI n), .int .i64 (n / degreeI n)]) (by simp [results, Try.results37, go_sem]) rfl ⟨rfl, Drawn.of _ _⟩

set_option maxHeartbeats 400000 in
theorem from_in (n i : Int) (w : World) (h0 : 2 ≤ n) (h1 : n ≤ 16384) (i0 : 0 ≤ i) (i1 : i < degreeI n) : Calls Try.prog 44 #[.int .i64 n, .int .i64 i] w fun e w' => e = .returned (.int .i64 (fromI n i)) ∧ Drawn w w' := by
  obtain ⟨p1, p2, p3, p4, p5, p6⟩ := parts (n := n) (by omega) (by omega)
  obtain ⟨d0, d1, d2⟩ := degreeI_bd (n := n) (by omega) (by omega)
  have H := Lib.hid (show fromI n i = n / degreeI n * i + minI i (n % degreeI n) from if_neg (by omega))
  have m0 : 0 ≤ n / degreeI n * i := Int.mul_nonneg (by omega) i0
  have m1 : n / degreeI n * i ≤ n / degreeI n * degreeI n := Int.mul_le_mul_of_nonneg_left (by omega) (by omega)
  have m2 : n / degreeI n * i ≤ 16384 := by rw [Int.mul_comm (n / degreeI n) (degreeI n)] at m1; omega
  have hm : (if n % degreeI n < i then n % degreeI n else i) = minI i (n % degreeI n) := rfl
  have hm0 : 0 ≤ minI i (n % degreeI n) := by unfold minI; split <;> omega
  have hm1 : minI i (n % degreeI n) ≤ 128 := by unfold minI; split <;> omega
  clear p1 p6 m1
  go_enter Try.func44, Try.ntmps44
  go_wp2_with (go_at_call 14; refine (pDegree_any _ _ (by omega) (by omega)).mono ?_; rintro e w' ⟨rfl, rfl⟩)
  go_quiet (fail)
  go_wp2
  go_ret
  exact ⟨ret_int H.out.symm, Drawn.of _ _⟩
theorem from_out (n i : Int) (w : World) (h0 : -9223372036854775808 ≤ n) (h1 : n ≤ 9223372036854775807) (h : i < 0 ∨ degreeI n ≤ i) : Calls Try.prog 44 #[.int .i64 n, .int .i64 i] w fun e w' => e = .returned (.int .i64 (fromI n i)) ∧ Drawn w w' := by
  have H := Lib.hid (show fromI n i = 0 from if_pos h)
  by_cases g : i < 0
  · clear h
    go_enter Try.func44, Try.ntmps44
    go_wp2_with (go_at_call 14; refine (pDegree_any _ _ (by omega) (by omega)).mono ?_; rintro e w' ⟨rfl, rfl⟩)
    go_ret
    exact ⟨ret_int H.out.symm, Drawn.refl _⟩
  · have k : degreeI n ≤ i := by omega
    clear h
    go_enter Try.func44, Try.ntmps44
    go_wp2_with (go_at_call 14; refine (pDegree_any _ _ (by omega) (by omega)).mono ?_; rintro e w' ⟨rfl, rfl⟩)
    go_ret
    exact ⟨ret_int H.out.symm, Drawn.refl _⟩
theorem pFrom_any (n i : Int) (w : World) (h0 : -9223372036854775808 ≤ n) (h1 : n ≤ 9223372036854775807) : Calls Try.prog 44 #[.int .i64 n, .int .i64 i] w fun e w' => e = .returned (.int .i64 (fromI n i)) ∧ Drawn w w' := by
  by_cases h : i < 0 ∨ degreeI n ≤ i
  · exact from_out n i w h0 h1 h
  · have hd : degreeI n ≠ 0 := by omega
    have hn : ¬ (n < 2 ∨ 16384 < n) := fun g => hd (degreeI_none g)
    exact from_in n i w (by omega) (by omega) (by omega) (by omega)

set_option maxHeartbeats 1000000 in
theorem depth_go (k : Nat) : ∀ (n : Int) (w : World), n ≤ k → -9223372036854775808 ≤ n → n ≤ 9223372036854775807 →
    Calls Try.prog 13 #[.int .i64 n] w fun e w' => e = .returned (.int .i64 (depthI n)) ∧ Drawn w w' := by
  induction k with
  | zero =>
    intro n w hk h0 h1
    have H := Lib.hid (depthI_none (n := n) (by omega))
    have D := degreeI_none (n := n) (by omega)
    go_enter Try.func13, Try.ntmps13
    go_wp2_with (go_at_call 14; refine (pDegree_any _ _ (by omega) (by omega)).mono ?_; rintro e w' ⟨rfl, rfl⟩)
    go_ret
    exact ⟨ret_int H.out.symm, Drawn.refl _⟩
  | succ k ih =>
    intro n w hk h0 h1
    by_cases g : n < 2 ∨ 16384 < n
    · have H := Lib.hid (depthI_none (n := n) (by omega))
      have D := degreeI_none (n := n) (by omega)
      clear g
      go_enter Try.func13, Try.ntmps13
      go_wp2_with (go_at_call 14; refine (pDegree_any _ _ (by omega) (by omega)).mono ?_; rintro e w' ⟨rfl, rfl⟩)
      go_ret
      exact ⟨ret_int H.out.symm, Drawn.refl _⟩
    · have g0 : 2 ≤ n := by omega
      have g1 : n ≤ 16384 := by omega
      clear g
      obtain ⟨p1, p2, p3, p4, p5, p6⟩ := parts (n := n) (by omega) (by omega)
      obtain ⟨d0, d1, d2⟩ := degreeI_bd (n := n) (by omega) (by omega)
      have E := depthI_eq g0 g1
      have q0 := depthI_nonneg (n / degreeI n)
      have q1 := depthI_le (n / degreeI n)
      have r0 := depthI_nonneg (n / degreeI n + 1)
      have r1 := depthI_le (n / degreeI n + 1)
      have hG := Drawn.refl w
      have d3 : (degreeI n == 0) = false := by simpa using (show degreeI n ≠ 0 by omega)
      by_cases c : 0 < n % degreeI n
      · have c' := p6 c
        rw [if_pos c] at E
        have H := Lib.hid E
        have hm : (if depthI (n / degreeI n) < depthI (n / degreeI n + 1) then depthI (n / degreeI n + 1) else depthI (n / degreeI n)) = maxI (depthI (n / degreeI n)) (depthI (n / degreeI n + 1)) := rfl
        have hm0 : 0 ≤ maxI (depthI (n / degreeI n)) (depthI (n / degreeI n + 1)) := by unfold maxI; split <;> omega
        have hm1 : maxI (depthI (n / degreeI n)) (depthI (n / degreeI n + 1)) ≤ 16384 := by unfold maxI; split <;> omega
        clear E p1 p6
        go_enter Try.func13, Try.ntmps13
        go_wp2_with (first | (go_at_call 14; refine (pDegree_any _ _ (by omega) (by omega)).mono ?_; rintro e w' ⟨rfl, rfl⟩) | (go_at_call 37; refine (sizes_any _ _ g0 g1).mono ?_; rintro e w' ⟨rfl, hg⟩; replace hG := Drawn.trans hG hg; clear hg) | (go_at_call 13; refine (ih _ _ (by omega) (by omega) (by omega)).mono ?_; rintro e w' ⟨rfl, hg⟩; replace hG := Drawn.trans hG hg; clear hg))
        go_ret
        exact ⟨ret_int H.out.symm, hG⟩
      · rw [if_neg c] at E
        have H := Lib.hid E
        clear E p1 p6
        go_enter Try.func13, Try.ntmps13
        go_wp2_with (first | (go_at_call 14; refine (pDegree_any _ _ (by omega) (by omega)).mono ?_; rintro e w' ⟨rfl, rfl⟩) | (go_at_call 37; refine (sizes_any _ _ g0 g1).mono ?_; rintro e w' ⟨rfl, hg⟩; replace hG := Drawn.trans hG hg; clear hg) | (go_at_call 13; refine (ih _ _ (by omega) (by omega) (by omega)).mono ?_; rintro e w' ⟨rfl, hg⟩; replace hG := Drawn.trans hG hg; clear hg))
        go_ret
        exact ⟨ret_int H.out.symm, hG⟩
theorem pDepth_any (n : Int) (w : World) (h0 : -9223372036854775808 ≤ n) (h1 : n ≤ 9223372036854775807) :
    Calls Try.prog 13 #[.int .i64 n] w fun e w' => e = .returned (.int .i64 (depthI n)) ∧ Drawn w w' := depth_go n.toNat n w (by omega) h0 h1

set_option maxHeartbeats 1000000 in
theorem cells_go (k : Nat) : ∀ (n : Int) (w : World), n ≤ k → -9223372036854775808 ≤ n → n ≤ 9223372036854775807 →
    Calls Try.prog 22 #[.int .i64 n] w fun e w' => e = .returned (.int .i64 (cellsI n)) ∧ Drawn w w' := by
  induction k with
  | zero =>
    intro n w hk h0 h1
    by_cases g : n < 0
    · have H := Lib.hid (cellsI_none (n := n) (by omega))
      go_enter Try.func22, Try.ntmps22
      go_wp2_with (go_at_call 38; refine (may_no _ _ (by omega)).mono ?_; rintro e w' ⟨rfl, rfl⟩)
      go_ret
      exact ⟨ret_int H.out.symm, Drawn.refl _⟩
    · obtain rfl : n = 0 := by omega
      go_enter Try.func22, Try.ntmps22
      go_wp2_with (go_at_call 38; refine (may_yes _ _ (by omega) (by omega)).mono ?_; rintro e w' ⟨rfl, rfl⟩)
      go_ret
      exact ⟨ret_int cellsI_zero.symm, Drawn.refl _⟩
  | succ k ih =>
    intro n w hk h0 h1
    by_cases g : n < 0 ∨ 16384 < n
    · have H := Lib.hid (cellsI_none (n := n) (by omega))
      go_enter Try.func22, Try.ntmps22
      go_wp2_with (go_at_call 38; refine (may_no _ _ g).mono ?_; rintro e w' ⟨rfl, rfl⟩)
      go_ret
      exact ⟨ret_int H.out.symm, Drawn.refl _⟩
    · by_cases z : n = 0
      · subst z
        clear g
        go_enter Try.func22, Try.ntmps22
        go_wp2_with (go_at_call 38; refine (may_yes _ _ (by omega) (by omega)).mono ?_; rintro e w' ⟨rfl, rfl⟩)
        go_ret
        exact ⟨ret_int cellsI_zero.symm, Drawn.refl _⟩
      · by_cases u : n = 1
        · subst u
          clear g z
          go_enter Try.func22, Try.ntmps22
          go_wp2_with (go_at_call 38; refine (may_yes _ _ (by omega) (by omega)).mono ?_; rintro e w' ⟨rfl, rfl⟩)
          go_ret
          exact ⟨ret_int cellsI_one.symm, Drawn.refl _⟩
        · have g0 : 2 ≤ n := by omega
          have g1 : n ≤ 16384 := by omega
          have z' : (n == 0) = false := by simpa using z
          have u' : (n == 1) = false := by simpa using u
          clear g z u
          obtain ⟨p1, p2, p3, p4, p5, p6⟩ := parts (n := n) (by omega) (by omega)
          obtain ⟨d0, d1, d2⟩ := degreeI_bd (n := n) (by omega) (by omega)
          have E := cellsI_eq g0 g1
          obtain ⟨q0, q1⟩ := cellsI_in (n := n / degreeI n) (by omega) (by omega)
          have hG := Drawn.refl w
          have m0 : 0 ≤ (degreeI n - n % degreeI n) * cellsI (n / degreeI n) := Int.mul_nonneg (by omega) (by omega)
          have m1 : (degreeI n - n % degreeI n) * cellsI (n / degreeI n) ≤ 128 * 163840 := Int.mul_le_mul (by omega) (by omega) (by omega) (by omega)
          by_cases c : 0 < n % degreeI n
          · have c' := p6 c
            rw [if_pos c] at E
            have H := Lib.hid E
            obtain ⟨r0, r1⟩ := cellsI_in (n := n / degreeI n + 1) (by omega) (by omega)
            have v0 : 0 ≤ n % degreeI n * cellsI (n / degreeI n + 1) := Int.mul_nonneg (by omega) (by omega)
            have v1 : n % degreeI n * cellsI (n / degreeI n + 1) ≤ 128 * 163840 := Int.mul_le_mul (by omega) (by omega) (by omega) (by omega)
            clear E p1 p6
            go_enter Try.func22, Try.ntmps22
            go_wp2_with (first | (go_at_call 38; refine (may_yes _ _ (by omega) (by omega)).mono ?_; rintro e w' ⟨rfl, rfl⟩) | (go_at_call 14; refine (pDegree_any _ _ (by omega) (by omega)).mono ?_; rintro e w' ⟨rfl, rfl⟩) | (go_at_call 37; refine (sizes_any _ _ g0 g1).mono ?_; rintro e w' ⟨rfl, hg⟩; replace hG := Drawn.trans hG hg; clear hg) | (go_at_call 22; refine (ih _ _ (by omega) (by omega) (by omega)).mono ?_; rintro e w' ⟨rfl, hg⟩; replace hG := Drawn.trans hG hg; clear hg))
            go_ret
            exact ⟨ret_int H.out.symm, hG⟩
          · rw [if_neg c, Int.add_zero] at E
            have H := Lib.hid E
            clear E p1 p6
            go_enter Try.func22, Try.ntmps22
            go_wp2_with (first | (go_at_call 38; refine (may_yes _ _ (by omega) (by omega)).mono ?_; rintro e w' ⟨rfl, rfl⟩) | (go_at_call 14; refine (pDegree_any _ _ (by omega) (by omega)).mono ?_; rintro e w' ⟨rfl, rfl⟩) | (go_at_call 37; refine (sizes_any _ _ g0 g1).mono ?_; rintro e w' ⟨rfl, hg⟩; replace hG := Drawn.trans hG hg; clear hg) | (go_at_call 22; refine (ih _ _ (by omega) (by omega) (by omega)).mono ?_; rintro e w' ⟨rfl, hg⟩; replace hG := Drawn.trans hG hg; clear hg))
            go_ret
            exact ⟨ret_int H.out.symm, hG⟩
theorem pCells_any (n : Int) (w : World) (h0 : -9223372036854775808 ≤ n) (h1 : n ≤ 9223372036854775807) :
    Calls Try.prog 22 #[.int .i64 n] w fun e w' => e = .returned (.int .i64 (cellsI n)) ∧ Drawn w w' := cells_go n.toNat n w (by omega) h0 h1
end Go.Proofs.Ytblajeildolloaa
