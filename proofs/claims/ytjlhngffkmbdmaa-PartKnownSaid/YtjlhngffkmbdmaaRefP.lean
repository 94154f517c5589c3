/- The walks of the reference's chapter 5. -/
import Derived.Test.YtjlhngffkmbdmaaMathQ
import Derived.Test.YtjlhngffkmbdmaaMinmax
import Derived.Test.YtjlhngffkmbdmaaRefRoot
namespace Go.Proofs.Ytjlhngffkmbdmaa
set_option linter.unusedVariables false
set_option linter.unusedSimpArgs false
open Go.RowKit
attribute [local go_sem] max2_int max_two min2_int min_two

theorem refdegree_any (n : Int) (w : World) (h0 : -9223372036854775808 ≤ n) (h1 : n ≤ 9223372036854775807) : Calls Try.prog 30 #[.int .i64 n] w fun e w' => e = .returned (.int .i64 (degreeI n)) ∧ w = w' := by
  by_cases h : n < 2
  · have H := Lib.hid (degreeI_none (n := n) (by omega))
    go_enter Try.func30, Try.ntmps30
    go_wp2_with (fail)
    go_ret
    exact ⟨ret_int H.out.symm, rfl⟩
  · by_cases g : 16384 < n
    · have H := Lib.hid (degreeI_none (n := n) (by omega))
      go_enter Try.func30, Try.ntmps30
      go_wp2_with (fail)
      go_ret
      exact ⟨ret_int H.out.symm, rfl⟩
    · have H : (if 2 < rootI n then rootI n else 2) = degreeI n := by unfold degreeI; rw [if_neg (show ¬ (n < 2 ∨ 16384 < n) by omega)]
      go_enter Try.func30, Try.ntmps30
      go_wp2_with (go_at_call 42; refine (refroot_any _ _ (by omega)).mono ?_; rintro e w' ⟨rfl, rfl⟩)
      go_ret
      exact ⟨rfl, rfl⟩

theorem reflimit_any (n : Int) (w : World) (h0 : -9223372036854775808 ≤ n) (h1 : n ≤ 9223372036854775807) : Calls Try.prog 31 #[.int .i64 n] w fun e w' => e = .returned (.int .i64 (limitI n)) ∧ w = w' := by
  by_cases h : n < 0
  · have H := Lib.hid (show limitI n = 0 from if_pos (.inl h))
    go_enter Try.func31, Try.ntmps31
    go_wp2_with (fail)
    go_ret
    exact ⟨ret_int H.out.symm, rfl⟩
  · by_cases g : 16384 < n
    · have H := Lib.hid (show limitI n = 0 from if_pos (.inr g))
      go_enter Try.func31, Try.ntmps31
      go_wp2_with (fail)
      go_ret
      exact ⟨ret_int H.out.symm, rfl⟩
    · have H := Lib.hid (show limitI n = n / 4 + 2 from if_neg (by omega))
      go_enter Try.func31, Try.ntmps31
      go_wp2_with (fail)
      go_ret
      exact ⟨ret_int H.out.symm, rfl⟩

theorem refsize_any (n i : Int) (w : World) (h0 : -9223372036854775808 ≤ n) (h1 : n ≤ 9223372036854775807) (i0 : -9223372036854775808 ≤ i) (i1 : i ≤ 9223372036854775807) : Calls Try.prog 32 #[.int .i64 n, .int .i64 i] w fun e w' => e = .returned (.int .i64 (sizeI n i)) ∧ w = w' := by
  by_cases h : i < 0
  · have H := Lib.hid (sizeI_out (n := n) (i := i) (.inl h))
    go_enter Try.func32, Try.ntmps32
    go_wp2_with (go_at_call 30; refine (refdegree_any _ _ (by omega) (by omega)).mono ?_; rintro e w' ⟨rfl, rfl⟩)
    go_ret
    exact ⟨ret_int H.out.symm, rfl⟩
  · by_cases g : degreeI n ≤ i
    · have H := Lib.hid (sizeI_out (n := n) (i := i) (.inr g))
      go_enter Try.func32, Try.ntmps32
      go_wp2_with (go_at_call 30; refine (refdegree_any _ _ (by omega) (by omega)).mono ?_; rintro e w' ⟨rfl, rfl⟩)
      go_ret
      exact ⟨ret_int H.out.symm, rfl⟩
    · have hd : degreeI n ≠ 0 := by omega
      have hn : ¬ (n < 2 ∨ 16384 < n) := fun g => hd (degreeI_none g)
      clear hd
      obtain ⟨s1, s2, s3⟩ := sizeI_in (n := n) (i := i) (by omega) (by omega) (by omega) (by omega)
      obtain ⟨p1, p2, p3, p4, p5, p6⟩ := parts (n := n) (by omega) (by omega)
      obtain ⟨d0, d1, d2⟩ := degreeI_bd (n := n) (by omega) (by omega)
      have n0 : 0 ≤ n := by omega
      clear p1 p6
      by_cases c : i < n % degreeI n
      · rw [if_pos c] at s1
        have H := Lib.hid s1
        clear s1
        go_enter Try.func32, Try.ntmps32
        go_wp2_with (go_at_call 30; refine (refdegree_any _ _ (by omega) (by omega)).mono ?_; rintro e w' ⟨rfl, rfl⟩)
        go_ret
        exact ⟨ret_int H.out.symm, rfl⟩
      · rw [if_neg c] at s1
        have H := Lib.hid s1
        clear s1
        go_enter Try.func32, Try.ntmps32
        go_wp2_with (go_at_call 30; refine (refdegree_any _ _ (by omega) (by omega)).mono ?_; rintro e w' ⟨rfl, rfl⟩)
        go_ret
        exact ⟨ret_int H.out.symm, rfl⟩

set_option maxHeartbeats 1000000 in
theorem reffrom_any (n i : Int) (w : World) (h0 : -9223372036854775808 ≤ n) (h1 : n ≤ 9223372036854775807) : Calls Try.prog 33 #[.int .i64 n, .int .i64 i] w fun e w' => e = .returned (.int .i64 (fromI n i)) ∧ w = w' := by
  by_cases h : i < 0
  · have H := Lib.hid (show fromI n i = 0 from if_pos (.inl h))
    go_enter Try.func33, Try.ntmps33
    go_wp2_with (go_at_call 30; refine (refdegree_any _ _ (by omega) (by omega)).mono ?_; rintro e w' ⟨rfl, rfl⟩)
    go_ret
    exact ⟨ret_int H.out.symm, rfl⟩
  · by_cases g : degreeI n ≤ i
    · have H := Lib.hid (show fromI n i = 0 from if_pos (.inr g))
      go_enter Try.func33, Try.ntmps33
      go_wp2_with (go_at_call 30; refine (refdegree_any _ _ (by omega) (by omega)).mono ?_; rintro e w' ⟨rfl, rfl⟩)
      go_ret
      exact ⟨ret_int H.out.symm, rfl⟩
    · have hd : degreeI n ≠ 0 := by omega
      have hn : ¬ (n < 2 ∨ 16384 < n) := fun g => hd (degreeI_none g)
      clear hd
      have g0 : 2 ≤ n := by omega
      have g1 : n ≤ 16384 := by omega
      have i0 : 0 ≤ i := by omega
      have i1 : i < degreeI n := by omega
      obtain ⟨d0, d1, d2⟩ := degreeI_bd (n := n) (by omega) (by omega)
      have H := Lib.hid (fromI_in i0 i1)
      have Z := Lib.hid (rawI_zero g0 g1)
      go_enter Try.func33, Try.ntmps33
      go_wp2_with (go_at_call 30; refine (refdegree_any _ _ (by omega) (by omega)).mono ?_; rintro e w' ⟨rfl, rfl⟩)
      go_loop [5, 6] (fun s t => ∃ k : Int, 0 ≤ k ∧ k ≤ i ∧ s = .int .i64 (rawI n k) ∧ t = .int .i64 k) (fun _ t => (i - intOf t).toNat)
      case atStart => exact ⟨0, by omega, by omega, by rw [Z.out], rfl⟩
      case round =>
        obtain ⟨k, k0, k1, rfl, rfl⟩ := hrel
        by_cases c : k < i
        · have S := Lib.hid (rawI_step (i := k) g0 g1 (by omega) (by omega))
          have b := rawI_bd (i := k) g0 g1 (by omega) (by omega)
          have sb := sizeI_bd n k
          go_wp2_with (go_at_call 32; refine (refsize_any _ _ _ (by omega) (by omega) (by omega) (by omega)).mono ?_; rintro e w' ⟨rfl, rfl⟩)
          go_round
          case rel => exact ⟨k + 1, by omega, by omega, by rw [S.out], rfl⟩
          case measure => simp [intOf]; omega
        · have : k = i := by omega
          go_wp2_with (fail)
          go_ret
          exact ⟨ret_int H.out.symm, rfl⟩

set_option maxHeartbeats 1000000 in
theorem refdepth_go (k : Nat) : ∀ (n : Int) (w : World), n ≤ k → -9223372036854775808 ≤ n → n ≤ 9223372036854775807 →
    Calls Try.prog 34 #[.int .i64 n] w fun e w' => e = .returned (.int .i64 (depthI n)) ∧ w = w' := by
  induction k with
  | zero =>
    intro n w hk h0 h1
    have H := Lib.hid (depthI_none (n := n) (by omega))
    have D := degreeI_none (n := n) (by omega)
    go_enter Try.func34, Try.ntmps34
    go_wp2_with (fail)
    go_loop [3, 4] (fun s t => s = .int .i64 0 ∧ t = .int .i64 0) (fun _ t => 0)
    case atStart => exact ⟨rfl, rfl⟩
    case round =>
      obtain ⟨rfl, rfl⟩ := hrel
      go_wp2_with (go_at_call 30; refine (refdegree_any _ _ (by omega) (by omega)).mono ?_; rintro e w' ⟨rfl, rfl⟩)
      go_ret
      exact ⟨ret_int H.out.symm, rfl⟩
  | succ k ih =>
    intro n w hk h0 h1
    by_cases g : n < 2 ∨ 16384 < n
    · have H := Lib.hid (depthI_none (n := n) (by omega))
      have D := degreeI_none (n := n) (by omega)
      clear g
      go_enter Try.func34, Try.ntmps34
      go_wp2_with (fail)
      go_loop [3, 4] (fun s t => s = .int .i64 0 ∧ t = .int .i64 0) (fun _ t => 0)
      case atStart => exact ⟨rfl, rfl⟩
      case round =>
        obtain ⟨rfl, rfl⟩ := hrel
        go_wp2_with (go_at_call 30; refine (refdegree_any _ _ (by omega) (by omega)).mono ?_; rintro e w' ⟨rfl, rfl⟩)
        go_ret
        exact ⟨ret_int H.out.symm, rfl⟩
    · have g0 : 2 ≤ n := by omega
      have g1 : n ≤ 16384 := by omega
      clear g
      obtain ⟨d0, d1, d2⟩ := degreeI_bd (n := n) (by omega) (by omega)
      have H := Lib.hid (deepTo_all g0 g1)
      go_enter Try.func34, Try.ntmps34
      go_wp2_with (fail)
      go_loop [3, 4] (fun s t => ∃ k : Nat, (k : Int) ≤ degreeI n ∧ s = .int .i64 (deepTo n k) ∧ t = .int .i64 k) (fun _ t => (degreeI n - intOf t).toNat)
      case atStart => exact ⟨0, by omega, rfl, rfl⟩
      case round =>
        obtain ⟨i, i1, rfl, rfl⟩ := hrel
        by_cases c : (i : Int) < degreeI n
        · obtain ⟨s0, s1⟩ := (sizeI_in (n := n) (i := i) g0 g1 (by omega) (by omega)).2
          have b := deepTo_bd n i
          have a0 := depthI_nonneg (sizeI n i)
          have a1 := depthI_le (sizeI n i)
          have hm : (if deepTo n i < 1 + depthI (sizeI n i) then 1 + depthI (sizeI n i) else deepTo n i) = maxI (deepTo n i) (1 + depthI (sizeI n i)) := rfl
          go_wp2_with (first | (go_at_call 30; refine (refdegree_any _ _ (by omega) (by omega)).mono ?_; rintro e w' ⟨rfl, rfl⟩) | (go_at_call 32; refine (refsize_any _ _ _ (by omega) (by omega) (by omega) (by omega)).mono ?_; rintro e w' ⟨rfl, rfl⟩) | (go_at_call 34; refine (ih _ _ (by omega) (by omega) (by omega)).mono ?_; rintro e w' ⟨rfl, rfl⟩))
          go_round
          case rel => exact ⟨i + 1, by omega, rfl, by go_num⟩
          case measure => simp [intOf]; omega
        · have e : i = (degreeI n).toNat := by omega
          have E := Lib.hid e
          clear e
          go_wp2_with (go_at_call 30; refine (refdegree_any _ _ (by omega) (by omega)).mono ?_; rintro e w' ⟨rfl, rfl⟩)
          go_ret
          exact ⟨ret_int (by rw [E.out, H.out]), rfl⟩
theorem refdepth_any (n : Int) (w : World) (h0 : -9223372036854775808 ≤ n) (h1 : n ≤ 9223372036854775807) :
    Calls Try.prog 34 #[.int .i64 n] w fun e w' => e = .returned (.int .i64 (depthI n)) ∧ w = w' := refdepth_go n.toNat n w (by omega) h0 h1

set_option maxHeartbeats 1000000 in
theorem refcells_go (k : Nat) : ∀ (n : Int) (w : World), n ≤ k → -9223372036854775808 ≤ n → n ≤ 9223372036854775807 →
    Calls Try.prog 35 #[.int .i64 n] w fun e w' => e = .returned (.int .i64 (cellsI n)) ∧ w = w' := by
  induction k with
  | zero =>
    intro n w hk h0 h1
    by_cases g : n < 0
    · have H := Lib.hid (cellsI_none (n := n) (by omega))
      go_enter Try.func35, Try.ntmps35
      go_wp2_with (fail)
      go_ret
      exact ⟨ret_int H.out.symm, rfl⟩
    · obtain rfl : n = 0 := by omega
      go_enter Try.func35, Try.ntmps35
      go_wp2_with (fail)
      go_ret
      exact ⟨ret_int cellsI_zero.symm, rfl⟩
  | succ k ih =>
    intro n w hk h0 h1
    by_cases g : n < 0
    · have H := Lib.hid (cellsI_none (n := n) (by omega))
      go_enter Try.func35, Try.ntmps35
      go_wp2_with (fail)
      go_ret
      exact ⟨ret_int H.out.symm, rfl⟩
    · by_cases g' : 16384 < n
      · have H := Lib.hid (cellsI_none (n := n) (by omega))
        go_enter Try.func35, Try.ntmps35
        go_wp2_with (fail)
        go_ret
        exact ⟨ret_int H.out.symm, rfl⟩
      · by_cases u : n < 2
        · have H : cellsI n = n + 1 := by
            have : n = 0 ∨ n = 1 := by omega
            rcases this with rfl | rfl
            · exact cellsI_zero
            · exact cellsI_one
          replace H := Lib.hid H
          go_enter Try.func35, Try.ntmps35
          go_wp2_with (fail)
          go_ret
          exact ⟨ret_int H.out.symm, rfl⟩
        · have g0 : 2 ≤ n := by omega
          have g1 : n ≤ 16384 := by omega
          clear g
          obtain ⟨d0, d1, d2⟩ := degreeI_bd (n := n) (by omega) (by omega)
          have H := Lib.hid (cellsTo_all g0 g1)
          go_enter Try.func35, Try.ntmps35
          go_wp2_with (go_at_call 30; refine (refdegree_any _ _ (by omega) (by omega)).mono ?_; rintro e w' ⟨rfl, rfl⟩)
          go_loop [3, 4] (fun s t => ∃ k : Nat, (k : Int) ≤ degreeI n ∧ s = .int .i64 (cellsTo n k) ∧ t = .int .i64 k) (fun _ t => (degreeI n - intOf t).toNat)
          case atStart => exact ⟨0, by omega, rfl, rfl⟩
          case round =>
            obtain ⟨i, i1, rfl, rfl⟩ := hrel
            by_cases c : (i : Int) < degreeI n
            · obtain ⟨s0, s1⟩ := (sizeI_in (n := n) (i := i) g0 g1 (by omega) (by omega)).2
              have b := cellsTo_bd n i
              obtain ⟨a0, a1⟩ := cellsI_abs (sizeI n i)
              go_wp2_with (first | (go_at_call 30; refine (refdegree_any _ _ (by omega) (by omega)).mono ?_; rintro e w' ⟨rfl, rfl⟩) | (go_at_call 32; refine (refsize_any _ _ _ (by omega) (by omega) (by omega) (by omega)).mono ?_; rintro e w' ⟨rfl, rfl⟩) | (go_at_call 35; refine (ih _ _ (by omega) (by omega) (by omega)).mono ?_; rintro e w' ⟨rfl, rfl⟩))
              go_round
              case rel => exact ⟨i + 1, by omega, rfl, by go_num⟩
              case measure => simp [intOf]; omega
            · have e : i = (degreeI n).toNat := by omega
              have E := Lib.hid e
              clear e
              go_wp2_with (go_at_call 30; refine (refdegree_any _ _ (by omega) (by omega)).mono ?_; rintro e w' ⟨rfl, rfl⟩)
              go_ret
              exact ⟨ret_int (by rw [E.out, H.out]), rfl⟩
theorem refcells_any (n : Int) (w : World) (h0 : -9223372036854775808 ≤ n) (h1 : n ≤ 9223372036854775807) :
    Calls Try.prog 35 #[.int .i64 n] w fun e w' => e = .returned (.int .i64 (cellsI n)) ∧ w = w' := refcells_go n.toNat n w (by omega) h0 h1
end Go.Proofs.Ytjlhngffkmbdmaa
