/- The walks of the reference's Plus, Times, Root, Bits. -/
import Derived.Test.YtkfgnacbifiadaaRoot
import Derived.Test.YtkfgnacbifiadaaMinmax
namespace Go.Proofs.Ytkfgnacbifiadaa
set_option linter.unusedVariables false
set_option linter.unusedSimpArgs false
open Go.RowKit
attribute [local go_sem] max2_int max_two

theorem refplus_any (a b : Int) (w : World) (a0 : -9223372036854775808 ≤ a) (a1 : a ≤ 9223372036854775807) (b0 : -9223372036854775808 ≤ b) (b1 : b ≤ 9223372036854775807) :
    Calls Try.prog 27 #[.int .i64 a, .int .i64 b] w fun e w' => e = .returned (.int .i64 (plusI a b)) ∧ w = w' := by
  by_cases h : a < 0
  · go_enter Try.func27, Try.ntmps27
    go_wp2
    go_ret
    exact ⟨ret_int (plusI_neg1 _ h).symm, rfl⟩
  · by_cases k : b < 0
    · go_enter Try.func27, Try.ntmps27
      go_wp2
      go_ret
      exact ⟨ret_int (plusI_neg2 _ k).symm, rfl⟩
    · have a2 : 0 ≤ a := by omega
      have b2 : 0 ≤ b := by omega
      by_cases m : 9223372036854775807 - b < a
      · go_enter Try.func27, Try.ntmps27
        go_wp2
        go_ret
        exact ⟨ret_int (plusI_top a2 b2 m).symm, rfl⟩
      · go_enter Try.func27, Try.ntmps27
        go_wp2
        go_ret
        exact ⟨ret_int (plusI_in a2 b2 (by omega)).symm, rfl⟩

theorem reftimes_any (a b : Int) (w : World) (a1 : a ≤ 9223372036854775807) (b1 : b ≤ 9223372036854775807) :
    Calls Try.prog 28 #[.int .i64 a, .int .i64 b] w fun e w' => e = .returned (.int .i64 (timesI a b)) ∧ w = w' := by
  by_cases h : a ≤ 0
  · go_enter Try.func28, Try.ntmps28
    go_wp2
    go_ret
    exact ⟨ret_int (timesI_low1 _ h).symm, rfl⟩
  · by_cases k : b ≤ 0
    · go_enter Try.func28, Try.ntmps28
      go_wp2
      go_ret
      exact ⟨ret_int (timesI_low2 _ k).symm, rfl⟩
    · have a2 : 0 < a := by omega
      have b2 : 0 < b := by omega
      by_cases m : 9223372036854775807 / b < a
      · go_enter Try.func28, Try.ntmps28
        go_wp2
        go_ret
        exact ⟨ret_int (timesI_top a2 b2 m).symm, rfl⟩
      · have f := times_fits a2 b2 (by omega)
        have HF := Lib.hid (timesI_in a2 b2 (by omega))
        go_enter Try.func28, Try.ntmps28
        go_wp2
        go_ret
        exact ⟨ret_int HF.out.symm, rfl⟩

theorem RootAt.start32 {n : Int} (h0 : 0 < n) (h1 : n ≤ 9223372036854775807) : RootAt n 32 0 := by
  refine ⟨⟨0, by simp⟩, by omega, ?_, by decide⟩
  have : ((0 : Int) + 2 ^ 32) * (0 + 2 ^ 32) = 18446744073709551616 := by decide
  omega

set_option maxHeartbeats 1000000 in
theorem refroot_any (n : Int) (w : World) (h1 : n ≤ 9223372036854775807) :
    Calls Try.prog 25 #[.int .i64 n] w fun e w' => e = .returned (.int .i64 (rootI n)) ∧ w = w' := by
  by_cases hn : 0 < n
  · go_enter Try.func25, Try.ntmps25
    go_wp2
    go_loop [3, 4, 5] (fun r t _ => ∃ (b : Nat) (x : Int), b ≤ 32 ∧ r = .int .i64 x ∧ t = .int .i64 ((b : Int) - 1) ∧ RootAt n b x) (fun _ t _ => (intOf t + 1).toNat)
    case atStart => exact ⟨32, 0, by omega, rfl, rfl, RootAt.start32 hn h1⟩
    case round =>
      obtain ⟨b, r, hb, rfl, rfl, H0⟩ := hrel
      rcases b with _ | j
      · have H := Lib.hid H0.end_
        clear H0
        go_wp2
        go_ret
        exact ⟨ret_int H.out.symm, rfl⟩
      · have hj : j < 32 := by omega
        have p0 := pow_pos' j
        have p1 := pow_le' hj
        have r0 := H0.nonneg
        have r1 : r < 4294967296 := H0.2.2.2
        have H := Lib.hid H0
        clear H0
        by_cases c : r + 2 ^ j ≤ n / (r + 2 ^ j)
        · go_wp2
          go_round
          case rel => exact ⟨j, _, by omega, rfl, by go_num, H.out.yes (by omega) h1 c⟩
          case measure => simp [intOf]
        · go_wp2
          go_round
          case rel => exact ⟨j, _, by omega, rfl, by go_num, H.out.no c⟩
          case measure => simp [intOf]
  · have H := Lib.hid (rootI_low (n := n) (by omega))
    go_enter Try.func25, Try.ntmps25
    go_wp2
    go_ret
    exact ⟨ret_int H.out.symm, rfl⟩

set_option maxHeartbeats 1000000 in
theorem refbits_any (n : Int) (w : World) (h0 : -9223372036854775808 ≤ n) (h1 : n ≤ 9223372036854775807) :
    Calls Try.prog 26 #[.int .i64 n] w fun e w' => e = .returned (.int .i64 (bitsI n)) ∧ w = w' := by
  have b1 := bitsI_le h1
  go_enter Try.func26, Try.ntmps26
  go_wp2
  go_loop [0, 3] (fun t c => ∃ (m k : Int), t = .int .i64 m ∧ c = .int .i64 k ∧ m ≤ 9223372036854775807 ∧ 0 ≤ k ∧ bitsI m + k = bitsI n) (fun t _ => (intOf t).toNat)
  case atStart => exact ⟨n, 0, rfl, rfl, h1, by omega, by omega⟩
  case round =>
    obtain ⟨m, k, rfl, rfl, hm, hk, H0⟩ := hrel
    have c0 := bitsI_nonneg m
    have k1 : k ≤ 63 := by omega
    have H := Lib.hid H0
    clear H0
    by_cases hp : 0 < m
    · have HH := Lib.hid (bitsI_half hp hm)
      go_wp2
      go_round
      case rel => exact ⟨m / 2, k + 1, rfl, rfl, by omega, by omega, by have := H.out; have := HH.out; omega⟩
      case measure => simp [intOf]; omega
    · have HH := Lib.hid (bitsI_low (n := m) (by omega))
      go_wp2
      go_ret
      exact ⟨ret_int (by have := H.out; have := HH.out; omega), rfl⟩

end Go.Proofs.Ytkfgnacbifiadaa
