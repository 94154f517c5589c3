/- The walk of ordinatehand.Cut. -/
import Derived.Test.YtblajeildolloaaSpan
namespace Go.Proofs.Ytblajeildolloaa
set_option linter.unusedVariables false
set_option linter.unusedSimpArgs false
open Go.RowKit
theorem tmod_emod (n k : Int) (hk : 0 < k) : (if n.tmod k < 0 then n.tmod k + k else n.tmod k) = n % k := by
  have h0 := Int.emod_nonneg n (show k ≠ 0 by omega)
  have h1 := Int.emod_lt_of_pos n hk
  rw [Int.tmod_eq_emod]
  split <;> split <;> omega
theorem tmod_bd (n k : Int) (hk : 0 < k) : -k < n.tmod k ∧ n.tmod k < k := by
  have h0 := Int.emod_nonneg n (show k ≠ 0 by omega)
  have h1 := Int.emod_lt_of_pos n hk
  rw [Int.tmod_eq_emod]
  split <;> omega
set_option maxHeartbeats 400000 in
theorem cut_any (n k : Int) (w : World) (h0 : -9223372036854775808 ≤ n) (h1 : n ≤ 9223372036854775807) (hk : 0 < k) (k1 : k ≤ 9223372036854775807) :
    Calls Try.prog 4 #[.int .i64 n, .int .i64 k] w fun e w' => e = .returned (.int .i64 (n % k)) ∧ w = w' := by
  obtain ⟨b0, b1⟩ := tmod_bd n k hk
  have H := Lib.hid (tmod_emod n k hk)
  by_cases c : n.tmod k < 0
  · rw [if_pos c] at H
    go_enter Try.func4, Try.ntmps4
    go_wp2
    go_ret
    exact ⟨ret_int H.out, rfl⟩
  · rw [if_neg c] at H
    go_enter Try.func4, Try.ntmps4
    go_wp2
    go_ret
    exact ⟨ret_int H.out, rfl⟩
theorem cut_bd (n k : Int) (hk : 0 < k) : 0 ≤ n % k ∧ n % k < k := ⟨Int.emod_nonneg n (by omega), Int.emod_lt_of_pos n hk⟩
end Go.Proofs.Ytblajeildolloaa
