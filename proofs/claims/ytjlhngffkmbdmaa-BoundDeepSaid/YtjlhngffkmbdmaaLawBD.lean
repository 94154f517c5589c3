/- The walk of BoundDeep. -/
import Derived.Test.YtjlhngffkmbdmaaLaws29
import Derived.Test.YtjlhngffkmbdmaaLaw5
import Derived.Test.YtjlhngffkmbdmaaPart
namespace Go.Proofs.Ytjlhngffkmbdmaa
set_option linter.unusedVariables false
set_option linter.unusedSimpArgs false
open Go.RowKit
theorem depth_deep {n : Int} (h0 : 1 ≤ n) (h1 : n ≤ 16384) : depthI n ≤ deepI n := by
  rw [deep_eq (by omega)]
  have b := bitsI_nonneg n
  by_cases g : n < 2
  · rw [depthI_none (.inl g)]; omega
  · have a := depth_shallow (n := n) (by omega) h1
    have c : 0 < bitsI n := by
      have := bitsI_mono (m := 2) (n := n) (by omega) (by omega)
      have e : bitsI 2 = 2 := by decide +kernel
      omega
    have d := bits_lt (n := bitsI n) c (by have := bitsI_le (n := n) (by omega); omega)
    omega
theorem deep_le {n : Int} (h0 : 1 ≤ n) (h1 : n ≤ 16384) : deepI n ≤ 2 * n + 2 := by
  rw [deep_eq (by omega)]
  have := bits_lt (n := n) (by omega) (by omega)
  omega
set_option maxHeartbeats 1000000 in
theorem boundDeep_walk (a0 : Int) (w0 : (Lit.int .i64 a0).wf = true) (w : World) : Calls Try.prog 14 #[.int .i64 a0] w fun e w' => e = .returned (.bool true) ∧ Grown w w' := by
  obtain ⟨l0, u0⟩ := Go.bounds_i64 w0
  obtain ⟨x0, y0⟩ := cut_bd a0 16383 (by omega)
  obtain ⟨m, hm⟩ : ∃ m, a0 % 16383 = m := ⟨_, rfl⟩
  rw [hm] at x0 y0
  have h1 := deep_double (n := 1 + m) (by omega) (by omega)
  have h2 := depth_deep (n := 1 + m) (by omega) (by omega)
  have h3 := deep_le (n := 1 + m) (by omega) (by omega)
  have h4 := depthI_nonneg (1 + m)
  have hG := Grown.refl w
  go_enter Try.func14, Try.ntmps14
  go_wp2_with (first | (go_at_call 15; refine (known29_any _).mono ?_; rintro e w' ⟨rfl, hg⟩; replace hG := grown_trans hG hg; clear hg) | (go_at_call 19; refine (cut_any _ _ _ (by omega) (by omega) (by omega) (by omega)).mono ?_; rintro e w' ⟨rfl, rfl⟩) | (go_at_call 18; refine (deep_any _ _ (by omega)).mono ?_; rintro e w' ⟨rfl, hg⟩; replace hG := grown_trans hG hg; clear hg) | (go_at_call 29; refine (depth_any _ _ (by omega) (by omega)).mono ?_; rintro e w' ⟨rfl, hg⟩; replace hG := grown_trans hG hg; clear hg))
  go_ret
  exact ⟨rfl, hG⟩
end Go.Proofs.Ytjlhngffkmbdmaa
