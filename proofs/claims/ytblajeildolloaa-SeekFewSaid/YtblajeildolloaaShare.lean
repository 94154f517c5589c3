/- The walks of span.Gap, span.Share and the reference's. -/
import Derived.Test.YtblajeildolloaaDiv
import Derived.Test.YtblajeildolloaaMinmax
import Derived.Test.YtblajeildolloaaMathS
namespace Go.Proofs.Ytblajeildolloaa
set_option linter.unusedVariables false
set_option linter.unusedSimpArgs false
open Go.RowKit
attribute [local go_sem] max2_int max_two min2_int min_two

theorem ret_u64 {a b : Int} (h : a = b) : Ending.returned (.int .u64 a) = .returned (.int .u64 b) := by rw [h]
theorem gap_any (a b : Int) (w : World) (a0 : -9223372036854775808 ≤ a) (a1 : a ≤ 9223372036854775807) (b0 : -9223372036854775808 ≤ b) (b1 : b ≤ 9223372036854775807) :
    Calls Try.prog 70 #[.int .i64 a, .int .i64 b] w fun e w' => e = .returned (.int .u64 (gapI a b)) ∧ w = w' := by
  by_cases h : b < a
  · go_enter Try.func70, Try.ntmps70
    go_wp2
    go_ret
    exact ⟨ret_u64 (if_pos h).symm, rfl⟩
  · have E := gap_wrap a0 a1 b0 b1 (show a ≤ b by omega)
    go_enter Try.func70, Try.ntmps70
    go_wp2
    go_ret
    exact ⟨rfl, rfl⟩
theorem div64_any (hi lo y : Int) (w : World) (h0 : 0 ≤ hi) (h1 : hi < y) (y1 : y ≤ 18446744073709551615) (l0 : 0 ≤ lo) (l1 : lo ≤ 18446744073709551615) (hq : hi * 18446744073709551616 + lo < y * 4294967296) :
    Calls Try.prog 72 #[.int .u64 hi, .int .u64 lo, .int .u64 y] w (SomeRem ((hi * 18446744073709551616 + lo) / y) w) := by
  by_cases z : hi = 0
  · subst z
    have := div64_low lo y w h1 y1 l0 l1
    rw [Int.zero_mul, Int.zero_add]
    exact this
  · exact div64_high hi lo y w (by omega) h1 y1 l0 l1 hq

set_option maxHeartbeats 1000000 in
theorem share_any (p x n : Int) (w : World) (p0 : 0 ≤ p) (p1 : p ≤ 18446744073709551615) (x0 : 0 ≤ x) (x1 : x ≤ 18446744073709551615) (n0 : -9223372036854775808 ≤ n) (n1 : n ≤ 9223372036854775807) :
    Calls Try.prog 69 #[.int .u64 p, .int .u64 x, .int .i64 n] w fun e w' => e = .returned (.int .i64 (shareI p x n)) ∧ Drawn w w' := by
  by_cases z : x = 0
  · subst z
    go_enter Try.func69, Try.ntmps69
    go_wp2_with (fail)
    go_ret
    exact ⟨ret_int (shareI_none (.inl rfl)).symm, Drawn.refl _⟩
  · have xz : (x == 0) = false := by simpa using z
    by_cases g : n < 1
    · go_enter Try.func69, Try.ntmps69
      go_wp2_with (fail)
      go_ret
      exact ⟨ret_int (shareI_none (.inr (.inl g))).symm, Drawn.refl _⟩
    · by_cases k : 65536 < n
      · go_enter Try.func69, Try.ntmps69
        go_wp2_with (fail)
        go_ret
        exact ⟨ret_int (shareI_none (.inr (.inr k))).symm, Drawn.refl _⟩
      · have hm : (if x < p then x else p) = lesI p x := rfl
        obtain ⟨m0, m1, m2⟩ := lesI_bd p0 x0
        obtain ⟨d1, d2, d3, d4, d5, d6, d7⟩ := share_split (n := n) m0 m1 (show 0 < x by omega) x1 (by omega) (by omega)
        have H := Lib.hid (show shareI p x n = lesI p x * n / x from if_neg (by omega))
        have HE := Lib.hid d5
        clear d5
        have hG := Drawn.refl w
        go_enter Try.func69, Try.ntmps69
        go_wp2_with (first | (go_at_call 71; refine (mul64_any _ _ (by omega) (by omega) (by omega) (by omega) _).mono ?_; rintro e w' ⟨rfl, rfl⟩) | (go_at_call 72; refine (div64_any _ _ _ _ (by omega) (by omega) (by omega) (by omega) (by omega) (by omega)).mono ?_; rintro e w' ⟨⟨r, rfl⟩, hg⟩; replace hG := hG.trans hg; clear hg; rw [HE.out]))
        go_ret
        exact ⟨ret_int H.out.symm, hG⟩

end Go.Proofs.Ytblajeildolloaa
