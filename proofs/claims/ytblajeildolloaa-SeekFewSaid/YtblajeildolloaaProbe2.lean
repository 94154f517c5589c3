/- The walks of probe.Guess, and of the reference's Guess, Rising, Find, Ints. -/
import Derived.Test.YtblajeildolloaaProbe
namespace Go.Proofs.Ytblajeildolloaa
set_option linter.unusedVariables false
set_option linter.unusedSimpArgs false
open Go.RowKit

set_option maxHeartbeats 1000000 in
theorem guess_any (f l k n : Int) (w : World) (f0 : -9223372036854775808 ≤ f) (f1 : f ≤ 9223372036854775807) (l0 : -9223372036854775808 ≤ l) (l1 : l ≤ 9223372036854775807) (k0 : -9223372036854775808 ≤ k) (k1 : k ≤ 9223372036854775807) (n0 : -9223372036854775808 ≤ n) (n1 : n ≤ 9223372036854775807) :
    Calls Try.prog 65 #[.int .i64 f, .int .i64 l, .int .i64 k, .int .i64 n] w fun e w' => e = .returned (.int .i64 (guessI f l k n)) ∧ Drawn w w' := by
  by_cases h1 : n < 2
  · have H := Lib.hid (guessI_none (f := f) (l := l) (k := k) (n := n) (.inl h1))
    go_enter Try.func65, Try.ntmps65
    go_wp2_with (fail)
    go_ret
    exact ⟨ret_int H.out.symm, Drawn.refl _⟩
  · by_cases h2 : 65536 < n
    · have H := Lib.hid (guessI_none (f := f) (l := l) (k := k) (n := n) (.inr (.inl h2)))
      go_enter Try.func65, Try.ntmps65
      go_wp2_with (fail)
      go_ret
      exact ⟨ret_int H.out.symm, Drawn.refl _⟩
    · by_cases h3 : k < f
      · have H := Lib.hid (guessI_none (f := f) (l := l) (k := k) (n := n) (.inr (.inr (.inl h3))))
        go_enter Try.func65, Try.ntmps65
        go_wp2_with (fail)
        go_ret
        exact ⟨ret_int H.out.symm, Drawn.refl _⟩
      · by_cases h4 : l ≤ k
        · have H := Lib.hid (guessI_none (f := f) (l := l) (k := k) (n := n) (.inr (.inr (.inr h4))))
          go_enter Try.func65, Try.ntmps65
          go_wp2_with (fail)
          go_ret
          exact ⟨ret_int H.out.symm, Drawn.refl _⟩
        · have H := Lib.hid (guessI_in (f := f) (l := l) (k := k) (n := n) (by omega))
          obtain ⟨g0, g1⟩ := gapI_bd (a := f) (b := k) (by omega) (by omega)
          obtain ⟨g2, g3⟩ := gapI_bd (a := f) (b := l) (by omega) (by omega)
          obtain ⟨s0, s1⟩ := share_lt (p := gapI f k) (x := gapI f l) (n := n - 1) (by omega) (by unfold gapI; rw [if_neg (by omega), if_neg (by omega)]; omega) (by omega) (by omega)
          go_enter Try.func65, Try.ntmps65
          go_wp2_with (first | (go_at_call 70; refine (gap_any _ _ _ (by omega) (by omega) (by omega) (by omega)).mono ?_; rintro e w' ⟨rfl, rfl⟩) | (go_at_call 69; refine (share_any _ _ _ _ (by omega) (by omega) (by omega) (by omega) (by omega) (by omega)).mono ?_; rintro e w' ⟨rfl, m, rfl⟩))
          go_ret
          exact ⟨ret_int H.out.symm, Drawn.of _ _⟩

theorem cntTo_step (q : List Int) (k : Int) (i : Nat) : (cntTo q k (i + 1) : Int) = cntTo q k i + if keyAt q i ≤ k then 1 else 0 := by
  rw [cntTo]; split <;> omega

end Go.Proofs.Ytblajeildolloaa
