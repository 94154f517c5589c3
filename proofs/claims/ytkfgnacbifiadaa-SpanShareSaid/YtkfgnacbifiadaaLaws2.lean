/- The walks of chapter 2's statements. -/
import Derived.Test.YtkfgnacbifiadaaShare
import Derived.Test.YtkfgnacbifiadaaRefRoot
import Derived.Test.YtkfgnacbifiadaaCut
import Derived.Test.YtkfgnacbifiadaaLaw2
import Derived.OpenShut
namespace Go.Proofs.Ytkfgnacbifiadaa
set_option linter.unusedVariables false
set_option linter.unusedSimpArgs false
open Go.RowKit
theorem max_three (ats : Array TypeId) (ty : TypeId) (a b c : Value) : Builtin.max_ ats ty #[a, b, c] = (Builtin.max2 a b >>= fun s => Builtin.max2 s c >>= fun s => pure s) := by simp only [Builtin.max_, List.foldlM_cons, List.foldlM_nil]
theorem min_three (ats : Array TypeId) (ty : TypeId) (a b c : Value) : Builtin.min_ ats ty #[a, b, c] = (Builtin.min2 a b >>= fun s => Builtin.min2 s c >>= fun s => pure s) := by simp only [Builtin.min_, List.foldlM_cons, List.foldlM_nil]
attribute [local go_sem] max2_int max_two min2_int min_two max_three min_three
theorem root_max : rootI 9223372036854775807 = 3037000499 := rootI_unique (by decide) (by decide) (by decide)

set_option maxHeartbeats 2000000 in
set_option maxRecDepth 100000 in
theorem known2_any (w : World) : Calls Try.prog 15 #[] w fun e w' => e = .returned (.bool true) ∧ Grown w w' := by
  have v0 : gapI (-9223372036854775808) 9223372036854775807 = 18446744073709551615 := by decide +kernel
  have v1 : gapI 1 0 = 0 := by decide +kernel
  have v2 : shareI 3 10 7 = 2 := by decide +kernel
  have v3 : shareI 18446744073709551614 18446744073709551615 5 = 4 := by decide +kernel
  have v4 : shareI 9 3 4 = 4 := by decide +kernel
  have v5 : shareI 1 0 1 = 0 := by decide +kernel
  have v6 : rootI 15 = 3 := by decide +kernel
  have v7 : rootI 16 = 4 := by decide +kernel
  have v8 : bitsI 7 = 3 := by decide +kernel
  have v9 : bitsI 8 = 4 := by decide +kernel
  have v10 : timesI 9223372036854775807 2 = 9223372036854775807 := by decide +kernel
  have v11 : plusI (-1) 5 = 0 := by decide +kernel
  have hG := Grown.refl w
  go_enter Try.func15, Try.ntmps15
  go_wp2_with (first | (go_at_call 16; refine (gap_any _ _ _ (by omega) (by omega) (by omega) (by omega)).mono ?_; rintro e w' ⟨rfl, rfl⟩) | (go_at_call 17; refine (share_any _ _ _ _ (by omega) (by omega) (by omega) (by omega) (by omega) (by omega)).mono ?_; rintro e w' ⟨rfl, hg⟩; replace hG := grown_trans hG hg; clear hg) | (go_at_call 18; refine (root_any _ _ (by omega)).mono ?_; rintro e w' ⟨rfl, rfl⟩) | (go_at_call 19; refine (bits_any _ _ (by omega)).mono ?_; rintro e w' ⟨rfl, rfl⟩) | (go_at_call 20; refine (plus_any _ _ _ (by omega) (by omega) (by omega) (by omega)).mono ?_; rintro e w' ⟨rfl, rfl⟩) | (go_at_call 21; refine (times_any _ _ _ (by omega) (by omega)).mono ?_; rintro e w' ⟨rfl, rfl⟩))
  go_ret
  exact ⟨rfl, hG⟩

set_option maxHeartbeats 2000000 in
set_option maxRecDepth 100000 in
theorem spanKnown_walk   (w : World) : Calls Try.prog 3 #[] w fun e w' => e = .returned (.bool true) ∧ Grown w w' := by
  have v0 : gapI 5 5 = 0 := by decide +kernel
  have v1 : shareI 18446744073709551615 18446744073709551615 65536 = 65536 := by decide +kernel
  have v2 : shareI 5 5 65537 = 0 := by decide +kernel
  have v3 : shareI 5 5 0 = 0 := by decide +kernel
  have v4 : rootI 0 = 0 := by decide +kernel
  have v5 : bitsI 9223372036854775807 = 63 := by decide +kernel
  have v6 : bitsI (-1) = 0 := by decide +kernel
  have v7 : plusI 9223372036854775807 1 = 9223372036854775807 := by decide +kernel
  have v8 : timesI 0 9223372036854775807 = 0 := by decide +kernel
  have v9 : timesI (-1) (-1) = 0 := by decide +kernel
  have v10 : timesI 3037000500 3037000500 = 9223372036854775807 := by decide +kernel
  have v11 : plusI 0 0 = 0 := by decide +kernel
  have vr := root_max
  have hG := Grown.refl w
  go_enter Try.func3, Try.ntmps3
  go_wp2_with (first | (go_at_call 15; refine (known2_any _).mono ?_; rintro e w' ⟨rfl, hg⟩; replace hG := grown_trans hG hg; clear hg) | (go_at_call 16; refine (gap_any _ _ _ (by omega) (by omega) (by omega) (by omega)).mono ?_; rintro e w' ⟨rfl, rfl⟩) | (go_at_call 17; refine (share_any _ _ _ _ (by omega) (by omega) (by omega) (by omega) (by omega) (by omega)).mono ?_; rintro e w' ⟨rfl, hg⟩; replace hG := grown_trans hG hg; clear hg) | (go_at_call 18; refine (root_any _ _ (by omega)).mono ?_; rintro e w' ⟨rfl, rfl⟩) | (go_at_call 19; refine (bits_any _ _ (by omega)).mono ?_; rintro e w' ⟨rfl, rfl⟩) | (go_at_call 20; refine (plus_any _ _ _ (by omega) (by omega) (by omega) (by omega)).mono ?_; rintro e w' ⟨rfl, rfl⟩) | (go_at_call 21; refine (times_any _ _ _ (by omega) (by omega)).mono ?_; rintro e w' ⟨rfl, rfl⟩))
  go_ret
  exact ⟨rfl, hG⟩

set_option maxHeartbeats 2000000 in
set_option maxRecDepth 100000 in
theorem spanTells_walk (a0 : Int) (a1 : Int) (a2 : Int) (a3 : Int) (a4 : Int) (a5 : Int) (w0 : (Lit.int .i64 a0).wf = true) (w1 : (Lit.int .i64 a1).wf = true) (w2 : (Lit.int .u64 a2).wf = true) (w3 : (Lit.int .u64 a3).wf = true) (w4 : (Lit.int .i64 a4).wf = true) (w5 : (Lit.int .i64 a5).wf = true) (w : World) : Calls Try.prog 4 #[.int .i64 a0, .int .i64 a1, .int .u64 a2, .int .u64 a3, .int .i64 a4, .int .i64 a5] w fun e w' => e = .returned (.bool true) ∧ Grown w w' := by
  obtain ⟨l0, u0⟩ := Go.bounds_i64 w0
  obtain ⟨l1, u1⟩ := Go.bounds_i64 w1
  obtain ⟨l2, u2⟩ := Go.bounds_u64 w2
  obtain ⟨l3, u3⟩ := Go.bounds_u64 w3
  obtain ⟨l4, u4⟩ := Go.bounds_i64 w4
  obtain ⟨l5, u5⟩ := Go.bounds_i64 w5
  obtain ⟨x0, y0⟩ := cut_bd a4 65536 (by omega)
  obtain ⟨t0, t1⟩ := tmod_bd a4 100000 (by omega)
  have hG := Grown.refl w
  go_enter Try.func4, Try.ntmps4
  go_wp2_with (first | (go_at_call 15; refine (known2_any _).mono ?_; rintro e w' ⟨rfl, hg⟩; replace hG := grown_trans hG hg; clear hg) | (go_at_call 24; refine (cut_any _ _ _ (by omega) (by omega) (by omega) (by omega)).mono ?_; rintro e w' ⟨rfl, rfl⟩) | (go_at_call 16; refine (gap_any _ _ _ (by omega) (by omega) (by omega) (by omega)).mono ?_; rintro e w' ⟨rfl, rfl⟩) | (go_at_call 22; refine (refgap_any _ _ _ (by omega) (by omega) (by omega) (by omega)).mono ?_; rintro e w' ⟨rfl, rfl⟩) | (go_at_call 17; refine (share_any _ _ _ _ (by omega) (by omega) (by omega) (by omega) (by omega) (by omega)).mono ?_; rintro e w' ⟨rfl, hg⟩; replace hG := grown_trans hG hg; clear hg) | (go_at_call 23; refine (refshare_any _ _ _ _ (by omega) (by omega) (by omega) (by omega) (by omega) (by omega)).mono ?_; rintro e w' ⟨rfl, rfl⟩) | (go_at_call 18; refine (root_any _ _ (by omega)).mono ?_; rintro e w' ⟨rfl, rfl⟩) | (go_at_call 25; refine (refroot_any _ _ (by omega)).mono ?_; rintro e w' ⟨rfl, rfl⟩) | (go_at_call 19; refine (bits_any _ _ (by omega)).mono ?_; rintro e w' ⟨rfl, rfl⟩) | (go_at_call 26; refine (refbits_any _ _ (by omega) (by omega)).mono ?_; rintro e w' ⟨rfl, rfl⟩) | (go_at_call 20; refine (plus_any _ _ _ (by omega) (by omega) (by omega) (by omega)).mono ?_; rintro e w' ⟨rfl, rfl⟩) | (go_at_call 27; refine (refplus_any _ _ _ (by omega) (by omega) (by omega) (by omega)).mono ?_; rintro e w' ⟨rfl, rfl⟩) | (go_at_call 21; refine (times_any _ _ _ (by omega) (by omega)).mono ?_; rintro e w' ⟨rfl, rfl⟩) | (go_at_call 28; refine (reftimes_any _ _ _ (by omega) (by omega)).mono ?_; rintro e w' ⟨rfl, rfl⟩))
  go_ret
  exact ⟨rfl, hG⟩

set_option maxHeartbeats 2000000 in
set_option maxRecDepth 100000 in
theorem spanShare_walk (a0 : Int) (a1 : Int) (a2 : Int) (w0 : (Lit.int .u64 a0).wf = true) (w1 : (Lit.int .u64 a1).wf = true) (w2 : (Lit.int .i64 a2).wf = true) (w : World) : Calls Try.prog 5 #[.int .u64 a0, .int .u64 a1, .int .i64 a2] w fun e w' => e = .returned (.bool true) ∧ Grown w w' := by
  obtain ⟨l0, u0⟩ := Go.bounds_u64 w0
  obtain ⟨l1, u1⟩ := Go.bounds_u64 w1
  obtain ⟨l2, u2⟩ := Go.bounds_i64 w2
  obtain ⟨x0, y0⟩ := cut_bd a2 65536 (by omega)
  obtain ⟨n, hn⟩ : ∃ n, a2 % 65536 = n := ⟨_, rfl⟩
  rw [hn] at x0 y0
  have hG := Grown.refl w
  by_cases z : a1 = 0
  · subst z
    have v : shareI a0 0 (1 + n) = 0 := shareI_none (.inl rfl)
    go_enter Try.func5, Try.ntmps5
    go_wp2_with (first | (go_at_call 15; refine (known2_any _).mono ?_; rintro e w' ⟨rfl, hg⟩; replace hG := grown_trans hG hg; clear hg) | (go_at_call 24; refine (cut_any _ _ _ (by omega) (by omega) (by omega) (by omega)).mono ?_; rintro e w' ⟨rfl, rfl⟩) | (go_at_call 17; refine (share_any _ _ _ _ (by omega) (by omega) (by omega) (by omega) (by omega) (by omega)).mono ?_; rintro e w' ⟨rfl, hg⟩; replace hG := grown_trans hG hg; clear hg))
    go_ret
    exact ⟨rfl, hG⟩
  · have z' : (a1 == 0) = false := by simpa using z
    obtain ⟨s1, s2, s3, s4⟩ := share_sides (p := a0) (x := a1) (n := 1 + n) l0 (by omega) u1 (by omega) (by omega)
    have hm : (if a1 < a0 then a1 else a0) = lesI a0 a1 := rfl
    obtain ⟨m0, m1, m2⟩ := lesI_bd l0 l1
    obtain ⟨q, hq⟩ : ∃ q, shareI a0 a1 (1 + n) = q := ⟨_, rfl⟩
    rw [hq] at s1 s2 s3 s4
    obtain ⟨p, hp⟩ : ∃ p, lesI a0 a1 = p := ⟨_, rfl⟩
    rw [hp] at hm m0 m1 m2 s3 s4
    clear hp
    have A := halves_le s3
    have B := halves_lt s4
    clear s3 s4
    rcases A with A | ⟨A, A2⟩
    · rcases B with B | ⟨B, B2⟩
      · go_enter Try.func5, Try.ntmps5
        go_wp2_with (first | (go_at_call 15; refine (known2_any _).mono ?_; rintro e w' ⟨rfl, hg⟩; replace hG := grown_trans hG hg; clear hg) | (go_at_call 24; refine (cut_any _ _ _ (by omega) (by omega) (by omega) (by omega)).mono ?_; rintro e w' ⟨rfl, rfl⟩) | (go_at_call 17; refine (share_any _ _ _ _ (by omega) (by omega) (by omega) (by omega) (by omega) (by omega)).mono ?_; rintro e w' ⟨rfl, hg⟩; replace hG := grown_trans hG hg; clear hg) | (go_at_call 29; refine (mul64_any _ _ (by omega) (by omega) (by omega) (by omega) _).mono ?_; rintro e w' ⟨rfl, rfl⟩))
        go_ret
        exact ⟨rfl, hG⟩
      · have BB : (p * (1 + n) / 18446744073709551616 == a1 * (q + 1) / 18446744073709551616) = true := by simpa using B
        have B3 : ¬ p * (1 + n) / 18446744073709551616 < a1 * (q + 1) / 18446744073709551616 := by omega
        clear B
        go_enter Try.func5, Try.ntmps5
        go_wp2_with (first | (go_at_call 15; refine (known2_any _).mono ?_; rintro e w' ⟨rfl, hg⟩; replace hG := grown_trans hG hg; clear hg) | (go_at_call 24; refine (cut_any _ _ _ (by omega) (by omega) (by omega) (by omega)).mono ?_; rintro e w' ⟨rfl, rfl⟩) | (go_at_call 17; refine (share_any _ _ _ _ (by omega) (by omega) (by omega) (by omega) (by omega) (by omega)).mono ?_; rintro e w' ⟨rfl, hg⟩; replace hG := grown_trans hG hg; clear hg) | (go_at_call 29; refine (mul64_any _ _ (by omega) (by omega) (by omega) (by omega) _).mono ?_; rintro e w' ⟨rfl, rfl⟩))
        go_ret
        exact ⟨rfl, hG⟩
    · have AA : (a1 * q / 18446744073709551616 == p * (1 + n) / 18446744073709551616) = true := by simpa using A
      have A3 : ¬ a1 * q / 18446744073709551616 < p * (1 + n) / 18446744073709551616 := by omega
      clear A
      rcases B with B | ⟨B, B2⟩
      · go_enter Try.func5, Try.ntmps5
        go_wp2_with (first | (go_at_call 15; refine (known2_any _).mono ?_; rintro e w' ⟨rfl, hg⟩; replace hG := grown_trans hG hg; clear hg) | (go_at_call 24; refine (cut_any _ _ _ (by omega) (by omega) (by omega) (by omega)).mono ?_; rintro e w' ⟨rfl, rfl⟩) | (go_at_call 17; refine (share_any _ _ _ _ (by omega) (by omega) (by omega) (by omega) (by omega) (by omega)).mono ?_; rintro e w' ⟨rfl, hg⟩; replace hG := grown_trans hG hg; clear hg) | (go_at_call 29; refine (mul64_any _ _ (by omega) (by omega) (by omega) (by omega) _).mono ?_; rintro e w' ⟨rfl, rfl⟩))
        go_ret
        exact ⟨rfl, hG⟩
      · have BB : (p * (1 + n) / 18446744073709551616 == a1 * (q + 1) / 18446744073709551616) = true := by simpa using B
        have B3 : ¬ p * (1 + n) / 18446744073709551616 < a1 * (q + 1) / 18446744073709551616 := by omega
        clear B
        go_enter Try.func5, Try.ntmps5
        go_wp2_with (first | (go_at_call 15; refine (known2_any _).mono ?_; rintro e w' ⟨rfl, hg⟩; replace hG := grown_trans hG hg; clear hg) | (go_at_call 24; refine (cut_any _ _ _ (by omega) (by omega) (by omega) (by omega)).mono ?_; rintro e w' ⟨rfl, rfl⟩) | (go_at_call 17; refine (share_any _ _ _ _ (by omega) (by omega) (by omega) (by omega) (by omega) (by omega)).mono ?_; rintro e w' ⟨rfl, hg⟩; replace hG := grown_trans hG hg; clear hg) | (go_at_call 29; refine (mul64_any _ _ (by omega) (by omega) (by omega) (by omega) _).mono ?_; rintro e w' ⟨rfl, rfl⟩))
        go_ret
        exact ⟨rfl, hG⟩

theorem uI_facts (a b : Int) : (if b < a then b else a) ≤ (if a < b then b else a) := by split <;> split <;> omega

set_option maxHeartbeats 2000000 in
set_option maxRecDepth 100000 in
theorem spanRises_walk (a0 : Int) (a1 : Int) (a2 : Int) (a3 : Int) (a4 : Int) (w0 : (Lit.int .u64 a0).wf = true) (w1 : (Lit.int .u64 a1).wf = true) (w2 : (Lit.int .u64 a2).wf = true) (w3 : (Lit.int .i64 a3).wf = true) (w4 : (Lit.int .i64 a4).wf = true) (w : World) : Calls Try.prog 6 #[.int .u64 a0, .int .u64 a1, .int .u64 a2, .int .i64 a3, .int .i64 a4] w fun e w' => e = .returned (.bool true) ∧ Grown w w' := by
  obtain ⟨l0, u0⟩ := Go.bounds_u64 w0
  obtain ⟨l1, u1⟩ := Go.bounds_u64 w1
  obtain ⟨l2, u2⟩ := Go.bounds_u64 w2
  obtain ⟨l3, u3⟩ := Go.bounds_i64 w3
  obtain ⟨l4, u4⟩ := Go.bounds_i64 w4
  obtain ⟨x3, y3⟩ := cut_bd a3 65536 (by omega)
  obtain ⟨x4, y4⟩ := cut_bd a4 65536 (by omega)
  obtain ⟨n, hn⟩ : ∃ n, 1 + a3 % 65536 = n := ⟨_, rfl⟩
  obtain ⟨m, hm⟩ : ∃ n, 1 + a4 % 65536 = n := ⟨_, rfl⟩
  have n1 : 1 ≤ n := by omega
  have n2 : n ≤ 65536 := by omega
  have m1 : 1 ≤ m := by omega
  have m2 : m ≤ 65536 := by omega
  have hG := Grown.refl w
  by_cases z : a2 = 0
  · subst z
    go_enter Try.func6, Try.ntmps6
    go_wp2_with (first | (go_at_call 15; refine (known2_any _).mono ?_; rintro e w' ⟨rfl, hg⟩; replace hG := grown_trans hG hg; clear hg) | (go_at_call 24; refine (cut_any _ _ _ (by omega) (by omega) (by omega) (by omega)).mono ?_; rintro e w' ⟨rfl, rfl⟩) | (go_at_call 17; refine (share_any _ _ _ _ (by omega) (by omega) (by omega) (by omega) (by omega) (by omega)).mono ?_; rintro e w' ⟨rfl, hg⟩; replace hG := grown_trans hG hg; clear hg))
    go_ret
    exact ⟨rfl, hG⟩
  · have z' : (a2 == 0) = false := by simpa using z
    obtain ⟨u, hu, v, hv, huv, hub⟩ : ∃ u, (if a1 < a0 then a1 else a0) = u ∧ ∃ v, (if a0 < a1 then a1 else a0) = v ∧ u ≤ v ∧ (0 ≤ u ∧ v ≤ 18446744073709551615) := ⟨_, rfl, _, rfl, uI_facts _ _, by split <;> split <;> omega⟩
    obtain ⟨r, hr, s, hs, hrs, hrb⟩ : ∃ u, (if m < n then m else n) = u ∧ ∃ v, (if n < m then m else n) = v ∧ u ≤ v ∧ (1 ≤ u ∧ v ≤ 65536) := ⟨_, rfl, _, rfl, uI_facts _ _, by split <;> split <;> omega⟩
    obtain ⟨hub0, hub1⟩ := hub
    obtain ⟨hrb0, hrb1⟩ := hrb
    have f1 := share_mono (n := n) hub0 huv (show 0 < a2 by omega) (by omega) (Int.le_refl _) (by omega)
    have f2 := share_mono hub0 (Int.le_refl u) (show 0 < a2 by omega) hrb0 hrs hrb1
    have f3 := share_all (x := a2) (n := n) (by omega) (by omega) (by omega)
    have f4 := share_nil (x := a2) (n := n) (by omega) (by omega) (by omega)
    go_enter Try.func6, Try.ntmps6
    go_wp2_with (first | (go_at_call 15; refine (known2_any _).mono ?_; rintro e w' ⟨rfl, hg⟩; replace hG := grown_trans hG hg; clear hg) | (go_at_call 24; refine (cut_any _ _ _ (by omega) (by omega) (by omega) (by omega)).mono ?_; rintro e w' ⟨rfl, rfl⟩) | (go_at_call 17; refine (share_any _ _ _ _ (by omega) (by omega) (by omega) (by omega) (by omega) (by omega)).mono ?_; rintro e w' ⟨rfl, hg⟩; replace hG := grown_trans hG hg; clear hg))
    go_ret
    exact ⟨rfl, hG⟩

set_option maxHeartbeats 2000000 in
set_option maxRecDepth 100000 in
theorem spanRoot_walk (a0 : Int) (w0 : (Lit.int .i64 a0).wf = true) (w : World) : Calls Try.prog 7 #[.int .i64 a0] w fun e w' => e = .returned (.bool true) ∧ Grown w w' := by
  obtain ⟨l0, u0⟩ := Go.bounds_i64 w0
  have hG := Grown.refl w
  by_cases z : a0 < 1
  · have v1 := rootI_low (n := a0) (by omega)
    have v2 := bitsI_low (n := a0) (by omega)
    go_enter Try.func7, Try.ntmps7
    go_wp2_with (first | (go_at_call 15; refine (known2_any _).mono ?_; rintro e w' ⟨rfl, hg⟩; replace hG := grown_trans hG hg; clear hg) | (go_at_call 18; refine (root_any _ _ (by omega)).mono ?_; rintro e w' ⟨rfl, rfl⟩) | (go_at_call 19; refine (bits_any _ _ (by omega)).mono ?_; rintro e w' ⟨rfl, rfl⟩))
    go_ret
    exact ⟨rfl, hG⟩
  · obtain ⟨r0, r1, r2, r3, r4⟩ := root_facts (n := a0) (by omega) u0
    obtain ⟨k, hk, k1, k2⟩ := bits_facts (n := a0) (by omega) u0
    obtain ⟨r, hr⟩ : ∃ r, rootI a0 = r := ⟨_, rfl⟩
    rw [hr] at r0 r1 r2 r3 r4
    have r5 : 0 ≤ r * r := Int.mul_nonneg (by omega) (by omega)
    obtain ⟨S, hS⟩ : ∃ S, r * r = S := ⟨_, rfl⟩
    obtain ⟨R, hR⟩ : ∃ R, (r + 1) * (r + 1) = R := ⟨_, rfl⟩
    rw [hS] at r2 r5
    rw [hR] at r3 r4
    have r7 : R ≤ 18446744073709551615 := by omega
    clear r4
    have a00 : 0 ≤ a0 := by omega
    go_enter Try.func7, Try.ntmps7
    go_wp2_with (first | (go_at_call 15; refine (known2_any _).mono ?_; rintro e w' ⟨rfl, hg⟩; replace hG := grown_trans hG hg; clear hg) | (go_at_call 18; refine (root_any _ _ (by omega)).mono ?_; rintro e w' ⟨rfl, rfl⟩) | (go_at_call 19; refine (bits_any _ _ (by omega)).mono ?_; rintro e w' ⟨rfl, rfl⟩))
    go_ret
    exact ⟨rfl, hG⟩

def mnI (a b : Int) : Int := if b < a then b else a
def mxI (a b : Int) : Int := if a < b then b else a
theorem three_facts (a b c : Int) : mnI (mnI a b) c ≤ mxI (mnI a b) (mnI (mxI a b) c) ∧ mxI (mnI a b) (mnI (mxI a b) c) ≤ mxI (mxI a b) c ∧ (mnI (mnI a b) c = a ∨ mnI (mnI a b) c = b ∨ mnI (mnI a b) c = c) ∧ (mxI (mxI a b) c = a ∨ mxI (mxI a b) c = b ∨ mxI (mxI a b) c = c) := by
  have f : ∀ x y : Int, mnI x y ≤ x ∧ mnI x y ≤ y ∧ (mnI x y = x ∨ mnI x y = y) := fun x y => by unfold mnI; split <;> omega
  have g : ∀ x y : Int, x ≤ mxI x y ∧ y ≤ mxI x y ∧ (mxI x y = x ∨ mxI x y = y) := fun x y => by unfold mxI; split <;> omega
  have f1 := f a b
  have g1 := g a b
  have f2 := f (mnI a b) c
  have f3 := f (mxI a b) c
  have g2 := g (mnI a b) (mnI (mxI a b) c)
  have g3 := g (mxI a b) c
  omega

set_option maxHeartbeats 2000000 in
set_option maxRecDepth 100000 in
theorem spanGaps_walk (a0 : Int) (a1 : Int) (a2 : Int) (w0 : (Lit.int .i64 a0).wf = true) (w1 : (Lit.int .i64 a1).wf = true) (w2 : (Lit.int .i64 a2).wf = true) (w : World) : Calls Try.prog 8 #[.int .i64 a0, .int .i64 a1, .int .i64 a2] w fun e w' => e = .returned (.bool true) ∧ Grown w w' := by
  obtain ⟨l0, u0⟩ := Go.bounds_i64 w0
  obtain ⟨l1, u1⟩ := Go.bounds_i64 w1
  obtain ⟨l2, u2⟩ := Go.bounds_i64 w2
  have hG := Grown.refl w
  obtain ⟨o2, o3, o1, o4⟩ := three_facts a0 a1 a2
  have p1 : (if a1 < a0 then a1 else a0) = mnI a0 a1 := rfl
  have p2 : (if a0 < a1 then a1 else a0) = mxI a0 a1 := rfl
  have p3 : (if a2 < mnI a0 a1 then a2 else mnI a0 a1) = mnI (mnI a0 a1) a2 := rfl
  have p4 : (if a2 < mxI a0 a1 then a2 else mxI a0 a1) = mnI (mxI a0 a1) a2 := rfl
  have p5 : (if mnI a0 a1 < mnI (mxI a0 a1) a2 then mnI (mxI a0 a1) a2 else mnI a0 a1) = mxI (mnI a0 a1) (mnI (mxI a0 a1) a2) := rfl
  have p6 : (if mxI a0 a1 < a2 then a2 else mxI a0 a1) = mxI (mxI a0 a1) a2 := rfl
  obtain ⟨x, hx⟩ : ∃ x, mnI (mnI a0 a1) a2 = x := ⟨_, rfl⟩
  obtain ⟨y, hy⟩ : ∃ x, mxI (mnI a0 a1) (mnI (mxI a0 a1) a2) = x := ⟨_, rfl⟩
  obtain ⟨z, hz⟩ : ∃ x, mxI (mxI a0 a1) a2 = x := ⟨_, rfl⟩
  rw [hx] at o1 o2 p3
  rw [hy] at o2 o3 p5
  rw [hz] at o3 o4 p6
  have x0 : -9223372036854775808 ≤ x := by omega
  have z0 : z ≤ 9223372036854775807 := by omega
  clear o1 o4
  have g1 := gap_sum o2 o3
  have g2 := gap_le o2 o3
  have g3 := gap_back (show x ≤ z by omega)
  obtain ⟨b0, b1⟩ := gapI_bd (a := x) (b := z) x0 z0
  by_cases e : x = y
  · have v : gapI x y = 0 := gap_back (by omega)
    have v2 : (x == y) = true := by simpa using e
    clear e
    go_enter Try.func8, Try.ntmps8
    go_wp2_with (first | (go_at_call 15; refine (known2_any _).mono ?_; rintro e w' ⟨rfl, hg⟩; replace hG := grown_trans hG hg; clear hg) | (go_at_call 16; refine (gap_any _ _ _ (by omega) (by omega) (by omega) (by omega)).mono ?_; rintro e w' ⟨rfl, rfl⟩))
    go_ret
    exact ⟨rfl, hG⟩
  · have e1 : (x == y) = false := by simpa using e
    have e2 : (gapI x y == 0) = false := by
      have := gap_pos (show x < y by omega)
      simpa using (show gapI x y ≠ 0 by omega)
    clear e
    go_enter Try.func8, Try.ntmps8
    go_wp2_with (first | (go_at_call 15; refine (known2_any _).mono ?_; rintro e w' ⟨rfl, hg⟩; replace hG := grown_trans hG hg; clear hg) | (go_at_call 16; refine (gap_any _ _ _ (by omega) (by omega) (by omega) (by omega)).mono ?_; rintro e w' ⟨rfl, rfl⟩))
    go_ret
    exact ⟨rfl, hG⟩

set_option maxHeartbeats 2000000 in
set_option maxRecDepth 100000 in
theorem spanSums_walk (a0 : Int) (a1 : Int) (a2 : Int) (w0 : (Lit.int .i64 a0).wf = true) (w1 : (Lit.int .i64 a1).wf = true) (w2 : (Lit.int .i64 a2).wf = true) (w : World) : Calls Try.prog 9 #[.int .i64 a0, .int .i64 a1, .int .i64 a2] w fun e w' => e = .returned (.bool true) ∧ Grown w w' := by
  obtain ⟨l0, u0⟩ := Go.bounds_i64 w0
  obtain ⟨l1, u1⟩ := Go.bounds_i64 w1
  obtain ⟨l2, u2⟩ := Go.bounds_i64 w2
  have hG := Grown.refl w
  have e1 := plus_comm a0 a1
  have e2 := times_comm a0 a1
  obtain ⟨P, hP⟩ : ∃ P, plusI a0 a1 = P := ⟨_, rfl⟩
  obtain ⟨T, hT⟩ : ∃ T, timesI a0 a1 = T := ⟨_, rfl⟩
  rw [hP] at e1
  rw [hT] at e2
  by_cases n0 : a0 < 0
  · obtain rfl : P = 0 := by rw [← hP]; exact plusI_neg1 _ n0
    obtain rfl : T = 0 := by rw [← hT]; exact timesI_low1 _ (by omega)
    go_enter Try.func9, Try.ntmps9
    go_wp2_with (first | (go_at_call 15; refine (known2_any _).mono ?_; rintro e w' ⟨rfl, hg⟩; replace hG := grown_trans hG hg; clear hg) | (go_at_call 20; refine (plus_any _ _ _ (by omega) (by omega) (by omega) (by omega)).mono ?_; rintro e w' ⟨rfl, rfl⟩) | (go_at_call 21; refine (times_any _ _ _ (by omega) (by omega)).mono ?_; rintro e w' ⟨rfl, rfl⟩))
    go_ret
    exact ⟨rfl, hG⟩
  · by_cases n1 : a1 < 0
    · obtain rfl : P = 0 := by rw [← hP]; exact plusI_neg2 _ n1
      obtain rfl : T = 0 := by rw [← hT]; exact timesI_low2 _ (by omega)
      go_enter Try.func9, Try.ntmps9
      go_wp2_with (first | (go_at_call 15; refine (known2_any _).mono ?_; rintro e w' ⟨rfl, hg⟩; replace hG := grown_trans hG hg; clear hg) | (go_at_call 20; refine (plus_any _ _ _ (by omega) (by omega) (by omega) (by omega)).mono ?_; rintro e w' ⟨rfl, rfl⟩) | (go_at_call 21; refine (times_any _ _ _ (by omega) (by omega)).mono ?_; rintro e w' ⟨rfl, rfl⟩))
      go_ret
      exact ⟨rfl, hG⟩
    · by_cases n2 : a2 < 0
      · have n0' : 0 ≤ a0 := by omega
        have n1' : 0 ≤ a1 := by omega
        clear n0 n1
        go_enter Try.func9, Try.ntmps9
        go_wp2_with (first | (go_at_call 15; refine (known2_any _).mono ?_; rintro e w' ⟨rfl, hg⟩; replace hG := grown_trans hG hg; clear hg) | (go_at_call 20; refine (plus_any _ _ _ (by omega) (by omega) (by omega) (by omega)).mono ?_; rintro e w' ⟨rfl, rfl⟩) | (go_at_call 21; refine (times_any _ _ _ (by omega) (by omega)).mono ?_; rintro e w' ⟨rfl, rfl⟩))
        go_ret
        exact ⟨rfl, hG⟩
      · have n0' : 0 ≤ a0 := by omega
        have n1' : 0 ≤ a1 := by omega
        have n2' : 0 ≤ a2 := by omega
        clear n0 n1 n2
        have A1 := plus_assoc n0' n1' n2'
        have A2 := times_assoc n0' n1' n2'
        have A3 := times_one n0' u0
        have A4 := plus_zero n0' u0
        obtain ⟨A5, A6⟩ := plus_ge n0' n1' u0 u1
        have Pb := plusI_le a0 a1
        have T0 := timesI_nonneg a0 a1
        have T1 := timesI_le a0 a1
        have A7 : 0 < a1 → a0 ≤ T := fun h => by rw [← hT]; exact times_ge n0' h u0
        have A8 : P = a0 + a1 ∨ (P = 9223372036854775807 ∧ 9223372036854775807 < a0 + a1) := by
          rw [← hP]; unfold plusI; rw [if_neg (show ¬ (a0 < 0 ∨ a1 < 0) by omega)]; split <;> omega
        rw [hP] at A1 A5 A6 Pb
        rw [hT] at A2 T0 T1
        obtain ⟨Q, hQ⟩ : ∃ Q, plusI a1 a2 = Q := ⟨_, rfl⟩
        obtain ⟨U, hU⟩ : ∃ U, timesI a1 a2 = U := ⟨_, rfl⟩
        have Qb := plusI_le a1 a2
        have Q0 := plusI_nonneg a1 a2
        have Ub := timesI_le a1 a2
        rw [hQ] at A1 Qb Q0
        rw [hU] at A2 Ub
        have M : (if a0 < a1 then a1 else a0) ≤ P := by split <;> omega
        obtain ⟨m, hm⟩ : ∃ m, (if a0 < a1 then a1 else a0) = m := ⟨_, rfl⟩
        rw [hm] at M
        by_cases z : 0 < a1
        · have A9 := A7 z
          clear A7
          rcases A8 with rfl | ⟨rfl, h8⟩
          · go_enter Try.func9, Try.ntmps9
            go_wp2_with (first | (go_at_call 15; refine (known2_any _).mono ?_; rintro e w' ⟨rfl, hg⟩; replace hG := grown_trans hG hg; clear hg) | (go_at_call 20; refine (plus_any _ _ _ (by omega) (by omega) (by omega) (by omega)).mono ?_; rintro e w' ⟨rfl, rfl⟩) | (go_at_call 21; refine (times_any _ _ _ (by omega) (by omega)).mono ?_; rintro e w' ⟨rfl, rfl⟩))
            all_goals (go_ret; exact ⟨rfl, hG⟩)
          · have h9 : wrap64 (a0 + a1) < 0 := by unfold wrap64; omega
            have h10 : (9223372036854775807 == wrap64 (a0 + a1)) = false := by simpa using (show (9223372036854775807 : Int) ≠ wrap64 (a0 + a1) by omega)
            go_enter Try.func9, Try.ntmps9
            go_wp2_with (first | (go_at_call 15; refine (known2_any _).mono ?_; rintro e w' ⟨rfl, hg⟩; replace hG := grown_trans hG hg; clear hg) | (go_at_call 20; refine (plus_any _ _ _ (by omega) (by omega) (by omega) (by omega)).mono ?_; rintro e w' ⟨rfl, rfl⟩) | (go_at_call 21; refine (times_any _ _ _ (by omega) (by omega)).mono ?_; rintro e w' ⟨rfl, rfl⟩))
            all_goals (go_ret; exact ⟨rfl, hG⟩)
        · clear A7
          obtain rfl : a1 = 0 := by omega
          obtain rfl : P = a0 := by omega
          clear A8
          go_enter Try.func9, Try.ntmps9
          go_wp2_with (first | (go_at_call 15; refine (known2_any _).mono ?_; rintro e w' ⟨rfl, hg⟩; replace hG := grown_trans hG hg; clear hg) | (go_at_call 20; refine (plus_any _ _ _ (by omega) (by omega) (by omega) (by omega)).mono ?_; rintro e w' ⟨rfl, rfl⟩) | (go_at_call 21; refine (times_any _ _ _ (by omega) (by omega)).mono ?_; rintro e w' ⟨rfl, rfl⟩))
          go_ret
          exact ⟨rfl, hG⟩
end Go.Proofs.Ytkfgnacbifiadaa
