/- The walks of chapter 29's statements. -/
import Derived.Test.YtjlhngffkmbdmaaMath29
import Derived.Test.YtjlhngffkmbdmaaCut
import Derived.OpenShut
namespace Go.Proofs.Ytjlhngffkmbdmaa
set_option linter.unusedVariables false
set_option linter.unusedSimpArgs false
open Go.RowKit
attribute [local go_sem] max2_int max_two min2_int min_two

theorem known29_any (w : World) : Calls Try.prog 15 #[] w fun e w' => e = .returned (.bool true) ∧ Grown w w' := by
  have v1 : windowI 1 0 1 = 72 := by decide +kernel
  have v2 : windowI 2 9 3 = 10760 := by decide +kernel
  have v3 : soloI 1 0 = 160 := by decide +kernel
  have v4 : soloI 2 16 = 2160 := by decide +kernel
  have v5 : deepI 0 = 2 := by decide +kernel
  have v6 : deepI 7 = 8 := by decide +kernel
  have hG := Grown.refl w
  go_enter Try.func15, Try.ntmps15
  go_wp2_with (first | (go_at_call 16; refine (window_any _ _ _ _ (by omega) (by omega) (by omega)).mono ?_; rintro e w' ⟨rfl, hg⟩; replace hG := grown_trans hG hg; clear hg) | (go_at_call 17; refine (solo_any _ _ _ (by omega) (by omega)).mono ?_; rintro e w' ⟨rfl, hg⟩; replace hG := grown_trans hG hg; clear hg) | (go_at_call 18; refine (deep_any _ _ (by omega)).mono ?_; rintro e w' ⟨rfl, hg⟩; replace hG := grown_trans hG hg; clear hg))
  go_ret
  exact ⟨rfl, hG⟩
theorem root_max : rootI 9223372036854775807 = 3037000499 := rootI_unique (by decide) (by decide) (by decide)
theorem window_max : windowI 9223372036854775807 9223372036854775807 9223372036854775807 = 9223372036854775807 := by
  unfold windowI; rw [root_max]; decide +kernel

set_option maxHeartbeats 1000000 in
theorem boundKnown_walk   (w : World) : Calls Try.prog 3 #[] w fun e w' => e = .returned (.bool true) ∧ Grown w w' := by
  have v1 : windowI 0 100 1 = 0 := by decide +kernel
  have v2 : windowI (-5) 100 1 = 0 := by decide +kernel
  have v3 : windowI 1 (-3) 0 = 64 := by decide +kernel
  have v4 := window_max
  have v5 : soloI (-1) (-1) = 96 := by decide +kernel
  have v6 : soloI 9223372036854775807 0 = 9223372036854775807 := by decide +kernel
  have v7 : deepI (-9) = 2 := by decide +kernel
  have v8 : deepI 9223372036854775807 = 128 := by decide +kernel
  have v9 : deepI 8 = 10 := by decide +kernel
  have hG := Grown.refl w
  go_enter Try.func3, Try.ntmps3
  go_wp2_with (first | (go_at_call 15; refine (known29_any _).mono ?_; rintro e w' ⟨rfl, hg⟩; replace hG := grown_trans hG hg; clear hg) | (go_at_call 16; refine (window_any _ _ _ _ (by omega) (by omega) (by omega)).mono ?_; rintro e w' ⟨rfl, hg⟩; replace hG := grown_trans hG hg; clear hg) | (go_at_call 17; refine (solo_any _ _ _ (by omega) (by omega)).mono ?_; rintro e w' ⟨rfl, hg⟩; replace hG := grown_trans hG hg; clear hg) | (go_at_call 18; refine (deep_any _ _ (by omega)).mono ?_; rintro e w' ⟨rfl, hg⟩; replace hG := grown_trans hG hg; clear hg))
  go_ret
  exact ⟨rfl, hG⟩

set_option maxHeartbeats 1000000 in
theorem boundTells_walk (a0 : Int) (a1 : Int) (a2 : Int) (w0 : (Lit.int .i64 a0).wf = true) (w1 : (Lit.int .i64 a1).wf = true) (w2 : (Lit.int .i64 a2).wf = true) (w : World) : Calls Try.prog 4 #[.int .i64 a0, .int .i64 a1, .int .i64 a2] w fun e w' => e = .returned (.bool true) ∧ Grown w w' := by
  obtain ⟨l0, u0⟩ := Go.bounds_i64 w0
  obtain ⟨l1, u1⟩ := Go.bounds_i64 w1
  obtain ⟨l2, u2⟩ := Go.bounds_i64 w2
  obtain ⟨x0, y0⟩ := cut_bd a0 70 (by omega)
  obtain ⟨x1, y1⟩ := cut_bd a1 70000 (by omega)
  obtain ⟨x2, y2⟩ := cut_bd a2 70 (by omega)
  have e1 := window_eq (t := a0) (c := a1) (b := a2) (by omega) (by omega)
  have e2 := solo_eq (t := a0) (c := a1) (by omega) (by omega)
  have e3 := deep_eq (n := a1) (by omega)
  have e4 := window_eq (t := a0 % 70) (c := a1 % 70000) (b := a2 % 70) (by omega) (by omega)
  have e5 := solo_eq (t := a0 % 70) (c := a1 % 70000) (by omega) (by omega)
  have e6 := deep_eq (n := a1 % 70000) (by omega)
  have hG := Grown.refl w
  go_enter Try.func4, Try.ntmps4
  go_wp2_with (first | (go_at_call 15; refine (known29_any _).mono ?_; rintro e w' ⟨rfl, hg⟩; replace hG := grown_trans hG hg; clear hg) | (go_at_call 16; refine (window_any _ _ _ _ (by omega) (by omega) (by omega)).mono ?_; rintro e w' ⟨rfl, hg⟩; replace hG := grown_trans hG hg; clear hg) | (go_at_call 17; refine (solo_any _ _ _ (by omega) (by omega)).mono ?_; rintro e w' ⟨rfl, hg⟩; replace hG := grown_trans hG hg; clear hg) | (go_at_call 18; refine (deep_any _ _ (by omega)).mono ?_; rintro e w' ⟨rfl, hg⟩; replace hG := grown_trans hG hg; clear hg) | (go_at_call 20; refine (refwindow_any _ _ _ _ (by omega) (by omega) (by omega)).mono ?_; rintro e w' ⟨rfl, rfl⟩) | (go_at_call 21; refine (refsolo_any _ _ _ (by omega) (by omega)).mono ?_; rintro e w' ⟨rfl, rfl⟩) | (go_at_call 22; refine (refdeep_any _ _ (by omega) (by omega)).mono ?_; rintro e w' ⟨rfl, rfl⟩) | (go_at_call 19; refine (cut_any _ _ _ (by omega) (by omega) (by omega) (by omega)).mono ?_; rintro e w' ⟨rfl, rfl⟩))
  go_ret
  exact ⟨rfl, hG⟩

theorem window_mono {t c b t' c' b' : Int} (ht : t' ≤ 9223372036854775807) (hc : c' ≤ 9223372036854775807) (h1 : t ≤ t') (h2 : c ≤ c') (h3 : b ≤ b') : windowI t c b ≤ windowI t' c' b' := by
  rw [window_eq (by omega) (by omega), window_eq ht hc]; exact refWindow_mono h1 h2 h3
theorem solo_mono {t c t' c' : Int} (ht : t' ≤ 9223372036854775807) (hc : c' ≤ 9223372036854775807) (h1 : t ≤ t') (h2 : c ≤ c') : soloI t c ≤ soloI t' c' := by
  rw [solo_eq (by omega) (by omega), solo_eq ht hc]; exact refSolo_mono h1 h2
theorem deep_mono {n m : Int} (hm : m ≤ 9223372036854775807) (h : n ≤ m) : deepI n ≤ deepI m := by
  rw [deep_eq (by omega), deep_eq hm]; have := bitsI_mono h hm; omega
def mnI (a b : Int) : Int := if b < a then b else a
def mxI (a b : Int) : Int := if a < b then b else a
theorem mnI_le (a b : Int) : mnI a b ≤ mxI a b := by unfold mnI mxI; split <;> split <;> omega
theorem mxI_bd {a b : Int} (h : a ≤ 9223372036854775807) (k : b ≤ 9223372036854775807) : mxI a b ≤ 9223372036854775807 := by unfold mxI; split <;> omega

set_option maxHeartbeats 1000000 in
theorem boundRises_walk (a0 : Int) (a1 : Int) (a2 : Int) (a3 : Int) (a4 : Int) (a5 : Int) (w0 : (Lit.int .i64 a0).wf = true) (w1 : (Lit.int .i64 a1).wf = true) (w2 : (Lit.int .i64 a2).wf = true) (w3 : (Lit.int .i64 a3).wf = true) (w4 : (Lit.int .i64 a4).wf = true) (w5 : (Lit.int .i64 a5).wf = true) (w : World) : Calls Try.prog 5 #[.int .i64 a0, .int .i64 a1, .int .i64 a2, .int .i64 a3, .int .i64 a4, .int .i64 a5] w fun e w' => e = .returned (.bool true) ∧ Grown w w' := by
  obtain ⟨l0, u0⟩ := Go.bounds_i64 w0
  obtain ⟨l1, u1⟩ := Go.bounds_i64 w1
  obtain ⟨l2, u2⟩ := Go.bounds_i64 w2
  obtain ⟨l3, u3⟩ := Go.bounds_i64 w3
  obtain ⟨l4, u4⟩ := Go.bounds_i64 w4
  obtain ⟨l5, u5⟩ := Go.bounds_i64 w5
  have p1 : (if a1 < a0 then a1 else a0) = mnI a0 a1 := rfl
  have p2 : (if a3 < a2 then a3 else a2) = mnI a2 a3 := rfl
  have p3 : (if a5 < a4 then a5 else a4) = mnI a4 a5 := rfl
  have q1 : (if a0 < a1 then a1 else a0) = mxI a0 a1 := rfl
  have q2 : (if a2 < a3 then a3 else a2) = mxI a2 a3 := rfl
  have q3 : (if a4 < a5 then a5 else a4) = mxI a4 a5 := rfl
  have r1 := mnI_le a0 a1
  have r2 := mnI_le a2 a3
  have r3 := mnI_le a4 a5
  have s1 := mxI_bd u0 u1
  have s2 := mxI_bd u2 u3
  have s3 := mxI_bd u4 u5
  have m1 := window_mono s1 s2 r1 r2 r3
  have m2 := solo_mono s1 s2 r1 r2
  have m3 := deep_mono s1 r1
  have hG := Grown.refl w
  go_enter Try.func5, Try.ntmps5
  go_wp2_with (first | (go_at_call 15; refine (known29_any _).mono ?_; rintro e w' ⟨rfl, hg⟩; replace hG := grown_trans hG hg; clear hg) | (go_at_call 16; refine (window_any _ _ _ _ (by omega) (by omega) (by omega)).mono ?_; rintro e w' ⟨rfl, hg⟩; replace hG := grown_trans hG hg; clear hg) | (go_at_call 17; refine (solo_any _ _ _ (by omega) (by omega)).mono ?_; rintro e w' ⟨rfl, hg⟩; replace hG := grown_trans hG hg; clear hg) | (go_at_call 18; refine (deep_any _ _ (by omega)).mono ?_; rintro e w' ⟨rfl, hg⟩; replace hG := grown_trans hG hg; clear hg))
  go_ret
  exact ⟨rfl, hG⟩

set_option maxHeartbeats 1000000 in
theorem boundRoom_walk (a0 : Int) (a1 : Int) (a2 : Int) (w0 : (Lit.int .i64 a0).wf = true) (w1 : (Lit.int .i64 a1).wf = true) (w2 : (Lit.int .i64 a2).wf = true) (w : World) : Calls Try.prog 6 #[.int .i64 a0, .int .i64 a1, .int .i64 a2] w fun e w' => e = .returned (.bool true) ∧ Grown w w' := by
  obtain ⟨l0, u0⟩ := Go.bounds_i64 w0
  obtain ⟨l1, u1⟩ := Go.bounds_i64 w1
  obtain ⟨l2, u2⟩ := Go.bounds_i64 w2
  obtain ⟨x0, y0⟩ := cut_bd a0 64 (by omega)
  obtain ⟨x1, y1⟩ := cut_bd a1 65000 (by omega)
  obtain ⟨x2, y2⟩ := cut_bd a2 64 (by omega)
  have m1 : soloI 1 (7 + a1 % 65000) ≤ windowI (1 + a0 % 64) (7 + a1 % 65000) (1 + a2 % 64) := by
    rw [window_eq (by omega) (by omega), solo_eq (by omega) (by omega)]; exact room_one (by omega) (by omega) (by omega) (by omega) (by omega) (by omega)
  have m2 : 7 + a1 % 65000 ≤ soloI (1 + a0 % 64) (7 + a1 % 65000) := by
    rw [solo_eq (by omega) (by omega)]; exact room_two (by omega) (by omega) (by omega) (by omega)
  have m3 : (1 + a0 % 64) * (7 + a1 % 65000) ≤ windowI (1 + a0 % 64) (7 + a1 % 65000) (1 + a2 % 64) := by
    rw [window_eq (by omega) (by omega)]; exact room_three (by omega) (by omega) (by omega) (by omega) (by omega) (by omega)
  have m4 : 0 ≤ (1 + a0 % 64) * (7 + a1 % 65000) := Int.mul_nonneg (by omega) (by omega)
  have m5 : (1 + a0 % 64) * (7 + a1 % 65000) ≤ 64 * 65006 := Int.mul_le_mul (by omega) (by omega) (by omega) (by omega)
  have hG := Grown.refl w
  go_enter Try.func6, Try.ntmps6
  go_wp2_with (first | (go_at_call 15; refine (known29_any _).mono ?_; rintro e w' ⟨rfl, hg⟩; replace hG := grown_trans hG hg; clear hg) | (go_at_call 16; refine (window_any _ _ _ _ (by omega) (by omega) (by omega)).mono ?_; rintro e w' ⟨rfl, hg⟩; replace hG := grown_trans hG hg; clear hg) | (go_at_call 17; refine (solo_any _ _ _ (by omega) (by omega)).mono ?_; rintro e w' ⟨rfl, hg⟩; replace hG := grown_trans hG hg; clear hg) | (go_at_call 19; refine (cut_any _ _ _ (by omega) (by omega) (by omega) (by omega)).mono ?_; rintro e w' ⟨rfl, rfl⟩))
  go_ret
  exact ⟨rfl, hG⟩
end Go.Proofs.Ytjlhngffkmbdmaa
