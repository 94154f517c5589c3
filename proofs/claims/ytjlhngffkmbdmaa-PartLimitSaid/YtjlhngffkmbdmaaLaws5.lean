/- The walks of chapter 5's statements. -/
import Derived.Test.YtjlhngffkmbdmaaRefP
import Derived.Test.YtjlhngffkmbdmaaPart
import Derived.Test.YtjlhngffkmbdmaaCut
import Derived.Test.YtjlhngffkmbdmaaLaw5
import Derived.OpenShut
namespace Go.Proofs.Ytjlhngffkmbdmaa
set_option linter.unusedVariables false
set_option linter.unusedSimpArgs false
open Go.RowKit
attribute [local go_sem] max2_int max_two min2_int min_two

set_option maxHeartbeats 2000000 in
theorem known5_any (w : World) : Calls Try.prog 23 #[] w fun e w' => e = .returned (.bool true) ∧ Grown w w' := by
  have v0 : degreeI 2 = 2 := by decide +kernel
  have v1 : degreeI 8 = 2 := by decide +kernel
  have v2 : degreeI 9 = 3 := by decide +kernel
  have v3 : degreeI 100 = 10 := by decide +kernel
  have v4 : sizeI 11 0 = 4 := by decide +kernel
  have v5 : sizeI 11 2 = 3 := by decide +kernel
  have v6 : sizeI 11 3 = 0 := by decide +kernel
  have v7 : fromI 11 2 = 8 := by decide +kernel
  have v8 : depthI 1 = 0 := by decide +kernel
  have v9 : depthI 2 = 1 := by decide +kernel
  have v10 : depthI 3 = 2 := by decide +kernel
  have v11 : depthI 16 = 3 := by decide +kernel
  have v12 : cellsI 0 = 1 := by decide +kernel
  have v13 : cellsI 2 = 12 := by decide +kernel
  have v14 : cellsI 3 = 22 := by decide +kernel
  have v15 : limitI 2 = 2 := by decide +kernel
  have v16 : limitI 8 = 4 := by decide +kernel
  have hG := Grown.refl w
  go_enter Try.func23, Try.ntmps23
  go_wp2_with (first | (go_at_call 24; refine (degree_any _ _ (by omega) (by omega)).mono ?_; rintro e w' ⟨rfl, rfl⟩) | (go_at_call 28; refine (limit_any _ _ (by omega) (by omega)).mono ?_; rintro e w' ⟨rfl, rfl⟩) | (go_at_call 25; refine (size_any _ _ _ (by omega) (by omega) (by omega) (by omega)).mono ?_; rintro e w' ⟨rfl, rfl⟩) | (go_at_call 26; refine (from_any _ _ _ (by omega) (by omega)).mono ?_; rintro e w' ⟨rfl, hg⟩; replace hG := grown_trans hG hg; clear hg) | (go_at_call 29; refine (depth_any _ _ (by omega) (by omega)).mono ?_; rintro e w' ⟨rfl, hg⟩; replace hG := grown_trans hG hg; clear hg) | (go_at_call 27; refine (cells_any _ _ (by omega) (by omega)).mono ?_; rintro e w' ⟨rfl, hg⟩; replace hG := grown_trans hG hg; clear hg))
  go_ret
  exact ⟨rfl, hG⟩
theorem degree_max : degreeI 16384 = 128 := by
  have e : rootI 16384 = 128 := rootI_unique (by decide) (by decide) (by decide)
  unfold degreeI; rw [e]; decide

set_option maxHeartbeats 2000000 in
set_option maxRecDepth 100000 in
theorem partKnown_walk   (w : World) : Calls Try.prog 7 #[] w fun e w' => e = .returned (.bool true) ∧ Grown w w' := by
  have v0 : degreeI 0 = 0 := by decide +kernel
  have v1 : degreeI 1 = 0 := by decide +kernel
  have v2 : degreeI 3 = 2 := by decide +kernel
  have v3 : degreeI 16384 = 128 := by exact degree_max
  have v4 : degreeI 16385 = 0 := by decide +kernel
  have v5 : degreeI (-4) = 0 := by decide +kernel
  have v6 : sizeI 2 2 = 0 := by decide +kernel
  have v7 : sizeI 9 (-1) = 0 := by decide +kernel
  have v8 : fromI 9 3 = 0 := by decide +kernel
  have v9 : cellsI 1 = 2 := by decide +kernel
  have v10 : cellsI (-1) = 0 := by decide +kernel
  have v11 : limitI 0 = 2 := by decide +kernel
  have v12 : limitI (-1) = 0 := by decide +kernel
  have v13 : limitI 16384 = 4098 := by decide +kernel
  have v14 : depthI 0 = 0 := by decide +kernel
  have hG := Grown.refl w
  go_enter Try.func7, Try.ntmps7
  go_wp2_with (first | (go_at_call 23; refine (known5_any _).mono ?_; rintro e w' ⟨rfl, hg⟩; replace hG := grown_trans hG hg; clear hg) | (go_at_call 24; refine (degree_any _ _ (by omega) (by omega)).mono ?_; rintro e w' ⟨rfl, rfl⟩) | (go_at_call 28; refine (limit_any _ _ (by omega) (by omega)).mono ?_; rintro e w' ⟨rfl, rfl⟩) | (go_at_call 25; refine (size_any _ _ _ (by omega) (by omega) (by omega) (by omega)).mono ?_; rintro e w' ⟨rfl, rfl⟩) | (go_at_call 26; refine (from_any _ _ _ (by omega) (by omega)).mono ?_; rintro e w' ⟨rfl, hg⟩; replace hG := grown_trans hG hg; clear hg) | (go_at_call 29; refine (depth_any _ _ (by omega) (by omega)).mono ?_; rintro e w' ⟨rfl, hg⟩; replace hG := grown_trans hG hg; clear hg) | (go_at_call 27; refine (cells_any _ _ (by omega) (by omega)).mono ?_; rintro e w' ⟨rfl, hg⟩; replace hG := grown_trans hG hg; clear hg))
  go_ret
  exact ⟨rfl, hG⟩

set_option maxHeartbeats 2000000 in
set_option maxRecDepth 100000 in
theorem partTells_walk (a0 : Int) (a1 : Int) (a2 : Int) (w0 : (Lit.int .i64 a0).wf = true) (w1 : (Lit.int .i64 a1).wf = true) (w2 : (Lit.int .i64 a2).wf = true) (w : World) : Calls Try.prog 8 #[.int .i64 a0, .int .i64 a1, .int .i64 a2] w fun e w' => e = .returned (.bool true) ∧ Grown w w' := by
  obtain ⟨l0, u0⟩ := Go.bounds_i64 w0
  obtain ⟨l1, u1⟩ := Go.bounds_i64 w1
  obtain ⟨l2, u2⟩ := Go.bounds_i64 w2
  obtain ⟨x2, y2⟩ := cut_bd a2 1200 (by omega)
  obtain ⟨x1, y1⟩ := cut_bd a1 40 (by omega)
  have hG := Grown.refl w
  go_enter Try.func8, Try.ntmps8
  go_wp2_with (first | (go_at_call 23; refine (known5_any _).mono ?_; rintro e w' ⟨rfl, hg⟩; replace hG := grown_trans hG hg; clear hg) | (go_at_call 19; refine (cut_any _ _ _ (by omega) (by omega) (by omega) (by omega)).mono ?_; rintro e w' ⟨rfl, rfl⟩) | (go_at_call 24; refine (degree_any _ _ (by omega) (by omega)).mono ?_; rintro e w' ⟨rfl, rfl⟩) | (go_at_call 28; refine (limit_any _ _ (by omega) (by omega)).mono ?_; rintro e w' ⟨rfl, rfl⟩) | (go_at_call 25; refine (size_any _ _ _ (by omega) (by omega) (by omega) (by omega)).mono ?_; rintro e w' ⟨rfl, rfl⟩) | (go_at_call 26; refine (from_any _ _ _ (by omega) (by omega)).mono ?_; rintro e w' ⟨rfl, hg⟩; replace hG := grown_trans hG hg; clear hg) | (go_at_call 29; refine (depth_any _ _ (by omega) (by omega)).mono ?_; rintro e w' ⟨rfl, hg⟩; replace hG := grown_trans hG hg; clear hg) | (go_at_call 27; refine (cells_any _ _ (by omega) (by omega)).mono ?_; rintro e w' ⟨rfl, hg⟩; replace hG := grown_trans hG hg; clear hg) | (go_at_call 30; refine (refdegree_any _ _ (by omega) (by omega)).mono ?_; rintro e w' ⟨rfl, rfl⟩) | (go_at_call 31; refine (reflimit_any _ _ (by omega) (by omega)).mono ?_; rintro e w' ⟨rfl, rfl⟩) | (go_at_call 32; refine (refsize_any _ _ _ (by omega) (by omega) (by omega) (by omega)).mono ?_; rintro e w' ⟨rfl, rfl⟩) | (go_at_call 33; refine (reffrom_any _ _ _ (by omega) (by omega)).mono ?_; rintro e w' ⟨rfl, rfl⟩) | (go_at_call 34; refine (refdepth_any _ _ (by omega) (by omega)).mono ?_; rintro e w' ⟨rfl, rfl⟩) | (go_at_call 35; refine (refcells_any _ _ (by omega) (by omega)).mono ?_; rintro e w' ⟨rfl, rfl⟩))
  go_ret
  exact ⟨rfl, hG⟩

set_option maxHeartbeats 2000000 in
set_option maxRecDepth 100000 in
theorem partSums_walk (a0 : Int) (w0 : (Lit.int .i64 a0).wf = true) (w : World) : Calls Try.prog 9 #[.int .i64 a0] w fun e w' => e = .returned (.bool true) ∧ Grown w w' := by
  obtain ⟨l0, u0⟩ := Go.bounds_i64 w0
  obtain ⟨x0, y0⟩ := cut_bd a0 16385 (by omega)
  obtain ⟨m, hm⟩ : ∃ m, a0 % 16385 = m := ⟨_, rfl⟩
  rw [hm] at x0 y0
  have hG := Grown.refl w
  by_cases g : m < 2
  · have D := degreeI_none (n := m) (.inl g)
    have S := sizeI_out (n := m) (i := 0) (.inr (by rw [D]; omega))
    go_enter Try.func9, Try.ntmps9
    go_wp2_with (first | (go_at_call 19; refine (cut_any _ _ _ (by omega) (by omega) (by omega) (by omega)).mono ?_; rintro e w' ⟨rfl, rfl⟩) | (go_at_call 24; refine (degree_any _ _ (by omega) (by omega)).mono ?_; rintro e w' ⟨rfl, rfl⟩))
    go_loopw [4, 5, 6] (fun s i _ wr => s = .int .i64 0 ∧ i = .int .i64 0 ∧ Grown w wr) (fun _ _ _ _ => 0)
    case atStart => exact ⟨rfl, rfl, hG⟩
    case round =>
      obtain ⟨rfl, rfl, hG⟩ := hrel
      go_wp2_with (first | (go_at_call 23; refine (known5_any _).mono ?_; rintro e w' ⟨rfl, hg⟩; replace hG := grown_trans hG hg; clear hg) | (go_at_call 25; refine (size_any _ _ _ (by omega) (by omega) (by omega) (by omega)).mono ?_; rintro e w' ⟨rfl, rfl⟩))
      go_ret
      exact ⟨rfl, hG⟩
  · have g0 : 2 ≤ m := by omega
    have g1 : m ≤ 16384 := by omega
    clear g
    have g2 : decide (m < 2) = false := decide_eq_false (by omega)
    obtain ⟨d0, d1, d2⟩ := degreeI_bd g0 g1
    have d3 : (degreeI m == 0) = false := by simpa using (show degreeI m ≠ 0 by omega)
    have S := sizeI_out (n := m) (i := degreeI m) (.inr (by omega))
    have R := rawI_all g0 g1
    have Z := Lib.hid (rawI_zero g0 g1)
    have sb0 := sizeI_bd m 0
    go_enter Try.func9, Try.ntmps9
    go_wp2_with (first | (go_at_call 19; refine (cut_any _ _ _ (by omega) (by omega) (by omega) (by omega)).mono ?_; rintro e w' ⟨rfl, rfl⟩) | (go_at_call 24; refine (degree_any _ _ (by omega) (by omega)).mono ?_; rintro e w' ⟨rfl, rfl⟩))
    go_loopw [4, 5, 6] (fun s i _ wr => ∃ k : Int, 0 ≤ k ∧ k ≤ degreeI m ∧ s = .int .i64 (rawI m k) ∧ i = .int .i64 k ∧ Grown w wr) (fun _ i _ _ => (degreeI m - intOf i).toNat)
    case atStart => exact ⟨0, by omega, by omega, by rw [Z.out], rfl, hG⟩
    case round =>
      obtain ⟨k, k0, k1, rfl, rfl, hG⟩ := hrel
      by_cases c : k < degreeI m
      · obtain ⟨s0, s1⟩ := (sizeI_in g0 g1 k0 c).2
        have F := fromI_in k0 c
        obtain ⟨u1, u2⟩ := size_near g0 g1 k0 c
        have b := rawI_bd g0 g1 k0 k1
        have T := Lib.hid (rawI_step g0 g1 k0 c)
        have sb := sizeI_bd m k
        by_cases z : k = 0
        · subst z
          go_wp2_with (first | (go_at_call 25; refine (size_any _ _ _ (by omega) (by omega) (by omega) (by omega)).mono ?_; rintro e w' ⟨rfl, rfl⟩) | (go_at_call 26; refine (from_any _ _ _ (by omega) (by omega)).mono ?_; rintro e w' ⟨rfl, hg⟩; replace hG := grown_trans hG hg; clear hg))
          go_roundw
          case rel => exact ⟨0 + 1, by omega, by omega, by rw [T.out], rfl, hG⟩
          case measure => simp [intOf]; omega
        · have z' : 0 < k := by omega
          clear z
          have u3 := size_next g0 g1 z' c
          have sb1 := sizeI_bd m (k - 1)
          go_wp2_with (first | (go_at_call 25; refine (size_any _ _ _ (by omega) (by omega) (by omega) (by omega)).mono ?_; rintro e w' ⟨rfl, rfl⟩) | (go_at_call 26; refine (from_any _ _ _ (by omega) (by omega)).mono ?_; rintro e w' ⟨rfl, hg⟩; replace hG := grown_trans hG hg; clear hg))
          go_roundw
          case rel => exact ⟨k + 1, by omega, by omega, by rw [T.out], rfl, hG⟩
          case measure => simp [intOf]; omega
      · have e : k = degreeI m := by omega
        subst e
        go_wp2_with (first | (go_at_call 23; refine (known5_any _).mono ?_; rintro e w' ⟨rfl, hg⟩; replace hG := grown_trans hG hg; clear hg) | (go_at_call 25; refine (size_any _ _ _ (by omega) (by omega) (by omega) (by omega)).mono ?_; rintro e w' ⟨rfl, rfl⟩))
        go_ret
        exact ⟨rfl, hG⟩

set_option maxHeartbeats 2000000 in
set_option maxRecDepth 100000 in
theorem partRoot_walk (a0 : Int) (w0 : (Lit.int .i64 a0).wf = true) (w : World) : Calls Try.prog 10 #[.int .i64 a0] w fun e w' => e = .returned (.bool true) ∧ Grown w w' := by
  obtain ⟨l0, u0⟩ := Go.bounds_i64 w0
  obtain ⟨x0, y0⟩ := cut_bd a0 16383 (by omega)
  obtain ⟨m, hm⟩ : ∃ m, a0 % 16383 = m := ⟨_, rfl⟩
  rw [hm] at x0 y0
  obtain ⟨d0, d1, d2⟩ := degreeI_bd (n := 2 + m) (by omega) (by omega)
  obtain ⟨r0, r1, r2, r3⟩ := degree_root (n := 2 + m) (by omega) (by omega)
  have hG := Grown.refl w
  by_cases c : degreeI (2 + m) = rootI (2 + m)
  · go_enter Try.func10, Try.ntmps10
    go_wp2_with (first | (go_at_call 23; refine (known5_any _).mono ?_; rintro e w' ⟨rfl, hg⟩; replace hG := grown_trans hG hg; clear hg) | (go_at_call 19; refine (cut_any _ _ _ (by omega) (by omega) (by omega) (by omega)).mono ?_; rintro e w' ⟨rfl, rfl⟩) | (go_at_call 24; refine (degree_any _ _ (by omega) (by omega)).mono ?_; rintro e w' ⟨rfl, rfl⟩) | (go_at_call 36; refine (root_any _ _ (by omega)).mono ?_; rintro e w' ⟨rfl, rfl⟩))
    go_ret
    exact ⟨rfl, hG⟩
  · have c' : (degreeI (2 + m) == rootI (2 + m)) = false := by simpa using c
    have h4 := r3 c
    clear r3 c
    go_enter Try.func10, Try.ntmps10
    go_wp2_with (first | (go_at_call 23; refine (known5_any _).mono ?_; rintro e w' ⟨rfl, hg⟩; replace hG := grown_trans hG hg; clear hg) | (go_at_call 19; refine (cut_any _ _ _ (by omega) (by omega) (by omega) (by omega)).mono ?_; rintro e w' ⟨rfl, rfl⟩) | (go_at_call 24; refine (degree_any _ _ (by omega) (by omega)).mono ?_; rintro e w' ⟨rfl, rfl⟩) | (go_at_call 36; refine (root_any _ _ (by omega)).mono ?_; rintro e w' ⟨rfl, rfl⟩))
    go_ret
    exact ⟨rfl, hG⟩

set_option maxHeartbeats 2000000 in
set_option maxRecDepth 100000 in
theorem partDeep_walk (a0 : Int) (w0 : (Lit.int .i64 a0).wf = true) (w : World) : Calls Try.prog 11 #[.int .i64 a0] w fun e w' => e = .returned (.bool true) ∧ Grown w w' := by
  obtain ⟨l0, u0⟩ := Go.bounds_i64 w0
  obtain ⟨x0, y0⟩ := cut_bd a0 3000 (by omega)
  obtain ⟨m, hm⟩ : ∃ m, a0 % 3000 = m := ⟨_, rfl⟩
  rw [hm] at x0 y0
  have hG := Grown.refl w
  by_cases g : m < 2
  · have D := degreeI_none (n := m) (.inl g)
    have E := depthI_none (n := m) (.inl g)
    have F : cellsI m = m + 1 := by
      have : m = 0 ∨ m = 1 := by omega
      rcases this with rfl | rfl
      · exact cellsI_zero
      · exact cellsI_one
    go_enter Try.func11, Try.ntmps11
    go_wp2_with (first | (go_at_call 19; refine (cut_any _ _ _ (by omega) (by omega) (by omega) (by omega)).mono ?_; rintro e w' ⟨rfl, rfl⟩) | (go_at_call 24; refine (degree_any _ _ (by omega) (by omega)).mono ?_; rintro e w' ⟨rfl, rfl⟩) | (go_at_call 23; refine (known5_any _).mono ?_; rintro e w' ⟨rfl, hg⟩; replace hG := grown_trans hG hg; clear hg) | (go_at_call 29; refine (depth_any _ _ (by omega) (by omega)).mono ?_; rintro e w' ⟨rfl, hg⟩; replace hG := grown_trans hG hg; clear hg) | (go_at_call 27; refine (cells_any _ _ (by omega) (by omega)).mono ?_; rintro e w' ⟨rfl, hg⟩; replace hG := grown_trans hG hg; clear hg))
    go_ret
    exact ⟨rfl, hG⟩
  · have g0 : 2 ≤ m := by omega
    have g1 : m ≤ 16384 := by omega
    clear g
    obtain ⟨d0, d1, d2⟩ := degreeI_bd g0 g1
    have d3 : (degreeI m == 0) = false := by simpa using (show degreeI m ≠ 0 by omega)
    have H1 := deepMax_all g0 g1
    have H2 := cellsTo_all g0 g1
    have e0 : 2 * degreeI m + 4 = cellsTo m 0 := by rw [cellsTo]; omega
    have E0 := Lib.hid e0
    clear e0
    go_enter Try.func11, Try.ntmps11
    go_wp2_with (first | (go_at_call 19; refine (cut_any _ _ _ (by omega) (by omega) (by omega) (by omega)).mono ?_; rintro e w' ⟨rfl, rfl⟩) | (go_at_call 24; refine (degree_any _ _ (by omega) (by omega)).mono ?_; rintro e w' ⟨rfl, rfl⟩))
    go_loopw [4, 5, 6, 7] (fun c d i _ wr => ∃ k : Nat, (k : Int) ≤ degreeI m ∧ c = .int .i64 (cellsTo m k) ∧ d = .int .i64 (deepMax m k) ∧ i = .int .i64 k ∧ Grown w wr) (fun _ _ i _ _ => (degreeI m - intOf i).toNat)
    case atStart => exact ⟨0, by omega, by rw [E0.out], rfl, rfl, hG⟩
    case round =>
      obtain ⟨k, k1, rfl, rfl, rfl, hG⟩ := hrel
      by_cases c : (k : Int) < degreeI m
      · obtain ⟨s0, s1⟩ := (sizeI_in g0 g1 (Int.natCast_nonneg k) c).2
        have b := cellsTo_bd m k
        obtain ⟨a1, a2⟩ := cellsI_abs (sizeI m k)
        have hm : (if deepMax m k < depthI (sizeI m k) then depthI (sizeI m k) else deepMax m k) = deepMax m (k + 1) := rfl
        go_wp2_with (first | (go_at_call 25; refine (size_any _ _ _ (by omega) (by omega) (by omega) (by omega)).mono ?_; rintro e w' ⟨rfl, rfl⟩) | (go_at_call 27; refine (cells_any _ _ (by omega) (by omega)).mono ?_; rintro e w' ⟨rfl, hg⟩; replace hG := grown_trans hG hg; clear hg) | (go_at_call 29; refine (depth_any _ _ (by omega) (by omega)).mono ?_; rintro e w' ⟨rfl, hg⟩; replace hG := grown_trans hG hg; clear hg))
        go_roundw
        case rel => exact ⟨k + 1, by omega, by rw [cellsTo], rfl, by go_num, hG⟩
        case measure => simp [intOf]; omega
      · have e : k = (degreeI m).toNat := by omega
        have e2 : ((degreeI m).toNat : Int) = degreeI m := by omega
        subst e
        have q := deepMax_bd m (degreeI m).toNat
        have b := cellsTo_bd m (degreeI m).toNat
        clear c k1 e2
        go_wp2_with (first | (go_at_call 23; refine (known5_any _).mono ?_; rintro e w' ⟨rfl, hg⟩; replace hG := grown_trans hG hg; clear hg) | (go_at_call 29; refine (depth_any _ _ (by omega) (by omega)).mono ?_; rintro e w' ⟨rfl, hg⟩; replace hG := grown_trans hG hg; clear hg) | (go_at_call 27; refine (cells_any _ _ (by omega) (by omega)).mono ?_; rintro e w' ⟨rfl, hg⟩; replace hG := grown_trans hG hg; clear hg))
        go_ret
        exact ⟨rfl, hG⟩

set_option maxHeartbeats 2000000 in
set_option maxRecDepth 100000 in
theorem partShallow_walk (a0 : Int) (w0 : (Lit.int .i64 a0).wf = true) (w : World) : Calls Try.prog 12 #[.int .i64 a0] w fun e w' => e = .returned (.bool true) ∧ Grown w w' := by
  obtain ⟨l0, u0⟩ := Go.bounds_i64 w0
  obtain ⟨x0, y0⟩ := cut_bd a0 16383 (by omega)
  obtain ⟨m, hm⟩ : ∃ m, a0 % 16383 = m := ⟨_, rfl⟩
  rw [hm] at x0 y0
  have h1 := depth_one (n := 2 + m) (by omega) (by omega)
  have h2 := depth_shallow (n := 2 + m) (by omega) (by omega)
  have h3 := bitsI_nonneg (2 + m)
  have h4 := bitsI_le (n := 2 + m) (by omega)
  have h5 := bitsI_nonneg (bitsI (2 + m))
  have h6 := bitsI_le (n := bitsI (2 + m)) (by omega)
  have hG := Grown.refl w
  go_enter Try.func12, Try.ntmps12
  go_wp2_with (first | (go_at_call 23; refine (known5_any _).mono ?_; rintro e w' ⟨rfl, hg⟩; replace hG := grown_trans hG hg; clear hg) | (go_at_call 19; refine (cut_any _ _ _ (by omega) (by omega) (by omega) (by omega)).mono ?_; rintro e w' ⟨rfl, rfl⟩) | (go_at_call 29; refine (depth_any _ _ (by omega) (by omega)).mono ?_; rintro e w' ⟨rfl, hg⟩; replace hG := grown_trans hG hg; clear hg) | (go_at_call 37; refine (bits_any _ _ (by omega)).mono ?_; rintro e w' ⟨rfl, rfl⟩))
  go_ret
  exact ⟨rfl, hG⟩

set_option maxHeartbeats 2000000 in
set_option maxRecDepth 100000 in
theorem partLimit_walk (a0 : Int) (a1 : Int) (w0 : (Lit.int .i64 a0).wf = true) (w1 : (Lit.int .i64 a1).wf = true) (w : World) : Calls Try.prog 13 #[.int .i64 a0, .int .i64 a1] w fun e w' => e = .returned (.bool true) ∧ Grown w w' := by
  obtain ⟨l0, u0⟩ := Go.bounds_i64 w0
  obtain ⟨l1, u1⟩ := Go.bounds_i64 w1
  obtain ⟨x0, y0⟩ := cut_bd a0 16385 (by omega)
  obtain ⟨x1, y1⟩ := cut_bd a1 16385 (by omega)
  obtain ⟨m, hm⟩ : ∃ m, a0 % 16385 = m := ⟨_, rfl⟩
  obtain ⟨n, hn⟩ : ∃ n, a1 % 16385 = n := ⟨_, rfl⟩
  rw [hm] at x0 y0
  rw [hn] at x1 y1
  have p1 : (if n < m then n else m) = minI m n := rfl
  have p2 : (if m < n then n else m) = maxI m n := rfl
  have q1 : 0 ≤ minI m n ∧ minI m n ≤ 16384 ∧ minI m n ≤ maxI m n ∧ maxI m n ≤ 16384 := by unfold minI maxI; split <;> split <;> omega
  obtain ⟨q2, q3, q4, q5⟩ := q1
  obtain ⟨s1, s2, s3, s4, s5⟩ := limit_facts q2 q4 q5
  have s6 := (limit_facts q2 (Int.le_refl _) q3).1
  have hG := Grown.refl w
  go_enter Try.func13, Try.ntmps13
  go_wp2_with (first | (go_at_call 23; refine (known5_any _).mono ?_; rintro e w' ⟨rfl, hg⟩; replace hG := grown_trans hG hg; clear hg) | (go_at_call 19; refine (cut_any _ _ _ (by omega) (by omega) (by omega) (by omega)).mono ?_; rintro e w' ⟨rfl, rfl⟩) | (go_at_call 28; refine (limit_any _ _ (by omega) (by omega)).mono ?_; rintro e w' ⟨rfl, rfl⟩))
  go_ret
  exact ⟨rfl, hG⟩
end Go.Proofs.Ytjlhngffkmbdmaa
