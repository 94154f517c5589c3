/- The walks of probe.Guess, and of the reference's Guess, Rising, Find, Ints. -/
import Derived.Test.YtelmehlabgnllaaProbe
namespace Go.Proofs.Ytelmehlabgnllaa
set_option linter.unusedVariables false
set_option linter.unusedSimpArgs false
open Go.RowKit

set_option maxHeartbeats 1000000 in
theorem guess_any (f l k n : Int) (w : World) (f0 : -9223372036854775808 ≤ f) (f1 : f ≤ 9223372036854775807) (l0 : -9223372036854775808 ≤ l) (l1 : l ≤ 9223372036854775807) (k0 : -9223372036854775808 ≤ k) (k1 : k ≤ 9223372036854775807) (n0 : -9223372036854775808 ≤ n) (n1 : n ≤ 9223372036854775807) :
    Calls Try.prog 15 #[.int .i64 f, .int .i64 l, .int .i64 k, .int .i64 n] w fun e w' => e = .returned (.int .i64 (guessI f l k n)) ∧ Drawn w w' := by
  by_cases h1 : n < 2
  · have H := Lib.hid (guessI_none (f := f) (l := l) (k := k) (n := n) (.inl h1))
    go_enter Try.func15, Try.ntmps15
    go_wp2_with (fail)
    go_ret
    exact ⟨ret_int H.out.symm, Drawn.refl _⟩
  · by_cases h2 : 65536 < n
    · have H := Lib.hid (guessI_none (f := f) (l := l) (k := k) (n := n) (.inr (.inl h2)))
      go_enter Try.func15, Try.ntmps15
      go_wp2_with (fail)
      go_ret
      exact ⟨ret_int H.out.symm, Drawn.refl _⟩
    · by_cases h3 : k < f
      · have H := Lib.hid (guessI_none (f := f) (l := l) (k := k) (n := n) (.inr (.inr (.inl h3))))
        go_enter Try.func15, Try.ntmps15
        go_wp2_with (fail)
        go_ret
        exact ⟨ret_int H.out.symm, Drawn.refl _⟩
      · by_cases h4 : l ≤ k
        · have H := Lib.hid (guessI_none (f := f) (l := l) (k := k) (n := n) (.inr (.inr (.inr h4))))
          go_enter Try.func15, Try.ntmps15
          go_wp2_with (fail)
          go_ret
          exact ⟨ret_int H.out.symm, Drawn.refl _⟩
        · have H := Lib.hid (guessI_in (f := f) (l := l) (k := k) (n := n) (by omega))
          obtain ⟨g0, g1⟩ := gapI_bd (a := f) (b := k) (by omega) (by omega)
          obtain ⟨g2, g3⟩ := gapI_bd (a := f) (b := l) (by omega) (by omega)
          obtain ⟨s0, s1⟩ := share_lt (p := gapI f k) (x := gapI f l) (n := n - 1) (by omega) (by unfold gapI; rw [if_neg (by omega), if_neg (by omega)]; omega) (by omega) (by omega)
          go_enter Try.func15, Try.ntmps15
          go_wp2_with (first | (go_at_call 26; refine (gap_any _ _ _ (by omega) (by omega) (by omega) (by omega)).mono ?_; rintro e w' ⟨rfl, rfl⟩) | (go_at_call 25; refine (share_any _ _ _ _ (by omega) (by omega) (by omega) (by omega) (by omega) (by omega)).mono ?_; rintro e w' ⟨rfl, m, rfl⟩))
          go_ret
          exact ⟨ret_int H.out.symm, Drawn.of _ _⟩

set_option maxHeartbeats 1000000 in
theorem refguess_any (f l k n : Int) (w : World) (f0 : -9223372036854775808 ≤ f) (f1 : f ≤ 9223372036854775807) (l0 : -9223372036854775808 ≤ l) (l1 : l ≤ 9223372036854775807) (k0 : -9223372036854775808 ≤ k) (k1 : k ≤ 9223372036854775807) (n0 : -9223372036854775808 ≤ n) (n1 : n ≤ 9223372036854775807) :
    Calls Try.prog 20 #[.int .i64 f, .int .i64 l, .int .i64 k, .int .i64 n] w fun e w' => e = .returned (.int .i64 (guessI f l k n)) ∧ Drawn w w' := by
  by_cases h1 : n < 2
  · have H := Lib.hid (guessI_none (f := f) (l := l) (k := k) (n := n) (.inl h1))
    go_enter Try.func20, Try.ntmps20
    go_wp2_with (fail)
    go_ret
    exact ⟨ret_int H.out.symm, Drawn.refl _⟩
  · by_cases h2 : 65536 < n
    · have H := Lib.hid (guessI_none (f := f) (l := l) (k := k) (n := n) (.inr (.inl h2)))
      go_enter Try.func20, Try.ntmps20
      go_wp2_with (fail)
      go_ret
      exact ⟨ret_int H.out.symm, Drawn.refl _⟩
    · by_cases h3 : k < f
      · have H := Lib.hid (guessI_none (f := f) (l := l) (k := k) (n := n) (.inr (.inr (.inl h3))))
        go_enter Try.func20, Try.ntmps20
        go_wp2_with (fail)
        go_ret
        exact ⟨ret_int H.out.symm, Drawn.refl _⟩
      · by_cases h4 : l ≤ k
        · have H := Lib.hid (guessI_none (f := f) (l := l) (k := k) (n := n) (.inr (.inr (.inr h4))))
          go_enter Try.func20, Try.ntmps20
          go_wp2_with (fail)
          go_ret
          exact ⟨ret_int H.out.symm, Drawn.refl _⟩
        · have H := Lib.hid (guessI_in (f := f) (l := l) (k := k) (n := n) (by omega))
          obtain ⟨g0, g1⟩ := gapI_bd (a := f) (b := k) (by omega) (by omega)
          obtain ⟨g2, g3⟩ := gapI_bd (a := f) (b := l) (by omega) (by omega)
          obtain ⟨s0, s1⟩ := share_lt (p := gapI f k) (x := gapI f l) (n := n - 1) (by omega) (by unfold gapI; rw [if_neg (by omega), if_neg (by omega)]; omega) (by omega) (by omega)
          go_enter Try.func20, Try.ntmps20
          go_wp2_with (first | (go_at_call 29; refine (refgap_any _ _ _ (by omega) (by omega) (by omega) (by omega)).mono ?_; rintro e w' ⟨rfl, rfl⟩) | (go_at_call 28; refine (refshare_any _ _ _ _ (by omega) (by omega) (by omega) (by omega) (by omega) (by omega)).mono ?_; rintro e w' ⟨rfl, rfl⟩))
          go_ret
          exact ⟨ret_int H.out.symm, Drawn.refl _⟩

set_option maxHeartbeats 1000000 in
theorem rising_any (A : Option Addr) (c B : Nat) (q : List Int) (w : World) (hq : IntsAt w B A q) (hl : q.length ≤ 140737488351232) :
    Calls Try.prog 17 #[.slice A q.length c] w fun e w' => e = .returned (.bool (rightB q)) ∧ Drawn w w' := by
  by_cases hbig : 65536 < q.length
  · have N := Lib.hid (show rightB q = false by simp [rightB]; omega)
    clear hq
    go_enter Try.func17, Try.ntmps17
    go_wp2
    go_ret
    exact ⟨ret_bool N.out.symm, Drawn.refl _⟩
  by_cases hz : q.length = 0
  · have hq0 : q = [] := List.eq_nil_of_length_eq_zero hz
    subst hq0
    have HR := Lib.hid (show rightB [] = true by rfl)
    clear hq hz
    go_enter Try.func17, Try.ntmps17
    go_wp2
    go_loop [3] (fun i => i = .int .i64 1) (fun _ => 0)
    case atStart => rfl
    case round =>
      obtain rfl := hrel
      go_wp2
      go_ret
      exact ⟨ret_bool HR.out.symm, Drawn.refl _⟩
  · obtain ⟨ad, rfl, _, hc⟩ := hq.cells (by omega)
    have HC := Lib.hid hc
    clear hc hq
    go_enter Try.func17, Try.ntmps17
    go_wp2
    go_loopw [3] (fun i wr => ∃ (k m : Nat), 1 ≤ k ∧ k ≤ q.length ∧ i = .int .i64 k ∧ ascTo q k = true ∧ wr = w.drewN m) (fun i _ => q.length - (intOf i).toNat)
    case atStart => exact ⟨1, 0, by omega, by omega, rfl, rfl, rfl⟩
    case round =>
      obtain ⟨k, m, k1, k2, rfl, ha, rfl⟩ := hrel
      have HA := Lib.hid ha
      clear ha
      by_cases hlt : k < q.length
      · have c1 := HC.out k hlt
        have c2 := HC.out (k - 1) (by omega)
        by_cases hs : keyAt q (k - 1) < keyAt q k
        · have N := Lib.hid (ascTo_step HA.out k1 hs)
          have hs' : ¬ keyAt q k ≤ keyAt q (k - 1) := by omega
          go_wp2
          go_quiet (fail)
          go_wp2
          go_roundw
          case rel => exact ⟨k + 1, _, by omega, by omega, by go_num, N.out, rfl⟩
          case measure => simp [intOf]; omega
        · have N := Lib.hid (ascTo_no k1 hs hlt)
          have hs' : keyAt q k ≤ keyAt q (k - 1) := by omega
          go_wp2
          go_quiet (fail)
          go_wp2
          go_ret
          exact ⟨ret_bool (by simp [rightB, N.out]), (Drawn.of _ _).trans (Drawn.of _ _)⟩
      · have e : k = q.length := by omega
        subst e
        have N := Lib.hid (show rightB q = true by unfold rightB asc; rw [HA.out, Bool.true_and]; exact decide_eq_true (by omega))
        go_wp2
        go_ret
        exact ⟨ret_bool N.out.symm, Drawn.of _ _⟩

theorem cntTo_step (q : List Int) (k : Int) (i : Nat) : (cntTo q k (i + 1) : Int) = cntTo q k i + if keyAt q i ≤ k then 1 else 0 := by
  rw [cntTo]; split <;> omega

set_option maxHeartbeats 1000000 in
theorem reffind_any (A : Option Addr) (c B : Nat) (q : List Int) (k : Int) (w : World) (hq : IntsAt w B A q) (hl : q.length ≤ 140737488351232) :
    Calls Try.prog 18 #[.slice A q.length c, .int .i64 k] w fun e w' => e = .returned (.int .i64 (findI q k)) ∧ Drawn w w' := by
  have HQ := Lib.hid hq
  clear hq
  by_cases hr : rightB q = true
  · have F := Lib.hid (show findI q k = (cntTo q k q.length : Int) from if_pos hr)
    go_enter Try.func18, Try.ntmps18
    go_wp2
    go_loopw [5, 6] (fun u v wr => ∃ (i m : Nat), i ≤ q.length ∧ u = .int .i64 (cntTo q k i) ∧ v = .int .i64 i ∧ wr = w.drewN m) (fun _ v _ => q.length - (intOf v).toNat)
    case atStart => exact ⟨0, 0, by omega, rfl, rfl, rfl⟩
    case round =>
      obtain ⟨i, m, i1, rfl, rfl, rfl⟩ := hrel
      have b := cntTo_le q k i
      by_cases hlt : i < q.length
      · obtain ⟨ad, rfl, _, hc⟩ := HQ.out.cells (by omega)
        have hcell := hc i hlt
        have HC := Lib.hid hc
        clear hc
        have S := Lib.hid (cntTo_step q k i)
        by_cases hs : keyAt q i ≤ k
        · go_wp2_with (go_at_call 17; refine (rising_any (some ad) c B q (w.drewN m) HQ.out hl).mono ?_; rw [hr]; rintro e w' ⟨rfl, n', rfl⟩)
          go_roundw
          case rel => exact ⟨i + 1, _, by omega, by rw [S.out, if_pos ‹_›], by go_num, rfl⟩
          case measure => simp [intOf]; omega
        · have hs' : decide (keyAt q i ≤ k) = false := decide_eq_false hs
          have N := Lib.hid hs
          clear hs
          go_wp2_with (go_at_call 17; refine (rising_any (some ad) c B q (w.drewN m) HQ.out hl).mono ?_; rw [hr]; rintro e w' ⟨rfl, n', rfl⟩)
          go_roundw
          case rel => exact ⟨i + 1, _, by omega, by rw [S.out, if_neg (by have := N.out; omega), Int.add_zero], by go_num, rfl⟩
          case measure => simp [intOf]; omega
      · have e : i = q.length := by omega
        subst e
        go_wp2_with (go_at_call 17; refine (rising_any A c B q (w.drewN m) HQ.out hl).mono ?_; rw [hr]; rintro e w' ⟨rfl, n', rfl⟩)
        go_ret
        exact ⟨ret_int F.out.symm, Drawn.of _ _⟩
  · have hr' : rightB q = false := by simpa using hr
    have F := Lib.hid (findI_none (k := k) hr')
    clear hr
    go_enter Try.func18, Try.ntmps18
    go_wp2
    go_loop [5, 6] (fun u v => u = .int .i64 0 ∧ v = .int .i64 0) (fun _ _ => 0)
    case atStart => exact ⟨rfl, rfl⟩
    case round =>
      obtain ⟨rfl, rfl⟩ := hrel
      go_wp2_with (go_at_call 17; refine (rising_any A c B q w HQ.out hl).mono ?_; rw [hr']; rintro e w' ⟨rfl, n', rfl⟩)
      go_ret
      exact ⟨ret_int F.out.symm, Drawn.of _ _⟩

set_option maxHeartbeats 1000000 in
/-- Two slices that read as one list are alike. -/
theorem ints_same (A1 A2 : Option Addr) (c1 c2 B1 B2 : Nat) (q : List Int) (w : World) (h1 : IntsAt w B1 A1 q) (h2 : IntsAt w B2 A2 q) (hl : q.length ≤ 140737488351232) :
    Calls Try.prog 14 #[.slice A1 q.length c1, .slice A2 q.length c2] w fun e w' => e = .returned (.bool true) ∧ Drawn w w' := by
  have H1 := Lib.hid h1
  have H2 := Lib.hid h2
  clear h1 h2
  go_enter Try.func14, Try.ntmps14
  go_wp2
  go_loopw [5] (fun v wr => ∃ (i m : Nat), i ≤ q.length ∧ v = .int .i64 i ∧ wr = w.drewN m) (fun v _ => q.length - (intOf v).toNat)
  case atStart => exact ⟨0, 0, by omega, rfl, rfl⟩
  case round =>
    obtain ⟨i, m, i1, rfl, rfl⟩ := hrel
    by_cases hlt : i < q.length
    · obtain ⟨ad, rfl, _, hc⟩ := H1.out.cells (by omega)
      have hcell := hc i hlt
      clear hc
      obtain ⟨ad2, rfl, _, hc⟩ := H2.out.cells (by omega)
      have hcell2 := hc i hlt
      clear hc
      go_wp2
      go_quiet (fail)
      go_wp2
      go_roundw
      case rel => exact ⟨i + 1, _, by omega, by go_num, rfl⟩
      case measure => simp [intOf]; omega
    · go_wp2
      go_ret
      exact ⟨rfl, Drawn.of _ _⟩
end Go.Proofs.Ytelmehlabgnllaa
