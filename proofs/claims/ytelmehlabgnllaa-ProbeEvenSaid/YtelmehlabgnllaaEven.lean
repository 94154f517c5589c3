/- The walk of ProbeEven. -/
import Derived.Test.YtelmehlabgnllaaKeys
namespace Go.Proofs.Ytelmehlabgnllaa
set_option linter.unusedVariables false
set_option linter.unusedSimpArgs false
open Go.RowKit

def evenTo (a s : Int) : Nat → List Int
  | 0 => []
  | k + 1 => evenTo a s k ++ [a + (k : Int) * s]
theorem evenTo_len (a s : Int) : ∀ k, (evenTo a s k).length = k
  | 0 => rfl
  | k + 1 => by simp [evenTo, evenTo_len a s k]
theorem evenTo_at (a s : Int) : ∀ {k i : Nat}, i < k → keyAt (evenTo a s k) i = a + (i : Int) * s
  | 0, i, h => absurd h (by omega)
  | k + 1, i, h => by
    by_cases e : i = k
    · subst e
      have := keyAt_append_at (a := evenTo a s i) (x := a + (i : Int) * s)
      rw [evenTo_len] at this
      exact this
    · rw [evenTo, keyAt_append_lt (by rw [evenTo_len]; omega), evenTo_at a s (by omega)]
theorem mul_step {s : Int} {i : Nat} (h : 1 ≤ i) : (i : Int) * s = ((i - 1 : Nat) : Int) * s + s := by
  have : (i : Int) = ((i - 1 : Nat) : Int) + 1 := by omega
  rw [this, Int.add_mul, Int.one_mul]
theorem mul_mono {s : Int} (hs : 1 ≤ s) {i j : Nat} (h : i ≤ j) : (i : Int) * s ≤ (j : Int) * s := Int.mul_le_mul_of_nonneg_right (by omega) (by omega)
theorem even_right {a s : Int} (hs : 1 ≤ s) {n : Nat} (hn : n ≤ 300) : rightB (evenTo a s n) = true := by
  refine rightB_of (by rw [evenTo_len]; omega) (fun i h1 h2 => ?_)
  rw [evenTo_len] at h2
  rw [evenTo_at a s (by omega), evenTo_at a s h2]
  have := mul_step (s := s) h1
  omega
theorem even_find_first {a s : Int} (hs : 1 ≤ s) {n : Nat} (hn : n ≤ 300) (h0 : 0 < n) : findI (evenTo a s n) a = 1 := by
  refine findI_at (even_right hs hn) (i := 1) (by rw [evenTo_len]; omega) (fun j h => ?_) (fun j h1 h2 => ?_)
  · have : j = 0 := by omega
    subst this
    rw [evenTo_at a s h0]; simp
  · rw [evenTo_len] at h2
    rw [evenTo_at a s h2]
    have := mul_mono hs h1
    omega
theorem even_find_none {a s : Int} (hs : 1 ≤ s) {n : Nat} (hn : n ≤ 300) : findI (evenTo a s n) (a - 1) = 0 := by
  refine findI_at (even_right hs hn) (i := 0) (by omega) (fun j h => absurd h (by omega)) (fun j h1 h2 => ?_)
  rw [evenTo_len] at h2
  rw [evenTo_at a s h2]
  have := mul_mono hs h1
  omega
theorem even_find_all {a s : Int} (hs : 1 ≤ s) {n : Nat} (hn : n ≤ 300) : findI (evenTo a s n) (a + s * n) = n := by
  have l := evenTo_len a s n
  refine findI_at (even_right hs hn) (i := n) (by omega) (fun j h => ?_) (fun j h1 h2 => absurd h2 (by omega))
  rw [evenTo_at a s h]
  have := mul_mono hs (show j ≤ n by omega)
  rw [Int.mul_comm s n]
  omega
theorem even_path {a s : Int} (hs : 1 ≤ s) {n : Nat} (hn : n ≤ 300) (k : Int) : (pathI (evenTo a s n) k).length ≤ 4 := by
  have l := evenTo_len a s n
  unfold pathI
  split
  · simp
  rename_i h0
  split
  · simp
  rename_i h1
  split
  · simp
  rename_i h2
  have hn1 : 2 ≤ n := by omega
  rw [l, evenTo_at a s (by omega)] at h2
  rw [evenTo_at a s (by omega)] at h1
  simp only [Int.natCast_zero, Int.zero_mul, Int.add_zero] at h1
  have e1 := mul_step (s := s) (show 1 ≤ n by omega)
  -- the guess is right at once
  have hj : jI (evenTo a s n) k = 1 + (k - a) / s := by
    unfold jI
    rw [l, evenTo_at a s (by omega), evenTo_at a s (by omega)]
    simp only [Int.natCast_zero, Int.zero_mul, Int.add_zero]
    rw [guessI_in (by omega)]
    have g1 : gapI a k = k - a := by unfold gapI; rw [if_neg (by omega)]
    have g2 : gapI a (a + ((n - 1 : Nat) : Int) * s) = ((n : Int) - 1) * s := by
      have : ((n - 1 : Nat) : Int) = (n : Int) - 1 := by omega
      unfold gapI; rw [if_neg (by omega), this]; omega
    have e2 : ((n - 1 : Nat) : Int) * s = ((n : Int) - 1) * s := by
      have : ((n - 1 : Nat) : Int) = (n : Int) - 1 := by omega
      rw [this]
    rw [e2] at h2
    rw [g1, g2]
    have x0 : 0 < ((n : Int) - 1) * s := by omega
    unfold shareI lesI
    rw [if_neg (by omega), if_neg (by omega), Int.mul_comm ((n : Int) - 1) s, Int.mul_ediv_mul_of_pos_left _ _ (by omega)]
  have d0 : 0 ≤ (k - a) / s := Int.ediv_nonneg (by omega) (by omega)
  have d1 : (k - a) / s < ((n - 1 : Nat) : Int) := Int.ediv_lt_of_lt_mul (by omega) (by omega)
  obtain ⟨d, hd⟩ : ∃ d : Nat, (k - a) / s = d := ⟨((k - a) / s).toNat, by omega⟩
  have m0 := Int.mul_ediv_add_emod (k - a) s
  have m1 := Int.emod_nonneg (k - a) (show s ≠ 0 by omega)
  have m2 := Int.emod_lt_of_pos (k - a) (show 0 < s by omega)
  rw [hd] at hj d1 m0
  have ej : (jI (evenTo a s n) k).toNat = d + 1 := by rw [hj]; omega
  rw [ej]
  have e3 : d + 1 - 1 = d := by omega
  rw [e3, evenTo_at a s (by omega), if_pos (by rw [Int.mul_comm]; omega)]
  have up : (upP (evenTo a s n) k (evenTo a s n).length (d + 1 + 1)).length ≤ 1 := by
    rw [l]
    obtain ⟨m, rfl⟩ : ∃ m, n = m + 1 := ⟨n - 1, by omega⟩
    rw [upP]
    split
    · rename_i hlt
      rw [l] at hlt
      have e4 : d + 1 + 1 - 1 = d + 1 := by omega
      rw [e4, evenTo_at a s (by omega), if_pos]
      · simp
      · have := mul_step (s := s) (show 1 ≤ d + 1 by omega)
        have e5 : d + 1 - 1 = d := by omega
        rw [e5] at this
        rw [this, Int.mul_comm (d : Int) s]; omega
    · simp
  have b : (baseP (evenTo a s n) k).length ≤ 3 := by
    unfold baseP
    split <;> simp
  rw [List.length_append]
  omega

def EvenRel (a s : Int) (n : Nat) (w : World) (v i : Value) (wr : World) : Prop := ∃ k : Nat, k ≤ n ∧ i = .int .i64 k ∧ wr.ownsRow w.heap.size 2 1 v k ((evenTo a s k).map (Value.int .i64)) ∧ Below w.heap.size w wr

set_option maxHeartbeats 4000000 in
set_option maxRecDepth 100000 in
theorem probeEven_walk (a0 a1 a2 a3 : Int) (w0 : (Lit.int .i64 a0).wf = true) (w1 : (Lit.int .i64 a1).wf = true) (w2 : (Lit.int .i64 a2).wf = true) (w3 : (Lit.int .i64 a3).wf = true) (w : World) :
    Calls Try.prog 8 #[.int .i64 a0, .int .i64 a1, .int .i64 a2, .int .i64 a3] w fun e w' => e = .returned (.bool true) ∧ Below w.heap.size w w' := by
  obtain ⟨i0, hi0, hz0, hz1, hz2⟩ := info_parts info_int64
  obtain ⟨l0, u0⟩ := Go.bounds_i64 w0
  obtain ⟨l1, u1⟩ := Go.bounds_i64 w1
  obtain ⟨l2, u2⟩ := Go.bounds_i64 w2
  obtain ⟨l3, u3⟩ := Go.bounds_i64 w3
  obtain ⟨x0, y0⟩ := cut_bd a0 2000000 (by omega)
  obtain ⟨x1, y1⟩ := cut_bd a1 100000 (by omega)
  obtain ⟨x2, y2⟩ := cut_bd a2 300 (by omega)
  obtain ⟨x3, y3⟩ := cut_bd a3 1099511627776 (by omega)
  obtain ⟨a, ha⟩ : ∃ a, a0 % 2000000 - 1000000 = a := ⟨_, rfl⟩
  obtain ⟨s, hs⟩ : ∃ s, 1 + a1 % 100000 = s := ⟨_, rfl⟩
  obtain ⟨n, hn⟩ : ∃ n : Nat, a2 % 300 = n := ⟨(a2 % 300).toNat, by omega⟩
  obtain ⟨z, hz⟩ : ∃ z, a3 % 1099511627776 = z := ⟨_, rfl⟩
  rw [hz] at x3 y3
  have s1 : 1 ≤ s := by omega
  have s2 : s ≤ 100000 := by omega
  have n2 : n ≤ 300 := by omega
  have a1b : -1000000 ≤ a := by omega
  have a2b : a ≤ 1000000 := by omega
  have HR := Lib.hid (even_right (a := a) s1 n2)
  have HP := Lib.hid (fun k => even_path (a := a) s1 n2 k)
  have HL := Lib.hid (evenTo_len a s n)
  have hB0 := Below.refl w.heap.size w
  go_enter Try.func8, Try.ntmps8
  go_wp2_with (go_at_call 22; refine (cut_any _ _ _ (by omega) (by omega) (by omega) (by omega)).mono ?_; rintro e w' ⟨rfl, rfl⟩)
  go_loopw [11, 12] (fun v i wr => EvenRel a s n w v i wr) (fun _ i _ => n - (intOf i).toNat)
  case atStart => unfold EvenRel; exact ⟨0, by omega, rfl, World.ownsRow_nil _ _ _ _, Below.refl _ _⟩
  case round =>
    obtain ⟨k, k1, rfl, hown, hB⟩ := hrel
    by_cases hlt : k < n
    · have p0 : 0 ≤ (k : Int) * s := Int.mul_nonneg (by omega) (by omega)
      have p1 : (k : Int) * s ≤ 300 * 100000 := Int.mul_le_mul (by omega) s2 (by omega) (by omega)
      go_wp2_with (at_builtin; refine wpList_append_own _ rfl _ _ 22 rfl w.heap.size 2 i0 (.int .i64 0) 1 8 Try.underlying22 hi0 hz0 hz1 hz2 rfl (by decide) _ _ _ rfl (hown.alloc _) ⟨wr.heap.size, 0, none⟩ 1 1 [.int .i64 (a + (k : Int) * s)] rfl rfl (cell_one_new _ _ _) (by simp [Value.oneCell']) (by simp only [maxLen]; omega) (by omega) (by have := hB.size; simp; omega) ?_; intro v' w1 hown' hgrow _; have hB1 : Below w.heap.size w w1 := (hB.alloc hB.size _).grown hgrow (by have := hB.size; simp; omega) (fun g hg => (hown.lt g hg).1))
      go_roundw
      case rel => unfold EvenRel; exact ⟨k + 1, by omega, by go_num, by rw [evenTo]; simpa using hown', hB1⟩
      case measure => simp [intOf]; omega
    · have e : k = n := by omega
      subst e
      have p0 : 0 ≤ s * (k : Int) := Int.mul_nonneg (by omega) (by omega)
      have p1 : s * (k : Int) ≤ 100000 * 300 := Int.mul_le_mul s2 (by omega) (by omega) (by omega)
      obtain ⟨m, hm⟩ : ∃ m, s * (k : Int) + 10 = m := ⟨_, rfl⟩
      have m0 : 10 ≤ m := by omega
      have m1 : m ≤ 30000010 := by omega
      have r0 := Int.emod_nonneg z (show m ≠ 0 by omega)
      have r1 := Int.emod_lt_of_pos z (show 0 < m by omega)
      have hw5 : ∀ i, i < (evenTo a s k).length → -9223372036854775808 ≤ keyAt (evenTo a s k) i ∧ keyAt (evenTo a s k) i ≤ 9223372036854775807 := fun i hi => by
        rw [HL.out] at hi
        rw [evenTo_at a s hi]
        have p0 : 0 ≤ (i : Int) * s := Int.mul_nonneg (by omega) (by omega)
        have p1 : (i : Int) * s ≤ 300 * 100000 := Int.mul_le_mul (by omega) s2 (by omega) (by omega)
        omega
      have HW := Lib.hid hw5
      clear hw5 hlt
      have hl300 : (evenTo a s k).length = k := HL.out
      have hle : (evenTo a s k).length ≤ 140737488351232 := by omega
      have HLE := Lib.hid hle
      clear hl300 hle
      obtain ⟨A1, c1, hv, h1, hBB⟩ := SomeInts.of_own hown hB
      have hv2 := (Ending.returned.inj hv)
      clear hv hBB
      subst hv2
      have hB1 := hB
      clear hown hB
      go_wp2_with (go_at_call 22; refine (cut_any _ _ _ (by omega) (by omega) (by omega) (by omega)).mono ?_; rintro e w' ⟨rfl, rfl⟩)
      refine (known6_any _).mono ?_
      rintro e V2 ⟨rfl, hb⟩
      have h2 := h1.called hb
      have hB2 := below_called hB1 hb
      clear h1 hb hB1
      obtain ⟨x, hx⟩ : ∃ x, a - 5 + z % m = x := ⟨_, rfl⟩
      have x4 : -9223372036854775808 ≤ x := by omega
      have x5 : x ≤ 9223372036854775807 := by omega
      have hp4 : (pathI (evenTo a s k) x).length ≤ 4 := HP.out x
      have hp5 : ((pathI (evenTo a s k) x).length : Int) ≤ 4 := by omega
      by_cases hk : k = 0
      · have hk' : ((k : Int) == 0) = true := by rw [hk]; rfl
        clear hk
        go_wp2_with (fail)
        refine (path_any A1 c1 (evenTo a s k) x V2 ?hq HLE.out x4 x5 HW.out).mono ?_
        case hq => exact h2
        rintro e V3 ⟨A2, c2, rfl, hp, hb⟩
        have hB3 := below_called hB2 hb
        clear h2 hp hb hB2
        go_wp2_with (fail)
        go_ret
        exact ⟨rfl, hB3⟩
      · have hk' : ((k : Int) == 0) = false := by simpa using hk
        have f1 := Lib.hid (even_find_first (a := a) s1 n2 (by omega))
        have f2 := Lib.hid (even_find_none (a := a) s1 n2)
        have f3 := Lib.hid (even_find_all (a := a) s1 n2)
        clear hk
        go_wp2_with (fail)
        refine (path_any A1 c1 (evenTo a s k) x V2 ?hq HLE.out x4 x5 HW.out).mono ?_
        case hq => exact h2
        rintro e V3 ⟨A2, c2, rfl, hp, hb⟩
        have h3 := h2.called hb
        have hB3 := below_called hB2 hb
        clear h2 hp hb hB2
        go_wp2_with (fail)
        refine (find_any A1 c1 (evenTo a s k) (a) V3 ?hq HLE.out).mono ?_
        case hq => exact h3
        rw [f1.out]
        rintro e V4 ⟨rfl, hb⟩
        have h4 := h3.called hb
        have hB4 := below_called hB3 hb
        clear h3 hb hB3
        go_wp2_with (fail)
        refine (find_any A1 c1 (evenTo a s k) (a - 1) V4 ?hq HLE.out).mono ?_
        case hq => exact h4
        rw [f2.out]
        rintro e V5 ⟨rfl, hb⟩
        have h5 := h4.called hb
        have hB5 := below_called hB4 hb
        clear h4 hb hB4
        go_wp2_with (fail)
        refine (find_any A1 c1 (evenTo a s k) (a + s * k) V5 ?hq HLE.out).mono ?_
        case hq => exact h5
        rw [f3.out]
        rintro e V6 ⟨rfl, hb⟩
        have h6 := h5.called hb
        have hB6 := below_called hB5 hb
        clear h5 hb hB5
        go_wp2_with (fail)
        go_ret
        exact ⟨rfl, hB6⟩
end Go.Proofs.Ytelmehlabgnllaa
