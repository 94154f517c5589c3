/- The walk of span.Root. -/
import Derived.Test.YtblajeildolloaaSpan
namespace Go.Proofs.Ytblajeildolloaa
set_option linter.unusedVariables false
set_option linter.unusedSimpArgs false
open Go.RowKit

/-- One digit of the root: q * 2^(b+1) and the digit b. -/
theorem or_bit (q b : Nat) (hr : q * 2 ^ (b + 1) < 2 ^ 32) (hb : b < 32) :
    bits .or .i64 ((q * 2 ^ (b + 1) : Nat) : Int) ((2 ^ b : Nat) : Int) = ((q * 2 ^ (b + 1) + 2 ^ b : Nat) : Int) := by
  have h2 : 2 ^ b < 2 ^ 32 := Nat.pow_lt_pow_right (by decide) hb
  have e1 : (BitVec.ofInt 64 ((q * 2 ^ (b + 1) : Nat) : Int)).toNat = q * 2 ^ (b + 1) := by
    rw [BitVec.ofInt_natCast, BitVec.toNat_ofNat]; exact Nat.mod_eq_of_lt (by omega)
  have e2 : (BitVec.ofInt 64 ((2 ^ b : Nat) : Int)).toNat = 2 ^ b := by
    rw [BitVec.ofInt_natCast, BitVec.toNat_ofNat]; exact Nat.mod_eq_of_lt (by omega)
  have e3 : q * 2 ^ (b + 1) ||| 2 ^ b = q * 2 ^ (b + 1) + 2 ^ b := by
    rw [Nat.mul_comm]
    exact (Nat.two_pow_add_eq_or_of_lt (Nat.pow_lt_pow_right (by decide) (Nat.lt_succ_self b)) q).symm
  show IntKind.i64.wrap ((BitVec.ofInt 64 ((q * 2 ^ (b + 1) : Nat) : Int) ||| BitVec.ofInt 64 ((2 ^ b : Nat) : Int)).toNat : Int) = _
  rw [BitVec.toNat_or, e1, e2, e3]
  exact IntWalk.i64_in _ (by omega)

/-- What is known of the root when b digits are still to come: r = q * 2^b, r² ≤ n < (r + 2^b)². -/
def RootAt (n : Int) (b : Nat) (r : Int) : Prop := (∃ q : Nat, r = ((q * 2 ^ b : Nat) : Int)) ∧ r * r ≤ n ∧ n < (r + 2 ^ b) * (r + 2 ^ b) ∧ r < 2 ^ 32

theorem RootAt.start {n : Int} (h0 : 0 < n) (h1 : n ≤ 9223372036854775807) {b : Nat} (hb : (b : Int) = bitsI n / 2 + 1) : RootAt n b 0 := by
  refine ⟨⟨0, by simp⟩, by omega, ?_, by decide⟩
  obtain ⟨_, s2⟩ := bitLen_lt (x := n.toNat) (by omega) (by omega)
  unfold bitsI at hb
  have e : Go.Lib.bitLen n.toNat ≤ 2 * b := by omega
  have p := Nat.pow_le_pow_right (n := 2) (by decide) e
  have q : (2 : Nat) ^ (2 * b) = 2 ^ b * 2 ^ b := by rw [Nat.two_mul, Nat.pow_add]
  have r : n.toNat < 2 ^ b * 2 ^ b := by omega
  have t : ((n.toNat : Nat) : Int) < ((2 ^ b * 2 ^ b : Nat) : Int) := by exact_mod_cast r
  rw [Int.natCast_mul, Int.natCast_pow] at t
  simp only [Int.zero_add]
  have : ((2 : Nat) : Int) = 2 := rfl
  rw [this] at t
  omega

theorem RootAt.pow {n r : Int} {j : Nat} (h : RootAt n (j + 1) r) (_ : j < 32) : bits .or .i64 r (2 ^ j) = r + 2 ^ j := by
  obtain ⟨⟨q, rfl⟩, _, _, h⟩ := h
  have hq : q * 2 ^ (j + 1) < 2 ^ 32 := by exact_mod_cast h
  have e : ((2 ^ j : Nat) : Int) = 2 ^ j := by rw [Int.natCast_pow]; rfl
  rw [← e, or_bit q j hq ‹_›, Int.natCast_add]

theorem RootAt.nonneg {n r : Int} {b : Nat} (h : RootAt n b r) : 0 ≤ r := by
  obtain ⟨⟨q, rfl⟩, _⟩ := h
  exact Int.natCast_nonneg _

theorem pow_pos' (j : Nat) : (0 : Int) < 2 ^ j := Int.pow_pos (by decide)
theorem pow_le' {j : Nat} (h : j < 32) : (2 : Int) ^ j ≤ 2147483648 := by
  have : (2 : Nat) ^ j ≤ 2 ^ 31 := Nat.pow_le_pow_right (by decide) (by omega)
  have t : ((2 ^ j : Nat) : Int) ≤ ((2 ^ 31 : Nat) : Int) := by exact_mod_cast this
  rw [Int.natCast_pow] at t
  exact t

theorem RootAt.yes {n r : Int} {j : Nat} (h : RootAt n (j + 1) r) (hn : 0 ≤ n) (h1 : n ≤ 9223372036854775807) (c : r + 2 ^ j ≤ n / (r + 2 ^ j)) : RootAt n j (r + 2 ^ j) := by
  have h0 := h.nonneg
  have hp := pow_pos' j
  obtain ⟨⟨q, hq⟩, a, b, d⟩ := h
  have m : (r + 2 ^ j) * (r + 2 ^ j) ≤ n := by
    have := (Int.le_ediv_iff_mul_le (show 0 < r + 2 ^ j by omega)).1 c
    exact this
  refine ⟨⟨2 * q + 1, ?_⟩, m, ?_, ?_⟩
  · rw [hq, Nat.pow_succ]
    have : (2 * q + 1) * 2 ^ j = q * (2 ^ j * 2) + 2 ^ j := by rw [Nat.add_mul, Nat.one_mul, Nat.mul_comm (2 ^ j) 2, ← Nat.mul_assoc, Nat.mul_comm q 2]
    rw [this, Int.natCast_add, Int.natCast_pow]; rfl
  · have e : r + 2 ^ (j + 1) = r + 2 ^ j + 2 ^ j := by rw [Int.pow_succ]; omega
    rw [e] at b
    exact b
  · rcases Int.lt_or_le (r + 2 ^ j) (2 ^ 32) with g | g
    · exact g
    · have := Int.mul_le_mul g g (by decide) (by omega)
      omega

theorem RootAt.no {n r : Int} {j : Nat} (h : RootAt n (j + 1) r) (c : ¬ r + 2 ^ j ≤ n / (r + 2 ^ j)) : RootAt n j r := by
  have h0 := h.nonneg
  have hp := pow_pos' j
  obtain ⟨⟨q, hq⟩, a, b, d⟩ := h
  refine ⟨⟨2 * q, ?_⟩, a, ?_, d⟩
  · rw [hq, Nat.pow_succ]
    have : 2 * q * 2 ^ j = q * (2 ^ j * 2) := by rw [Nat.mul_comm (2 ^ j) 2, ← Nat.mul_assoc, Nat.mul_comm q 2]
    rw [this]
  · rcases Int.lt_or_le n ((r + 2 ^ j) * (r + 2 ^ j)) with g | g
    · exact g
    · exact absurd ((Int.le_ediv_iff_mul_le (show 0 < r + 2 ^ j by omega)).2 g) c

theorem RootAt.end_ {n r : Int} (h : RootAt n 0 r) : rootI n = r := by
  have h0 := h.nonneg
  obtain ⟨_, a, b, _⟩ := h
  exact rootI_unique h0 a (by simpa using b)

set_option maxHeartbeats 1000000 in
theorem root_any (n : Int) (w : World) (h1 : n ≤ 9223372036854775807) :
    Calls Try.prog 39 #[.int .i64 n] w fun e w' => e = .returned (.int .i64 (rootI n)) ∧ w = w' := by
  have hb0 := bitsI_nonneg n
  have hb1 := bitsI_le h1
  by_cases hn : 0 < n
  · go_enter Try.func39, Try.ntmps39
    go_wp2_with (go_at_call 56; refine (bits_any _ _ (by omega)).mono ?_; rintro e w' ⟨rfl, rfl⟩)
    go_loop [3, 4] (fun r t => ∃ (b : Nat) (x : Int), b ≤ 32 ∧ r = .int .i64 x ∧ t = .int .i64 ((b : Int) - 1) ∧ RootAt n b x) (fun _ t => (intOf t + 1).toNat)
    case atStart => exact ⟨(bitsI n / 2 + 1).toNat, 0, by omega, rfl, by congr 1; omega, RootAt.start hn h1 (by omega)⟩
    case round =>
      obtain ⟨b, r, hb, rfl, rfl, H0⟩ := hrel
      rcases b with _ | j
      · have H := Lib.hid H0.end_
        clear H0
        go_wp2
        go_ret
        exact ⟨ret_int H.out.symm, rfl⟩
      · have hj : j < 32 := by omega
        have E := H0.pow hj
        have p0 := pow_pos' j
        have p1 := pow_le' hj
        have r0 := H0.nonneg
        have r1 : r < 4294967296 := H0.2.2.2
        have H := Lib.hid H0
        clear H0
        by_cases c : r + 2 ^ j ≤ n / (r + 2 ^ j)
        · go_wp2
          go_round
          case rel => exact ⟨j, _, by omega, rfl, by go_num, H.out.yes (by omega) h1 c⟩
          case measure => simp [intOf]
        · go_wp2
          go_round
          case rel => exact ⟨j, _, by omega, rfl, by go_num, H.out.no c⟩
          case measure => simp [intOf]
  · have H := Lib.hid (rootI_low (n := n) (by omega))
    go_enter Try.func39, Try.ntmps39
    go_wp2_with (go_at_call 56; refine (bits_any _ _ (by omega)).mono ?_; rintro e w' ⟨rfl, rfl⟩)
    go_loop [3, 4] (fun r t => ∃ (b : Nat), b ≤ 32 ∧ r = .int .i64 0 ∧ t = .int .i64 ((b : Int) - 1)) (fun _ t => (intOf t + 1).toNat)
    case atStart => exact ⟨(bitsI n / 2 + 1).toNat, by omega, rfl, by congr 1; omega⟩
    case round =>
      obtain ⟨b, hb, rfl, rfl⟩ := hrel
      rcases b with _ | j
      · go_wp2
        go_ret
        exact ⟨ret_int H.out.symm, rfl⟩
      · have hj : j < 32 := by omega
        have p0 := pow_pos' j
        have p1 := pow_le' hj
        go_wp2
        go_round
        case rel => exact ⟨j, by omega, rfl, by go_num⟩
        case measure => simp [intOf]

end Go.Proofs.Ytblajeildolloaa
