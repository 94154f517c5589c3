/- The walk of math/bits.Div64, where the quotient is below 2^32 (span.Share asks no more). -/
import Derived.Test.YtblajeildolloaaMul
import Derived.Deep.QuietTactic
import Derived.BigQuiet
namespace Go.Proofs.Ytblajeildolloaa
set_option linter.unusedVariables false
set_option linter.unusedSimpArgs false
open Go.RowKit

theorem powI (s : Nat) : (2 : Int) ^ s = ((2 ^ s : Nat) : Int) := by rw [Int.natCast_pow]; rfl

theorem or_low (h l s : Nat) (hl : l < 2 ^ s) (hh : h * 2 ^ s < 18446744073709551616) (h2 : l < 18446744073709551616) (h3 : h * 2 ^ s + l < 18446744073709551616) : bits .or .u64 ((h * 2 ^ s : Nat) : Int) (l : Int) = ((h * 2 ^ s + l : Nat) : Int) := by
  rw [bits_or_u64_nat _ _ hh h2, Nat.mul_comm h, Nat.two_pow_add_eq_or_of_lt hl]
theorem and_mask (a : Int) (h0 : 0 ≤ a) (h1 : a < 18446744073709551616) : bits .and .u64 a 4294967295 = a % 4294967296 := by
  obtain ⟨n, rfl⟩ := Int.eq_ofNat_of_zero_le h0
  rw [Mul64.maskN n (by omega)]
  omega

/-- What Div64 works with: y shifted up till its highest bit is set, and the dividend with it. -/
structure DivSet (hi lo y : Int) (s : Nat) (yn yn1 yn0 a b un32 un10 un1 un0 : Int) : Prop where
  e1 : y * 2 ^ s = yn
  e2 : yn / 4294967296 = yn1
  e3 : bits .and .u64 yn 4294967295 = yn0
  e4 : hi * 2 ^ s = a
  e5 : lo / 2 ^ (64 - s) = b
  e6 : bits .or .u64 a b = un32
  e7 : IntKind.u64.wrap (lo * 2 ^ s) = un10
  e8 : un10 / 4294967296 = un1
  e9 : bits .and .u64 un10 4294967295 = un0
  y0 : 0 ≤ yn
  y1 : yn < 18446744073709551616
  y2 : yn = yn1 * 4294967296 + yn0
  y3 : 2147483648 ≤ yn1
  y4 : yn1 < 4294967296
  y5 : 0 ≤ yn0
  y6 : yn0 < 4294967296
  a0 : 0 ≤ a
  a1 : a < 18446744073709551616
  b0 : 0 ≤ b
  b1 : b < 18446744073709551616
  u0 : 0 ≤ un32
  u1 : 0 ≤ un1
  u2 : un1 < 4294967296
  u3 : 0 ≤ un0
  u4 : un0 < 4294967296
  u5 : un32 * 4294967296 + un1 < yn
  u6 : 0 ≤ un10
  u7 : un10 < 18446744073709551616
  same : (hi * 18446744073709551616 + lo) / y = ((un32 * 4294967296 + un1) * 4294967296 + un0) / yn

theorem div_set (hi lo y : Int) (s : Nat) (hs : Lib.bitLen y.toNat + s = 64) (h0 : 0 < hi) (h1 : hi < y) (hy : y < 18446744073709551616) (l0 : 0 ≤ lo) (l1 : lo < 18446744073709551616)
    (hq : hi * 18446744073709551616 + lo < y * 4294967296) : ∃ yn yn1 yn0 a b un32 un10 un1 un0 : Int, DivSet hi lo y s yn yn1 yn0 a b un32 un10 un1 un0 := by
  obtain ⟨b1, b2⟩ := bitLen_lt (x := y.toNat) (by omega) (by omega)
  have bp := bitLen_pos (x := y.toNat) (by omega) (by omega)
  have hs1 : s ≤ 63 := by omega
  have P0 : (0 : Int) < 2 ^ s := pow_pos2 s
  have R0 : (0 : Int) < 2 ^ (64 - s) := pow_pos2 _
  have PR : (2 : Int) ^ s * 2 ^ (64 - s) = 18446744073709551616 := by
    rw [← Int.pow_add, show s + (64 - s) = 64 by omega]; decide
  -- y in its place
  have yl : 9223372036854775808 ≤ y * 2 ^ s := by
    have : 2 ^ (Lib.bitLen y.toNat - 1) * 2 ^ s ≤ y.toNat * 2 ^ s := Nat.mul_le_mul_right _ b1
    rw [← Nat.pow_add, show Lib.bitLen y.toNat - 1 + s = 63 by omega] at this
    have t : ((2 ^ 63 : Nat) : Int) ≤ ((y.toNat * 2 ^ s : Nat) : Int) := by exact_mod_cast this
    rw [Int.natCast_mul, ← powI, show ((y.toNat : Nat) : Int) = y by omega] at t
    exact t
  have yu : y * 2 ^ s < 18446744073709551616 := by
    have : y.toNat * 2 ^ s < 2 ^ Lib.bitLen y.toNat * 2 ^ s := Nat.mul_lt_mul_of_pos_right b2 (Nat.two_pow_pos s)
    rw [← Nat.pow_add, hs] at this
    have t : ((y.toNat * 2 ^ s : Nat) : Int) < ((2 ^ 64 : Nat) : Int) := by exact_mod_cast this
    rw [Int.natCast_mul, ← powI, show ((y.toNat : Nat) : Int) = y by omega] at t
    exact t
  -- hi and lo
  have hl : hi * 2 ^ s < y * 2 ^ s := Int.mul_lt_mul_of_pos_right h1 P0
  have h00 : 0 ≤ hi * 2 ^ s := Int.mul_nonneg (by omega) (by omega)
  have lb0 : 0 ≤ lo / 2 ^ (64 - s) := Int.ediv_nonneg l0 (by omega)
  have lb1 : lo / 2 ^ (64 - s) < 2 ^ s := Int.ediv_lt_of_lt_mul R0 (by rw [PR]; exact l1)
  have Pb : (2 : Int) ^ s ≤ 9223372036854775808 := by
    have : (2 : Nat) ^ s ≤ 9223372036854775808 := Nat.pow_le_pow_right (n := 2) (by decide) hs1
    rw [powI]; omega
  have lm0 := Int.emod_nonneg lo (show (2 : Int) ^ (64 - s) ≠ 0 by omega)
  have lm1 := Int.emod_lt_of_pos lo R0
  have le := Int.mul_ediv_add_emod lo (2 ^ (64 - s))
  have lP : lo * 2 ^ s = 18446744073709551616 * (lo / 2 ^ (64 - s)) + (lo % 2 ^ (64 - s)) * 2 ^ s := by
    have : lo * 2 ^ s = (2 ^ (64 - s) * (lo / 2 ^ (64 - s)) + lo % 2 ^ (64 - s)) * 2 ^ s := by rw [le]
    rw [this, Int.add_mul, ← PR, Int.mul_comm (2 ^ (64 - s)) (lo / 2 ^ (64 - s)), Int.mul_assoc, Int.mul_comm (2 ^ (64 - s)) (2 ^ s), Int.mul_comm (lo / 2 ^ (64 - s))]
  have m0 : 0 ≤ (lo % 2 ^ (64 - s)) * 2 ^ s := Int.mul_nonneg lm0 (by omega)
  have m1 : (lo % 2 ^ (64 - s)) * 2 ^ s < 18446744073709551616 := by
    have := Int.mul_lt_mul_of_pos_right lm1 P0
    rw [Int.mul_comm (2 ^ (64 - s)), PR] at this
    exact this
  have w10 : IntKind.u64.wrap (lo * 2 ^ s) = (lo % 2 ^ (64 - s)) * 2 ^ s := by
    rw [IntKind.wrap_u64, lP, Int.mul_add_emod_self_left]
    exact Int.emod_eq_of_lt m0 m1
  have ho : hi * 2 ^ s + lo / 2 ^ (64 - s) < 18446744073709551616 := by
    have : hi * 2 ^ s + 2 ^ s ≤ y * 2 ^ s := by
      have := Int.mul_le_mul_of_nonneg_right (show hi + 1 ≤ y by omega) (show (0 : Int) ≤ 2 ^ s by omega)
      rw [Int.add_mul, Int.one_mul] at this; exact this
    omega
  have or1 : bits .or .u64 (hi * 2 ^ s) (lo / 2 ^ (64 - s)) = hi * 2 ^ s + lo / 2 ^ (64 - s) := by
    obtain ⟨h, rfl⟩ := Int.eq_ofNat_of_zero_le (show 0 ≤ hi by omega)
    obtain ⟨l, el⟩ := Int.eq_ofNat_of_zero_le lb0
    rw [el] at lb1 ho ⊢
    rw [powI] at lb1 ho h00 hl ⊢
    rw [← Int.natCast_mul] at ho ⊢
    have q1 : l < 2 ^ s := by exact_mod_cast lb1
    rw [or_low h l s q1 (by omega) (by omega) (by omega), Int.natCast_add]
  refine ⟨_, _, _, _, _, _, _, _, _, ⟨rfl, rfl, rfl, rfl, rfl, rfl, rfl, rfl, rfl, by omega, yu, ?_, by omega, by omega, ?_, ?_, h00, by omega, lb0, by omega, ?_, ?_, ?_, ?_, ?_, ?_, ?_, ?_, ?_⟩⟩
  · rw [and_mask _ (by omega) yu]; omega
  · rw [and_mask _ (by omega) yu]; omega
  · rw [and_mask _ (by omega) yu]; omega
  · rw [or1]; omega
  · rw [w10]; omega
  · rw [w10]; omega
  · rw [w10, and_mask _ m0 m1]; omega
  · rw [w10, and_mask _ m0 m1]; omega
  · rw [or1, w10]
    have t : (hi * 18446744073709551616 + lo) * 2 ^ s < y * 4294967296 * 2 ^ s := Int.mul_lt_mul_of_pos_right hq P0
    rw [Int.add_mul, lP, Int.mul_right_comm hi, Int.mul_right_comm y] at t
    generalize lo / 2 ^ (64 - s) = b at *
    generalize lo % 2 ^ (64 - s) * 2 ^ s = c at *
    generalize hi * 2 ^ s = h at *
    generalize y * 2 ^ s = yy at *
    omega
  · rw [w10]; exact m0
  · rw [w10]; exact m1
  · rw [or1, w10, and_mask _ m0 m1]
    have e : ((hi * 2 ^ s + lo / 2 ^ (64 - s)) * 4294967296 + lo % 2 ^ (64 - s) * 2 ^ s / 4294967296) * 4294967296 + lo % 2 ^ (64 - s) * 2 ^ s % 4294967296 = (hi * 18446744073709551616 + lo) * 2 ^ s := by
      rw [Int.add_mul (hi * 18446744073709551616), lP, Int.mul_right_comm hi]
      generalize lo / 2 ^ (64 - s) = b at *
      generalize lo % 2 ^ (64 - s) * 2 ^ s = c at *
      generalize hi * 2 ^ s = h at *
      omega
    rw [e]
    exact (Int.mul_ediv_mul_of_pos_left _ _ P0).symm

/-- One digit of the quotient: it is never too small, and at the end it is right. -/
theorem digit_low {n un0 yn yn1 yn0 q r : Int} (hy : yn = yn1 * 4294967296 + yn0) (y3 : 2147483648 ≤ yn1) (y5 : 0 ≤ yn0) (hr : q * yn1 + r = n) (hq : 0 ≤ q) (h : q * yn0 ≤ 4294967296 * r + un0) : q ≤ (n * 4294967296 + un0) / yn := by
  refine (Int.le_ediv_iff_mul_le (by omega)).2 ?_
  have e : q * yn = q * yn1 * 4294967296 + q * yn0 := by rw [hy, Int.mul_add, ← Int.mul_assoc]
  rw [e]
  omega
theorem digit_high {n un0 yn yn1 yn0 q r : Int} (hy : yn = yn1 * 4294967296 + yn0) (y3 : 2147483648 ≤ yn1) (y5 : 0 ≤ yn0) (hr : q * yn1 + r = n) (h : 4294967296 * r + un0 < q * yn0) : (n * 4294967296 + un0) / yn < q := by
  refine (Int.ediv_lt_iff_lt_mul (by omega)).2 ?_
  have e : q * yn = q * yn1 * 4294967296 + q * yn0 := by rw [hy, Int.mul_add, ← Int.mul_assoc]
  rw [e]
  omega

theorem first_digit {un32 un1 yn yn1 yn0 : Int} (u0 : 0 ≤ un32) (u1 : 0 ≤ un1) (y3 : 2147483648 ≤ yn1) (y6 : yn0 < 4294967296) (y2 : yn = yn1 * 4294967296 + yn0) (u5 : un32 * 4294967296 + un1 < yn) :
    (un32 / yn1 = 1 ∧ un32 = yn1 ∧ un1 < yn0) ∨ un32 / yn1 = 0 := by
  by_cases c : un32 < yn1
  · exact .inr (Int.ediv_eq_zero_of_lt u0 c)
  · have e : un32 = yn1 := by omega
    subst e
    exact .inl ⟨Int.ediv_self (by omega), rfl, by omega⟩
theorem second_digit {n un0 yn yn1 yn0 : Int} (n0 : 0 ≤ n) (u5 : n < yn) (y2 : yn = yn1 * 4294967296 + yn0) (y3 : 2147483648 ≤ yn1) (y4 : yn1 < 4294967296) (y5 : 0 ≤ yn0) (y6 : yn0 < 4294967296) (u3 : 0 ≤ un0) (u4 : un0 < 4294967296) :
    0 ≤ n / yn1 ∧ n / yn1 ≤ 4294967297 ∧ 0 ≤ n - n / yn1 * yn1 ∧ n - n / yn1 * yn1 < 4294967296 ∧ 0 ≤ n / yn1 * yn1 ∧ (n * 4294967296 + un0) / yn ≤ n / yn1 := by
  have e := Int.mul_ediv_add_emod n yn1
  have m0 := Int.emod_nonneg n (show yn1 ≠ 0 by omega)
  have m1 := Int.emod_lt_of_pos n (show 0 < yn1 by omega)
  have q0 : 0 ≤ n / yn1 := Int.ediv_nonneg n0 (by omega)
  have q1 : n / yn1 < 4294967298 := Int.ediv_lt_of_lt_mul (by omega) (by omega)
  have e' : n / yn1 * yn1 = yn1 * (n / yn1) := Int.mul_comm _ _
  have m2 : 0 ≤ n / yn1 * yn1 := Int.mul_nonneg q0 (by omega)
  refine ⟨q0, by omega, by omega, by omega, m2, ?_⟩
  have : (n * 4294967296 + un0) / yn < n / yn1 + 1 := by
    refine (Int.ediv_lt_iff_lt_mul (by omega)).2 ?_
    have a : n + 1 ≤ (n / yn1 + 1) * yn1 := by rw [Int.add_mul]; omega
    have b : (n / yn1 + 1) * yn = (n / yn1 + 1) * yn1 * 4294967296 + (n / yn1 + 1) * yn0 := by
      rw [y2, Int.mul_add, ← Int.mul_assoc]
    have c : 0 ≤ (n / yn1 + 1) * yn0 := Int.mul_nonneg (by omega) y5
    rw [b]; omega
  omega
theorem digit_next {q r yn1 n : Int} (h : q * yn1 + r = n) : (q - 1) * yn1 + (r + yn1) = n := by
  rw [Int.sub_mul, Int.one_mul]; omega
/-- A guess of 2^32 or more is too large. -/
theorem digit_large {n un0 yn yn1 yn0 Q q : Int} (hQ : (n * 4294967296 + un0) / yn = Q) (hy : yn = yn1 * 4294967296 + yn0) (y3 : 2147483648 ≤ yn1) (y4 : yn1 < 4294967296) (y5 : 0 ≤ yn0) (y6 : yn0 < 4294967296) (u4 : un0 < 4294967296) (u5 : n < yn) (n0 : 0 ≤ n) (c : 4294967296 ≤ q) : Q < q := by
  have : Q < 4294967296 := by
    rw [← hQ]
    exact Int.ediv_lt_of_lt_mul (by omega) (by omega)
  omega
theorem digit_done {n un0 yn yn1 yn0 Q q r : Int} (hQ : (n * 4294967296 + un0) / yn = Q) (hy : yn = yn1 * 4294967296 + yn0) (y3 : 2147483648 ≤ yn1) (y5 : 0 ≤ yn0) (y6 : yn0 < 4294967296) (u3 : 0 ≤ un0) (q0 : 0 ≤ q) (q1 : q ≤ 4294967296) (hq : Q ≤ q) (h : q * yn1 + r = n) (c : 4294967296 ≤ r) : Q = q := by
  have m : q * yn0 ≤ 4294967296 * 4294967295 := Int.mul_le_mul q1 (by omega) y5 (by omega)
  have := digit_low (un0 := un0) hy y3 y5 h q0 (by omega)
  omega
/-- What Div64 answers: the quotient, and some remainder that nobody asks for. -/
def SomeRem (q : Int) (w : World) (e : Ending) (w' : World) : Prop := (∃ r : Int, e = .returned (.tuple #[.int .u64 q, .int .u64 r])) ∧ Drawn w w'

theorem div64_low (lo y : Int) (w : World) (y0 : 0 < y) (y1 : y ≤ 18446744073709551615) (l0 : 0 ≤ lo) (l1 : lo ≤ 18446744073709551615) :
    Calls Try.prog 72 #[.int .u64 0, .int .u64 lo, .int .u64 y] w (SomeRem (lo / y) w) := by
  have yz : (y == 0) = false := by simpa using (show y ≠ 0 by omega)
  go_enter Try.func72, Try.ntmps72
  go_wp2
  go_quiet (fail)
  go_wp2
  go_ret2
  exact ⟨⟨_, rfl⟩, Drawn.of _ _⟩

set_option maxHeartbeats 2000000 in
set_option maxRecDepth 100000 in
theorem div64_high (hi lo y : Int) (w : World) (h0 : 0 < hi) (h1 : hi < y) (y1 : y ≤ 18446744073709551615) (l0 : 0 ≤ lo) (l1 : lo ≤ 18446744073709551615) (hq : hi * 18446744073709551616 + lo < y * 4294967296) :
    Calls Try.prog 72 #[.int .u64 hi, .int .u64 lo, .int .u64 y] w (SomeRem ((hi * 18446744073709551616 + lo) / y) w) := by
  obtain ⟨s, hs⟩ : ∃ s : Nat, Lib.bitLen y.toNat + s = 64 := ⟨64 - Lib.bitLen y.toNat, by have := Lib.bitLen_le y.toNat 64 (by decide) (by omega); omega⟩
  obtain ⟨yn, yn1, yn0, a, b, un32, un10, un1, un0, D⟩ := div_set hi lo y s hs h0 h1 (by omega) l0 (by omega) hq
  have bp := bitLen_pos (x := y.toNat) (by omega) (by omega)
  have s1 : s ≤ 63 := by omega
  have HS := Lib.hid hs
  clear hs hq bp
  obtain ⟨e1, e2, e3, e4, e5, e6, e7, e8, e9, y0, y1', y2, y3, y4, y5, y6, a0, a1, b0, b1, u0, u1, u2, u3, u4, u5, u6, u7, same⟩ := D
  obtain ⟨n, hn⟩ : ∃ n, un32 * 4294967296 + un1 = n := ⟨_, rfl⟩
  rw [hn] at same u5
  have n0 : 0 ≤ n := by omega
  have u32 : un32 < 4294967296 := by omega
  have HQ := Lib.hid same
  have HY := Lib.hid y2
  -- the first digit: nothing, or one too much
  have A := first_digit u0 u1 y3 y6 y2 (by rw [hn]; exact u5)
  -- the second digit, guessed
  obtain ⟨g0, g1, g2, g3, g4, g5⟩ := second_digit (un0 := un0) n0 u5 y2 y3 y4 y5 y6 u3 u4
  obtain ⟨q0, hq0⟩ : ∃ q, n / yn1 = q := ⟨_, rfl⟩
  rw [hq0] at g0 g1 g2 g3 g4 g5
  obtain ⟨r0, hr0⟩ : ∃ r, n - q0 * yn1 = r := ⟨_, rfl⟩
  rw [hr0] at g2 g3
  have hqr : q0 * yn1 + r0 = n := by omega
  have HQR := Lib.hid hqr
  obtain ⟨Q, hQ⟩ : ∃ Q, (n * 4294967296 + un0) / yn = Q := ⟨_, rfl⟩
  have HQ2 := Lib.hid hQ
  rw [hQ] at g5
  clear same y2 hqr hQ
  have AH := Lib.hid A
  clear A
  have yz : (y == 0) = false := by simpa using (show y ≠ 0 by omega)
  have hz : (hi == 0) = false := by simpa using (show hi ≠ 0 by omega)
  go_enter Try.func72, Try.ntmps72
  go_wp2_with (go_at_call 73; refine (lz64_any _ s _ (by omega) (by omega) HS).mono ?_; rintro e w' ⟨rfl, rfl⟩)
  go_loop [15, 16] (fun u v => ∃ q r : Int, u = .int .u64 q ∧ v = .int .u64 r ∧ ((q = 1 ∧ r = 0 ∧ un1 < yn0) ∨ (q = 0 ∧ 0 ≤ r ∧ r < 4294967296))) (fun u _ => (intOf u).toNat)
  case atStart =>
    rcases AH.out with ⟨c, c1, c2⟩ | c
    · refine ⟨1, 0, by rw [c], ?_, .inl ⟨rfl, rfl, c2⟩⟩
      rw [c, c1, Int.one_mul, IntWalk.u64_in yn1 (by omega), Int.sub_self]
      rfl
    · refine ⟨0, un32, by rw [c], ?_, .inr ⟨rfl, u0, by omega⟩⟩
      rw [c, Int.zero_mul, IntWalk.u64_in 0 (by omega), Int.sub_zero, IntWalk.u64_in un32 (by omega)]
  case round =>
    obtain ⟨q, r, rfl, rfl, ⟨rfl, rfl, c⟩ | ⟨rfl, r1, r2⟩⟩ := hrel
    · go_wp2
      go_round
      case rel => exact ⟨0, yn1, rfl, rfl, .inr ⟨rfl, by omega, y4⟩⟩
      case measure => simp [intOf]
    · go_wp2
      go_loop [18, 16] (fun u v => ∃ q r : Int, u = .int .u64 q ∧ v = .int .u64 r ∧ q * yn1 + r = n ∧ 0 ≤ q ∧ q ≤ 4294967297 ∧ 0 ≤ r ∧ r < 4294967296 ∧ Q ≤ q) (fun u _ => (intOf u).toNat)
      case atStart => exact ⟨q0, r0, rfl, rfl, HQR.out, g0, g1, g2, g3, g5⟩
      case round =>
        obtain ⟨q, r, rfl, rfl, k1, k2, k3, k4, k5, k6⟩ := hrel
        have K1 := Lib.hid k1
        clear k1
        by_cases c : 4294967296 ≤ q
        · have hlt := digit_large HQ2.out HY.out y3 y4 y5 y6 u4 u5 n0 c
          have K2 := digit_next K1.out
          by_cases c3 : 4294967296 ≤ r + yn1
          · have F := Lib.hid (digit_done HQ2.out HY.out y3 y5 y6 u3 (by omega) (by omega) (by omega) K2 c3)
            clear K2
            go_wp2
            go_ret2
            rw [HQ.out, HQ2.out, F.out]; exact ⟨⟨_, rfl⟩, Drawn.refl _⟩
          · have K3 := Lib.hid K2
            clear K2
            go_wp2
            go_round
            case rel => exact ⟨q - 1, r + yn1, rfl, rfl, K3.out, by omega, by omega, by omega, by omega, by omega⟩
            case measure => simp [intOf]; omega
        · have m0 : 0 ≤ q * yn0 := Int.mul_nonneg k2 y5
          have m1 : q * yn0 ≤ 4294967295 * 4294967295 := Int.mul_le_mul (by omega) (by omega) y5 (by omega)
          by_cases c2 : 4294967296 * r + un0 < q * yn0
          · have hlt := digit_high HY.out y3 y5 K1.out c2
            rw [HQ2.out] at hlt
            have K2 := digit_next K1.out
            have q1 : 1 ≤ q := by
              rcases Int.lt_or_le q 1 with g | g
              · have : q = 0 := by omega
                subst this; omega
              · exact g
            by_cases c3 : 4294967296 ≤ r + yn1
            · have F := Lib.hid (digit_done HQ2.out HY.out y3 y5 y6 u3 (by omega) (by omega) (by omega) K2 c3)
              clear K2
              go_wp2
              go_ret2
              rw [HQ.out, HQ2.out, F.out]; exact ⟨⟨_, rfl⟩, Drawn.refl _⟩
            · have K3 := Lib.hid K2
              clear K2
              go_wp2
              go_round
              case rel => exact ⟨q - 1, r + yn1, rfl, rfl, K3.out, by omega, by omega, by omega, by omega, by omega⟩
              case measure => simp [intOf]; omega
          · have F0 := digit_low (un0 := un0) HY.out y3 y5 K1.out k2 (by omega)
            rw [HQ2.out] at F0
            have F := Lib.hid (show Q = q by omega)
            go_wp2
            go_ret2
            rw [HQ.out, HQ2.out, F.out]; exact ⟨⟨_, rfl⟩, Drawn.refl _⟩
end Go.Proofs.Ytblajeildolloaa
