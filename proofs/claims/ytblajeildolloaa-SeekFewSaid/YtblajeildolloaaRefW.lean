/- Words that refer: may, parts, Kind, At, Of. -/
import Derived.Test.YtblajeildolloaaInts
import Derived.Laws.Bits128
namespace Go.Proofs.Ytblajeildolloaa
set_option linter.unusedVariables false
set_option linter.unusedSimpArgs false
open Go.RowKit

theorem i64_and7 (n : Int) : bits .and .i64 n 7 = n % 8 := by
  have h7 : (BitVec.ofInt 64 7).toNat = 2 ^ 3 - 1 := by decide
  have key : (BitVec.ofInt 64 n &&& BitVec.ofInt 64 7).toNat = (n % ((2 ^ 64 : Nat) : Int)).toNat % 2 ^ 3 := by
    rw [BitVec.toNat_and, BitVec.toNat_ofInt, h7, Nat.and_two_pow_sub_one_eq_mod]
  show IntKind.i64.wrap ((BitVec.ofInt 64 n &&& BitVec.ofInt 64 7).toNat : Nat) = n % 8
  rw [key, IntKind.wrap_i64]
  omega
/-- May a kind and an address be in a word? -/
def mayB (k a : Int) : Bool := decide (1 ≤ k ∧ k ≤ 5 ∧ 1 ≤ a ∧ a ≤ 65536)
theorem mayB_yes {k a : Int} (h : mayB k a = true) : 1 ≤ k ∧ k ≤ 5 ∧ 1 ≤ a ∧ a ≤ 65536 := of_decide_eq_true h
theorem mayB_no {k a : Int} (h : mayB k a = false) : ¬ (1 ≤ k ∧ k ≤ 5 ∧ 1 ≤ a ∧ a ≤ 65536) := of_decide_eq_false h
theorem mayB_mk {k a : Int} (h1 : 1 ≤ k) (h2 : k ≤ 5) (h3 : 1 ≤ a) (h4 : a ≤ 65536) : mayB k a = true := decide_eq_true ⟨h1, h2, h3, h4⟩
theorem mayB_not {k a : Int} (h : ¬ (1 ≤ k ∧ k ≤ 5 ∧ 1 ≤ a ∧ a ≤ 65536)) : mayB k a = false := decide_eq_false h
/-- Does a word refer? -/
def wB (x : Int) : Bool := decide (0 ≤ x) && mayB (x % 8) (x / 8)
def wKind (x : Int) : Int := if wB x = true then x % 8 else 0
def wAt (x : Int) : Int := if wB x = true then x / 8 else 0
def wOf (k a : Int) : Int := if mayB k a = true then a * 8 + k else 0
theorem wB_yes {x : Int} (h : wB x = true) : 9 ≤ x ∧ x ≤ 524293 ∧ 1 ≤ x % 8 ∧ x % 8 ≤ 5 ∧ 1 ≤ x / 8 ∧ x / 8 ≤ 65536 := by
  unfold wB at h
  rw [Bool.and_eq_true] at h
  have h1 := of_decide_eq_true h.1
  have h2 := mayB_yes h.2
  omega
theorem wAt_bd (x : Int) : 0 ≤ wAt x ∧ wAt x ≤ 65536 := by
  unfold wAt
  split
  · rename_i h; have := wB_yes h; omega
  · omega
theorem wKind_bd (x : Int) : 0 ≤ wKind x ∧ wKind x ≤ 5 := by
  unfold wKind
  split
  · rename_i h; have := wB_yes h; omega
  · omega
theorem wOf_bd (k a : Int) : 0 ≤ wOf k a ∧ wOf k a ≤ 524293 := by
  unfold wOf
  split
  · rename_i h; have := mayB_yes h; omega
  · omega

set_option maxHeartbeats 400000 in
theorem may_any (k a : Int) (w : World) : Calls Try.prog 41 #[.int .i64 k, .int .i64 a] w fun e w' => e = .returned (.bool (mayB k a)) ∧ w = w' := by
  by_cases h1 : 1 ≤ k
  · by_cases h2 : k ≤ 5
    · by_cases h3 : 1 ≤ a
      · by_cases h4 : a ≤ 65536
        · have HB := Lib.hid (mayB_mk h1 h2 h3 h4)
          go_enter Try.func41, Try.ntmps41
          go_wp2_with (fail)
          go_ret
          rw [HB.out]
          exact ⟨rfl, rfl⟩
        · have HB := Lib.hid (mayB_not (k := k) (a := a) (by omega))
          have g : ¬ a ≤ 65536 := h4
          go_enter Try.func41, Try.ntmps41
          go_wp2_with (fail)
          go_ret
          rw [HB.out]
          exact ⟨rfl, rfl⟩
      · have HB := Lib.hid (mayB_not (k := k) (a := a) (by omega))
        go_enter Try.func41, Try.ntmps41
        go_wp2_with (fail)
        go_ret
        rw [HB.out]
        exact ⟨rfl, rfl⟩
    · have HB := Lib.hid (mayB_not (k := k) (a := a) (by omega))
      go_enter Try.func41, Try.ntmps41
      go_wp2_with (fail)
      go_ret
      rw [HB.out]
      exact ⟨rfl, rfl⟩
  · have HB := Lib.hid (mayB_not (k := k) (a := a) (by omega))
    go_enter Try.func41, Try.ntmps41
    go_wp2_with (fail)
    go_ret
    rw [HB.out]
    exact ⟨rfl, rfl⟩
set_option maxHeartbeats 400000 in
theorem parts_any (x : Int) (w : World) (x0 : -9223372036854775808 ≤ x) (x1 : x ≤ 9223372036854775807) : Calls Try.prog 55 #[.int .i64 x] w fun e w' => e = .returned (.tuple #[.int .i64 (wKind x), .int .i64 (wAt x), .bool (wB x)]) ∧ w = w' := by
  by_cases h1 : 0 ≤ x
  · by_cases h2 : x ≤ 524296
    · have e7 := i64_and7 x
      have e1 : 0 ≤ x % 8 ∧ x % 8 ≤ 7 := by omega
      have e2 : 0 ≤ x / 8 ∧ x / 8 ≤ 65537 := by omega
      cases hb : mayB (x % 8) (x / 8) with
      | true =>
        have HW := Lib.hid (show wB x = true by unfold wB; rw [hb, decide_eq_true h1]; rfl)
        have HB := Lib.hid hb
        clear hb
        go_enter Try.func55, Try.ntmps55
        go_wp2_with (fail)
        with_reducible refine (may_any _ _ _).mono ?_
        rintro e w1 ⟨rfl, rfl⟩
        rw [HB.out]
        go_wp2_with (fail)
        go_ret3
        have e := HW.out
        unfold wKind wAt
        rw [e, if_pos rfl, if_pos rfl]
        exact ⟨rfl, rfl⟩
      | false =>
        have HW := Lib.hid (show wB x = false by unfold wB; rw [hb, Bool.and_false])
        have HB := Lib.hid hb
        clear hb
        go_enter Try.func55, Try.ntmps55
        go_wp2_with (fail)
        with_reducible refine (may_any _ _ _).mono ?_
        rintro e w1 ⟨rfl, rfl⟩
        rw [HB.out]
        go_wp2_with (fail)
        go_ret3
        have e := HW.out
        unfold wKind wAt
        rw [e, if_neg Bool.false_ne_true, if_neg Bool.false_ne_true]
        exact ⟨rfl, rfl⟩
    · have HW := Lib.hid (show wB x = false by
        cases h : wB x with
        | false => rfl
        | true => have := wB_yes h; omega)
      have h3 : 524296 < x := by omega
      clear h2
      go_enter Try.func55, Try.ntmps55
      go_wp2_with (fail)
      go_ret3
      have e := HW.out
      unfold wKind wAt
      rw [e, if_neg Bool.false_ne_true, if_neg Bool.false_ne_true]
      exact ⟨rfl, rfl⟩
  · have HW := Lib.hid (show wB x = false by
      cases h : wB x with
      | false => rfl
      | true => have := wB_yes h; omega)
    go_enter Try.func55, Try.ntmps55
    go_wp2_with (fail)
    go_ret3
    have e := HW.out
    unfold wKind wAt
    rw [e, if_neg Bool.false_ne_true, if_neg Bool.false_ne_true]
    exact ⟨rfl, rfl⟩
set_option maxHeartbeats 400000 in
theorem kind_any (x : Int) (w : World) (x0 : -9223372036854775808 ≤ x) (x1 : x ≤ 9223372036854775807) : Calls Try.prog 52 #[.int .i64 x] w fun e w' => e = .returned (.int .i64 (wKind x)) ∧ w = w' := by
  go_enter Try.func52, Try.ntmps52
  go_wp2_with (fail)
  with_reducible refine (parts_any _ _ x0 x1).mono ?_
  rintro e w1 ⟨rfl, rfl⟩
  go_wp2_with (fail)
  go_ret
  exact ⟨rfl, rfl⟩
set_option maxHeartbeats 400000 in
theorem refAt_any (x : Int) (w : World) (x0 : -9223372036854775808 ≤ x) (x1 : x ≤ 9223372036854775807) : Calls Try.prog 35 #[.int .i64 x] w fun e w' => e = .returned (.int .i64 (wAt x)) ∧ w = w' := by
  go_enter Try.func35, Try.ntmps35
  go_wp2_with (fail)
  with_reducible refine (parts_any _ _ x0 x1).mono ?_
  rintro e w1 ⟨rfl, rfl⟩
  go_wp2_with (fail)
  go_ret
  exact ⟨rfl, rfl⟩
theorem i64_or3 (k a : Int) (h1 : 0 ≤ k) (h2 : k ≤ 7) (h3 : 0 ≤ a) (h4 : a ≤ 65536) : bits .or .i64 (a * 8) k = a * 8 + k := by
  have : k = 0 ∨ k = 1 ∨ k = 2 ∨ k = 3 ∨ k = 4 ∨ k = 5 ∨ k = 6 ∨ k = 7 := by omega
  obtain ⟨n, rfl⟩ : ∃ n : Nat, a = n := ⟨a.toNat, by omega⟩
  obtain ⟨m, rfl⟩ : ∃ m : Nat, k = m := ⟨k.toNat, by omega⟩
  have hx : (BitVec.ofInt 64 ((n : Int) * 8)).toNat = n * 8 := by
    rw [BitVec.toNat_ofInt]; omega
  have hy : (BitVec.ofInt 64 (m : Int)).toNat = m := by
    rw [BitVec.toNat_ofInt]; omega
  have key : (BitVec.ofInt 64 ((n : Int) * 8) ||| BitVec.ofInt 64 (m : Int)).toNat = n * 8 + m := by
    rw [BitVec.toNat_or, hx, hy, show n * 8 = n <<< 3 by rw [Nat.shiftLeft_eq], Nat.shiftLeft_add_eq_or_of_lt (by omega)]
  show IntKind.i64.wrap ((BitVec.ofInt 64 ((n : Int) * 8) ||| BitVec.ofInt 64 (m : Int)).toNat : Nat) = _
  rw [key, IntKind.wrap_i64]
  omega
set_option maxHeartbeats 400000 in
theorem of_any (k a : Int) (w : World) : Calls Try.prog 19 #[.int .i64 k, .int .i64 a] w fun e w' => e = .returned (.int .i64 (wOf k a)) ∧ w = w' := by
  cases hb : mayB k a with
  | true =>
    have h := mayB_yes hb
    have HW := Lib.hid (show wOf k a = a * 8 + k from if_pos hb)
    have eo := i64_or3 k a (by omega) (by omega) (by omega) (by omega)
    obtain ⟨a1, a2, a3, a4⟩ := h
    have HB := Lib.hid hb
    clear hb
    go_enter Try.func19, Try.ntmps19
    go_wp2_with (fail)
    with_reducible refine (may_any _ _ _).mono ?_
    rintro e w1 ⟨rfl, rfl⟩
    rw [HB.out]
    go_wp2_with (fail)
    go_ret
    rw [HW.out]
    exact ⟨rfl, rfl⟩
  | false =>
    have HW := Lib.hid (show wOf k a = 0 from if_neg (by rw [hb]; exact Bool.false_ne_true))
    have HB := Lib.hid hb
    clear hb
    go_enter Try.func19, Try.ntmps19
    go_wp2_with (fail)
    with_reducible refine (may_any _ _ _).mono ?_
    rintro e w1 ⟨rfl, rfl⟩
    rw [HB.out]
    go_wp2_with (fail)
    go_ret
    rw [HW.out]
    exact ⟨rfl, rfl⟩
end Go.Proofs.Ytblajeildolloaa
