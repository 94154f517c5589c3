/- Records' addresses: near, KeyAt, ChildAt. -/
import Derived.Test.YtblajeildolloaaMem
import Derived.Test.YtblajeildolloaaRouteM
namespace Go.Proofs.Ytblajeildolloaa
set_option linter.unusedVariables false
set_option linter.unusedSimpArgs false
open Go.RowKit

theorem nearB_yes {x : Int} (h : nearB x = true) : 0 ≤ x ∧ x ≤ 1099511627776 := by
  unfold nearB at h; simpa using h
theorem nearB_no {x : Int} (h : nearB x = false) : x < 0 ∨ 1099511627776 < x := by
  unfold nearB at h; simp at h; omega
set_option maxHeartbeats 400000 in
theorem near1_any (x : Int) (w : World) : Calls Try.prog 63 #[.int .i64 x] w fun e w' => e = .returned (.bool (!nearB x)) ∧ w = w' := by
  cases h : nearB x with
  | true =>
    obtain ⟨h1, h2⟩ := nearB_yes h
    have b1 : decide (x < 0) = false := by simp; omega
    have b2 : decide (1099511627776 < x) = false := by simp; omega
    clear h
    go_enter Try.func63, Try.ntmps63
    go_wp2
    go_ret
    exact ⟨rfl, rfl⟩
  | false =>
    by_cases h1 : x < 0
    · clear h
      go_enter Try.func63, Try.ntmps63
      go_wp2
      go_ret
      exact ⟨rfl, rfl⟩
    · have h2 : 1099511627776 < x := by have := nearB_no h; omega
      clear h
      go_enter Try.func63, Try.ntmps63
      go_wp2
      go_ret
      exact ⟨rfl, rfl⟩

def IdxPost (L : List Int) (w : World) (e : Ending) (w' : World) : Prop := ∃ j : Int, e = .returned (.int .i64 j) ∧ w = w' ∧ -1 ≤ j ∧ j ≤ 100 ∧ (L.all nearB = true → j = -1) ∧ (L.all nearB = false → 0 ≤ j)
theorem all_take_succ {L : List Int} {k : Nat} (h : k < L.length) (ha : (L.take k).all nearB = true) (hk : nearB (keyAt L k) = true) : (L.take (k + 1)).all nearB = true := by
  rw [List.take_add_one, List.getElem?_eq_getElem h, List.all_append, ha]
  simpa [keyAt, List.getD_eq_getElem?_getD, h] using hk
theorem all_not {L : List Int} {k : Nat} (h : k < L.length) (hk : nearB (keyAt L k) = false) : L.all nearB = false := by
  rw [List.all_eq_false]
  exact ⟨L[k], List.getElem_mem _, by simpa [keyAt, List.getD_eq_getElem?_getD, h] using hk⟩
set_option maxHeartbeats 1000000 in
theorem indexf_any (A : Option Addr) (c B : Nat) (L : List Int) (w : World) (hq : IntsAt w B A L) (hl : L.length ≤ 50) :
    Calls Try.prog 66 #[.slice A L.length c, .func (.func 63) #[] #[]] w (IdxPost L w) := by
  have HQ := Lib.hid hq
  clear hq
  go_enter Try.func66, Try.ntmps66
  go_wp2
  go_loop [8] (fun i => ∃ k : Nat, k ≤ L.length ∧ i = .int .i64 k ∧ Hid ((L.take k).all nearB = true)) (fun i => L.length - (intOf i).toNat)
  case atStart => exact ⟨0, by omega, rfl, Lib.hid rfl⟩
  case round =>
    obtain ⟨k, k1, rfl, ha⟩ := hrel
    by_cases hlt : k < L.length
    · obtain ⟨ad, rfl, hbl, hc⟩ := HQ.out.cells (by omega)
      have hx := hc k hlt
      have hS := Lib.hid (fun h => all_take_succ hlt ha.out h)
      have hN := Lib.hid (fun h => all_not hlt h)
      obtain ⟨x, hxe⟩ : ∃ x, keyAt L k = x := ⟨_, rfl⟩
      rw [hxe] at hx hS hN
      clear hc hxe
      cases hb : nearB x with
      | true =>
        have hs := Lib.hid (hS.out hb)
        clear hS hN ha
        have HB := Lib.hid hb
        clear hb
        go_wp2_with (fail)
        with_reducible refine (near1_any x _).mono ?_
        rintro e w1 ⟨rfl, rfl⟩
        have hb := HB.out
        go_wp2_with (fail)
        go_round
        case rel => exact ⟨k + 1, by omega, by go_num, hs⟩
        case measure => simp [intOf]; omega
      | false =>
        have hs := Lib.hid (hN.out hb)
        clear hS hN ha
        have HB := Lib.hid hb
        clear hb
        go_wp2_with (fail)
        with_reducible refine (near1_any x _).mono ?_
        rintro e w1 ⟨rfl, rfl⟩
        have hb := HB.out
        go_wp2_with (fail)
        go_ret
        exact ⟨k, rfl, rfl, by omega, by omega, fun h => (by rw [hs.out] at h; cases h), fun _ => by omega⟩
    · have hk : k = L.length := by omega
      have hs := Lib.hid (show L.all nearB = true by have := ha.out; rw [hk, List.take_of_length_le (Nat.le_refl _)] at this; exact this)
      clear ha
      go_wp2_with (fail)
      go_ret
      exact ⟨-1, rfl, rfl, by omega, by omega, fun _ => rfl, fun h => (by rw [hs.out] at h; cases h)⟩
set_option maxHeartbeats 400000 in
theorem contains_any (A : Option Addr) (c B : Nat) (L : List Int) (w : World) (hq : IntsAt w B A L) (hl : L.length ≤ 50) :
    Calls Try.prog 62 #[.slice A L.length c, .func (.func 63) #[] #[]] w fun e w' => e = .returned (.bool (!L.all nearB)) ∧ w = w' := by
  have HQ := Lib.hid hq
  clear hq
  go_enter Try.func62, Try.ntmps62
  go_wp2_with (fail)
  with_reducible refine (indexf_any A c B L w HQ.out hl).mono ?_
  rintro e w1 ⟨j, rfl, rfl, j0, j1, ht, hf⟩
  cases hb : L.all nearB with
  | true =>
    have e1 := ht hb
    have HB := Lib.hid hb
    clear ht hf hb
    subst e1
    go_wp2_with (fail)
    go_ret
    rw [HB.out]
    exact ⟨rfl, rfl⟩
  | false =>
    have e1 := hf hb
    have HB := Lib.hid hb
    clear ht hf hb
    go_wp2_with (fail)
    go_ret
    rw [HB.out]
    exact ⟨rfl, rfl⟩
set_option maxHeartbeats 400000 in
theorem near_any (A : Option Addr) (c B N : Nat) (L : List Int) (w : World) (hN : N = L.length) (hq : IntsAt w B A L) (hl : L.length ≤ 50) :
    Calls Try.prog 51 #[.slice A N c] w fun e w' => e = .returned (.bool (L.all nearB)) ∧ w = w' := by
  subst hN
  have HQ := Lib.hid hq
  clear hq
  go_enter Try.func51, Try.ntmps51
  go_wp2_with (fail)
  with_reducible refine (contains_any A c B L w HQ.out hl).mono ?_
  rintro e w1 ⟨rfl, rfl⟩
  cases hb : L.all nearB with
  | true =>
    have HB := Lib.hid hb
    clear hb
    go_wp2_with (fail)
    go_ret
    rw [HB.out]
    exact ⟨rfl, rfl⟩
  | false =>
    have HB := Lib.hid hb
    clear hb
    go_wp2_with (fail)
    go_ret
    rw [HB.out]
    exact ⟨rfl, rfl⟩

theorem ints_row (w : World) (t : TypeId) (L : List Int) : IntsAt (w.alloc (.cells (L.map (Value.int .i64)).toArray t)) (w.heap.size + 1) (some ⟨w.heap.size, 0, none⟩) L := by
  refine ⟨by simp, fun _ => ⟨_, rfl, Nat.lt_succ_self _, fun j u hu => ?_⟩⟩
  have e : (⟨w.heap.size, 0, none⟩ : Addr).add j = ⟨w.heap.size, j, none⟩ := by unfold Addr.add; split <;> simp_all
  rw [e]
  have := (Blk.new w t (L.map (Value.int .i64)).toArray).cell j
  rw [this]
  simpa using hu
set_option maxHeartbeats 400000 in
theorem keyat_any (n i : Int) (w : World) :
    Calls Try.prog 49 #[.int .i64 n, .int .i64 i] w fun e w' => e = .returned (.int .i64 (keyAtI n i)) ∧ Below w.heap.size w w' := by
  have hB := (Below.refl w.heap.size w).alloc (Nat.le_refl _) (.cells #[.int .i64 n, .int .i64 i] 3)
  have hq0 : IntsAt (w.alloc (.cells #[.int .i64 n, .int .i64 i] 3)) (w.heap.size + 1) (some ⟨w.heap.size, 0, none⟩) [n, i] := ints_row w 3 [n, i]
  have HQ := Lib.hid hq0
  clear hq0
  cases hb : [n, i].all nearB with
  | true =>
    have h2 : nearB n = true ∧ nearB i = true := by simpa using hb
    obtain ⟨a1, a2⟩ := nearB_yes h2.1
    obtain ⟨a3, a4⟩ := nearB_yes h2.2
    have HK := Lib.hid (show keyAtI n i = n + 4 + i from if_pos h2)
    have HB := Lib.hid hb
    clear hb h2
    go_enter Try.func49, Try.ntmps49
    go_wp2_with (fail)
    with_reducible refine (near_any _ _ _ 2 [n, i] _ (by kernel_rfl) HQ.out (by simp)).mono ?_
    rintro e w1 ⟨rfl, rfl⟩
    rw [HB.out]
    go_wp2_with (fail)
    go_ret
    rw [HK.out]
    exact ⟨rfl, hB⟩
  | false =>
    have HK := Lib.hid (show keyAtI n i = 0 from if_neg (fun h => by simp [h.1, h.2] at hb))
    have HB := Lib.hid hb
    clear hb
    go_enter Try.func49, Try.ntmps49
    go_wp2_with (fail)
    with_reducible refine (near_any _ _ _ 2 [n, i] _ (by kernel_rfl) HQ.out (by simp)).mono ?_
    rintro e w1 ⟨rfl, rfl⟩
    rw [HB.out]
    go_wp2_with (fail)
    go_ret
    rw [HK.out]
    exact ⟨rfl, hB⟩
set_option maxHeartbeats 400000 in
theorem childat_any (n d i : Int) (w : World) :
    Calls Try.prog 28 #[.int .i64 n, .int .i64 d, .int .i64 i] w fun e w' => e = .returned (.int .i64 (childAtI n d i)) ∧ Below w.heap.size w w' := by
  have hB := (Below.refl w.heap.size w).alloc (Nat.le_refl _) (.cells #[.int .i64 n, .int .i64 d, .int .i64 i] 3)
  have hq0 : IntsAt (w.alloc (.cells #[.int .i64 n, .int .i64 d, .int .i64 i] 3)) (w.heap.size + 1) (some ⟨w.heap.size, 0, none⟩) [n, d, i] := ints_row w 3 [n, d, i]
  have HQ := Lib.hid hq0
  clear hq0
  cases hb : [n, d, i].all nearB with
  | true =>
    have h2 : nearB n = true ∧ nearB d = true ∧ nearB i = true := by simpa using hb
    obtain ⟨a1, a2⟩ := nearB_yes h2.1
    obtain ⟨a3, a4⟩ := nearB_yes h2.2.1
    obtain ⟨a5, a6⟩ := nearB_yes h2.2.2
    have HK := Lib.hid (show childAtI n d i = n + 4 + d + i from if_pos h2)
    have HB := Lib.hid hb
    clear hb h2
    go_enter Try.func28, Try.ntmps28
    go_wp2_with (fail)
    with_reducible refine (near_any _ _ _ 3 [n, d, i] _ (by kernel_rfl) HQ.out (by simp)).mono ?_
    rintro e w1 ⟨rfl, rfl⟩
    rw [HB.out]
    go_wp2_with (fail)
    go_ret
    rw [HK.out]
    exact ⟨rfl, hB⟩
  | false =>
    have HK := Lib.hid (show childAtI n d i = 0 from if_neg (fun h => by simp [h.1, h.2.1, h.2.2] at hb))
    have HB := Lib.hid hb
    clear hb
    go_enter Try.func28, Try.ntmps28
    go_wp2_with (fail)
    with_reducible refine (near_any _ _ _ 3 [n, d, i] _ (by kernel_rfl) HQ.out (by simp)).mono ?_
    rintro e w1 ⟨rfl, rfl⟩
    rw [HB.out]
    go_wp2_with (fail)
    go_ret
    rw [HK.out]
    exact ⟨rfl, hB⟩
end Go.Proofs.Ytblajeildolloaa
