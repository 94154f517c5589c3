/- The walks of package probe. -/
import Derived.Test.YtelmehlabgnllaaMathG
import Derived.Test.YtelmehlabgnllaaShare
import Derived.Test.YtelmehlabgnllaaWords
namespace Go.Proofs.Ytelmehlabgnllaa
set_option linter.unusedVariables false
set_option linter.unusedSimpArgs false
open Go.RowKit

/-- The slice A, n reads as these whole numbers, below block B. -/
def IntsAt (w : World) (B : Nat) (A : Option Addr) (q : List Int) : Prop := Reads w B 1 A q.length (q.map (Value.int .i64))
theorem IntsAt.cells {w : World} {B : Nat} {A : Option Addr} {q : List Int} (h : IntsAt w B A q) (hl : 0 < q.length) : ∃ ad, A = some ad ∧ ad.block < B ∧ ∀ k, k < q.length → w.cell? (ad.add k) = some (.int .i64 (keyAt q k)) := by
  obtain ⟨ad, e, hb, hc⟩ := h.2 hl
  refine ⟨ad, e, hb, fun k hk => hc k _ ?_⟩
  unfold keyAt
  rw [List.getElem?_map, List.getD_eq_getElem?_getD, List.getElem?_eq_getElem hk]
  rfl
theorem belowD {B : Nat} {a w : World} (h : Below B a w) (n : Nat) : Below B a (w.drewN n) := h.trans ⟨rfl, rfl, rfl, Nat.le_refl _, fun _ _ => rfl⟩
theorem Drawn.below {w w' : World} (h : Drawn w w') (B : Nat) : Below B w w' := by
  obtain ⟨n, rfl⟩ := h
  exact belowD (Below.refl _ _) _
theorem ret_bool {a b : Bool} (h : a = b) : Ending.returned (.bool a) = .returned (.bool b) := by rw [h]

set_option maxHeartbeats 1000000 in
theorem right_any (A : Option Addr) (c B : Nat) (q : List Int) (w : World) (hq : IntsAt w B A q) (hl : q.length ≤ 140737488351232) :
    Calls Try.prog 11 #[.slice A q.length c] w fun e w' => e = .returned (.bool (rightB q)) ∧ Drawn w w' := by
  by_cases hz : q.length = 0
  · have hR : rightB q = true := by
      have : q = [] := List.eq_nil_of_length_eq_zero hz
      subst this; rfl
    have HR := Lib.hid hR
    clear hR
    go_enter Try.func11, Try.ntmps11
    go_wp2
    go_loop [3] (fun i => i = .int .i64 1) (fun _ => 0)
    case atStart => rfl
    case round =>
      obtain rfl := hrel
      go_wp2
      go_ret
      exact ⟨ret_bool HR.out.symm, Drawn.refl _⟩
  · obtain ⟨ad, rfl, _, hc⟩ := hq.cells (by omega)
    have HC := Lib.hid hc
    clear hc hq
    go_enter Try.func11, Try.ntmps11
    go_wp2
    go_loopw [3] (fun i wr => ∃ (k m : Nat), 1 ≤ k ∧ k ≤ q.length ∧ i = .int .i64 k ∧ ascTo q k = true ∧ wr = w.drewN m) (fun i _ => q.length - (intOf i).toNat)
    case atStart => exact ⟨1, 0, by omega, by omega, rfl, rfl, rfl⟩
    case round =>
      obtain ⟨k, m, k1, k2, rfl, ha, rfl⟩ := hrel
      have HA := Lib.hid ha
      clear ha
      by_cases hlt : k < q.length
      · have c1 := HC.out k hlt
        have c2 := HC.out (k - 1) (by omega)
        by_cases hs : keyAt q (k - 1) < keyAt q k
        · have N := Lib.hid (ascTo_step HA.out k1 hs)
          have hs' : ¬ keyAt q k ≤ keyAt q (k - 1) := by omega
          go_wp2
          go_quiet (fail)
          go_wp2
          go_roundw
          case rel => exact ⟨k + 1, _, by omega, by omega, by go_num, N.out, rfl⟩
          case measure => simp [intOf]; omega
        · have N := Lib.hid (ascTo_no k1 hs hlt)
          have hs' : keyAt q k ≤ keyAt q (k - 1) := by omega
          go_wp2
          go_quiet (fail)
          go_wp2
          go_ret
          exact ⟨ret_bool (by simp [rightB, N.out]), (Drawn.of _ _).trans (Drawn.of _ _)⟩
      · have e : k = q.length := by omega
        subst e
        have N := Lib.hid (show rightB q = decide (q.length ≤ 65536) by unfold rightB asc; rw [HA.out, Bool.true_and])
        go_wp2
        go_ret
        exact ⟨ret_bool (by rw [N.out]; first | rfl | (congr 1; exact propext (by omega))), Drawn.of _ _⟩

set_option maxHeartbeats 1000000 in
/-- The closure that Find hands to sort.Search: its key is above k. -/
theorem find1_any (i : Nat) (q : List Int) (k : Int) (ad : Addr) (c b : Nat) (w : World) (hi : i < q.length) (hl : q.length ≤ 140737488351232)
    (hq : w.cell? ⟨b, 0, none⟩ = some (.slice (some ad) q.length c)) (hk : w.cell? ⟨b + 1, 0, none⟩ = some (.int .i64 k)) (hc : w.cell? (ad.add i) = some (.int .i64 (keyAt q i))) :
    Calls Try.prog 24 #[.int .i64 i, .pointer (some ⟨b, 0, none⟩), .pointer (some ⟨b + 1, 0, none⟩)] w fun e w' => e = .returned (.bool (decide (k < keyAt q i))) ∧ Drawn w w' := by
  go_enter Try.func24, Try.ntmps24
  go_wp2
  go_quiet (fail)
  go_wp2
  go_ret
  exact ⟨rfl, Drawn.of _ _⟩

set_option maxHeartbeats 1000000 in
theorem search_any (q : List Int) (k : Int) (ad : Addr) (c b : Nat) (w : World) (hl : q.length ≤ 140737488351232) (hasc : rightB q = true)
    (hq : w.cell? ⟨b, 0, none⟩ = some (.slice (some ad) q.length c)) (hk : w.cell? ⟨b + 1, 0, none⟩ = some (.int .i64 k)) (hc : ∀ i, i < q.length → w.cell? (ad.add i) = some (.int .i64 (keyAt q i))) :
    Calls Try.prog 23 #[.int .i64 q.length, .func (.func 24) #[] #[.pointer (some ⟨b, 0, none⟩), .pointer (some ⟨b + 1, 0, none⟩)]] w fun e w' => e = .returned (.int .i64 (findI q k)) ∧ Drawn w w' := by
  have HC := Lib.hid hc
  have HA := Lib.hid hasc
  clear hc hasc
  go_enter Try.func23, Try.ntmps23
  go_wp2
  go_loopw [5, 6, 7] (fun u v _ wr => ∃ (i j m : Nat), i ≤ j ∧ j ≤ q.length ∧ u = .int .i64 i ∧ v = .int .i64 j ∧ Hid (∀ x, x < i → keyAt q x ≤ k) ∧ Hid (∀ x, j ≤ x → x < q.length → k < keyAt q x) ∧ wr = w.drewN m) (fun u v _ _ => (intOf v - intOf u).toNat)
  case atStart => exact ⟨0, q.length, 0, by omega, by omega, rfl, rfl, Lib.hid (fun x h => absurd h (by omega)), Lib.hid (fun x h1 h2 => absurd h1 (by omega)), rfl⟩
  case round =>
    obtain ⟨i, j, m, i1, i2, rfl, rfl, L, U, rfl⟩ := hrel
    by_cases hlt : i < j
    · obtain ⟨h, hh⟩ : ∃ h : Nat, ((i : Int) + j) / 2 = h := ⟨(i + j) / 2, by omega⟩
      have h1 : i ≤ h := by omega
      have h2 : h < j := by omega
      have hcell := HC.out h (by omega)
      by_cases hs : k < keyAt q h
      · have N : Hid (∀ x, h ≤ x → x < q.length → k < keyAt q x) := Lib.hid (fun x a b => by have := asc_le (rightB_asc HA.out) a b; omega)
        have hs' : decide (k < keyAt q h) = true := decide_eq_true hs
        clear hs
        go_wp2_with (go_at_call 24; refine (find1_any h q k ad c b (w.drewN m) (by omega) hl hq hk hcell).mono ?_; rintro e w' ⟨rfl, n', rfl⟩)
        go_roundw
        case rel => exact ⟨i, h, _, h1, by omega, rfl, rfl, L, N, rfl⟩
        case measure => simp [intOf]; omega
      · have N : Hid (∀ x, x < h + 1 → keyAt q x ≤ k) := Lib.hid (fun x a => by have := asc_le (rightB_asc HA.out) (show x ≤ h by omega) (show h < q.length by omega); omega)
        have hs' : decide (k < keyAt q h) = false := decide_eq_false hs
        clear hs
        go_wp2_with (go_at_call 24; refine (find1_any h q k ad c b (w.drewN m) (by omega) hl hq hk hcell).mono ?_; rintro e w' ⟨rfl, n', rfl⟩)
        go_roundw
        case rel => exact ⟨h + 1, j, _, by omega, i2, by go_num, rfl, N, U, rfl⟩
        case measure => simp [intOf]; omega
    · have e : i = j := by omega
      subst e
      have F := Lib.hid (findI_at HA.out i2 L.out U.out)
      go_wp2
      go_ret
      exact ⟨ret_int F.out.symm, Drawn.of _ _⟩

theorem search_none (w : World) (f : Value) :
    Calls Try.prog 23 #[.int .i64 0, f] w fun e w' => e = .returned (.int .i64 0) ∧ Drawn w w' := by
  go_enter Try.func23, Try.ntmps23
  go_wp2
  go_loop [5, 6, 7] (fun u v _ => u = .int .i64 0 ∧ v = .int .i64 0) (fun _ _ _ => 0)
  case atStart => exact ⟨rfl, rfl⟩
  case round =>
    obtain ⟨rfl, rfl⟩ := hrel
    go_wp2
    go_ret
    exact ⟨rfl, Drawn.refl _⟩

theorem IntsAt.drewN {w : World} {B : Nat} {A : Option Addr} {q : List Int} (h : IntsAt w B A q) (n : Nat) : IntsAt (w.drewN n) B A q := h
theorem IntsAt.alloc {w : World} {B : Nat} {A : Option Addr} {q : List Int} (h : IntsAt w B A q) (hB : B ≤ w.heap.size) (o : Obj) : IntsAt (w.alloc o) B A q := Reads.alloc h hB o
theorem IntsAt.below {w w' : World} {B : Nat} {A : Option Addr} {q : List Int} (h : IntsAt w B A q) (hb : Below B w w') : IntsAt w' B A q := Reads.below h hb
theorem IntsAt.more {w : World} {B B' : Nat} {A : Option Addr} {q : List Int} (h : IntsAt w B A q) (hb : B ≤ B') : IntsAt w B' A q := Reads.more h hb

set_option maxHeartbeats 1000000 in
theorem find_any (A : Option Addr) (c : Nat) (q : List Int) (k : Int) (w : World) (hq : IntsAt w w.heap.size A q) (hl : q.length ≤ 140737488351232) :
    Calls Try.prog 12 #[.slice A q.length c, .int .i64 k] w fun e w' => e = .returned (.int .i64 (findI q k)) ∧ Below w.heap.size w w' := by
  have HQ := Lib.hid ((hq.alloc (Nat.le_refl _) (.cells #[.slice A q.length c] 22)).alloc (by simp) (.cells #[.int .i64 k] 2))
  have HC : 0 < q.length → Hid (∃ ad, A = some ad ∧ ∀ i, i < q.length → ((w.alloc (.cells #[.slice A q.length c] 22)).alloc (.cells #[.int .i64 k] 2)).cell? (ad.add i) = some (.int .i64 (keyAt q i))) := fun h => Lib.hid (by
    obtain ⟨ad, e, _, hc⟩ := HQ.out.cells h
    exact ⟨ad, e, hc⟩)
  have C1 := Lib.hid (show ((w.alloc (.cells #[.slice A q.length c] 22)).alloc (.cells #[.int .i64 k] 2)).cell? ⟨w.heap.size, 0, none⟩ = some (.slice A q.length c) by go_simp)
  have C2 := Lib.hid (show ((w.alloc (.cells #[.slice A q.length c] 22)).alloc (.cells #[.int .i64 k] 2)).cell? ⟨w.heap.size + 1, 0, none⟩ = some (.int .i64 k) by go_simp)
  have hG : Below w.heap.size w ((w.alloc (.cells #[.slice A q.length c] 22)).alloc (.cells #[.int .i64 k] 2)) := ((Below.refl _ _).alloc (Nat.le_refl _) _).alloc (by simp) _
  clear hq
  by_cases hr : rightB q = true
  · by_cases hz : q.length = 0
    · have F := Lib.hid (findI_at (k := k) hr (i := 0) (by omega) (fun j h => absurd h (by omega)) (fun j h1 h2 => absurd h2 (by omega)))
      have hq0 : q = [] := List.eq_nil_of_length_eq_zero hz
      subst hq0
      clear HC
      go_enter Try.func12, Try.ntmps12
      go_wp2_with (first | (go_at_call 11; refine (right_any _ _ _ _ _ HQ.out hl).mono ?_; rintro e w' ⟨rfl, n', rfl⟩) | (go_at_call 23; refine (search_none _ _).mono ?_; rintro e w' ⟨rfl, n'', rfl⟩))
      go_ret
      exact ⟨ret_int F.out.symm, by repeat (first | exact hG | apply belowD)⟩
    · obtain ⟨ad, rfl, hc⟩ := (HC (by omega)).out
      have HC2 := Lib.hid hc
      clear HC hc
      go_enter Try.func12, Try.ntmps12
      go_wp2_with (go_at_call 11; refine (right_any _ _ _ _ _ HQ.out hl).mono ?_; rintro e w' ⟨rfl, n', rfl⟩)
      refine (search_any q k ad c w.heap.size _ hl hr ?c1 ?c2 ?c3).mono ?_
      case c1 => exact C1.out
      case c2 => exact C2.out
      case c3 => exact HC2.out
      rintro e w' ⟨rfl, n'', rfl⟩
      go_wp2
      go_ret
      exact ⟨rfl, by repeat (first | exact hG | apply belowD)⟩
  · have hr' : rightB q = false := by simpa using hr
    have F := Lib.hid (findI_none (k := k) hr')
    clear hr HC
    go_enter Try.func12, Try.ntmps12
    go_wp2_with (go_at_call 11; refine (right_any _ _ _ _ _ HQ.out hl).mono ?_; rintro e w' ⟨rfl, n', rfl⟩)
    go_ret
    exact ⟨ret_int F.out.symm, by repeat (first | exact hG | apply belowD)⟩
end Go.Proofs.Ytelmehlabgnllaa
