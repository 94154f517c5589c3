/- slices.Grow of nil, slices.Concat; the words of an Inner. -/
import Derived.Test.YtblajeildolloaaPath
import Derived.Test.YtblajeildolloaaMem
import Derived.Lib.AppendZeros
namespace Go.Proofs.Ytblajeildolloaa
set_option linter.unusedVariables false
set_option linter.unusedSimpArgs false
open Go.RowKit

def SomeOwn (L : List Int) (w : World) (e : Ending) (w' : World) : Prop := ∃ v, e = .returned v ∧ w'.ownsRow w.heap.size 2 1 v L.length (L.map (Value.int .i64)) ∧ Below w.heap.size w w'
theorem SomeOwn.ints {L : List Int} {w w' : World} {e : Ending} (h : SomeOwn L w e w') : SomeInts L w e w' := by
  obtain ⟨v, rfl, hO, hb⟩ := h
  exact SomeInts.of_own hO hb
set_option maxHeartbeats 1000000 in
theorem growNil_any (n : Nat) (w : World) (hn : n ≤ 1000000) :
    Calls Try.prog 57 #[.slice none 0 0, .int .i64 n] w (SomeOwn [] w) := by
  obtain ⟨i0, hi0, hz0, hz1, hz2⟩ := info_parts info_int64m
  rcases Nat.eq_zero_or_pos n with h0 | h0
  · subst h0
    go_enter Try.func57, Try.ntmps57
    go_wp2_with (fail)
    go_ret
    exact ⟨_, rfl, World.ownsRow_nil _ _ _ _, Below.refl _ _⟩
  · have hr := Lib.run_append_nil_zeros (P := Try.prog) w 40 3 0 2 i0 (.int .i64 0) .i64 .i64 Try.underlying40 Try.underlying3 hi0 hz0 n h0 (by rw [hz1]; omega) (by omega) (by rw [hz2]; omega)
    have h1 : ¬ ((n : Int) < 0) := by omega
    have h2 : (0 : Int) < n := by omega
    have hge := grownCap_ge w n 0 2
    have hle := grownCap_le_maxLen w n 0 2 (by simp only [maxLen]; omega)
    have HR := Lib.hid hr
    clear hr
    go_enter Try.func57, Try.ntmps57
    go_wp2_with (at_builtin; refine Lib.wpList_append_run w rfl _ _ 40 3 rfl (.slice none 0 0) (.int .i64 n) rfl rfl _ _ HR.out ?_)
    go_ret
    refine ⟨_, rfl, ⟨rfl, .inr ⟨w.heap.size, grownCap w n 0 2, _, rfl, Nat.le_refl _, heap_alloc_new w _, Nat.zero_le _, hle, ?_, by simp⟩⟩, ((Below.refl _ w).alloc (Nat.le_refl _) _).trans (drawn_bl (Drawn.of _ 1) _)⟩
    simp [Builtin.zeroCells]
    omega

theorem ints_one (L : List Int) : ∀ u ∈ L.map (Value.int .i64), u.oneCell' = true := fun u hu => by
  obtain ⟨x, _, rfl⟩ := List.mem_map.1 hu
  rfl
/-- A row of slices of whole numbers: for each its address, its capacity, what it reads as. -/
def rowV (r : Option Addr × Nat × List Int) : Value := .slice r.1 r.2.2.length r.2.1
structure RowsAt (w : World) (B : Nat) (A : Option Addr) (R : List (Option Addr × Nat × List Int)) : Prop where
  outer : Reads w B 1 A R.length (R.map rowV)
  inner : ∀ r ∈ R, IntsAt w B r.1 r.2.2
def flatR (R : List (Option Addr × Nat × List Int)) : List Int := R.flatMap (·.2.2)
theorem RowsAt.below {w w' : World} {B : Nat} {A : Option Addr} {R : List (Option Addr × Nat × List Int)} (h : RowsAt w B A R) (hb : Below B w w') : RowsAt w' B A R :=
  ⟨h.outer.below hb, fun r hr => (h.inner r hr).below hb⟩
theorem flatR_take {R : List (Option Addr × Nat × List Int)} {k : Nat} (h : k < R.length) : flatR (R.take (k + 1)) = flatR (R.take k) ++ R[k].2.2 := by
  unfold flatR
  rw [List.take_add_one, List.getElem?_eq_getElem h, List.flatMap_append]
  simp only [Option.toList_some, List.flatMap_cons, List.flatMap_nil, List.append_nil]
theorem flatR_le (R : List (Option Addr × Nat × List Int)) (k : Nat) : (flatR (R.take k)).length ≤ (flatR R).length := by
  have : flatR R = flatR (R.take k) ++ flatR (R.drop k) := by
    unfold flatR
    rw [← List.flatMap_append, List.take_append_drop]
  rw [this, List.length_append]
  omega
def CatRel (R : List (Option Addr × Nat × List Int)) (w : World) (v i : Value) (wr : World) : Prop := ∃ k : Nat, k ≤ R.length ∧ i = .int .i64 k ∧ wr.ownsRow w.heap.size 2 1 v (flatR (R.take k)).length ((flatR (R.take k)).map (Value.int .i64)) ∧ Below w.heap.size w wr
set_option maxRecDepth 100000 in
set_option maxHeartbeats 2000000 in
theorem concat_any (A : Option Addr) (c N : Nat) (R : List (Option Addr × Nat × List Int)) (w : World) (hN : N = R.length) (h : RowsAt w w.heap.size A R) (hl : R.length ≤ 100) (ht : (flatR R).length ≤ 1000000) :
    Calls Try.prog 40 #[.slice A N c] w (SomeOwn (flatR R) w) := by
  subst hN
  obtain ⟨i0, hi0, hz0, hz1, hz2⟩ := info_parts info_int64m
  have H := Lib.hid h
  have HT := Lib.hid ht
  clear h ht
  go_enter Try.func40, Try.ntmps40
  go_wp2_with (fail)
  go_loop [3, 11] (fun t i => ∃ k : Nat, k ≤ R.length ∧ i = .int .i64 k ∧ t = .int .i64 ((flatR (R.take k)).length : Nat)) (fun _ i => R.length - (intOf i).toNat)
  case atStart => exact ⟨0, by omega, rfl, rfl⟩
  case round =>
    obtain ⟨k, k1, rfl, rfl⟩ := hrel
    have hle := flatR_le R k
    have ht1 := HT.out
    by_cases hlt : k < R.length
    · obtain ⟨ad, hA, hbl, hcc⟩ := H.out.outer.2 (by omega)
      have hx0 := hcc k (rowV R[k]) (by rw [List.getElem?_map, List.getElem?_eq_getElem hlt]; rfl)
      have e1 := Lib.hid (flatR_take hlt)
      have hle2 := flatR_le R (k + 1)
      subst hA
      obtain ⟨⟨A1, c1, L1⟩, hr⟩ : ∃ r, R[k] = r := ⟨_, rfl⟩
      rw [hr] at hx0 e1
      have hx1 : w.cell? (ad.add k) = some (.slice A1 L1.length c1) := hx0
      rw [e1.out, List.length_append] at hle2
      have hle3 : (flatR (R.take k)).length + L1.length ≤ 1000000 := by simp only [] at hle2; omega
      have e2 : (flatR (R.take (k + 1))).length = (flatR (R.take k)).length + L1.length := by rw [e1.out, List.length_append]
      have E2 := Lib.hid e2
      clear hcc hx0 hr hle2 e2
      generalize (flatR (R.take k)).length = z at hle hle3 E2 ⊢
      go_wp2_with (fail)
      go_round
      case rel => exact ⟨k + 1, by omega, by go_num, by rw [E2.out]; go_num⟩
      case measure => simp [intOf]; omega
    · have ek : k = R.length := by omega
      subst ek
      rw [List.take_of_length_le (Nat.le_refl _)]
      go_wp2_with (fail)
      with_reducible refine (growNil_any (flatR R).length _ ht1).mono ?_
      rintro e w1 ⟨v1, rfl, hO1, hB1⟩
      have HO1 := Lib.hid hO1
      have HB1 := Lib.hid hB1
      clear hO1 hB1 hle
      obtain ⟨A0, c0, rfl⟩ := own_shape HO1.out
      go_wp2_with (fail)
      go_loopw [6, 27] (fun v i wr => CatRel R w v i wr) (fun _ i _ => R.length - (intOf i).toNat)
      case atStart => unfold CatRel; exact ⟨0, by omega, rfl, HO1.out, HB1.out⟩
      case round =>
        obtain ⟨j, j1, rfl, hO, hB⟩ := hrel
        by_cases hj : j < R.length
        · obtain ⟨ad, hA, hbl, hcc⟩ := (H.out.below hB).outer.2 (by omega)
          have hx0 := hcc j (rowV R[j]) (by rw [List.getElem?_map, List.getElem?_eq_getElem hj]; rfl)
          have hin := (H.out.below hB).inner R[j] (List.getElem_mem _)
          have e1 := Lib.hid (flatR_take hj)
          have hle2 := flatR_le R (j + 1)
          subst hA
          obtain ⟨⟨A1, c1, L1⟩, hr⟩ : ∃ r, R[j] = r := ⟨_, rfl⟩
          rw [hr] at hx0 e1 hin
          have hx1 : wr.cell? (ad.add j) = some (.slice A1 L1.length c1) := hx0
          rw [e1.out, List.length_append] at hle2
          have hle3 : (flatR (R.take j)).length + L1.length ≤ 1000000 := by simp only [] at hle2; omega
          have hsz := hB.size
          clear hcc hx0 hr hle2
          obtain ⟨M, hM⟩ : ∃ M, flatR (R.take j) = M := ⟨_, rfl⟩
          rw [hM] at hO e1 hle3
          clear hM
          go_wp2_with (at_builtin; refine wpList_append_any _ rfl _ _ 40 rfl w.heap.size 2 i0 (.int .i64 0) 1 8 Try.underlying40 hi0 hz0 hz1 hz2 rfl (by decide) _ M.length (M.map (Value.int .i64)) rfl hO w.heap.size A1 L1.length c1 (L1.map (Value.int .i64)) rfl hin (ints_one L1) ?p1 ?p2 ?p3 ?_; (case p1 => (unfold maxLen; omega)); (case p2 => omega); (case p3 => exact hsz); intro v' w2 hO2 hg hvb)
          have hB2 : Below w.heap.size w w2 := hB.grown hg hsz (fun g h => (hO.lt g h).1)
          go_roundw
          case rel =>
            unfold CatRel
            refine ⟨j + 1, by omega, by go_num, ?_, hB2⟩
            rw [e1.out, List.map_append, List.length_append]
            exact hO2
          case measure => simp [intOf]; omega
        · have ej : j = R.length := by omega
          subst ej
          rw [List.take_of_length_le (Nat.le_refl _)] at hO
          go_wp2_with (fail)
          go_ret
          exact ⟨_, rfl, hO, hB⟩
end Go.Proofs.Ytblajeildolloaa
