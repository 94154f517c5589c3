/- The walks of probe.Path and of the reference's. -/
import Derived.Test.YthmcakobpjnnmaaProbe2
import Derived.Deep.QuietTactic
import Derived.BigQuiet
namespace Go.Proofs.Ythmcakobpjnnmaa
set_option linter.unusedVariables false
set_option linter.unusedSimpArgs false
open Go.RowKit

theorem IntsAt.of_own {w : World} {base : Nat} {e : TypeId} {A : Option Addr} {n c : Nat} {l : List Int} (h : w.ownsRow base e 1 (.slice A n c) n (l.map (Value.int .i64))) : n = l.length ∧ IntsAt w w.heap.size A l := by
  have hn : n = l.length := by have := h.1; simp at this; omega
  subst hn
  exact ⟨rfl, Reads.of_own h⟩
theorem quiet_add {P : Program} {f : FuncId} {args : Array Value} {w : World} {a n : Nat} {v : Value}
    (h : Calls P f args (w.drewN (a + n)) fun e w' => e = .returned v ∧ ∃ m, w' = (w.drewN (a + n)).drewN m) :
    Calls P f args (w.drewN (a + n)) fun e w'' => e = .returned v ∧ ∃ m, w'' = w.drewN (a + m) :=
  h.mono fun _ _ ⟨he, m, hm⟩ => ⟨he, n + m, by rw [hm, World.drewN_drewN, Nat.add_assoc]⟩
theorem quiet_add_same {P : Program} {f : FuncId} {args : Array Value} {w : World} {a n : Nat} {v : Value}
    (h : Calls P f args (w.drewN (a + n)) fun e w' => e = .returned v ∧ w' = w.drewN (a + n)) :
    Calls P f args (w.drewN (a + n)) fun e w'' => e = .returned v ∧ ∃ m, w'' = w.drewN (a + m) :=
  h.mono fun _ _ ⟨he, hm⟩ => ⟨he, n, hm⟩
theorem quiet_add_left {P : Program} {f : FuncId} {args : Array Value} {w : World} {a n : Nat} {v : Value}
    (h : Calls P f args (w.drewN (a + n)) fun e w' => e = .returned v ∧ w.drewN (a + n) = w') :
    Calls P f args (w.drewN (a + n)) fun e w'' => e = .returned v ∧ ∃ m, w'' = w.drewN (a + m) :=
  h.mono fun _ _ ⟨he, hm⟩ => ⟨he, n, hm.symm⟩
theorem add_zero' (a : Addr) : a.add 0 = a := by simp [Addr.add]
/-- A list of whole numbers comes back, in new memory. -/
def SomeInts (l : List Int) (w : World) (e : Ending) (w' : World) : Prop := ∃ A c, e = .returned (.slice A l.length c) ∧ IntsAt w' w'.heap.size A l ∧ Below w.heap.size w w'
theorem SomeInts.of_own {l : List Int} {w w' : World} {base : Nat} {et : TypeId} {v : Value} {n : Nat} (h : w'.ownsRow base et 1 v n (l.map (Value.int .i64))) (hb : Below w.heap.size w w') : SomeInts l w (.returned v) w' := by
  have hn : n = l.length := by have := h.1; simp at this; omega
  subst hn
  rcases h.2 with ⟨rfl, h0⟩ | ⟨g, cap, cur, rfl, _⟩
  · refine ⟨none, 0, by rw [h0], ?_, hb⟩
    have : l = [] := List.eq_nil_of_length_eq_zero h0
    subst this
    exact Reads.none_
  · exact ⟨_, cap, rfl, (IntsAt.of_own h).2, hb⟩
theorem SomeInts.nil {w w' : World} (hb : Below w.heap.size w w') : SomeInts [] w (.returned (.slice none 0 0)) w' := ⟨none, 0, rfl, Reads.none_, hb⟩

theorem info_int : (Try.prog.info? 3).map (fun i => (i.zero, i.size, i.bytes)) = some (some (.int .i64 0), 1, 8) := by kernel_rfl





def restP (q : List Int) (k : Int) (j : Nat) : List Int := if keyAt q (j - 1) ≤ k then upP q k q.length (j + 1) else downP q k (j - 1)


def UpRel (q : List Int) (k : Int) (j : Nat) (w : World) (v i : Value) (wr : World) : Prop := ∃ (x d : Nat) (L : List Int), 1 ≤ x ∧ x ≤ q.length ∧ q.length ≤ d + x ∧ L.length ≤ x + 2 ∧ i = .int .i64 x ∧ wr.ownsRow w.heap.size 3 1 v L.length (L.map (Value.int .i64)) ∧ Hid (L ++ upP q k d x = baseP q k ++ restP q k j) ∧ Below w.heap.size w wr
def DownRel (q : List Int) (k : Int) (j : Nat) (w : World) (v i : Value) (wr : World) : Prop := ∃ (x : Nat) (L : List Int), x < q.length ∧ L.length + x ≤ q.length + 2 ∧ i = .int .i64 x ∧ wr.ownsRow w.heap.size 3 1 v L.length (L.map (Value.int .i64)) ∧ Hid (L ++ downP q k x = baseP q k ++ restP q k j) ∧ Below w.heap.size w wr


set_option maxHeartbeats 2000000 in
set_option maxRecDepth 100000 in
theorem path_any (A : Option Addr) (c : Nat) (q : List Int) (k : Int) (w : World) (hq : IntsAt w w.heap.size A q) (hl : q.length ≤ 140737488351232) (k0 : -9223372036854775808 ≤ k) (k1 : k ≤ 9223372036854775807) (hw : ∀ i, i < q.length → -9223372036854775808 ≤ keyAt q i ∧ keyAt q i ≤ 9223372036854775807) :
    Calls Try.prog 23 #[.slice A q.length c, .int .i64 k] w (SomeInts (pathI q k) w) := by
  obtain ⟨i0, hi0, hz0, hz1, hz2⟩ := info_parts info_int
  have HQ := Lib.hid hq
  have HW := Lib.hid hw
  clear hw
  by_cases hz : q.length = 0
  · have hq0 : q = [] := List.eq_nil_of_length_eq_zero hz
    subst hq0
    have E : pathI [] k = [] := rfl
    rw [E]
    clear hq
    go_enter Try.func23, Try.ntmps23
    go_wp2_with (fail)
    go_ret
    exact SomeInts.nil (Below.refl _ _)
  obtain ⟨ad, rfl, hb, hc⟩ := hq.cells (by omega)
  have HC := Lib.hid hc
  have c0 := hc 0 (by omega)
  rw [add_zero'] at c0
  have cn := hc (q.length - 1) (by omega)
  have hpos : 1 ≤ q.length := by omega
  have z' : ((q.length : Int) == 0) = false := by simpa using hz
  clear hc hq
  by_cases hr : rightB q = true
  · have h6 := rightB_len hr
    by_cases h1 : k < keyAt q 0
    · have E : pathI q k = [1] := by unfold pathI; rw [if_neg (by simp [hz, hr]), if_pos (.inl h1)]
      rw [E]
      go_enter Try.func23, Try.ntmps23
      go_wp2_with (go_at_call 62; refine (right_any (some ad) c w.heap.size q w HQ.out hl).mono ?_; rw [hr]; rintro e w' ⟨rfl, n', rfl⟩)
      go_ret
      exact SomeInts.of_own (World.ownsRow_lit (e := 3) (size := 1) (w.drewN n') #[.int .i64 1] 1 (Nat.le_refl _) (by simp [maxLen]) rfl) ((belowD (Below.refl _ _) _).alloc (Nat.le_refl _) _)
    by_cases h2 : q.length = 1
    · have E : pathI q k = [1] := by unfold pathI; rw [if_neg (by simp [hz, hr]), if_pos (.inr h2)]
      have z2 : ((q.length : Int) == 1) = true := by rw [h2]; rfl
      rw [E]
      clear h2
      go_enter Try.func23, Try.ntmps23
      go_wp2_with (go_at_call 62; refine (right_any (some ad) c w.heap.size q w HQ.out hl).mono ?_; rw [hr]; rintro e w' ⟨rfl, n', rfl⟩)
      go_ret
      exact SomeInts.of_own (World.ownsRow_lit (e := 3) (size := 1) (w.drewN n') #[.int .i64 1] 1 (Nat.le_refl _) (by simp [maxLen]) rfl) ((belowD (Below.refl _ _) _).alloc (Nat.le_refl _) _)
    have z2 : ((q.length : Int) == 1) = false := by simpa using (show ¬ (q.length : Int) = 1 by omega)
    by_cases h3 : keyAt q (q.length - 1) ≤ k
    · have E : pathI q k = [1, (q.length : Int)] := by unfold pathI; rw [if_neg (by simp [hz, hr]), if_neg (by omega), if_pos h3]
      rw [E]
      clear h2 hz
      go_enter Try.func23, Try.ntmps23
      go_wp2_with (go_at_call 62; refine (right_any (some ad) c w.heap.size q w HQ.out hl).mono ?_; rw [hr]; rintro e w' ⟨rfl, n', rfl⟩)
      go_ret
      exact SomeInts.of_own (World.ownsRow_lit (e := 3) (size := 1) (w.drewN n') #[.int .i64 1, .int .i64 q.length] 2 (Nat.le_refl _) (by simp [maxLen]) rfl) ((belowD (Below.refl _ _) _).alloc (Nat.le_refl _) _)
    obtain ⟨j0, j1⟩ := guessI_bd (f := keyAt q 0) (l := keyAt q (q.length - 1)) (k := k) (n := q.length) (by omega) (by omega) (by omega) (by omega)
    obtain ⟨j, hj⟩ : ∃ j : Nat, guessI (keyAt q 0) (keyAt q (q.length - 1)) k q.length = j := ⟨(guessI (keyAt q 0) (keyAt q (q.length - 1)) k q.length).toNat, by omega⟩
    rw [hj] at j0 j1
    have jlo : 1 ≤ j := by omega
    have jhi : j < q.length := by omega
    have hJ : jI q k = j := hj
    have E : pathI q k = baseP q k ++ restP q k j := by
      unfold pathI restP; rw [if_neg (by simp [hz, hr]), if_neg (by omega), if_neg h3, hJ, Int.toNat_natCast]
    rw [E]
    obtain ⟨b0, b1⟩ := HW.out 0 (by omega)
    obtain ⟨b2, b3⟩ := HW.out (q.length - 1) (by omega)
    have cj := HC.out (j - 1) (by omega)
    have HJ := Lib.hid hJ
    clear E hJ h2 hz j0 j1
    go_enter Try.func23, Try.ntmps23
    go_wp2_with (go_at_call 62; refine (right_any (some ad) c w.heap.size q w HQ.out hl).mono ?_; rw [hr]; rintro e w' ⟨rfl, n', rfl⟩)
    obtain ⟨W, hW⟩ : ∃ W, (w.drewN n').alloc (.cells #[.int .i64 1, .int .i64 q.length] 3) = W := ⟨_, rfl⟩
    have hown : W.ownsRow w.heap.size 3 1 (.slice (some ⟨w.heap.size, 0, none⟩) 2 2) 2 [.int .i64 1, .int .i64 q.length] := by
      rw [← hW]; exact World.ownsRow_lit (e := 3) (size := 1) (w.drewN n') #[.int .i64 1, .int .i64 q.length] 2 (Nat.le_refl _) (by simp [maxLen]) rfl
    have hB : Below w.heap.size w W := by
      rw [← hW]; exact (belowD (Below.refl _ _) _).alloc (Nat.le_refl _) _
    rw [hW]
    have HCW : Hid (∀ k, k < q.length → W.cell? (ad.add k) = some (.int .i64 (keyAt q k))) := Lib.hid (fun i hi => (hB.cell (by rw [block_of_add]; exact hb)).trans (HC.out i hi))
    clear hW c0 cn cj
    have c0 := HCW.out 0 (by omega)
    rw [add_zero'] at c0
    have cn := HCW.out (q.length - 1) (by omega)
    have y1 : 0 < q.length := hpos
    have y2 : (0 : Int) < q.length := by omega
    have y3 : IntKind.i64.wrap ((q.length : Int) - 1) = (q.length : Int) - 1 := IntWalk.i64_in _ (by omega)
    have y4 : 0 ≤ (q.length : Int) - 1 := by omega
    have y5 : (q.length : Int) - 1 < q.length := by omega
    have y6 : ((q.length : Int) - 1).toNat = q.length - 1 := by omega
    go_quiet ((go_at_call 63; exact Calls.quiet_of (guess_any _ _ _ _ _ (by omega) (by omega) (by omega) (by omega) (by omega) (by omega) (by omega) (by omega))))
    clear y1 y2 y3 y4 y5 y6 c0 cn
    have hown2 : (W.drewN nq).ownsRow w.heap.size 3 1 (.slice (some ⟨w.heap.size, 0, none⟩) 2 2) 2 [.int .i64 1, .int .i64 q.length] := hown
    have hB2 := belowD hB nq
    have cj2 : (W.drewN nq).cell? (ad.add (j - 1)) = some (.int .i64 (keyAt q (j - 1))) := HCW.out (j - 1) (by omega)
    clear hown hB HCW
    generalize W.drewN nq = wr at *
    have hown := hown2
    have hB := hB2
    clear hown2 hB2
    by_cases hj1 : 1 < j
    · have HBase := Lib.hid (show baseP q k = [1, (q.length : Int), (j : Int)] by unfold baseP; rw [HJ.out, if_pos (by omega)]; rfl)
      by_cases ht : keyAt q (j - 1) ≤ k
      · have HT : Hid ([1, (q.length : Int), (j : Int)] ++ upP q k q.length (j + 1) = baseP q k ++ restP q k j) := Lib.hid (by rw [HBase.out]; unfold restP; rw [if_pos ht])
        have cx0 := HC.out (j - 1) (by omega)
        clear cj2
        go_wp2_with (at_builtin; refine wpList_append_own _ rfl _ _ 38 rfl w.heap.size 3 i0 (.int .i64 0) 1 8 Try.underlying38 hi0 hz0 hz1 hz2 rfl (by decide) _ _ _ rfl (hown.alloc _) ⟨wr.heap.size, 0, none⟩ 1 1 [.int .i64 j] rfl rfl (cell_one_new _ _ _) (by simp [Value.oneCell']) (by simp only [maxLen]; omega) (by omega) (by have := hB.size; simp; omega) ?_; intro v' w1 hown' hgrow _; have hB1 : Below w.heap.size w w1 := (hB.alloc hB.size _).grown hgrow (by have := hB.size; simp; omega) (fun g hg => (hown.lt g hg).1); have cx := (hB1.cell (p := ad.add (j - 1)) (by rw [block_of_add]; exact hb)).trans cx0)
        go_loopw [6, 8] (fun v i wr => UpRel q k j w v i wr) (fun _ i _ => q.length - (intOf i).toNat)
        case atStart => unfold UpRel; exact ⟨j + 1, q.length, [1, (q.length : Int), (j : Int)], by omega, by omega, by omega, by simp; try omega, by go_num, by simpa using hown', HT, hB1⟩
        case round =>
          obtain ⟨x, d, L, x1, x2, xd, xl, rfl, hown, HT, hB⟩ := hrel
          by_cases hlt : x < q.length
          · have cx0 := HC.out (x - 1) (by omega)
            obtain ⟨d, rfl⟩ : ∃ m, d = m + 1 := ⟨d - 1, by omega⟩
            by_cases hs : k < keyAt q (x - 1)
            · have HT2 : Hid ((L ++ [(x : Int)]) = baseP q k ++ restP q k j) := Lib.hid (by rw [← HT.out, upP, if_pos hlt, if_pos hs])
              go_wp2_with (at_builtin; refine wpList_append_own _ rfl _ _ 38 rfl w.heap.size 3 i0 (.int .i64 0) 1 8 Try.underlying38 hi0 hz0 hz1 hz2 rfl (by decide) _ _ _ rfl (hown.alloc _) ⟨wr.heap.size, 0, none⟩ 1 1 [.int .i64 x] rfl rfl (cell_one_new _ _ _) (by simp [Value.oneCell']) (by simp only [maxLen]; omega) (by omega) (by have := hB.size; simp; omega) ?_; intro v' w1 hown' hgrow _; have hB1 : Below w.heap.size w w1 := (hB.alloc hB.size _).grown hgrow (by have := hB.size; simp; omega) (fun g hg => (hown.lt g hg).1); have cx := (hB1.cell (p := ad.add (x - 1)) (by rw [block_of_add]; exact hb)).trans cx0)
              go_ret
              rw [← HT2.out]
              exact SomeInts.of_own (by simpa using hown') hB1
            · have HT2 : Hid ((L ++ [(x : Int)]) ++ upP q k d (x + 1) = baseP q k ++ restP q k j) := Lib.hid (by rw [← HT.out, upP, if_pos hlt, if_neg hs]; simp)
              go_wp2_with (at_builtin; refine wpList_append_own _ rfl _ _ 38 rfl w.heap.size 3 i0 (.int .i64 0) 1 8 Try.underlying38 hi0 hz0 hz1 hz2 rfl (by decide) _ _ _ rfl (hown.alloc _) ⟨wr.heap.size, 0, none⟩ 1 1 [.int .i64 x] rfl rfl (cell_one_new _ _ _) (by simp [Value.oneCell']) (by simp only [maxLen]; omega) (by omega) (by have := hB.size; simp; omega) ?_; intro v' w1 hown' hgrow _; have hB1 : Below w.heap.size w w1 := (hB.alloc hB.size _).grown hgrow (by have := hB.size; simp; omega) (fun g hg => (hown.lt g hg).1); have cx := (hB1.cell (p := ad.add (x - 1)) (by rw [block_of_add]; exact hb)).trans cx0)
              go_roundw
              case rel => unfold UpRel; exact ⟨x + 1, d, L ++ [(x : Int)], by omega, by omega, by omega, by simp; omega, by go_num, by simpa using hown', HT2, hB1⟩
              case measure => simp [intOf]; omega
          · have HT2 : Hid (L = baseP q k ++ restP q k j) := Lib.hid (by
              rw [← HT.out]
              cases d with
              | zero => simp [upP]
              | succ d => rw [upP, if_neg hlt]; simp)
            go_wp2_with (fail)
            go_ret
            rw [← HT2.out]
            exact SomeInts.of_own hown hB

      · have HT : Hid ([1, (q.length : Int), (j : Int)] ++ downP q k (j - 1) = baseP q k ++ restP q k j) := Lib.hid (by rw [HBase.out]; unfold restP; rw [if_neg ht])
        have cx0 := HC.out (j - 1) (by omega)
        clear cj2
        go_wp2_with (at_builtin; refine wpList_append_own _ rfl _ _ 38 rfl w.heap.size 3 i0 (.int .i64 0) 1 8 Try.underlying38 hi0 hz0 hz1 hz2 rfl (by decide) _ _ _ rfl (hown.alloc _) ⟨wr.heap.size, 0, none⟩ 1 1 [.int .i64 j] rfl rfl (cell_one_new _ _ _) (by simp [Value.oneCell']) (by simp only [maxLen]; omega) (by omega) (by have := hB.size; simp; omega) ?_; intro v' w1 hown' hgrow _; have hB1 : Below w.heap.size w w1 := (hB.alloc hB.size _).grown hgrow (by have := hB.size; simp; omega) (fun g hg => (hown.lt g hg).1); have cx := (hB1.cell (p := ad.add (j - 1)) (by rw [block_of_add]; exact hb)).trans cx0)
        go_loopw [6, 9] (fun v i wr => DownRel q k j w v i wr) (fun _ i _ => (intOf i).toNat)
        case atStart => unfold DownRel; exact ⟨j - 1, [1, (q.length : Int), (j : Int)], by omega, by simp; try omega, by congr 1; omega, by simpa using hown', HT, hB1⟩
        case round =>
          obtain ⟨x, L, x2, xl, rfl, hown, HT, hB⟩ := hrel
          by_cases hlt : 1 < x
          · have cx0 := HC.out (x - 1) (by omega)
            obtain ⟨y, rfl⟩ : ∃ y, x = y + 1 := ⟨x - 1, by omega⟩
            have ey : y + 1 - 1 = y := by omega
            rw [ey] at cx0
            have e3 : ((y + 1 : Nat) : Int) - 1 = y := by omega
            by_cases hs : keyAt q y ≤ k
            · have HT2 : Hid ((L ++ [((y + 1 : Nat) : Int)]) = baseP q k ++ restP q k j) := Lib.hid (by rw [← HT.out, downP, if_pos (by omega), if_pos hs])
              go_wp2_with (at_builtin; refine wpList_append_own _ rfl _ _ 38 rfl w.heap.size 3 i0 (.int .i64 0) 1 8 Try.underlying38 hi0 hz0 hz1 hz2 rfl (by decide) _ _ _ rfl (hown.alloc _) ⟨wr.heap.size, 0, none⟩ 1 1 [.int .i64 ((y + 1 : Nat) : Int)] rfl rfl (cell_one_new _ _ _) (by simp [Value.oneCell']) (by simp only [maxLen]; omega) (by omega) (by have := hB.size; simp; omega) ?_; intro v' w1 hown' hgrow _; have hB1 : Below w.heap.size w w1 := (hB.alloc hB.size _).grown hgrow (by have := hB.size; simp; omega) (fun g hg => (hown.lt g hg).1); have cx := (hB1.cell (p := ad.add (y)) (by rw [block_of_add]; exact hb)).trans cx0)
              go_ret
              rw [← HT2.out]
              exact SomeInts.of_own (by simpa using hown') hB1
            · have HT2 : Hid ((L ++ [((y + 1 : Nat) : Int)]) ++ downP q k y = baseP q k ++ restP q k j) := Lib.hid (by rw [← HT.out, downP, if_pos (by omega), if_neg hs]; simp)
              go_wp2_with (at_builtin; refine wpList_append_own _ rfl _ _ 38 rfl w.heap.size 3 i0 (.int .i64 0) 1 8 Try.underlying38 hi0 hz0 hz1 hz2 rfl (by decide) _ _ _ rfl (hown.alloc _) ⟨wr.heap.size, 0, none⟩ 1 1 [.int .i64 ((y + 1 : Nat) : Int)] rfl rfl (cell_one_new _ _ _) (by simp [Value.oneCell']) (by simp only [maxLen]; omega) (by omega) (by have := hB.size; simp; omega) ?_; intro v' w1 hown' hgrow _; have hB1 : Below w.heap.size w w1 := (hB.alloc hB.size _).grown hgrow (by have := hB.size; simp; omega) (fun g hg => (hown.lt g hg).1); have cx := (hB1.cell (p := ad.add (y)) (by rw [block_of_add]; exact hb)).trans cx0)
              go_roundw
              case rel => unfold DownRel; exact ⟨y, L ++ [((y + 1 : Nat) : Int)], by omega, by simp; omega, by go_num, by simpa using hown', HT2, hB1⟩
              case measure => simp [intOf]
          · have HT2 : Hid (L = baseP q k ++ restP q k j) := Lib.hid (by
              rw [← HT.out]
              rcases x with _ | _ | x
              · simp [downP]
              · simp [downP]
              · omega)
            go_wp2_with (fail)
            go_ret
            rw [← HT2.out]
            exact SomeInts.of_own hown hB

    · have HBase := Lib.hid (show baseP q k = [1, (q.length : Int)] by unfold baseP; rw [HJ.out, if_neg (by omega)]; simp)
      by_cases ht : keyAt q (j - 1) ≤ k
      · have HT : Hid ([1, (q.length : Int)] ++ upP q k q.length (j + 1) = baseP q k ++ restP q k j) := Lib.hid (by rw [HBase.out]; unfold restP; rw [if_pos ht])
        go_wp2_with (fail)
        go_loopw [6, 8] (fun v i wr => UpRel q k j w v i wr) (fun _ i _ => q.length - (intOf i).toNat)
        case atStart => unfold UpRel; exact ⟨j + 1, q.length, [1, (q.length : Int)], by omega, by omega, by omega, by simp; try omega, by go_num, by simpa using hown, HT, hB⟩
        case round =>
          obtain ⟨x, d, L, x1, x2, xd, xl, rfl, hown, HT, hB⟩ := hrel
          by_cases hlt : x < q.length
          · have cx0 := HC.out (x - 1) (by omega)
            obtain ⟨d, rfl⟩ : ∃ m, d = m + 1 := ⟨d - 1, by omega⟩
            by_cases hs : k < keyAt q (x - 1)
            · have HT2 : Hid ((L ++ [(x : Int)]) = baseP q k ++ restP q k j) := Lib.hid (by rw [← HT.out, upP, if_pos hlt, if_pos hs])
              go_wp2_with (at_builtin; refine wpList_append_own _ rfl _ _ 38 rfl w.heap.size 3 i0 (.int .i64 0) 1 8 Try.underlying38 hi0 hz0 hz1 hz2 rfl (by decide) _ _ _ rfl (hown.alloc _) ⟨wr.heap.size, 0, none⟩ 1 1 [.int .i64 x] rfl rfl (cell_one_new _ _ _) (by simp [Value.oneCell']) (by simp only [maxLen]; omega) (by omega) (by have := hB.size; simp; omega) ?_; intro v' w1 hown' hgrow _; have hB1 : Below w.heap.size w w1 := (hB.alloc hB.size _).grown hgrow (by have := hB.size; simp; omega) (fun g hg => (hown.lt g hg).1); have cx := (hB1.cell (p := ad.add (x - 1)) (by rw [block_of_add]; exact hb)).trans cx0)
              go_ret
              rw [← HT2.out]
              exact SomeInts.of_own (by simpa using hown') hB1
            · have HT2 : Hid ((L ++ [(x : Int)]) ++ upP q k d (x + 1) = baseP q k ++ restP q k j) := Lib.hid (by rw [← HT.out, upP, if_pos hlt, if_neg hs]; simp)
              go_wp2_with (at_builtin; refine wpList_append_own _ rfl _ _ 38 rfl w.heap.size 3 i0 (.int .i64 0) 1 8 Try.underlying38 hi0 hz0 hz1 hz2 rfl (by decide) _ _ _ rfl (hown.alloc _) ⟨wr.heap.size, 0, none⟩ 1 1 [.int .i64 x] rfl rfl (cell_one_new _ _ _) (by simp [Value.oneCell']) (by simp only [maxLen]; omega) (by omega) (by have := hB.size; simp; omega) ?_; intro v' w1 hown' hgrow _; have hB1 : Below w.heap.size w w1 := (hB.alloc hB.size _).grown hgrow (by have := hB.size; simp; omega) (fun g hg => (hown.lt g hg).1); have cx := (hB1.cell (p := ad.add (x - 1)) (by rw [block_of_add]; exact hb)).trans cx0)
              go_roundw
              case rel => unfold UpRel; exact ⟨x + 1, d, L ++ [(x : Int)], by omega, by omega, by omega, by simp; omega, by go_num, by simpa using hown', HT2, hB1⟩
              case measure => simp [intOf]; omega
          · have HT2 : Hid (L = baseP q k ++ restP q k j) := Lib.hid (by
              rw [← HT.out]
              cases d with
              | zero => simp [upP]
              | succ d => rw [upP, if_neg hlt]; simp)
            go_wp2_with (fail)
            go_ret
            rw [← HT2.out]
            exact SomeInts.of_own hown hB

      · have HT : Hid ([1, (q.length : Int)] ++ downP q k (j - 1) = baseP q k ++ restP q k j) := Lib.hid (by rw [HBase.out]; unfold restP; rw [if_neg ht])
        go_wp2_with (fail)
        go_loopw [6, 9] (fun v i wr => DownRel q k j w v i wr) (fun _ i _ => (intOf i).toNat)
        case atStart => unfold DownRel; exact ⟨j - 1, [1, (q.length : Int)], by omega, by simp; try omega, by congr 1; omega, by simpa using hown, HT, hB⟩
        case round =>
          obtain ⟨x, L, x2, xl, rfl, hown, HT, hB⟩ := hrel
          by_cases hlt : 1 < x
          · have cx0 := HC.out (x - 1) (by omega)
            obtain ⟨y, rfl⟩ : ∃ y, x = y + 1 := ⟨x - 1, by omega⟩
            have ey : y + 1 - 1 = y := by omega
            rw [ey] at cx0
            have e3 : ((y + 1 : Nat) : Int) - 1 = y := by omega
            by_cases hs : keyAt q y ≤ k
            · have HT2 : Hid ((L ++ [((y + 1 : Nat) : Int)]) = baseP q k ++ restP q k j) := Lib.hid (by rw [← HT.out, downP, if_pos (by omega), if_pos hs])
              go_wp2_with (at_builtin; refine wpList_append_own _ rfl _ _ 38 rfl w.heap.size 3 i0 (.int .i64 0) 1 8 Try.underlying38 hi0 hz0 hz1 hz2 rfl (by decide) _ _ _ rfl (hown.alloc _) ⟨wr.heap.size, 0, none⟩ 1 1 [.int .i64 ((y + 1 : Nat) : Int)] rfl rfl (cell_one_new _ _ _) (by simp [Value.oneCell']) (by simp only [maxLen]; omega) (by omega) (by have := hB.size; simp; omega) ?_; intro v' w1 hown' hgrow _; have hB1 : Below w.heap.size w w1 := (hB.alloc hB.size _).grown hgrow (by have := hB.size; simp; omega) (fun g hg => (hown.lt g hg).1); have cx := (hB1.cell (p := ad.add (y)) (by rw [block_of_add]; exact hb)).trans cx0)
              go_ret
              rw [← HT2.out]
              exact SomeInts.of_own (by simpa using hown') hB1
            · have HT2 : Hid ((L ++ [((y + 1 : Nat) : Int)]) ++ downP q k y = baseP q k ++ restP q k j) := Lib.hid (by rw [← HT.out, downP, if_pos (by omega), if_neg hs]; simp)
              go_wp2_with (at_builtin; refine wpList_append_own _ rfl _ _ 38 rfl w.heap.size 3 i0 (.int .i64 0) 1 8 Try.underlying38 hi0 hz0 hz1 hz2 rfl (by decide) _ _ _ rfl (hown.alloc _) ⟨wr.heap.size, 0, none⟩ 1 1 [.int .i64 ((y + 1 : Nat) : Int)] rfl rfl (cell_one_new _ _ _) (by simp [Value.oneCell']) (by simp only [maxLen]; omega) (by omega) (by have := hB.size; simp; omega) ?_; intro v' w1 hown' hgrow _; have hB1 : Below w.heap.size w w1 := (hB.alloc hB.size _).grown hgrow (by have := hB.size; simp; omega) (fun g hg => (hown.lt g hg).1); have cx := (hB1.cell (p := ad.add (y)) (by rw [block_of_add]; exact hb)).trans cx0)
              go_roundw
              case rel => unfold DownRel; exact ⟨y, L ++ [((y + 1 : Nat) : Int)], by omega, by simp; omega, by go_num, by simpa using hown', HT2, hB1⟩
              case measure => simp [intOf]
          · have HT2 : Hid (L = baseP q k ++ restP q k j) := Lib.hid (by
              rw [← HT.out]
              rcases x with _ | _ | x
              · simp [downP]
              · simp [downP]
              · omega)
            go_wp2_with (fail)
            go_ret
            rw [← HT2.out]
            exact SomeInts.of_own hown hB

  · have hr' : rightB q = false := by simpa using hr
    have E : pathI q k = [] := by unfold pathI; rw [if_pos (.inr hr')]
    rw [E]
    clear hr hz
    go_enter Try.func23, Try.ntmps23
    go_wp2_with (go_at_call 62; refine (right_any (some ad) c w.heap.size q w HQ.out hl).mono ?_; rw [hr']; rintro e w' ⟨rfl, n', rfl⟩)
    go_ret
    exact SomeInts.nil (belowD (Below.refl _ _) _)
end Go.Proofs.Ythmcakobpjnnmaa
