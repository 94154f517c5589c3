/- The walks of keys, ProbeGuess and ProbeSmall. -/
import Derived.Test.YtelmehlabgnllaaKnown6
import Derived.Test.YtelmehlabgnllaaCut
import Derived.OpenShut
namespace Go.Proofs.Ytelmehlabgnllaa
set_option linter.unusedVariables false
set_option linter.unusedSimpArgs false
open Go.RowKit
attribute [local go_sem] max2_int max_two min2_int min_two

def mnI (a b : Int) : Int := if b < a then b else a
def mxI (a b : Int) : Int := if a < b then b else a

theorem guess_mono {f l x y n : Int} (n0 : 2 ≤ n) (n1 : n ≤ 65536) (h0 : f ≤ x) (h : x ≤ y) (h1 : y < l) : guessI f l x n ≤ guessI f l y n := by
  rw [guessI_in (by omega), guessI_in (by omega)]
  have gx : gapI f x = x - f := by unfold gapI; rw [if_neg (by omega)]
  have gy : gapI f y = y - f := by unfold gapI; rw [if_neg (by omega)]
  have gl : gapI f l = l - f := by unfold gapI; rw [if_neg (by omega)]
  rw [gx, gy, gl]
  have e : ∀ p : Int, p ≤ l - f → lesI p (l - f) = p := fun p hp => by unfold lesI; rw [if_neg (by omega)]
  unfold shareI
  rw [if_neg (by omega), if_neg (by omega), e _ (by omega), e _ (by omega)]
  have := Int.ediv_le_ediv (show 0 < l - f by omega) (Int.mul_le_mul_of_nonneg_right (show x - f ≤ y - f by omega) (show 0 ≤ n - 1 by omega))
  omega
theorem guess_first {f l n : Int} (n0 : 2 ≤ n) (n1 : n ≤ 65536) (h : f < l) : guessI f l f n = 1 := by
  rw [guessI_in (by omega)]
  have g : gapI f f = 0 := by unfold gapI; split <;> omega
  have gl : gapI f l = l - f := by unfold gapI; rw [if_neg (by omega)]
  rw [g, gl]
  unfold shareI lesI
  rw [if_neg (by omega)]
  split
  · omega
  · simp
theorem clamp_facts (k o a b : Int) (h : a < b) : a ≤ mnI (mxI (mnI k o) a) (b - 1) ∧ mnI (mxI (mnI k o) a) (b - 1) ≤ mnI (mxI (mxI k o) a) (b - 1) ∧ mnI (mxI (mxI k o) a) (b - 1) < b := by
  have f : ∀ x y : Int, mnI x y ≤ x ∧ mnI x y ≤ y ∧ (mnI x y = x ∨ mnI x y = y) := fun x y => by unfold mnI; split <;> omega
  have g : ∀ x y : Int, x ≤ mxI x y ∧ y ≤ mxI x y ∧ (mxI x y = x ∨ mxI x y = y) := fun x y => by unfold mxI; split <;> omega
  have f1 := f k o
  have g1 := g k o
  have g2 := g (mnI k o) a
  have g3 := g (mxI k o) a
  have f2 := f (mxI (mnI k o) a) (b - 1)
  have f3 := f (mxI (mxI k o) a) (b - 1)
  omega

set_option maxHeartbeats 2000000 in
set_option maxRecDepth 100000 in
theorem probeGuess_walk (a0 a1 a2 a3 a4 : Int) (w0 : (Lit.int .i64 a0).wf = true) (w1 : (Lit.int .i64 a1).wf = true) (w2 : (Lit.int .i64 a2).wf = true) (w3 : (Lit.int .i64 a3).wf = true) (w4 : (Lit.int .i64 a4).wf = true) (w : World) :
    Calls Try.prog 7 #[.int .i64 a0, .int .i64 a1, .int .i64 a2, .int .i64 a3, .int .i64 a4] w fun e w' => e = .returned (.bool true) ∧ Below w.heap.size w w' := by
  obtain ⟨l0, u0⟩ := Go.bounds_i64 w0
  obtain ⟨l1, u1⟩ := Go.bounds_i64 w1
  obtain ⟨l2, u2⟩ := Go.bounds_i64 w2
  obtain ⟨l3, u3⟩ := Go.bounds_i64 w3
  obtain ⟨l4, u4⟩ := Go.bounds_i64 w4
  obtain ⟨x4, y4⟩ := cut_bd a4 65535 (by omega)
  obtain ⟨n, hn⟩ : ∃ n, 2 + a4 % 65535 = n := ⟨_, rfl⟩
  have n0 : 2 ≤ n := by omega
  have n1 : n ≤ 65536 := by omega
  obtain ⟨a, ha⟩ : ∃ a, mnI a0 a1 = a := ⟨_, rfl⟩
  obtain ⟨b, hb⟩ : ∃ b, mxI a0 a1 = b := ⟨_, rfl⟩
  have pa : (if a1 < a0 then a1 else a0) = a := ha
  have pb : (if a0 < a1 then a1 else a0) = b := hb
  have hab : a ≤ b ∧ -9223372036854775808 ≤ a ∧ b ≤ 9223372036854775807 := by
    rw [← ha, ← hb]; unfold mnI mxI; split <;> split <;> omega
  obtain ⟨ab1, ab2, ab3⟩ := hab
  clear ha hb
  have hB := Below.refl w.heap.size w
  by_cases e : a = b
  · have e' : (a == b) = true := by simpa using e
    have G := guessI_none (f := a) (l := b) (k := a2) (n := n) (by omega)
    clear e
    go_enter Try.func7, Try.ntmps7
    go_wp2_with (first | (go_at_call 10; refine (known6_any _).mono ?_; rintro e w' ⟨rfl, hb⟩; replace hB := below_called hB hb; clear hb) | (go_at_call 22; refine (cut_any _ _ _ (by omega) (by omega) (by omega) (by omega)).mono ?_; rintro e w' ⟨rfl, rfl⟩) | (go_at_call 15; refine (guess_any _ _ _ _ _ (by omega) (by omega) (by omega) (by omega) (by omega) (by omega) (by omega) (by omega)).mono ?_; rintro e w' ⟨rfl, hd⟩; replace hB := below_called hB (hd.below _); clear hd))
    go_ret
    exact ⟨rfl, hB⟩
  · have e' : (a == b) = false := by simpa using e
    obtain ⟨t1, t2, t3⟩ := clamp_facts a2 a3 a b (by omega)
    have q1 : (if a3 < a2 then a3 else a2) = mnI a2 a3 := rfl
    have q2 : (if a2 < a3 then a3 else a2) = mxI a2 a3 := rfl
    have q3 : (if mnI a2 a3 < a then a else mnI a2 a3) = mxI (mnI a2 a3) a := rfl
    have q4 : (if mxI a2 a3 < a then a else mxI a2 a3) = mxI (mxI a2 a3) a := rfl
    obtain ⟨c, hc⟩ : ∃ c, b - 1 = c := ⟨_, rfl⟩
    have c1 : c < b := by omega
    have c2 : -9223372036854775808 ≤ c := by omega
    rw [hc] at t1 t2 t3
    have q5 : (if c < mxI (mnI a2 a3) a then c else mxI (mnI a2 a3) a) = mnI (mxI (mnI a2 a3) a) c := rfl
    have q6 : (if c < mxI (mxI a2 a3) a then c else mxI (mxI a2 a3) a) = mnI (mxI (mxI a2 a3) a) c := rfl
    obtain ⟨x, hx⟩ : ∃ x, mnI (mxI (mnI a2 a3) a) c = x := ⟨_, rfl⟩
    obtain ⟨y, hy⟩ : ∃ y, mnI (mxI (mxI a2 a3) a) c = y := ⟨_, rfl⟩
    rw [hx] at t1 t2 q5
    rw [hy] at t2 t3 q6
    obtain ⟨g1, g2⟩ := guessI_bd (f := a) (l := b) (k := x) (n := n) n0 n1 t1 (by omega)
    obtain ⟨g3, g4⟩ := guessI_bd (f := a) (l := b) (k := y) (n := n) n0 n1 (by omega) t3
    have g5 := guess_mono n0 n1 t1 t2 t3
    have g6 := guess_first (f := a) (l := b) n0 n1 (by omega)
    clear e hx hy
    go_enter Try.func7, Try.ntmps7
    go_wp2_with (first | (go_at_call 10; refine (known6_any _).mono ?_; rintro e w' ⟨rfl, hb⟩; replace hB := below_called hB hb; clear hb) | (go_at_call 22; refine (cut_any _ _ _ (by omega) (by omega) (by omega) (by omega)).mono ?_; rintro e w' ⟨rfl, rfl⟩) | (go_at_call 15; refine (guess_any _ _ _ _ _ (by omega) (by omega) (by omega) (by omega) (by omega) (by omega) (by omega) (by omega)).mono ?_; rintro e w' ⟨rfl, hd⟩; replace hB := below_called hB (hd.below _); clear hd))
    go_ret
    exact ⟨rfl, hB⟩

/-! ### keys -/
def atTo (l : List Int) : Nat → Int
  | 0 => -300
  | k + 1 => atTo l k + 1 + keyAt l k % 40
def keysTo (l : List Int) : Nat → List Int
  | 0 => []
  | k + 1 => keysTo l k ++ [atTo l (k + 1)]
def keysL (l : List Int) : List Int := keysTo l (min l.length 60)
theorem atTo_bd (l : List Int) : ∀ k, -300 ≤ atTo l k ∧ atTo l k ≤ -300 + 40 * k
  | 0 => by simp [atTo]
  | k + 1 => by
    have := atTo_bd l k
    have a := Int.emod_nonneg (keyAt l k) (show (40 : Int) ≠ 0 by decide)
    have b := Int.emod_lt_of_pos (keyAt l k) (show (0 : Int) < 40 by decide)
    rw [atTo]; omega
theorem atTo_lt (l : List Int) (k : Nat) : atTo l k < atTo l (k + 1) := by
  have a := Int.emod_nonneg (keyAt l k) (show (40 : Int) ≠ 0 by decide)
  rw [atTo]; omega
theorem keysTo_len (l : List Int) : ∀ k, (keysTo l k).length = k
  | 0 => rfl
  | k + 1 => by simp [keysTo, keysTo_len l k]
theorem keyAt_append_lt {a b : List Int} {i : Nat} (h : i < a.length) : keyAt (a ++ b) i = keyAt a i := by
  unfold keyAt; rw [List.getD_eq_getElem?_getD, List.getD_eq_getElem?_getD, List.getElem?_append_left h]
theorem keyAt_append_at {a : List Int} {x : Int} : keyAt (a ++ [x]) a.length = x := by
  unfold keyAt; simp
theorem keysTo_at (l : List Int) : ∀ {k i : Nat}, i < k → keyAt (keysTo l k) i = atTo l (i + 1)
  | 0, i, h => absurd h (by omega)
  | k + 1, i, h => by
    by_cases e : i = k
    · subst e
      have := keyAt_append_at (a := keysTo l i) (x := atTo l (i + 1))
      rw [keysTo_len] at this
      exact this
    · rw [keysTo, keyAt_append_lt (by rw [keysTo_len]; omega), keysTo_at l (by omega)]
theorem ascTo_of {q : List Int} : ∀ {k : Nat}, (∀ i, 1 ≤ i → i < k → keyAt q (i - 1) < keyAt q i) → ascTo q k = true
  | 0, _ => rfl
  | k + 1, h => by
    have := ascTo_of (k := k) (fun i a b => h i a (by omega))
    by_cases e : k = 0
    · subst e; rfl
    · exact ascTo_step this (by omega) (h k (by omega) (by omega))
theorem rightB_of {q : List Int} (hl : q.length ≤ 65536) (h : ∀ i, 1 ≤ i → i < q.length → keyAt q (i - 1) < keyAt q i) : rightB q = true := by
  unfold rightB asc
  rw [ascTo_of h, Bool.true_and]
  exact decide_eq_true hl
theorem keysL_len (l : List Int) : (keysL l).length = min l.length 60 := keysTo_len _ _
theorem keysL_right (l : List Int) : rightB (keysL l) = true := by
  have hl := keysL_len l
  refine rightB_of (by omega) (fun i a b => ?_)
  unfold keysL
  rw [keysTo_at l (by omega), keysTo_at l (by omega)]
  have := atTo_lt l i
  have e : i - 1 + 1 = i := by omega
  rw [e]; exact this
theorem keysL_bd (l : List Int) (i : Nat) (h : i < (keysL l).length) : -300 ≤ keyAt (keysL l) i ∧ keyAt (keysL l) i ≤ 2100 := by
  have hl := keysL_len l
  unfold keysL
  rw [keysTo_at l (by omega)]
  have := atTo_bd l (i + 1)
  omega

theorem info_int64 : (Try.prog.info? 2).map (fun i => (i.zero, i.size, i.bytes)) = some (some (.int .i64 0), 1, 8) := by kernel_rfl
def KeysRel (l : List Int) (w : World) (v t i : Value) (wr : World) : Prop := ∃ k : Nat, k ≤ l.length ∧ k ≤ 60 ∧ t = .int .i64 (atTo l k) ∧ i = .int .i64 k ∧ wr.ownsRow w.heap.size 2 1 v k ((keysTo l k).map (Value.int .i64)) ∧ Below w.heap.size w wr

set_option maxHeartbeats 2000000 in
theorem keys_any (A : Option Addr) (c : Nat) (l : List Int) (w : World) (hq : IntsAt w w.heap.size A l) (hl : l.length ≤ 140737488351232) (hw : ∀ i, i < l.length → -9223372036854775808 ≤ keyAt l i ∧ keyAt l i ≤ 9223372036854775807) :
    Calls Try.prog 21 #[.slice A l.length c] w (SomeInts (keysL l) w) := by
  obtain ⟨i0, hi0, hz0, hz1, hz2⟩ := info_parts info_int64
  have HQ := Lib.hid hq
  have HW := Lib.hid hw
  clear hq hw
  go_enter Try.func21, Try.ntmps21
  go_wp2
  go_loopw [3, 4, 5] (fun v t i wr => KeysRel l w v t i wr) (fun _ _ i _ => l.length - (intOf i).toNat)
  case atStart => unfold KeysRel; exact ⟨0, by omega, by omega, rfl, rfl, World.ownsRow_nil _ _ _ _, Below.refl _ _⟩
  case round =>
    obtain ⟨k, k1, k2, rfl, rfl, hown, hB⟩ := hrel
    have ab := atTo_bd l k
    by_cases hlt : k < l.length ∧ k < 60
    · obtain ⟨hlt1, hlt2⟩ := hlt
      obtain ⟨ad, rfl, hbl, hc⟩ := (HQ.out.below hB).cells (by omega)
      have hcell := hc k hlt1
      obtain ⟨b0, b1⟩ := HW.out k hlt1
      clear hc
      obtain ⟨x0, x1⟩ := cut_bd (keyAt l k) 40 (by omega)
      have e := Lib.hid (show atTo l (k + 1) = atTo l k + 1 + keyAt l k % 40 from rfl)
      go_wp2_with (first | (go_at_call 22; refine (cut_any _ _ _ (by omega) (by omega) (by omega) (by omega)).mono ?_; rintro e w' ⟨rfl, rfl⟩) | (at_builtin; refine wpList_append_own _ rfl _ _ 22 rfl w.heap.size 2 i0 (.int .i64 0) 1 8 Try.underlying22 hi0 hz0 hz1 hz2 rfl (by decide) _ _ _ rfl (hown.alloc _) ⟨wr.heap.size, 0, none⟩ 1 1 [.int .i64 (atTo l k + 1 + keyAt l k % 40)] rfl rfl (cell_one_new _ _ _) (by simp [Value.oneCell']) (by simp only [maxLen]; omega) (by omega) (by have := hB.size; simp; omega) ?_; intro v' w1 hown' hgrow _; have hB1 : Below w.heap.size w w1 := (hB.alloc hB.size _).grown hgrow (by have := hB.size; simp; omega) (fun g hg => (hown.lt g hg).1)))
      go_roundw
      case rel => unfold KeysRel; exact ⟨k + 1, by omega, by omega, by rw [e.out], by go_num, by rw [keysTo, e.out]; simpa using hown', hB1⟩
      case measure => simp [intOf]; omega
    · have hk : Hid (keysL l = keysTo l k) := Lib.hid (by unfold keysL; congr 1; omega)
      by_cases hlt1 : k < l.length
      · have hlt2 : ¬ k < 60 := fun h => hlt ⟨hlt1, h⟩
        have hlt3 : ¬ (k : Int) < 60 := by omega
        clear hlt hlt2
        go_wp2_with (fail)
        go_ret
        rw [hk.out]
        exact SomeInts.of_own hown hB
      · clear hlt
        go_wp2_with (fail)
        go_ret
        rw [hk.out]
        exact SomeInts.of_own hown hB

set_option maxHeartbeats 2000000 in
set_option maxRecDepth 100000 in
theorem probeSmall_walk (A : Option Addr) (c : Nat) (l : List Int) (a1 : Int) {w : World} (hq : IntsAt w w.heap.size A l) (hl : l.length * 8 ≤ 140737488351232) (hc : l.length ≤ c) (hw : ∀ i, i < l.length → -9223372036854775808 ≤ keyAt l i ∧ keyAt l i ≤ 9223372036854775807) (w1 : (Lit.int .i64 a1).wf = true) :
    Calls Try.prog 5 #[.slice A l.length c, .int .i64 a1] w fun e w' => e = .returned (.bool true) ∧ Below w.heap.size w w' := by
  obtain ⟨l1, u1⟩ := Go.bounds_i64 w1
  obtain ⟨x1, y1⟩ := cut_bd a1 1500 (by omega)
  have hR := Lib.hid (keysL_right l)
  have hlen := keysL_len l
  have HL : (keysL l).length ≤ 60 := by omega
  have HB := Lib.hid (keysL_bd l)
  have HQ := Lib.hid hq
  have HW := Lib.hid hw
  clear hq hw hlen
  obtain ⟨k, hk⟩ : ∃ k, a1 % 1500 - 350 = k := ⟨_, rfl⟩
  have k0 : -9223372036854775808 ≤ k := by omega
  have k1 : k ≤ 9223372036854775807 := by omega
  go_enter Try.func5, Try.ntmps5
  go_wp2_with (fail)
  refine (keys_any A c l w HQ.out (by omega) HW.out).mono ?_
  rintro e V1 ⟨A1, c1, rfl, h1, hB1⟩
  go_wp2_with (go_at_call 22; refine (cut_any _ _ _ (by omega) (by omega) (by omega) (by omega)).mono ?_; rintro e w' ⟨rfl, rfl⟩)
  refine (known6_any _).mono ?_
  rintro e V2 ⟨rfl, hb⟩
  have h2 := h1.called hb
  have hB2 := below_called hB1 hb
  clear h1 hb hB1
  go_wp2_with (fail)
  refine (right_any A1 c1 _ (keysL l) V2 h2 (by omega)).mono ?_
  rw [hR.out]
  rintro e V3 ⟨rfl, hd⟩
  have h3 := h2.called (hd.below _)
  have hB3 := below_called hB2 (hd.below _)
  clear h2 hd hB2
  go_wp2_with (fail)
  refine (find_any A1 c1 (keysL l) k V3 h3 (by omega)).mono ?_
  rintro e V4 ⟨rfl, hb⟩
  have h4 := h3.called hb
  have hB4 := below_called hB3 hb
  clear h3 hb hB3
  go_wp2_with (fail)
  refine (reffind_any A1 c1 _ (keysL l) k V4 h4 (by omega)).mono ?_
  rintro e V5 ⟨rfl, hd⟩
  have h5 := h4.called (hd.below _)
  have hB5 := below_called hB4 (hd.below _)
  clear h4 hd hB4
  have hw5 : ∀ i, i < (keysL l).length → -9223372036854775808 ≤ keyAt (keysL l) i ∧ keyAt (keysL l) i ≤ 9223372036854775807 := fun i hi => by have := HB.out i hi; omega
  have HW5 := Lib.hid hw5
  clear hw5
  go_wp2_with (fail)
  refine (path_any A1 c1 (keysL l) k V5 h5 (by omega) k0 k1 HW5.out).mono ?_
  rintro e V6 ⟨A2, c2, rfl, hp, hb⟩
  have h6 := h5.called hb
  have hB6 := below_called hB5 hb
  clear h5 hb hB5
  go_wp2_with (fail)
  refine (refpath_any A1 c1 (keysL l) k V6 h6 (by omega) k0 k1 HW5.out).mono ?_
  rintro e V7 ⟨A3, c3, rfl, hp3, hb⟩
  have hp2 := hp.called hb
  have hB7 := below_called hB6 hb
  clear h6 hp hb hB6
  have hlp := Lib.hid (pathI_len (keysL l) k)
  go_wp2_with (fail)
  refine (ints_same A2 A3 c2 c3 _ _ (pathI (keysL l) k) V7 hp2 hp3 (by have := hlp.out; omega)).mono ?_
  rintro e V8 ⟨rfl, hd⟩
  have hB8 := below_called hB7 (hd.below _)
  clear hp2 hp3 hd hB7
  go_wp2_with (fail)
  go_ret
  exact ⟨rfl, hB8⟩
end Go.Proofs.Ytelmehlabgnllaa
