/- Seek in an ideal tree: how many steps it has. No program's text. -/
import Derived.Test.YtblajeildolloaaSeekM
import Derived.Test.YtblajeildolloaaPlantM
import Derived.Test.YtblajeildolloaaRun
namespace Go.Proofs.Ytblajeildolloaa
set_option linter.unusedVariables false
set_option linter.unusedSimpArgs false
open Go.RowKit

def SS.stepN (R : Int → Int) (s : SS) : Nat → SS
  | 0 => s
  | t + 1 => SS.stepN R (s.step R) t

/-- From s it is n steps to the end, which is s'. -/
inductive SS.Runs (R : Int → Int) : SS → Nat → SS → Prop
  | ends {s : SS} : s.next = 5 → SS.Runs R s 0 s
  | step {s s' : SS} {n : Nat} : s.next ≠ 5 → SS.Runs R (s.step R) n s' → SS.Runs R s (n + 1) s'
section
variable {R : Int → Int}
theorem RS.Runs.route {r r' : RS} {n : Nat} (h : RS.Runs R r n r') : ∀ (s : SS) {t : Nat} {s' : SS}, s.next = 0 → s.route = r → r.next ≠ 6 → SS.Runs R { s with route := r', next := 1, peek := some (PS.init (childAtI s.n r'.degree r'.child)) } t s' → SS.Runs R s (n + t) s' := by
  induction h with
  | ends h6 => intro s t s' h0 hr hn; exact absurd h6 hn
  | @step r r' n hn hrest ih =>
    intro s t s' h0 hr _ hs
    rw [Nat.add_right_comm]
    refine .step (by omega) ?_
    by_cases c : (r.step R).next = 6
    · have hstep := SS.step0e (R := R) h0 (by rw [hr]; exact c)
      cases hrest with
      | ends _ =>
        rw [hstep, hr, Nat.zero_add]
        exact hs
      | step h6 _ => exact absurd c h6
    · have hstep := SS.step0 (R := R) h0 (by rw [hr]; exact c)
      rw [hstep]
      refine ih { s with route := s.route.step R } h0 (by rw [hr]) c ?_
      exact hs
theorem SS.Runs.peek {s s' : SS} {a : Int} {t : Nat} (h1 : s.next = 1) (hp : s.peek = some (PS.init a)) (hk : wKind (R a) ≠ 5) (h : SS.Runs R (SS.meet { s with peek := some { PS.init a with word := R a, next := 3 } } (R a)) t s') : SS.Runs R s (t + 1) s' := by
  have e : (PS.init a).step R = { PS.init a with word := R a, next := 3 } := by
    rw [PS.step0 rfl]
    exact if_neg hk
  refine .step (by omega) ?_
  rw [SS.step1e h1 hp (by rw [e]), e]
  exact h
theorem SS.Runs.it {s s' : SS} {n : Nat} (h : SS.Runs R s n s') : (∀ t, t < n → (SS.stepN R s t).next ≠ 5) ∧ s'.next = 5 ∧ SS.stepN R s n = s' := by
  induction h with
  | ends h => exact ⟨fun t ht => absurd ht (by omega), h, rfl⟩
  | step hn _ ih =>
    refine ⟨fun t ht => ?_, ih.2.1, ih.2.2⟩
    rcases t with _ | t
    · exact hn
    · exact ih.1 t (by omega)
end
theorem wOf_parts {k a : Int} (h1 : 1 ≤ k) (h2 : k ≤ 5) (h3 : 1 ≤ a) (h4 : a ≤ 65536) : wKind (wOf k a) = k ∧ wAt (wOf k a) = a := by
  have e : wOf k a = a * 8 + k := if_pos (mayB_mk h1 h2 h3 h4)
  have hb : wB (a * 8 + k) = true := by
    unfold wB
    rw [show (a * 8 + k) % 8 = k from by omega, show (a * 8 + k) / 8 = a from by omega, mayB_mk h1 h2 h3 h4, Bool.and_true]
    exact decide_eq_true (by omega)
  rw [e]
  unfold wKind wAt
  rw [if_pos hb, if_pos hb]
  omega
theorem rdC_ext {C X : List Int} {a : Int} (h1 : 1 ≤ a) (h2 : a ≤ C.length) : rdC (C ++ X) a = rdC C a := by
  unfold rdC
  rw [if_pos ⟨h1, by simp; omega⟩, if_pos ⟨h1, h2⟩]
  exact keyAt_app1 (by omega)
theorem rdC_app {C X : List Int} {a : Int} (h1 : (C.length : Int) < a) (h2 : a ≤ C.length + X.length) : rdC (C ++ X) a = keyAt X (a - C.length - 1).toNat := by
  unfold rdC
  rw [if_pos ⟨by omega, by simp; omega⟩, keyAt_app (by omega)]
  congr 1
  omega
theorem layTo_ext {lay : List Int → List (Int × Int) → List Int × Int} (hl : ∀ C l, ∃ X, (lay C l).1 = C ++ X) (C : List Int) (l : List (Int × Int)) (i : Nat) : ∀ k : Nat, ∃ X, (layTo lay C l (i + k)).1 = (layTo lay C l i).1 ++ X
  | 0 => ⟨[], by simp⟩
  | k + 1 => by
    obtain ⟨X, hX⟩ := layTo_ext hl C l i k
    obtain ⟨Y, hY⟩ := hl (layTo lay C l (i + k)).1 ((l.drop (fromI l.length ((i + k : Nat) : Int)).toNat).take (sizeI l.length ((i + k : Nat) : Int)).toNat)
    refine ⟨X ++ Y, ?_⟩
    exact hY.trans (by rw [hX, List.append_assoc])
theorem layF_ext : ∀ (f : Nat) (C : List Int) (l : List (Int × Int)), ∃ X, (layF f C l).1 = C ++ X
  | 0, C, l => ⟨[], by simp [layF]⟩
  | f + 1, C, l => by
    unfold layF
    split
    · exact ⟨_, rfl⟩
    · split
      · exact ⟨_, rfl⟩
      · obtain ⟨X, hX⟩ := layTo_ext (lay := layF f) (layF_ext f) C l 0 (degreeI l.length).toNat
        rw [Nat.zero_add] at hX
        rw [hX]
        exact ⟨_, List.append_assoc _ _ _⟩
theorem layTo_word {lay : List Int → List (Int × Int) → List Int × Int} {C : List Int} {l : List (Int × Int)} : ∀ (i p : Nat), p < i → keyAt (layTo lay C l i).2 p = (lay (layTo lay C l p).1 ((l.drop (fromI l.length p).toNat).take (sizeI l.length p).toNat)).2
  | 0, p, h => absurd h (by omega)
  | i + 1, p, h => by
    show keyAt ((layTo lay C l i).2 ++ [_]) p = _
    by_cases c : p < i
    · rw [keyAt_app1 (by rw [layTo_words]; exact c)]
      exact layTo_word i p c
    · have e : p = i := by omega
      subst e
      rw [keyAt_app (by rw [layTo_words]; omega), layTo_words, Nat.sub_self]
      rfl
theorem keysTo_at (l : List (Int × Int)) : ∀ (i j : Nat), j < i → keyAt (keysTo l (i + 1)) j = pkey l (fromI l.length ((j + 1 : Nat) : Int)).toNat
  | 0, j, h => absurd h (by omega)
  | i + 1, j, h => by
    show keyAt (keysTo l (i + 1) ++ [_]) j = _
    by_cases c : j < i
    · rw [keyAt_app1 (by rw [keysTo_len]; exact c)]
      exact keysTo_at l i j c
    · have e : j = i := by omega
      subst e
      rw [keyAt_app (by rw [keysTo_len]; omega), keysTo_len, Nat.sub_self]
      rfl
/-- The part in which a place lies. -/
theorem raw_mono {n : Int} (h0 : 2 ≤ n) (h1 : n ≤ 16384) (m : Nat) : ∀ k : Nat, ((m + k : Nat) : Int) ≤ degreeI n → rawI n m + k ≤ rawI n ((m + k : Nat) : Int)
  | 0, _ => by simp
  | k + 1, h => by
    have ih := raw_mono h0 h1 m k (by omega)
    have st := rawI_step (n := n) (i := ((m + k : Nat) : Int)) h0 h1 (by omega) (by omega)
    have sz := (sizeI_in (n := n) (i := ((m + k : Nat) : Int)) h0 h1 (by omega) (by omega)).2.1
    have e : ((m + (k + 1) : Nat) : Int) = ((m + k : Nat) : Int) + 1 := by omega
    rw [e, st]
    omega
theorem part_of {n : Int} (h0 : 2 ≤ n) (h1 : n ≤ 16384) : ∀ (m : Nat), (m : Int) ≤ degreeI n → ∀ i : Int, 0 ≤ i → i < rawI n m → ∃ p : Nat, p < m ∧ rawI n p ≤ i ∧ i < rawI n ((p : Int) + 1)
  | 0, _, i, hi, h => by rw [show ((0 : Nat) : Int) = 0 from rfl, rawI_zero h0 h1] at h; omega
  | m + 1, hm, i, hi, h => by
    by_cases c : i < rawI n m
    · obtain ⟨p, a, b⟩ := part_of h0 h1 m (by omega) i hi c
      exact ⟨p, by omega, b⟩
    · exact ⟨m, by omega, by omega, by simpa using h⟩
theorem degreeI_mono {m n : Int} (h : m ≤ n) (h1 : n ≤ 16384) : degreeI m ≤ degreeI n := by
  by_cases c : m < 2
  · rw [degreeI_none (.inl c)]; exact degreeI_nonneg n
  · have := rootI_mono h
    have em : degreeI m = if 2 < rootI m then rootI m else 2 := if_neg (by omega)
    have en : degreeI n = if 2 < rootI n then rootI n else 2 := if_neg (by omega)
    rw [em, en]
    split <;> split <;> omega
theorem depth_part {n i : Int} (h0 : 2 ≤ n) (h1 : n ≤ 16384) (i0 : 0 ≤ i) (i1 : i < degreeI n) : 1 + depthI (sizeI n i) ≤ depthI n := by
  rw [depthI_eq h0 h1, (sizeI_in h0 h1 i0 i1).1]
  unfold maxI
  by_cases c : i < n % degreeI n
  · rw [if_pos c, if_pos (by omega)]
    split <;> omega
  · rw [if_neg c]
    split
    · split <;> omega
    · omega
theorem part_key (l : List (Int × Int)) (a n j : Nat) (h : j < n) (h2 : a + n ≤ l.length) : pkey ((l.drop a).take n) j = pkey l (a + j) ∧ pval ((l.drop a).take n) j = pval l (a + j) := by
  have e : ((l.drop a).take n).getD j (0, 0) = l.getD (a + j) (0, 0) := by
    rw [List.getD_eq_getElem?_getD, List.getD_eq_getElem?_getD, List.getElem?_take_of_lt h, List.getElem?_drop]
  unfold pkey pval
  rw [e]
  exact ⟨rfl, rfl⟩
theorem layF_kind (f : Nat) (C : List Int) (l : List (Int × Int)) (h : l.length < f) (hc : ((layF f C l).1.length : Int) ≤ 65536) : wKind (layF f C l).2 ≠ 5 := by
  cases f with
  | zero => omega
  | succ f =>
    unfold layF at hc ⊢
    split at hc
    · rename_i c; rw [if_pos c, (wOf_parts (by decide) (by decide) (by omega) (by simp at hc; omega)).1]; decide
    · rename_i c; rw [if_neg c]
      split at hc
      · rename_i c2; rw [if_pos c2, (wOf_parts (by decide) (by decide) (by omega) (by simp at hc; omega)).1]; decide
      · rename_i c2; rw [if_neg c2]
        rw [List.length_append] at hc
        have : 1 ≤ (innerW (l.length : Int) (keysTo l (degreeI l.length).toNat) (layTo (layF f) C l (degreeI l.length).toNat).2).length := by unfold innerW; simp
        show wKind (wOf 3 (((layTo (layF f) C l (degreeI l.length).toNat).1.length : Int) + 1)) ≠ 5
        rw [(wOf_parts (by decide) (by decide) (by omega) (by omega)).1]; decide
theorem few_main {R : Int → Int} {D : Int} (hD : 0 ≤ D) : ∀ (f : Nat) (C : List Int) (l : List (Int × Int)), l.length < f → 1 ≤ l.length → l.length ≤ 16384 → (∀ i j, i < j → j < l.length → pkey l i < pkey l j) → ((layF f C l).1.length : Int) ≤ 65536 →
    (∀ a : Int, (C.length : Int) < a → a ≤ (layF f C l).1.length → R a = rdC (layF f C l).1 a) → degreeI l.length ≤ D → ∀ i, i < l.length → ∀ s : SS, s.k = pkey l i →
    ∃ (t : Nat) (s' : SS), SS.Runs R (s.meet (layF f C l).2) t s' ∧ s'.value = pval l i ∧ s'.there = true ∧ (t : Int) ≤ depthI l.length * (D + 1) + 2
  | 0, C, l, h, _, _, _, _, _, _, _, _, _, _ => absurd h (by omega)
  | f + 1, C, l, h, h1, h2, ha, hc, hR, hd, i, hi, s, hk => by
    by_cases c1 : l.length = 1
    · have ei : i = 0 := by omega
      subst ei
      have e : layF (f + 1) C l = (C ++ [pkey l 0, pval l 0], wOf 2 ((C.length : Int) + 1)) := by unfold layF; rw [if_neg (by omega), if_pos c1]
      rw [e] at hc hR ⊢
      simp only [List.length_append, List.length_cons, List.length_nil] at hc hR
      obtain ⟨w1, w2⟩ := wOf_parts (k := 2) (a := (C.length : Int) + 1) (by decide) (by decide) (by omega) (by omega)
      have r1 := hR ((C.length : Int) + 1) (by omega) (by omega)
      have r2 := hR ((C.length : Int) + 1 + 1) (by omega) (by omega)
      rw [rdC_app (by omega) (by simp only [List.length_cons, List.length_nil]; omega), show ((C.length : Int) + 1 - C.length - 1).toNat = 0 from by omega] at r1
      rw [rdC_app (by omega) (by simp only [List.length_cons, List.length_nil]; omega), show ((C.length : Int) + 1 + 1 - C.length - 1).toNat = 1 from by omega] at r2
      have em : s.meet (wOf 2 ((C.length : Int) + 1)) = { s with at_ := (C.length : Int) + 1, next := 2 } := by
        unfold SS.meet; rw [if_pos w1, w2]
      show ∃ t s', SS.Runs R (s.meet (wOf 2 ((C.length : Int) + 1))) t s' ∧ _
      rw [em]
      have s1 : SS.step R { s with at_ := (C.length : Int) + 1, next := 2 } = { s with at_ := (C.length : Int) + 1, next := 3 } := by
        rw [SS.step2 rfl]
        exact if_pos (by show R ((C.length : Int) + 1) = s.k; rw [r1, hk]; rfl)
      have s2 : SS.step R { s with at_ := (C.length : Int) + 1, next := 3 } = { s with at_ := (C.length : Int) + 1, value := R ((C.length : Int) + 1 + 1), there := true, next := 5 } := SS.step3 rfl
      refine ⟨2, _, .step (by simp) (by rw [s1]; exact .step (by simp) (by rw [s2]; exact .ends rfl)), ?_, rfl, ?_⟩
      · show R ((C.length : Int) + 1 + 1) = _; rw [r2]; rfl
      · have := Int.mul_nonneg (depthI_nonneg (l.length : Int)) (show 0 ≤ D + 1 by omega)
        omega
    · have h20 : (2 : Int) ≤ l.length := by omega
      have h21 : (l.length : Int) ≤ 16384 := by omega
      obtain ⟨d0, d1, d2⟩ := degreeI_bd h20 h21
      obtain ⟨d, hdd⟩ : ∃ d : Nat, degreeI l.length = (d : Int) + 1 := ⟨(degreeI l.length).toNat - 1, by omega⟩
      have hdn : (degreeI l.length).toNat = d + 1 := by omega
      have e : layF (f + 1) C l = ((layTo (layF f) C l (d + 1)).1 ++ innerW l.length (keysTo l (d + 1)) (layTo (layF f) C l (d + 1)).2, wOf 3 (((layTo (layF f) C l (d + 1)).1.length : Int) + 1)) := by unfold layF; rw [if_neg (by omega), if_neg c1, hdn]
      rw [e] at hc hR ⊢
      have hqn := keysTo_len l d
      have hwn := layTo_words (lay := layF f) (C := C) (l := l) (d + 1)
      obtain ⟨X0, hX0⟩ := layTo_ext (lay := layF f) (layF_ext f) C l 0 (d + 1)
      rw [Nat.zero_add] at hX0
      have hX0 : (layTo (layF f) C l (d + 1)).1 = C ++ X0 := hX0
      have hcl : (C.length : Int) ≤ (layTo (layF f) C l (d + 1)).1.length := by rw [hX0, List.length_append]; omega
      have hin : (innerW l.length (keysTo l (d + 1)) (layTo (layF f) C l (d + 1)).2).length = 5 + d + (d + 1) := by unfold innerW; simp [hqn, hwn]; omega
      obtain ⟨p, p1, p2, p3⟩ := part_of h20 h21 (d + 1) (by omega) (i : Int) (by omega) (by rw [show ((d + 1 : Nat) : Int) = degreeI l.length from by omega, rawI_all h20 h21]; omega)
      have hm := hc
      rw [List.length_append, hin] at hm
      generalize hM : (layTo (layF f) C l (d + 1)).1 = M at hX0 hcl hm hR hc ⊢
      have hRi : ∀ j : Nat, j < 5 + d + (d + 1) → R ((M.length : Int) + 1 + j) = keyAt (innerW l.length (keysTo l (d + 1)) (layTo (layF f) C l (d + 1)).2) j := fun j hj => by
        rw [hR _ (by omega) (by rw [List.length_append, hin]; omega), rdC_app (by omega) (by rw [hin]; omega)]
        congr 1
        omega
      have hk0 : keyAt (innerW l.length (keysTo l (d + 1)) (layTo (layF f) C l (d + 1)).2) 0 = (d : Int) + 1 := by
        show ((layTo (layF f) C l (d + 1)).2.length : Int) = _
        rw [hwn]; omega
      have hkq : ∀ j, j < d → keyAt (innerW l.length (keysTo l (d + 1)) (layTo (layF f) C l (d + 1)).2) (5 + j) = keyAt (keysTo l (d + 1)) j := fun j hj => by
        unfold innerW
        rw [keyAt_app1 (by simp [hqn]; omega), keyAt_app (by simp)]
        congr 1; simp
      have hkc : ∀ j, j < d + 1 → keyAt (innerW l.length (keysTo l (d + 1)) (layTo (layF f) C l (d + 1)).2) (5 + d + j) = keyAt (layTo (layF f) C l (d + 1)).2 j := fun j hj => by
        unfold innerW
        rw [keyAt_app (by simp [hqn]; omega)]
        congr 1; simp [hqn]; omega
      have hraw : ∀ j : Nat, j < d → keyAt (keysTo l (d + 1)) j = pkey l (rawI l.length ((j + 1 : Nat) : Int)).toNat ∧ rawI l.length ((j + 1 : Nat) : Int) < l.length ∧ 0 ≤ rawI l.length ((j + 1 : Nat) : Int) := fun j hj => by
        have e1 := keysTo_at l d j hj
        rw [fromI_in (by omega) (by omega)] at e1
        have e2 := raw_mono h20 h21 (j + 1) 1 (by omega)
        have e3 := rawI_bd (n := (l.length : Int)) (i := ((j + 1 + 1 : Nat) : Int)) h20 h21 (by omega) (by omega)
        have e4 := rawI_bd (n := (l.length : Int)) (i := ((j + 1 : Nat) : Int)) h20 h21 (by omega) (by omega)
        exact ⟨e1, by omega, e4.1⟩
      have hright : rightB (keysTo l (d + 1)) = true := rightB_of (by rw [hqn]; omega) (fun j hj1 hj2 => by
        rw [hqn] at hj2
        obtain ⟨a1, a2, a3⟩ := hraw (j - 1) (by omega)
        obtain ⟨b1, b2, b3⟩ := hraw j hj2
        rw [a1, b1]
        have := raw_mono h20 h21 (j - 1 + 1) 1 (by omega)
        rw [show j - 1 + 1 + 1 = j + 1 from by omega] at this
        exact ha _ _ (by omega) (by omega))
      have f2 : ∀ j, j < p → keyAt (keysTo l (d + 1)) j ≤ pkey l i := fun j hj => by
        obtain ⟨a1, a2, a3⟩ := hraw j (by omega)
        have := raw_mono h20 h21 (j + 1) (p - (j + 1)) (by omega)
        rw [show j + 1 + (p - (j + 1)) = p from by omega] at this
        rw [a1]
        by_cases c : (rawI l.length ((j + 1 : Nat) : Int)).toNat = i
        · rw [c]; exact Int.le_refl _
        · exact Int.le_of_lt (ha _ _ (by omega) hi)
      have f3 : ∀ j, p ≤ j → j < (keysTo l (d + 1)).length → pkey l i < keyAt (keysTo l (d + 1)) j := fun j hj1 hj2 => by
        rw [hqn] at hj2
        obtain ⟨a1, a2, a3⟩ := hraw j hj2
        have := raw_mono h20 h21 (p + 1) (j - p) (by omega)
        rw [show p + 1 + (j - p) = j + 1 from by omega] at this
        have e2 : ((p + 1 : Nat) : Int) = (p : Int) + 1 := by omega
        rw [e2] at this
        rw [a1]
        exact ha _ _ (by omega) (by omega)
      have hnear : ∀ x : Int, 0 ≤ x → x ≤ 70000 → nearB x = true := fun x x0 x1 => by unfold nearB; simp; omega
      obtain ⟨r', hrun, he⟩ := RS.runs_all (R := R) (a := (M.length : Int) + 1) (k := pkey l i) (f := p) hright (by have := hRi 0 (by omega); rw [hk0] at this; rw [hqn]; simpa using this)
        (fun j j1 j2 => by
          rw [hqn] at j2
          have := hRi (5 + (j - 1)) (by omega)
          rw [hkq (j - 1) (by omega)] at this
          unfold keyAtI
          rw [if_pos ⟨hnear _ (by omega) (by omega), hnear _ (by omega) (by omega)⟩, ← this]
          congr 1; omega) (by rw [hqn]; omega) f2 f3
      have hpo := pathOk hright (by rw [hqn]; omega) f2 f3
      have hpl : (pathI (keysTo l (d + 1)) (pkey l i)).length ≤ d := by
        have := nodup_len _ _ hpo.once hpo.range
        rw [hqn] at this; exact this
      have hpc : (p : Int) < degreeI l.length := by omega
      obtain ⟨q1, q2, q3, q4, q5⟩ := part_len (l := l) (by omega) h2 hpc
      rw [fromI_in (by omega) hpc] at q1 q2 q5
      have hst := rawI_step (n := (l.length : Int)) (i := (p : Int)) h20 h21 (by omega) hpc
      have hcw := hRi (5 + d + p) (by omega)
      have hlw := layTo_word (lay := layF f) (C := C) (l := l) (d + 1) p (by omega)
      rw [fromI_in (by omega) hpc] at hlw
      rw [hkc p (by omega), hlw] at hcw
      obtain ⟨Y, hY⟩ := layTo_ext (lay := layF f) (layF_ext f) C l (p + 1) (d - p)
      rw [show p + 1 + (d - p) = d + 1 from by omega, hM] at hY
      obtain ⟨Z, hZ⟩ := layTo_ext (lay := layF f) (layF_ext f) C l 0 p
      rw [Nat.zero_add] at hZ
      have hZ : (layTo (layF f) C l p).1 = C ++ Z := hZ
      have hp1 : (layTo (layF f) C l (p + 1)).1 = (layF f (layTo (layF f) C l p).1 ((l.drop (rawI l.length p).toNat).take (sizeI l.length p).toNat)).1 := by
        rw [← fromI_in (n := (l.length : Int)) (i := (p : Int)) (by omega) hpc]; rfl
      rw [hp1] at hY
      generalize (layTo (layF f) C l p).1 = Cp at hcw hZ hY hp1
      generalize hlp : (l.drop (rawI l.length p).toNat).take (sizeI l.length p).toNat = lp at q1 hcw hY hp1
      have hYl : M.length = (layF f Cp lp).1.length + Y.length := by rw [hY, List.length_append]
      have hZl : C.length ≤ Cp.length := by rw [hZ, List.length_append]; omega
      have hpk : ∀ j, j < lp.length → pkey lp j = pkey l ((rawI l.length p).toNat + j) ∧ pval lp j = pval l ((rawI l.length p).toNat + j) := fun j hj => by
        rw [← hlp]
        exact part_key l _ _ j (by omega) (by omega)
      have hkk := layF_kind f Cp lp (by omega) (by omega)
      have hii : i - (rawI l.length p).toNat < lp.length := by omega
      obtain ⟨k1, k2⟩ := hpk _ hii
      rw [show (rawI l.length p).toNat + (i - (rawI l.length p).toNat) = i from by omega] at k1 k2
      obtain ⟨v1, v2⟩ := wOf_parts (k := 3) (a := (M.length : Int) + 1) (by decide) (by decide) (by omega) (by omega)
      have em : s.meet (wOf 3 ((M.length : Int) + 1)) = SS.enter { s with at_ := (M.length : Int) + 1 } ((M.length : Int) + 1) := by
        unfold SS.meet; rw [if_neg (by omega), if_pos v1, v2]
      have hca : childAtI ((M.length : Int) + 1) r'.degree r'.child = (M.length : Int) + 1 + ((5 + d + p : Nat) : Int) := by
        rw [he.degree, he.child, hqn]
        unfold childAtI
        rw [if_pos ⟨hnear _ (by omega) (by omega), hnear _ (by omega) (by omega), hnear _ (by omega) (by omega)⟩]
        omega
      obtain ⟨t, s', g1, g2, g3, g4⟩ := few_main (R := R) hD f Cp lp (by omega) (by omega) (by omega) (fun x y hxy hy => by rw [(hpk x (by omega)).1, (hpk y hy).1]; exact ha _ _ (by omega) (by omega)) (by omega)
        (fun a a1 a2 => by
          rw [hR a (by omega) (by rw [List.length_append]; omega), rdC_ext (by omega) (by omega), hY, rdC_ext (by omega) a2])
        (by rw [q1]; have := degreeI_mono (m := sizeI l.length p) (n := l.length) (by omega) h21; omega)
        (i - (rawI l.length p).toNat) hii
        { (SS.enter { s with at_ := (M.length : Int) + 1 } ((M.length : Int) + 1)) with route := r', next := 1, peek := some { PS.init (childAtI ((M.length : Int) + 1) r'.degree r'.child) with word := R (childAtI ((M.length : Int) + 1) r'.degree r'.child), next := 3 } } (hk.trans k1.symm)
      have hrun' : RS.Runs R (RS.init ((M.length : Int) + 1) s.k) (1 + (pathI (keysTo l (d + 1)) (pkey l i)).length) r' := by rw [hk]; exact hrun
      refine ⟨1 + (pathI (keysTo l (d + 1)) (pkey l i)).length + (t + 1), s', ?_, g2.trans k2, g3, ?_⟩
      · show SS.Runs R (s.meet (wOf 3 ((M.length : Int) + 1))) _ s'
        rw [em]
        refine hrun'.route _ rfl rfl (by simp [RS.init]) (SS.Runs.peek rfl rfl ?_ ?_)
        · show wKind (R (childAtI ((M.length : Int) + 1) r'.degree r'.child)) ≠ 5
          rw [hca, hcw]; exact hkk
        · show SS.Runs R (SS.meet _ (R (childAtI ((M.length : Int) + 1) r'.degree r'.child))) t s'
          have : R (childAtI ((M.length : Int) + 1) r'.degree r'.child) = (layF f Cp lp).2 := by rw [hca]; exact hcw
          rw [← this] at g1
          exact g1
      · have hdp := depth_part h20 h21 (i := (p : Int)) (Int.natCast_nonneg p) hpc
        clear hR hRi hc hm g1 hrun hrun' he hcw hlw hY hZ hM hX0 hkk hst
        rw [q1] at g4
        have hmul := Int.mul_le_mul_of_nonneg_right hdp (show 0 ≤ D + 1 by omega)
        rw [Int.add_mul, Int.one_mul] at hmul
        omega
/-- From Root, whose slot has the tree's word. -/
theorem few_top {R : Int → Int} (l : List (Int × Int)) (h1 : 2 ≤ l.length) (h2 : l.length ≤ 16384) (ha : ∀ i j, i < j → j < l.length → pkey l i < pkey l j) (hc : ((layF (l.length + 1) beginL l).1.length : Int) ≤ 65536)
    (hR : ∀ a : Int, 7 < a → a ≤ (layF (l.length + 1) beginL l).1.length → R a = rdC (layF (l.length + 1) beginL l).1 a) (r1 : R 1 = 1) (r6 : R 6 = (layF (l.length + 1) beginL l).2) (i : Nat) (hi : i < l.length) :
    ∃ (t : Nat) (s' : SS), SS.Runs R (SS.init (pkey l i)) t s' ∧ s'.value = pval l i ∧ s'.there = true ∧ (t : Int) ≤ 4 + depthI l.length * (degreeI l.length + 1) := by
  have hs1 : (RS.init 1 (pkey l i)).step R = { RS.init 1 (pkey l i) with degree := R 1, i := 1, next := 6, child := 0 } := by
    rw [RS.step0 rfl]
    exact if_pos (by show R 1 < 2; omega)
  have hrun : RS.Runs R (RS.init 1 (pkey l i)) 1 { RS.init 1 (pkey l i) with degree := R 1, i := 1, next := 6, child := 0 } := .step (by simp [RS.init]) (by rw [hs1]; exact .ends rfl)
  have hca : childAtI 1 (R 1) 0 = 6 := by rw [r1]; decide
  obtain ⟨t, s', g1, g2, g3, g4⟩ := few_main (R := R) (degreeI_nonneg (l.length : Int)) (l.length + 1) beginL l (by omega) (by omega) h2 ha hc hR (Int.le_refl _) i hi
    { SS.init (pkey l i) with route := { RS.init 1 (pkey l i) with degree := R 1, i := 1, next := 6, child := 0 }, next := 1, peek := some { PS.init (childAtI 1 (R 1) 0) with word := R (childAtI 1 (R 1) 0), next := 3 } } rfl
  refine ⟨1 + (t + 1), s', ?_, g2, g3, by omega⟩
  refine hrun.route _ rfl rfl (by simp [RS.init]) (SS.Runs.peek rfl rfl ?_ ?_)
  · show wKind (R (childAtI 1 (R 1) 0)) ≠ 5
    rw [hca, r6]; exact layF_kind _ _ _ (by omega) hc
  · show SS.Runs R (SS.meet _ (R (childAtI 1 (R 1) 0))) t s'
    have : R (childAtI 1 (R 1) 0) = (layF (l.length + 1) beginL l).2 := by rw [hca, r6]
    rw [← this] at g1
    exact g1
end Go.Proofs.Ytblajeildolloaa
