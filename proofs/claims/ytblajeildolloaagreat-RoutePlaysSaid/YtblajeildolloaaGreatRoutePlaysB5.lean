/- Part 5 of what the statement of RoutePlays needs: MathPath, Run, Known15, Few, Cells, Like, RouteL, RoutePl. No condition. -/
import Derived.Test.YtblajeildolloaaGreatRoutePlaysB4
import Derived.Lib.SliceRun
/- What the keys looked at are: in range, each once, and they say between which two the key lies. No program. -/
namespace Go.Proofs.YtblajeildolloaaGreat
set_option linter.unusedVariables false
set_option linter.unusedSimpArgs false

theorem upP_mem (q : List Int) (k : Int) : ∀ (d i : Nat) (x : Int), x ∈ upP q k d i → (i : Int) ≤ x ∧ x < q.length
  | 0, i, x, h => by simp [upP] at h
  | d + 1, i, x, h => by
    simp only [upP] at h
    split at h
    · rename_i hlt
      rcases List.mem_cons.1 h with rfl | h
      · omega
      · split at h
        · simp at h
        · have := upP_mem q k d (i + 1) x h; omega
    · simp at h
theorem upP_nodup (q : List Int) (k : Int) : ∀ (d i : Nat), (upP q k d i).Nodup
  | 0, i => by simp [upP]
  | d + 1, i => by
    simp only [upP]
    split
    · refine List.nodup_cons.2 ⟨fun h => ?_, ?_⟩
      · split at h
        · simp at h
        · have := (upP_mem q k d (i + 1) _ h).1; omega
      · split
        · simp
        · exact upP_nodup q k d (i + 1)
    · simp
theorem upP_has (q : List Int) (k : Int) : ∀ (d i m : Nat), q.length ≤ d + i → i ≤ m → m < q.length → (∀ y, i ≤ y → y < m → ¬ k < keyAt q (y - 1)) → (m : Int) ∈ upP q k d i
  | 0, i, m, h, h1, h2, _ => absurd h2 (by omega)
  | d + 1, i, m, h, h1, h2, h3 => by
    simp only [upP]
    rw [if_pos (by omega)]
    by_cases e : i = m
    · subst e; exact List.mem_cons_self
    · refine List.mem_cons_of_mem _ ?_
      rw [if_neg (h3 i (by omega) (by omega))]
      exact upP_has q k d (i + 1) m (by omega) (by omega) h2 (fun y a b => h3 y (by omega) b)
theorem downP_mem (q : List Int) (k : Int) : ∀ (i : Nat) (x : Int), x ∈ downP q k i → 2 ≤ x ∧ x ≤ i
  | 0, x, h => by simp [downP] at h
  | i + 1, x, h => by
    simp only [downP] at h
    split at h
    · rcases List.mem_cons.1 h with rfl | h
      · omega
      · split at h
        · simp at h
        · have := downP_mem q k i x h; omega
    · simp at h
theorem downP_nodup (q : List Int) (k : Int) : ∀ (i : Nat), (downP q k i).Nodup
  | 0 => by simp [downP]
  | i + 1 => by
    simp only [downP]
    split
    · refine List.nodup_cons.2 ⟨fun h => ?_, ?_⟩
      · split at h
        · simp at h
        · have := (downP_mem q k i _ h).2; omega
      · split
        · simp
        · exact downP_nodup q k i
    · simp
theorem downP_has (q : List Int) (k : Int) : ∀ (i m : Nat), 2 ≤ m → m ≤ i → (∀ y, m < y → y ≤ i → ¬ keyAt q (y - 1) ≤ k) → (m : Int) ∈ downP q k i
  | 0, m, h1, h2, _ => absurd h2 (by omega)
  | i + 1, m, h1, h2, h3 => by
    simp only [downP]
    rw [if_pos (by omega)]
    by_cases e : i + 1 = m
    · subst e; exact List.mem_cons_self
    · refine List.mem_cons_of_mem _ ?_
      have h4 := h3 (i + 1) (by omega) (by omega)
      have e2 : i + 1 - 1 = i := by omega
      rw [e2] at h4
      rw [if_neg h4]
      exact downP_has q k i m h1 (by omega) (fun y a b => h3 y a (by omega))

/-- The place of a key: before it all are not above, from it on all are. -/
theorem findI_split {q : List Int} {k : Int} (h : rightB q = true) : ∃ f : Nat, findI q k = f ∧ f ≤ q.length ∧ (∀ j, j < f → keyAt q j ≤ k) ∧ (∀ j, f ≤ j → j < q.length → k < keyAt q j) := by
  have : ∃ f : Nat, f ≤ q.length ∧ (∀ j, j < f → keyAt q j ≤ k) ∧ (∀ j, f ≤ j → j < q.length → k < keyAt q j) := by
    have go : ∀ n : Nat, n ≤ q.length → ∃ f : Nat, f ≤ n ∧ (∀ j, j < f → keyAt q j ≤ k) ∧ (∀ j, f ≤ j → j < n → k < keyAt q j) := by
      intro n
      induction n with
      | zero => intro _; exact ⟨0, by omega, fun j h => absurd h (by omega), fun j _ h => absurd h (by omega)⟩
      | succ n ih =>
        intro hn
        by_cases c : keyAt q n ≤ k
        · exact ⟨n + 1, by omega, fun j hj => by have := asc_le (rightB_asc h) (show j ≤ n by omega) (show n < q.length by omega); omega, fun j a b => absurd a (by omega)⟩
        · obtain ⟨f, f1, f2, f3⟩ := ih (by omega)
          refine ⟨f, by omega, f2, fun j a b => ?_⟩
          by_cases e : j = n
          · subst e; omega
          · exact f3 j a (by omega)
    exact go q.length (Nat.le_refl _)
  obtain ⟨f, f1, f2, f3⟩ := this
  exact ⟨f, findI_at h f1 f2 f3, f1, f2, f3⟩

structure PathOk (q : List Int) (k : Int) (f : Nat) : Prop where
  range : ∀ x ∈ pathI q k, 1 ≤ x ∧ x ≤ q.length
  once : (pathI q k).Nodup
  low : 0 < f → 0 < q.length → (f : Int) ∈ pathI q k
  high : f < q.length → ((f : Int) + 1) ∈ pathI q k

theorem pathOk {q : List Int} {k : Int} (h : rightB q = true) {f : Nat} (f1 : f ≤ q.length) (f2 : ∀ j, j < f → keyAt q j ≤ k) (f3 : ∀ j, f ≤ j → j < q.length → k < keyAt q j) : PathOk q k f := by
  by_cases hz : q.length = 0
  · have e : pathI q k = [] := by unfold pathI; rw [if_pos (.inl hz)]
    exact ⟨by rw [e]; simp, by rw [e]; simp, fun _ h => absurd h (by omega), fun h => absurd h (by omega)⟩
  have h0 : ¬ (q.length = 0 ∨ rightB q = false) := by simp [hz, h]
  by_cases h1 : k < keyAt q 0 ∨ q.length = 1
  · have e : pathI q k = [1] := by unfold pathI; rw [if_neg h0, if_pos h1]
    refine ⟨by rw [e]; simp; omega, by rw [e]; simp, fun a b => ?_, fun a => ?_⟩
    · have : f = 1 := by
        rcases h1 with h1 | h1
        · have := f2 0 a; omega
        · omega
      rw [e, this]; simp
    · have : f = 0 := by
        rcases h1 with h1 | h1
        · rcases Nat.eq_zero_or_pos f with g | g
          · exact g
          · have := f2 0 g; omega
        · omega
      rw [e, this]; simp
  have l2 : 2 ≤ q.length := by omega
  by_cases h2 : keyAt q (q.length - 1) ≤ k
  · have e : pathI q k = [1, (q.length : Int)] := by unfold pathI; rw [if_neg h0, if_neg h1, if_pos h2]
    have ef : f = q.length := by
      rcases Nat.lt_or_ge f q.length with g | g
      · have := f3 (q.length - 1) (by omega) (by omega); omega
      · omega
    refine ⟨by rw [e]; simp; omega, by rw [e]; simp; omega, fun _ _ => by rw [e, ef]; simp, fun g => absurd g (by omega)⟩
  have l3 := rightB_len h
  obtain ⟨j0, j1⟩ := guessI_bd (f := keyAt q 0) (l := keyAt q (q.length - 1)) (k := k) (n := q.length) (by omega) (by omega) (by omega) (by omega)
  obtain ⟨j, hj⟩ : ∃ j : Nat, guessI (keyAt q 0) (keyAt q (q.length - 1)) k q.length = j := ⟨(guessI (keyAt q 0) (keyAt q (q.length - 1)) k q.length).toNat, by omega⟩
  rw [hj] at j0 j1
  have hJ : jI q k = j := hj
  have e : pathI q k = baseP q k ++ (if keyAt q (j - 1) ≤ k then upP q k q.length (j + 1) else downP q k (j - 1)) := by
    unfold pathI; rw [if_neg h0, if_neg h1, if_neg h2, hJ, Int.toNat_natCast]
  have fpos : 0 < f := by
    rcases Nat.eq_zero_or_pos f with g | g
    · have := f3 0 (by omega) (by omega); omega
    · exact g
  have flt : f < q.length := by
    rcases Nat.lt_or_ge f q.length with g | g
    · exact g
    · have := f2 (q.length - 1) (by omega); omega
  -- the base
  have b1 : (1 : Int) ∈ baseP q k := by unfold baseP; simp
  have b2 : (q.length : Int) ∈ baseP q k := by unfold baseP; simp
  have b3 : (j : Int) ∈ baseP q k := by
    by_cases g : 1 < j
    · unfold baseP; rw [hJ, if_pos (by omega)]; simp
    · have : j = 1 := by omega
      rw [this]; exact b1
  have b4 : ∀ x ∈ baseP q k, x = 1 ∨ x = q.length ∨ (x = j ∧ 1 < j) := by
    intro x hx
    unfold baseP at hx
    rw [hJ] at hx
    split at hx
    · simp at hx; omega
    · simp at hx; omega
  have b5 : (baseP q k).Nodup := by
    unfold baseP
    rw [hJ]
    split
    · simp; omega
    · simp; omega
  by_cases c : keyAt q (j - 1) ≤ k
  · have jf : j ≤ f := by
      rcases Nat.lt_or_ge f j with g | g
      · have := f3 (j - 1) (by omega) (by omega); omega
      · exact g
    have has : ∀ m : Nat, j < m → m ≤ f + 1 → m < q.length → (m : Int) ∈ upP q k q.length (j + 1) := fun m a b d => upP_has q k _ _ m (by omega) (by omega) d (fun y y1 y2 => by have := f2 (y - 1) (by omega); omega)
    refine ⟨?_, ?_, fun _ _ => ?_, fun _ => ?_⟩
    · rw [e, if_pos c]
      intro x hx
      rcases List.mem_append.1 hx with hx | hx
      · have := b4 x hx; omega
      · have := upP_mem q k _ _ x hx; omega
    · rw [e, if_pos c]
      refine List.nodup_append.2 ⟨b5, upP_nodup q k _ _, fun x hx y hy exy => ?_⟩
      subst exy
      have a1 := b4 x hx
      have a2 := upP_mem q k _ _ x hy
      omega
    · rw [e, if_pos c]
      by_cases g : j = f
      · subst g; exact List.mem_append_left _ b3
      · exact List.mem_append_right _ (has f (by omega) (by omega) flt)
    · rw [e, if_pos c]
      by_cases g : f + 1 = q.length
      · have : (f : Int) + 1 = q.length := by omega
        rw [this]; exact List.mem_append_left _ b2
      · have := has (f + 1) (by omega) (by omega) (by omega)
        exact List.mem_append_right _ this
  · have jf : f < j := by
      rcases Nat.lt_or_ge f j with g | g
      · exact g
      · have := f2 (j - 1) (by omega); omega
    have has : ∀ m : Nat, 2 ≤ m → f ≤ m → m < j → (m : Int) ∈ downP q k (j - 1) := fun m a b d => downP_has q k _ m a (by omega) (fun y y1 y2 => by have := f3 (y - 1) (by omega) (by omega); omega)
    refine ⟨?_, ?_, fun _ _ => ?_, fun _ => ?_⟩
    · rw [e, if_neg c]
      intro x hx
      rcases List.mem_append.1 hx with hx | hx
      · have := b4 x hx; omega
      · have := downP_mem q k _ x hx; omega
    · rw [e, if_neg c]
      refine List.nodup_append.2 ⟨b5, downP_nodup q k _, fun x hx y hy exy => ?_⟩
      subst exy
      have a1 := b4 x hx
      have a2 := downP_mem q k _ x hy
      omega
    · rw [e, if_neg c]
      by_cases g : f = 1
      · rw [g]; exact List.mem_append_left _ b1
      · exact List.mem_append_right _ (has f (by omega) (by omega) jf)
    · rw [e, if_neg c]
      by_cases g : f + 1 = j
      · have : (f : Int) + 1 = j := by omega
        rw [this]; exact List.mem_append_left _ b3
      · have := has (f + 1) (by omega) (by omega) (by omega)
        exact List.mem_append_right _ this
end Go.Proofs.YtblajeildolloaaGreat

/- A frame of route over the Inner of `at`: when it is done, what it tells. -/
namespace Go.Proofs.YtblajeildolloaaGreat
set_option linter.unusedVariables false
set_option linter.unusedSimpArgs false
open Go.RowKit

theorem atL_len (q : List Int) : (atL q).length = 2 * q.length + 13 := by
  unfold atL; rw [List.length_append, innerL_len]; simp [beginL]; omega
theorem keyAt_app {a b : List Int} {i : Nat} (h : a.length ≤ i) : keyAt (a ++ b) i = keyAt b (i - a.length) := by
  unfold keyAt
  rw [List.getD_eq_getElem?_getD, List.getD_eq_getElem?_getD, List.getElem?_append_right h]
theorem keyAt_app1 {a b : List Int} {i : Nat} (h : i < a.length) : keyAt (a ++ b) i = keyAt a i := by
  unfold keyAt
  rw [List.getD_eq_getElem?_getD, List.getD_eq_getElem?_getD, List.getElem?_append_left h]
theorem at_degree (q : List Int) : rdC (atL q) 8 = (q.length : Int) + 1 := by
  have h := rdC_in (C := atL q) (a := 8) (by omega) (by rw [atL_len]; omega)
  rw [show ((8 : Nat) : Int) = 8 from rfl] at h
  rw [h]
  unfold atL
  rw [keyAt_app (by simp [beginL])]
  rfl
theorem at_key (q : List Int) (hl : q.length ≤ 1000) (i : Nat) (h1 : 1 ≤ i) (h2 : i ≤ q.length) : rdC (atL q) (keyAtI 8 i) = keyAt q (i - 1) := by
  have hk : keyAtI 8 i = ((12 + i : Nat) : Int) := by
    unfold keyAtI nearB
    rw [if_pos ⟨by decide, by simp; omega⟩]
    omega
  rw [hk, rdC_in (by omega) (by rw [atL_len]; omega)]
  unfold atL innerL
  rw [keyAt_app (by simp [beginL]; omega), List.append_assoc, keyAt_app (by simp [beginL]; omega), keyAt_app1 (by simp [beginL]; omega)]
  congr 1
  simp [beginL]
  omega
theorem all_bd {L : List Int} (h : ∀ x ∈ L, -9223372036854775808 ≤ x ∧ x ≤ 9223372036854775807) : ∀ i, i < L.length → -9223372036854775808 ≤ keyAt L i ∧ keyAt L i ≤ 9223372036854775807 := fun i hi => h _ (by
  unfold keyAt
  rw [List.getD_eq_getElem?_getD, List.getElem?_eq_getElem hi]
  exact List.getElem_mem _)
theorem bd_all {L : List Int} (h : ∀ i, i < L.length → -9223372036854775808 ≤ keyAt L i ∧ keyAt L i ≤ 9223372036854775807) : ∀ x ∈ L, -9223372036854775808 ≤ x ∧ x ≤ 9223372036854775807 := fun x hx => by
  obtain ⟨i, hi, rfl⟩ := List.getElem_of_mem hx
  have := h i hi
  unfold keyAt at this
  rw [List.getD_eq_getElem?_getD, List.getElem?_eq_getElem hi] at this
  exact this
theorem atL_bd {q : List Int} (hl : q.length ≤ 1000) (hw : ∀ i, i < q.length → -9223372036854775808 ≤ keyAt q i ∧ keyAt q i ≤ 9223372036854775807) : ∀ i, i < (atL q).length → -9223372036854775808 ≤ keyAt (atL q) i ∧ keyAt (atL q) i ≤ 9223372036854775807 := by
  refine all_bd fun x hx => ?_
  unfold atL innerL beginL at hx
  simp only [List.mem_append, List.mem_cons, List.mem_replicate, List.not_mem_nil, or_false] at hx
  have := bd_all hw x
  rcases hx with h | (h | h) | h
  · omega
  · omega
  · exact this h
  · omega
theorem nodup_len : ∀ (n : Nat) (L : List Int), L.Nodup → (∀ x ∈ L, 1 ≤ x ∧ x ≤ n) → L.length ≤ n
  | 0, L, _, h => by
    rcases L with _ | ⟨a, L⟩
    · simp
    · have := h a List.mem_cons_self; omega
  | n + 1, L, hn, h => by
    by_cases hm : ((n + 1 : Nat) : Int) ∈ L
    · have h1 := nodup_len n (L.erase ((n + 1 : Nat) : Int)) (hn.erase _) (fun x hx => by
        have hx2 := (hn.mem_erase_iff).1 hx
        have := h x hx2.2
        have := hx2.1
        omega)
      rw [List.length_erase_of_mem hm] at h1
      omega
    · have := nodup_len n L hn (fun x hx => by
        have := h x hx
        have : x ≠ ((n + 1 : Nat) : Int) := fun e => hm (e ▸ hx)
        omega)
      omega
theorem RS.up_same (s : RS) (i : Int) : (s.up i).n = s.n ∧ (s.up i).degree = s.degree := by unfold RS.up; split <;> exact ⟨rfl, rfl⟩
theorem RS.down_same (s : RS) (i : Int) : (s.down i).n = s.n ∧ (s.down i).degree = s.degree := by unfold RS.down; split <;> exact ⟨rfl, rfl⟩
theorem RS.key_same (s : RS) (q : Int) : (s.key q).n = s.n ∧ (s.key q).degree = s.degree := by
  unfold RS.key
  split
  · split
    · exact ⟨rfl, rfl⟩
    · split <;> exact ⟨rfl, rfl⟩
  · split
    · split
      · unfold RS.guess
        split
        · exact ⟨rfl, rfl⟩
        · exact RS.up_same _ _
      · exact ⟨rfl, rfl⟩
    · split
      · split
        · exact RS.down_same _ _
        · exact RS.up_same _ _
      · split
        · split
          · exact ⟨rfl, rfl⟩
          · exact RS.up_same _ _
        · split
          · split
            · exact RS.down_same _ _
            · exact ⟨rfl, rfl⟩
          · exact ⟨rfl, rfl⟩
theorem RS.it_same {R : Int → Int} {a k d : Int} (hd : R a = d) : ∀ t, (RS.it R (RS.init a k) t).n = a ∧ ((RS.it R (RS.init a k) t).next = 0 ∨ (RS.it R (RS.init a k) t).degree = d)
  | 0 => ⟨rfl, .inl rfl⟩
  | t + 1 => by
    obtain ⟨h1, h2⟩ := RS.it_same (k := k) hd t
    show ((RS.it R (RS.init a k) t).step R).n = a ∧ (((RS.it R (RS.init a k) t).step R).next = 0 ∨ ((RS.it R (RS.init a k) t).step R).degree = d)
    generalize RS.it R (RS.init a k) t = s at h1 h2 ⊢
    by_cases h0 : s.next = 0
    · rw [RS.step0 h0]
      split
      · exact ⟨h1, .inr (by show R s.n = d; rw [h1]; exact hd)⟩
      · exact ⟨h1, .inr (by show R s.n = d; rw [h1]; exact hd)⟩
    · by_cases h6 : s.next = 6
      · rw [RS.step_done h6]; exact ⟨h1, h2⟩
      · rw [RS.stepK h0 h6]
        have := RS.key_same s (R (keyAtI s.n s.i))
        exact ⟨this.1.trans h1, .inr (this.2.trans (h2.resolve_left h0))⟩
/-- The state behind so many steps. -/
def stAt (q : List Int) (k : Int) (t : Nat) : RS := RS.it (rdC (atL q)) (RS.init 8 k) t
def nOf (q : List Int) (k : Int) : Nat := 1 + (pathI q k).length
structure RunOk (q : List Int) (k : Int) (f : Nat) : Prop where
  going : ∀ t, t < nOf q k → (stAt q k t).next ≠ 6
  ended : ∀ t, nOf q k ≤ t → (stAt q k t).next = 6 ∧ (stAt q k t).degree = (q.length : Int) + 1 ∧ (stAt q k t).child = f
  inv : ∀ t, (stAt q k t).Inv
  few : nOf q k ≤ q.length + 1
  here : ∀ t, (stAt q k t).next = 6 ∨ (1 ≤ (stAt q k t).addr ∧ (stAt q k t).addr ≤ (atL q).length)
theorem runOk {q : List Int} {k : Int} (hr : rightB q = true) (hl : q.length ≤ 1000) (hw : ∀ i, i < q.length → -9223372036854775808 ≤ keyAt q i ∧ keyAt q i ≤ 9223372036854775807) (k0 : -9223372036854775808 ≤ k) (k1 : k ≤ 9223372036854775807)
    {f : Nat} (f1 : f ≤ q.length) (f2 : ∀ j, j < f → keyAt q j ≤ k) (f3 : ∀ j, f ≤ j → j < q.length → k < keyAt q j) : RunOk q k f := by
  obtain ⟨s', hrun, he⟩ := RS.runs_all (R := rdC (atL q)) (a := 8) (k := k) hr (at_degree q) (at_key q hl) f1 f2 f3
  obtain ⟨a1, a2, a3⟩ := hrun.it
  have hp := pathOk hr f1 f2 f3
  refine ⟨a1, fun t ht => ?_, fun t => (RS.Inv.init (by omega) (by omega) k0 k1).it (rdC_bd (atL_bd hl hw)) t, ?_, fun t => ?_⟩
  · have : stAt q k t = s' := a3 t ht
    rw [this]
    exact ⟨a2, he.degree, he.child⟩
  · have : (pathI q k).length ≤ q.length := by
      exact nodup_len q.length _ hp.once hp.range
    unfold nOf
    omega
  · have hI : (stAt q k t).Inv := (RS.Inv.init (by omega) (by omega) k0 k1).it (rdC_bd (atL_bd hl hw)) t
    obtain ⟨s1, s2⟩ := RS.it_same (R := rdC (atL q)) (k := k) (at_degree q) t
    have s1' : (stAt q k t).n = 8 := s1
    have s2' : (stAt q k t).next = 0 ∨ (stAt q k t).degree = (q.length : Int) + 1 := s2
    have hlen := atL_len q
    generalize stAt q k t = s at hI s1' s2' ⊢
    unfold RS.addr
    by_cases h0 : s.next = 0
    · rw [if_pos h0, s1']
      right; omega
    · by_cases h6 : s.next = 6
      · exact .inl h6
      · right
        rw [if_neg h0, s1']
        rcases hI.st with h | h | ⟨_, _, _, _, h3, h4⟩
        · exact absurd h h0
        · exact absurd h h6
        · have hd := s2'.resolve_left h0
          unfold keyAtI nearB
          rw [if_pos ⟨by decide, by simp; omega⟩]
          omega
end Go.Proofs.YtblajeildolloaaGreat

/- The walk of chapter 15's known. -/
namespace Go.Proofs.YtblajeildolloaaGreat
set_option linter.unusedVariables false
set_option linter.unusedSimpArgs false
open Go.RowKit

/-- A frame behind t steps over the memory of `at`. -/
structure OnWay (q : List Int) (k : Int) (B b fb : Nat) (v : Value) (t : Nat) (w : World) : Prop where
  mem : ∃ count odd, MemP B b v (atL q) 2000 count odd 0 w
  fr : RouteP fb (stAt q k t) w
theorem OnWay.below {q : List Int} {k : Int} {B b fb : Nat} {v : Value} {t : Nat} {w w' : World} (h : OnWay q k B b fb v t w) (hb : Below w.heap.size w w') : OnWay q k B b fb v t w' := by
  obtain ⟨c, o, hm⟩ := h.mem
  exact ⟨⟨c, o, hm.below hb⟩, h.fr.blk.below hb h.fr.blk.lt⟩
def WayPost15 (q : List Int) (k : Int) (B b fb : Nat) (v : Value) (t : Nat) (w : World) (e : Ending) (w' : World) : Prop :=
  e = .returned (.bool ((stAt q k (t + 1)).next == 6)) ∧ OnWay q k B b fb v (t + 1) w' ∧ Only [fb, b] w w'
theorem way_any {q : List Int} {k : Int} {B b fb f : Nat} {v : Value} (hl : q.length ≤ 1000) (hw : ∀ i, i < q.length → -9223372036854775808 ≤ keyAt q i ∧ keyAt q i ≤ 9223372036854775807) (hO : RunOk q k f) (t : Nat) (w : World) (h : OnWay q k B b fb v t w) :
    Calls Tryz.prog 30 #[.pointer (some ⟨fb, 0, none⟩), .pointer (some ⟨b, 0, none⟩)] w (WayPost15 q k B b fb v t w) := by
  obtain ⟨c, o, hm⟩ := h.mem
  exact (stepR_any fb b (stAt q k t) B v (atL q) 2000 c o 0 w h.fr hm (hO.inv t) (by rw [atL_len]; omega) (atL_bd hl hw)).mono fun e w' ⟨he, h1, h2, h3⟩ => ⟨he, ⟨⟨_, _, h2⟩, h1⟩, h3⟩

def q15 : List Int := [10, 20, 30, 40]
theorem q15_bd : ∀ i, i < q15.length → -9223372036854775808 ≤ keyAt q15 i ∧ keyAt q15 i ≤ 9223372036854775807 := all_bd (by decide)
theorem ok15 : RunOk q15 25 2 := runOk (by decide) (by decide) q15_bd (by decide) (by decide) (by decide) (fun j hj => by rcases j with _ | _ | j <;> first | decide | omega) (fun j h1 h2 => by
  have : j = 2 ∨ j = 3 := by simp [q15] at h2; omega
  rcases this with rfl | rfl <;> decide)
theorem n15 : nOf q15 25 = 5 := by decide
def KnownRel (w0 : World) (B b fb : Nat) (v : Value) (i : Value) (wr : World) : Prop := ∃ t : Nat, t ≤ 5 ∧ i = .int .i64 t ∧ OnWay q15 25 B b fb v t wr ∧ Below w0.heap.size w0 wr
set_option maxRecDepth 100000 in
set_option maxHeartbeats 2000000 in
theorem known15_any (w : World) : Calls Tryz.prog 24 #[] w fun e w' => e = .returned (.bool true) ∧ Below w.heap.size w w' := by
  have hq : IntsAt (w.alloc (.cells #[.int .i64 10, .int .i64 20, .int .i64 30, .int .i64 40] 2)) (w.alloc (.cells #[.int .i64 10, .int .i64 20, .int .i64 30, .int .i64 40] 2)).heap.size (some ⟨w.heap.size, 0, none⟩) q15 := (ints_row w 2 q15).more (by simp)
  have hB0 := (Below.refl w.heap.size w).alloc (Nat.le_refl _) (.cells #[.int .i64 10, .int .i64 20, .int .i64 30, .int .i64 40] 2)
  have HQ := Lib.hid hq
  clear hq
  go_enter Tryz.func24, Tryz.ntmps24
  go_wp2_with (fail)
  have hs0 : w.heap.size < (w.alloc (.cells #[.int .i64 10, .int .i64 20, .int .i64 30, .int .i64 40] 2)).heap.size := by simp
  generalize w.alloc (.cells #[.int .i64 10, .int .i64 20, .int .i64 30, .int .i64 40] 2) = w0 at HQ hB0 hs0 ⊢
  with_reducible refine (at_any _ 4 4 q15 _ (by kernel_rfl) HQ.out (by decide)).mono ?_
  rintro e w1 ⟨v, rfl, hm, hb⟩
  have hB1 := hB0.trans (hb.mono (by omega))
  have HM := Lib.hid hm
  have hz1 : w0.heap.size < w1.heap.size := hm.blk.lt
  clear hb hm HQ
  generalize w0.heap.size = b at HM hz1 hs0 ⊢
  go_wp2_with (fail)
  with_reducible refine (newR_any 1 5 _).mono ?_
  rintro e w2 ⟨rfl, hf, hb⟩
  have hB2 := hB1.trans (hb.mono hB1.size)
  have HM2 := Lib.hid (HM.out.below hb)
  have HF := Lib.hid hf
  have hz2 : w1.heap.size < w2.heap.size := hf.blk.lt
  clear hb hf HM
  go_wp2_with (fail)
  with_reducible refine (stepR_any w1.heap.size b (RS.init 1 5) b v (atL q15) 2000 3 0 0 _ HF.out HM2.out (RS.Inv.init (by omega) (by omega) (by omega) (by omega)) (by rw [atL_len]; decide) (atL_bd (by decide) q15_bd)).mono ?_
  rintro e w3 ⟨rfl, hf3, hm3, o3⟩
  have es : (RS.init 1 5).step (rdC (atL q15)) = ⟨6, 1, 5, 1, 1, 0, 0⟩ := by rfl
  rw [es] at hf3 ⊢
  have hB3 := hB2.trans (o3.below (B := w.heap.size) (by simp; omega) hB2.size)
  have hm4 : MemP b b v (atL q15) 2000 _ _ 0 w3 := hm3
  have HM3 := Lib.hid hm4
  have HF3 := Lib.hid hf3
  have hz3 := o3.size
  clear hf3 hm3 hm4 o3 es HF HM2
  have en : ((6 : Int) == 6) = true := rfl
  go_wp2_with (fail)
  with_reducible refine (degree_any _ _ _ HF3.out rfl).mono ?_
  rintro e w4 ⟨rfl, rfl⟩
  go_wp2_with (fail)
  with_reducible refine (child_any _ _ _ HF3.out).mono ?_
  rintro e w4 ⟨rfl, rfl⟩
  go_wp2_with (fail)
  with_reducible refine (newR_any 8 25 _).mono ?_
  rintro e w4 ⟨rfl, hf, hb⟩
  have hB4 := hB3.trans (hb.mono hB3.size)
  have HW := Lib.hid (show OnWay q15 25 b b w3.heap.size v 0 w4 from ⟨⟨_, _, HM3.out.below hb⟩, hf⟩)
  clear hb hf HM3 HF3
  generalize w3.heap.size = fb at hz3 HW ⊢
  go_wp2_with (fail)
  go_loopw [4] (fun i wr => KnownRel w b b fb v i wr) (fun i _ => 5 - (intOf i).toNat)
  case atStart => unfold KnownRel; exact ⟨0, by omega, rfl, HW.out, hB4⟩
  case round =>
    obtain ⟨t, t1, rfl, hW, hB⟩ := hrel
    clear HW hB4
    by_cases hlt : t < 5
    · have HW := Lib.hid hW
      clear hW
      go_wp2_with (fail)
      with_reducible refine (way_any (by decide) q15_bd ok15 t _ HW.out).mono ?_
      rintro e w5 ⟨rfl, h5, o5⟩
      have hB5 := hB.trans (o5.below (B := w.heap.size) (by simp; omega) hB.size)
      have H5 := Lib.hid h5
      have en : ((stAt q15 25 (t + 1)).next == 6) = ((t : Int) == 4) := by
        by_cases e : t = 4
        · subst e
          have := (ok15.ended 5 (by rw [n15]; omega)).1
          rw [this]; rfl
        · have := ok15.going (t + 1) (by rw [n15]; omega)
          have e2 : ((t : Int) == 4) = false := by simpa using (by omega : ¬ (t : Int) = 4)
          rw [e2]
          simpa using this
      rw [en]
      clear en h5 o5 HW
      go_wp2_with (fail)
      go_roundw
      case rel => unfold KnownRel; exact ⟨t + 1, by omega, by go_num, H5.out, hB5⟩
      case measure => simp [intOf]; omega
    · have et : t = 5 := by omega
      subst et
      obtain ⟨e1, e2, e3⟩ := ok15.ended 5 (by rw [n15]; omega)
      have HF := Lib.hid hW.fr
      have E1 := Lib.hid e1
      have E2 := Lib.hid e2
      have E3 := Lib.hid e3
      clear hW e1 e2 e3
      go_wp2_with (fail)
      with_reducible refine (degree_any _ _ _ HF.out E1.out).mono ?_
      rintro e w5 ⟨rfl, rfl⟩
      rw [E2.out]
      go_wp2_with (fail)
      with_reducible refine (child_any _ _ _ HF.out).mono ?_
      rintro e w5 ⟨rfl, rfl⟩
      rw [E3.out]
      go_wp2_with (fail)
      with_reducible refine (done_any _ _ _ HF.out).mono ?_
      rintro e w5 ⟨rfl, rfl⟩
      rw [E1.out]
      go_wp2_with (fail)
      go_ret
      exact ⟨rfl, hB⟩
end Go.Proofs.YtblajeildolloaaGreat

/- The walk of RouteFew. -/
namespace Go.Proofs.YtblajeildolloaaGreat
set_option linter.unusedVariables false
set_option linter.unusedSimpArgs false
open Go.RowKit

/-- The same, with the count. -/
structure OnWayC (q : List Int) (k : Int) (B b fb : Nat) (v : Value) (t : Nat) (w : World) : Prop where
  mem : MemP B b v (atL q) 2000 (3 + t) 0 0 w
  fr : RouteP fb (stAt q k t) w
theorem OnWayC.below {q : List Int} {k : Int} {B b fb : Nat} {v : Value} {t : Nat} {w w' : World} (h : OnWayC q k B b fb v t w) (hb : Below w.heap.size w w') : OnWayC q k B b fb v t w' :=
  ⟨h.mem.below hb, h.fr.blk.below hb h.fr.blk.lt⟩
theorem wayC_any {q : List Int} {k : Int} {B b fb f : Nat} {v : Value} (hl : q.length ≤ 1000) (hw : ∀ i, i < q.length → -9223372036854775808 ≤ keyAt q i ∧ keyAt q i ≤ 9223372036854775807) (hO : RunOk q k f) (t : Nat) (ht : t < nOf q k) (w : World) (h : OnWayC q k B b fb v t w) :
    Calls Tryz.prog 30 #[.pointer (some ⟨fb, 0, none⟩), .pointer (some ⟨b, 0, none⟩)] w fun e w' => e = .returned (.bool ((stAt q k (t + 1)).next == 6)) ∧ OnWayC q k B b fb v (t + 1) w' ∧ Only [fb, b] w w' := by
  have hn : t ≤ 1001 := by have := hO.few; omega
  refine (stepR_any fb b (stAt q k t) B v (atL q) 2000 (3 + t) 0 0 w h.fr h.mem (hO.inv t) (by rw [atL_len]; omega) (atL_bd hl hw)).mono fun e w' ⟨he, h1, h2, h3⟩ => ⟨he, ⟨?_, h1⟩, h3⟩
  rw [if_neg (hO.going t ht), if_pos (hO.here t), bump_eq (by omega) (by omega)] at h2
  have e : (3 : Int) + t + 1 = 3 + ((t + 1 : Nat) : Int) := by omega
  rw [e] at h2
  exact h2
def FewRel (q : List Int) (k : Int) (w0 : World) (B b fb : Nat) (v : Value) (i : Value) (wr : World) : Prop := ∃ t : Nat, t < nOf q k ∧ i = .int .i64 ((t : Int) + 1) ∧ OnWayC q k B b fb v t wr ∧ Below w0.heap.size w0 wr
end Go.Proofs.YtblajeildolloaaGreat

/- Mem.Cells: a copy of what the cells hold; the reference's Words. -/
namespace Go.Proofs.YtblajeildolloaaGreat
set_option linter.unusedVariables false
set_option linter.unusedSimpArgs false
open Go.RowKit

set_option maxRecDepth 100000 in
set_option maxHeartbeats 1000000 in
theorem sliceClone_any (A : Option Addr) (c N : Nat) (L : List Int) (w : World) (hN : N = L.length) (h : IntsAt w w.heap.size A L) (hl : L.length ≤ 1000000) :
    Calls Tryz.prog 89 #[.slice A N c] w (SomeOwn L w) := by
  subst hN
  have qT : ∀ (w : World) (a : Option Addr) (n c n' c' : Nat), (binOp .eql 22 (.slice a n c) (.slice none n' c')).run Tryz.prog w = .ok (.bool a.isNone) w := fun w a n c n' c' => Lib.run_eql_slice_nil w _ _ a n c n' c' Tryz.underlying22
  obtain ⟨i0, hi0, hz0, hz1, hz2⟩ := info_parts info_int64m
  rcases A with _ | ad
  · have h0 : L = [] := by
      rcases L with _ | ⟨x, L⟩
      · rfl
      · obtain ⟨ad, e, _⟩ := h.cells (by simp)
        cases e
    subst h0
    clear h
    go_enter Tryz.func89, Tryz.ntmps89
    go_wp2_with (fail)
    go_ret
    exact ⟨_, rfl, World.ownsRow_nil _ _ _ _, Below.refl _ _⟩
  · have H := Lib.hid h
    clear h
    go_enter Tryz.func89, Tryz.ntmps89
    have hO := Lib.hid (World.ownsRow_lit (base := w.heap.size) (e := 2) (size := 1) w #[] 0 (Nat.le_refl _) (by simp [maxLen]) rfl)
    have hB := (Below.refl w.heap.size w).alloc (Nat.le_refl _) (.cells #[] 2)
    have hin := H.out.below hB
    have hsz := hB.size
    go_wp2_with (at_builtin; refine wpList_append_any _ rfl _ _ 22 rfl w.heap.size 2 i0 (.int .i64 0) 1 8 Tryz.underlying22 hi0 hz0 hz1 hz2 rfl (by decide) _ 0 [] rfl hO.out w.heap.size (some ad) L.length c (L.map (Value.int .i64)) rfl hin (ints_one L) ?p1 ?p2 ?p3 ?_; (case p1 => (unfold maxLen; omega)); (case p2 => omega); (case p3 => exact hsz); intro v' w2 hO2 hg hvb)
    have hB2 : Below w.heap.size w w2 := hB.grown hg hsz (fun g h => (hO.out.lt g h).1)
    go_wp2_with (fail)
    go_ret
    refine ⟨_, rfl, ?_, hB2⟩
    simpa using hO2

set_option maxHeartbeats 1000000 in
theorem cells_any (B b : Nat) (v : Value) (C : List Int) (size count odd ref : Int) (w : World) (h : MemP B b v C size count odd ref w) (hC : C.length ≤ 1000000) :
    Calls Tryz.prog 27 #[.pointer (some ⟨b, 0, none⟩)] w (SomeOwn C w) := by
  obtain ⟨A, c, rfl⟩ := own_shape h.own
  have c0 : w.cell? ⟨b, 0, none⟩ = some (.slice A C.length c) := h.blk.cell 0
  have HI := Lib.hid (IntsAt.of_own h.own).2
  clear h
  go_enter Tryz.func27, Tryz.ntmps27
  go_wp2_with (fail)
  with_reducible refine (sliceClone_any A c C.length C _ rfl HI.out hC).mono ?_
  rintro e w1 ⟨v, rfl, hO, hB⟩
  go_wp2_with (fail)
  go_ret
  exact ⟨v, rfl, hO, hB⟩
set_option maxHeartbeats 1000000 in
set_option maxRecDepth 100000 in
theorem words15_any (A A2 : Option Addr) (c c2 N N2 B : Nat) (q : List Int) (w : World) (hN : N = q.length) (hN2 : N2 = q.length) (h1 : IntsAt w B A q) (h2 : IntsAt w B A2 q) (hl : q.length ≤ 1000000) :
    Calls Tryz.prog 97 #[.slice A N c, .slice A2 N2 c2] w fun e w' => e = .returned (.bool true) ∧ Drawn w w' := by
  subst hN
  subst hN2
  have H1 := Lib.hid h1
  have H2 := Lib.hid h2
  clear h1 h2
  go_enter Tryz.func97, Tryz.ntmps97
  go_wp2
  go_loopw [5] (fun v wr => ∃ (i m : Nat), i ≤ q.length ∧ v = .int .i64 i ∧ wr = w.drewN m) (fun v _ => q.length - (intOf v).toNat)
  case atStart => exact ⟨0, 0, by omega, rfl, rfl⟩
  case round =>
    obtain ⟨i, m, i1, rfl, rfl⟩ := hrel
    by_cases hlt : i < q.length
    · obtain ⟨ad, rfl, _, hc⟩ := H1.out.cells (by omega)
      have hcell := hc i hlt
      clear hc
      obtain ⟨ad2, rfl, _, hc⟩ := H2.out.cells (by omega)
      have hcell2 := hc i hlt
      clear hc
      generalize keyAt q i = x at hcell hcell2
      go_wp2
      go_quiet (fail)
      go_wp2
      go_roundw
      case rel => exact ⟨i + 1, _, by omega, by go_num, rfl⟩
      case measure => simp [intOf]; omega
    · go_wp2
      go_ret
      exact ⟨rfl, Drawn.of _ _⟩
end Go.Proofs.YtblajeildolloaaGreat

/- Whether two memories are alike: the program's and the document's. -/
namespace Go.Proofs.YtblajeildolloaaGreat
set_option linter.unusedVariables false
set_option linter.unusedSimpArgs false
open Go.RowKit

set_option maxRecDepth 100000 in
set_option maxHeartbeats 2000000 in
theorem like_any (F : Nat → Prop) (bm B b : Nat) (v : Value) (C : List Int) (size count odd ref : Int) (w : World) (h : MemP B b v C size count odd ref w) (hm : M7 F bm C size w) (hC : C.length ≤ 1000000) :
    Calls Tryz.prog 35 #[.pointer (some ⟨b, 0, none⟩), .pointer (some ⟨bm, 0, none⟩)] w fun e w' => e = .returned (.bool true) ∧ Below w.heap.size w w' := by
  obtain ⟨mv, cnt, od, rf, hq⟩ := hm
  obtain ⟨A, c, rfl⟩ := own_shape hq.row
  have m1 : w.cell? ⟨bm, 1, none⟩ = some (.slice A C.length c) := hq.blk.cell 1
  have m0 : w.cell? ⟨bm, 0, none⟩ = some (.int .i64 size) := hq.blk.cell 0
  have hlt := hq.blk.lt
  have hw0 := Below.refl w.heap.size w
  have H := Lib.hid h
  have HQ := Lib.hid hq
  clear h hq
  go_enter Tryz.func35, Tryz.ntmps35
  go_wp2
  have hd1 : decide ((C.length : Int) = C.length) = true := decide_eq_true rfl
  have hd2 : decide (size = size) = true := decide_eq_true rfl
  have HD : Hid (MemP B b v C size count odd ref w.drew) := Lib.hid (H.out.below (drawn_bl (Drawn.of w 1) _))
  go_region_held3 (fun w' => w'.cell? ⟨bm, 1, none⟩ = some (.slice A C.length c) ∧ w'.cell? ⟨bm, 0, none⟩ = some (.int .i64 size)) (first | go_keep | exact K1.out | exact K2.out) (first | (go_at_call 27; (with_reducible refine (cells_any _ _ _ _ _ _ _ _ _ HD.out hC).mono ?_); rintro e w1 ⟨u, rfl, hu, hb⟩; obtain ⟨A1, c1, rfl⟩ := own_shape hu; have HB1 := Lib.hid (belowDrew hb); have HU := Lib.hid hu; have K1 : Hid (w1.cell? ⟨bm, 1, none⟩ = some (.slice A C.length c) ∧ w1.cell? ⟨bm, 0, none⟩ = some (.int .i64 size)) := Lib.hid ⟨(HQ.out.blk.below HB1.out hlt).cell 1, (HQ.out.blk.below HB1.out hlt).cell 0⟩; clear hb hu) | (go_at_call 97; have HI1 := Lib.hid (IntsAt.of_own HU.out).2; have HI2 := Lib.hid (IntsAt.of_own (own_below HQ.out.row HB1.out)).2; (with_reducible refine (words15_any A1 A c1 c _ _ _ C w1 rfl rfl HI1.out HI2.out hC).mono ?_); rintro e w2 ⟨rfl, hd⟩; have HB2 := Lib.hid (HB1.out.trans (drawn_bl hd _)); have HM2 := Lib.hid (H.out.below HB2.out); have K2 : Hid (w2.cell? ⟨bm, 1, none⟩ = some (.slice A C.length c) ∧ w2.cell? ⟨bm, 0, none⟩ = some (.int .i64 size)) := Lib.hid ⟨(HQ.out.blk.below HB2.out hlt).cell 1, (HQ.out.blk.below HB2.out hlt).cell 0⟩; clear hd) | (go_at_call 47; (with_reducible refine (used_any _ _ _ _ _ _ _ _ _ HM2.out).mono ?_); rintro e w3 ⟨rfl, rfl⟩) | (go_at_call 98; (with_reducible refine (size_any _ _ _ _ _ _ _ _ _ HM2.out).mono ?_); rintro e w4 ⟨rfl, rfl⟩))
  all_goals
    go_wp2_with (fail)
    go_ret
    exact ⟨rfl, HB2.out⟩
end Go.Proofs.YtblajeildolloaaGreat

/- Chapter 15: the frame of route reads as the document's tree does. No program's text. -/
namespace Go.Proofs.YtblajeildolloaaGreat
set_option linter.unusedVariables false
set_option linter.unusedSimpArgs false
open Go.RowKit

theorem rest_ite {α : Type} (c : Prop) [Decidable c] (a b : Prog α) (T : List Int) : (if c then a else b).rest T = if c then a.rest T else b.rest T := by split <;> rfl
theorem rest_app {α : Type} : ∀ (p : Prog α) (T U : List Int), p.rest (T ++ U) = (p.rest T).rest U
  | .ret a, T, U => rfl
  | .chk k, T, U => rest_app (k false) T U
  | .stuck p, T, U => by
    show Prog.stuck (p.rest (T ++ U)) = Prog.stuck ((p.rest T).rest U)
    rw [rest_app p T U]
  | .ask q k, [], U => rfl
  | .ask q k, v :: T, U => rest_app (k v) T U
/-- What the document still asks where the frame stands. -/
def RS.tree (s : RS) : Prog (Int × Int) :=
  if s.next = 0 then routeP s.n s.k
  else if s.next = 1 then (readP (keyAtI s.n 1)).bind fun first => if s.k < first then .ret (s.degree, 0) else if wrap64 (s.degree - 1) = 1 then .ret (s.degree, 1) else
    (readP (keyAtI s.n (wrap64 (s.degree - 1)))).bind fun last => if last ≤ s.k then .ret (s.degree, wrap64 (s.degree - 1)) else guessP s.n s.k s.degree (wrap64 (s.degree - 1)) first last
  else if s.next = 2 then (readP (keyAtI s.n (wrap64 (s.degree - 1)))).bind fun last => if last ≤ s.k then .ret (s.degree, wrap64 (s.degree - 1)) else guessP s.n s.k s.degree (wrap64 (s.degree - 1)) s.first last
  else if s.next = 3 then (readP (keyAtI s.n s.i)).bind fun q => if s.k < q then downGo s.n s.k s.degree s.i.toNat (s.i - 1) else upGo s.n s.k s.degree (wrap64 (s.degree - 1)) (wrap64 (s.degree - 1) - s.i).toNat (s.i + 1)
  else if s.next = 4 then upGo s.n s.k s.degree (wrap64 (s.degree - 1)) (wrap64 (s.degree - 1) - s.i + 1).toNat s.i
  else if s.next = 5 then downGo s.n s.k s.degree (s.i.toNat + 1) s.i
  else .ret (s.degree, s.child)
structure RS.Doc (s : RS) : Prop where
  d0 : s.next ≠ 0 → s.next ≠ 6 → 2 ≤ s.degree ∧ s.degree ≤ 65537
  i1 : s.next = 1 → s.i = 1
  i2 : s.next = 2 → s.i = s.degree - 1 ∧ 3 ≤ s.degree ∧ s.first ≤ s.k
  i3 : s.next = 3 → 2 ≤ s.i ∧ s.i ≤ s.degree - 2
  i4 : s.next = 4 → 1 ≤ s.i ∧ s.i < s.degree - 1
  i5 : s.next = 5 → 1 < s.i ∧ s.i ≤ s.degree - 1
theorem wrap_deg {d : Int} (h0 : 2 ≤ d) (h1 : d ≤ 65537) : wrap64 (d - 1) = d - 1 := by unfold wrap64; omega
theorem upGo_rest (n k d m : Int) (f : Nat) (i : Int) (T : List Int) : (upGo n k d m (f + 1) i).rest T = Prog.rest (if i < m ∧ false = false then (readP (keyAtI n i)).bind fun q => if k < q then .ret (d, i - 1) else upGo n k d m f (i + 1) else .ret (d, m - 1)) T := rfl
theorem downGo_rest (n k d : Int) (f : Nat) (i : Int) (T : List Int) : (downGo n k d (f + 1) i).rest T = Prog.rest (if 1 < i ∧ false = false then (readP (keyAtI n i)).bind fun q => if q ≤ k then .ret (d, i) else downGo n k d f (i - 1) else .ret (d, 1)) T := rfl
theorem guessP_rest (n k d m first last : Int) (T : List Int) : (guessP n k d m first last).rest T = Prog.rest (if false = true ∨ guessI first last k m < 1 then .ret (d, 0) else
  if 1 < guessI first last k m then (readP (keyAtI n (guessI first last k m))).bind fun q => if k < q then downGo n k d (guessI first last k m).toNat (guessI first last k m - 1) else upGo n k d m (m - guessI first last k m).toNat (guessI first last k m + 1)
  else upGo n k d m (m - guessI first last k m).toNat (guessI first last k m + 1)) T := rfl
theorem up_doc (s : RS) (i : Int) (h0 : 2 ≤ s.degree) (h1 : s.degree ≤ 65537) (hi : 1 ≤ i) : (s.up i).Doc ∧ (s.up i).tree.rest [] = (upGo s.n s.k s.degree (wrap64 (s.degree - 1)) (wrap64 (s.degree - 1) - i + 1).toNat i).rest [] := by
  have hw := wrap_deg h0 h1
  unfold RS.up
  by_cases c : s.degree - 1 ≤ i
  · rw [if_pos c]
    refine ⟨⟨fun _ h => absurd rfl h, fun h => ?_, fun h => ?_, fun h => ?_, fun h => ?_, fun h => ?_⟩, ?_⟩ <;> try (simp at h; done)
    rw [hw]
    generalize (s.degree - 1 - i + 1).toNat = f
    cases f with
    | zero => rfl
    | succ f =>
      rw [upGo_rest, if_neg (by omega)]; rfl
  · rw [if_neg c]
    exact ⟨⟨fun _ _ => ⟨h0, h1⟩, fun h => by simp at h, fun h => by simp at h, fun h => by simp at h, fun _ => ⟨hi, by simp; omega⟩, fun h => by simp at h⟩, rfl⟩
theorem down_doc (s : RS) (i : Int) (h0 : 2 ≤ s.degree) (h1 : s.degree ≤ 65537) (hi : i ≤ s.degree - 1) : (s.down i).Doc ∧ (s.down i).tree.rest [] = (downGo s.n s.k s.degree (i.toNat + 1) i).rest [] := by
  unfold RS.down
  by_cases c : i ≤ 1
  · rw [if_pos c]
    refine ⟨⟨fun _ h => absurd rfl h, fun h => ?_, fun h => ?_, fun h => ?_, fun h => ?_, fun h => ?_⟩, ?_⟩ <;> try (simp at h; done)
    rw [downGo_rest, if_neg (by omega)]; rfl
  · rw [if_neg c]
    exact ⟨⟨fun _ _ => ⟨h0, h1⟩, fun h => by simp at h, fun h => by simp at h, fun h => by simp at h, fun h => by simp at h, fun _ => ⟨by simp; omega, hi⟩⟩, rfl⟩
theorem doc6 (s : RS) (h : s.next = 6) : s.Doc ∧ s.tree = .ret (s.degree, s.child) := by
  refine ⟨⟨fun _ h' => absurd h h', fun h' => by omega, fun h' => by omega, fun h' => by omega, fun h' => by omega, fun h' => by omega⟩, ?_⟩
  unfold RS.tree; rw [if_neg (by omega), if_neg (by omega), if_neg (by omega), if_neg (by omega), if_neg (by omega), if_neg (by omega)]
theorem ende_doc (s : RS) (c : Int) : (s.ende c).Doc ∧ (s.ende c).tree.rest [] = .ret (s.degree, c) := by
  obtain ⟨h1, h2⟩ := doc6 (s.ende c) rfl
  exact ⟨h1, by rw [h2]; rfl⟩
theorem guess_doc (s : RS) (last : Int) (h0 : 3 ≤ s.degree) (h1 : s.degree ≤ 65537) (h2 : s.first ≤ s.k) (h3 : s.k < last) : (s.guess last).Doc ∧ (s.guess last).tree.rest [] = (guessP s.n s.k s.degree (wrap64 (s.degree - 1)) s.first last).rest [] := by
  have hw := wrap_deg (by omega) h1
  obtain ⟨g0, g1⟩ := guessI_bd (f := s.first) (l := last) (k := s.k) (n := s.degree - 1) (by omega) (by omega) h2 h3
  unfold RS.guess
  rw [guessP_rest, hw]
  generalize guessI s.first last s.k (s.degree - 1) = g at g0 g1 ⊢
  rw [if_neg (show ¬ (false = true ∨ g < 1) from by simp; omega)]
  by_cases c : 1 < g
  · rw [if_pos c, if_pos c]
    refine ⟨⟨fun _ _ => ⟨by simp; omega, h1⟩, fun h => by simp at h, fun h => by simp at h, fun _ => ⟨by simp; omega, by simp; omega⟩, fun h => by simp at h, fun h => by simp at h⟩, ?_⟩
    unfold RS.tree
    simp only [hw]
    rfl
  · rw [if_neg c, if_neg c]
    have e : g = 1 := by omega
    subst e
    obtain ⟨a, b⟩ := up_doc s 2 (by omega) h1 (by decide)
    refine ⟨a, b.trans ?_⟩
    rw [hw, show s.degree - 1 - 2 + 1 = s.degree - 1 - 1 from by omega]; rfl
theorem step_doc {R : Int → Int} (s : RS) (hI : s.Inv) (h : s.Doc) (h6 : s.next ≠ 6) (hR : s.next = 0 → 1 ≤ R s.n ∧ R s.n ≤ 65537) :
    (s.step R).Doc ∧ (s.tree.rest []).next = some ⟨1, s.addr, 0, 0, [], 0⟩ ∧ s.tree.rest [R s.addr] = (s.step R).tree.rest [] := by
  rcases hI.st with hn | hn | ⟨a, b, -⟩
  · obtain ⟨r0, r1⟩ := hR hn
    rw [RS.step0 hn]
    have ht : s.tree = routeP s.n s.k := by unfold RS.tree; rw [if_pos hn]
    have ha : s.addr = s.n := by unfold RS.addr; rw [if_pos hn]
    rw [ht, ha]
    by_cases c : R s.n < 2
    · rw [if_pos c]
      obtain ⟨e1, e2⟩ := doc6 { s with degree := R s.n, i := 1, next := 6, child := 0 } rfl
      refine ⟨e1, rfl, ?_⟩
      rw [e2]
      show Prog.rest (α := Int × Int) (if wrap64 (R s.n - 1) < 1 then _ else _) [] = _
      rw [if_pos (by unfold wrap64; omega)]
    · rw [if_neg c]
      refine ⟨⟨fun _ _ => ⟨by simp; omega, r1⟩, fun _ => rfl, fun h => by simp at h, fun h => by simp at h, fun h => by simp at h, fun h => by simp at h⟩, rfl, ?_⟩
      show Prog.rest (α := Int × Int) (if wrap64 (R s.n - 1) < 1 then _ else _) [] = _
      rw [if_neg (by rw [wrap_deg (by omega) r1]; omega)]; rfl
  · exact absurd hn h6
  · have hne : s.next ≠ 0 := by omega
    obtain ⟨d0, d1⟩ := h.d0 hne h6
    have hw := wrap_deg d0 d1
    rw [RS.stepK hne h6]
    have ha : s.addr = keyAtI s.n s.i := by unfold RS.addr; rw [if_neg hne]
    rw [ha]
    generalize hv : R (keyAtI s.n s.i) = v
    have hc : s.next = 1 ∨ s.next = 2 ∨ s.next = 3 ∨ s.next = 4 ∨ s.next = 5 := by omega
    rcases hc with hn | hn | hn | hn | hn
    · rw [RS.key1 hn, h.i1 hn]
      have ht : s.tree = (readP (keyAtI s.n 1)).bind fun first => if s.k < first then .ret (s.degree, 0) else if wrap64 (s.degree - 1) = 1 then .ret (s.degree, 1) else
        (readP (keyAtI s.n (wrap64 (s.degree - 1)))).bind fun last => if last ≤ s.k then .ret (s.degree, wrap64 (s.degree - 1)) else guessP s.n s.k s.degree (wrap64 (s.degree - 1)) first last := by
        unfold RS.tree; rw [if_neg hne, if_pos hn]
      rw [ht]
      by_cases c : s.k < v
      · rw [if_pos c]
        obtain ⟨e1, e2⟩ := doc6 { s with first := v, i := s.degree - 1, next := 6, child := 0 } rfl
        refine ⟨e1, rfl, ?_⟩
        rw [e2]
        show Prog.rest (α := Int × Int) (if s.k < v then _ else _) [] = _
        rw [if_pos c]
      · rw [if_neg c]
        by_cases c2 : s.degree - 1 = 1
        · rw [if_pos c2]
          obtain ⟨e1, e2⟩ := doc6 { s with first := v, i := s.degree - 1, next := 6, child := 1 } rfl
          refine ⟨e1, rfl, ?_⟩
          rw [e2]
          show Prog.rest (α := Int × Int) (if s.k < v then _ else _) [] = _
          rw [if_neg c, if_pos (by rw [hw]; exact c2)]
        · rw [if_neg c2]
          refine ⟨⟨fun _ _ => ⟨d0, d1⟩, fun h => by simp at h, fun _ => ⟨rfl, by simp; omega, by simp; omega⟩, fun h => by simp at h, fun h => by simp at h, fun h => by simp at h⟩, rfl, ?_⟩
          show Prog.rest (α := Int × Int) (if s.k < v then _ else _) [] = _
          rw [if_neg c, if_neg (by rw [hw]; exact c2)]; rfl
    · obtain ⟨i2, i3, i4⟩ := h.i2 hn
      rw [RS.key2 hn]
      have ht : s.tree = (readP (keyAtI s.n (wrap64 (s.degree - 1)))).bind fun last => if last ≤ s.k then .ret (s.degree, wrap64 (s.degree - 1)) else guessP s.n s.k s.degree (wrap64 (s.degree - 1)) s.first last := by
        unfold RS.tree; rw [if_neg hne, if_neg (by omega), if_pos hn]
      rw [hw] at ht
      rw [ht, i2]
      by_cases c : s.k < v
      · rw [if_pos c]
        obtain ⟨e1, e2⟩ := guess_doc s v i3 d1 i4 c
        refine ⟨e1, rfl, ?_⟩
        rw [e2, hw]
        show Prog.rest (α := Int × Int) (if v ≤ s.k then _ else _) [] = _
        rw [if_neg (by omega)]
      · rw [if_neg c]
        obtain ⟨e1, e2⟩ := ende_doc s (s.degree - 1)
        refine ⟨e1, rfl, ?_⟩
        rw [e2]
        show Prog.rest (α := Int × Int) (if v ≤ s.k then _ else _) [] = _
        rw [if_pos (by omega)]; rfl
    · obtain ⟨i2, i3⟩ := h.i3 hn
      rw [RS.key3 hn]
      have ht : s.tree = (readP (keyAtI s.n s.i)).bind fun q => if s.k < q then downGo s.n s.k s.degree s.i.toNat (s.i - 1) else upGo s.n s.k s.degree (wrap64 (s.degree - 1)) (wrap64 (s.degree - 1) - s.i).toNat (s.i + 1) := by
        unfold RS.tree; rw [if_neg hne, if_neg (by omega), if_neg (by omega), if_pos hn]
      rw [ht]
      by_cases c : s.k < v
      · rw [if_pos c]
        obtain ⟨e1, e2⟩ := down_doc s (s.i - 1) d0 d1 (by omega)
        refine ⟨e1, rfl, ?_⟩
        rw [e2]
        show Prog.rest (α := Int × Int) (if s.k < v then _ else _) [] = _
        rw [if_pos c, show (s.i - 1).toNat + 1 = s.i.toNat from by omega]
      · rw [if_neg c]
        obtain ⟨e1, e2⟩ := up_doc s (s.i + 1) d0 d1 (by omega)
        refine ⟨e1, rfl, ?_⟩
        rw [e2]
        show Prog.rest (α := Int × Int) (if s.k < v then _ else _) [] = _
        rw [if_neg c, show wrap64 (s.degree - 1) - (s.i + 1) + 1 = wrap64 (s.degree - 1) - s.i from by omega]
    · obtain ⟨i2, i3⟩ := h.i4 hn
      rw [RS.key4 hn]
      have ht : s.tree = upGo s.n s.k s.degree (wrap64 (s.degree - 1)) (wrap64 (s.degree - 1) - s.i + 1).toNat s.i := by
        unfold RS.tree; rw [if_neg hne, if_neg (by omega), if_neg (by omega), if_neg (by omega), if_pos hn]
      obtain ⟨f, hf⟩ : ∃ f, (wrap64 (s.degree - 1) - s.i + 1).toNat = f + 1 := ⟨(wrap64 (s.degree - 1) - s.i).toNat, by omega⟩
      have hu : ∀ T, s.tree.rest T = ((readP (keyAtI s.n s.i)).bind fun q => if s.k < q then .ret (s.degree, s.i - 1) else upGo s.n s.k s.degree (wrap64 (s.degree - 1)) f (s.i + 1)).rest T := fun T => by
        rw [ht, hf]
        rw [upGo_rest, if_pos ⟨by omega, rfl⟩]
      rw [hu, hu]
      by_cases c : s.k < v
      · rw [if_pos c]
        obtain ⟨e1, e2⟩ := ende_doc s (s.i - 1)
        refine ⟨e1, rfl, ?_⟩
        rw [e2]
        show Prog.rest (α := Int × Int) (if s.k < v then _ else _) [] = _
        rw [if_pos c]; rfl
      · rw [if_neg c]
        obtain ⟨e1, e2⟩ := up_doc s (s.i + 1) d0 d1 (by omega)
        refine ⟨e1, rfl, ?_⟩
        rw [e2]
        show Prog.rest (α := Int × Int) (if s.k < v then _ else _) [] = _
        rw [if_neg c, show (wrap64 (s.degree - 1) - (s.i + 1) + 1).toNat = f from by omega]
    · obtain ⟨i2, i3⟩ := h.i5 hn
      rw [RS.key5 hn]
      have ht : s.tree = downGo s.n s.k s.degree (s.i.toNat + 1) s.i := by
        unfold RS.tree; rw [if_neg hne, if_neg (by omega), if_neg (by omega), if_neg (by omega), if_neg (by omega), if_pos hn]
      have hu : ∀ T, s.tree.rest T = ((readP (keyAtI s.n s.i)).bind fun q => if q ≤ s.k then .ret (s.degree, s.i) else downGo s.n s.k s.degree s.i.toNat (s.i - 1)).rest T := fun T => by
        rw [ht]
        rw [downGo_rest, if_pos ⟨by omega, rfl⟩]
      rw [hu, hu]
      by_cases c : s.k < v
      · rw [if_pos c]
        obtain ⟨e1, e2⟩ := down_doc s (s.i - 1) d0 d1 (by omega)
        refine ⟨e1, rfl, ?_⟩
        rw [e2]
        show Prog.rest (α := Int × Int) (if v ≤ s.k then _ else _) [] = _
        rw [if_neg (by omega), show (s.i - 1).toNat + 1 = s.i.toNat from by omega]
      · rw [if_neg c]
        obtain ⟨e1, e2⟩ := ende_doc s s.i
        refine ⟨e1, rfl, ?_⟩
        rw [e2]
        show Prog.rest (α := Int × Int) (if v ≤ s.k then _ else _) [] = _
        rw [if_pos (by omega)]; rfl
/-- The words that route has read behind t steps. -/
def readT (R : Int → Int) (s : RS) (t : Nat) : List Int := (List.range t).map fun j => R (RS.it R s j).addr
theorem readT_succ (R : Int → Int) (s : RS) (t : Nat) : readT R s (t + 1) = readT R s t ++ [R (RS.it R s t).addr] := by simp [readT, List.range_succ]
theorem readT_len (R : Int → Int) (s : RS) (t : Nat) : (readT R s t).length = t := by simp [readT]
theorem it_doc {R : Int → Int} {n k : Int} (hI : ∀ t, (RS.it R (RS.init n k) t).Inv) (hR : 1 ≤ R n ∧ R n ≤ 65537) :
    ∀ t, (∀ j, j < t → (RS.it R (RS.init n k) j).next ≠ 6) → (RS.it R (RS.init n k) t).Doc ∧ (routeP n k).rest (readT R (RS.init n k) t) = (RS.it R (RS.init n k) t).tree.rest []
  | 0, _ => ⟨⟨fun h => absurd rfl h, fun h => by simp [RS.it, RS.init] at h, fun h => by simp [RS.it, RS.init] at h, fun h => by simp [RS.it, RS.init] at h, fun h => by simp [RS.it, RS.init] at h, fun h => by simp [RS.it, RS.init] at h⟩, rfl⟩
  | t + 1, hb => by
    obtain ⟨h1, h2⟩ := it_doc hI hR t (fun j hj => hb j (by omega))
    have hn : ∀ t, (RS.it R (RS.init n k) t).n = n := fun t => (RS.it_same (R := R) (a := n) (k := k) rfl t).1
    obtain ⟨a, b, c⟩ := step_doc (R := R) _ (hI t) h1 (hb t (by omega)) (fun _ => by rw [hn]; exact hR)
    refine ⟨a, ?_⟩
    rw [readT_succ, rest_app, h2, ← rest_app, List.nil_append, c]
    rfl
theorem it_next {R : Int → Int} {n k : Int} (hI : ∀ t, (RS.it R (RS.init n k) t).Inv) (hR : 1 ≤ R n ∧ R n ≤ 65537) (t : Nat) (hb : ∀ j, j ≤ t → (RS.it R (RS.init n k) j).next ≠ 6) :
    ((routeP n k).go ⟨readT R (RS.init n k) t, 0, false, ⟨0, 0, 0, 0, [], 0⟩⟩).2.off = true ∧ ((routeP n k).go ⟨readT R (RS.init n k) t, 0, false, ⟨0, 0, 0, 0, [], 0⟩⟩).2.next = ⟨1, (RS.it R (RS.init n k) t).addr, 0, 0, [], 0⟩ := by
  obtain ⟨h1, h2⟩ := it_doc hI hR t (fun j hj => hb j (by omega))
  have hn : ∀ t, (RS.it R (RS.init n k) t).n = n := fun t => (RS.it_same (R := R) (a := n) (k := k) rfl t).1
  obtain ⟨a, b, c⟩ := step_doc (R := R) _ (hI t) h1 (hb t (by omega)) (fun _ => by rw [hn]; exact hR)
  have hg := go_rest (routeP n k) ⟨readT R (RS.init n k) t, 0, false, ⟨0, 0, 0, 0, [], 0⟩⟩ rfl (Nat.zero_le _)
  simp only [List.drop_zero] at hg
  rw [h2, b] at hg
  exact hg
theorem it_end {R : Int → Int} {n k : Int} (hI : ∀ t, (RS.it R (RS.init n k) t).Inv) (hR : 1 ≤ R n ∧ R n ≤ 65537) (t : Nat) (hb : ∀ j, j < t → (RS.it R (RS.init n k) j).next ≠ 6) (he : (RS.it R (RS.init n k) t).next = 6) :
    ((routeP n k).go ⟨readT R (RS.init n k) t, 0, false, ⟨0, 0, 0, 0, [], 0⟩⟩).1 = ((RS.it R (RS.init n k) t).degree, (RS.it R (RS.init n k) t).child) ∧ ((routeP n k).go ⟨readT R (RS.init n k) t, 0, false, ⟨0, 0, 0, 0, [], 0⟩⟩).2.off = false := by
  obtain ⟨h1, h2⟩ := it_doc hI hR t hb
  obtain ⟨e1, e2⟩ := doc6 _ he
  have hg := go_rest (routeP n k) ⟨readT R (RS.init n k) t, 0, false, ⟨0, 0, 0, 0, [], 0⟩⟩ rfl (Nat.zero_le _)
  simp only [List.drop_zero] at hg
  rw [h2, e2] at hg
  exact hg
end Go.Proofs.YtblajeildolloaaGreat

/- The walk of RoutePlays. -/
namespace Go.Proofs.YtblajeildolloaaGreat
set_option linter.unusedVariables false
set_option linter.unusedSimpArgs false
open Go.RowKit

theorem own_base0 {w : World} {base n : Nat} {e : TypeId} {size : Nat} {v : Value} {xs : List Value} (hO : w.ownsRow base e size v n xs) : w.ownsRow 0 e size v n xs := by
  refine ⟨hO.1, ?_⟩
  rcases hO.2 with h0 | ⟨g, cap, cur, rfl, hb, rest⟩
  · exact .inl h0
  · exact .inr ⟨g, cap, cur, rfl, Nat.zero_le _, rest⟩
theorem mk_at {q : List Int} (hl : q.length ≤ 80) : (mkC [] 2000 (atL q)).2 = atL q := by
  have h := atL_len q
  have e : (([] : List Int).length : Int) = 0 := rfl
  unfold mkC
  rw [if_neg (fun hh => hh.elim (fun h1 => by omega) (fun h1 => by omega))]
  rfl
def pxs (k : Int) : FX := ⟨15, 8, 0, k, ⟨0, 0, false, 0, false⟩, [], ⟨0, 0, 0⟩⟩
theorem pxs_go (k : Int) (N : Nat) (s : RunS) : ((pxs k).tree N).go s = ({ FOut.zero with n := ((routeP 8 k).go s).1.1, m := ((routeP 8 k).go s).1.2 }, ((routeP 8 k).go s).2) := by
  unfold FX.tree
  rw [if_pos (show (pxs k).proc = 15 from rfl), go_bind]; rfl
def plT (q : List Int) (k : Int) (t : Nat) : List Int := readT (rdC (atL q)) (RS.init 8 k) t
def plO (q : List Int) (k : Int) (f t : Nat) : FOut := if t < nOf q k then FOut.zero else { FOut.zero with n := (q.length : Int) + 1, m := f }
theorem plT_bd {q : List Int} {k : Int} (hl : q.length ≤ 1000) (hw : ∀ i, i < q.length → -9223372036854775808 ≤ keyAt q i ∧ keyAt q i ≤ 9223372036854775807) (t : Nat) : ∀ x ∈ plT q k t, i64B x := fun x hx => by
  unfold plT readT at hx
  obtain ⟨j, _, rfl⟩ := List.mem_map.1 hx
  exact rdC_bd (atL_bd hl hw) _
theorem plT_len (q : List Int) (k : Int) (t : Nat) : (plT q k t).length = t := readT_len _ _ _
theorem plInv {q : List Int} {k : Int} {f : Nat} (hO : RunOk q k f) : ∀ t, (RS.it (rdC (atL q)) (RS.init 8 k) t).Inv := hO.inv
theorem plR {q : List Int} (hl : q.length ≤ 1000) : 1 ≤ rdC (atL q) 8 ∧ rdC (atL q) 8 ≤ 65537 := by rw [at_degree]; omega
theorem pl_off {q : List Int} {k : Int} {f : Nat} (hl : q.length ≤ 1000) (hO : RunOk q k f) (N t : Nat) (ht : t < nOf q k) :
    (((pxs k).tree N).go ⟨plT q k t, 0, false, ask0⟩).2.off = true ∧ (((pxs k).tree N).go ⟨plT q k t, 0, false, ask0⟩).2.next = ⟨1, (stAt q k t).addr, 0, 0, [], 0⟩ := by
  rw [pxs_go]
  exact it_next (plInv hO) (plR hl) t (fun j hj => hO.going j (by omega))
theorem pl_end {q : List Int} {k : Int} {f : Nat} (hl : q.length ≤ 1000) (hO : RunOk q k f) (N : Nat) :
    (((pxs k).tree N).go ⟨plT q k (nOf q k), 0, false, ask0⟩).1 = plO q k f (nOf q k) ∧ (((pxs k).tree N).go ⟨plT q k (nOf q k), 0, false, ask0⟩).2.off = false := by
  rw [pxs_go]
  obtain ⟨e1, e2, e3⟩ := hO.ended (nOf q k) (Nat.le_refl _)
  obtain ⟨a, b⟩ := it_end (plInv hO) (plR hl) (nOf q k) (fun j hj => hO.going j hj) e1
  refine ⟨?_, b⟩
  have e2' : (RS.it (rdC (atL q)) (RS.init 8 k) (nOf q k)).degree = (q.length : Int) + 1 := e2
  have e3' : (RS.it (rdC (atL q)) (RS.init 8 k) (nOf q k)).child = f := e3
  unfold plO
  rw [if_neg (by omega)]
  show ({ FOut.zero with n := ((routeP 8 k).go ⟨readT (rdC (atL q)) (RS.init 8 k) (nOf q k), 0, false, ⟨0, 0, 0, 0, [], 0⟩⟩).1.1, m := ((routeP 8 k).go ⟨readT (rdC (atL q)) (RS.init 8 k) (nOf q k), 0, false, ⟨0, 0, 0, 0, [], 0⟩⟩).1.2 } : FOut) = _
  rw [a, e2', e3']
/-- Where both frames stand. -/
structure PlQ (q : List Int) (k : Int) (f : Nat) (V : World) (v : Value) (V1 fb ff bm : Nat) (t : Nat) (F Fm : Nat → Prop) (w : World) : Prop where
  on : OnWayC q k V.heap.size V.heap.size fb v t w
  fr : FrP F ff (pxs k) (plT q k t) (decide (nOf q k ≤ t)) (plO q k f t) w
  me : M7 Fm bm (atL q) 2000 w
  dj : ∀ y, F y → Fm y → False
  fF : ∀ y, F y → V1 ≤ y ∧ y ≠ fb
  fM : ∀ y, Fm y → V1 ≤ y ∧ y ≠ fb
  vl : ∀ g, v.ownBlock = some g → g < V1
  zl : V.heap.size < V1
  zf : V.heap.size ≤ fb
  zb : fb < w.heap.size
  zw : V1 ≤ w.heap.size
  bl : Below V.heap.size V w
theorem PlQ.below {q : List Int} {k : Int} {f : Nat} {V : World} {v : Value} {V1 fb ff bm t : Nat} {F Fm : Nat → Prop} {w w' : World} (h : PlQ q k f V v V1 fb ff bm t F Fm w) (hb : Below w.heap.size w w') : PlQ q k f V v V1 fb ff bm t F Fm w' :=
  ⟨h.on.below hb, h.fr.below hb, h.me.below hb, h.dj, h.fF, h.fM, h.vl, h.zl, h.zf, Nat.lt_of_lt_of_le h.zb hb.size, Nat.le_trans h.zw hb.size, h.bl.trans (hb.mono h.bl.size)⟩
def PlRel (q : List Int) (k : Int) (f : Nat) (V : World) (v : Value) (V1 fb ff bm : Nat) (i : Value) (w : World) : Prop := ∃ (t : Nat) (F Fm : Nat → Prop), t ≤ nOf q k ∧ i = .int .i64 t ∧ PlQ q k f V v V1 fb ff bm t F Fm w
set_option maxRecDepth 100000 in
set_option maxHeartbeats 1000000 in
/-- Both frames' steps. -/
theorem pl_prog {q : List Int} {k : Int} {V : World} {v : Value} {V1 fb ff bm f t : Nat} {F Fm : Nat → Prop} (w : World) (hl : q.length ≤ 80) (hw : ∀ i, i < q.length → -9223372036854775808 ≤ keyAt q i ∧ keyAt q i ≤ 9223372036854775807) (hO : RunOk q k f) (ht : t < nOf q k) (h : PlQ q k f V v V1 fb ff bm t F Fm w) :
    Calls Tryz.prog 30 #[.pointer (some ⟨fb, 0, none⟩), .pointer (some ⟨V.heap.size, 0, none⟩)] w fun e w' => e = .returned (.bool ((stAt q k (t + 1)).next == 6)) ∧ OnWayC q k V.heap.size V.heap.size fb v (t + 1) w' ∧ FrP F ff (pxs k) (plT q k t) (decide (nOf q k ≤ t)) (plO q k f t) w' ∧ M7 Fm bm (atL q) 2000 w' ∧ w.heap.size ≤ w'.heap.size ∧ Below V.heap.size V w' := by
  refine (wayC_any (by omega) hw hO t ht w h.on).mono fun e w' ⟨he, h1, h2⟩ => ⟨he, h1, ?_⟩
  have hc : Chg (fun y => y = fb ∨ y = V.heap.size) w w' := Chg.of_only h2 (by simp)
  have hz := h.zl
  refine ⟨h.fr.chg hc (fun y hy e => ?_), h.me.chg hc (fun y hy e => ?_), hc.size, h.bl.trans (h2.below (B := V.heap.size) ?_ h.bl.size)⟩
  · have := h.fF y hy; rcases e with e | e <;> omega
  · have := h.fM y hy; rcases e with e | e <;> omega
  · have := h.zf
    simp; omega
set_option maxRecDepth 100000 in
set_option maxHeartbeats 1000000 in
theorem pl_doc {q : List Int} {k : Int} {V : World} {v : Value} {V1 fb ff bm f t : Nat} {F Fm : Nat → Prop} (w0 w : World) (hl : q.length ≤ 80) (hw : ∀ i, i < q.length → -9223372036854775808 ≤ keyAt q i ∧ keyAt q i ≤ 9223372036854775807) (k0 : -9223372036854775808 ≤ k) (k1 : k ≤ 9223372036854775807) (hO : RunOk q k f) (ht : t < nOf q k) (h : PlQ q k f V v V1 fb ff bm t F Fm w0)
    (h1 : OnWayC q k V.heap.size V.heap.size fb v (t + 1) w) (h2 : FrP F ff (pxs k) (plT q k t) (decide (nOf q k ≤ t)) (plO q k f t) w) (h3 : M7 Fm bm (atL q) 2000 w) (hz : w0.heap.size ≤ w.heap.size) (hb : Below V.heap.size V w) :
    Calls Tryz.prog 31 #[.pointer (some ⟨ff, 0, none⟩), .pointer (some ⟨bm, 0, none⟩)] w fun e w' => e = .returned (.bool (decide (nOf q k ≤ t + 1))) ∧ ∃ F' Fm', PlQ q k f V v V1 fb ff bm (t + 1) F' Fm' w' := by
  have hfew := hO.few
  have hal := atL_len q
  rw [show decide (nOf q k ≤ t) = false from decide_eq_false (by omega)] at h2
  have hbd : (RunS.mk (plT q k t) 0 false ask0).Bd := ⟨plT_bd (by omega) hw t, by show (plT q k t).length ≤ _; rw [plT_len]; omega, Nat.zero_le _⟩
  obtain ⟨a1, a2⟩ := pl_off (by omega) hO 1000 t ht
  have haddr := (hO.here t).resolve_left (hO.going t ht)
  have hv := rdC_bd (atL_bd (by omega) hw) (stAt q k t).addr
  have hsT : plT q k (t + 1) = plT q k t ++ [rdC (atL q) (stAt q k t).addr] := readT_succ _ _ _
  have hrest : (!(((pxs k).tree 1000).go ⟨plT q k t ++ [rdC (atL q) (stAt q k t).addr], 0, false, ask0⟩).2.off) = decide (nOf q k ≤ t + 1) ∧ (if (((pxs k).tree 1000).go ⟨plT q k t ++ [rdC (atL q) (stAt q k t).addr], 0, false, ask0⟩).2.off = true then plO q k f t else (((pxs k).tree 1000).go ⟨plT q k t ++ [rdC (atL q) (stAt q k t).addr], 0, false, ask0⟩).1) = plO q k f (t + 1) := by
    rw [← hsT]
    by_cases c : t + 1 < nOf q k
    · obtain ⟨b1, -⟩ := pl_off (by omega) hO 1000 (t + 1) c
      rw [b1, if_pos rfl]
      refine ⟨(decide_eq_false (by omega)).symm, ?_⟩
      unfold plO; rw [if_pos ht, if_pos c]
    · have e : t + 1 = nOf q k := by omega
      obtain ⟨b1, b2⟩ := pl_end (by omega) hO 1000
      rw [e, b1, b2]
      exact ⟨(decide_eq_true (Nat.le_refl _)).symm, if_neg (by simp)⟩
  obtain ⟨r1, r2⟩ := hrest
  obtain ⟨o1, s1, hg1⟩ : ∃ o s, ((pxs k).tree 1000).go ⟨plT q k t, 0, false, ask0⟩ = (o, s) := ⟨_, _, rfl⟩
  obtain ⟨o2, s2, hg2⟩ : ∃ o s, ((pxs k).tree 1000).go ⟨plT q k t ++ [rdC (atL q) (stAt q k t).addr], 0, false, ask0⟩ = (o, s) := ⟨_, _, rfl⟩
  rw [hg1] at a1 a2
  rw [hg2] at r1 r2
  have a1 : s1.off = true := a1
  have a2 : s1.next = _ := a2
  refine (stepF_any 1000 F Fm ff bm (pxs k) (plT q k t) _ o1 o2 s1 s2 (atL q) 2000 w (playC15 rfl (i64B.of (by decide) (by decide) : i64B 8) ⟨k0, k1⟩) h2 h3 h.dj hbd (by rw [plT_len]; omega) (by omega) (by omega) (by decide) (rdC (atL q) (stAt q k t).addr) (atL q) _ _ (by rw [a2]; rfl) hv (by rw [a2]; exact ⟨(by decide : (1 : Int) ≤ 1), (by decide : (1 : Int) ≤ 5), ⟨by show _ ≤ (stAt q k t).addr; omega, by show (stAt q k t).addr ≤ _; omega⟩, i64B_zero, i64B_zero, by simp, by simp⟩) (by rw [plT_len]; omega) hg1 a1 hg2 r1 r2).mono fun e w' ⟨he, F', Fm', g1, g2, g3, g4, g5, g6⟩ => ⟨he, F', Fm', ?_⟩
  rw [← hsT] at g1
  have hzb := h.zb
  have hzw := h.zw
  have hzl := h.zl
  have hfF : ∀ y, F y ∨ Fm y → V1 ≤ y ∧ y ≠ fb := fun y hy => hy.elim (h.fF y) (h.fM y)
  refine ⟨⟨h1.mem.chg g6 (fun hy => by have := hfF _ hy; omega) (fun g hg hy => by have := hfF _ hy; have := h.vl g hg; omega), g6.blk h1.fr.blk (fun hy => (hfF _ hy).2 rfl)⟩, g1, g2, g3, fun y hy => ?_, fun y hy => ?_, h.vl, h.zl, h.zf, ?_, ?_, hb.trans (g6.below (fun y hy => by have := hfF y hy; omega) hb.size)⟩
  · rcases g4 y hy with h4 | h4
    · exact h.fF y h4
    · omega
  · rcases g5 y hy with h4 | h4
    · exact h.fM y h4
    · omega
  · have := g6.size; omega
  · have := g6.size; omega
theorem pl_new {q : List Int} {k : Int} {f : Nat} (hl : q.length ≤ 1000) (k0 : -9223372036854775808 ≤ k) (k1 : k ≤ 9223372036854775807) (hO : RunOk q k f) (hp : 0 < nOf q k) (w : World) : Calls Tryz.prog 29 #[.int .i64 15, .agg #[.int .i64 8, .int .i64 0, .int .i64 0, .int .i64 k, .int .i64 0, .int .i64 0, .int .i64 0, .bool false, .int .i64 0, .bool false, .slice none 0 0, .slice none 0 0, .slice none 0 0, .slice none 0 0, .slice none 0 0, .int .i64 0, .int .i64 0, .int .i64 0, .int .i64 0, .int .i64 0, .int .i64 0]] w fun e w' => ∃ fb, e = .returned (.pointer (some ⟨fb, 0, none⟩)) ∧ FrP (fun y => w.heap.size ≤ y) fb (pxs k) (plT q k 0) (decide (nOf q k ≤ 0)) (plO q k f 0) w' ∧ w.heap.size ≤ fb ∧ Below w.heap.size w w' := by
  obtain ⟨a1, -⟩ := pl_off hl hO 1000 0 hp
  obtain ⟨o1, s1, hg1⟩ : ∃ o s, ((pxs k).tree 1000).go ⟨plT q k 0, 0, false, ask0⟩ = (o, s) := ⟨_, _, rfl⟩
  rw [hg1] at a1
  have a1 : s1.off = true := a1
  refine (newF_any 1000 (fun _ => False) (pxs k) (.slice none 0 0) o1 s1 w (playC15 rfl (i64B.of (by decide) (by decide) : i64B 8) ⟨k0, k1⟩) PrP.nil' (by decide) hg1).mono fun e w' ⟨fb, he, h1, h2, h3⟩ => ⟨fb, he, ?_, h2, h3⟩
  rw [a1, if_pos rfl] at h1
  have e1 : decide (nOf q k ≤ 0) = false := decide_eq_false (by omega)
  have e2 : plO q k f 0 = FOut.zero := by unfold plO; rw [if_pos hp]
  rw [e1, e2]
  exact h1.mono (fun y hy => hy.elim (fun h => h.elim) id)
set_option maxRecDepth 100000 in
set_option maxHeartbeats 4000000 in
theorem routePlays_walk (A : Option Addr) (c : Nat) (l : List Int) (k n : Int) {w : World} (hq : IntsAt w w.heap.size A l) (hl : l.length * 8 ≤ 140737488351232) (hc : l.length ≤ c) (hw : ∀ i, i < l.length → -9223372036854775808 ≤ keyAt l i ∧ keyAt l i ≤ 9223372036854775807) (wf : (Lit.int .i64 k).wf = true) (wfn : (Lit.int .i64 n).wf = true) :
    Calls Tryz.prog 3 #[.slice A l.length c, .int .i64 k, .int .i64 n] w fun e w' => e = .returned (.bool true) ∧ Below w.heap.size w w' := by
  obtain ⟨k0, k1⟩ := Go.bounds_i64 wf
  obtain ⟨n0, n1⟩ := Go.bounds_i64 wfn
  have HQ := Lib.hid hq
  have HW := Lib.hid hw
  clear hq hw wf wfn
  go_enter Tryz.func3, Tryz.ntmps3
  go_wp2_with (fail)
  with_reducible refine (wide_any A c l _ HQ.out (by omega) HW.out).mono ?_
  rintro e V ⟨A1, c1, rfl, hq1, hB1⟩
  have HQ1 := Lib.hid hq1
  have HB1 := Lib.hid hB1
  have hr := wideL_right l
  have hl1 := wideL_len l
  have hw1 := wideL_bd HW.out
  have HR := Lib.hid hr
  have HW1 := Lib.hid hw1
  clear hq1 HQ HW hr hw1 hB1
  generalize wideL l = q at HQ1 hl1 HR HW1 ⊢
  by_cases c0 : 0 < q.length
  · by_cases c3 : n.tmod 3 = 0
    · have hg : decide ((q.length : Int) > 0) = true := decide_eq_true (by omega)
      have h3 : (n.tmod 3 == 0) = true := by simpa using c3
      have hm3 := tmod_bd n 3 (by decide)
      have hm2 := tmod_bd n 2 (by decide)
      obtain ⟨z0, z1⟩ := cut_bd (n.tdiv 3) (q.length : Int) (by omega)
      have ht3 : -9223372036854775808 ≤ n.tdiv 3 ∧ n.tdiv 3 ≤ 9223372036854775807 := by
        have e : n = 3 * (n.tdiv 3) + n.tmod 3 := (Int.mul_tdiv_add_tmod n 3).symm; omega
      obtain ⟨j, hj⟩ : ∃ j : Nat, n.tdiv 3 % (q.length : Int) = j := ⟨(n.tdiv 3 % (q.length : Int)).toNat, by omega⟩
      have hjl : j < q.length := by omega
      obtain ⟨ad, rfl, _, hcc⟩ := HQ1.out.cells c0
      have hcj := hcc j hjl
      clear hcc
      have hkj := HW1.out j hjl
      go_wp2_with (fail)
      with_reducible refine (cut_any (n.tdiv 3) q.length _ ht3.1 ht3.2 (by omega) (by omega)).mono ?_
      rintro e w' ⟨rfl, rfl⟩
      rw [hj]
      go_wp2_with (fail)
      have hk := wrap_bd (keyAt q j + n.tmod 2)
      clear k0 k1
      generalize wrap64 (keyAt q j + n.tmod 2) = k at hk ⊢
      obtain ⟨k0, k1⟩ := hk
      generalize some ad = A1 at HQ1 ⊢
      obtain ⟨f, _, f1, f2, f3⟩ := findI_split (k := k) HR.out
      have HO := Lib.hid (runOk HR.out (by omega) HW1.out k0 k1 f1 f2 f3)
      clear f2 f3
      have hfew := HO.out.few
      have hpos : 0 < nOf q k := by unfold nOf; omega
      have HNEW : Hid (∀ w, Calls Tryz.prog 29 #[.int .i64 15, .agg #[.int .i64 8, .int .i64 0, .int .i64 0, .int .i64 k, .int .i64 0, .int .i64 0, .int .i64 0, .bool false, .int .i64 0, .bool false, .slice none 0 0, .slice none 0 0, .slice none 0 0, .slice none 0 0, .slice none 0 0, .int .i64 0, .int .i64 0, .int .i64 0, .int .i64 0, .int .i64 0, .int .i64 0]] w fun e w' => ∃ fb, e = .returned (.pointer (some ⟨fb, 0, none⟩)) ∧ FrP (fun y => w.heap.size ≤ y) fb (pxs k) (plT q k 0) (decide (nOf q k ≤ 0)) (plO q k f 0) w' ∧ w.heap.size ≤ fb ∧ Below w.heap.size w w') := Lib.hid (pl_new (by omega) k0 k1 HO.out hpos)
      with_reducible refine (at_any A1 c1 q.length q _ rfl HQ1.out hl1).mono ?_
      rintro e w1 ⟨v, rfl, hm, hb1⟩
      have HM := Lib.hid hm
      have hz1 : V.heap.size < w1.heap.size := hm.blk.lt
      have HAL := Lib.hid (atL_len q)
      have hvl : ∀ g, v.ownBlock = some g → g < w1.heap.size := fun g hg => (hm.own.lt g hg).2
      have HVL := Lib.hid hvl
      clear hm hvl
      go_wp2_with (fail)
      with_reducible refine (known15_any _).mono ?_
      rintro e w2 ⟨rfl, hb⟩
      have hb2 := hb1.trans (hb.mono hb1.size)
      have HM2 := Lib.hid (HM.out.below hb)
      have hz2 : w1.heap.size ≤ w2.heap.size := hb.size
      clear hb HM
      go_wp2_with (fail)
      with_reducible refine (new7_any 2000 _ (by decide) (by decide)).mono ?_
      rintro e w3 ⟨rfl, h7, hb⟩
      have hb3 := hb2.trans (hb.mono hb2.size)
      have HM3 := Lib.hid (HM2.out.below hb)
      have H7 := Lib.hid h7
      have hz3 : w2.heap.size ≤ w3.heap.size := hb.size
      clear hb h7 HM2
      go_wp2_with (fail)
      with_reducible refine (cells_any _ _ _ _ _ _ _ _ _ HM3.out (by have := HAL.out; omega)).mono ?_
      rintro e w4 ⟨u, rfl, hu, hb⟩
      have hb4 := hb3.trans (hb.mono hb3.size)
      have HM4 := Lib.hid (HM3.out.below hb)
      have H74 := Lib.hid (H7.out.below hb)
      have hz4 : w3.heap.size ≤ w4.heap.size := hb.size
      obtain ⟨A2, c2, rfl⟩ := own_shape hu
      have HU := Lib.hid (own_base0 hu)
      clear hb hu H7 HM3
      go_wp2_with (fail)
      with_reducible refine (make7_any _ _ _ _ A2 c2 _ (atL q) _ rfl H74.out (by simp) (by simp) (by decide) HU.out (by have := HAL.out; omega)).mono ?_
      rintro e w5 ⟨rfl, h7, hc⟩
      have hmk : (mkC [] 2000 (atL q)).2 = atL q := mk_at hl1
      rw [hmk] at h7
      have hz5 : w4.heap.size ≤ w5.heap.size := hc.size
      have H75 := Lib.hid h7.within
      have HM5 := Lib.hid (HM4.out.chg hc (fun hy => by omega) (fun g hg hy => by have := HVL.out g hg; omega))
      have hb5 := hb4.trans (hc.below (B := V.heap.size) (fun y hy => by omega) hb4.size)
      clear h7 hc H74 HM4 HU hmk
      go_wp2_with (fail)
      with_reducible refine (newR_any 8 k _).mono ?_
      rintro e w6 ⟨rfl, hf, hb⟩
      have hb6 := hb5.trans (hb.mono hb5.size)
      have HC := Lib.hid (show OnWayC q k V.heap.size V.heap.size w5.heap.size v 0 w6 from ⟨HM5.out.below hb, hf⟩)
      have H76 := Lib.hid (H75.out.below hb)
      have hz6 : w5.heap.size < w6.heap.size := hf.lt
      clear hb hf HM5 H75
      go_wp2_with (fail)
      with_reducible refine (HNEW.out _).mono ?_
      rintro e w7 ⟨ff, rfl, hfr, hff, hb⟩
      have hb7 := hb6.trans (hb.mono hb6.size)
      have hz7 : w6.heap.size ≤ w7.heap.size := hb.size
      have HPL : Hid (PlQ q k f V v w1.heap.size w5.heap.size ff w2.heap.size 0 (fun y => w6.heap.size ≤ y) (fun y => (w2.heap.size ≤ y ∨ w4.heap.size ≤ y) ∧ y < w5.heap.size) w7) := Lib.hid ⟨HC.out.below hb, hfr, H76.out.below hb, fun y h1 h2 => by omega, fun y h1 => by omega, fun y h1 => by omega, HVL.out, hz1, by have := hb5.size; omega, by omega, by omega, hb7⟩
      clear hb hfr HC H76 HNEW HVL hz7 hff
      generalize w5.heap.size = fb at HPL hz5 hz6 ⊢
      generalize w2.heap.size = bm at HPL hz2 hz3 ⊢
      generalize w1.heap.size = V1 at HPL hz1 hz2 ⊢
      clear hz2 hz3 hz4 hz5 hz6 hb1 hb2 hb3 hb4 hb5 hb6 hb7
      go_wp2_with (fail)
      go_loopw [14] (fun i wr => PlRel q k f V v V1 fb ff bm i wr) (fun i _ => nOf q k + 1 - (intOf i).toNat)
      case atStart => unfold PlRel; exact ⟨0, _, _, Nat.zero_le _, rfl, HPL.out⟩
      case round =>
        obtain ⟨t, F, Fm, ht, rfl, hP⟩ := hrel
        clear HPL
        have H := Lib.hid hP
        clear hP
        have htl : (t : Int) < 200 := by omega
        have hdl : decide ((t : Int) < 200) = true := decide_eq_true htl
        by_cases htn : t < nOf q k
        · have c23 : wr.cell? ⟨ff, 23, none⟩ = some (.bool false) := by
            have h := H.out.fr
            rw [show decide (nOf q k ≤ t) = false from decide_eq_false (by omega)] at h
            obtain ⟨_, _, _, _, _, _, _, h⟩ := h; exact h.blk.cell 23
          go_wp2_with (fail)
          with_reducible refine (pl_prog _ hl1 HW1.out HO.out htn H.out).mono ?_
          rintro e w8 ⟨rfl, hA, hB, hC, hz, hbl⟩
          have hen : ((stAt q k (t + 1)).next == 6) = decide (nOf q k ≤ t + 1) := by
            by_cases c : nOf q k ≤ t + 1
            · rw [(HO.out.ended (t + 1) c).1, decide_eq_true c]; rfl
            · rw [decide_eq_false c]; simpa using HO.out.going (t + 1) (by omega)
          have HEN := Lib.hid hen
          rw [hen]
          have HDOC := Lib.hid (pl_doc wr w8 hl1 HW1.out k0 k1 HO.out htn H.out hA hB hC hz hbl)
          clear hA hB hC hz hbl hen H c23
          go_wp2_with (fail)
          with_reducible refine (HDOC.out).mono ?_
          rintro e w9 ⟨rfl, F', Fm', hP'⟩
          have H9 := Lib.hid hP'
          have hfr := hP'.on.fr
          have HDN : Hid (∀ w, RouteP fb (stAt q k (t + 1)) w → Calls Tryz.prog 32 #[.pointer (some ⟨fb, 0, none⟩)] w fun e w' => e = .returned (.bool (decide (nOf q k ≤ t + 1))) ∧ w = w') := Lib.hid (fun w hw => by have := done_any fb (stAt q k (t + 1)) w hw; rw [HEN.out] at this; exact this)
          have HFR := Lib.hid hfr
          have c23 : w9.cell? ⟨ff, 23, none⟩ = some (.bool (decide (nOf q k ≤ t + 1))) := by obtain ⟨_, _, _, _, _, _, _, h⟩ := hP'.fr; exact h.blk.cell 23
          clear HDOC HEN hfr hP'
          generalize decide (nOf q k ≤ t + 1) = bv at HDN c23 ⊢
          cases bv
          all_goals
            go_wp2_with (fail)
            go_quiet ((go_at_call 32; exact quiet_left (HDN.out _ (HFR.out.drewN _))))
            go_wp2_with (fail)
            go_roundw
            case rel => unfold PlRel; exact ⟨t + 1, _, _, by omega, by go_num, H9.out.below (drawn_bl (Drawn.of w9 nq) _)⟩
            case measure => simp [intOf]; omega
        · have e : t = nOf q k := by omega
          subst e
          obtain ⟨E1, E2, E3⟩ := HO.out.ended (nOf q k) (Nat.le_refl _)
          have hfr := H.out.fr
          rw [show decide (nOf q k ≤ nOf q k) = true from decide_eq_true (Nat.le_refl _), show plO q k f (nOf q k) = { FOut.zero with n := (q.length : Int) + 1, m := f } from if_neg (by omega)] at hfr
          have HFQ := Lib.hid hfr
          obtain ⟨_, _, _, _, _, _, _, hfq⟩ := hfr
          have c23 : wr.cell? ⟨ff, 23, none⟩ = some (.bool true) := hfq.blk.cell 23
          have c26 : wr.cell? ⟨ff, 26, none⟩ = some (.int .i64 ((q.length : Int) + 1)) := hfq.blk.cell 26
          have c27 : wr.cell? ⟨ff, 27, none⟩ = some (.int .i64 f) := hfq.blk.cell 27
          have hff := hfq.blk.lt
          have HBLK : Hid (∀ w', Below wr.heap.size wr w' → w'.cell? ⟨ff, 23, none⟩ = some (.bool true) ∧ w'.cell? ⟨ff, 26, none⟩ = some (.int .i64 ((q.length : Int) + 1)) ∧ w'.cell? ⟨ff, 27, none⟩ = some (.int .i64 f)) := Lib.hid (fun w' hb => ⟨(hfq.blk.below hb hff).cell 23, (hfq.blk.below hb hff).cell 26, (hfq.blk.below hb hff).cell 27⟩)
          have HF1 : Hid (RouteP fb (stAt q k (nOf q k)) wr.drew) := Lib.hid (H.out.on.fr.drewN 1)
          have HDEG : Hid (∀ w, RouteP fb (stAt q k (nOf q k)) w → Calls Tryz.prog 33 #[.pointer (some ⟨fb, 0, none⟩)] w fun e w' => e = .returned (.int .i64 ((q.length : Int) + 1)) ∧ w = w') := Lib.hid (fun w hw => by have := degree_any fb (stAt q k (nOf q k)) w hw E1; rw [E2] at this; exact this)
          have HCH : Hid (∀ w, RouteP fb (stAt q k (nOf q k)) w → Calls Tryz.prog 34 #[.pointer (some ⟨fb, 0, none⟩)] w fun e w' => e = .returned (.int .i64 f) ∧ w = w') := Lib.hid (fun w hw => by have := child_any fb (stAt q k (nOf q k)) w hw; rw [E3] at this; exact this)
          have HLK : Hid (Calls Tryz.prog 35 #[.pointer (some ⟨V.heap.size, 0, none⟩), .pointer (some ⟨bm, 0, none⟩)] wr.drew fun e w' => e = .returned (.bool true) ∧ Below wr.heap.size wr w') := Lib.hid ((like_any Fm bm V.heap.size V.heap.size v (atL q) 2000 _ 0 0 wr.drew (H.out.on.mem.below (drawn_bl (Drawn.of wr 1) _)) (H.out.me.below (drawn_bl (Drawn.of wr 1) _)) (by have := HAL.out; omega)).mono fun e w' hp => ⟨hp.1, belowDrew hp.2⟩)
          have HBL := Lib.hid H.out.bl
          have hvs := H.out.bl.size
          clear hfq H E1 E2 E3 HFQ
          have hdd : decide ((q.length : Int) + 1 = (q.length : Int) + 1) = true := decide_eq_true rfl
          have hdf : decide ((f : Int) = f) = true := decide_eq_true rfl
          go_wp2_with (fail)
          go_region_held3 (fun w' => w'.cell? ⟨ff, 23, none⟩ = some (.bool true) ∧ w'.cell? ⟨ff, 26, none⟩ = some (.int .i64 ((q.length : Int) + 1)) ∧ w'.cell? ⟨ff, 27, none⟩ = some (.int .i64 f)) (first | go_keep | exact K1.out) (first | (go_at_call 33; (with_reducible refine (HDEG.out _ HF1.out).mono ?_); rintro e w8 ⟨rfl, rfl⟩) | (go_at_call 34; (with_reducible refine (HCH.out _ HF1.out).mono ?_); rintro e w8 ⟨rfl, rfl⟩) | (go_at_call 35; (with_reducible refine HLK.out.mono ?_); rintro e w9 ⟨rfl, hb⟩; have K1 := Lib.hid (HBLK.out w9 hb); have HBF := Lib.hid (HBL.out.trans (hb.mono hvs)); clear hb))
          all_goals
            go_wp2_with (fail)
            go_ret
            exact ⟨rfl, below_called HB1.out HBF.out⟩
    · have hg : decide ((q.length : Int) > 0) = true := decide_eq_true (by omega)
      have h3 : (n.tmod 3 == 0) = false := by simpa using c3
      have hm3 := tmod_bd n 3 (by decide)
      go_wp2_with (fail)
      obtain ⟨f, _, f1, f2, f3⟩ := findI_split (k := k) HR.out
      have HO := Lib.hid (runOk HR.out (by omega) HW1.out k0 k1 f1 f2 f3)
      clear f2 f3
      have hfew := HO.out.few
      have hpos : 0 < nOf q k := by unfold nOf; omega
      have HNEW : Hid (∀ w, Calls Tryz.prog 29 #[.int .i64 15, .agg #[.int .i64 8, .int .i64 0, .int .i64 0, .int .i64 k, .int .i64 0, .int .i64 0, .int .i64 0, .bool false, .int .i64 0, .bool false, .slice none 0 0, .slice none 0 0, .slice none 0 0, .slice none 0 0, .slice none 0 0, .int .i64 0, .int .i64 0, .int .i64 0, .int .i64 0, .int .i64 0, .int .i64 0]] w fun e w' => ∃ fb, e = .returned (.pointer (some ⟨fb, 0, none⟩)) ∧ FrP (fun y => w.heap.size ≤ y) fb (pxs k) (plT q k 0) (decide (nOf q k ≤ 0)) (plO q k f 0) w' ∧ w.heap.size ≤ fb ∧ Below w.heap.size w w') := Lib.hid (pl_new (by omega) k0 k1 HO.out hpos)
      with_reducible refine (at_any A1 c1 q.length q _ rfl HQ1.out hl1).mono ?_
      rintro e w1 ⟨v, rfl, hm, hb1⟩
      have HM := Lib.hid hm
      have hz1 : V.heap.size < w1.heap.size := hm.blk.lt
      have HAL := Lib.hid (atL_len q)
      have hvl : ∀ g, v.ownBlock = some g → g < w1.heap.size := fun g hg => (hm.own.lt g hg).2
      have HVL := Lib.hid hvl
      clear hm hvl
      go_wp2_with (fail)
      with_reducible refine (known15_any _).mono ?_
      rintro e w2 ⟨rfl, hb⟩
      have hb2 := hb1.trans (hb.mono hb1.size)
      have HM2 := Lib.hid (HM.out.below hb)
      have hz2 : w1.heap.size ≤ w2.heap.size := hb.size
      clear hb HM
      go_wp2_with (fail)
      with_reducible refine (new7_any 2000 _ (by decide) (by decide)).mono ?_
      rintro e w3 ⟨rfl, h7, hb⟩
      have hb3 := hb2.trans (hb.mono hb2.size)
      have HM3 := Lib.hid (HM2.out.below hb)
      have H7 := Lib.hid h7
      have hz3 : w2.heap.size ≤ w3.heap.size := hb.size
      clear hb h7 HM2
      go_wp2_with (fail)
      with_reducible refine (cells_any _ _ _ _ _ _ _ _ _ HM3.out (by have := HAL.out; omega)).mono ?_
      rintro e w4 ⟨u, rfl, hu, hb⟩
      have hb4 := hb3.trans (hb.mono hb3.size)
      have HM4 := Lib.hid (HM3.out.below hb)
      have H74 := Lib.hid (H7.out.below hb)
      have hz4 : w3.heap.size ≤ w4.heap.size := hb.size
      obtain ⟨A2, c2, rfl⟩ := own_shape hu
      have HU := Lib.hid (own_base0 hu)
      clear hb hu H7 HM3
      go_wp2_with (fail)
      with_reducible refine (make7_any _ _ _ _ A2 c2 _ (atL q) _ rfl H74.out (by simp) (by simp) (by decide) HU.out (by have := HAL.out; omega)).mono ?_
      rintro e w5 ⟨rfl, h7, hc⟩
      have hmk : (mkC [] 2000 (atL q)).2 = atL q := mk_at hl1
      rw [hmk] at h7
      have hz5 : w4.heap.size ≤ w5.heap.size := hc.size
      have H75 := Lib.hid h7.within
      have HM5 := Lib.hid (HM4.out.chg hc (fun hy => by omega) (fun g hg hy => by have := HVL.out g hg; omega))
      have hb5 := hb4.trans (hc.below (B := V.heap.size) (fun y hy => by omega) hb4.size)
      clear h7 hc H74 HM4 HU hmk
      go_wp2_with (fail)
      with_reducible refine (newR_any 8 k _).mono ?_
      rintro e w6 ⟨rfl, hf, hb⟩
      have hb6 := hb5.trans (hb.mono hb5.size)
      have HC := Lib.hid (show OnWayC q k V.heap.size V.heap.size w5.heap.size v 0 w6 from ⟨HM5.out.below hb, hf⟩)
      have H76 := Lib.hid (H75.out.below hb)
      have hz6 : w5.heap.size < w6.heap.size := hf.lt
      clear hb hf HM5 H75
      go_wp2_with (fail)
      with_reducible refine (HNEW.out _).mono ?_
      rintro e w7 ⟨ff, rfl, hfr, hff, hb⟩
      have hb7 := hb6.trans (hb.mono hb6.size)
      have hz7 : w6.heap.size ≤ w7.heap.size := hb.size
      have HPL : Hid (PlQ q k f V v w1.heap.size w5.heap.size ff w2.heap.size 0 (fun y => w6.heap.size ≤ y) (fun y => (w2.heap.size ≤ y ∨ w4.heap.size ≤ y) ∧ y < w5.heap.size) w7) := Lib.hid ⟨HC.out.below hb, hfr, H76.out.below hb, fun y h1 h2 => by omega, fun y h1 => by omega, fun y h1 => by omega, HVL.out, hz1, by have := hb5.size; omega, by omega, by omega, hb7⟩
      clear hb hfr HC H76 HNEW HVL hz7 hff
      generalize w5.heap.size = fb at HPL hz5 hz6 ⊢
      generalize w2.heap.size = bm at HPL hz2 hz3 ⊢
      generalize w1.heap.size = V1 at HPL hz1 hz2 ⊢
      clear hz2 hz3 hz4 hz5 hz6 hb1 hb2 hb3 hb4 hb5 hb6 hb7
      go_wp2_with (fail)
      go_loopw [14] (fun i wr => PlRel q k f V v V1 fb ff bm i wr) (fun i _ => nOf q k + 1 - (intOf i).toNat)
      case atStart => unfold PlRel; exact ⟨0, _, _, Nat.zero_le _, rfl, HPL.out⟩
      case round =>
        obtain ⟨t, F, Fm, ht, rfl, hP⟩ := hrel
        clear HPL
        have H := Lib.hid hP
        clear hP
        have htl : (t : Int) < 200 := by omega
        have hdl : decide ((t : Int) < 200) = true := decide_eq_true htl
        by_cases htn : t < nOf q k
        · have c23 : wr.cell? ⟨ff, 23, none⟩ = some (.bool false) := by
            have h := H.out.fr
            rw [show decide (nOf q k ≤ t) = false from decide_eq_false (by omega)] at h
            obtain ⟨_, _, _, _, _, _, _, h⟩ := h; exact h.blk.cell 23
          go_wp2_with (fail)
          with_reducible refine (pl_prog _ hl1 HW1.out HO.out htn H.out).mono ?_
          rintro e w8 ⟨rfl, hA, hB, hC, hz, hbl⟩
          have hen : ((stAt q k (t + 1)).next == 6) = decide (nOf q k ≤ t + 1) := by
            by_cases c : nOf q k ≤ t + 1
            · rw [(HO.out.ended (t + 1) c).1, decide_eq_true c]; rfl
            · rw [decide_eq_false c]; simpa using HO.out.going (t + 1) (by omega)
          have HEN := Lib.hid hen
          rw [hen]
          have HDOC := Lib.hid (pl_doc wr w8 hl1 HW1.out k0 k1 HO.out htn H.out hA hB hC hz hbl)
          clear hA hB hC hz hbl hen H c23
          go_wp2_with (fail)
          with_reducible refine (HDOC.out).mono ?_
          rintro e w9 ⟨rfl, F', Fm', hP'⟩
          have H9 := Lib.hid hP'
          have hfr := hP'.on.fr
          have HDN : Hid (∀ w, RouteP fb (stAt q k (t + 1)) w → Calls Tryz.prog 32 #[.pointer (some ⟨fb, 0, none⟩)] w fun e w' => e = .returned (.bool (decide (nOf q k ≤ t + 1))) ∧ w = w') := Lib.hid (fun w hw => by have := done_any fb (stAt q k (t + 1)) w hw; rw [HEN.out] at this; exact this)
          have HFR := Lib.hid hfr
          have c23 : w9.cell? ⟨ff, 23, none⟩ = some (.bool (decide (nOf q k ≤ t + 1))) := by obtain ⟨_, _, _, _, _, _, _, h⟩ := hP'.fr; exact h.blk.cell 23
          clear HDOC HEN hfr hP'
          generalize decide (nOf q k ≤ t + 1) = bv at HDN c23 ⊢
          cases bv
          all_goals
            go_wp2_with (fail)
            go_quiet ((go_at_call 32; exact quiet_left (HDN.out _ (HFR.out.drewN _))))
            go_wp2_with (fail)
            go_roundw
            case rel => unfold PlRel; exact ⟨t + 1, _, _, by omega, by go_num, H9.out.below (drawn_bl (Drawn.of w9 nq) _)⟩
            case measure => simp [intOf]; omega
        · have e : t = nOf q k := by omega
          subst e
          obtain ⟨E1, E2, E3⟩ := HO.out.ended (nOf q k) (Nat.le_refl _)
          have hfr := H.out.fr
          rw [show decide (nOf q k ≤ nOf q k) = true from decide_eq_true (Nat.le_refl _), show plO q k f (nOf q k) = { FOut.zero with n := (q.length : Int) + 1, m := f } from if_neg (by omega)] at hfr
          have HFQ := Lib.hid hfr
          obtain ⟨_, _, _, _, _, _, _, hfq⟩ := hfr
          have c23 : wr.cell? ⟨ff, 23, none⟩ = some (.bool true) := hfq.blk.cell 23
          have c26 : wr.cell? ⟨ff, 26, none⟩ = some (.int .i64 ((q.length : Int) + 1)) := hfq.blk.cell 26
          have c27 : wr.cell? ⟨ff, 27, none⟩ = some (.int .i64 f) := hfq.blk.cell 27
          have hff := hfq.blk.lt
          have HBLK : Hid (∀ w', Below wr.heap.size wr w' → w'.cell? ⟨ff, 23, none⟩ = some (.bool true) ∧ w'.cell? ⟨ff, 26, none⟩ = some (.int .i64 ((q.length : Int) + 1)) ∧ w'.cell? ⟨ff, 27, none⟩ = some (.int .i64 f)) := Lib.hid (fun w' hb => ⟨(hfq.blk.below hb hff).cell 23, (hfq.blk.below hb hff).cell 26, (hfq.blk.below hb hff).cell 27⟩)
          have HF1 : Hid (RouteP fb (stAt q k (nOf q k)) wr.drew) := Lib.hid (H.out.on.fr.drewN 1)
          have HDEG : Hid (∀ w, RouteP fb (stAt q k (nOf q k)) w → Calls Tryz.prog 33 #[.pointer (some ⟨fb, 0, none⟩)] w fun e w' => e = .returned (.int .i64 ((q.length : Int) + 1)) ∧ w = w') := Lib.hid (fun w hw => by have := degree_any fb (stAt q k (nOf q k)) w hw E1; rw [E2] at this; exact this)
          have HCH : Hid (∀ w, RouteP fb (stAt q k (nOf q k)) w → Calls Tryz.prog 34 #[.pointer (some ⟨fb, 0, none⟩)] w fun e w' => e = .returned (.int .i64 f) ∧ w = w') := Lib.hid (fun w hw => by have := child_any fb (stAt q k (nOf q k)) w hw; rw [E3] at this; exact this)
          have HLK : Hid (Calls Tryz.prog 35 #[.pointer (some ⟨V.heap.size, 0, none⟩), .pointer (some ⟨bm, 0, none⟩)] wr.drew fun e w' => e = .returned (.bool true) ∧ Below wr.heap.size wr w') := Lib.hid ((like_any Fm bm V.heap.size V.heap.size v (atL q) 2000 _ 0 0 wr.drew (H.out.on.mem.below (drawn_bl (Drawn.of wr 1) _)) (H.out.me.below (drawn_bl (Drawn.of wr 1) _)) (by have := HAL.out; omega)).mono fun e w' hp => ⟨hp.1, belowDrew hp.2⟩)
          have HBL := Lib.hid H.out.bl
          have hvs := H.out.bl.size
          clear hfq H E1 E2 E3 HFQ
          have hdd : decide ((q.length : Int) + 1 = (q.length : Int) + 1) = true := decide_eq_true rfl
          have hdf : decide ((f : Int) = f) = true := decide_eq_true rfl
          go_wp2_with (fail)
          go_region_held3 (fun w' => w'.cell? ⟨ff, 23, none⟩ = some (.bool true) ∧ w'.cell? ⟨ff, 26, none⟩ = some (.int .i64 ((q.length : Int) + 1)) ∧ w'.cell? ⟨ff, 27, none⟩ = some (.int .i64 f)) (first | go_keep | exact K1.out) (first | (go_at_call 33; (with_reducible refine (HDEG.out _ HF1.out).mono ?_); rintro e w8 ⟨rfl, rfl⟩) | (go_at_call 34; (with_reducible refine (HCH.out _ HF1.out).mono ?_); rintro e w8 ⟨rfl, rfl⟩) | (go_at_call 35; (with_reducible refine HLK.out.mono ?_); rintro e w9 ⟨rfl, hb⟩; have K1 := Lib.hid (HBLK.out w9 hb); have HBF := Lib.hid (HBL.out.trans (hb.mono hvs)); clear hb))
          all_goals
            go_wp2_with (fail)
            go_ret
            exact ⟨rfl, below_called HB1.out HBF.out⟩
  · have hg : decide ((q.length : Int) > 0) = false := decide_eq_false (by omega)
    go_wp2_with (fail)
    obtain ⟨f, _, f1, f2, f3⟩ := findI_split (k := k) HR.out
    have HO := Lib.hid (runOk HR.out (by omega) HW1.out k0 k1 f1 f2 f3)
    clear f2 f3
    have hfew := HO.out.few
    have hpos : 0 < nOf q k := by unfold nOf; omega
    have HNEW : Hid (∀ w, Calls Tryz.prog 29 #[.int .i64 15, .agg #[.int .i64 8, .int .i64 0, .int .i64 0, .int .i64 k, .int .i64 0, .int .i64 0, .int .i64 0, .bool false, .int .i64 0, .bool false, .slice none 0 0, .slice none 0 0, .slice none 0 0, .slice none 0 0, .slice none 0 0, .int .i64 0, .int .i64 0, .int .i64 0, .int .i64 0, .int .i64 0, .int .i64 0]] w fun e w' => ∃ fb, e = .returned (.pointer (some ⟨fb, 0, none⟩)) ∧ FrP (fun y => w.heap.size ≤ y) fb (pxs k) (plT q k 0) (decide (nOf q k ≤ 0)) (plO q k f 0) w' ∧ w.heap.size ≤ fb ∧ Below w.heap.size w w') := Lib.hid (pl_new (by omega) k0 k1 HO.out hpos)
    with_reducible refine (at_any A1 c1 q.length q _ rfl HQ1.out hl1).mono ?_
    rintro e w1 ⟨v, rfl, hm, hb1⟩
    have HM := Lib.hid hm
    have hz1 : V.heap.size < w1.heap.size := hm.blk.lt
    have HAL := Lib.hid (atL_len q)
    have hvl : ∀ g, v.ownBlock = some g → g < w1.heap.size := fun g hg => (hm.own.lt g hg).2
    have HVL := Lib.hid hvl
    clear hm hvl
    go_wp2_with (fail)
    with_reducible refine (known15_any _).mono ?_
    rintro e w2 ⟨rfl, hb⟩
    have hb2 := hb1.trans (hb.mono hb1.size)
    have HM2 := Lib.hid (HM.out.below hb)
    have hz2 : w1.heap.size ≤ w2.heap.size := hb.size
    clear hb HM
    go_wp2_with (fail)
    with_reducible refine (new7_any 2000 _ (by decide) (by decide)).mono ?_
    rintro e w3 ⟨rfl, h7, hb⟩
    have hb3 := hb2.trans (hb.mono hb2.size)
    have HM3 := Lib.hid (HM2.out.below hb)
    have H7 := Lib.hid h7
    have hz3 : w2.heap.size ≤ w3.heap.size := hb.size
    clear hb h7 HM2
    go_wp2_with (fail)
    with_reducible refine (cells_any _ _ _ _ _ _ _ _ _ HM3.out (by have := HAL.out; omega)).mono ?_
    rintro e w4 ⟨u, rfl, hu, hb⟩
    have hb4 := hb3.trans (hb.mono hb3.size)
    have HM4 := Lib.hid (HM3.out.below hb)
    have H74 := Lib.hid (H7.out.below hb)
    have hz4 : w3.heap.size ≤ w4.heap.size := hb.size
    obtain ⟨A2, c2, rfl⟩ := own_shape hu
    have HU := Lib.hid (own_base0 hu)
    clear hb hu H7 HM3
    go_wp2_with (fail)
    with_reducible refine (make7_any _ _ _ _ A2 c2 _ (atL q) _ rfl H74.out (by simp) (by simp) (by decide) HU.out (by have := HAL.out; omega)).mono ?_
    rintro e w5 ⟨rfl, h7, hc⟩
    have hmk : (mkC [] 2000 (atL q)).2 = atL q := mk_at hl1
    rw [hmk] at h7
    have hz5 : w4.heap.size ≤ w5.heap.size := hc.size
    have H75 := Lib.hid h7.within
    have HM5 := Lib.hid (HM4.out.chg hc (fun hy => by omega) (fun g hg hy => by have := HVL.out g hg; omega))
    have hb5 := hb4.trans (hc.below (B := V.heap.size) (fun y hy => by omega) hb4.size)
    clear h7 hc H74 HM4 HU hmk
    go_wp2_with (fail)
    with_reducible refine (newR_any 8 k _).mono ?_
    rintro e w6 ⟨rfl, hf, hb⟩
    have hb6 := hb5.trans (hb.mono hb5.size)
    have HC := Lib.hid (show OnWayC q k V.heap.size V.heap.size w5.heap.size v 0 w6 from ⟨HM5.out.below hb, hf⟩)
    have H76 := Lib.hid (H75.out.below hb)
    have hz6 : w5.heap.size < w6.heap.size := hf.lt
    clear hb hf HM5 H75
    go_wp2_with (fail)
    with_reducible refine (HNEW.out _).mono ?_
    rintro e w7 ⟨ff, rfl, hfr, hff, hb⟩
    have hb7 := hb6.trans (hb.mono hb6.size)
    have hz7 : w6.heap.size ≤ w7.heap.size := hb.size
    have HPL : Hid (PlQ q k f V v w1.heap.size w5.heap.size ff w2.heap.size 0 (fun y => w6.heap.size ≤ y) (fun y => (w2.heap.size ≤ y ∨ w4.heap.size ≤ y) ∧ y < w5.heap.size) w7) := Lib.hid ⟨HC.out.below hb, hfr, H76.out.below hb, fun y h1 h2 => by omega, fun y h1 => by omega, fun y h1 => by omega, HVL.out, hz1, by have := hb5.size; omega, by omega, by omega, hb7⟩
    clear hb hfr HC H76 HNEW HVL hz7 hff
    generalize w5.heap.size = fb at HPL hz5 hz6 ⊢
    generalize w2.heap.size = bm at HPL hz2 hz3 ⊢
    generalize w1.heap.size = V1 at HPL hz1 hz2 ⊢
    clear hz2 hz3 hz4 hz5 hz6 hb1 hb2 hb3 hb4 hb5 hb6 hb7
    go_wp2_with (fail)
    go_loopw [14] (fun i wr => PlRel q k f V v V1 fb ff bm i wr) (fun i _ => nOf q k + 1 - (intOf i).toNat)
    case atStart => unfold PlRel; exact ⟨0, _, _, Nat.zero_le _, rfl, HPL.out⟩
    case round =>
      obtain ⟨t, F, Fm, ht, rfl, hP⟩ := hrel
      clear HPL
      have H := Lib.hid hP
      clear hP
      have htl : (t : Int) < 200 := by omega
      have hdl : decide ((t : Int) < 200) = true := decide_eq_true htl
      by_cases htn : t < nOf q k
      · have c23 : wr.cell? ⟨ff, 23, none⟩ = some (.bool false) := by
          have h := H.out.fr
          rw [show decide (nOf q k ≤ t) = false from decide_eq_false (by omega)] at h
          obtain ⟨_, _, _, _, _, _, _, h⟩ := h; exact h.blk.cell 23
        go_wp2_with (fail)
        with_reducible refine (pl_prog _ hl1 HW1.out HO.out htn H.out).mono ?_
        rintro e w8 ⟨rfl, hA, hB, hC, hz, hbl⟩
        have hen : ((stAt q k (t + 1)).next == 6) = decide (nOf q k ≤ t + 1) := by
          by_cases c : nOf q k ≤ t + 1
          · rw [(HO.out.ended (t + 1) c).1, decide_eq_true c]; rfl
          · rw [decide_eq_false c]; simpa using HO.out.going (t + 1) (by omega)
        have HEN := Lib.hid hen
        rw [hen]
        have HDOC := Lib.hid (pl_doc wr w8 hl1 HW1.out k0 k1 HO.out htn H.out hA hB hC hz hbl)
        clear hA hB hC hz hbl hen H c23
        go_wp2_with (fail)
        with_reducible refine (HDOC.out).mono ?_
        rintro e w9 ⟨rfl, F', Fm', hP'⟩
        have H9 := Lib.hid hP'
        have hfr := hP'.on.fr
        have HDN : Hid (∀ w, RouteP fb (stAt q k (t + 1)) w → Calls Tryz.prog 32 #[.pointer (some ⟨fb, 0, none⟩)] w fun e w' => e = .returned (.bool (decide (nOf q k ≤ t + 1))) ∧ w = w') := Lib.hid (fun w hw => by have := done_any fb (stAt q k (t + 1)) w hw; rw [HEN.out] at this; exact this)
        have HFR := Lib.hid hfr
        have c23 : w9.cell? ⟨ff, 23, none⟩ = some (.bool (decide (nOf q k ≤ t + 1))) := by obtain ⟨_, _, _, _, _, _, _, h⟩ := hP'.fr; exact h.blk.cell 23
        clear HDOC HEN hfr hP'
        generalize decide (nOf q k ≤ t + 1) = bv at HDN c23 ⊢
        cases bv
        all_goals
          go_wp2_with (fail)
          go_quiet ((go_at_call 32; exact quiet_left (HDN.out _ (HFR.out.drewN _))))
          go_wp2_with (fail)
          go_roundw
          case rel => unfold PlRel; exact ⟨t + 1, _, _, by omega, by go_num, H9.out.below (drawn_bl (Drawn.of w9 nq) _)⟩
          case measure => simp [intOf]; omega
      · have e : t = nOf q k := by omega
        subst e
        obtain ⟨E1, E2, E3⟩ := HO.out.ended (nOf q k) (Nat.le_refl _)
        have hfr := H.out.fr
        rw [show decide (nOf q k ≤ nOf q k) = true from decide_eq_true (Nat.le_refl _), show plO q k f (nOf q k) = { FOut.zero with n := (q.length : Int) + 1, m := f } from if_neg (by omega)] at hfr
        have HFQ := Lib.hid hfr
        obtain ⟨_, _, _, _, _, _, _, hfq⟩ := hfr
        have c23 : wr.cell? ⟨ff, 23, none⟩ = some (.bool true) := hfq.blk.cell 23
        have c26 : wr.cell? ⟨ff, 26, none⟩ = some (.int .i64 ((q.length : Int) + 1)) := hfq.blk.cell 26
        have c27 : wr.cell? ⟨ff, 27, none⟩ = some (.int .i64 f) := hfq.blk.cell 27
        have hff := hfq.blk.lt
        have HBLK : Hid (∀ w', Below wr.heap.size wr w' → w'.cell? ⟨ff, 23, none⟩ = some (.bool true) ∧ w'.cell? ⟨ff, 26, none⟩ = some (.int .i64 ((q.length : Int) + 1)) ∧ w'.cell? ⟨ff, 27, none⟩ = some (.int .i64 f)) := Lib.hid (fun w' hb => ⟨(hfq.blk.below hb hff).cell 23, (hfq.blk.below hb hff).cell 26, (hfq.blk.below hb hff).cell 27⟩)
        have HF1 : Hid (RouteP fb (stAt q k (nOf q k)) wr.drew) := Lib.hid (H.out.on.fr.drewN 1)
        have HDEG : Hid (∀ w, RouteP fb (stAt q k (nOf q k)) w → Calls Tryz.prog 33 #[.pointer (some ⟨fb, 0, none⟩)] w fun e w' => e = .returned (.int .i64 ((q.length : Int) + 1)) ∧ w = w') := Lib.hid (fun w hw => by have := degree_any fb (stAt q k (nOf q k)) w hw E1; rw [E2] at this; exact this)
        have HCH : Hid (∀ w, RouteP fb (stAt q k (nOf q k)) w → Calls Tryz.prog 34 #[.pointer (some ⟨fb, 0, none⟩)] w fun e w' => e = .returned (.int .i64 f) ∧ w = w') := Lib.hid (fun w hw => by have := child_any fb (stAt q k (nOf q k)) w hw; rw [E3] at this; exact this)
        have HLK : Hid (Calls Tryz.prog 35 #[.pointer (some ⟨V.heap.size, 0, none⟩), .pointer (some ⟨bm, 0, none⟩)] wr.drew fun e w' => e = .returned (.bool true) ∧ Below wr.heap.size wr w') := Lib.hid ((like_any Fm bm V.heap.size V.heap.size v (atL q) 2000 _ 0 0 wr.drew (H.out.on.mem.below (drawn_bl (Drawn.of wr 1) _)) (H.out.me.below (drawn_bl (Drawn.of wr 1) _)) (by have := HAL.out; omega)).mono fun e w' hp => ⟨hp.1, belowDrew hp.2⟩)
        have HBL := Lib.hid H.out.bl
        have hvs := H.out.bl.size
        clear hfq H E1 E2 E3 HFQ
        have hdd : decide ((q.length : Int) + 1 = (q.length : Int) + 1) = true := decide_eq_true rfl
        have hdf : decide ((f : Int) = f) = true := decide_eq_true rfl
        go_wp2_with (fail)
        go_region_held3 (fun w' => w'.cell? ⟨ff, 23, none⟩ = some (.bool true) ∧ w'.cell? ⟨ff, 26, none⟩ = some (.int .i64 ((q.length : Int) + 1)) ∧ w'.cell? ⟨ff, 27, none⟩ = some (.int .i64 f)) (first | go_keep | exact K1.out) (first | (go_at_call 33; (with_reducible refine (HDEG.out _ HF1.out).mono ?_); rintro e w8 ⟨rfl, rfl⟩) | (go_at_call 34; (with_reducible refine (HCH.out _ HF1.out).mono ?_); rintro e w8 ⟨rfl, rfl⟩) | (go_at_call 35; (with_reducible refine HLK.out.mono ?_); rintro e w9 ⟨rfl, hb⟩; have K1 := Lib.hid (HBLK.out w9 hb); have HBF := Lib.hid (HBL.out.trans (hb.mono hvs)); clear hb))
        all_goals
          go_wp2_with (fail)
          go_ret
          exact ⟨rfl, below_called HB1.out HBF.out⟩
end Go.Proofs.YtblajeildolloaaGreat
