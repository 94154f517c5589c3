/- What the keys looked at are: in range, each once, and they say between which two the key lies. No program. -/
import Derived.Test.YtblajeildolloaaMathG
namespace Go.Proofs.Ytblajeildolloaa
set_option linter.unusedVariables false
set_option linter.unusedSimpArgs false

theorem upP_mem (q : List Int) (k : Int) : ∀ (d i : Nat) (x : Int), x ∈ upP q k d i → (i : Int) ≤ x ∧ x < q.length
  | 0, i, x, h => by simp [upP] at h
  | d + 1, i, x, h => by
    simp only [upP] at h
    split at h
    · rename_i hlt
      rcases List.mem_cons.1 h with rfl | h
      · omega
      · split at h
        · simp at h
        · have := upP_mem q k d (i + 1) x h; omega
    · simp at h
theorem upP_nodup (q : List Int) (k : Int) : ∀ (d i : Nat), (upP q k d i).Nodup
  | 0, i => by simp [upP]
  | d + 1, i => by
    simp only [upP]
    split
    · refine List.nodup_cons.2 ⟨fun h => ?_, ?_⟩
      · split at h
        · simp at h
        · have := (upP_mem q k d (i + 1) _ h).1; omega
      · split
        · simp
        · exact upP_nodup q k d (i + 1)
    · simp
theorem upP_has (q : List Int) (k : Int) : ∀ (d i m : Nat), q.length ≤ d + i → i ≤ m → m < q.length → (∀ y, i ≤ y → y < m → ¬ k < keyAt q (y - 1)) → (m : Int) ∈ upP q k d i
  | 0, i, m, h, h1, h2, _ => absurd h2 (by omega)
  | d + 1, i, m, h, h1, h2, h3 => by
    simp only [upP]
    rw [if_pos (by omega)]
    by_cases e : i = m
    · subst e; exact List.mem_cons_self
    · refine List.mem_cons_of_mem _ ?_
      rw [if_neg (h3 i (by omega) (by omega))]
      exact upP_has q k d (i + 1) m (by omega) (by omega) h2 (fun y a b => h3 y (by omega) b)
theorem downP_mem (q : List Int) (k : Int) : ∀ (i : Nat) (x : Int), x ∈ downP q k i → 2 ≤ x ∧ x ≤ i
  | 0, x, h => by simp [downP] at h
  | i + 1, x, h => by
    simp only [downP] at h
    split at h
    · rcases List.mem_cons.1 h with rfl | h
      · omega
      · split at h
        · simp at h
        · have := downP_mem q k i x h; omega
    · simp at h
theorem downP_nodup (q : List Int) (k : Int) : ∀ (i : Nat), (downP q k i).Nodup
  | 0 => by simp [downP]
  | i + 1 => by
    simp only [downP]
    split
    · refine List.nodup_cons.2 ⟨fun h => ?_, ?_⟩
      · split at h
        · simp at h
        · have := (downP_mem q k i _ h).2; omega
      · split
        · simp
        · exact downP_nodup q k i
    · simp
theorem downP_has (q : List Int) (k : Int) : ∀ (i m : Nat), 2 ≤ m → m ≤ i → (∀ y, m < y → y ≤ i → ¬ keyAt q (y - 1) ≤ k) → (m : Int) ∈ downP q k i
  | 0, m, h1, h2, _ => absurd h2 (by omega)
  | i + 1, m, h1, h2, h3 => by
    simp only [downP]
    rw [if_pos (by omega)]
    by_cases e : i + 1 = m
    · subst e; exact List.mem_cons_self
    · refine List.mem_cons_of_mem _ ?_
      have h4 := h3 (i + 1) (by omega) (by omega)
      have e2 : i + 1 - 1 = i := by omega
      rw [e2] at h4
      rw [if_neg h4]
      exact downP_has q k i m h1 (by omega) (fun y a b => h3 y a (by omega))

/-- The place of a key: before it all are not above, from it on all are. -/
theorem findI_split {q : List Int} {k : Int} (h : rightB q = true) : ∃ f : Nat, findI q k = f ∧ f ≤ q.length ∧ (∀ j, j < f → keyAt q j ≤ k) ∧ (∀ j, f ≤ j → j < q.length → k < keyAt q j) := by
  have : ∃ f : Nat, f ≤ q.length ∧ (∀ j, j < f → keyAt q j ≤ k) ∧ (∀ j, f ≤ j → j < q.length → k < keyAt q j) := by
    have go : ∀ n : Nat, n ≤ q.length → ∃ f : Nat, f ≤ n ∧ (∀ j, j < f → keyAt q j ≤ k) ∧ (∀ j, f ≤ j → j < n → k < keyAt q j) := by
      intro n
      induction n with
      | zero => intro _; exact ⟨0, by omega, fun j h => absurd h (by omega), fun j _ h => absurd h (by omega)⟩
      | succ n ih =>
        intro hn
        by_cases c : keyAt q n ≤ k
        · exact ⟨n + 1, by omega, fun j hj => by have := asc_le (rightB_asc h) (show j ≤ n by omega) (show n < q.length by omega); omega, fun j a b => absurd a (by omega)⟩
        · obtain ⟨f, f1, f2, f3⟩ := ih (by omega)
          refine ⟨f, by omega, f2, fun j a b => ?_⟩
          by_cases e : j = n
          · subst e; omega
          · exact f3 j a (by omega)
    exact go q.length (Nat.le_refl _)
  obtain ⟨f, f1, f2, f3⟩ := this
  exact ⟨f, findI_at h f1 f2 f3, f1, f2, f3⟩

structure PathOk (q : List Int) (k : Int) (f : Nat) : Prop where
  range : ∀ x ∈ pathI q k, 1 ≤ x ∧ x ≤ q.length
  once : (pathI q k).Nodup
  low : 0 < f → 0 < q.length → (f : Int) ∈ pathI q k
  high : f < q.length → ((f : Int) + 1) ∈ pathI q k

theorem pathOk {q : List Int} {k : Int} (h : rightB q = true) {f : Nat} (f1 : f ≤ q.length) (f2 : ∀ j, j < f → keyAt q j ≤ k) (f3 : ∀ j, f ≤ j → j < q.length → k < keyAt q j) : PathOk q k f := by
  by_cases hz : q.length = 0
  · have e : pathI q k = [] := by unfold pathI; rw [if_pos (.inl hz)]
    exact ⟨by rw [e]; simp, by rw [e]; simp, fun _ h => absurd h (by omega), fun h => absurd h (by omega)⟩
  have h0 : ¬ (q.length = 0 ∨ rightB q = false) := by simp [hz, h]
  by_cases h1 : k < keyAt q 0 ∨ q.length = 1
  · have e : pathI q k = [1] := by unfold pathI; rw [if_neg h0, if_pos h1]
    refine ⟨by rw [e]; simp; omega, by rw [e]; simp, fun a b => ?_, fun a => ?_⟩
    · have : f = 1 := by
        rcases h1 with h1 | h1
        · have := f2 0 a; omega
        · omega
      rw [e, this]; simp
    · have : f = 0 := by
        rcases h1 with h1 | h1
        · rcases Nat.eq_zero_or_pos f with g | g
          · exact g
          · have := f2 0 g; omega
        · omega
      rw [e, this]; simp
  have l2 : 2 ≤ q.length := by omega
  by_cases h2 : keyAt q (q.length - 1) ≤ k
  · have e : pathI q k = [1, (q.length : Int)] := by unfold pathI; rw [if_neg h0, if_neg h1, if_pos h2]
    have ef : f = q.length := by
      rcases Nat.lt_or_ge f q.length with g | g
      · have := f3 (q.length - 1) (by omega) (by omega); omega
      · omega
    refine ⟨by rw [e]; simp; omega, by rw [e]; simp; omega, fun _ _ => by rw [e, ef]; simp, fun g => absurd g (by omega)⟩
  have l3 := rightB_len h
  obtain ⟨j0, j1⟩ := guessI_bd (f := keyAt q 0) (l := keyAt q (q.length - 1)) (k := k) (n := q.length) (by omega) (by omega) (by omega) (by omega)
  obtain ⟨j, hj⟩ : ∃ j : Nat, guessI (keyAt q 0) (keyAt q (q.length - 1)) k q.length = j := ⟨(guessI (keyAt q 0) (keyAt q (q.length - 1)) k q.length).toNat, by omega⟩
  rw [hj] at j0 j1
  have hJ : jI q k = j := hj
  have e : pathI q k = baseP q k ++ (if keyAt q (j - 1) ≤ k then upP q k q.length (j + 1) else downP q k (j - 1)) := by
    unfold pathI; rw [if_neg h0, if_neg h1, if_neg h2, hJ, Int.toNat_natCast]
  have fpos : 0 < f := by
    rcases Nat.eq_zero_or_pos f with g | g
    · have := f3 0 (by omega) (by omega); omega
    · exact g
  have flt : f < q.length := by
    rcases Nat.lt_or_ge f q.length with g | g
    · exact g
    · have := f2 (q.length - 1) (by omega); omega
  -- the base
  have b1 : (1 : Int) ∈ baseP q k := by unfold baseP; simp
  have b2 : (q.length : Int) ∈ baseP q k := by unfold baseP; simp
  have b3 : (j : Int) ∈ baseP q k := by
    by_cases g : 1 < j
    · unfold baseP; rw [hJ, if_pos (by omega)]; simp
    · have : j = 1 := by omega
      rw [this]; exact b1
  have b4 : ∀ x ∈ baseP q k, x = 1 ∨ x = q.length ∨ (x = j ∧ 1 < j) := by
    intro x hx
    unfold baseP at hx
    rw [hJ] at hx
    split at hx
    · simp at hx; omega
    · simp at hx; omega
  have b5 : (baseP q k).Nodup := by
    unfold baseP
    rw [hJ]
    split
    · simp; omega
    · simp; omega
  by_cases c : keyAt q (j - 1) ≤ k
  · have jf : j ≤ f := by
      rcases Nat.lt_or_ge f j with g | g
      · have := f3 (j - 1) (by omega) (by omega); omega
      · exact g
    have has : ∀ m : Nat, j < m → m ≤ f + 1 → m < q.length → (m : Int) ∈ upP q k q.length (j + 1) := fun m a b d => upP_has q k _ _ m (by omega) (by omega) d (fun y y1 y2 => by have := f2 (y - 1) (by omega); omega)
    refine ⟨?_, ?_, fun _ _ => ?_, fun _ => ?_⟩
    · rw [e, if_pos c]
      intro x hx
      rcases List.mem_append.1 hx with hx | hx
      · have := b4 x hx; omega
      · have := upP_mem q k _ _ x hx; omega
    · rw [e, if_pos c]
      refine List.nodup_append.2 ⟨b5, upP_nodup q k _ _, fun x hx y hy exy => ?_⟩
      subst exy
      have a1 := b4 x hx
      have a2 := upP_mem q k _ _ x hy
      omega
    · rw [e, if_pos c]
      by_cases g : j = f
      · subst g; exact List.mem_append_left _ b3
      · exact List.mem_append_right _ (has f (by omega) (by omega) flt)
    · rw [e, if_pos c]
      by_cases g : f + 1 = q.length
      · have : (f : Int) + 1 = q.length := by omega
        rw [this]; exact List.mem_append_left _ b2
      · have := has (f + 1) (by omega) (by omega) (by omega)
        exact List.mem_append_right _ this
  · have jf : f < j := by
      rcases Nat.lt_or_ge f j with g | g
      · exact g
      · have := f2 (j - 1) (by omega); omega
    have has : ∀ m : Nat, 2 ≤ m → f ≤ m → m < j → (m : Int) ∈ downP q k (j - 1) := fun m a b d => downP_has q k _ m a (by omega) (fun y y1 y2 => by have := f3 (y - 1) (by omega) (by omega); omega)
    refine ⟨?_, ?_, fun _ _ => ?_, fun _ => ?_⟩
    · rw [e, if_neg c]
      intro x hx
      rcases List.mem_append.1 hx with hx | hx
      · have := b4 x hx; omega
      · have := downP_mem q k _ x hx; omega
    · rw [e, if_neg c]
      refine List.nodup_append.2 ⟨b5, downP_nodup q k _, fun x hx y hy exy => ?_⟩
      subst exy
      have a1 := b4 x hx
      have a2 := downP_mem q k _ x hy
      omega
    · rw [e, if_neg c]
      by_cases g : f = 1
      · rw [g]; exact List.mem_append_left _ b1
      · exact List.mem_append_right _ (has f (by omega) (by omega) jf)
    · rw [e, if_neg c]
      by_cases g : f + 1 = j
      · have : (f : Int) + 1 = j := by omega
        rw [this]; exact List.mem_append_left _ b3
      · have := has (f + 1) (by omega) (by omega) (by omega)
        exact List.mem_append_right _ this
end Go.Proofs.Ytblajeildolloaa
