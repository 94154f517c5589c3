/- A frame of route over the Inner of `at`: when it is done, what it tells. -/
import Derived.Test.YtblajeildolloaaAt
import Derived.Test.YtblajeildolloaaStep
import Derived.Test.YtblajeildolloaaMathPath
namespace Go.Proofs.Ytblajeildolloaa
set_option linter.unusedVariables false
set_option linter.unusedSimpArgs false
open Go.RowKit

theorem atL_len (q : List Int) : (atL q).length = 2 * q.length + 13 := by
  unfold atL; rw [List.length_append, innerL_len]; simp [beginL]; omega
theorem keyAt_app {a b : List Int} {i : Nat} (h : a.length ≤ i) : keyAt (a ++ b) i = keyAt b (i - a.length) := by
  unfold keyAt
  rw [List.getD_eq_getElem?_getD, List.getD_eq_getElem?_getD, List.getElem?_append_right h]
theorem keyAt_app1 {a b : List Int} {i : Nat} (h : i < a.length) : keyAt (a ++ b) i = keyAt a i := by
  unfold keyAt
  rw [List.getD_eq_getElem?_getD, List.getD_eq_getElem?_getD, List.getElem?_append_left h]
theorem at_degree (q : List Int) : rdC (atL q) 8 = (q.length : Int) + 1 := by
  have h := rdC_in (C := atL q) (a := 8) (by omega) (by rw [atL_len]; omega)
  rw [show ((8 : Nat) : Int) = 8 from rfl] at h
  rw [h]
  unfold atL
  rw [keyAt_app (by simp [beginL])]
  rfl
theorem at_key (q : List Int) (hl : q.length ≤ 1000) (i : Nat) (h1 : 1 ≤ i) (h2 : i ≤ q.length) : rdC (atL q) (keyAtI 8 i) = keyAt q (i - 1) := by
  have hk : keyAtI 8 i = ((12 + i : Nat) : Int) := by
    unfold keyAtI nearB
    rw [if_pos ⟨by decide, by simp; omega⟩]
    omega
  rw [hk, rdC_in (by omega) (by rw [atL_len]; omega)]
  unfold atL innerL
  rw [keyAt_app (by simp [beginL]; omega), List.append_assoc, keyAt_app (by simp [beginL]; omega), keyAt_app1 (by simp [beginL]; omega)]
  congr 1
  simp [beginL]
  omega
theorem all_bd {L : List Int} (h : ∀ x ∈ L, -9223372036854775808 ≤ x ∧ x ≤ 9223372036854775807) : ∀ i, i < L.length → -9223372036854775808 ≤ keyAt L i ∧ keyAt L i ≤ 9223372036854775807 := fun i hi => h _ (by
  unfold keyAt
  rw [List.getD_eq_getElem?_getD, List.getElem?_eq_getElem hi]
  exact List.getElem_mem _)
theorem bd_all {L : List Int} (h : ∀ i, i < L.length → -9223372036854775808 ≤ keyAt L i ∧ keyAt L i ≤ 9223372036854775807) : ∀ x ∈ L, -9223372036854775808 ≤ x ∧ x ≤ 9223372036854775807 := fun x hx => by
  obtain ⟨i, hi, rfl⟩ := List.getElem_of_mem hx
  have := h i hi
  unfold keyAt at this
  rw [List.getD_eq_getElem?_getD, List.getElem?_eq_getElem hi] at this
  exact this
theorem atL_bd {q : List Int} (hl : q.length ≤ 1000) (hw : ∀ i, i < q.length → -9223372036854775808 ≤ keyAt q i ∧ keyAt q i ≤ 9223372036854775807) : ∀ i, i < (atL q).length → -9223372036854775808 ≤ keyAt (atL q) i ∧ keyAt (atL q) i ≤ 9223372036854775807 := by
  refine all_bd fun x hx => ?_
  unfold atL innerL beginL at hx
  simp only [List.mem_append, List.mem_cons, List.mem_replicate, List.not_mem_nil, or_false] at hx
  have := bd_all hw x
  rcases hx with h | (h | h) | h
  · omega
  · omega
  · exact this h
  · omega
theorem nodup_len : ∀ (n : Nat) (L : List Int), L.Nodup → (∀ x ∈ L, 1 ≤ x ∧ x ≤ n) → L.length ≤ n
  | 0, L, _, h => by
    rcases L with _ | ⟨a, L⟩
    · simp
    · have := h a List.mem_cons_self; omega
  | n + 1, L, hn, h => by
    by_cases hm : ((n + 1 : Nat) : Int) ∈ L
    · have h1 := nodup_len n (L.erase ((n + 1 : Nat) : Int)) (hn.erase _) (fun x hx => by
        have hx2 := (hn.mem_erase_iff).1 hx
        have := h x hx2.2
        have := hx2.1
        omega)
      rw [List.length_erase_of_mem hm] at h1
      omega
    · have := nodup_len n L hn (fun x hx => by
        have := h x hx
        have : x ≠ ((n + 1 : Nat) : Int) := fun e => hm (e ▸ hx)
        omega)
      omega
theorem RS.up_same (s : RS) (i : Int) : (s.up i).n = s.n ∧ (s.up i).degree = s.degree := by unfold RS.up; split <;> exact ⟨rfl, rfl⟩
theorem RS.down_same (s : RS) (i : Int) : (s.down i).n = s.n ∧ (s.down i).degree = s.degree := by unfold RS.down; split <;> exact ⟨rfl, rfl⟩
theorem RS.key_same (s : RS) (q : Int) : (s.key q).n = s.n ∧ (s.key q).degree = s.degree := by
  unfold RS.key
  split
  · split
    · exact ⟨rfl, rfl⟩
    · split <;> exact ⟨rfl, rfl⟩
  · split
    · split
      · unfold RS.guess
        split
        · exact ⟨rfl, rfl⟩
        · exact RS.up_same _ _
      · exact ⟨rfl, rfl⟩
    · split
      · split
        · exact RS.down_same _ _
        · exact RS.up_same _ _
      · split
        · split
          · exact ⟨rfl, rfl⟩
          · exact RS.up_same _ _
        · split
          · split
            · exact RS.down_same _ _
            · exact ⟨rfl, rfl⟩
          · exact ⟨rfl, rfl⟩
theorem RS.it_same {R : Int → Int} {a k d : Int} (hd : R a = d) : ∀ t, (RS.it R (RS.init a k) t).n = a ∧ ((RS.it R (RS.init a k) t).next = 0 ∨ (RS.it R (RS.init a k) t).degree = d)
  | 0 => ⟨rfl, .inl rfl⟩
  | t + 1 => by
    obtain ⟨h1, h2⟩ := RS.it_same (k := k) hd t
    show ((RS.it R (RS.init a k) t).step R).n = a ∧ (((RS.it R (RS.init a k) t).step R).next = 0 ∨ ((RS.it R (RS.init a k) t).step R).degree = d)
    generalize RS.it R (RS.init a k) t = s at h1 h2 ⊢
    by_cases h0 : s.next = 0
    · rw [RS.step0 h0]
      split
      · exact ⟨h1, .inr (by show R s.n = d; rw [h1]; exact hd)⟩
      · exact ⟨h1, .inr (by show R s.n = d; rw [h1]; exact hd)⟩
    · by_cases h6 : s.next = 6
      · rw [RS.step_done h6]; exact ⟨h1, h2⟩
      · rw [RS.stepK h0 h6]
        have := RS.key_same s (R (keyAtI s.n s.i))
        exact ⟨this.1.trans h1, .inr (this.2.trans (h2.resolve_left h0))⟩
/-- The state behind so many steps. -/
def stAt (q : List Int) (k : Int) (t : Nat) : RS := RS.it (rdC (atL q)) (RS.init 8 k) t
def nOf (q : List Int) (k : Int) : Nat := 1 + (pathI q k).length
structure RunOk (q : List Int) (k : Int) (f : Nat) : Prop where
  going : ∀ t, t < nOf q k → (stAt q k t).next ≠ 6
  ended : ∀ t, nOf q k ≤ t → (stAt q k t).next = 6 ∧ (stAt q k t).degree = (q.length : Int) + 1 ∧ (stAt q k t).child = f
  inv : ∀ t, (stAt q k t).Inv
  few : nOf q k ≤ q.length + 1
  here : ∀ t, (stAt q k t).next = 6 ∨ (1 ≤ (stAt q k t).addr ∧ (stAt q k t).addr ≤ (atL q).length)
theorem runOk {q : List Int} {k : Int} (hr : rightB q = true) (hl : q.length ≤ 1000) (hw : ∀ i, i < q.length → -9223372036854775808 ≤ keyAt q i ∧ keyAt q i ≤ 9223372036854775807) (k0 : -9223372036854775808 ≤ k) (k1 : k ≤ 9223372036854775807)
    {f : Nat} (f1 : f ≤ q.length) (f2 : ∀ j, j < f → keyAt q j ≤ k) (f3 : ∀ j, f ≤ j → j < q.length → k < keyAt q j) : RunOk q k f := by
  obtain ⟨s', hrun, he⟩ := RS.runs_all (R := rdC (atL q)) (a := 8) (k := k) hr (at_degree q) (at_key q hl) f1 f2 f3
  obtain ⟨a1, a2, a3⟩ := hrun.it
  have hp := pathOk hr f1 f2 f3
  refine ⟨a1, fun t ht => ?_, fun t => (RS.Inv.init (by omega) (by omega) k0 k1).it (rdC_bd (atL_bd hl hw)) t, ?_, fun t => ?_⟩
  · have : stAt q k t = s' := a3 t ht
    rw [this]
    exact ⟨a2, he.degree, he.child⟩
  · have : (pathI q k).length ≤ q.length := by
      exact nodup_len q.length _ hp.once hp.range
    unfold nOf
    omega
  · have hI : (stAt q k t).Inv := (RS.Inv.init (by omega) (by omega) k0 k1).it (rdC_bd (atL_bd hl hw)) t
    obtain ⟨s1, s2⟩ := RS.it_same (R := rdC (atL q)) (k := k) (at_degree q) t
    have s1' : (stAt q k t).n = 8 := s1
    have s2' : (stAt q k t).next = 0 ∨ (stAt q k t).degree = (q.length : Int) + 1 := s2
    have hlen := atL_len q
    generalize stAt q k t = s at hI s1' s2' ⊢
    unfold RS.addr
    by_cases h0 : s.next = 0
    · rw [if_pos h0, s1']
      right; omega
    · by_cases h6 : s.next = 6
      · exact .inl h6
      · right
        rw [if_neg h0, s1']
        rcases hI.st with h | h | ⟨_, _, _, _, h3, h4⟩
        · exact absurd h h0
        · exact absurd h h6
        · have hd := s2'.resolve_left h0
          unfold keyAtI nearB
          rw [if_pos ⟨by decide, by simp; omega⟩]
          omega
end Go.Proofs.Ytblajeildolloaa
