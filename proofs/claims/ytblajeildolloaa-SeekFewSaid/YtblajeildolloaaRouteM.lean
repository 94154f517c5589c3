/- The frame of route as numbers: its steps over a memory that is read by a function; over an Inner with ascending keys it reads what chapter 6's path says and ends at the right child. No program. -/
import Derived.Test.YtblajeildolloaaMathG
namespace Go.Proofs.Ytblajeildolloaa
set_option linter.unusedVariables false
set_option linter.unusedSimpArgs false

structure RS where
  next : Int
  n : Int
  k : Int
  degree : Int
  i : Int
  first : Int
  child : Int
def nearB (x : Int) : Bool := decide (0 ≤ x) && decide (x ≤ 1099511627776)
def keyAtI (n i : Int) : Int := if nearB n = true ∧ nearB i = true then n + 4 + i else 0
def childAtI (n d i : Int) : Int := if nearB n = true ∧ nearB d = true ∧ nearB i = true then n + 4 + d + i else 0
def RS.init (n k : Int) : RS := ⟨0, n, k, 0, 0, 0, 0⟩
def RS.ende (s : RS) (c : Int) : RS := { s with child := c, next := 6 }
def RS.up (s : RS) (i : Int) : RS := if s.degree - 1 ≤ i then { s with i := i, next := 6, child := s.degree - 1 - 1 } else { s with i := i, next := 4 }
def RS.down (s : RS) (i : Int) : RS := if i ≤ 1 then { s with i := i, next := 6, child := 1 } else { s with i := i, next := 5 }
def RS.guess (s : RS) (last : Int) : RS :=
  if 1 < guessI s.first last s.k (s.degree - 1) then { s with next := 3, i := guessI s.first last s.k (s.degree - 1) } else s.up 2
def RS.key (s : RS) (q : Int) : RS :=
  if s.next = 1 then (if s.k < q then { s with first := q, i := s.degree - 1, next := 6, child := 0 } else if s.degree - 1 = 1 then { s with first := q, i := s.degree - 1, next := 6, child := 1 } else { s with first := q, i := s.degree - 1, next := 2 })
  else if s.next = 2 then (if s.k < q then s.guess q else s.ende (s.degree - 1))
  else if s.next = 3 then (if s.k < q then s.down (s.i - 1) else s.up (s.i + 1))
  else if s.next = 4 then (if s.k < q then s.ende (s.i - 1) else s.up (s.i + 1))
  else if s.next = 5 then (if s.k < q then s.down (s.i - 1) else s.ende s.i)
  else s
def RS.step (R : Int → Int) (s : RS) : RS :=
  if s.next = 0 then (if R s.n < 2 then { s with degree := R s.n, i := 1, next := 6, child := 0 } else { s with degree := R s.n, i := 1, next := 1 })
  else if s.next = 6 then s
  else s.key (R (keyAtI s.n s.i))
theorem RS.key1 {s : RS} (h : s.next = 1) (q : Int) : s.key q = if s.k < q then { s with first := q, i := s.degree - 1, next := 6, child := 0 } else if s.degree - 1 = 1 then { s with first := q, i := s.degree - 1, next := 6, child := 1 } else { s with first := q, i := s.degree - 1, next := 2 } := by
  unfold RS.key; rw [if_pos h]
theorem RS.key2 {s : RS} (h : s.next = 2) (q : Int) : s.key q = if s.k < q then s.guess q else s.ende (s.degree - 1) := by
  unfold RS.key; rw [if_neg (by omega), if_pos h]
theorem RS.key3 {s : RS} (h : s.next = 3) (q : Int) : s.key q = if s.k < q then s.down (s.i - 1) else s.up (s.i + 1) := by
  unfold RS.key; rw [if_neg (by omega), if_neg (by omega), if_pos h]
theorem RS.key4 {s : RS} (h : s.next = 4) (q : Int) : s.key q = if s.k < q then s.ende (s.i - 1) else s.up (s.i + 1) := by
  unfold RS.key; rw [if_neg (by omega), if_neg (by omega), if_neg (by omega), if_pos h]
theorem RS.key5 {s : RS} (h : s.next = 5) (q : Int) : s.key q = if s.k < q then s.down (s.i - 1) else s.ende s.i := by
  unfold RS.key; rw [if_neg (by omega), if_neg (by omega), if_neg (by omega), if_neg (by omega), if_pos h]
theorem RS.step0 {R : Int → Int} {s : RS} (h : s.next = 0) : s.step R = if R s.n < 2 then { s with degree := R s.n, i := 1, next := 6, child := 0 } else { s with degree := R s.n, i := 1, next := 1 } := by
  unfold RS.step; rw [if_pos h]
theorem RS.stepK {R : Int → Int} {s : RS} (h : s.next ≠ 0) (h' : s.next ≠ 6) : s.step R = s.key (R (keyAtI s.n s.i)) := by
  unfold RS.step; rw [if_neg h, if_neg h']
def RS.it (R : Int → Int) (s : RS) : Nat → RS
  | 0 => s
  | t + 1 => (RS.it R s t).step R

theorem RS.it_succ (R : Int → Int) (s : RS) : ∀ t, RS.it R s (t + 1) = RS.it R (s.step R) t
  | 0 => rfl
  | t + 1 => by
    show (RS.it R s (t + 1)).step R = (RS.it R (s.step R) t).step R
    rw [RS.it_succ R s t]

/-- The cell that the next step reads. -/
def RS.addr (s : RS) : Int := if s.next = 0 then s.n else keyAtI s.n s.i
structure RS.Inv (s : RS) : Prop where
  n0 : -9223372036854775808 ≤ s.n
  n1 : s.n ≤ 9223372036854775807
  k0 : -9223372036854775808 ≤ s.k
  k1 : s.k ≤ 9223372036854775807
  g0 : -9223372036854775808 ≤ s.first
  g1 : s.first ≤ 9223372036854775807
  st : s.next = 0 ∨ s.next = 6 ∨ (1 ≤ s.next ∧ s.next ≤ 5 ∧ 2 ≤ s.degree ∧ s.degree ≤ 9223372036854775807 ∧ 1 ≤ s.i ∧ s.i ≤ s.degree - 1)
theorem guessI_le (f l k n : Int) (h : 1 ≤ n) : 0 ≤ guessI f l k n ∧ (1 < guessI f l k n → guessI f l k n ≤ n - 1) := by
  by_cases c : n < 2 ∨ 65536 < n ∨ k < f ∨ l ≤ k
  · rw [guessI_none c]; omega
  · have := guessI_bd (f := f) (l := l) (k := k) (n := n) (by omega) (by omega) (by omega) (by omega); omega
theorem RS.Inv.init {n k : Int} (n0 : -9223372036854775808 ≤ n) (n1 : n ≤ 9223372036854775807) (k0 : -9223372036854775808 ≤ k) (k1 : k ≤ 9223372036854775807) : (RS.init n k).Inv :=
  ⟨n0, n1, k0, k1, by simp [RS.init], by simp [RS.init], .inl rfl⟩
theorem RS.Inv.up {s : RS} (h : s.Inv) (d0 : 2 ≤ s.degree) (d1 : s.degree ≤ 9223372036854775807) {i : Int} (hi : 1 ≤ i) : (s.up i).Inv := by
  unfold RS.up
  split
  · exact ⟨h.n0, h.n1, h.k0, h.k1, h.g0, h.g1, .inr (.inl rfl)⟩
  · exact ⟨h.n0, h.n1, h.k0, h.k1, h.g0, h.g1, .inr (.inr ⟨by simp, by simp, d0, d1, hi, by simp; omega⟩)⟩
theorem RS.Inv.down {s : RS} (h : s.Inv) (d0 : 2 ≤ s.degree) (d1 : s.degree ≤ 9223372036854775807) {i : Int} (hi : i ≤ s.degree - 1) : (s.down i).Inv := by
  unfold RS.down
  split
  · exact ⟨h.n0, h.n1, h.k0, h.k1, h.g0, h.g1, .inr (.inl rfl)⟩
  · exact ⟨h.n0, h.n1, h.k0, h.k1, h.g0, h.g1, .inr (.inr ⟨by simp, by simp, d0, d1, by simp; omega, hi⟩)⟩
theorem RS.Inv.ende {s : RS} (h : s.Inv) (c : Int) : (s.ende c).Inv := ⟨h.n0, h.n1, h.k0, h.k1, h.g0, h.g1, .inr (.inl rfl)⟩
theorem RS.Inv.key {s : RS} (h : s.Inv) (h0 : s.next ≠ 0) (h6 : s.next ≠ 6) {q : Int} (q0 : -9223372036854775808 ≤ q) (q1 : q ≤ 9223372036854775807) : (s.key q).Inv := by
  have st : 1 ≤ s.next ∧ s.next ≤ 5 ∧ 2 ≤ s.degree ∧ s.degree ≤ 9223372036854775807 ∧ 1 ≤ s.i ∧ s.i ≤ s.degree - 1 := by rcases h.st with h | h | h <;> first | exact absurd h h0 | exact absurd h h6 | exact h
  obtain ⟨a1, a2, d0, d1, i0, i1⟩ := st
  unfold RS.key
  split
  · split
    · exact ⟨h.n0, h.n1, h.k0, h.k1, q0, q1, .inr (.inl rfl)⟩
    · split
      · exact ⟨h.n0, h.n1, h.k0, h.k1, q0, q1, .inr (.inl rfl)⟩
      · exact ⟨h.n0, h.n1, h.k0, h.k1, q0, q1, .inr (.inr ⟨by simp, by simp, d0, d1, by simp; omega, by simp⟩)⟩
  · split
    · split
      · unfold RS.guess
        split
        · rename_i hg
          have := guessI_le s.first q s.k (s.degree - 1) (by omega)
          exact ⟨h.n0, h.n1, h.k0, h.k1, h.g0, h.g1, .inr (.inr ⟨by simp, by simp, d0, d1, by simp; omega, by simp; omega⟩)⟩
        · exact h.up d0 d1 (by omega)
      · exact h.ende _
    · split
      · split
        · exact h.down d0 d1 (by omega)
        · exact h.up d0 d1 (by omega)
      · split
        · split
          · exact h.ende _
          · exact h.up d0 d1 (by omega)
        · split
          · split
            · exact h.down d0 d1 (by omega)
            · exact h.ende _
          · exact h
theorem RS.Inv.step {s : RS} (h : s.Inv) {R : Int → Int} (hR : ∀ a, -9223372036854775808 ≤ R a ∧ R a ≤ 9223372036854775807) : (s.step R).Inv := by
  by_cases h0 : s.next = 0
  · rw [RS.step0 h0]
    have := hR s.n
    split
    · exact ⟨h.n0, h.n1, h.k0, h.k1, h.g0, h.g1, .inr (.inl rfl)⟩
    · exact ⟨h.n0, h.n1, h.k0, h.k1, h.g0, h.g1, .inr (.inr ⟨by simp, by simp, by simp; omega, by simp; omega, by simp, by simp; omega⟩)⟩
  · by_cases h6 : s.next = 6
    · unfold RS.step; rw [if_neg h0, if_pos h6]; exact h
    · rw [RS.stepK h0 h6]; exact h.key h0 h6 (hR _).1 (hR _).2
theorem RS.Inv.it {s : RS} (h : s.Inv) {R : Int → Int} (hR : ∀ a, -9223372036854775808 ≤ R a ∧ R a ≤ 9223372036854775807) : ∀ t, (RS.it R s t).Inv
  | 0 => h
  | t + 1 => (RS.Inv.it h hR t).step hR

/-- From s it is n steps to the end, which is s'. -/
inductive RS.Runs (R : Int → Int) : RS → Nat → RS → Prop
  | ends {s : RS} : s.next = 6 → RS.Runs R s 0 s
  | step {s s' : RS} {n : Nat} : s.next ≠ 6 → RS.Runs R (s.step R) n s' → RS.Runs R s (n + 1) s'

theorem RS.step_done {R : Int → Int} {s : RS} (h : s.next = 6) : s.step R = s := by
  unfold RS.step; rw [if_neg (by omega), if_pos h]
theorem RS.Runs.it {R : Int → Int} {s s' : RS} {n : Nat} (h : RS.Runs R s n s') : (∀ t, t < n → (RS.it R s t).next ≠ 6) ∧ s'.next = 6 ∧ (∀ t, n ≤ t → RS.it R s t = s') := by
  induction h with
  | @ends s h =>
    refine ⟨fun t ht => absurd ht (by omega), h, fun t _ => ?_⟩
    induction t with
    | zero => rfl
    | succ t ih => show (RS.it R s t).step R = s; rw [ih (by omega), RS.step_done h]
  | @step s s' n hn _ ih =>
    refine ⟨fun t ht => ?_, ih.2.1, fun t ht => ?_⟩
    · rcases t with _ | t
      · exact hn
      · rw [RS.it_succ]; exact ih.1 t (by omega)
    · rcases t with _ | t
      · omega
      · rw [RS.it_succ]; exact ih.2.2 t (by omega)

/-- What is the same all along. -/
structure RS.Of (s : RS) (a k : Int) (q : List Int) : Prop where
  n : s.n = a
  k : s.k = k
  degree : s.degree = (q.length : Int) + 1
structure RS.End (s : RS) (q : List Int) (f : Nat) : Prop where
  degree : s.degree = (q.length : Int) + 1
  child : s.child = f

section
variable {R : Int → Int} {a k : Int} {q : List Int} {f : Nat}

theorem RS.runs_up (hR : ∀ i : Nat, 1 ≤ i → i ≤ q.length → R (keyAtI a i) = keyAt q (i - 1)) (f1 : f < q.length) (f2 : ∀ j, j < f → keyAt q j ≤ k) (f3 : ∀ j, f ≤ j → j < q.length → k < keyAt q j) :
    ∀ (d i : Nat) (s : RS), s.Of a k q → q.length ≤ d + i → 2 ≤ i → i ≤ f + 1 → ∃ s', RS.Runs R (s.up i) (upP q k d i).length s' ∧ s'.End q f
  | d, i, s, hs, hd, h2, hf => by
    by_cases hi : i < q.length
    · obtain ⟨d, rfl⟩ : ∃ m, d = m + 1 := ⟨d - 1, by omega⟩
      have hu : s.up i = { s with i := (i : Int), next := 4 } := by unfold RS.up; rw [if_neg (by rw [hs.degree]; omega)]
      have hq : R (keyAtI a i) = keyAt q (i - 1) := hR i (by omega) (by omega)
      have hst : (s.up i).step R = RS.key { s with i := (i : Int), next := 4 } (keyAt q (i - 1)) := by
        rw [hu]
        rw [RS.stepK (by simp) (by simp)]
        show RS.key _ (R (keyAtI s.n i)) = _
        rw [hs.n, hq]
      simp only [upP]
      rw [if_pos hi]
      by_cases c : k < keyAt q (i - 1)
      · have e : (s.up i).step R = RS.ende { s with i := (i : Int), next := 4 } ((i : Int) - 1) := by
          rw [hst]; rw [RS.key4 rfl, if_pos (by show s.k < _; rw [hs.k]; exact c)]
        have ef : f = i - 1 := by
          rcases Nat.lt_or_ge (i - 1) f with g | g
          · have := f2 (i - 1) g; omega
          · omega
        rw [if_pos c]
        exact ⟨(s.up i).step R, .step (by rw [hu]; simp) (.ends (by rw [e]; rfl)), ⟨by rw [e]; exact hs.degree, by rw [e]; show (i : Int) - 1 = f; omega⟩⟩
      · have e : (s.up i).step R = RS.up { s with i := (i : Int), next := 4 } ((i : Int) + 1) := by
          rw [hst]; rw [RS.key4 rfl, if_neg (by show ¬ s.k < _; rw [hs.k]; exact c)]
        have hfi : i ≤ f := by
          rcases Nat.lt_or_ge f i with g | g
          · have := f3 (i - 1) (by omega) (by omega); omega
          · exact g
        rw [if_neg c]
        obtain ⟨s', r, he⟩ := RS.runs_up hR f1 f2 f3 d (i + 1) { s with i := (i : Int), next := 4 } ⟨hs.n, hs.k, hs.degree⟩ (by omega) (by omega) (by omega)
        refine ⟨s', .step (by rw [hu]; simp) ?_, he⟩
        rw [e]
        have ei : ((i + 1 : Nat) : Int) = (i : Int) + 1 := by omega
        rw [ei] at r
        exact r
    · have hu : s.up i = { s with i := (i : Int), next := 6, child := s.degree - 1 - 1 } := by unfold RS.up; rw [if_pos (by rw [hs.degree]; omega)]
      have hl : (upP q k d i).length = 0 := by
        rcases d with _ | d
        · rfl
        · simp only [upP]; rw [if_neg hi]; rfl
      rw [hl, hu]
      refine ⟨_, .ends rfl, ⟨hs.degree, ?_⟩⟩
      show s.degree - 1 - 1 = f
      rw [hs.degree]; omega

theorem RS.runs_down (hR : ∀ i : Nat, 1 ≤ i → i ≤ q.length → R (keyAtI a i) = keyAt q (i - 1)) (f0 : 0 < f) (f2 : ∀ j, j < f → keyAt q j ≤ k) (f3 : ∀ j, f ≤ j → j < q.length → k < keyAt q j) :
    ∀ (i : Nat) (s : RS), s.Of a k q → i < q.length → f ≤ i ∨ (i = 0 ∧ f = 1) → ∃ s', RS.Runs R (s.down i) (downP q k i).length s' ∧ s'.End q f
  | 0, s, hs, hi, hf => by
    have hu : s.down (0 : Nat) = { s with i := ((0 : Nat) : Int), next := 6, child := 1 } := by unfold RS.down; rw [if_pos (by omega)]
    rw [hu]
    refine ⟨_, .ends rfl, ⟨hs.degree, ?_⟩⟩
    show (1 : Int) = f
    omega
  | i + 1, s, hs, hi, hf => by
    simp only [downP]
    by_cases h0 : 0 < i
    · have hu : s.down (i + 1 : Nat) = { s with i := ((i + 1 : Nat) : Int), next := 5 } := by unfold RS.down; rw [if_neg (by omega)]
      have hq : R (keyAtI a (i + 1 : Nat)) = keyAt q i := hR (i + 1) (by omega) (by omega)
      have hst : (s.down (i + 1 : Nat)).step R = RS.key { s with i := ((i + 1 : Nat) : Int), next := 5 } (keyAt q i) := by
        rw [hu]
        rw [RS.stepK (by simp) (by simp)]
        show RS.key _ (R (keyAtI s.n (i + 1 : Nat))) = _
        rw [hs.n, hq]
      rw [if_pos h0]
      by_cases c : keyAt q i ≤ k
      · have e : (s.down (i + 1 : Nat)).step R = RS.ende { s with i := ((i + 1 : Nat) : Int), next := 5 } ((i + 1 : Nat) : Int) := by
          rw [hst]; rw [RS.key5 rfl, if_neg (by show ¬ s.k < _; rw [hs.k]; omega)]
        have ef : f = i + 1 := by
          rcases Nat.lt_or_ge i f with g | g
          · omega
          · have := f3 i g (by omega); omega
        rw [if_pos c]
        exact ⟨(s.down (i + 1 : Nat)).step R, .step (by rw [hu]; simp) (.ends (by rw [e]; rfl)), ⟨by rw [e]; exact hs.degree, by rw [e]; show ((i + 1 : Nat) : Int) = f; omega⟩⟩
      · have e : (s.down (i + 1 : Nat)).step R = RS.down { s with i := ((i + 1 : Nat) : Int), next := 5 } (((i + 1 : Nat) : Int) - 1) := by
          rw [hst]; rw [RS.key5 rfl, if_pos (by show s.k < _; rw [hs.k]; omega)]
        have hfi : f ≤ i := by
          rcases Nat.lt_or_ge i f with g | g
          · have := f2 i g; omega
          · exact g
        rw [if_neg c]
        obtain ⟨s', r, he⟩ := RS.runs_down hR f0 f2 f3 i { s with i := ((i + 1 : Nat) : Int), next := 5 } ⟨hs.n, hs.k, hs.degree⟩ (by omega) (.inl hfi)
        refine ⟨s', .step (by rw [hu]; simp) ?_, he⟩
        rw [e]
        have ei : ((i + 1 : Nat) : Int) - 1 = i := by omega
        rw [ei]
        exact r
    · have hu : s.down (i + 1 : Nat) = { s with i := ((i + 1 : Nat) : Int), next := 6, child := 1 } := by unfold RS.down; rw [if_pos (by omega)]
      rw [if_neg h0, hu]
      refine ⟨_, .ends rfl, ⟨hs.degree, ?_⟩⟩
      show (1 : Int) = f
      omega

/-- Over an Inner at a with the keys q: as many steps as chapter 6's path has keys, and one; the right child. -/
theorem RS.runs_all (hr : rightB q = true) (h0 : R a = (q.length : Int) + 1) (hR : ∀ i : Nat, 1 ≤ i → i ≤ q.length → R (keyAtI a i) = keyAt q (i - 1)) (f1 : f ≤ q.length) (f2 : ∀ j, j < f → keyAt q j ≤ k) (f3 : ∀ j, f ≤ j → j < q.length → k < keyAt q j) :
    ∃ s', RS.Runs R (RS.init a k) (1 + (pathI q k).length) s' ∧ s'.End q f := by
  rw [Nat.add_comm]
  have hstep0 : (RS.init a k).step R = if R a < 2 then { RS.init a k with degree := R a, i := 1, next := 6, child := 0 } else { RS.init a k with degree := R a, i := 1, next := 1 } := by
    exact RS.step0 rfl
  by_cases hz : q.length = 0
  · have e : pathI q k = [] := by unfold pathI; rw [if_pos (.inl hz)]
    rw [e]
    refine ⟨_, .step (by simp [RS.init]) (by rw [hstep0, if_pos (by omega)]; exact .ends rfl), ⟨h0, ?_⟩⟩
    show (0 : Int) = f
    omega
  have hn : ¬ (q.length = 0 ∨ rightB q = false) := by simp [hz, hr]
  rw [if_neg (by omega)] at hstep0
  have hq1 : R (keyAtI a 1) = keyAt q 0 := hR 1 (by omega) (by omega)
  have hstep1 : (RS.step R { RS.init a k with degree := R a, i := 1, next := 1 }) = RS.key { RS.init a k with degree := R a, i := 1, next := 1 } (keyAt q 0) := by
    rw [RS.stepK (by simp) (by simp)]
    show RS.key _ (R (keyAtI a 1)) = _
    rw [hq1]
  have hl3 := rightB_len hr
  by_cases c1 : k < keyAt q 0
  · have e : pathI q k = [1] := by unfold pathI; rw [if_neg hn, if_pos (.inl c1)]
    rw [e]
    have ef : f = 0 := by
      rcases Nat.eq_zero_or_pos f with g | g
      · exact g
      · have := f2 0 g; omega
    have e1 : (RS.step R { RS.init a k with degree := R a, i := 1, next := 1 }) = { RS.init a k with degree := R a, first := keyAt q 0, i := R a - 1, next := 6, child := 0 } := by
      exact hstep1.trans ((RS.key1 rfl _).trans (if_pos c1))
    refine ⟨_, .step (by simp [RS.init]) (by rw [hstep0]; exact .step (by simp [RS.init]) (by rw [e1]; exact .ends rfl)), ⟨h0, ?_⟩⟩
    show (0 : Int) = f
    omega
  by_cases c2 : q.length = 1
  · have e : pathI q k = [1] := by unfold pathI; rw [if_neg hn, if_pos (.inr c2)]
    rw [e]
    have ef : f = 1 := by
      rcases Nat.eq_zero_or_pos f with g | g
      · have := f3 0 (by omega) (by omega); omega
      · omega
    have e1 : (RS.step R { RS.init a k with degree := R a, i := 1, next := 1 }) = { RS.init a k with degree := R a, first := keyAt q 0, i := R a - 1, next := 6, child := 1 } := by
      exact hstep1.trans ((RS.key1 rfl _).trans ((if_neg c1).trans (if_pos (by show R a - 1 = 1; omega))))
    refine ⟨_, .step (by simp [RS.init]) (by rw [hstep0]; exact .step (by simp [RS.init]) (by rw [e1]; exact .ends rfl)), ⟨h0, ?_⟩⟩
    show (1 : Int) = f
    omega
  have e1 : (RS.step R { RS.init a k with degree := R a, i := 1, next := 1 }) = { RS.init a k with degree := R a, first := keyAt q 0, i := R a - 1, next := 2 } := by
    exact hstep1.trans ((RS.key1 rfl _).trans ((if_neg c1).trans (if_neg (by show ¬ R a - 1 = 1; omega))))
  have hlast : R (keyAtI a (R a - 1)) = keyAt q (q.length - 1) := by
    rw [h0, show (q.length : Int) + 1 - 1 = (q.length : Nat) by omega]; exact hR q.length (by omega) (by omega)
  have hstep2 : (RS.step R { RS.init a k with degree := R a, first := keyAt q 0, i := R a - 1, next := 2 }) = RS.key { RS.init a k with degree := R a, first := keyAt q 0, i := R a - 1, next := 2 } (keyAt q (q.length - 1)) := by
    rw [RS.stepK (by simp) (by simp)]
    show RS.key _ (R (keyAtI a (R a - 1))) = _
    rw [hlast]
  by_cases c3 : keyAt q (q.length - 1) ≤ k
  · have e : pathI q k = [1, (q.length : Int)] := by unfold pathI; rw [if_neg hn, if_neg (by omega), if_pos c3]
    rw [e]
    have ef : f = q.length := by
      rcases Nat.lt_or_ge f q.length with g | g
      · have := f3 (q.length - 1) (by omega) (by omega); omega
      · omega
    have e2 : (RS.step R { RS.init a k with degree := R a, first := keyAt q 0, i := R a - 1, next := 2 }) = RS.ende { RS.init a k with degree := R a, first := keyAt q 0, i := R a - 1, next := 2 } (R a - 1) := by
      rw [hstep2]; rw [RS.key2 rfl, if_neg (by show ¬ k < _; omega)]
    refine ⟨_, .step (by simp [RS.init]) (by rw [hstep0]; exact .step (by simp [RS.init]) (by rw [e1]; exact .step (by simp [RS.init]) (by rw [e2]; exact .ends rfl))), ⟨h0, ?_⟩⟩
    show R a - 1 = f
    omega
  -- guessed
  obtain ⟨j0, j1⟩ := guessI_bd (f := keyAt q 0) (l := keyAt q (q.length - 1)) (k := k) (n := q.length) (by omega) (by omega) (by omega) (by omega)
  obtain ⟨j, hj⟩ : ∃ j : Nat, guessI (keyAt q 0) (keyAt q (q.length - 1)) k q.length = j := ⟨(guessI (keyAt q 0) (keyAt q (q.length - 1)) k q.length).toNat, by omega⟩
  rw [hj] at j0 j1
  have hJ : jI q k = j := hj
  have e : pathI q k = baseP q k ++ (if keyAt q (j - 1) ≤ k then upP q k q.length (j + 1) else downP q k (j - 1)) := by
    unfold pathI; rw [if_neg hn, if_neg (by omega), if_neg c3, hJ, Int.toNat_natCast]
  have fpos : 0 < f := by
    rcases Nat.eq_zero_or_pos f with g | g
    · have := f3 0 (by omega) (by omega); omega
    · exact g
  have flt : f < q.length := by
    rcases Nat.lt_or_ge f q.length with g | g
    · exact g
    · have := f2 (q.length - 1) (by omega); omega
  have e2 : (RS.step R { RS.init a k with degree := R a, first := keyAt q 0, i := R a - 1, next := 2 }) = RS.guess { RS.init a k with degree := R a, first := keyAt q 0, i := R a - 1, next := 2 } (keyAt q (q.length - 1)) := by
    rw [hstep2]; rw [RS.key2 rfl, if_pos (by show k < _; omega)]
  have hg : guessI (keyAt q 0) (keyAt q (q.length - 1)) k (R a - 1) = j := by rw [h0, show (q.length : Int) + 1 - 1 = q.length by omega]; exact hj
  rw [e]
  unfold baseP
  rw [hJ]
  by_cases c4 : 1 < j
  · have e3 : RS.guess { RS.init a k with degree := R a, first := keyAt q 0, i := R a - 1, next := 2 } (keyAt q (q.length - 1)) = { RS.init a k with degree := R a, first := keyAt q 0, i := (j : Int), next := 3 } := by
      unfold RS.guess
      show (if 1 < guessI (keyAt q 0) (keyAt q (q.length - 1)) k (R a - 1) then _ else _) = _
      rw [hg, if_pos (by omega)]
      show RS.mk 3 a k (R a) (guessI (keyAt q 0) (keyAt q (q.length - 1)) k (R a - 1)) _ _ = _
      rw [hg]; rfl
    have hjq : R (keyAtI a j) = keyAt q (j - 1) := hR j (by omega) (by omega)
    have hstep3 : (RS.step R { RS.init a k with degree := R a, first := keyAt q 0, i := (j : Int), next := 3 }) = RS.key { RS.init a k with degree := R a, first := keyAt q 0, i := (j : Int), next := 3 } (keyAt q (j - 1)) := by
      rw [RS.stepK (by simp) (by simp)]
      show RS.key _ (R (keyAtI a j)) = _
      rw [hjq]
    rw [if_pos (by omega)]
    have go : ∀ {n : Nat} {s' : RS}, RS.Runs R (RS.step R { RS.init a k with degree := R a, first := keyAt q 0, i := (j : Int), next := 3 }) n s' → RS.Runs R (RS.init a k) (n + 1 + 1 + 1 + 1) s' := by
      intro n s' h
      exact .step (by simp [RS.init]) (by rw [hstep0]; exact .step (by simp [RS.init]) (by rw [e1]; exact .step (by simp [RS.init]) (by rw [e2, e3]; exact .step (by simp [RS.init]) h)))
    by_cases c5 : keyAt q (j - 1) ≤ k
    · rw [if_pos c5]
      have jf : j ≤ f := by
        rcases Nat.lt_or_ge f j with g | g
        · have := f3 (j - 1) (by omega) (by omega); omega
        · exact g
      have e4 : (RS.step R { RS.init a k with degree := R a, first := keyAt q 0, i := (j : Int), next := 3 }) = RS.up { RS.init a k with degree := R a, first := keyAt q 0, i := (j : Int), next := 3 } ((j + 1 : Nat) : Int) := by
        rw [hstep3]; rw [RS.key3 rfl, if_neg (by show ¬ k < _; omega)]; rfl
      obtain ⟨s', r, he⟩ := RS.runs_up hR flt f2 f3 q.length (j + 1) { RS.init a k with degree := R a, first := keyAt q 0, i := (j : Int), next := 3 } ⟨rfl, rfl, h0⟩ (by omega) (by omega) (by omega)
      refine ⟨s', ?_, he⟩
      have := go (by rw [e4]; exact r)
      simpa [Nat.add_assoc, Nat.add_comm, Nat.add_left_comm] using this
    · rw [if_neg c5]
      have jf : f < j := by
        rcases Nat.lt_or_ge f j with g | g
        · exact g
        · have := f2 (j - 1) (by omega); omega
      have e4 : (RS.step R { RS.init a k with degree := R a, first := keyAt q 0, i := (j : Int), next := 3 }) = RS.down { RS.init a k with degree := R a, first := keyAt q 0, i := (j : Int), next := 3 } ((j - 1 : Nat) : Int) := by
        rw [hstep3]; rw [RS.key3 rfl, if_pos (by show k < _; omega)]
        show RS.down _ ((j : Int) - 1) = _
        rw [show (j : Int) - 1 = ((j - 1 : Nat) : Int) by omega]
      obtain ⟨s', r, he⟩ := RS.runs_down hR fpos f2 f3 (j - 1) { RS.init a k with degree := R a, first := keyAt q 0, i := (j : Int), next := 3 } ⟨rfl, rfl, h0⟩ (by omega) (.inl (by omega))
      refine ⟨s', ?_, he⟩
      have := go (by rw [e4]; exact r)
      simpa [Nat.add_assoc, Nat.add_comm, Nat.add_left_comm] using this
  · have ej : j = 1 := by omega
    have e3 : RS.guess { RS.init a k with degree := R a, first := keyAt q 0, i := R a - 1, next := 2 } (keyAt q (q.length - 1)) = RS.up { RS.init a k with degree := R a, first := keyAt q 0, i := R a - 1, next := 2 } ((2 : Nat) : Int) := by
      unfold RS.guess
      show (if 1 < guessI (keyAt q 0) (keyAt q (q.length - 1)) k (R a - 1) then _ else _) = _
      rw [hg, if_neg (by omega)]; rfl
    rw [if_neg (by omega)]
    have c5 : keyAt q (j - 1) ≤ k := by rw [ej]; show keyAt q 0 ≤ k; omega
    rw [if_pos c5, ej]
    obtain ⟨s', r, he⟩ := RS.runs_up hR flt f2 f3 q.length 2 { RS.init a k with degree := R a, first := keyAt q 0, i := R a - 1, next := 2 } ⟨rfl, rfl, h0⟩ (by omega) (by omega) (by omega)
    refine ⟨s', ?_, he⟩
    have : RS.Runs R (RS.init a k) ((upP q k q.length 2).length + 1 + 1 + 1) s' := .step (by simp [RS.init]) (by rw [hstep0]; exact .step (by simp [RS.init]) (by rw [e1]; exact .step (by simp [RS.init]) (by rw [e2, e3]; exact r)))
    simpa [Nat.add_assoc, Nat.add_comm, Nat.add_left_comm] using this
end
end Go.Proofs.Ytblajeildolloaa
