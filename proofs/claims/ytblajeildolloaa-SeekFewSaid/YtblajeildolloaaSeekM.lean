/- The frame of seek as numbers. No program's text. -/
import Derived.Test.YtblajeildolloaaPeek
import Derived.Test.YtblajeildolloaaRouteM
namespace Go.Proofs.Ytblajeildolloaa
set_option linter.unusedVariables false
set_option linter.unusedSimpArgs false
open Go.RowKit

def RS.acc (s : RS) : Option Int := if s.next = 6 then none else some s.addr
structure SS where
  next : Int
  k : Int
  n : Int
  route : RS
  peek : Option PS
  at_ : Int
  value : Int
  there : Bool
def SS.enter (s : SS) (n : Int) : SS := { s with next := 0, n := n, route := RS.init n s.k }
def SS.init (k : Int) : SS := ⟨0, k, 1, RS.init 1 k, none, 0, 0, false⟩
def SS.meet (s : SS) (w : Int) : SS :=
  if wKind w = 2 then { s with at_ := wAt w, next := 2 }
  else if wKind w = 3 then SS.enter { s with at_ := wAt w } (wAt w)
  else if wKind w = 4 then { s with at_ := wAt w, next := 4 }
  else { s with at_ := wAt w, next := 5 }
def SS.step (R : Int → Int) (s : SS) : SS :=
  if s.next = 0 then (if (s.route.step R).next = 6 then { s with route := s.route.step R, next := 1, peek := some (PS.init (childAtI s.n (s.route.step R).degree (s.route.step R).child)) } else { s with route := s.route.step R })
  else if s.next = 1 then (match s.peek with
    | some p => if (p.step R).next = 3 then SS.meet { s with peek := some (p.step R) } (p.step R).word else { s with peek := some (p.step R) }
    | none => s)
  else if s.next = 2 then (if R s.at_ = s.k then { s with next := 3 } else { s with next := 5 })
  else if s.next = 3 then { s with value := R (s.at_ + 1), there := true, next := 5 }
  else if s.next = 4 then SS.enter s (wAt (R s.at_))
  else s
def SS.acc (s : SS) : Option Int :=
  if s.next = 0 then s.route.acc
  else if s.next = 1 then (match s.peek with | some p => p.acc | none => none)
  else if s.next = 2 then some s.at_
  else if s.next = 3 then some (s.at_ + 1)
  else if s.next = 4 then some s.at_
  else none
structure SS.Inv (s : SS) : Prop where
  k0 : -9223372036854775808 ≤ s.k
  k1 : s.k ≤ 9223372036854775807
  rt : s.route.Inv
  a0 : 0 ≤ s.at_
  a1 : s.at_ ≤ 65536
  st : (s.next = 0 ∧ s.route.next ≠ 6) ∨ (s.next = 1 ∧ ∃ p, s.peek = some p ∧ p.Inv ∧ p.next ≠ 3) ∨ s.next = 2 ∨ s.next = 3 ∨ s.next = 4 ∨ s.next = 5
theorem childAtI_bd {n d i : Int} : 0 ≤ childAtI n d i ∧ childAtI n d i ≤ 3298534883332 := by
  unfold childAtI
  split
  · rename_i h
    have h1 := nearB_yes h.1
    have h2 := nearB_yes h.2.1
    have h3 := nearB_yes h.2.2
    omega
  · omega
section
variable {s : SS} {R : Int → Int} {p : PS}
theorem SS.step0 (h : s.next = 0) (h6 : (s.route.step R).next ≠ 6) : s.step R = { s with route := s.route.step R } := by
  unfold SS.step; rw [if_pos h, if_neg h6]
theorem SS.step0e (h : s.next = 0) (h6 : (s.route.step R).next = 6) : s.step R = { s with route := s.route.step R, next := 1, peek := some (PS.init (childAtI s.n (s.route.step R).degree (s.route.step R).child)) } := by
  unfold SS.step; rw [if_pos h, if_pos h6]
theorem SS.step1 (h : s.next = 1) (hp : s.peek = some p) (h3 : (p.step R).next ≠ 3) : s.step R = { s with peek := some (p.step R) } := by
  unfold SS.step; rw [if_neg (by omega), if_pos h, hp]; exact if_neg h3
theorem SS.step1e (h : s.next = 1) (hp : s.peek = some p) (h3 : (p.step R).next = 3) : s.step R = SS.meet { s with peek := some (p.step R) } (p.step R).word := by
  unfold SS.step; rw [if_neg (by omega), if_pos h, hp]; exact if_pos h3
theorem SS.step2 (h : s.next = 2) : s.step R = if R s.at_ = s.k then { s with next := 3 } else { s with next := 5 } := by
  unfold SS.step; rw [if_neg (by omega), if_neg (by omega), if_pos h]
theorem SS.step3 (h : s.next = 3) : s.step R = { s with value := R (s.at_ + 1), there := true, next := 5 } := by
  unfold SS.step; rw [if_neg (by omega), if_neg (by omega), if_neg (by omega), if_pos h]
theorem SS.step4 (h : s.next = 4) : s.step R = SS.enter s (wAt (R s.at_)) := by
  unfold SS.step; rw [if_neg (by omega), if_neg (by omega), if_neg (by omega), if_neg (by omega), if_pos h]
theorem SS.step5 (h : s.next = 5) : s.step R = s := by
  unfold SS.step; rw [if_neg (by omega), if_neg (by omega), if_neg (by omega), if_neg (by omega), if_neg (by omega)]
theorem SS.acc0 (h : s.next = 0) : s.acc = s.route.acc := by unfold SS.acc; rw [if_pos h]
theorem SS.acc1 (h : s.next = 1) (hp : s.peek = some p) : s.acc = p.acc := by unfold SS.acc; rw [if_neg (by omega), if_pos h, hp]
theorem SS.acc2 (h : s.next = 2) : s.acc = some s.at_ := by unfold SS.acc; rw [if_neg (by omega), if_neg (by omega), if_pos h]
theorem SS.acc3 (h : s.next = 3) : s.acc = some (s.at_ + 1) := by unfold SS.acc; rw [if_neg (by omega), if_neg (by omega), if_neg (by omega), if_pos h]
theorem SS.acc4 (h : s.next = 4) : s.acc = some s.at_ := by unfold SS.acc; rw [if_neg (by omega), if_neg (by omega), if_neg (by omega), if_neg (by omega), if_pos h]
theorem SS.acc5 (h : s.next = 5) : s.acc = none := by unfold SS.acc; rw [if_neg (by omega), if_neg (by omega), if_neg (by omega), if_neg (by omega), if_neg (by omega)]
structure SS.Inv0 (s : SS) : Prop where
  k0 : -9223372036854775808 ≤ s.k
  k1 : s.k ≤ 9223372036854775807
  rt : s.route.Inv
  a0 : 0 ≤ s.at_
  a1 : s.at_ ≤ 65536
theorem SS.Inv.inv0 (h : s.Inv) : s.Inv0 := ⟨h.k0, h.k1, h.rt, h.a0, h.a1⟩
theorem SS.Inv.enter (h : s.Inv0) {n : Int} (h0 : 0 ≤ n) (h1 : n ≤ 65536) : (s.enter n).Inv :=
  ⟨h.k0, h.k1, RS.Inv.init (by omega) (by omega) h.k0 h.k1, h.a0, h.a1, .inl ⟨rfl, by simp [SS.enter, RS.init]⟩⟩
theorem SS.Inv.init {k : Int} (k0 : -9223372036854775808 ≤ k) (k1 : k ≤ 9223372036854775807) : (SS.init k).Inv :=
  ⟨k0, k1, RS.Inv.init (by omega) (by omega) k0 k1, by simp [SS.init], by simp [SS.init], .inl ⟨rfl, by simp [SS.init, RS.init]⟩⟩
theorem SS.Inv.meet (h : s.Inv0) (w : Int) : (s.meet w).Inv := by
  have b := wAt_bd w
  unfold SS.meet
  split
  · exact ⟨h.k0, h.k1, h.rt, b.1, b.2, .inr (.inr (.inl rfl))⟩
  · split
    · exact SS.Inv.enter (s := { s with at_ := wAt w }) ⟨h.k0, h.k1, h.rt, b.1, b.2⟩ b.1 b.2
    · split
      · exact ⟨h.k0, h.k1, h.rt, b.1, b.2, .inr (.inr (.inr (.inr (.inl rfl))))⟩
      · exact ⟨h.k0, h.k1, h.rt, b.1, b.2, .inr (.inr (.inr (.inr (.inr rfl))))⟩
theorem SS.Inv.step (h : s.Inv) (hR : ∀ a, -9223372036854775808 ≤ R a ∧ R a ≤ 9223372036854775807) : (s.step R).Inv := by
  rcases h.st with ⟨h0, h6⟩ | ⟨h1, p, hp, hI, h3⟩ | h2 | h3 | h4 | h5
  · have hr := h.rt.step hR
    by_cases e6 : (s.route.step R).next = 6
    · rw [SS.step0e h0 e6]
      have := childAtI_bd (n := s.n) (d := (s.route.step R).degree) (i := (s.route.step R).child)
      exact ⟨h.k0, h.k1, hr, h.a0, h.a1, .inr (.inl ⟨rfl, _, rfl, PS.Inv.init (by omega) (by omega), by simp [PS.init]⟩)⟩
    · rw [SS.step0 h0 e6]
      exact ⟨h.k0, h.k1, hr, h.a0, h.a1, .inl ⟨h0, e6⟩⟩
  · have hp2 := hI.step hR
    by_cases e3 : (p.step R).next = 3
    · rw [SS.step1e h1 hp e3]
      exact SS.Inv.meet (s := { s with peek := some (p.step R) }) ⟨h.k0, h.k1, h.rt, h.a0, h.a1⟩ _
    · rw [SS.step1 h1 hp e3]
      exact ⟨h.k0, h.k1, h.rt, h.a0, h.a1, .inr (.inl ⟨h1, _, rfl, hp2, e3⟩)⟩
  · rw [SS.step2 h2]
    split
    · exact ⟨h.k0, h.k1, h.rt, h.a0, h.a1, .inr (.inr (.inr (.inl rfl)))⟩
    · exact ⟨h.k0, h.k1, h.rt, h.a0, h.a1, .inr (.inr (.inr (.inr (.inr rfl))))⟩
  · rw [SS.step3 h3]
    exact ⟨h.k0, h.k1, h.rt, h.a0, h.a1, .inr (.inr (.inr (.inr (.inr rfl))))⟩
  · rw [SS.step4 h4]
    exact SS.Inv.enter h.inv0 (wAt_bd _).1 (wAt_bd _).2
  · rw [SS.step5 h5]; exact h
end
end Go.Proofs.Ytblajeildolloaa
