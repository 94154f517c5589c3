/- The frame of walk as numbers. No program's text. -/
import Derived.Test.YtblajeildolloaaGreatSeekM
namespace Go.Proofs.YtblajeildolloaaGreat
set_option linter.unusedVariables false
set_option linter.unusedSimpArgs false
open Go.RowKit

/-- What a route tells: a child that there is. -/
structure RS.Ch (s : RS) : Prop where
  ch : s.next = 6 → 0 ≤ s.child ∧ (s.child = 0 ∨ s.child < s.degree)
  d1 : s.degree ≤ 9223372036854775807
theorem RS.Ch.init (n k : Int) : (RS.init n k).Ch := ⟨fun h => by simp [RS.init] at h, by simp [RS.init]⟩
theorem RS.Ch.up {s : RS} (h : s.Ch) (d0 : 2 ≤ s.degree) (i : Int) : (s.up i).Ch := by
  have := h.d1
  unfold RS.up
  split
  · exact ⟨fun _ => ⟨by simp; omega, .inr (by simp; omega)⟩, h.d1⟩
  · exact ⟨fun e => by simp at e, h.d1⟩
theorem RS.Ch.down {s : RS} (h : s.Ch) (d0 : 2 ≤ s.degree) (i : Int) : (s.down i).Ch := by
  unfold RS.down
  split
  · exact ⟨fun _ => ⟨by simp, .inr (by simp; omega)⟩, h.d1⟩
  · exact ⟨fun e => by simp at e, h.d1⟩
theorem RS.Ch.ende {s : RS} (h : s.Ch) (c : Int) (h0 : 0 ≤ c) (h1 : c = 0 ∨ c < s.degree) : (s.ende c).Ch := ⟨fun _ => ⟨h0, h1⟩, h.d1⟩
theorem RS.Ch.key {s : RS} (h : s.Ch) (hI : s.Inv) (h0 : s.next ≠ 0) (h6 : s.next ≠ 6) (q : Int) : (s.key q).Ch := by
  have st : 1 ≤ s.next ∧ s.next ≤ 5 ∧ 2 ≤ s.degree ∧ s.degree ≤ 9223372036854775807 ∧ 1 ≤ s.i ∧ s.i ≤ s.degree - 1 := by rcases hI.st with h | h | h <;> first | exact absurd h h0 | exact absurd h h6 | exact h
  obtain ⟨a1, a2, d0, d1, i0, i1⟩ := st
  unfold RS.key
  split
  · split
    · exact ⟨fun _ => ⟨by simp, .inl rfl⟩, h.d1⟩
    · split
      · exact ⟨fun _ => ⟨by simp, .inr (by simp; omega)⟩, h.d1⟩
      · exact ⟨fun e => by simp at e, h.d1⟩
  · split
    · split
      · unfold RS.guess
        split
        · exact ⟨fun e => by simp at e, h.d1⟩
        · exact h.up d0 2
      · exact h.ende _ (by omega) (.inr (by omega))
    · split
      · split
        · exact h.down d0 _
        · exact h.up d0 _
      · split
        · split
          · exact h.ende _ (by omega) (.inr (by omega))
          · exact h.up d0 _
        · split
          · split
            · exact h.down d0 _
            · exact h.ende _ (by omega) (.inr (by omega))
          · omega
theorem RS.Ch.step {s : RS} (h : s.Ch) (hI : s.Inv) {R : Int → Int} (hR : ∀ a, -9223372036854775808 ≤ R a ∧ R a ≤ 9223372036854775807) : (s.step R).Ch := by
  by_cases h0 : s.next = 0
  · rw [RS.step0 h0]
    have := hR s.n
    split
    · exact ⟨fun _ => ⟨by simp, .inl rfl⟩, by simp; omega⟩
    · exact ⟨fun e => by simp at e, by simp; omega⟩
  · by_cases h6 : s.next = 6
    · rw [RS.step_done h6]; exact h
    · rw [RS.stepK h0 h6]; exact h.key hI h0 h6 _

structure WS where
  next : Int
  lo : Int
  hi : Int
  back : Bool
  values : Bool
  most : Int
  n : Int
  route : RS
  peek : Option PS
  levels : List (Int × Int × Int)
  at_ : Int
  key : Int
  pairs : List (Int × Int)
  spots : List (Int × Int)
def WS.start (s : WS) : Int := if s.back = true then s.hi else s.lo
def WS.enter (s : WS) (n : Int) : WS := { s with next := 0, n := n, route := RS.init n s.start }
def WS.init (lo hi : Int) (back : Bool) (most : Int) (values : Bool) : WS := ⟨0, lo, hi, back, values, most, 1, RS.init 1 (if back = true then hi else lo), none, [], 0, 0, [], []⟩
def WS.top (s : WS) : Int × Int × Int := s.levels.headD (0, 0, 0)
def WS.slot (s : WS) : Int := childAtI s.top.1 s.top.2.1 s.top.2.2
def WS.look (s : WS) : WS := { s with next := 1, peek := some (PS.init s.slot) }
/-- Has a level a further child? -/
def more (back : Bool) (l : Int × Int × Int) : Bool := if back = true then decide (0 < l.2.2) else decide (l.2.2 + 1 < l.2.1)
def popTo (back : Bool) : List (Int × Int × Int) → List (Int × Int × Int)
  | [] => []
  | l :: ls => if more back l = true then l :: ls else popTo back ls
def WS.onward (s : WS) : WS := { s with levels := popTo s.back s.levels, next := if popTo s.back s.levels = [] then 6 else 5 }
def WS.ahead (s : WS) : Int := if s.back = true then keyAtI s.top.1 s.top.2.2 else keyAtI s.top.1 (s.top.2.2 + 1)
def WS.bound (s : WS) (q : Int) : WS :=
  if s.back = true then (if s.lo < q then WS.look { s with levels := (s.top.1, s.top.2.1, s.top.2.2 - 1) :: s.levels.tail } else WS.onward { s with levels := s.levels.tail })
  else (if q ≤ s.hi then WS.look { s with levels := (s.top.1, s.top.2.1, s.top.2.2 + 1) :: s.levels.tail } else WS.onward { s with levels := s.levels.tail })
def WS.full (s : WS) : Bool := decide (0 < s.most) && decide (s.most ≤ (s.pairs.length : Int))
def WS.found (s : WS) (v : Int) : WS :=
  if WS.full { s with pairs := s.pairs ++ [(s.key, v)] } = true then { s with pairs := s.pairs ++ [(s.key, v)], next := 6 } else WS.onward { s with pairs := s.pairs ++ [(s.key, v)] }
def WS.meet (s : WS) (w : Int) : WS :=
  if wKind w = 2 then { s with at_ := wAt w, next := 2 }
  else if wKind w = 3 then WS.enter { s with at_ := wAt w } (wAt w)
  else if wKind w = 4 then { s with at_ := wAt w, next := 4 }
  else WS.onward { s with at_ := wAt w }
def WS.step (R : Int → Int) (s : WS) : WS :=
  if s.next = 0 then (if (s.route.step R).next = 6 then WS.look { s with route := s.route.step R, levels := (s.n, (s.route.step R).degree, (s.route.step R).child) :: s.levels } else { s with route := s.route.step R })
  else if s.next = 1 then (match s.peek with
    | some p => if (p.step R).next = 3 then WS.meet { s with peek := some (p.step R), spots := s.spots ++ [(s.slot, (p.step R).word)] } (p.step R).word else { s with peek := some (p.step R) }
    | none => s)
  else if s.next = 2 then (if R s.at_ < s.lo ∨ s.hi < R s.at_ then WS.onward { s with key := R s.at_ } else if s.values = true then { s with key := R s.at_, next := 3 } else WS.found { s with key := R s.at_ } 0)
  else if s.next = 3 then WS.found s (R (s.at_ + 1))
  else if s.next = 4 then WS.enter s (wAt (R s.at_))
  else if s.next = 5 then WS.bound s (R s.ahead)
  else s
def WS.acc (s : WS) : Option Int :=
  if s.next = 0 then s.route.acc
  else if s.next = 1 then (match s.peek with | some p => p.acc | none => none)
  else if s.next = 2 then some s.at_
  else if s.next = 3 then some (s.at_ + 1)
  else if s.next = 4 then some s.at_
  else if s.next = 5 then some s.ahead
  else none
def levelB (l : Int × Int × Int) : Prop := 0 ≤ l.2.2 ∧ (l.2.2 = 0 ∨ l.2.2 < l.2.1) ∧ l.2.1 ≤ 9223372036854775807
structure WS.Inv0 (s : WS) : Prop where
  lo0 : -9223372036854775808 ≤ s.lo
  lo1 : s.lo ≤ 9223372036854775807
  hi0 : -9223372036854775808 ≤ s.hi
  hi1 : s.hi ≤ 9223372036854775807
  most0 : -9223372036854775808 ≤ s.most
  most1 : s.most ≤ 9223372036854775807
  rt : s.route.Inv
  ch : s.route.Ch
  lv : ∀ l ∈ s.levels, levelB l
  a0 : 0 ≤ s.at_
  a1 : s.at_ ≤ 65536
structure WS.Inv (s : WS) : Prop extends s.Inv0 where
  st : (s.next = 0 ∧ s.route.next ≠ 6) ∨ (s.next = 1 ∧ s.levels ≠ [] ∧ ∃ p, s.peek = some p ∧ p.Inv ∧ p.next ≠ 3) ∨ s.next = 2 ∨ s.next = 3 ∨ s.next = 4 ∨ (s.next = 5 ∧ ∃ l ls, s.levels = l :: ls ∧ more s.back l = true) ∨ s.next = 6
theorem popTo_mem {back : Bool} : ∀ {L : List (Int × Int × Int)} {l}, l ∈ popTo back L → l ∈ L
  | [], l, h => h
  | x :: L, l, h => by
    unfold popTo at h
    split at h
    · exact h
    · exact List.mem_cons_of_mem _ (popTo_mem h)
theorem popTo_head {back : Bool} : ∀ {L : List (Int × Int × Int)}, popTo back L ≠ [] → ∃ l ls, popTo back L = l :: ls ∧ more back l = true
  | [], h => absurd rfl h
  | x :: L, h => by
    unfold popTo at h ⊢
    split
    · rename_i hm; exact ⟨x, L, rfl, hm⟩
    · rename_i hm; rw [if_neg hm] at h; exact popTo_head h
theorem popTo_len (back : Bool) : ∀ L : List (Int × Int × Int), (popTo back L).length ≤ L.length
  | [] => Nat.le_refl _
  | x :: L => by
    unfold popTo
    split
    · exact Nat.le_refl _
    · have := popTo_len back L; simp; omega
section
variable {s : WS} {R : Int → Int} {p : PS}
theorem WS.Inv0.start (h : s.Inv0) : -9223372036854775808 ≤ s.start ∧ s.start ≤ 9223372036854775807 := by
  unfold WS.start; split
  · exact ⟨h.hi0, h.hi1⟩
  · exact ⟨h.lo0, h.lo1⟩
theorem WS.Inv.enter (h : s.Inv0) {n : Int} (h0 : 0 ≤ n) (h1 : n ≤ 65536) : (s.enter n).Inv :=
  ⟨⟨h.lo0, h.lo1, h.hi0, h.hi1, h.most0, h.most1, RS.Inv.init (by omega) (by omega) h.start.1 h.start.2, RS.Ch.init _ _, h.lv, h.a0, h.a1⟩, .inl ⟨rfl, by simp [WS.enter, RS.init]⟩⟩
theorem WS.Inv.init {lo hi most : Int} {back values : Bool} (a : -9223372036854775808 ≤ lo) (b : lo ≤ 9223372036854775807) (c : -9223372036854775808 ≤ hi) (d : hi ≤ 9223372036854775807) (e : -9223372036854775808 ≤ most) (f : most ≤ 9223372036854775807) : (WS.init lo hi back most values).Inv :=
  ⟨⟨a, b, c, d, e, f, RS.Inv.init (by omega) (by omega) (by split <;> omega) (by split <;> omega), RS.Ch.init _ _, by simp [WS.init], by simp [WS.init], by simp [WS.init]⟩, .inl ⟨rfl, by simp [WS.init, RS.init]⟩⟩
theorem WS.Inv.look (h : s.Inv0) (hl : s.levels ≠ []) : s.look.Inv := by
  have := childAtI_bd (n := s.top.1) (d := s.top.2.1) (i := s.top.2.2)
  exact ⟨⟨h.lo0, h.lo1, h.hi0, h.hi1, h.most0, h.most1, h.rt, h.ch, h.lv, h.a0, h.a1⟩, .inr (.inl ⟨rfl, hl, _, rfl, PS.Inv.init (by unfold WS.slot; omega) (by unfold WS.slot; omega), by simp [PS.init]⟩)⟩
theorem WS.Inv.onward (h : s.Inv0) : s.onward.Inv := by
  refine ⟨⟨h.lo0, h.lo1, h.hi0, h.hi1, h.most0, h.most1, h.rt, h.ch, fun l hl => h.lv l (popTo_mem hl), h.a0, h.a1⟩, ?_⟩
  by_cases e : popTo s.back s.levels = []
  · exact .inr (.inr (.inr (.inr (.inr (.inr (by unfold WS.onward; exact if_pos e))))))
  · exact .inr (.inr (.inr (.inr (.inr (.inl ⟨by unfold WS.onward; exact if_neg e, popTo_head e⟩)))))
theorem WS.Inv0.pairs (h : s.Inv0) (l : List (Int × Int)) : WS.Inv0 { s with pairs := l } := ⟨h.lo0, h.lo1, h.hi0, h.hi1, h.most0, h.most1, h.rt, h.ch, h.lv, h.a0, h.a1⟩
theorem WS.Inv0.key (h : s.Inv0) (k : Int) : WS.Inv0 { s with key := k } := ⟨h.lo0, h.lo1, h.hi0, h.hi1, h.most0, h.most1, h.rt, h.ch, h.lv, h.a0, h.a1⟩
theorem WS.Inv.found (h : s.Inv0) (v : Int) : (s.found v).Inv := by
  unfold WS.found
  split
  · exact ⟨⟨h.lo0, h.lo1, h.hi0, h.hi1, h.most0, h.most1, h.rt, h.ch, h.lv, h.a0, h.a1⟩, .inr (.inr (.inr (.inr (.inr (.inr rfl)))))⟩
  · exact WS.Inv.onward (h.pairs _)
theorem WS.Inv.meet (h : s.Inv0) (w : Int) : (s.meet w).Inv := by
  have b := wAt_bd w
  have h' : WS.Inv0 { s with at_ := wAt w } := ⟨h.lo0, h.lo1, h.hi0, h.hi1, h.most0, h.most1, h.rt, h.ch, h.lv, b.1, b.2⟩
  unfold WS.meet
  split
  · exact ⟨⟨h.lo0, h.lo1, h.hi0, h.hi1, h.most0, h.most1, h.rt, h.ch, h.lv, b.1, b.2⟩, .inr (.inr (.inl rfl))⟩
  · split
    · exact WS.Inv.enter h' b.1 b.2
    · split
      · exact ⟨⟨h.lo0, h.lo1, h.hi0, h.hi1, h.most0, h.most1, h.rt, h.ch, h.lv, b.1, b.2⟩, .inr (.inr (.inr (.inr (.inl rfl))))⟩
      · exact WS.Inv.onward h'
theorem WS.Inv.bound (h : s.Inv0) (l : Int × Int × Int) (ls : List (Int × Int × Int)) (hl : s.levels = l :: ls) (hm : more s.back l = true) (q : Int) : (s.bound q).Inv := by
  have hb := h.lv l (by rw [hl]; simp)
  have htop : s.top = l := by unfold WS.top; rw [hl]; rfl
  have htl : s.levels.tail = ls := by rw [hl]; rfl
  have hls : ∀ x ∈ ls, levelB x := fun x hx => h.lv x (by rw [hl]; exact List.mem_cons_of_mem _ hx)
  have h' : ∀ L : List (Int × Int × Int), (∀ x ∈ L, levelB x) → WS.Inv0 { s with levels := L } := fun L hL => ⟨h.lo0, h.lo1, h.hi0, h.hi1, h.most0, h.most1, h.rt, h.ch, hL, h.a0, h.a1⟩
  unfold WS.bound
  rw [htop, htl]
  unfold more at hm
  obtain ⟨b1, b2, b3⟩ := hb
  split
  · rename_i hbk
    rw [if_pos hbk] at hm
    have hm2 := of_decide_eq_true hm
    split
    · refine WS.Inv.look (h' _ (fun x hx => ?_)) (by simp)
      rcases List.mem_cons.1 hx with rfl | hx
      · exact ⟨by simp; omega, .inr (by simp; omega), b3⟩
      · exact hls x hx
    · exact WS.Inv.onward (h' _ hls)
  · rename_i hbk
    rw [if_neg hbk] at hm
    have hm2 := of_decide_eq_true hm
    split
    · refine WS.Inv.look (h' _ (fun x hx => ?_)) (by simp)
      rcases List.mem_cons.1 hx with rfl | hx
      · exact ⟨by simp; omega, .inr (by simp; omega), b3⟩
      · exact hls x hx
    · exact WS.Inv.onward (h' _ hls)
theorem WS.step0 (h : s.next = 0) (h6 : (s.route.step R).next ≠ 6) : s.step R = { s with route := s.route.step R } := by
  unfold WS.step; rw [if_pos h, if_neg h6]
theorem WS.step0e (h : s.next = 0) (h6 : (s.route.step R).next = 6) : s.step R = WS.look { s with route := s.route.step R, levels := (s.n, (s.route.step R).degree, (s.route.step R).child) :: s.levels } := by
  unfold WS.step; rw [if_pos h, if_pos h6]
theorem WS.step1 (h : s.next = 1) (hp : s.peek = some p) (h3 : (p.step R).next ≠ 3) : s.step R = { s with peek := some (p.step R) } := by
  unfold WS.step; rw [if_neg (by omega), if_pos h, hp]; exact if_neg h3
theorem WS.step1e (h : s.next = 1) (hp : s.peek = some p) (h3 : (p.step R).next = 3) : s.step R = WS.meet { s with peek := some (p.step R), spots := s.spots ++ [(s.slot, (p.step R).word)] } (p.step R).word := by
  unfold WS.step; rw [if_neg (by omega), if_pos h, hp]; exact if_pos h3
theorem WS.step2 (h : s.next = 2) : s.step R = if R s.at_ < s.lo ∨ s.hi < R s.at_ then WS.onward { s with key := R s.at_ } else if s.values = true then { s with key := R s.at_, next := 3 } else WS.found { s with key := R s.at_ } 0 := by
  unfold WS.step; rw [if_neg (by omega), if_neg (by omega), if_pos h]
theorem WS.step3 (h : s.next = 3) : s.step R = WS.found s (R (s.at_ + 1)) := by
  unfold WS.step; rw [if_neg (by omega), if_neg (by omega), if_neg (by omega), if_pos h]
theorem WS.step4 (h : s.next = 4) : s.step R = WS.enter s (wAt (R s.at_)) := by
  unfold WS.step; rw [if_neg (by omega), if_neg (by omega), if_neg (by omega), if_neg (by omega), if_pos h]
theorem WS.step5 (h : s.next = 5) : s.step R = WS.bound s (R s.ahead) := by
  unfold WS.step; rw [if_neg (by omega), if_neg (by omega), if_neg (by omega), if_neg (by omega), if_neg (by omega), if_pos h]
theorem WS.step6 (h : s.next = 6) : s.step R = s := by
  unfold WS.step; rw [if_neg (by omega), if_neg (by omega), if_neg (by omega), if_neg (by omega), if_neg (by omega), if_neg (by omega)]
theorem WS.acc0 (h : s.next = 0) : s.acc = s.route.acc := by unfold WS.acc; rw [if_pos h]
theorem WS.acc1 (h : s.next = 1) (hp : s.peek = some p) : s.acc = p.acc := by unfold WS.acc; rw [if_neg (by omega), if_pos h, hp]
theorem WS.acc2 (h : s.next = 2) : s.acc = some s.at_ := by unfold WS.acc; rw [if_neg (by omega), if_neg (by omega), if_pos h]
theorem WS.acc3 (h : s.next = 3) : s.acc = some (s.at_ + 1) := by unfold WS.acc; rw [if_neg (by omega), if_neg (by omega), if_neg (by omega), if_pos h]
theorem WS.acc4 (h : s.next = 4) : s.acc = some s.at_ := by unfold WS.acc; rw [if_neg (by omega), if_neg (by omega), if_neg (by omega), if_neg (by omega), if_pos h]
theorem WS.acc5 (h : s.next = 5) : s.acc = some s.ahead := by unfold WS.acc; rw [if_neg (by omega), if_neg (by omega), if_neg (by omega), if_neg (by omega), if_neg (by omega), if_pos h]
theorem WS.acc6 (h : s.next = 6) : s.acc = none := by unfold WS.acc; rw [if_neg (by omega), if_neg (by omega), if_neg (by omega), if_neg (by omega), if_neg (by omega), if_neg (by omega)]
theorem WS.Inv.step (h : s.Inv) (hR : ∀ a, -9223372036854775808 ≤ R a ∧ R a ≤ 9223372036854775807) : (s.step R).Inv := by
  have i0 := h.toInv0
  have rr := h.rt.step hR
  have rc := h.ch.step h.rt hR
  rcases h.st with ⟨h0, h6⟩ | ⟨h1, hlv, p, hp, hI, h3⟩ | h2 | h3 | h4 | ⟨h5, l, ls, hl, hm⟩ | h6
  · by_cases e6 : (s.route.step R).next = 6
    · rw [WS.step0e h0 e6]
      refine WS.Inv.look ⟨h.lo0, h.lo1, h.hi0, h.hi1, h.most0, h.most1, rr, rc, fun l hl => ?_, h.a0, h.a1⟩ (by simp)
      rcases List.mem_cons.1 hl with rfl | hl
      · have := rc.ch e6
        exact ⟨this.1, this.2, rc.d1⟩
      · exact h.lv l hl
    · rw [WS.step0 h0 e6]
      exact ⟨⟨h.lo0, h.lo1, h.hi0, h.hi1, h.most0, h.most1, rr, rc, h.lv, h.a0, h.a1⟩, .inl ⟨h0, e6⟩⟩
  · have hp2 := hI.step hR
    by_cases e3 : (p.step R).next = 3
    · rw [WS.step1e h1 hp e3]
      exact WS.Inv.meet (s := { s with peek := some (p.step R), spots := s.spots ++ [(s.slot, (p.step R).word)] }) ⟨h.lo0, h.lo1, h.hi0, h.hi1, h.most0, h.most1, h.rt, h.ch, h.lv, h.a0, h.a1⟩ _
    · rw [WS.step1 h1 hp e3]
      exact ⟨⟨h.lo0, h.lo1, h.hi0, h.hi1, h.most0, h.most1, h.rt, h.ch, h.lv, h.a0, h.a1⟩, .inr (.inl ⟨h1, hlv, _, rfl, hp2, e3⟩)⟩
  · rw [WS.step2 h2]
    split
    · exact WS.Inv.onward (i0.key _)
    · split
      · exact ⟨⟨h.lo0, h.lo1, h.hi0, h.hi1, h.most0, h.most1, h.rt, h.ch, h.lv, h.a0, h.a1⟩, .inr (.inr (.inr (.inl rfl)))⟩
      · exact WS.Inv.found (i0.key _) 0
  · rw [WS.step3 h3]
    exact WS.Inv.found i0 _
  · rw [WS.step4 h4]
    exact WS.Inv.enter i0 (wAt_bd _).1 (wAt_bd _).2
  · rw [WS.step5 h5]
    exact WS.Inv.bound i0 l ls hl hm _
  · rw [WS.step6 h6]; exact h
end
end Go.Proofs.YtblajeildolloaaGreat
