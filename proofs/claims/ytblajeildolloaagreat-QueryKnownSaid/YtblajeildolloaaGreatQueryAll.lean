import Derived.Test.YtblajeildolloaaGreatWalkM
import Derived.Test.YtblajeildolloaaGreatSeekM
import Derived.Test.YtblajeildolloaaGreatAgain
import Derived.Test.YtblajeildolloaaGreatWalkEnd
import Derived.Deep.RegionHeld3
namespace Go.Proofs.YtblajeildolloaaGreat
set_option linter.unusedVariables false
set_option linter.unusedSimpArgs false
open Go.RowKit
/- query's frame as a machine. No program's text. -/

structure Res where
  why : Int
  found : Bool
  key : Int
  val : Int
  n : Int
  list : List (Int × Int)
def Res.none : Res := ⟨0, false, 0, 0, 0, []⟩
def Res.err (e : Int) : Res := ⟨e, false, 0, 0, 0, []⟩
inductive QP
  | seek (s : SS)
  | walk (left : Int) (s : WS)
  | look (left : Int) (s : WS) (a : AS)
  | done (left : Int) (r : Res)
structure Op where
  kind : Int
  key : Int
  val : Int
def QP.next : QP → Int
  | .seek _ => 0
  | .walk _ _ => 1
  | .look _ _ _ => 2
  | .done _ _ => 3
def leastI : Int := -9223372036854775808
def mostI : Int := 9223372036854775807
/-- The walk of an operation. -/
def Op.way (o : Op) : WS :=
  if o.kind = 5 then WS.init leastI o.key true 1 true
  else if o.kind = 6 then WS.init o.key mostI false 1 true
  else if o.kind = 7 then WS.init leastI mostI false 1 true
  else if o.kind = 8 then WS.init leastI mostI true 1 true
  else if o.kind = 9 then WS.init o.key o.val false 0 true
  else WS.init o.key o.val false 0 false
def Op.answer (o : Op) (l : List (Int × Int)) : Res :=
  if o.kind = 9 then ⟨0, false, 0, 0, 0, l⟩
  else if o.kind = 10 then ⟨0, false, 0, 0, l.length, []⟩
  else match l with
    | [] => Res.none
    | x :: _ => ⟨0, true, x.1, x.2, 0, []⟩
def QP.init (o : Op) (budget : Int) : QP :=
  if o.kind < 4 ∨ 10 < o.kind then .done budget (Res.err 5)
  else if budget < 1 ∨ 64 < budget then .done budget (Res.err 2)
  else if o.kind = 4 then .seek (SS.init o.key)
  else .walk budget o.way
def QP.sought (o : Op) (left : Int) (s : SS) : QP := if s.there = true then .done left ⟨0, true, o.key, s.value, 0, []⟩ else .done left Res.none
def QP.looked (o : Op) (left : Int) (s : WS) (a : AS) : QP :=
  if a.same = true then .done (left - 1) (o.answer s.pairs)
  else if left - 1 = 0 then .done (left - 1) (Res.err 9)
  else .walk (left - 1) o.way
def QP.step (o : Op) (b0 : Int) (R : Int → Int) : QP → QP
  | .seek s => if (s.step R).next = 5 then QP.sought o b0 (s.step R) else .seek (s.step R)
  | .walk left s => if (s.step R).next = 6 then (if (AS.init (s.step R).spots).done = true then QP.looked o left (s.step R) (AS.init (s.step R).spots) else .look left (s.step R) (AS.init (s.step R).spots)) else .walk left (s.step R)
  | .look left s a => if (a.step R).done = true then QP.looked o left s (a.step R) else .look left s (a.step R)
  | .done left r => .done left r
section
variable {o : Op} {b0 left : Int} {R : Int → Int} {r : Res}
theorem QP.step_seek {s : SS} : (QP.seek s).step o b0 R = if (s.step R).next = 5 then QP.sought o b0 (s.step R) else .seek (s.step R) := rfl
theorem QP.step_walk {s : WS} : (QP.walk left s).step o b0 R = if (s.step R).next = 6 then (if (AS.init (s.step R).spots).done = true then QP.looked o left (s.step R) (AS.init (s.step R).spots) else .look left (s.step R) (AS.init (s.step R).spots)) else .walk left (s.step R) := rfl
theorem QP.step_look {s : WS} {a : AS} : (QP.look left s a).step o b0 R = if (a.step R).done = true then QP.looked o left s (a.step R) else .look left s (a.step R) := rfl
end
def QP.acc : QP → Option Int
  | .seek s => s.acc
  | .walk _ s => s.acc
  | .look _ _ a => a.acc
  | .done _ _ => none
def SpB (s : WS) : Prop := ∀ x ∈ s.spots, spotB x
theorem WS.slot_bd (s : WS) : -9223372036854775808 ≤ s.slot ∧ s.slot ≤ 9223372036854775807 := by
  have := childAtI_bd (n := s.top.1) (d := s.top.2.1) (i := s.top.2.2)
  unfold WS.slot; omega
theorem WS.spots_onward (s : WS) : s.onward.spots = s.spots := rfl
theorem WS.spots_meet (s : WS) (w : Int) : (s.meet w).spots = s.spots := by
  unfold WS.meet
  repeat' split
  all_goals rfl
theorem WS.spots_found (s : WS) (v : Int) : (s.found v).spots = s.spots := by
  unfold WS.found; split <;> rfl
theorem WS.spots_bound (s : WS) (q : Int) : (s.bound q).spots = s.spots := by
  unfold WS.bound
  repeat' split
  all_goals rfl
theorem SpB.step {s : WS} (h : SpB s) (hI : s.Inv) {R : Int → Int} (hR : ∀ a, -9223372036854775808 ≤ R a ∧ R a ≤ 9223372036854775807) : SpB (s.step R) := by
  unfold SpB
  rcases hI.st with ⟨h0, h6⟩ | ⟨h1, hlv, p, hp, hpI, h3⟩ | h2 | h3 | h4 | ⟨h5, l, ls, hl, hm⟩ | h6
  · by_cases e6 : (s.route.step R).next = 6
    · rw [WS.step0e h0 e6]; exact h
    · rw [WS.step0 h0 e6]; exact h
  · by_cases e3 : (p.step R).next = 3
    · rw [WS.step1e h1 hp e3, WS.spots_meet]
      intro x hx
      rcases List.mem_append.1 hx with hx | hx
      · exact h x hx
      · have hx : x = (s.slot, (p.step R).word) := by simpa using hx
        subst hx
        have b := s.slot_bd
        have c := hpI.step hR
        exact ⟨b.1, b.2, c.x0, c.x1⟩
    · rw [WS.step1 h1 hp e3]; exact h
  · rw [WS.step2 h2]
    split
    · exact h
    · split
      · exact h
      · rw [WS.spots_found]; exact h
  · rw [WS.step3 h3, WS.spots_found]; exact h
  · rw [WS.step4 h4]; exact h
  · rw [WS.step5 h5, WS.spots_bound]; exact h
  · rw [WS.step6 h6]; exact h
def Op.Bd (o : Op) : Prop := leastI ≤ o.key ∧ o.key ≤ mostI ∧ leastI ≤ o.val ∧ o.val ≤ mostI
def QP.Inv : QP → Prop
  | .seek s => s.Inv
  | .walk left s => s.Inv ∧ SpB s ∧ 1 ≤ left ∧ left ≤ 64
  | .look left s a => s.next = 6 ∧ a.Inv ∧ a.done = false ∧ 1 ≤ left ∧ left ≤ 64
  | .done _ _ => True
theorem Op.way_inv {o : Op} (h : o.Bd) : o.way.Inv ∧ SpB o.way := by
  obtain ⟨h1, h2, h3, h4⟩ := h
  unfold leastI at h1 h3
  unfold mostI at h2 h4
  unfold Op.way leastI mostI
  repeat' split
  all_goals exact ⟨WS.Inv.init (by omega) (by omega) (by omega) (by omega) (by omega) (by omega), fun x hx => by cases hx⟩
theorem QP.Inv.init {o : Op} (h : o.Bd) (b : Int) : (QP.init o b).Inv := by
  unfold QP.init
  split
  · exact trivial
  · split
    · exact trivial
    · split
      · exact SS.Inv.init h.1 h.2.1
      · have := Op.way_inv h
        exact ⟨this.1, this.2, by omega, by omega⟩
theorem QP.Inv.looked {o : Op} (h : o.Bd) {left : Int} (h1 : 1 ≤ left) (h2 : left ≤ 64) (s : WS) (a : AS) : (QP.looked o left s a).Inv := by
  unfold QP.looked
  split
  · exact trivial
  · split
    · exact trivial
    · have := Op.way_inv h
      exact ⟨this.1, this.2, by omega, by omega⟩
theorem QP.Inv.step {o : Op} (h : o.Bd) {b0 : Int} {R : Int → Int} (hR : ∀ a, -9223372036854775808 ≤ R a ∧ R a ≤ 9223372036854775807) : ∀ {q : QP}, q.Inv → (q.step o b0 R).Inv
  | .seek s, hq => by
    rw [QP.step_seek]
    split
    · unfold QP.sought; split <;> exact trivial
    · exact SS.Inv.step hq hR
  | .walk left s, ⟨hI, hS, h1, h2⟩ => by
    have hI2 := hI.step hR
    have hS2 := hS.step hI hR
    rw [QP.step_walk]
    split
    · rename_i e6
      split
      · exact QP.Inv.looked h h1 h2 _ _
      · rename_i hd
        exact ⟨e6, AS.Inv.init hS2, by simpa using hd, h1, h2⟩
    · exact ⟨hI2, hS2, h1, h2⟩
  | .look left s a, ⟨h6, hA, hd, h1, h2⟩ => by
    rw [QP.step_look]
    split
    · exact QP.Inv.looked h h1 h2 _ _
    · rename_i hd2
      exact ⟨h6, hA.step hR, by simpa using hd2, h1, h2⟩
  | .done _ _, _ => trivial
/- query's frame in memory; its small methods. -/

def queryC (o : Op) (next left : Int) (sv wv av : Value) (r : Res) (lv : Value) : Array Value := #[.int .i64 next, .int .i64 o.kind, .int .i64 o.key, .int .i64 o.val, .int .i64 left, sv, wv, av, .int .i64 r.why, .bool r.found, .int .i64 r.key, .int .i64 r.val, .int .i64 r.n, lv]
def IsPtr (v : Value) : Prop := ∃ a, v = .pointer a
def IsSl (v : Value) : Prop := ∃ A n c, v = .slice A n c
def PartQ (F : Nat → Prop) (b : Nat) (o : Op) (b0 : Int) (sv wv av : Value) (r : Res) (lv : Value) (w : World) : QP → Prop
  | .seek s => Blk w b 155 (queryC o 0 b0 sv wv av r lv) ∧ ∃ sb Fs, sv = .pointer (some ⟨sb, 0, none⟩) ∧ SeekP Fs sb s w ∧ ∀ x, Fs x → F x ∧ x ≠ b
  | .walk left s => Blk w b 155 (queryC o 1 left sv wv av r lv) ∧ ∃ wb Fw, wv = .pointer (some ⟨wb, 0, none⟩) ∧ WalkP Fw wb s w ∧ ∀ x, Fw x → F x ∧ x ≠ b
  | .look left s a => Blk w b 155 (queryC o 2 left sv wv av r lv) ∧ ∃ wb Fw ab Fa, wv = .pointer (some ⟨wb, 0, none⟩) ∧ WalkP Fw wb s w ∧ (∀ x, Fw x → F x ∧ x ≠ b ∧ ¬ Fa x) ∧ av = .pointer (some ⟨ab, 0, none⟩) ∧ AgainP Fa ab a w ∧ ∀ x, Fa x → F x ∧ x ≠ b
  | .done left r' => Blk w b 155 (queryC o 3 left sv wv av r' lv) ∧ PrP F 52 lv r'.list w
structure QueryQ (F : Nat → Prop) (b : Nat) (o : Op) (b0 : Int) (q : QP) (sv wv av : Value) (r : Res) (lv : Value) (w : World) : Prop where
  fb : F b
  ps : IsPtr sv
  pw : IsPtr wv
  pa : IsPtr av
  pl : IsSl lv
  part : PartQ F b o b0 sv wv av r lv w q
def QueryP (F : Nat → Prop) (b : Nat) (o : Op) (b0 : Int) (q : QP) (w : World) : Prop := ∃ sv wv av r lv, QueryQ F b o b0 q sv wv av r lv w
def QP.left (b0 : Int) : QP → Int
  | .seek _ => b0
  | .walk l _ => l
  | .look l _ _ => l
  | .done l _ => l
def QP.res (r : Res) : QP → Res
  | .done _ r' => r'
  | _ => r
section
variable {F G : Nat → Prop} {b : Nat} {o : Op} {b0 : Int} {q : QP} {sv wv av lv : Value} {r : Res} {w w' : World}
theorem QueryQ.blk (h : QueryQ F b o b0 q sv wv av r lv w) : Blk w b 155 (queryC o q.next (q.left b0) sv wv av (q.res r) lv) := by
  have := h.part
  cases q with
  | seek s => exact this.1
  | walk l s => exact this.1
  | look l s a => exact this.1
  | done l r' => exact this.1
theorem PartQ.mono (h : PartQ F b o b0 sv wv av r lv w q) (hs : ∀ x, F x → G x) : PartQ G b o b0 sv wv av r lv w q := by
  cases q with
  | seek s => obtain ⟨h1, sb, Fs, h2, h3, h4⟩ := h; exact ⟨h1, sb, Fs, h2, h3, fun x hx => ⟨hs x (h4 x hx).1, (h4 x hx).2⟩⟩
  | walk l s => obtain ⟨h1, sb, Fs, h2, h3, h4⟩ := h; exact ⟨h1, sb, Fs, h2, h3, fun x hx => ⟨hs x (h4 x hx).1, (h4 x hx).2⟩⟩
  | look l s a => obtain ⟨h1, wb, Fw, ab, Fa, h2, h3, h4, h5, h6, h7⟩ := h; exact ⟨h1, wb, Fw, ab, Fa, h2, h3, fun x hx => ⟨hs x (h4 x hx).1, (h4 x hx).2⟩, h5, h6, fun x hx => ⟨hs x (h7 x hx).1, (h7 x hx).2⟩⟩
  | done l r' => exact ⟨h.1, h.2.mono hs⟩
theorem QueryQ.mono (h : QueryQ F b o b0 q sv wv av r lv w) (hs : ∀ x, F x → G x) : QueryQ G b o b0 q sv wv av r lv w := ⟨hs _ h.fb, h.ps, h.pw, h.pa, h.pl, h.part.mono hs⟩
theorem QueryP.mono (h : QueryP F b o b0 q w) (hs : ∀ x, F x → G x) : QueryP G b o b0 q w := by
  obtain ⟨sv, wv, av, r, lv, h⟩ := h; exact ⟨sv, wv, av, r, lv, h.mono hs⟩
theorem QueryP.chg (h : QueryP F b o b0 q w) (m : Chg G w w') (hd : ∀ x, F x → G x → False) : QueryP F b o b0 q w' := by
  obtain ⟨sv, wv, av, r, lv, fb, p1, p2, p3, p4, h⟩ := h
  refine ⟨sv, wv, av, r, lv, fb, p1, p2, p3, p4, ?_⟩
  cases q with
  | seek s => obtain ⟨h1, sb, Fs, h2, h3, h4⟩ := h; exact ⟨m.blk h1 (hd _ fb), sb, Fs, h2, h3.chg m (fun x hx => hd x (h4 x hx).1), h4⟩
  | walk l s => obtain ⟨h1, sb, Fs, h2, h3, h4⟩ := h; exact ⟨m.blk h1 (hd _ fb), sb, Fs, h2, h3.chg m (fun x hx => hd x (h4 x hx).1), h4⟩
  | look l s a => obtain ⟨h1, wb, Fw, ab, Fa, h2, h3, h4, h5, h6, h7⟩ := h; exact ⟨m.blk h1 (hd _ fb), wb, Fw, ab, Fa, h2, h3.chg m (fun x hx => hd x (h4 x hx).1), h4, h5, h6.chg m (fun x hx => hd x (h7 x hx).1), h7⟩
  | done l r' => exact ⟨m.blk h.1 (hd _ fb), h.2.chg m hd⟩
theorem QueryP.below (h : QueryP F b o b0 q w) (hb : Below w.heap.size w w') : QueryP F b o b0 q w' := h.chg (G := fun _ => False) (Chg.of_below hb) (fun _ _ hg => hg)
theorem QP.next3 : (q.next == 3) = match q with | .done _ _ => true | _ => false := by cases q <;> rfl
end
section
variable (F : Nat → Prop) (b : Nat) (o : Op) (b0 : Int) (q : QP) (w : World)
set_option maxHeartbeats 400000 in
theorem doneQ_any (h : QueryP F b o b0 q w) : Calls Tryz.prog 45 #[.pointer (some ⟨b, 0, none⟩)] w fun e w' => e = .returned (.bool (q.next == 3)) ∧ w = w' := by
  obtain ⟨sv, wv, av, r, lv, h⟩ := h
  have c0 : w.cell? ⟨b, 0, none⟩ = some (.int .i64 q.next) := h.blk.cell 0
  clear h
  go_enter Tryz.func45, Tryz.ntmps45
  go_wp2_with (fail)
  go_ret
  exact ⟨rfl, rfl⟩
end
def resV (r : Res) (lv : Value) : Value := .agg #[.int .i64 r.why, .bool r.found, .int .i64 r.key, .int .i64 r.val, .int .i64 r.n, lv]
set_option maxHeartbeats 1000000 in
theorem endQ_any (b : Nat) (o : Op) (next left : Int) (sv wv av : Value) (r r' : Res) (lv lv' : Value) (w : World) (h : Blk w b 155 (queryC o next left sv wv av r lv)) (hl : IsSl lv) (hl' : IsSl lv') :
    Calls Tryz.prog 106 #[.pointer (some ⟨b, 0, none⟩), resV r' lv'] w fun e w' => e = .returned (.tuple #[]) ∧ Blk w' b 155 (queryC o 3 left sv wv av r' lv') ∧ Chg (fun x => x = b) w w' := by
  obtain ⟨A, n, c, rfl⟩ := hl
  obtain ⟨A', n', c', rfl⟩ := hl'
  have c0 : w.cell? ⟨b, 0, none⟩ = some (.int .i64 next) := h.cell 0
  have c8 : w.cell? ⟨b, 8, none⟩ = some (.int .i64 r.why) := h.cell 8
  have c9 : w.cell? ⟨b, 9, none⟩ = some (.bool r.found) := h.cell 9
  have c10 : w.cell? ⟨b, 10, none⟩ = some (.int .i64 r.key) := h.cell 10
  have c11 : w.cell? ⟨b, 11, none⟩ = some (.int .i64 r.val) := h.cell 11
  have c12 : w.cell? ⟨b, 12, none⟩ = some (.int .i64 r.n) := h.cell 12
  have c13 : w.cell? ⟨b, 13, none⟩ = some (.slice A n c) := h.cell 13
  have f0 := h.frozen 0
  have f8 := h.frozen 8
  have f9 := h.frozen 9
  have f10 := h.frozen 10
  have f11 := h.frozen 11
  have f12 := h.frozen 12
  have f13 := h.frozen 13
  have n1 := World.new_ne w ⟨b, 0, none⟩ c0
  have hbl := h.lt
  have H := Lib.hid h
  clear h
  unfold resV
  go_enter Tryz.func106, Tryz.ntmps106
  go_wp2_with (fail)
  go_end0
  refine ⟨rfl, (((((((H.out.set_ 8 _).set_ 9 _).set_ 10 _).set_ 11 _).set_ 12 _).set_ 13 _).set_ 0 _).alloc _, ?_⟩
  exact (Chg.of_mv (F := fun x => x = b) (((((((Mv.set1 w b 8 _).trans_ (Mv.set1 _ b 9 _)).trans_ (Mv.set1 _ b 10 _)).trans_ (Mv.set1 _ b 11 _)).trans_ (Mv.set1 _ b 12 _)).trans_ (Mv.set1 _ b 13 _)).trans_ (Mv.set1 _ b 0 _)) rfl).trans (Chg.of_below ((Below.refl _ _).alloc (Nat.le_refl _) _))
def WayPost (o : Op) (w : World) (e : Ending) (w' : World) : Prop := ∃ wb, e = .returned (.pointer (some ⟨wb, 0, none⟩)) ∧ WalkP (fun x => w.heap.size ≤ x) wb o.way w' ∧ Below w.heap.size w w'
set_option maxHeartbeats 2000000 in
theorem wayQ_any (b : Nat) (o : Op) (next left : Int) (sv wv av : Value) (r : Res) (lv : Value) (w : World) (h : Blk w b 155 (queryC o next left sv wv av r lv)) :
    Calls Tryz.prog 167 #[.pointer (some ⟨b, 0, none⟩)] w (WayPost o w) := by
  have c1 : w.cell? ⟨b, 1, none⟩ = some (.int .i64 o.kind) := h.cell 1
  have c2 : w.cell? ⟨b, 2, none⟩ = some (.int .i64 o.key) := h.cell 2
  have c3 : w.cell? ⟨b, 3, none⟩ = some (.int .i64 o.val) := h.cell 3
  have HH := Lib.hid h
  clear h
  by_cases k5 : o.kind = 5
  · have HW := Lib.hid (show WS.init leastI o.key true 1 true = o.way by unfold Op.way; rw [if_pos k5])
    rw [k5] at c1
    clear k5
    go_enter Tryz.func167, Tryz.ntmps167
    go_wp2_with (fail)
    with_reducible refine (newW_any (-9223372036854775808) o.key true 1 true _).mono ?_
    rintro e w1 ⟨rfl, hs, hb⟩
    have HS : Hid (WalkP (fun x => w.heap.size ≤ x) w.heap.size o.way w1) := Lib.hid (HW.out ▸ hs)
    have HB := Lib.hid hb
    clear hs hb
    go_wp2_with (fail)
    go_ret
    exact ⟨_, rfl, HS.out, HB.out⟩
  · have e5 : (o.kind == 5) = false := by simpa using k5
    by_cases k6 : o.kind = 6
    · have HW := Lib.hid (show WS.init o.key mostI false 1 true = o.way by unfold Op.way; rw [if_neg k5]; rw [if_pos k6])
      rw [k6] at c1
      clear k6 k5
      go_enter Tryz.func167, Tryz.ntmps167
      go_wp2_with (fail)
      with_reducible refine (newW_any o.key 9223372036854775807 false 1 true _).mono ?_
      rintro e w1 ⟨rfl, hs, hb⟩
      have HS : Hid (WalkP (fun x => w.heap.size ≤ x) w.heap.size o.way w1) := Lib.hid (HW.out ▸ hs)
      have HB := Lib.hid hb
      clear hs hb
      go_wp2_with (fail)
      go_ret
      exact ⟨_, rfl, HS.out, HB.out⟩
    · have e6 : (o.kind == 6) = false := by simpa using k6
      by_cases k7 : o.kind = 7
      · have HW := Lib.hid (show WS.init leastI mostI false 1 true = o.way by unfold Op.way; rw [if_neg k5]; rw [if_neg k6]; rw [if_pos k7])
        rw [k7] at c1
        clear k7 k5 k6
        go_enter Tryz.func167, Tryz.ntmps167
        go_wp2_with (fail)
        with_reducible refine (newW_any (-9223372036854775808) 9223372036854775807 false 1 true _).mono ?_
        rintro e w1 ⟨rfl, hs, hb⟩
        have HS : Hid (WalkP (fun x => w.heap.size ≤ x) w.heap.size o.way w1) := Lib.hid (HW.out ▸ hs)
        have HB := Lib.hid hb
        clear hs hb
        go_wp2_with (fail)
        go_ret
        exact ⟨_, rfl, HS.out, HB.out⟩
      · have e7 : (o.kind == 7) = false := by simpa using k7
        by_cases k8 : o.kind = 8
        · have HW := Lib.hid (show WS.init leastI mostI true 1 true = o.way by unfold Op.way; rw [if_neg k5]; rw [if_neg k6]; rw [if_neg k7]; rw [if_pos k8])
          rw [k8] at c1
          clear k8 k5 k6 k7
          go_enter Tryz.func167, Tryz.ntmps167
          go_wp2_with (fail)
          with_reducible refine (newW_any (-9223372036854775808) 9223372036854775807 true 1 true _).mono ?_
          rintro e w1 ⟨rfl, hs, hb⟩
          have HS : Hid (WalkP (fun x => w.heap.size ≤ x) w.heap.size o.way w1) := Lib.hid (HW.out ▸ hs)
          have HB := Lib.hid hb
          clear hs hb
          go_wp2_with (fail)
          go_ret
          exact ⟨_, rfl, HS.out, HB.out⟩
        · have e8 : (o.kind == 8) = false := by simpa using k8
          by_cases k9 : o.kind = 9
          · have HW := Lib.hid (show WS.init o.key o.val false 0 true = o.way by unfold Op.way; rw [if_neg k5]; rw [if_neg k6]; rw [if_neg k7]; rw [if_neg k8]; rw [if_pos k9])
            rw [k9] at c1
            clear k9 k5 k6 k7 k8
            go_enter Tryz.func167, Tryz.ntmps167
            go_wp2_with (fail)
            with_reducible refine (newW_any o.key o.val false 0 true _).mono ?_
            rintro e w1 ⟨rfl, hs, hb⟩
            have HS : Hid (WalkP (fun x => w.heap.size ≤ x) w.heap.size o.way w1) := Lib.hid (HW.out ▸ hs)
            have HB := Lib.hid hb
            clear hs hb
            go_wp2_with (fail)
            go_ret
            exact ⟨_, rfl, HS.out, HB.out⟩
          · have e9 : (o.kind == 9) = false := by simpa using k9
            have HW := Lib.hid (show WS.init o.key o.val false 0 false = o.way by unfold Op.way; rw [if_neg k5]; rw [if_neg k6]; rw [if_neg k7]; rw [if_neg k8]; rw [if_neg k9])
            clear k5 k6 k7 k8 k9
            go_enter Tryz.func167, Tryz.ntmps167
            go_wp2_with (fail)
            have hHd : Blk w.drew b 155 (queryC o next left sv wv av r lv) := HH.out.below (drawn_bl (Drawn.of w 1) _) HH.out.lt
            have HHd := Lib.hid hHd
            clear hHd
            go_region_held3 (fun w' => w'.cell? ⟨b, 2, none⟩ = some (.int .i64 o.key) ∧ w'.cell? ⟨b, 3, none⟩ = some (.int .i64 o.val)) (first | go_keep | exact ⟨HB1.out.cell 2, HB1.out.cell 3⟩) (first | (go_at_call 59; (with_reducible refine (newW_any o.key o.val false 0 false _).mono ?_); rintro e w1 ⟨rfl, hs, hb⟩; have HB1 := Lib.hid (HHd.out.below hb HHd.out.lt); have HSd := Lib.hid hs; have HBd := Lib.hid hb; clear hs hb))
            have HS : Hid (WalkP (fun x => w.heap.size ≤ x) w.heap.size o.way w1) := Lib.hid (HW.out ▸ HSd.out)
            have HB : Hid (Below w.heap.size w w1) := Lib.hid ((drawn_bl (Drawn.of w 1) _).trans HBd.out)
            go_wp2_with (fail)
            go_ret
            exact ⟨_, rfl, HS.out, HB.out⟩
def RoundPost (b : Nat) (o : Op) (left : Int) (sv av : Value) (r : Res) (lv : Value) (w : World) (e : Ending) (w' : World) : Prop := e = .returned (.tuple #[]) ∧ ∃ wb, Blk w' b 155 (queryC o 1 left sv (.pointer (some ⟨wb, 0, none⟩)) av r lv) ∧ WalkP (fun x => w.heap.size ≤ x) wb o.way w' ∧ Chg (fun x => x = b) w w'
set_option maxHeartbeats 1000000 in
theorem roundQ_any (b : Nat) (o : Op) (next left : Int) (sv wv av : Value) (r : Res) (lv : Value) (w : World) (h : Blk w b 155 (queryC o next left sv wv av r lv)) (hp : IsPtr wv) :
    Calls Tryz.prog 107 #[.pointer (some ⟨b, 0, none⟩)] w (RoundPost b o left sv av r lv w) := by
  obtain ⟨wa, rfl⟩ := hp
  have H := Lib.hid h
  clear h
  go_enter Tryz.func107, Tryz.ntmps107
  go_wp2_with (fail)
  with_reducible refine (wayQ_any b o next left sv (.pointer wa) av r lv _ H.out).mono ?_
  rintro e w1 ⟨wb, rfl, hs, hb⟩
  have h1 := H.out.below hb H.out.lt
  have c0 : w1.cell? ⟨b, 0, none⟩ = some (.int .i64 next) := h1.cell 0
  have c6 : w1.cell? ⟨b, 6, none⟩ = some (.pointer wa) := h1.cell 6
  have f0 := h1.frozen 0
  have f6 := h1.frozen 6
  have o3 : Chg (fun x => x = b) w1 ((w1.setCell ⟨b, 0, none⟩ (.int .i64 1)).setCell ⟨b, 6, none⟩ (.pointer (some ⟨wb, 0, none⟩))) := Chg.of_mv (F := fun x => x = b) ((Mv.set1 w1 b 0 _).trans_ (Mv.set1 _ b 6 _)) rfl
  have hlt := H.out.lt
  have HX : Hid (RoundPost b o left sv av r lv w (.returned (.tuple #[])) ((w1.setCell ⟨b, 0, none⟩ (.int .i64 1)).setCell ⟨b, 6, none⟩ (.pointer (some ⟨wb, 0, none⟩)))) := Lib.hid ⟨rfl, wb, (h1.set_ 0 _).set_ 6 _, hs.chg o3 (fun x hx e => by omega), (Chg.of_below hb).trans o3⟩
  clear hs hb h1 o3 hlt
  go_wp2_with (fail)
  go_end0
  exact HX.out
def AnsPost (o : Op) (L : List (Int × Int)) (lo : Nat) (w : World) (e : Ending) (w' : World) : Prop := ∃ lv, e = .returned (resV (o.answer L) lv) ∧ w'.ownsRow lo 52 2 lv (o.answer L).list.length (cellsP (o.answer L).list) ∧ Below w.heap.size w w'
set_option maxHeartbeats 2000000 in
theorem answerQ_any (b : Nat) (o : Op) (next left : Int) (sv wv av : Value) (r : Res) (lv : Value) (L : List (Int × Int)) (v : Value) (lo : Nat) (w : World) (h : Blk w b 155 (queryC o next left sv wv av r lv)) (hO : w.ownsRow lo 52 2 v L.length (cellsP L)) (hl : L.length ≤ 1000000) :
    Calls Tryz.prog 189 #[.pointer (some ⟨b, 0, none⟩), v] w (AnsPost o L lo w) := by
  obtain ⟨A, c, rfl⟩ := own_shape hO
  have c1 : w.cell? ⟨b, 1, none⟩ = some (.int .i64 o.kind) := h.cell 1
  have HO := Lib.hid hO
  have n1 := World.new_ne w ⟨b, 1, none⟩ c1
  have hbl := h.lt
  clear h
  by_cases k9 : o.kind = 9
  · have HA := Lib.hid (show o.answer L = ⟨0, false, 0, 0, 0, L⟩ from if_pos k9)
    rw [k9] at c1
    clear k9 hO
    go_enter Tryz.func189, Tryz.ntmps189
    go_wp2_with (fail)
    refine bodyPost_ret (v := resV ⟨0, false, 0, 0, 0, L⟩ (.slice A L.length c)) (by simp [results, Tryz.results189, go_sem, resV]) rfl ?_
    unfold AnsPost
    rw [HA.out]
    exact ⟨_, rfl, own_below HO.out ((Below.refl _ _).alloc (Nat.le_refl _) _), (Below.refl _ _).alloc (Nat.le_refl _) _⟩
  · have e9 : (o.kind == 9) = false := by simpa using k9
    by_cases k10 : o.kind = 10
    · have HA := Lib.hid (show o.answer L = ⟨0, false, 0, 0, L.length, []⟩ by unfold Op.answer; rw [if_neg k9, if_pos k10])
      rw [k10] at c1
      clear k9 k10 e9 hO
      go_enter Tryz.func189, Tryz.ntmps189
      go_wp2_with (fail)
      refine bodyPost_ret (v := resV ⟨0, false, 0, 0, L.length, []⟩ (.slice none 0 0)) (by simp [results, Tryz.results189, go_sem, resV]) rfl ?_
      unfold AnsPost
      rw [HA.out]
      exact ⟨_, rfl, World.ownsRow_nil _ _ _ _, (Below.refl _ _).alloc (Nat.le_refl _) _⟩
    · have e10 : (o.kind == 10) = false := by simpa using k10
      cases L with
      | nil =>
        have HA := Lib.hid (show o.answer [] = Res.none by unfold Op.answer; rw [if_neg k9, if_neg k10])
        clear k9 k10 hO
        go_enter Tryz.func189, Tryz.ntmps189
        go_wp2_with (fail)
        refine bodyPost_ret (v := resV Res.none (.slice none 0 0)) (by simp [results, Tryz.results189, go_sem, resV, Res.none]) rfl ?_
        unfold AnsPost
        rw [HA.out]
        exact ⟨_, rfl, World.ownsRow_nil _ _ _ _, (Below.refl _ _).alloc (Nat.le_refl _) _⟩
      | cons x L =>
        have HA := Lib.hid (show o.answer (x :: L) = ⟨0, true, x.1, x.2, 0, []⟩ by unfold Op.answer; rw [if_neg k9, if_neg k10])
        obtain ⟨g, c', he, _, hlt⟩ := hO.form (by simp)
        injection he with h1 h2 h3
        subst h1
        subst h3
        have d0 : w.cell? ⟨g, 0, none⟩ = some (.int .i64 x.1) := hO.cellAt 0 (by simp)
        have d1 : w.cell? ⟨g, 1, none⟩ = some (.int .i64 x.2) := hO.cellAt 1 (by simp; omega)
        have n2 := World.new_ne w _ d0
        have e0 : ((L.length : Int) + 1 == 0) = false := by rw [beq_eq_false_iff_ne]; omega
        have e3 : (0 : Int) < (L.length : Int) + 1 := by omega
        have hl2 : L.length ≤ 1000000 := by simp at hl; omega
        clear k9 k10 hO h2 hl
        go_enter Tryz.func189, Tryz.ntmps189
        go_wp2_with (fail)
        refine bodyPost_ret (v := resV ⟨0, true, x.1, x.2, 0, []⟩ (.slice none 0 0)) (by simp [results, Tryz.results189, go_sem, resV]) rfl ?_
        unfold AnsPost
        rw [HA.out]
        exact ⟨_, rfl, World.ownsRow_nil _ _ _ _, (Below.refl _ _).alloc (Nat.le_refl _) _⟩
/- query's frame: sought, looked, New. -/

theorem own_low {w : World} {base : Nat} {e : TypeId} {size : Nat} {v : Value} {n : Nat} {xs : List Value} (h : w.ownsRow base e size v n xs) : w.ownsRow 0 e size v n xs :=
  ⟨h.1, h.2.imp id (fun ⟨g, cap, cur, a, b, c⟩ => ⟨g, cap, cur, a, Nat.zero_le _, c⟩)⟩
theorem IsPtr.mk (a : Option Addr) : IsPtr (.pointer a) := ⟨_, rfl⟩
theorem IsSl.nil : IsSl (.slice none 0 0) := ⟨_, _, _, rfl⟩
theorem PrP.nil' {F : Nat → Prop} {T : TypeId} {w : World} : PrP F T (.slice none 0 0) [] w := ⟨World.ownsRow_nil _ _ _ _, fun g hg => by simp [Value.ownBlock] at hg⟩
def QPost (F : Nat → Prop) (b : Nat) (o : Op) (b0 : Int) (q : QP) (w : World) (e : Ending) (w' : World) : Prop := e = .returned (.tuple #[]) ∧ QueryP (fun x => F x ∨ w.heap.size ≤ x) b o b0 q w' ∧ Chg (fun x => x = b) w w'
/-- The end with an answer that holds no list. -/
theorem done_nil {F : Nat → Prop} {b : Nat} {o : Op} {b0 left : Int} {sv wv av : Value} {r : Res} {w : World} (fb : F b) (p1 : IsPtr sv) (p2 : IsPtr wv) (p3 : IsPtr av) (hr : r.list = []) (h : Blk w b 155 (queryC o 3 left sv wv av r (.slice none 0 0))) : QueryP F b o b0 (.done left r) w :=
  ⟨sv, wv, av, r, _, fb, p1, p2, p3, IsSl.nil, h, hr ▸ PrP.nil'⟩
theorem endE_any (b : Nat) (o : Op) (next left : Int) (sv wv av : Value) (r : Res) (lv : Value) (why key val n : Int) (found : Bool) (list : List (Int × Int)) (lv' : Value) (w : World) (h : Blk w b 155 (queryC o next left sv wv av r lv)) (hl : IsSl lv) (hl' : IsSl lv') :
    Calls Tryz.prog 106 #[.pointer (some ⟨b, 0, none⟩), .agg #[.int .i64 why, .bool found, .int .i64 key, .int .i64 val, .int .i64 n, lv']] w fun e w' => e = .returned (.tuple #[]) ∧ Blk w' b 155 (queryC o 3 left sv wv av ⟨why, found, key, val, n, list⟩ lv') ∧ Chg (fun x => x = b) w w' :=
  endQ_any b o next left sv wv av r ⟨why, found, key, val, n, list⟩ lv lv' w h hl hl'
section
variable (F : Nat → Prop) (b : Nat) (o : Op) (b0 left : Int)
set_option maxHeartbeats 1000000 in
theorem soughtQ_any (sb : Nat) (Fs : Nat → Prop) (s : SS) (wv av : Value) (r : Res) (lv : Value) (w : World) (fb : F b) (p2 : IsPtr wv) (p3 : IsPtr av) (p4 : IsSl lv) (h : Blk w b 155 (queryC o 0 left (.pointer (some ⟨sb, 0, none⟩)) wv av r lv)) (hs : SeekP Fs sb s w) :
    Calls Tryz.prog 145 #[.pointer (some ⟨b, 0, none⟩)] w (QPost F b o b0 (QP.sought o left s) w) := by
  have c5 : w.cell? ⟨b, 5, none⟩ = some (.pointer (some ⟨sb, 0, none⟩)) := h.cell 5
  have H := Lib.hid h
  have HS := Lib.hid hs
  have P2 := Lib.hid p2
  have P3 := Lib.hid p3
  have P4 := Lib.hid p4
  have FB := Lib.hid fb
  clear h hs p2 p3 p4 fb
  cases ht : s.there with
  | true =>
    have HR := Lib.hid (show QP.sought o left s = .done left ⟨0, true, o.key, s.value, 0, []⟩ from if_pos ht)
    go_enter Tryz.func145, Tryz.ntmps145
    go_wp2_with (fail)
    with_reducible refine (valueS_any _ _ _ _ HS.out).mono ?_
    rintro e w1 ⟨rfl, hd⟩
    have hB1 := H.out.below (drawn_bl hd _) H.out.lt
    have HD := Lib.hid hd
    have c2 : w1.cell? ⟨b, 2, none⟩ = some (.int .i64 o.key) := hB1.cell 2
    have HB1 := Lib.hid hB1
    clear hB1
    rw [ht]
    clear hd c5 ht
    go_wp2_with (fail)
    with_reducible refine (endE_any b o 0 left (.pointer (some ⟨sb, 0, none⟩)) wv av r lv 0 o.key s.value 0 true [] _ _ HB1.out P4.out IsSl.nil).mono ?_
    rintro e w2 ⟨rfl, hb, hc⟩
    have HX : Hid (QPost F b o b0 (QP.sought o left s) w (.returned (.tuple #[])) w2) := Lib.hid (by
      rw [HR.out]
      exact ⟨rfl, (done_nil FB.out ⟨_, rfl⟩ P2.out P3.out rfl hb).mono (fun _ => .inl), (Chg.of_below (drawn_bl HD.out _)).trans hc⟩)
    clear hb hc
    go_wp2_with (fail)
    go_end0
    exact HX.out
  | false =>
    have HR := Lib.hid (show QP.sought o left s = .done left Res.none from if_neg (by rw [ht]; exact Bool.false_ne_true))
    go_enter Tryz.func145, Tryz.ntmps145
    go_wp2_with (fail)
    with_reducible refine (valueS_any _ _ _ _ HS.out).mono ?_
    rintro e w1 ⟨rfl, hd⟩
    have HB1 := Lib.hid (H.out.below (drawn_bl hd _) H.out.lt)
    have HD := Lib.hid hd
    rw [ht]
    clear hd c5 ht
    go_wp2_with (fail)
    with_reducible refine (endE_any b o 0 left (.pointer (some ⟨sb, 0, none⟩)) wv av r lv 0 0 0 0 false [] _ _ HB1.out P4.out IsSl.nil).mono ?_
    rintro e w2 ⟨rfl, hb, hc⟩
    have HX : Hid (QPost F b o b0 (QP.sought o left s) w (.returned (.tuple #[])) w2) := Lib.hid (by
      rw [HR.out]
      exact ⟨rfl, (done_nil FB.out ⟨_, rfl⟩ P2.out P3.out rfl hb).mono (fun _ => .inl), (Chg.of_below (drawn_bl HD.out _)).trans hc⟩)
    clear hb hc
    go_wp2_with (fail)
    refine bodyPost_ret (results_none rfl _ _ _) rfl ?_
    exact HX.out
set_option maxHeartbeats 2000000 in
theorem lookedQ_any (wb ab : Nat) (Fw Fa : Nat → Prop) (s : WS) (a : AS) (next : Int) (sv : Value) (r : Res) (lv : Value) (w : World) (fb : F b) (p1 : IsPtr sv) (p4 : IsSl lv) (h : Blk w b 155 (queryC o next left sv (.pointer (some ⟨wb, 0, none⟩)) (.pointer (some ⟨ab, 0, none⟩)) r lv)) (hw : WalkP Fw wb s w) (hfw : ∀ x, Fw x → x ≠ b) (ha : AgainP Fa ab a w) (hfa : ∀ x, Fa x → x ≠ b) (hn : s.next = 6) (hl : s.pairs.length ≤ 1000000) (l1 : 1 ≤ left) (l2 : left ≤ 64) :
    Calls Tryz.prog 146 #[.pointer (some ⟨b, 0, none⟩)] w (QPost F b o b0 (QP.looked o left s a) w) := by
  have c4 : w.cell? ⟨b, 4, none⟩ = some (.int .i64 left) := h.cell 4
  have f4 := h.frozen 4
  have d6 : w.cell? ⟨b, 6, none⟩ = some (.pointer (some ⟨wb, 0, none⟩)) := h.cell 6
  have d7 : w.cell? ⟨b, 7, none⟩ = some (.pointer (some ⟨ab, 0, none⟩)) := h.cell 7
  have ew : IntKind.i64.wrap (left - 1) = left - 1 := IntWalk.i64_in _ ⟨by omega, by omega⟩
  have o1 : Chg (fun x => x = b) w (w.setCell ⟨b, 4, none⟩ (.int .i64 (left - 1))) := Chg.of_mv (F := fun x => x = b) (Mv.set1 w b 4 _) rfl
  have HB1 : Hid (Blk (w.setCell ⟨b, 4, none⟩ (.int .i64 (left - 1))) b 155 (queryC o next (left - 1) sv (.pointer (some ⟨wb, 0, none⟩)) (.pointer (some ⟨ab, 0, none⟩)) r lv)) := Lib.hid (h.set_ 4 _)
  have HW1 := Lib.hid (hw.chg o1 (fun x hx e => hfw x hx e))
  have HA1 := Lib.hid (ha.chg o1 (fun x hx e => hfa x hx e))
  have hz1 : (w.setCell ⟨b, 4, none⟩ (.int .i64 (left - 1))).heap.size = w.heap.size := by simp
  have hbw : b ≠ wb := fun e => by
    obtain ⟨rv, pv, lv, prv, sv, hq⟩ := hw
    exact hfw _ hq.fb e.symm
  have O1 := Lib.hid o1
  have P1 := Lib.hid p1
  have P4 := Lib.hid p4
  have FB := Lib.hid fb
  have HN := Lib.hid hn
  have HZ := Lib.hid hz1
  clear o1 p1 p4 fb hn hz1
  clear h hw ha hfw hfa
  cases hs : a.same with
  | true =>
    have HR := Lib.hid (show QP.looked o left s a = .done (left - 1) (o.answer s.pairs) from if_pos hs)
    go_enter Tryz.func146, Tryz.ntmps146
    go_wp2_with (fail)
    generalize w.setCell ⟨b, 4, none⟩ (.int .i64 (left - 1)) = w1 at HB1 HW1 HA1 O1 HZ ⊢
    have c6 : w1.cell? ⟨b, 6, none⟩ = some (.pointer (some ⟨wb, 0, none⟩)) := HB1.out.cell 6
    have c7 : w1.cell? ⟨b, 7, none⟩ = some (.pointer (some ⟨ab, 0, none⟩)) := HB1.out.cell 7
    clear c4 f4 ew d6 d7
    with_reducible refine (sameA_any _ _ _ _ HA1.out).mono ?_
    rintro e w2 ⟨rfl, rfl⟩
    rw [hs]
    clear hs
    go_wp2_with (fail)
    with_reducible refine (pairsW_any _ _ _ _ HW1.out HN.out hl).mono ?_
    rintro e w2 ⟨v2, rfl, hO, hb⟩
    have HB2 := Lib.hid (HB1.out.below hb HB1.out.lt)
    have HO2 := Lib.hid hO
    have HU2 := Lib.hid hb
    clear hO hb c6 c7
    go_wp2_with (fail)
    with_reducible refine (answerQ_any b o next (left - 1) sv _ _ r lv s.pairs v2 w1.heap.size _ HB2.out HO2.out hl).mono ?_
    rintro e w3 ⟨lv3, rfl, hO, hb⟩
    have HB3 := Lib.hid (HB2.out.below hb HB2.out.lt)
    have hsl : IsSl lv3 := by obtain ⟨A, c, rfl⟩ := own_shape hO; exact ⟨_, _, _, rfl⟩
    have HO3 := Lib.hid hO
    have HSL := Lib.hid hsl
    have HU3 := Lib.hid hb
    clear hO hb hsl
    go_wp2_with (fail)
    with_reducible refine (endQ_any b o next (left - 1) sv _ _ r (o.answer s.pairs) lv lv3 _ HB3.out P4.out HSL.out).mono ?_
    rintro e w4 ⟨rfl, hb, hc⟩
    have HX : Hid (QPost F b o b0 (QP.looked o left s a) w (.returned (.tuple #[])) w4) := Lib.hid (by
      rw [HR.out]
      refine ⟨rfl, ⟨sv, _, _, Res.none, lv3, .inl FB.out, P1.out, ⟨_, rfl⟩, ⟨_, rfl⟩, HSL.out, hb, own_low (hc.own HO3.out (fun g hg e => own_blk_ne HO3.out HB3.out (by decide) (by rw [hg, e]))), fun g hg => .inr ?_⟩, (O1.out.trans (Chg.of_below (HU2.out.trans (HU3.out.mono HU2.out.size)))).trans hc⟩
      have := (HO3.out.lt g hg).1
      have := HZ.out
      omega)
    clear hb hc
    go_wp2_with (fail)
    go_end0
    exact HX.out
  | false =>
    by_cases hl0 : left - 1 = 0
    · have HR := Lib.hid (show QP.looked o left s a = .done (left - 1) (Res.err 9) by unfold QP.looked; rw [if_neg (by rw [hs]; exact Bool.false_ne_true), if_pos hl0])
      have HL0 := Lib.hid hl0
      clear hl0
      go_enter Tryz.func146, Tryz.ntmps146
      go_wp2_with (fail)
      generalize w.setCell ⟨b, 4, none⟩ (.int .i64 (left - 1)) = w1 at HB1 HW1 HA1 O1 HZ ⊢
      have c7 : w1.cell? ⟨b, 7, none⟩ = some (.pointer (some ⟨ab, 0, none⟩)) := HB1.out.cell 7
      clear c4
      have c4 : w1.cell? ⟨b, 4, none⟩ = some (.int .i64 (left - 1)) := HB1.out.cell 4
      clear f4 ew d6 d7
      with_reducible refine (sameA_any _ _ _ _ HA1.out).mono ?_
      rintro e w2 ⟨rfl, rfl⟩
      rw [hs]
      clear hs
      have e0 : (left - 1 == 0) = true := by simpa using HL0.out
      go_wp2_with (fail)
      with_reducible refine (endE_any b o next (left - 1) sv _ _ r lv 9 0 0 0 false [] _ _ HB1.out P4.out IsSl.nil).mono ?_
      rintro e w4 ⟨rfl, hb, hc⟩
      have HX : Hid (QPost F b o b0 (QP.looked o left s a) w (.returned (.tuple #[])) w4) := Lib.hid (by
        rw [HR.out]
        exact ⟨rfl, (done_nil FB.out P1.out ⟨_, rfl⟩ ⟨_, rfl⟩ rfl hb).mono (fun _ => .inl), O1.out.trans hc⟩)
      clear hb hc
      go_wp2_with (fail)
      go_end0
      exact HX.out
    · have HR := Lib.hid (show QP.looked o left s a = .walk (left - 1) o.way by unfold QP.looked; rw [if_neg (by rw [hs]; exact Bool.false_ne_true), if_neg hl0])
      have HL0 := Lib.hid hl0
      clear hl0
      go_enter Tryz.func146, Tryz.ntmps146
      go_wp2_with (fail)
      generalize w.setCell ⟨b, 4, none⟩ (.int .i64 (left - 1)) = w1 at HB1 HW1 HA1 O1 HZ ⊢
      have c7 : w1.cell? ⟨b, 7, none⟩ = some (.pointer (some ⟨ab, 0, none⟩)) := HB1.out.cell 7
      clear c4
      have c4 : w1.cell? ⟨b, 4, none⟩ = some (.int .i64 (left - 1)) := HB1.out.cell 4
      clear f4 ew d6 d7
      with_reducible refine (sameA_any _ _ _ _ HA1.out).mono ?_
      rintro e w2 ⟨rfl, rfl⟩
      rw [hs]
      clear hs
      have e0 : (left - 1 == 0) = false := by simpa using HL0.out
      go_wp2_with (fail)
      with_reducible refine (roundQ_any b o next (left - 1) sv _ _ r lv _ HB1.out (IsPtr.mk _)).mono ?_
      rintro e w4 ⟨rfl, wb2, hb, hw, hc⟩
      have HX : Hid (QPost F b o b0 (QP.looked o left s a) w (.returned (.tuple #[])) w4) := Lib.hid (by
        rw [HR.out]
        have hbl := HB1.out.lt
        have hz := HZ.out
        exact ⟨rfl, ⟨sv, _, _, r, lv, .inl FB.out, P1.out, ⟨_, rfl⟩, ⟨_, rfl⟩, P4.out, hb, wb2, _, rfl, hw, fun x hx => ⟨.inr (by omega), by omega⟩⟩, O1.out.trans hc⟩)
      clear hb hw hc
      go_wp2_with (fail)
      go_end0
      exact HX.out
end
/- query's frame: New. -/

def NewQPost (o : Op) (budget : Int) (w : World) (e : Ending) (w' : World) : Prop := ∃ b, e = .returned (.pointer (some ⟨b, 0, none⟩)) ∧ QueryP (fun x => w.heap.size ≤ x) b o budget (QP.init o budget) w' ∧ Below w.heap.size w w'
set_option maxRecDepth 100000 in
set_option maxHeartbeats 4000000 in
theorem newQ_any (o : Op) (budget : Int) (w : World) :
    Calls Tryz.prog 44 #[.agg #[.int .i64 o.kind, .int .i64 o.key, .int .i64 o.val], .int .i64 budget] w (NewQPost o budget w) := by
  have hz1 : (w.alloc (.cells #[.int .i64 o.kind, .int .i64 o.key, .int .i64 o.val] 48)).heap.size = w.heap.size + 1 := by simp
  have HB2 : Hid (Blk ((w.alloc (.cells #[.int .i64 o.kind, .int .i64 o.key, .int .i64 o.val] 48)).alloc (.cells #[.int .i64 0, .int .i64 o.kind, .int .i64 o.key, .int .i64 o.val, .int .i64 budget, .pointer none, .pointer none, .pointer none, .int .i64 0, .bool false, .int .i64 0, .int .i64 0, .int .i64 0, .slice none 0 0] 155)) (w.heap.size + 1) 155 (queryC o 0 budget (.pointer none) (.pointer none) (.pointer none) Res.none (.slice none 0 0))) := Lib.hid (by
    have := Blk.new (w.alloc (.cells #[.int .i64 o.kind, .int .i64 o.key, .int .i64 o.val] 48)) 155 (queryC o 0 budget (.pointer none) (.pointer none) (.pointer none) Res.none (.slice none 0 0))
    rw [hz1] at this
    exact this)
  have HU2 : Hid (Below w.heap.size w ((w.alloc (.cells #[.int .i64 o.kind, .int .i64 o.key, .int .i64 o.val] 48)).alloc (.cells #[.int .i64 0, .int .i64 o.kind, .int .i64 o.key, .int .i64 o.val, .int .i64 budget, .pointer none, .pointer none, .pointer none, .int .i64 0, .bool false, .int .i64 0, .int .i64 0, .int .i64 0, .slice none 0 0] 155))) := Lib.hid (((Below.refl w.heap.size w).alloc (Nat.le_refl _) _).alloc (by rw [hz1]; omega) _)
  have HZ2 : Hid (((w.alloc (.cells #[.int .i64 o.kind, .int .i64 o.key, .int .i64 o.val] 48)).alloc (.cells #[.int .i64 0, .int .i64 o.kind, .int .i64 o.key, .int .i64 o.val, .int .i64 budget, .pointer none, .pointer none, .pointer none, .int .i64 0, .bool false, .int .i64 0, .int .i64 0, .int .i64 0, .slice none 0 0] 155)).heap.size = w.heap.size + 2) := Lib.hid (by simp)
  clear hz1
  by_cases k4 : o.kind < 4
  · have HR := Lib.hid (show QP.init o budget = .done budget (Res.err 5) by unfold QP.init; rw [if_pos (.inl k4)])
    go_enter Tryz.func44, Tryz.ntmps44
    go_wp2_with (fail)
    generalize (w.alloc (.cells #[.int .i64 o.kind, .int .i64 o.key, .int .i64 o.val] 48)).alloc (.cells #[.int .i64 0, .int .i64 o.kind, .int .i64 o.key, .int .i64 o.val, .int .i64 budget, .pointer none, .pointer none, .pointer none, .int .i64 0, .bool false, .int .i64 0, .int .i64 0, .int .i64 0, .slice none 0 0] 155) = w2 at HB2 HU2 HZ2 ⊢
    with_reducible refine (endE_any (w.heap.size + 1) o 0 budget _ _ _ Res.none _ 5 0 0 0 false [] _ _ HB2.out IsSl.nil IsSl.nil).mono ?_
    rintro e w3 ⟨rfl, hb, hc⟩
    have HX : Hid (NewQPost o budget w (.returned (.pointer (some ⟨w.heap.size + 1, 0, none⟩))) w3) := Lib.hid (by
      refine ⟨_, rfl, ?_, HU2.out.trans (hc.below (B := w.heap.size) (fun x hx => by omega) (by have := HZ2.out; omega))⟩
      rw [HR.out]
      exact done_nil (by omega) (IsPtr.mk _) (IsPtr.mk _) (IsPtr.mk _) rfl hb)
    clear hb hc
    go_wp2_with (fail)
    go_ret
    exact HX.out
  · have e4 : decide (o.kind < 4) = false := decide_eq_false k4
    by_cases k10 : 10 < o.kind
    · have HR := Lib.hid (show QP.init o budget = .done budget (Res.err 5) by unfold QP.init; rw [if_pos (.inr k10)])
      clear k4
      go_enter Tryz.func44, Tryz.ntmps44
      go_wp2_with (fail)
      generalize (w.alloc (.cells #[.int .i64 o.kind, .int .i64 o.key, .int .i64 o.val] 48)).alloc (.cells #[.int .i64 0, .int .i64 o.kind, .int .i64 o.key, .int .i64 o.val, .int .i64 budget, .pointer none, .pointer none, .pointer none, .int .i64 0, .bool false, .int .i64 0, .int .i64 0, .int .i64 0, .slice none 0 0] 155) = w2 at HB2 HU2 HZ2 ⊢
      with_reducible refine (endE_any (w.heap.size + 1) o 0 budget _ _ _ Res.none _ 5 0 0 0 false [] _ _ HB2.out IsSl.nil IsSl.nil).mono ?_
      rintro e w3 ⟨rfl, hb, hc⟩
      have HX : Hid (NewQPost o budget w (.returned (.pointer (some ⟨w.heap.size + 1, 0, none⟩))) w3) := Lib.hid (by
        refine ⟨_, rfl, ?_, HU2.out.trans (hc.below (B := w.heap.size) (fun x hx => by omega) (by have := HZ2.out; omega))⟩
        rw [HR.out]
        exact done_nil (by omega) (IsPtr.mk _) (IsPtr.mk _) (IsPtr.mk _) rfl hb)
      clear hb hc
      go_wp2_with (fail)
      go_ret
      exact HX.out
    · have e10 : decide (10 < o.kind) = false := decide_eq_false k10
      by_cases b1 : budget < 1
      · have HR := Lib.hid (show QP.init o budget = .done budget (Res.err 2) by unfold QP.init; rw [if_neg (by omega), if_pos (.inl b1)])
        clear k4 k10
        go_enter Tryz.func44, Tryz.ntmps44
        go_wp2_with (fail)
        generalize (w.alloc (.cells #[.int .i64 o.kind, .int .i64 o.key, .int .i64 o.val] 48)).alloc (.cells #[.int .i64 0, .int .i64 o.kind, .int .i64 o.key, .int .i64 o.val, .int .i64 budget, .pointer none, .pointer none, .pointer none, .int .i64 0, .bool false, .int .i64 0, .int .i64 0, .int .i64 0, .slice none 0 0] 155) = w2 at HB2 HU2 HZ2 ⊢
        with_reducible refine (endE_any (w.heap.size + 1) o 0 budget _ _ _ Res.none _ 2 0 0 0 false [] _ _ HB2.out IsSl.nil IsSl.nil).mono ?_
        rintro e w3 ⟨rfl, hb, hc⟩
        have HX : Hid (NewQPost o budget w (.returned (.pointer (some ⟨w.heap.size + 1, 0, none⟩))) w3) := Lib.hid (by
          refine ⟨_, rfl, ?_, HU2.out.trans (hc.below (B := w.heap.size) (fun x hx => by omega) (by have := HZ2.out; omega))⟩
          rw [HR.out]
          exact done_nil (by omega) (IsPtr.mk _) (IsPtr.mk _) (IsPtr.mk _) rfl hb)
        clear hb hc
        go_wp2_with (fail)
        go_ret
        exact HX.out
      · have f1 : decide (budget < 1) = false := decide_eq_false b1
        by_cases b64 : 64 < budget
        · have HR := Lib.hid (show QP.init o budget = .done budget (Res.err 2) by unfold QP.init; rw [if_neg (by omega), if_pos (.inr b64)])
          clear k4 k10 b1
          go_enter Tryz.func44, Tryz.ntmps44
          go_wp2_with (fail)
          generalize (w.alloc (.cells #[.int .i64 o.kind, .int .i64 o.key, .int .i64 o.val] 48)).alloc (.cells #[.int .i64 0, .int .i64 o.kind, .int .i64 o.key, .int .i64 o.val, .int .i64 budget, .pointer none, .pointer none, .pointer none, .int .i64 0, .bool false, .int .i64 0, .int .i64 0, .int .i64 0, .slice none 0 0] 155) = w2 at HB2 HU2 HZ2 ⊢
          with_reducible refine (endE_any (w.heap.size + 1) o 0 budget _ _ _ Res.none _ 2 0 0 0 false [] _ _ HB2.out IsSl.nil IsSl.nil).mono ?_
          rintro e w3 ⟨rfl, hb, hc⟩
          have HX : Hid (NewQPost o budget w (.returned (.pointer (some ⟨w.heap.size + 1, 0, none⟩))) w3) := Lib.hid (by
            refine ⟨_, rfl, ?_, HU2.out.trans (hc.below (B := w.heap.size) (fun x hx => by omega) (by have := HZ2.out; omega))⟩
            rw [HR.out]
            exact done_nil (by omega) (IsPtr.mk _) (IsPtr.mk _) (IsPtr.mk _) rfl hb)
          clear hb hc
          go_wp2_with (fail)
          go_ret
          exact HX.out
        · have f64 : decide (64 < budget) = false := decide_eq_false b64
          by_cases k : o.kind = 4
          · have HR := Lib.hid (show QP.init o budget = .seek (SS.init o.key) by unfold QP.init; rw [if_neg (by omega), if_neg (by omega), if_pos k])
            have e : (o.kind == 4) = true := by simpa using k
            clear k4 k10 b1 b64 k
            go_enter Tryz.func44, Tryz.ntmps44
            go_wp2_with (fail)
            generalize (w.alloc (.cells #[.int .i64 o.kind, .int .i64 o.key, .int .i64 o.val] 48)).alloc (.cells #[.int .i64 0, .int .i64 o.kind, .int .i64 o.key, .int .i64 o.val, .int .i64 budget, .pointer none, .pointer none, .pointer none, .int .i64 0, .bool false, .int .i64 0, .int .i64 0, .int .i64 0, .slice none 0 0] 155) = w2 at HB2 HU2 HZ2 ⊢
            with_reducible refine (newS_any o.key _).mono ?_
            rintro e w3 ⟨rfl, hs, hb⟩
            have hlt : w.heap.size + 1 < w2.heap.size := by have := HZ2.out; omega
            have HB3 := Lib.hid (HB2.out.below hb hlt)
            have c5 : w3.cell? ⟨w.heap.size + 1, 5, none⟩ = some (.pointer none) := HB3.out.cell 5
            have f5 := HB3.out.frozen 5
            have o3 : Chg (fun x => x = w.heap.size + 1) w3 (w3.setCell ⟨w.heap.size + 1, 5, none⟩ (.pointer (some ⟨w2.heap.size, 0, none⟩))) := Chg.of_mv (F := fun x => x = w.heap.size + 1) (Mv.set1 w3 (w.heap.size + 1) 5 _) rfl
            have HX : Hid (NewQPost o budget w (.returned (.pointer (some ⟨w.heap.size + 1, 0, none⟩))) (w3.setCell ⟨w.heap.size + 1, 5, none⟩ (.pointer (some ⟨w2.heap.size, 0, none⟩)))) := Lib.hid (by
              have hz3 := hb.size
              refine ⟨_, rfl, ?_, (HU2.out.trans (hb.mono (by omega))).trans (o3.below (B := w.heap.size) (fun x hx => by omega) (by omega))⟩
              rw [HR.out]
              exact ⟨_, _, _, Res.none, _, by omega, IsPtr.mk _, IsPtr.mk _, IsPtr.mk _, IsSl.nil, HB3.out.set_ 5 _, w2.heap.size, _, rfl, hs.chg o3 (fun x hx e => by omega), fun x hx => ⟨by omega, by omega⟩⟩)
            clear hs hb o3 hlt
            go_wp2_with (fail)
            go_ret
            exact HX.out
          · have HR := Lib.hid (show QP.init o budget = .walk budget o.way by unfold QP.init; rw [if_neg (by omega), if_neg (by omega), if_neg k])
            have e : (o.kind == 4) = false := by simpa using k
            clear k4 k10 b1 b64 k
            go_enter Tryz.func44, Tryz.ntmps44
            go_wp2_with (fail)
            generalize (w.alloc (.cells #[.int .i64 o.kind, .int .i64 o.key, .int .i64 o.val] 48)).alloc (.cells #[.int .i64 0, .int .i64 o.kind, .int .i64 o.key, .int .i64 o.val, .int .i64 budget, .pointer none, .pointer none, .pointer none, .int .i64 0, .bool false, .int .i64 0, .int .i64 0, .int .i64 0, .slice none 0 0] 155) = w2 at HB2 HU2 HZ2 ⊢
            with_reducible refine (roundQ_any (w.heap.size + 1) o 0 budget _ _ _ Res.none _ _ HB2.out (IsPtr.mk _)).mono ?_
            rintro e w3 ⟨rfl, wb, hb, hw, hc⟩
            have HX : Hid (NewQPost o budget w (.returned (.pointer (some ⟨w.heap.size + 1, 0, none⟩))) w3) := Lib.hid (by
              have hz := HZ2.out
              refine ⟨_, rfl, ?_, HU2.out.trans (hc.below (B := w.heap.size) (fun x hx => by omega) (by omega))⟩
              rw [HR.out]
              exact ⟨_, _, _, Res.none, _, by omega, IsPtr.mk _, IsPtr.mk _, IsPtr.mk _, IsSl.nil, hb, wb, _, rfl, hw, fun x hx => ⟨by omega, by omega⟩⟩)
            clear hb hw hc
            go_wp2_with (fail)
            go_ret
            exact HX.out
/- query's frame: Step, Result. -/

def QP.Few (R : Int → Int) : QP → Prop
  | .walk _ s => s.levels.length < 1000000 ∧ s.pairs.length ≤ 1000000 ∧ s.spots.length ≤ 1000000 ∧ (s.step R).pairs.length ≤ 1000000 ∧ (s.step R).spots.length ≤ 1000000
  | .look _ s _ => s.pairs.length ≤ 1000000
  | _ => True
def QSPost (F : Nat → Prop) (b bm : Nat) (o : Op) (b0 : Int) (q : QP) (B : Nat) (v : Value) (C : List Int) (size count odd ref : Int) (w : World) (e : Ending) (w' : World) : Prop :=
  e = .returned (.bool ((q.step o b0 (rdC C)).next == 3)) ∧ QueryP (fun x => F x ∨ w.heap.size ≤ x) b o b0 (q.step o b0 (rdC C)) w' ∧ MemP B bm v C size (cntO q.acc count) (oddO C q.acc odd) ref w' ∧ Chg (fun x => F x ∨ x = bm) w w'
theorem QPost.out {F : Nat → Prop} {b bm : Nat} {o : Op} {b0 : Int} {q : QP} {B : Nat} {v : Value} {C : List Int} {size count odd ref : Int} {w w1 : World} {e : Ending} {w' : World} (hm : MemP B bm v C size count odd ref w1) (oc : Chg (fun x => F x ∨ x = bm) w w1) (hO : Off F bm v) (fb : F b) (h : QPost F b o b0 q w1 e w') : QueryP (fun x => F x ∨ w.heap.size ≤ x) b o b0 q w' ∧ MemP B bm v C size count odd ref w' ∧ Chg (fun x => F x ∨ x = bm) w w' :=
  ⟨h.2.1.mono (fun x hx => hx.imp id (fun y => Nat.le_trans oc.size y)), hm.chg h.2.2 (fun e => hO.1 (e ▸ fb)) (fun g hg e => hO.2 g hg (e ▸ fb)), oc.trans (h.2.2.mono (fun x hx => .inl (hx ▸ fb)))⟩
theorem QPost.grown {F : Nat → Prop} {b : Nat} {o : Op} {b0 : Int} {q : QP} {w w1 : World} {e : Ending} {w' : World} (hz : w.heap.size ≤ w1.heap.size) (h : QPost (fun x => F x ∨ w.heap.size ≤ x) b o b0 q w1 e w') : QueryP (fun x => F x ∨ w.heap.size ≤ x) b o b0 q w' := h.2.1.mono (fun x hx => hx.elim id (fun y => .inr (Nat.le_trans hz y)))
def ResPost (r : Res) (w : World) (e : Ending) (w' : World) : Prop := ∃ lv, e = .returned (resV r lv) ∧ w'.ownsRow w.heap.size 52 2 lv r.list.length (cellsP r.list) ∧ Below w.heap.size w w'
theorem own_mono {w : World} {base base' : Nat} {e : TypeId} {size : Nat} {v : Value} {n : Nat} {xs : List Value} (h : w.ownsRow base e size v n xs) (hb : base' ≤ base) : w.ownsRow base' e size v n xs :=
  ⟨h.1, h.2.imp id (fun ⟨g, cap, cur, a, b, c⟩ => ⟨g, cap, cur, a, Nat.le_trans hb b, c⟩)⟩
section
variable (F : Nat → Prop) (b bm : Nat) (o : Op) (b0 : Int)
set_option maxRecDepth 100000 in
set_option maxHeartbeats 1000000 in
theorem resultQ_any (left : Int) (r : Res) (w : World) (h : QueryP F b o b0 (.done left r) w) (hl : r.list.length ≤ 1000000) : Calls Tryz.prog 46 #[.pointer (some ⟨b, 0, none⟩)] w (ResPost r w) := by
  obtain ⟨sv, wv, av, r0, lv, _, _, _, _, _, hb, hp⟩ := h
  obtain ⟨A, c, rfl⟩ := own_shape hp.1
  have c8 : w.cell? ⟨b, 8, none⟩ = some (.int .i64 r.why) := hb.cell 8
  have c9 : w.cell? ⟨b, 9, none⟩ = some (.bool r.found) := hb.cell 9
  have c10 : w.cell? ⟨b, 10, none⟩ = some (.int .i64 r.key) := hb.cell 10
  have c11 : w.cell? ⟨b, 11, none⟩ = some (.int .i64 r.val) := hb.cell 11
  have c12 : w.cell? ⟨b, 12, none⟩ = some (.int .i64 r.n) := hb.cell 12
  have c13 : w.cell? ⟨b, 13, none⟩ = some (.slice A r.list.length c) := hb.cell 13
  have n1 := World.new_ne w ⟨b, 8, none⟩ c8
  have hbl := hb.lt
  have hP := hp.1
  have HP := Lib.hid hP
  clear hP
  have hz1 : (w.alloc (.cells #[.int .i64 0, .bool false, .int .i64 0, .int .i64 0, .int .i64 0, .slice none 0 0] 54)).heap.size = w.heap.size + 1 := by simp
  have HA2 : Hid (Blk ((w.alloc (.cells #[.int .i64 0, .bool false, .int .i64 0, .int .i64 0, .int .i64 0, .slice none 0 0] 54)).alloc (.cells #[.int .i64 r.why, .bool r.found, .int .i64 r.key, .int .i64 r.val, .int .i64 r.n, .slice A r.list.length c] 54)) w.heap.size 54 #[.int .i64 0, .bool false, .int .i64 0, .int .i64 0, .int .i64 0, .slice none 0 0]) := Lib.hid ((Blk.new w 54 _).alloc _)
  have HB2 : Hid (Blk ((w.alloc (.cells #[.int .i64 0, .bool false, .int .i64 0, .int .i64 0, .int .i64 0, .slice none 0 0] 54)).alloc (.cells #[.int .i64 r.why, .bool r.found, .int .i64 r.key, .int .i64 r.val, .int .i64 r.n, .slice A r.list.length c] 54)) (w.heap.size + 1) 54 #[.int .i64 r.why, .bool r.found, .int .i64 r.key, .int .i64 r.val, .int .i64 r.n, .slice A r.list.length c]) := Lib.hid (by
    have := Blk.new (w.alloc (.cells #[.int .i64 0, .bool false, .int .i64 0, .int .i64 0, .int .i64 0, .slice none 0 0] 54)) 54 #[.int .i64 r.why, .bool r.found, .int .i64 r.key, .int .i64 r.val, .int .i64 r.n, .slice A r.list.length c]
    rw [hz1] at this
    exact this)
  have HU2 : Hid (Below w.heap.size w ((w.alloc (.cells #[.int .i64 0, .bool false, .int .i64 0, .int .i64 0, .int .i64 0, .slice none 0 0] 54)).alloc (.cells #[.int .i64 r.why, .bool r.found, .int .i64 r.key, .int .i64 r.val, .int .i64 r.n, .slice A r.list.length c] 54))) := Lib.hid (((Below.refl w.heap.size w).alloc (Nat.le_refl _) _).alloc (by rw [hz1]; omega) _)
  clear hz1 hp hb
  go_enter Tryz.func46, Tryz.ntmps46
  go_wp2_with (fail)
  generalize (w.alloc (.cells #[.int .i64 0, .bool false, .int .i64 0, .int .i64 0, .int .i64 0, .slice none 0 0] 54)).alloc (.cells #[.int .i64 r.why, .bool r.found, .int .i64 r.key, .int .i64 r.val, .int .i64 r.n, .slice A r.list.length c] 54) = w2 at HA2 HB2 HU2 ⊢
  have HR2 : Hid (PairsAt w2 w2.heap.size A r.list) := Lib.hid (Reads.of_own (own_below HP.out HU2.out))
  clear c8 c9 c10 c11 c12 c13
  with_reducible refine (cloneP_any A c _ r.list _ rfl HR2.out hl).mono ?_
  rintro e w3 ⟨v3, rfl, hO, hb3⟩
  obtain ⟨A3, c3, rfl⟩ := own_shape hO
  have ha3 := HA2.out.below hb3 HA2.out.lt
  have hb3' := HB2.out.below hb3 HB2.out.lt
  have hU3 := HU2.out.trans (hb3.mono HU2.out.size)
  have x0 : w3.cell? ⟨w.heap.size, 0, none⟩ = some (.int .i64 0) := ha3.cell 0
  have x1 : w3.cell? ⟨w.heap.size, 1, none⟩ = some (.bool false) := ha3.cell 1
  have x2 : w3.cell? ⟨w.heap.size, 2, none⟩ = some (.int .i64 0) := ha3.cell 2
  have x3 : w3.cell? ⟨w.heap.size, 3, none⟩ = some (.int .i64 0) := ha3.cell 3
  have x4 : w3.cell? ⟨w.heap.size, 4, none⟩ = some (.int .i64 0) := ha3.cell 4
  have x5 : w3.cell? ⟨w.heap.size, 5, none⟩ = some (.slice none 0 0) := ha3.cell 5
  have f0 := ha3.frozen 0
  have f1 := ha3.frozen 1
  have f2 := ha3.frozen 2
  have f3 := ha3.frozen 3
  have f4 := ha3.frozen 4
  have f5 := ha3.frozen 5
  have y0 : w3.cell? ⟨w.heap.size + 1, 0, none⟩ = some (.int .i64 r.why) := hb3'.cell 0
  have y1 : w3.cell? ⟨w.heap.size + 1, 1, none⟩ = some (.bool r.found) := hb3'.cell 1
  have y2 : w3.cell? ⟨w.heap.size + 1, 2, none⟩ = some (.int .i64 r.key) := hb3'.cell 2
  have y3 : w3.cell? ⟨w.heap.size + 1, 3, none⟩ = some (.int .i64 r.val) := hb3'.cell 3
  have y4 : w3.cell? ⟨w.heap.size + 1, 4, none⟩ = some (.int .i64 r.n) := hb3'.cell 4
  have y5 : w3.cell? ⟨w.heap.size + 1, 5, none⟩ = some (.slice A r.list.length c) := hb3'.cell 5
  have g5 := hb3'.frozen 5
  have HO := Lib.hid hO
  have HU3 := Lib.hid hU3
  have HS2 : Hid (w.heap.size + 2 ≤ w2.heap.size) := Lib.hid HB2.out.lt
  clear ha3 hb3 hb3' hU3 hO HA2 HB2 HR2 HU2
  go_wp2_with (fail)
  refine bodyPost_ret (v := resV r (.slice A3 r.list.length c3)) (by simp [results, Tryz.results46, go_sem, resV, x0, x1, x2, x3, x4, x5]) rfl ?_
  have hc : Chg (fun x => x = w.heap.size ∨ x = w.heap.size + 1) w3 _ := (Chg.of_mv (Mv.set1 w3 (w.heap.size + 1) 5 (.slice A3 r.list.length c3)) (.inr rfl)).trans (Chg.of_mv ((((((Mv.set1 _ w.heap.size 0 (.int .i64 r.why)).trans_ (Mv.set1 _ w.heap.size 1 (.bool r.found))).trans_ (Mv.set1 _ w.heap.size 2 (.int .i64 r.key))).trans_ (Mv.set1 _ w.heap.size 3 (.int .i64 r.val))).trans_ (Mv.set1 _ w.heap.size 4 (.int .i64 r.n))).trans_ (Mv.set1 _ w.heap.size 5 (.slice A3 r.list.length c3))) (.inl rfl))
  have h2 := HS2.out
  have h3 := HU3.out.size
  refine ⟨_, rfl, own_mono (hc.own HO.out (fun g hg e => by have := (HO.out.lt g hg).1; omega)) (by omega), HU3.out.trans (hc.below (B := w.heap.size) (fun x hx => by omega) h3)⟩
variable (B : Nat) (v : Value) (C : List Int) (size count odd ref : Int) (w : World) (hm : MemP B bm v C size count odd ref w) (hO : Off F bm v) (hC : C.length ≤ 1000000) (hw : ∀ i, i < C.length → -9223372036854775808 ≤ keyAt C i ∧ keyAt C i ≤ 9223372036854775807)
include hm hO hC hw
set_option maxRecDepth 100000 in
set_option maxHeartbeats 2000000 in
theorem stepQ0_any (s : SS) (h : QueryP F b o b0 (.seek s) w) (hI : s.Inv) : Calls Tryz.prog 84 #[.pointer (some ⟨b, 0, none⟩), .pointer (some ⟨bm, 0, none⟩)] w (QSPost F b bm o b0 (.seek s) B v C size count odd ref w) := by
  obtain ⟨sv, wv, av, r, lv, fb, p1, p2, p3, p4, hb, sb, Fs, rfl, hs, hF⟩ := h
  have c0 : w.cell? ⟨b, 0, none⟩ = some (.int .i64 0) := hb.cell 0
  have c5 : w.cell? ⟨b, 5, none⟩ = some (.pointer (some ⟨sb, 0, none⟩)) := hb.cell 5
  have HNS := Lib.hid (show QP.step o b0 (rdC C) (.seek s) = if (s.step (rdC C)).next = 5 then QP.sought o b0 (s.step (rdC C)) else .seek (s.step (rdC C)) from rfl)
  have hbm : b ≠ bm := fun e => hO.1 (e ▸ fb)
  have HM := Lib.hid hm
  have HO := Lib.hid hO
  have HB := Lib.hid hb
  have HS := Lib.hid hs
  have HF := Lib.hid hF
  have HI := Lib.hid hI
  have P2 := Lib.hid p2
  have P3 := Lib.hid p3
  have P4 := Lib.hid p4
  have FB := Lib.hid fb
  clear hm hO hb hs hF hI p2 p3 p4 fb
  go_enter Tryz.func84, Tryz.ntmps84
  go_wp2_with (fail)
  with_reducible refine (stepS_any Fs sb bm s B v C size count odd ref _ HS.out HM.out HI.out hC hw).mono ?_
  rintro e w1 ⟨rfl, hs1, hm1, hc1⟩
  have hB1 := hc1.blk HB.out (fun e => by
    rcases e with e | e
    · exact (HF.out b e).2 rfl
    · exact hbm e)
  have HC1 : Hid (Chg (fun x => F x ∨ x = bm) w w1) := Lib.hid (hc1.mono (fun x hx => hx.imp (fun e => (HF.out x e).1) id))
  have hbl := HB.out.lt
  have HM1 := Lib.hid hm1
  have HB1 := Lib.hid hB1
  have HS1 := Lib.hid hs1
  clear hs1 hm1 hc1 hB1 c0 c5
  obtain ⟨s1, hs1⟩ : ∃ s1, s.step (rdC C) = s1 := ⟨_, rfl⟩
  rw [hs1] at HNS HS1 ⊢
  clear hs1
  by_cases h5 : s1.next = 5
  · have e5 : (s1.next == 5) = true := by simpa using h5
    have HR := Lib.hid (HNS.out.trans (if_pos h5))
    rw [e5]
    clear e5 h5
    go_wp2_with (fail)
    with_reducible refine (soughtQ_any F b o b0 b0 sb _ s1 wv av r lv _ FB.out P2.out P3.out P4.out HB1.out HS1.out).mono ?_
    rintro e w2 hp
    have HX := Lib.hid (hp.out HM1.out HC1.out HO.out FB.out)
    obtain ⟨rfl, _, _⟩ := hp
    go_wp2_with (fail)
    with_reducible refine (doneQ_any _ _ _ _ _ _ HX.out.1).mono ?_
    rintro e w3 ⟨rfl, rfl⟩
    go_wp2_with (fail)
    go_ret
    unfold QSPost
    rw [HR.out]
    exact ⟨rfl, HX.out⟩
  · have e5 : (s1.next == 5) = false := by simpa using h5
    have HR := Lib.hid (HNS.out.trans (if_neg h5))
    have HX : Hid (QueryP (fun x => F x ∨ w.heap.size ≤ x) b o b0 (.seek s1) w1) := Lib.hid ⟨_, wv, av, r, lv, .inl FB.out, IsPtr.mk _, P2.out, P3.out, P4.out, HB1.out, sb, _, rfl, HS1.out, fun x hx => hx.elim (fun e => ⟨.inl (HF.out x e).1, (HF.out x e).2⟩) (fun e => ⟨.inr e, by omega⟩)⟩
    rw [e5]
    clear e5 h5
    go_wp2_with (fail)
    with_reducible refine (doneQ_any _ _ _ _ _ _ HX.out).mono ?_
    rintro e w3 ⟨rfl, rfl⟩
    go_wp2_with (fail)
    go_ret
    unfold QSPost
    rw [HR.out]
    exact ⟨rfl, HX.out, HM1.out, HC1.out⟩
end
/- query's frame: Step where it walks and looks. -/

section
variable (F : Nat → Prop) (b bm : Nat) (o : Op) (b0 : Int)
variable (B : Nat) (v : Value) (C : List Int) (size count odd ref : Int) (w : World) (hm : MemP B bm v C size count odd ref w)
include hm
set_option maxRecDepth 100000 in
set_option maxHeartbeats 1000000 in
theorem stepQ3_any (left : Int) (r' : Res) (h : QueryP F b o b0 (.done left r') w) : Calls Tryz.prog 84 #[.pointer (some ⟨b, 0, none⟩), .pointer (some ⟨bm, 0, none⟩)] w (QSPost F b bm o b0 (.done left r') B v C size count odd ref w) := by
  have HH := Lib.hid h
  obtain ⟨sv, wv, av, r, lv, fb, p1, p2, p3, p4, hb, hp⟩ := h
  have c0 : w.cell? ⟨b, 0, none⟩ = some (.int .i64 3) := hb.cell 0
  have HM := Lib.hid hm
  clear hm
  clear hb hp
  go_enter Tryz.func84, Tryz.ntmps84
  go_wp2_with (fail)
  with_reducible refine (doneQ_any _ _ _ _ _ _ HH.out).mono ?_
  rintro e w3 ⟨rfl, rfl⟩
  go_wp2_with (fail)
  go_ret
  exact ⟨rfl, HH.out.mono (fun _ => .inl), HM.out, Chg.refl _ _⟩
variable (hO : Off F bm v) (hC : C.length ≤ 1000000) (hw : ∀ i, i < C.length → -9223372036854775808 ≤ keyAt C i ∧ keyAt C i ≤ 9223372036854775807)
include hO hC hw
set_option maxRecDepth 100000 in
set_option maxHeartbeats 2000000 in
theorem stepQ2_any (left : Int) (s : WS) (a : AS) (h : QueryP F b o b0 (.look left s a) w) (hI : (QP.look left s a).Inv) (hf : s.pairs.length ≤ 1000000) : Calls Tryz.prog 84 #[.pointer (some ⟨b, 0, none⟩), .pointer (some ⟨bm, 0, none⟩)] w (QSPost F b bm o b0 (.look left s a) B v C size count odd ref w) := by
  obtain ⟨sv, wv, av, r, lv, fb, p1, p2, p3, p4, hb, wb, Fw, ab, Fa, rfl, hW, hFw, rfl, hA, hFa⟩ := h
  obtain ⟨h6, hAI, hd, l1, l2⟩ := hI
  have c0 : w.cell? ⟨b, 0, none⟩ = some (.int .i64 2) := hb.cell 0
  have c7 : w.cell? ⟨b, 7, none⟩ = some (.pointer (some ⟨ab, 0, none⟩)) := hb.cell 7
  have HNS := Lib.hid (show QP.step o b0 (rdC C) (.look left s a) = if (a.step (rdC C)).done = true then QP.looked o left s (a.step (rdC C)) else .look left s (a.step (rdC C)) from rfl)
  have hbm : b ≠ bm := fun e => hO.1 (e ▸ fb)
  have HM := Lib.hid hm
  have HO := Lib.hid hO
  have HB := Lib.hid hb
  have HW := Lib.hid hW
  have HA := Lib.hid hA
  have HFw := Lib.hid hFw
  have HFa := Lib.hid hFa
  have HI := Lib.hid hAI
  have P1 := Lib.hid p1
  have P4 := Lib.hid p4
  have FB := Lib.hid fb
  have H6 := Lib.hid h6
  clear hm hO hb hW hA hFw hFa hAI p1 p4 fb h6
  go_enter Tryz.func84, Tryz.ntmps84
  go_wp2_with (fail)
  with_reducible refine (stepA_any Fa ab bm a B v C size count odd ref _ HA.out HM.out HI.out hC hw).mono ?_
  rintro e w1 ⟨rfl, hs1, hm1, hc1⟩
  have hB1 := hc1.blk HB.out (fun e => by
    rcases e with e | e
    · exact (HFa.out b e).2 rfl
    · exact hbm e)
  have HC1 : Hid (Chg (fun x => F x ∨ x = bm) w w1) := Lib.hid (hc1.mono (fun x hx => hx.imp (fun e => (HFa.out x e).1) id))
  have HW1 := Lib.hid (HW.out.within.chg hc1 (fun x hx e => by
    rcases e with e | e
    · exact (HFw.out x hx.1).2.2 e
    · exact HO.out.1 (e ▸ (HFw.out x hx.1).1)))
  have hbl := HB.out.lt
  have HM1 := Lib.hid hm1
  have HB1 := Lib.hid hB1
  have HA1 := Lib.hid hs1
  clear hs1 hm1 hc1 hB1 c0 c7 HW HA
  obtain ⟨a1, ha1⟩ : ∃ a1, a.step (rdC C) = a1 := ⟨_, rfl⟩
  rw [ha1] at HNS HA1 ⊢
  clear ha1
  cases hd1 : a1.done with
  | true =>
    have HR := Lib.hid (HNS.out.trans (if_pos hd1))
    clear hd1
    go_wp2_with (fail)
    with_reducible refine (lookedQ_any F b o b0 left wb ab _ _ s a1 2 sv r lv _ FB.out P1.out P4.out HB1.out HW1.out (fun x hx => (HFw.out x hx.1).2.1) HA1.out (fun x hx => hx.elim (fun e => (HFa.out x e).2) (fun e => by omega)) H6.out hf l1 l2).mono ?_
    rintro e w2 hp
    have HX := Lib.hid (hp.out HM1.out HC1.out HO.out FB.out)
    obtain ⟨rfl, _, _⟩ := hp
    go_wp2_with (fail)
    with_reducible refine (doneQ_any _ _ _ _ _ _ HX.out.1).mono ?_
    rintro e w3 ⟨rfl, rfl⟩
    go_wp2_with (fail)
    go_ret
    unfold QSPost
    rw [HR.out]
    exact ⟨rfl, HX.out⟩
  | false =>
    have HR := Lib.hid (HNS.out.trans (if_neg (by rw [hd1]; exact Bool.false_ne_true)))
    clear hd1
    have HX : Hid (QueryP (fun x => F x ∨ w.heap.size ≤ x) b o b0 (.look left s a1) w1) := Lib.hid ⟨sv, _, _, r, lv, .inl FB.out, P1.out, IsPtr.mk _, IsPtr.mk _, P4.out, HB1.out, wb, _, ab, _, rfl, HW1.out, fun x hx => ⟨.inl (HFw.out x hx.1).1, (HFw.out x hx.1).2.1, fun e => by
      have h2 := hx.2
      rcases e with e | e
      · exact (HFw.out x hx.1).2.2 e
      · omega⟩, rfl, HA1.out, fun x hx => hx.elim (fun e => ⟨.inl (HFa.out x e).1, (HFa.out x e).2⟩) (fun e => ⟨.inr e, by omega⟩)⟩
    go_wp2_with (fail)
    with_reducible refine (doneQ_any _ _ _ _ _ _ HX.out).mono ?_
    rintro e w3 ⟨rfl, rfl⟩
    go_wp2_with (fail)
    go_ret
    unfold QSPost
    rw [HR.out]
    exact ⟨rfl, HX.out, HM1.out, HC1.out⟩
set_option maxRecDepth 100000 in
set_option maxHeartbeats 2000000 in
theorem stepQ1_any (left : Int) (s : WS) (h : QueryP F b o b0 (.walk left s) w) (hI : (QP.walk left s).Inv) (hf : (QP.walk left s).Few (rdC C)) : Calls Tryz.prog 84 #[.pointer (some ⟨b, 0, none⟩), .pointer (some ⟨bm, 0, none⟩)] w (QSPost F b bm o b0 (.walk left s) B v C size count odd ref w) := by
  obtain ⟨sv, wv, av, r, lv, fb, p1, p2, p3, p4, hb, wb, Fw, rfl, hW, hFw⟩ := h
  obtain ⟨hI, hSp, l1, l2⟩ := hI
  obtain ⟨q1, q2, q3, q4, q5⟩ := hf
  obtain ⟨aa, rfl⟩ := p3
  have c0 : w.cell? ⟨b, 0, none⟩ = some (.int .i64 1) := hb.cell 0
  have c6 : w.cell? ⟨b, 6, none⟩ = some (.pointer (some ⟨wb, 0, none⟩)) := hb.cell 6
  have HNS := Lib.hid (show QP.step o b0 (rdC C) (.walk left s) = if (s.step (rdC C)).next = 6 then (if (AS.init (s.step (rdC C)).spots).done = true then QP.looked o left (s.step (rdC C)) (AS.init (s.step (rdC C)).spots) else .look left (s.step (rdC C)) (AS.init (s.step (rdC C)).spots)) else .walk left (s.step (rdC C)) from rfl)
  have hbm : b ≠ bm := fun e => hO.1 (e ▸ fb)
  have hOw : Off Fw bm v := ⟨fun e => hO.1 (hFw _ e).1, fun g hg e => hO.2 g hg (hFw _ e).1⟩
  have HM := Lib.hid hm
  have HO := Lib.hid hO
  have HB := Lib.hid hb
  have HW := Lib.hid hW
  have HFw := Lib.hid hFw
  have HI := Lib.hid hI
  have P1 := Lib.hid p1
  have P4 := Lib.hid p4
  have FB := Lib.hid fb
  have HOw := Lib.hid hOw
  clear hm hO hb hW hFw hI p1 p4 fb hOw
  go_enter Tryz.func84, Tryz.ntmps84
  go_wp2_with (fail)
  with_reducible refine (stepW_any Fw wb bm s B v C size count odd ref _ HW.out HM.out HOw.out HI.out hC hw q1 q3 q2).mono ?_
  rintro e w1 ⟨rfl, hs1, hm1, hc1⟩
  have hB1 := hc1.blk HB.out (fun e => by
    rcases e with e | e
    · exact (HFw.out b e).2 rfl
    · exact hbm e)
  have HC1 : Hid (Chg (fun x => F x ∨ x = bm) w w1) := Lib.hid (hc1.mono (fun x hx => hx.imp (fun e => (HFw.out x e).1) id))
  have hbl := HB.out.lt
  have hz1 := hc1.size
  have HM1 := Lib.hid hm1
  have HB1 := Lib.hid hB1
  have HW1 := Lib.hid hs1
  have HF1 : Hid (∀ x, (Fw x ∨ w.heap.size ≤ x) → (F x ∨ w.heap.size ≤ x) ∧ x ≠ b) := Lib.hid (fun x hx => hx.elim (fun e => ⟨.inl (HFw.out x e).1, (HFw.out x e).2⟩) (fun e => ⟨.inr e, by omega⟩))
  clear hs1 hm1 hc1 hB1 c0 c6 HW HFw hSp
  obtain ⟨s1, hs1⟩ : ∃ s1, s.step (rdC C) = s1 := ⟨_, rfl⟩
  rw [hs1] at HNS HW1 q4 q5 ⊢
  clear hs1
  by_cases h6 : s1.next = 6
  · have e6 : (s1.next == 6) = true := by simpa using h6
    have HNS2 := Lib.hid (HNS.out.trans (if_pos h6))
    rw [e6]
    have H6 := Lib.hid h6
    clear h6
    clear e6
    have c6 : w1.cell? ⟨b, 6, none⟩ = some (.pointer (some ⟨wb, 0, none⟩)) := HB1.out.cell 6
    go_wp2_with (fail)
    with_reducible refine (spotsW_any _ _ _ _ HW1.out H6.out q5).mono ?_
    rintro e w2 ⟨v2, rfl, hO2, hb2⟩
    obtain ⟨A2, c2, rfl⟩ := own_shape hO2
    have HP2 : Hid (PairsAt w2 w2.heap.size A2 s1.spots) := Lib.hid (Reads.of_own hO2)
    have HU2 := Lib.hid hb2
    clear hO2 hb2 c6
    go_wp2_with (fail)
    with_reducible refine (newA_any A2 c2 _ s1.spots _ rfl HP2.out q5).mono ?_
    rintro e w3 ⟨ab, rfl, hA3, hb3⟩
    have hU3 := HU2.out.trans (hb3.mono HU2.out.size)
    have hB3 := HB1.out.below hU3 HB1.out.lt
    have hW3 := HW1.out.below hU3
    have hz2 := HU2.out.size
    have c0 : w3.cell? ⟨b, 0, none⟩ = some (.int .i64 1) := hB3.cell 0
    have c7 : w3.cell? ⟨b, 7, none⟩ = some (.pointer aa) := hB3.cell 7
    have f0 := hB3.frozen 0
    have f7 := hB3.frozen 7
    have o4 : Chg (fun x => x = b) w3 ((w3.setCell ⟨b, 0, none⟩ (.int .i64 2)).setCell ⟨b, 7, none⟩ (.pointer (some ⟨ab, 0, none⟩))) := Chg.of_mv (F := fun x => x = b) ((Mv.set1 w3 b 0 _).trans_ (Mv.set1 _ b 7 _)) rfl
    have HB4 : Hid (Blk ((w3.setCell ⟨b, 0, none⟩ (.int .i64 2)).setCell ⟨b, 7, none⟩ (.pointer (some ⟨ab, 0, none⟩))) b 155 (queryC o 2 left sv (.pointer (some ⟨wb, 0, none⟩)) (.pointer (some ⟨ab, 0, none⟩)) r lv)) := Lib.hid ((hB3.set_ 0 _).set_ 7 _)
    have hWw : WalkP (fun x => (Fw x ∨ w.heap.size ≤ x) ∧ x < w1.heap.size) wb s1 w3 := HW1.out.within.below hU3
    have HW4 := Lib.hid (hWw.chg o4 (fun x hx e => (HF1.out x hx.1).2 e))
    have HA4 := Lib.hid (hA3.chg o4 (fun x hx e => by omega))
    have HM4 := Lib.hid ((HM1.out.below hU3).chg o4 (fun e => hbm e.symm) (fun g hg e => HO.out.2 g hg (e ▸ FB.out)))
    have HC4 : Hid (Chg (fun x => F x ∨ x = bm) w ((w3.setCell ⟨b, 0, none⟩ (.int .i64 2)).setCell ⟨b, 7, none⟩ (.pointer (some ⟨ab, 0, none⟩)))) := Lib.hid ((HC1.out.trans (Chg.of_below hU3)).trans (o4.mono (fun x hx => .inl (hx ▸ FB.out))))
    have d7 : ((w3.setCell ⟨b, 0, none⟩ (.int .i64 2)).setCell ⟨b, 7, none⟩ (.pointer (some ⟨ab, 0, none⟩))).cell? ⟨b, 7, none⟩ = some (.pointer (some ⟨ab, 0, none⟩)) := HB4.out.cell 7
    clear hA3 hb3 hU3 hB3 hW3 hWw o4 HM1 HC1 HP2 HU2 HB1 HW1
    go_wp2_with (fail)
    generalize (w3.setCell ⟨b, 0, none⟩ (.int .i64 2)).setCell ⟨b, 7, none⟩ (.pointer (some ⟨ab, 0, none⟩)) = w4 at HB4 HW4 HA4 HM4 HC4 d7 ⊢
    clear c0 c7 f0 f7
    obtain ⟨a1, ha1⟩ : ∃ a1, AS.init s1.spots = a1 := ⟨_, rfl⟩
    rw [ha1] at HNS2 HA4
    clear ha1
    cases hd : a1.done with
    | true =>
      have HR := Lib.hid (HNS2.out.trans (if_pos hd))
      with_reducible refine (doneA_any _ _ _ _ HA4.out).mono ?_
      rintro e w5 ⟨rfl, rfl⟩
      rw [hd]
      clear hd
      go_wp2_with (fail)
      with_reducible refine (lookedQ_any F b o b0 left wb ab _ _ s1 a1 2 sv r lv _ FB.out P1.out P4.out HB4.out HW4.out (fun x hx => (HF1.out x hx.1).2) HA4.out (fun x hx => by omega) H6.out q4 l1 l2).mono ?_
      rintro e w6 hp
      have HX := Lib.hid (hp.out HM4.out HC4.out HO.out FB.out)
      obtain ⟨rfl, _, _⟩ := hp
      go_wp2_with (fail)
      with_reducible refine (doneQ_any _ _ _ _ _ _ HX.out.1).mono ?_
      rintro e w7 ⟨rfl, rfl⟩
      go_wp2_with (fail)
      go_ret
      unfold QSPost
      rw [HR.out]
      exact ⟨rfl, HX.out⟩
    | false =>
      have HR := Lib.hid (HNS2.out.trans (if_neg (by rw [hd]; exact Bool.false_ne_true)))
      with_reducible refine (doneA_any _ _ _ _ HA4.out).mono ?_
      rintro e w5 ⟨rfl, rfl⟩
      rw [hd]
      clear hd
      have HX : Hid (QueryP (fun x => F x ∨ w.heap.size ≤ x) b o b0 (.look left s1 a1) w4) := Lib.hid ⟨sv, _, _, r, lv, .inl FB.out, P1.out, IsPtr.mk _, IsPtr.mk _, P4.out, HB4.out, wb, _, ab, _, rfl, HW4.out, fun x hx => ⟨(HF1.out x hx.1).1, (HF1.out x hx.1).2, fun e => by have := hx.2; omega⟩, rfl, HA4.out, fun x hx => ⟨.inr (by omega), by omega⟩⟩
      go_wp2_with (fail)
      with_reducible refine (doneQ_any _ _ _ _ _ _ HX.out).mono ?_
      rintro e w7 ⟨rfl, rfl⟩
      go_wp2_with (fail)
      go_ret
      unfold QSPost
      rw [HR.out]
      exact ⟨rfl, HX.out, HM4.out, HC4.out⟩
  · have e6 : (s1.next == 6) = false := by simpa using h6
    have HR := Lib.hid (HNS.out.trans (if_neg h6))
    have HX : Hid (QueryP (fun x => F x ∨ w.heap.size ≤ x) b o b0 (.walk left s1) w1) := Lib.hid ⟨sv, _, _, r, lv, .inl FB.out, P1.out, IsPtr.mk _, IsPtr.mk _, P4.out, HB1.out, wb, _, rfl, HW1.out, HF1.out⟩
    rw [e6]
    clear e6 h6
    go_wp2_with (fail)
    with_reducible refine (doneQ_any _ _ _ _ _ _ HX.out).mono ?_
    rintro e w3 ⟨rfl, rfl⟩
    go_wp2_with (fail)
    go_ret
    unfold QSPost
    rw [HR.out]
    exact ⟨rfl, HX.out, HM1.out, HC1.out⟩
theorem stepQ_any : ∀ (q : QP) (h : QueryP F b o b0 q w) (hI : q.Inv) (hf : q.Few (rdC C)), Calls Tryz.prog 84 #[.pointer (some ⟨b, 0, none⟩), .pointer (some ⟨bm, 0, none⟩)] w (QSPost F b bm o b0 q B v C size count odd ref w)
  | .seek s, h, hI, _ => stepQ0_any F b bm o b0 B v C size count odd ref w hm hO hC hw s h hI
  | .walk l s, h, hI, hf => stepQ1_any F b bm o b0 B v C size count odd ref w hm hO hC hw l s h hI hf
  | .look l s a, h, hI, hf => stepQ2_any F b bm o b0 B v C size count odd ref w hm hO hC hw l s a h hI hf
  | .done l r, h, _, _ => stepQ3_any F b bm o b0 B v C size count odd ref w hm l r h
end
/- The laws of query: results alike; a question alone; chapter 25's examples. -/

set_option maxHeartbeats 2000000 in
set_option maxRecDepth 100000 in
theorem resultsSame_any (why key val n : Int) (found : Bool) (L : List (Int × Int)) (A A2 : Option Addr) (c c2 N N2 : Nat) (w : World) (hN : N = L.length) (hN2 : N2 = L.length) (h1 : PairsAt w w.heap.size A L) (h2 : PairsAt w w.heap.size A2 L) (hl : L.length ≤ 1000000) :
    Calls Tryz.prog 42 #[.agg #[.int .i64 why, .bool found, .int .i64 key, .int .i64 val, .int .i64 n, .slice A N c], .agg #[.int .i64 why, .bool found, .int .i64 key, .int .i64 val, .int .i64 n, .slice A2 N2 c2]] w fun e w' => e = .returned (.bool true) ∧ Below w.heap.size w w' := by
  subst hN
  subst hN2
  have H1 := Lib.hid h1
  have H2 := Lib.hid h2
  have hb : Below w.heap.size w ((w.alloc (.cells #[.int .i64 why, .bool found, .int .i64 key, .int .i64 val, .int .i64 n, .slice A L.length c] 54)).alloc (.cells #[.int .i64 why, .bool found, .int .i64 key, .int .i64 val, .int .i64 n, .slice A2 L.length c2] 54)) := ((Below.refl w.heap.size w).alloc (Nat.le_refl _) _).alloc (by simp) _
  have HQ1 : Hid (PairsAt ((w.alloc (.cells #[.int .i64 why, .bool found, .int .i64 key, .int .i64 val, .int .i64 n, .slice A L.length c] 54)).alloc (.cells #[.int .i64 why, .bool found, .int .i64 key, .int .i64 val, .int .i64 n, .slice A2 L.length c2] 54)) ((w.alloc (.cells #[.int .i64 why, .bool found, .int .i64 key, .int .i64 val, .int .i64 n, .slice A L.length c] 54)).alloc (.cells #[.int .i64 why, .bool found, .int .i64 key, .int .i64 val, .int .i64 n, .slice A2 L.length c2] 54)).heap.size A L) := Lib.hid ((H1.out.below hb).more hb.size)
  have HQ2 : Hid (PairsAt ((w.alloc (.cells #[.int .i64 why, .bool found, .int .i64 key, .int .i64 val, .int .i64 n, .slice A L.length c] 54)).alloc (.cells #[.int .i64 why, .bool found, .int .i64 key, .int .i64 val, .int .i64 n, .slice A2 L.length c2] 54)) ((w.alloc (.cells #[.int .i64 why, .bool found, .int .i64 key, .int .i64 val, .int .i64 n, .slice A L.length c] 54)).alloc (.cells #[.int .i64 why, .bool found, .int .i64 key, .int .i64 val, .int .i64 n, .slice A2 L.length c2] 54)).heap.size A2 L) := Lib.hid ((H2.out.below hb).more hb.size)
  have HB := Lib.hid hb
  clear h1 h2 hb
  go_enter Tryz.func42, Tryz.ntmps42
  go_wp2_with (fail)
  generalize (w.alloc (.cells #[.int .i64 why, .bool found, .int .i64 key, .int .i64 val, .int .i64 n, .slice A L.length c] 54)).alloc (.cells #[.int .i64 why, .bool found, .int .i64 key, .int .i64 val, .int .i64 n, .slice A2 L.length c2] 54) = w2 at HQ1 HQ2 HB ⊢
  with_reducible refine (pairsSame_any A A2 c c2 _ _ _ L _ rfl rfl HQ1.out HQ2.out hl).mono ?_
  rintro e w3 ⟨rfl, hd⟩
  have HB3 := Lib.hid (HB.out.trans (drawn_bl hd _))
  clear hd HB HQ1 HQ2
  go_wp2_with (fail)
  go_ret
  exact ⟨rfl, HB3.out⟩
structure AskedQ (R : Int → Int) (o : Op) (b0 : Int) (S : Nat) (st : Nat → QP) (left : Int) (r : Res) : Prop where
  zero : st 0 = QP.init o b0
  step : ∀ t, (st t).step o b0 R = st (t + 1)
  inv : ∀ t, (st t).Inv
  fewq : ∀ t, t < S → (st t).Few R
  going : ∀ t, t < S → (st t).next ≠ 3
  done : st S = .done left r
  few : S ≤ 1000
  list : r.list.length ≤ 1000000
def RunIn (b lo lm : Nat) (M : List Int) (size : Int) (o : Op) (b0 : Int) (fb S : Nat) (st : Nat → QP) (w0 : World) (nv : Value) (wr : World) : Prop := ∃ t : Nat, t ≤ S ∧ nv = .int .i64 (t : Int) ∧ lo ≤ wr.heap.size ∧ QueryP (fun x => lo ≤ x) fb o b0 (st t) wr ∧ MemL b lm M size wr ∧ Chg (fun x => x = b) w0 wr
def RunPost (b : Nat) (M : List Int) (size : Int) (S : Nat) (r : Res) (w : World) (e : Ending) (w' : World) : Prop := ∃ A c, e = .returned (.tuple #[.agg #[.int .i64 r.why, .bool r.found, .int .i64 r.key, .int .i64 r.val, .int .i64 r.n, .slice A r.list.length c], .int .i64 (S : Int)]) ∧ w'.ownsRow w.heap.size 52 2 (.slice A r.list.length c) r.list.length (cellsP r.list) ∧ MemC b M size w' ∧ Chg (fun x => x = b) w w'
set_option maxHeartbeats 2000000 in
set_option maxRecDepth 100000 in
theorem runQ_any (b : Nat) (M : List Int) (size : Int) (o : Op) (b0 : Int) (S : Nat) (st : Nat → QP) (left : Int) (r : Res) (w : World) (hM : MemC b M size w) (hl : M.length ≤ 1000000) (hw : ∀ x ∈ M, -9223372036854775808 ≤ x ∧ x ≤ 9223372036854775807) (hst : AskedQ (rdC M) o b0 S st left r) :
    Calls Tryz.prog 41 #[.pointer (some ⟨b, 0, none⟩), .agg #[.int .i64 o.kind, .int .i64 o.key, .int .i64 o.val], .int .i64 b0] w (RunPost b M size S r w) := by
  have hS5 := hst.few
  have HM := Lib.hid hM
  have HW := Lib.hid hw
  have HST := Lib.hid hst
  clear hM hw hst
  have hz1 : (w.alloc (.cells #[.int .i64 o.kind, .int .i64 o.key, .int .i64 o.val] 48)).heap.size = w.heap.size + 1 := by simp
  have HRb : Hid (Blk ((w.alloc (.cells #[.int .i64 o.kind, .int .i64 o.key, .int .i64 o.val] 48)).alloc (.cells #[.int .i64 0, .bool false, .int .i64 0, .int .i64 0, .int .i64 0, .slice none 0 0] 54)) (w.heap.size + 1) 54 #[.int .i64 0, .bool false, .int .i64 0, .int .i64 0, .int .i64 0, .slice none 0 0]) := Lib.hid (by
    have := Blk.new (w.alloc (.cells #[.int .i64 o.kind, .int .i64 o.key, .int .i64 o.val] 48)) 54 #[.int .i64 0, .bool false, .int .i64 0, .int .i64 0, .int .i64 0, .slice none 0 0]
    rw [hz1] at this
    exact this)
  have HU2 : Hid (Below w.heap.size w ((w.alloc (.cells #[.int .i64 o.kind, .int .i64 o.key, .int .i64 o.val] 48)).alloc (.cells #[.int .i64 0, .bool false, .int .i64 0, .int .i64 0, .int .i64 0, .slice none 0 0] 54))) := Lib.hid (((Below.refl w.heap.size w).alloc (Nat.le_refl _) _).alloc (by rw [hz1]; omega) _)
  clear hz1
  go_enter Tryz.func41, Tryz.ntmps41
  go_wp2_with (fail)
  generalize (w.alloc (.cells #[.int .i64 o.kind, .int .i64 o.key, .int .i64 o.val] 48)).alloc (.cells #[.int .i64 0, .bool false, .int .i64 0, .int .i64 0, .int .i64 0, .slice none 0 0] 54) = w2 at HRb HU2 ⊢
  with_reducible refine (newQ_any o b0 _).mono ?_
  rintro e w3 ⟨fb, rfl, hq, hb3⟩
  have hbl := HM.out.lt
  have HQ3 : Hid (QueryP (fun x => w2.heap.size ≤ x) fb o b0 (st 0) w3) := Lib.hid (by rw [HST.out.zero]; exact hq)
  have HM3 := Lib.hid ((HM.out.l.below HU2.out).below hb3)
  have hz2 := HU2.out.size
  have HC3 : Hid (Chg (fun x => x = b) w2 w3) := Lib.hid (Chg.of_below hb3)
  have hz3 := hb3.size
  clear hq hb3
  go_wp2_with (fail)
  go_loopw [9] (fun nv wr => RunIn b w2.heap.size w.heap.size M size o b0 fb S st w2 nv wr) (fun nv _ => 2000 - (intOf nv).toNat)
  case atStart => unfold RunIn; exact ⟨0, by omega, rfl, hz3, HQ3.out, HM3.out, HC3.out⟩
  case round =>
    obtain ⟨t, t1, rfl, hlw, hQ, hC, hB⟩ := hrel
    clear HQ3 HM3 HC3 hz3
    have HC := Lib.hid hC
    have HQ := Lib.hid hQ
    have HB := Lib.hid hB
    clear hC hQ hB
    have ht60 : (t : Int) < 100000 := by omega
    by_cases hlt : t < S
    · have e3 : ((st t).next == 3) = false := by simpa using HST.out.going t hlt
      have HI := Lib.hid (HST.out.inv t)
      have HFw := Lib.hid (HST.out.fewq t hlt)
      go_wp2_with (fail)
      with_reducible refine (doneQ_any _ _ _ _ _ _ HQ.out).mono ?_
      rintro e w4 ⟨rfl, rfl⟩
      rw [e3]
      clear e3
      obtain ⟨v, count, odd, hm, hb, hv⟩ := HC.out
      have HMm := Lib.hid hm
      have hO : Off (fun x => w2.heap.size ≤ x) b v := ⟨by omega, fun g hg => by have := hv g hg; omega⟩
      have HO := Lib.hid hO
      have HV := Lib.hid hv
      clear hm hv hO
      go_wp2_with (fail)
      with_reducible refine (stepQ_any _ fb b o b0 b v M size count odd 0 _ HMm.out HO.out hl (bd_of HW.out) (st t) HQ.out HI.out HFw.out).mono ?_
      rintro e w5 ⟨rfl, hq5, hm5, hc5⟩
      rw [HST.out.step t] at hq5
      have HQ5 : Hid (QueryP (fun x => w2.heap.size ≤ x) fb o b0 (st (t + 1)) w5) := Lib.hid (hq5.mono (fun x hx => hx.elim id (fun h => by omega)))
      have HM5 : Hid (MemL b w.heap.size M size w5) := Lib.hid ⟨v, _, _, hm5, hb, HV.out⟩
      have HC5 := Lib.hid (HB.out.grow (hc5.mono (fun x hx => hx.symm)) (fun x hx => hx))
      have hz5 : w2.heap.size ≤ w5.heap.size := Nat.le_trans hlw hc5.size
      clear hq5 hm5 hc5 HQ HC HB HMm hlw hb
      go_wp2_with (fail)
      go_roundw
      case rel => unfold RunIn; exact ⟨t + 1, by omega, by go_num, hz5, HQ5.out, HM5.out, HC5.out⟩
      case measure => simp [intOf]; omega
    · have et : t = S := by omega
      subst et
      have hd := HST.out.done
      have HQd : Hid (QueryP (fun x => w2.heap.size ≤ x) fb o b0 (.done left r) wr) := Lib.hid (hd ▸ HQ.out)
      clear hd HQ
      go_wp2_with (fail)
      with_reducible refine (doneQ_any _ _ _ _ _ _ HQd.out).mono ?_
      rintro e w4 ⟨rfl, rfl⟩
      rw [show ((QP.done left r).next == 3) = true from rfl]
      go_wp2_with (fail)
      with_reducible refine (resultQ_any _ fb o b0 left r _ HQd.out HST.out.list).mono ?_
      rintro e w5 ⟨lv, rfl, hO, hb5⟩
      obtain ⟨A5, c5, rfl⟩ := own_shape hO
      have hR5 := (HB.out.blk HRb.out (fun e => by omega)).below hb5 (HB.out.blk HRb.out (fun e => by omega)).lt
      have x0 : w5.cell? ⟨w.heap.size + 1, 0, none⟩ = some (.int .i64 0) := hR5.cell 0
      have x1 : w5.cell? ⟨w.heap.size + 1, 1, none⟩ = some (.bool false) := hR5.cell 1
      have x2 : w5.cell? ⟨w.heap.size + 1, 2, none⟩ = some (.int .i64 0) := hR5.cell 2
      have x3 : w5.cell? ⟨w.heap.size + 1, 3, none⟩ = some (.int .i64 0) := hR5.cell 3
      have x4 : w5.cell? ⟨w.heap.size + 1, 4, none⟩ = some (.int .i64 0) := hR5.cell 4
      have x5 : w5.cell? ⟨w.heap.size + 1, 5, none⟩ = some (.slice none 0 0) := hR5.cell 5
      have f0 := hR5.frozen 0
      have f1 := hR5.frozen 1
      have f2 := hR5.frozen 2
      have f3 := hR5.frozen 3
      have f4 := hR5.frozen 4
      have f5 := hR5.frozen 5
      have HO5 := Lib.hid hO
      have HM5 := Lib.hid (HC.out.below hb5)
      have HC5 := Lib.hid (((Chg.of_below (F := fun x => x = b) HU2.out).trans HB.out).trans (Chg.of_below hb5))
      have HR5 := Lib.hid hR5
      have HS5 : Hid (w.heap.size + 2 ≤ w2.heap.size) := Lib.hid HRb.out.lt
      clear hO hb5 hR5 HQd HB HC HRb HU2
      unfold resV
      go_wp2_with (fail)
      refine bodyPost_ret (v := .tuple #[.agg #[.int .i64 r.why, .bool r.found, .int .i64 r.key, .int .i64 r.val, .int .i64 r.n, .slice A5 r.list.length c5], .int .i64 (t : Int)]) (by simp [results, Tryz.results41, go_sem, x0, x1, x2, x3, x4, x5]) rfl ?_
      have hc : Chg (fun x => x = w.heap.size + 1) w5 _ := Chg.of_mv (F := fun x => x = w.heap.size + 1) ((((((Mv.set1 w5 (w.heap.size + 1) 0 (.int .i64 r.why)).trans_ (Mv.set1 _ (w.heap.size + 1) 1 (.bool r.found))).trans_ (Mv.set1 _ (w.heap.size + 1) 2 (.int .i64 r.key))).trans_ (Mv.set1 _ (w.heap.size + 1) 3 (.int .i64 r.val))).trans_ (Mv.set1 _ (w.heap.size + 1) 4 (.int .i64 r.n))).trans_ (Mv.set1 _ (w.heap.size + 1) 5 (.slice A5 r.list.length c5))) rfl
      have h5 := HS5.out
      obtain ⟨v, cc, oo, hm, hb, hv⟩ := HM5.out
      exact ⟨A5, c5, rfl, own_mono (hc.own HO5.out (fun g hg e => by have := (HO5.out.lt g hg).1; omega)) (by omega), ⟨v, cc, oo, hm.chg hc (by omega) (fun g hg e => by have := hv g hg; omega)⟩, HC5.out.grow hc (fun x hx => .inr (by omega))⟩
end Go.Proofs.YtblajeildolloaaGreat
