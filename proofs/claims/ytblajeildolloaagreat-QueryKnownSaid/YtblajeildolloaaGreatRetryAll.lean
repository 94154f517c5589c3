import Derived.Test.YtblajeildolloaaGreatQueryAll
import Derived.Test.YtblajeildolloaaGreatPlantM
import Derived.Test.YtblajeildolloaaGreatMemW
import Derived.Test.YtblajeildolloaaGreatPairs
import Derived.Test.YtblajeildolloaaGreatWide
import Derived.Test.YtblajeildolloaaGreatCut
import Derived.Test.YtblajeildolloaaGreatPlant
import Derived.OpenShut
import Derived.Test.YtblajeildolloaaGreatRowWords
namespace Go.Proofs.YtblajeildolloaaGreat
set_option linter.unusedVariables false
set_option linter.unusedSimpArgs false
open Go.RowKit
/- A question whose slots are turned: as numbers. No program's text. -/

def bdI (x : Int) : Prop := -9223372036854775808 ≤ x ∧ x ≤ 9223372036854775807
def PB (l : List (Int × Int)) : Prop := ∀ p ∈ l, bdI p.1 ∧ bdI p.2
theorem PB.at_ {l : List (Int × Int)} (h : PB l) (i : Nat) : bdI (l.getD i (0, 0)).1 ∧ bdI (l.getD i (0, 0)).2 := by
  by_cases hi : i < l.length
  · have e : l.getD i (0, 0) = l[i] := by simp [List.getD, hi]
    rw [e]
    exact h _ (List.getElem_mem hi)
  · have e : l.getD i (0, 0) = (0, 0) := by simp [List.getD, List.getElem?_eq_none (by omega : l.length ≤ i)]
    rw [e]
    unfold bdI; decide
theorem PB.key {l : List (Int × Int)} (h : PB l) (i : Nat) : bdI (pkey l i) := (h.at_ i).1
theorem PB.val {l : List (Int × Int)} (h : PB l) (i : Nat) : bdI (pval l i) := (h.at_ i).2
theorem keysTo_bd {l : List (Int × Int)} (h : PB l) : ∀ i, ∀ x ∈ keysTo l i, bdI x
  | 0, x, hx => by cases hx
  | 1, x, hx => by cases hx
  | i + 2, x, hx => by
    unfold keysTo at hx
    rcases List.mem_append.1 hx with hx | hx
    · exact keysTo_bd h (i + 1) x hx
    · rw [List.mem_singleton.1 hx]; exact h.key _
theorem layF_word : ∀ f C l, 0 ≤ (layF f C l).2 ∧ (layF f C l).2 ≤ 524293
  | 0, C, l => by unfold layF; omega
  | f + 1, C, l => by
    unfold layF
    split
    · exact wOf_bd _ _
    · split <;> exact wOf_bd _ _
theorem layF_bd : ∀ (f : Nat) (C : List Int) (l : List (Int × Int)), (∀ x ∈ C, bdI x) → PB l → l.length ≤ 16384 → ∀ x ∈ (layF f C l).1, bdI x
  | 0, C, l, hC, _, _ => hC
  | f + 1, C, l, hC, hl, hn => by
    unfold layF
    split
    · intro x hx
      rcases List.mem_append.1 hx with hx | hx
      · exact hC x hx
      · have : x = 0 := by simpa using hx
        rw [this]; unfold bdI; decide
    · split
      · intro x hx
        rcases List.mem_append.1 hx with hx | hx
        · exact hC x hx
        · rcases List.mem_cons.1 hx with rfl | hx
          · exact hl.key 0
          · have : x = _ := List.mem_singleton.1 hx
            rw [this]; exact hl.val 0
      · rename_i c0 c1
        have hd := degreeI_bd (n := l.length) (by omega) (by omega)
        have key : ∀ i, (∀ x ∈ (layTo (layF f) C l i).1, bdI x) ∧ ∀ x ∈ (layTo (layF f) C l i).2, bdI x := by
          intro i
          induction i with
          | zero => exact ⟨hC, fun x hx => by cases hx⟩
          | succ i ih =>
            refine ⟨layF_bd f _ _ ih.1 (fun p hp => hl p (List.mem_of_mem_drop (List.mem_of_mem_take hp))) (by simp; omega), fun x hx => ?_⟩
            rcases List.mem_append.1 hx with hx | hx
            · exact ih.2 x hx
            · have e : x = _ := List.mem_singleton.1 hx
              have := layF_word f (layTo (layF f) C l i).1 ((l.drop (fromI l.length i).toNat).take (sizeI l.length i).toNat)
              rw [e]; unfold bdI; omega
        intro x hx
        rcases List.mem_append.1 hx with hx | hx
        · exact (key _).1 x hx
        · unfold innerW at hx
          rcases List.mem_append.1 hx with hx | hx
          · rcases List.mem_append.1 hx with hx | hx
            · rw [layTo_words] at hx
              simp only [List.mem_cons, List.not_mem_nil, or_false] at hx
              unfold bdI
              omega
            · exact keysTo_bd hl _ x hx
          · exact (key _).2 x hx
theorem layF_pre : ∀ (f : Nat) (C : List Int) (l : List (Int × Int)), ∃ X, (layF f C l).1 = C ++ X
  | 0, C, l => ⟨[], by simp [layF]⟩
  | f + 1, C, l => by
    unfold layF
    split
    · exact ⟨_, rfl⟩
    · split
      · exact ⟨_, rfl⟩
      · have key : ∀ i, ∃ X, (layTo (layF f) C l i).1 = C ++ X := by
          intro i
          induction i with
          | zero => exact ⟨[], by simp [layTo]⟩
          | succ i ih =>
            obtain ⟨X, hX⟩ := ih
            obtain ⟨Y, hY⟩ := layF_pre f (layTo (layF f) C l i).1 ((l.drop (fromI l.length i).toNat).take (sizeI l.length i).toNat)
            exact ⟨X ++ Y, by unfold layTo; rw [hY, hX, List.append_assoc]⟩
        obtain ⟨X, hX⟩ := key (degreeI l.length).toNat
        exact ⟨X ++ _, by rw [hX, List.append_assoc]⟩
theorem rdC_pre {C X : List Int} {a : Nat} (h1 : 1 ≤ a) (h2 : a ≤ C.length) : rdC (C ++ X) a = rdC C a := by
  rw [rdC_in h1 h2, rdC_in h1 (by simp; omega)]
  unfold keyAt
  simp [List.getD, List.getElem?_append_left (by omega : a - 1 < C.length)]
theorem rdC_wr {C : List Int} {a : Nat} {x : Int} (h1 : 1 ≤ a) (h2 : a ≤ C.length) : rdC (wrC C a x) a = x := by
  rw [rdC_in h1 (by rw [wrC_len]; exact h2)]
  unfold wrC
  rw [if_pos (by omega)]
  unfold keyAt
  rw [Int.toNat_natCast, List.getD, List.getElem?_set_self (by omega)]
  rfl
theorem rdC_wr_ne {C : List Int} {a b : Nat} {x : Int} (ha : 1 ≤ a) (h1 : 1 ≤ b) (h2 : b ≤ C.length) (hne : a ≠ b) : rdC (wrC C a x) b = rdC C b := by
  rw [rdC_in h1 (by rw [wrC_len]; exact h2), rdC_in h1 h2]
  unfold wrC
  split
  · unfold keyAt
    simp [List.getD]
    rw [List.getElem?_set_ne (by omega)]
  · rfl
/-- A memory whose record at Base is Begin's, with so many cells. -/
structure Good (C : List Int) : Prop where
  deg : rdC C 1 = 1
  six : 7 ≤ C.length
  bd : ∀ x ∈ C, -9223372036854775808 ≤ x ∧ x ≤ 9223372036854775807
/-- An Empty of its own is laid behind it, and stands in Root. -/
def turnC (C : List Int) : List Int := wrC (C ++ [0]) 6 (wOf 1 ((C.length : Int) + 1))
theorem turnC_len (C : List Int) : (turnC C).length = C.length + 1 := by unfold turnC; rw [wrC_len]; simp
theorem Good.wr {C : List Int} (h : Good C) {x : Int} (hx : bdI x) : Good (wrC C 6 x) :=
  ⟨(rdC_wr_ne (a := 6) (b := 1) (by omega) (by omega) (by have := h.six; omega) (by omega)).trans h.deg, by rw [wrC_len]; exact h.six, wrC_bd h.bd hx.1 hx.2⟩
theorem Good.app {C X : List Int} (h : Good C) (hX : ∀ x ∈ X, bdI x) : Good (C ++ X) :=
  ⟨(rdC_pre (a := 1) (by omega) (by have := h.six; omega)).trans h.deg, by have := h.six; simp; omega, fun x hx => by
    rcases List.mem_append.1 hx with hx | hx
    · exact h.bd x hx
    · exact hX x hx⟩
theorem Good.turn {C : List Int} (h : Good C) : Good (turnC C) := by
  have := wOf_bd 1 ((C.length : Int) + 1)
  exact (h.app (X := [0]) (by simp [bdI])).wr ⟨by omega, by omega⟩
theorem turnC_six {C : List Int} (h : Good C) : rdC (turnC C) 6 = wOf 1 ((C.length : Int) + 1) := rdC_wr (a := 6) (by omega) (by have := h.six; simp; omega)
theorem kind_empty {a : Int} (h1 : 1 ≤ a) (h2 : a ≤ 65536) : wOf 1 a = a * 8 + 1 ∧ wKind (wOf 1 a) = 1 := by
  have e : wOf 1 a = a * 8 + 1 := if_pos (mayB_mk (by omega) (by omega) h1 h2)
  refine ⟨e, ?_⟩
  rw [e]
  unfold wKind wB
  have h3 : (a * 8 + 1) % 8 = 1 := by omega
  have h4 : (a * 8 + 1) / 8 = a := by omega
  rw [h3, h4, mayB_mk (by omega) (by omega) h1 h2, decide_eq_true (by omega : 0 ≤ a * 8 + 1)]
  rfl
/- A question whose slots are turned: the machine's steps. No program's text. -/

def rsA (k : Int) : RS := ⟨6, 1, k, 1, 1, 0, 0⟩
def wsA (lo hi : Int) (back : Bool) (most : Int) (values : Bool) : WS := ⟨1, lo, hi, back, values, most, 1, rsA (if back = true then hi else lo), some (PS.init 6), [(1, 1, 0)], 0, 0, [], []⟩
def wsB (lo hi : Int) (back : Bool) (most : Int) (values : Bool) (x : Int) : WS := ⟨6, lo, hi, back, values, most, 1, rsA (if back = true then hi else lo), some ⟨3, 6, 0, x⟩, [], wAt x, 0, [], [(6, x)]⟩
theorem slot6 : childAtI 1 1 0 = 6 := by decide
theorem route_a {R : Int → Int} (h : R 1 = 1) (k : Int) : (RS.init 1 k).step R = rsA k := by
  rw [RS.step0 rfl]
  show (if R 1 < 2 then _ else _) = _
  rw [if_pos (by rw [h]; decide)]
  show RS.mk 6 1 k (R 1) 1 0 0 = _
  rw [h]; rfl
theorem peek_b {R : Int → Int} {x : Int} (h : R 6 = x) (hk : wKind x = 1) : (PS.init 6).step R = ⟨3, 6, 0, x⟩ := by
  rw [PS.step0 rfl]
  show (if wKind (R 6) = 5 then _ else _) = _
  rw [h, if_neg (by omega)]
  show PS.mk 3 6 0 (R 6) = _
  rw [h]
theorem ws_a {R : Int → Int} (h : R 1 = 1) {lo hi most : Int} {back values : Bool} : (WS.init lo hi back most values).step R = wsA lo hi back most values := by
  have e : (WS.init lo hi back most values).route.step R = rsA (if back = true then hi else lo) := route_a h _
  rw [WS.step0e rfl (by rw [e]; rfl), e]
  rfl
theorem ws_b {R : Int → Int} {x : Int} (h : R 6 = x) (hk : wKind x = 1) {lo hi most : Int} {back values : Bool} : (wsA lo hi back most values).step R = wsB lo hi back most values x := by
  have e := peek_b h hk
  rw [WS.step1e (p := PS.init 6) rfl rfl (by rw [e]), e]
  unfold WS.meet
  rw [if_neg (by show ¬ wKind x = 2; omega), if_neg (by show ¬ wKind x = 3; omega), if_neg (by show ¬ wKind x = 4; omega)]
  cases back <;> rfl
theorem way_form (o : Op) : ∃ lo hi back most values, o.way = WS.init lo hi back most values := by
  unfold Op.way
  repeat' split
  all_goals exact ⟨_, _, _, _, _, rfl⟩
/-- Where the question stands; how many accesses it has yet. -/
inductive Ph (o : Op) (R : Int → Int) : QP → Nat → Prop
  | way (left : Nat) (h : 1 ≤ left) : Ph o R (.walk left o.way) (3 * left)
  | walk (left : Nat) (h : 1 ≤ left) (lo hi : Int) (back : Bool) (most : Int) (values : Bool) : Ph o R (.walk left (wsA lo hi back most values)) (3 * (left - 1) + 2)
  | look (left : Nat) (h : 1 ≤ left) (lo hi : Int) (back : Bool) (most : Int) (values : Bool) (x : Int) (hx : R 6 ≠ x) : Ph o R (.look left (wsB lo hi back most values x) (AS.init [(6, x)])) (3 * (left - 1) + 1)
theorem Ph.few {o : Op} {R : Int → Int} {q : QP} {n : Nat} (h : Ph o R q n) (h1 : R 1 = 1) (hk : n % 3 ≠ 0 → wKind (R 6) = 1) : q.Few R := by
  cases h with
  | way left h =>
    obtain ⟨lo, hi, back, most, values, e⟩ := way_form o
    have a := ws_a (R := R) h1 (lo := lo) (hi := hi) (back := back) (most := most) (values := values)
    refine ⟨?_, ?_, ?_, ?_, ?_⟩ <;> rw [e]
    · simp [WS.init]
    · simp [WS.init]
    · simp [WS.init]
    · rw [a]; simp [wsA]
    · rw [a]; simp [wsA]
  | walk left h lo hi back most values =>
    have a := ws_b (R := R) rfl (hk (by omega)) (lo := lo) (hi := hi) (back := back) (most := most) (values := values)
    refine ⟨?_, ?_, ?_, ?_, ?_⟩
    · simp [wsA]
    · simp [wsA]
    · simp [wsA]
    · rw [a]; simp [wsB]
    · rw [a]; simp [wsB]
  | look left h lo hi back most values x hx => simp [QP.Few, wsB]
theorem cast_pred {left : Nat} (h : 1 ≤ left) : ((left : Int) - 1) = ((left - 1 : Nat) : Int) := by omega
/-- One access: one less; none left: the end. R' is the memory behind it. -/
theorem Ph.step {o : Op} {b0 : Int} {R R' : Int → Int} {q : QP} {n : Nat} (h : Ph o R q n) (h1 : R 1 = 1) (hk : n % 3 ≠ 0 → wKind (R 6) = 1) (hR : n % 3 = 2 → R' 6 ≠ R 6) : (1 < n ∧ (q.step o b0 R).next ≠ 3 ∧ Ph o R' (q.step o b0 R) (n - 1)) ∨ (n = 1 ∧ q.step o b0 R = .done 0 (Res.err 9)) := by
  cases h with
  | way left h =>
    obtain ⟨lo, hi, back, most, values, e⟩ := way_form o
    refine .inl ⟨by omega, ?_⟩
    rw [QP.step_walk, e, ws_a h1, if_neg (show ¬ (wsA lo hi back most values).next = 6 from (by decide : ¬ (1 : Int) = 6))]
    refine ⟨(by decide : (1 : Int) ≠ 3), ?_⟩
    have := Ph.walk (o := o) (R := R') left h lo hi back most values
    rw [show 3 * left - 1 = 3 * (left - 1) + 2 by omega]
    exact this
  | walk left h lo hi back most values =>
    refine .inl ⟨by omega, ?_⟩
    rw [QP.step_walk, ws_b rfl (hk (by omega)), if_pos (show (wsB lo hi back most values (R 6)).next = 6 from rfl), if_neg (show ¬ (AS.init (wsB lo hi back most values (R 6)).spots).done = true from Bool.false_ne_true)]
    refine ⟨(by decide : (2 : Int) ≠ 3), ?_⟩
    exact Ph.look left h lo hi back most values _ (hR (by omega))
  | look left h lo hi back most values x hx =>
    have e := peek_b (R := R) rfl (hk (by omega))
    have ea : (AS.init [(6, x)]).step R = ⟨[(6, x)], some ⟨3, 6, 0, R 6⟩, false, true⟩ := by
      rw [AS.step_no (s := AS.init [(6, x)]) (p := PS.init 6) (x := (6, x)) (l := []) rfl rfl rfl (by rw [e]) (by rw [e]; exact hx), e]
      rfl
    rw [QP.step_look, ea, if_pos (show (AS.mk [(6, x)] (some ⟨3, 6, 0, R 6⟩) false true).done = true from rfl)]
    unfold QP.looked
    rw [if_neg (show ¬ (AS.mk [(6, x)] (some ⟨3, 6, 0, R 6⟩) false true).same = true from Bool.false_ne_true)]
    by_cases h0 : left = 1
    · subst h0
      refine .inr ⟨rfl, ?_⟩
      rw [if_pos (by decide)]
      rfl
    · refine .inl ⟨by omega, ?_⟩
      rw [if_neg (by omega), cast_pred h]
      refine ⟨(by decide : (1 : Int) ≠ 3), ?_⟩
      have := Ph.way (o := o) (R := R') (left - 1) (by omega)
      rw [show 3 * (left - 1) + 1 - 1 = 3 * (left - 1) by omega]
      exact this
def ssA (k : Int) : SS := ⟨1, k, 1, rsA k, some (PS.init 6), 0, 0, false⟩
theorem seek_a {o : Op} {b0 : Int} {R : Int → Int} (h : R 1 = 1) (k : Int) : (QP.seek (SS.init k)).step o b0 R = .seek (ssA k) := by
  have e : (SS.init k).route.step R = rsA k := route_a h k
  rw [QP.step_seek, SS.step0e rfl (by rw [e]; rfl), e]
  rfl
theorem seek_b {o : Op} {b0 : Int} {R : Int → Int} (hk : wKind (R 6) = 1) (k : Int) : (QP.seek (ssA k)).step o b0 R = .done b0 Res.none := by
  have e := peek_b (R := R) rfl hk
  have em : (ssA k).step R = ⟨5, k, 1, rsA k, some ⟨3, 6, 0, R 6⟩, wAt (R 6), 0, false⟩ := by
    rw [SS.step1e (p := PS.init 6) rfl rfl (by rw [e]), e]
    unfold SS.meet
    rw [if_neg (by show ¬ wKind (R 6) = 2; omega), if_neg (by show ¬ wKind (R 6) = 3; omega), if_neg (by show ¬ wKind (R 6) = 4; omega)]
    rfl
  rw [QP.step_seek, em]
  rfl
theorem Ph.going {o : Op} {R : Int → Int} {q : QP} {n : Nat} (h : Ph o R q n) : q.next ≠ 3 ∧ 1 ≤ n := by
  cases h with
  | way left h => exact ⟨(by decide : (1 : Int) ≠ 3), by omega⟩
  | walk left h lo hi back most values => exact ⟨(by decide : (1 : Int) ≠ 3), by omega⟩
  | look left h lo hi back most values x hx => exact ⟨(by decide : (2 : Int) ≠ 3), by omega⟩
/-- The question on its way to its end. -/
inductive Pl (o : Op) (b0 : Int) (R : Int → Int) : Bool → QP → Nat → Prop
  | ph (q : QP) (N : Nat) (h : Ph o R q N) : Pl o b0 R false q N
  | s0 : Pl o b0 R true (.seek (SS.init o.key)) 3
  | s1 : Pl o b0 R true (.seek (ssA o.key)) 1
def finQ (b0 : Int) (lk : Bool) : QP := if lk = true then .done b0 Res.none else .done 0 (Res.err 9)
theorem Pl.going {o : Op} {b0 : Int} {R : Int → Int} {lk : Bool} {q : QP} {n : Nat} (h : Pl o b0 R lk q n) : q.next ≠ 3 ∧ 1 ≤ n := by
  cases h with
  | ph q N h => exact h.going
  | s0 => exact ⟨(by decide : (0 : Int) ≠ 3), by decide⟩
  | s1 => exact ⟨(by decide : (0 : Int) ≠ 3), by decide⟩
theorem Pl.few {o : Op} {b0 : Int} {R : Int → Int} {lk : Bool} {q : QP} {n : Nat} (h : Pl o b0 R lk q n) (h1 : R 1 = 1) (hk : n % 3 ≠ 0 → wKind (R 6) = 1) : q.Few R := by
  cases h with
  | ph q N h => exact h.few h1 hk
  | s0 => exact trivial
  | s1 => exact trivial
theorem Pl.step {o : Op} {b0 : Int} {R R' : Int → Int} {lk : Bool} {q : QP} {n : Nat} (h : Pl o b0 R lk q n) (h1 : R 1 = 1) (hk : n % 3 ≠ 0 → wKind (R 6) = 1) (hR : n % 3 = 2 → R' 6 ≠ R 6) : (∃ m, 1 < n ∧ (q.step o b0 R).next ≠ 3 ∧ Pl o b0 R' lk (q.step o b0 R) m ∧ m < n ∧ (lk = false → m + 1 = n)) ∨ (n = 1 ∧ q.step o b0 R = finQ b0 lk) := by
  cases h with
  | ph q N h =>
    rcases h.step (b0 := b0) h1 hk hR with ⟨a, b, c⟩ | ⟨a, b⟩
    · exact .inl ⟨_, a, b, .ph _ _ c, by omega, fun _ => by omega⟩
    · exact .inr ⟨a, b⟩
  | s0 =>
    rw [seek_a h1]
    exact .inl ⟨1, by decide, (by decide : (0 : Int) ≠ 3), .s1, by decide, fun e => by cases e⟩
  | s1 =>
    rw [seek_b (hk (by decide))]
    exact .inr ⟨rfl, rfl⟩
theorem Pl.init {o : Op} {b0 : Nat} {R : Int → Int} (h1 : 1 ≤ b0) (h2 : b0 ≤ 64) (k4 : 4 ≤ o.kind) (k10 : o.kind ≤ 10) : Pl o b0 R (decide (o.kind = 4)) (QP.init o b0) (if o.kind = 4 then 3 else 3 * b0) := by
  unfold QP.init
  rw [if_neg (by omega), if_neg (by omega)]
  by_cases k : o.kind = 4
  · rw [if_pos k, if_pos k, decide_eq_true k]
    exact .s0
  · rw [if_neg k, if_neg k, decide_eq_false k]
    exact .ph _ _ (Ph.way b0 h1)
/- ordinateref1.Put: its list is new. Printed from XPairs. -/

def SomePairsO (L : List (Int × Int)) (w : World) (e : Ending) (w' : World) : Prop := ∃ A c, e = .returned (.slice A L.length c) ∧ L.length ≤ c ∧ PairsAt w' w'.heap.size A L ∧ Below w.heap.size w w' ∧ ∀ ad, A = some ad → w.heap.size ≤ ad.block
theorem SomePairsO.of_own {L : List (Int × Int)} {w w' : World} {et : TypeId} {v : Value} {n : Nat} (h : w'.ownsRow w.heap.size et 2 v n (cellsP L)) (hb : Below w.heap.size w w') : SomePairsO L w (.returned v) w' := by
  have hn : n = L.length := by have := h.1; rw [cellsP_len] at this; omega
  subst hn
  rcases h.2 with ⟨rfl, h0⟩ | ⟨g, cap, cur, rfl, hg, _, hle, _⟩
  · have : L = [] := List.eq_nil_of_length_eq_zero h0
    subst this
    exact ⟨none, 0, rfl, Nat.le_refl _, Reads.none_, hb, fun ad h => by cases h⟩
  · exact ⟨_, cap, rfl, hle, Reads.of_own h, hb, fun ad e => by injection e with e; subst e; exact hg⟩
section
attribute [local go_sem] run_storeCells_nil Sem.run_pure Array.toList_empty
set_option maxHeartbeats 4000000 in
set_option maxRecDepth 100000 in
theorem putO_any (A : Option Addr) (c : Nat) (L : List (Int × Int)) (k v : Int) (w : World) (hq : PairsAt w w.heap.size A L) (hl : L.length ≤ 80) (hc : L.length ≤ c) :
    Calls Tryz.prog 87 #[.slice A L.length c, .int .i64 k, .int .i64 v] w (SomePairsO (putP L k v) w) := by
  obtain ⟨i0, hi0, hz0, hz1, hz2⟩ := info_parts info_pair
  have hn := placeP_le L k
  have e1 : ((placeP L k : Int) + 1).toNat = placeP L k + 1 := by omega
  rcases A with _ | ad
  · have hL : L = [] := by
      rcases Nat.eq_zero_or_pos L.length with g | g
      · exact List.eq_nil_of_length_eq_zero g
      · obtain ⟨ad, h, _⟩ := hq.2 g
        cases h
    subst hL
    have ep : placeP [] k = 0 := rfl
    have HE := Lib.hid (show putP [] k v = [(k, v)] from rfl)
    clear e1
    go_enter Tryz.func87, Tryz.ntmps87
    go_wp2_with (fail)
    refine (place_any none c [] k w hq hl).mono ?_
    rintro e V1 ⟨rfl, hd⟩
    have hge := (drawn_facts hd).2
    have hB1 := (drawn_facts hd).1
    clear hq hd
    rw [ep]
    have hc0 : 0 ≤ c := hc
    go_wp2_with (first | (at_builtin; refine wpList_append_any _ rfl _ _ 40 rfl w.heap.size 52 i0 (.agg #[.int .i64 0, .int .i64 0]) 2 16 Tryz.underlying40 hi0 hz0 hz1 hz2 rfl (by decide) _ 0 [] rfl (World.ownsRow_lit V1 #[] 0 (by omega) (by simp [maxLen]) rfl) w.heap.size none 0 _ [] rfl Reads.none_ (by simp) (by simp only [maxLen]; omega) (by omega) (by simp; omega) ?_; intro v1 W1 hown1 hg1 hb1; clear hb1; simp only [Nat.zero_add, List.nil_append] at hown1; have hB2 : Below w.heap.size w W1 := (hB1.alloc (by omega) _).grown hg1 (by simp; omega) (fun g hg => by injection hg with hg; subst hg; exact hge); clear hg1; have hz1' := hB2.size) | (at_builtin; refine wpList_append_any _ rfl _ _ 40 rfl w.heap.size 52 i0 (.agg #[.int .i64 0, .int .i64 0]) 2 16 Tryz.underlying40 hi0 hz0 hz1 hz2 rfl (by decide) v1 0 [] rfl (hown1.alloc _) (W1.heap.size + 1) (some ⟨W1.heap.size, 0, none⟩) 1 1 [.int .i64 k, .int .i64 v] rfl (reads_pair _ _ _ _) (by simp [Value.oneCell']) (by simp only [maxLen]; omega) (by omega) (by simp; omega) ?_; intro v2 W2 hown2 hg2 hb2; clear hb2; simp only [Nat.zero_add, List.nil_append] at hown2; have hB3 : Below w.heap.size w W2 := (hB2.alloc hz1' _).grown hg2 (by simp; omega) (fun g hg => (hown1.lt g hg).1); clear hg2; have hz2' := hB3.size) | (at_builtin; refine wpList_append_any _ rfl _ _ 40 rfl w.heap.size 52 i0 (.agg #[.int .i64 0, .int .i64 0]) 2 16 Tryz.underlying40 hi0 hz0 hz1 hz2 rfl (by decide) v2 1 [.int .i64 k, .int .i64 v] rfl hown2 w.heap.size none 0 _ [] rfl Reads.none_ (by simp) (by simp only [maxLen]; omega) (by omega) (by omega) ?_; intro v3 W3 hown3 hg3 hb3; clear hb3; have hB4 : Below w.heap.size w W3 := hB3.grown hg3 (by omega) (fun g hg => (hown2.lt g hg).1); clear hg3))
    all_goals go_ret
    all_goals exact SomePairsO.of_own (L := putP [] k v) (by rw [HE.out]; exact hown3) hB4
  go_enter Tryz.func87, Tryz.ntmps87
  go_wp2_with (fail)
  refine (place_any (some ad) c L k w hq hl).mono ?_
  rintro e V1 ⟨rfl, hd⟩
  have hge := (drawn_facts hd).2
  have hB1 := (drawn_facts hd).1
  have HQ := Lib.hid hq
  clear hq hd
  by_cases hlt : placeP L k < L.length
  · by_cases hk : pkey L (placeP L k) = k
    · have E := Lib.hid (put_cells (L := L) (k := k) (v := v) (n := placeP L k + 1) (if_pos ⟨hlt, hk⟩))
      have hk' : (pkey L (placeP L k) == k) = true := by simpa using hk
      by_cases hcn : c = placeP L k + 1
      · go_wp2_with (first | (at_builtin; refine wpList_append_any _ rfl _ _ 40 rfl w.heap.size 52 i0 (.agg #[.int .i64 0, .int .i64 0]) 2 16 Tryz.underlying40 hi0 hz0 hz1 hz2 rfl (by decide) _ 0 [] rfl (World.ownsRow_lit V1 #[] 0 (by omega) (by simp [maxLen]) rfl) w.heap.size _ _ _ (cellsP (L.take (placeP L k))) rfl ((PairsAt.take (Reads.below HQ.out hB1) hn).alloc (by omega) _) cellsP_one (by simp only [maxLen]; omega) (by omega) (by simp; omega) ?_; intro v1 W1 hown1 hg1 hb1; clear hb1; simp only [Nat.zero_add, List.nil_append] at hown1; have hB2 : Below w.heap.size w W1 := (hB1.alloc (by omega) _).grown hg1 (by simp; omega) (fun g hg => by injection hg with hg; subst hg; exact hge); clear hg1; have hz1' := hB2.size) | (at_builtin; refine wpList_append_any _ rfl _ _ 40 rfl w.heap.size 52 i0 (.agg #[.int .i64 0, .int .i64 0]) 2 16 Tryz.underlying40 hi0 hz0 hz1 hz2 rfl (by decide) v1 (placeP L k) (cellsP (L.take (placeP L k))) rfl (hown1.alloc _) (W1.heap.size + 1) (some ⟨W1.heap.size, 0, none⟩) 1 1 [.int .i64 k, .int .i64 v] rfl (reads_pair _ _ _ _) (by simp [Value.oneCell']) (by simp only [maxLen]; omega) (by omega) (by simp; omega) ?_; intro v2 W2 hown2 hg2 hb2; clear hb2; have hB3 : Below w.heap.size w W2 := (hB2.alloc hz1' _).grown hg2 (by simp; omega) (fun g hg => (hown1.lt g hg).1); clear hg2; have hz2' := hB3.size; have hcell := PairsAt.keyAt (Reads.below HQ.out hB3) hlt) | (at_builtin; have HR3 : Reads W2 w.heap.size 2 (some ad) (L.length - (placeP L k + 1)) (cellsP (L.drop (placeP L k + 1))) := PairsAt.cut0 (Reads.below HQ.out hB3) (by omega) (by omega); refine wpList_append_any _ rfl _ _ 40 rfl w.heap.size 52 i0 (.agg #[.int .i64 0, .int .i64 0]) 2 16 Tryz.underlying40 hi0 hz0 hz1 hz2 rfl (by decide) v2 (placeP L k + 1) (cellsP (L.take (placeP L k)) ++ [.int .i64 k, .int .i64 v]) rfl hown2 w.heap.size (some ad) (L.length - (placeP L k + 1)) _ (cellsP (L.drop (placeP L k + 1))) rfl HR3 cellsP_one (by simp only [maxLen]; omega) (by omega) (by omega) ?_; intro v3 W3 hown3 hg3 hb3; clear hb3; have hB4 : Below w.heap.size w W3 := hB3.grown hg3 (by omega) (fun g hg => (hown2.lt g hg).1); clear hg3))
        go_ret
        rw [E.out] at hown3
        exact SomePairsO.of_own hown3 hB4
      · go_wp2_with (first | (at_builtin; refine wpList_append_any _ rfl _ _ 40 rfl w.heap.size 52 i0 (.agg #[.int .i64 0, .int .i64 0]) 2 16 Tryz.underlying40 hi0 hz0 hz1 hz2 rfl (by decide) _ 0 [] rfl (World.ownsRow_lit V1 #[] 0 (by omega) (by simp [maxLen]) rfl) w.heap.size _ _ _ (cellsP (L.take (placeP L k))) rfl ((PairsAt.take (Reads.below HQ.out hB1) hn).alloc (by omega) _) cellsP_one (by simp only [maxLen]; omega) (by omega) (by simp; omega) ?_; intro v1 W1 hown1 hg1 hb1; clear hb1; simp only [Nat.zero_add, List.nil_append] at hown1; have hB2 : Below w.heap.size w W1 := (hB1.alloc (by omega) _).grown hg1 (by simp; omega) (fun g hg => by injection hg with hg; subst hg; exact hge); clear hg1; have hz1' := hB2.size) | (at_builtin; refine wpList_append_any _ rfl _ _ 40 rfl w.heap.size 52 i0 (.agg #[.int .i64 0, .int .i64 0]) 2 16 Tryz.underlying40 hi0 hz0 hz1 hz2 rfl (by decide) v1 (placeP L k) (cellsP (L.take (placeP L k))) rfl (hown1.alloc _) (W1.heap.size + 1) (some ⟨W1.heap.size, 0, none⟩) 1 1 [.int .i64 k, .int .i64 v] rfl (reads_pair _ _ _ _) (by simp [Value.oneCell']) (by simp only [maxLen]; omega) (by omega) (by simp; omega) ?_; intro v2 W2 hown2 hg2 hb2; clear hb2; have hB3 : Below w.heap.size w W2 := (hB2.alloc hz1' _).grown hg2 (by simp; omega) (fun g hg => (hown1.lt g hg).1); clear hg2; have hz2' := hB3.size; have hcell := PairsAt.keyAt (Reads.below HQ.out hB3) hlt) | (at_builtin; have HR3 : Reads W2 w.heap.size 2 (some (ad.add ((placeP L k + 1) * 2))) (L.length - (placeP L k + 1)) (cellsP (L.drop (placeP L k + 1))) := PairsAt.cut (Reads.below HQ.out hB3) (by omega); refine wpList_append_any _ rfl _ _ 40 rfl w.heap.size 52 i0 (.agg #[.int .i64 0, .int .i64 0]) 2 16 Tryz.underlying40 hi0 hz0 hz1 hz2 rfl (by decide) v2 (placeP L k + 1) (cellsP (L.take (placeP L k)) ++ [.int .i64 k, .int .i64 v]) rfl hown2 w.heap.size (some (ad.add ((placeP L k + 1) * 2))) (L.length - (placeP L k + 1)) _ (cellsP (L.drop (placeP L k + 1))) rfl HR3 cellsP_one (by simp only [maxLen]; omega) (by omega) (by omega) ?_; intro v3 W3 hown3 hg3 hb3; clear hb3; have hB4 : Below w.heap.size w W3 := hB3.grown hg3 (by omega) (fun g hg => (hown2.lt g hg).1); clear hg3))
        go_ret
        rw [E.out] at hown3
        exact SomePairsO.of_own hown3 hB4
    · have E := Lib.hid (put_cells (L := L) (k := k) (v := v) (n := placeP L k) (if_neg fun h => hk h.2))
      have hk' : (pkey L (placeP L k) == k) = false := by simpa using hk
      have hcn : ¬ c = placeP L k := by omega
      · go_wp2_with (first | (at_builtin; refine wpList_append_any _ rfl _ _ 40 rfl w.heap.size 52 i0 (.agg #[.int .i64 0, .int .i64 0]) 2 16 Tryz.underlying40 hi0 hz0 hz1 hz2 rfl (by decide) _ 0 [] rfl (World.ownsRow_lit V1 #[] 0 (by omega) (by simp [maxLen]) rfl) w.heap.size _ _ _ (cellsP (L.take (placeP L k))) rfl ((PairsAt.take (Reads.below HQ.out hB1) hn).alloc (by omega) _) cellsP_one (by simp only [maxLen]; omega) (by omega) (by simp; omega) ?_; intro v1 W1 hown1 hg1 hb1; clear hb1; simp only [Nat.zero_add, List.nil_append] at hown1; have hB2 : Below w.heap.size w W1 := (hB1.alloc (by omega) _).grown hg1 (by simp; omega) (fun g hg => by injection hg with hg; subst hg; exact hge); clear hg1; have hz1' := hB2.size) | (at_builtin; refine wpList_append_any _ rfl _ _ 40 rfl w.heap.size 52 i0 (.agg #[.int .i64 0, .int .i64 0]) 2 16 Tryz.underlying40 hi0 hz0 hz1 hz2 rfl (by decide) v1 (placeP L k) (cellsP (L.take (placeP L k))) rfl (hown1.alloc _) (W1.heap.size + 1) (some ⟨W1.heap.size, 0, none⟩) 1 1 [.int .i64 k, .int .i64 v] rfl (reads_pair _ _ _ _) (by simp [Value.oneCell']) (by simp only [maxLen]; omega) (by omega) (by simp; omega) ?_; intro v2 W2 hown2 hg2 hb2; clear hb2; have hB3 : Below w.heap.size w W2 := (hB2.alloc hz1' _).grown hg2 (by simp; omega) (fun g hg => (hown1.lt g hg).1); clear hg2; have hz2' := hB3.size; have hcell := PairsAt.keyAt (Reads.below HQ.out hB3) hlt) | (at_builtin; have HR3 : Reads W2 w.heap.size 2 (some (ad.add ((placeP L k) * 2))) (L.length - (placeP L k)) (cellsP (L.drop (placeP L k))) := PairsAt.cut (Reads.below HQ.out hB3) (by omega); refine wpList_append_any _ rfl _ _ 40 rfl w.heap.size 52 i0 (.agg #[.int .i64 0, .int .i64 0]) 2 16 Tryz.underlying40 hi0 hz0 hz1 hz2 rfl (by decide) v2 (placeP L k + 1) (cellsP (L.take (placeP L k)) ++ [.int .i64 k, .int .i64 v]) rfl hown2 w.heap.size (some (ad.add ((placeP L k) * 2))) (L.length - (placeP L k)) _ (cellsP (L.drop (placeP L k))) rfl HR3 cellsP_one (by simp only [maxLen]; omega) (by omega) (by omega) ?_; intro v3 W3 hown3 hg3 hb3; clear hb3; have hB4 : Below w.heap.size w W3 := hB3.grown hg3 (by omega) (fun g hg => (hown2.lt g hg).1); clear hg3))
        go_ret
        rw [E.out] at hown3
        exact SomePairsO.of_own hown3 hB4
  · have E := Lib.hid (put_cells (L := L) (k := k) (v := v) (n := placeP L k) (if_neg fun h => hlt h.1))
    by_cases hcn : c = placeP L k
    · go_wp2_with (first | (at_builtin; refine wpList_append_any _ rfl _ _ 40 rfl w.heap.size 52 i0 (.agg #[.int .i64 0, .int .i64 0]) 2 16 Tryz.underlying40 hi0 hz0 hz1 hz2 rfl (by decide) _ 0 [] rfl (World.ownsRow_lit V1 #[] 0 (by omega) (by simp [maxLen]) rfl) w.heap.size _ _ _ (cellsP (L.take (placeP L k))) rfl ((PairsAt.take (Reads.below HQ.out hB1) hn).alloc (by omega) _) cellsP_one (by simp only [maxLen]; omega) (by omega) (by simp; omega) ?_; intro v1 W1 hown1 hg1 hb1; clear hb1; simp only [Nat.zero_add, List.nil_append] at hown1; have hB2 : Below w.heap.size w W1 := (hB1.alloc (by omega) _).grown hg1 (by simp; omega) (fun g hg => by injection hg with hg; subst hg; exact hge); clear hg1; have hz1' := hB2.size) | (at_builtin; refine wpList_append_any _ rfl _ _ 40 rfl w.heap.size 52 i0 (.agg #[.int .i64 0, .int .i64 0]) 2 16 Tryz.underlying40 hi0 hz0 hz1 hz2 rfl (by decide) v1 (placeP L k) (cellsP (L.take (placeP L k))) rfl (hown1.alloc _) (W1.heap.size + 1) (some ⟨W1.heap.size, 0, none⟩) 1 1 [.int .i64 k, .int .i64 v] rfl (reads_pair _ _ _ _) (by simp [Value.oneCell']) (by simp only [maxLen]; omega) (by omega) (by simp; omega) ?_; intro v2 W2 hown2 hg2 hb2; clear hb2; have hB3 : Below w.heap.size w W2 := (hB2.alloc hz1' _).grown hg2 (by simp; omega) (fun g hg => (hown1.lt g hg).1); clear hg2; have hz2' := hB3.size) | (at_builtin; have HR3 : Reads W2 w.heap.size 2 (some ad) (L.length - (placeP L k)) (cellsP (L.drop (placeP L k))) := PairsAt.cut0 (Reads.below HQ.out hB3) (by omega) (by omega); refine wpList_append_any _ rfl _ _ 40 rfl w.heap.size 52 i0 (.agg #[.int .i64 0, .int .i64 0]) 2 16 Tryz.underlying40 hi0 hz0 hz1 hz2 rfl (by decide) v2 (placeP L k + 1) (cellsP (L.take (placeP L k)) ++ [.int .i64 k, .int .i64 v]) rfl hown2 w.heap.size (some ad) (L.length - (placeP L k)) _ (cellsP (L.drop (placeP L k))) rfl HR3 cellsP_one (by simp only [maxLen]; omega) (by omega) (by omega) ?_; intro v3 W3 hown3 hg3 hb3; clear hb3; have hB4 : Below w.heap.size w W3 := hB3.grown hg3 (by omega) (fun g hg => (hown2.lt g hg).1); clear hg3))
      go_ret
      rw [E.out] at hown3
      exact SomePairsO.of_own hown3 hB4
    · go_wp2_with (first | (at_builtin; refine wpList_append_any _ rfl _ _ 40 rfl w.heap.size 52 i0 (.agg #[.int .i64 0, .int .i64 0]) 2 16 Tryz.underlying40 hi0 hz0 hz1 hz2 rfl (by decide) _ 0 [] rfl (World.ownsRow_lit V1 #[] 0 (by omega) (by simp [maxLen]) rfl) w.heap.size _ _ _ (cellsP (L.take (placeP L k))) rfl ((PairsAt.take (Reads.below HQ.out hB1) hn).alloc (by omega) _) cellsP_one (by simp only [maxLen]; omega) (by omega) (by simp; omega) ?_; intro v1 W1 hown1 hg1 hb1; clear hb1; simp only [Nat.zero_add, List.nil_append] at hown1; have hB2 : Below w.heap.size w W1 := (hB1.alloc (by omega) _).grown hg1 (by simp; omega) (fun g hg => by injection hg with hg; subst hg; exact hge); clear hg1; have hz1' := hB2.size) | (at_builtin; refine wpList_append_any _ rfl _ _ 40 rfl w.heap.size 52 i0 (.agg #[.int .i64 0, .int .i64 0]) 2 16 Tryz.underlying40 hi0 hz0 hz1 hz2 rfl (by decide) v1 (placeP L k) (cellsP (L.take (placeP L k))) rfl (hown1.alloc _) (W1.heap.size + 1) (some ⟨W1.heap.size, 0, none⟩) 1 1 [.int .i64 k, .int .i64 v] rfl (reads_pair _ _ _ _) (by simp [Value.oneCell']) (by simp only [maxLen]; omega) (by omega) (by simp; omega) ?_; intro v2 W2 hown2 hg2 hb2; clear hb2; have hB3 : Below w.heap.size w W2 := (hB2.alloc hz1' _).grown hg2 (by simp; omega) (fun g hg => (hown1.lt g hg).1); clear hg2; have hz2' := hB3.size) | (at_builtin; have HR3 : Reads W2 w.heap.size 2 (some (ad.add ((placeP L k) * 2))) (L.length - (placeP L k)) (cellsP (L.drop (placeP L k))) := PairsAt.cut (Reads.below HQ.out hB3) (by omega); refine wpList_append_any _ rfl _ _ 40 rfl w.heap.size 52 i0 (.agg #[.int .i64 0, .int .i64 0]) 2 16 Tryz.underlying40 hi0 hz0 hz1 hz2 rfl (by decide) v2 (placeP L k + 1) (cellsP (L.take (placeP L k)) ++ [.int .i64 k, .int .i64 v]) rfl hown2 w.heap.size (some (ad.add ((placeP L k) * 2))) (L.length - (placeP L k)) _ (cellsP (L.drop (placeP L k))) rfl HR3 cellsP_one (by simp only [maxLen]; omega) (by omega) (by omega) ?_; intro v3 W3 hown3 hg3 hb3; clear hb3; have hB4 : Below w.heap.size w W3 := hB3.grown hg3 (by omega) (fun g hg => (hown2.lt g hg).1); clear hg3))
      go_ret
      rw [E.out] at hown3
      exact SomePairsO.of_own hown3 hB4
end
/- ordinatehand.Pairs: ascending pairs of raw numbers, in a row of its own. -/

theorem putR_pair : ∀ (L : List (Int × Int)) (k v : Int) (x : Int × Int), x ∈ putR L k v → x = (k, v) ∨ x ∈ L
  | [], k, v, x, h => by simp [putR] at h; exact .inl h
  | p :: L, k, v, x, h => by
    simp only [putR] at h
    split at h
    · rcases List.mem_cons.1 h with h | h
      · exact .inr (by simp [h])
      · rcases putR_pair L k v x h with h | h
        · exact .inl h
        · exact .inr (List.mem_cons_of_mem _ h)
    · split at h
      · rcases List.mem_cons.1 h with h | h
        · exact .inl h
        · exact .inr (List.mem_cons_of_mem _ h)
      · rcases List.mem_cons.1 h with h | h
        · exact .inl h
        · exact .inr h
def hpTo (l : List Int) : Nat → List (Int × Int)
  | 0 => []
  | k + 1 => putP (hpTo l k) (keyAt l k % 97 - 40) k
def hpL (l : List Int) : List (Int × Int) := hpTo l (min l.length 60)
theorem hpTo_len (l : List Int) : ∀ k, (hpTo l k).length ≤ k
  | 0 => Nat.le_refl _
  | k + 1 => by
    have := hpTo_len l k
    rw [hpTo, putP_eq]
    have := putR_len (hpTo l k) (keyAt l k % 97 - 40) k
    omega
theorem hpTo_asc (l : List Int) : ∀ k, (keysP (hpTo l k)).Pairwise (· < ·)
  | 0 => by simp [hpTo, keysP]
  | k + 1 => by rw [hpTo, putP_eq]; exact putR_asc _ _ _ (hpTo_asc l k)
theorem hpTo_bd (l : List Int) : ∀ k, k ≤ 60 → PB (hpTo l k)
  | 0, _ => fun p hp => by cases hp
  | k + 1, h => fun p hp => by
    rw [hpTo, putP_eq] at hp
    rcases putR_pair _ _ _ _ hp with rfl | hp
    · have := Int.emod_nonneg (keyAt l k) (show (97 : Int) ≠ 0 by decide)
      have := Int.emod_lt_of_pos (keyAt l k) (show (0 : Int) < 97 by decide)
      unfold bdI
      simp only
      omega
    · exact hpTo_bd l k (by omega) p hp
theorem hpL_len (l : List Int) : (hpL l).length ≤ 60 := by
  have := hpTo_len l (min l.length 60); unfold hpL; omega
theorem hpL_bd (l : List Int) : PB (hpL l) := hpTo_bd l _ (by omega)
theorem hpL_asc (l : List Int) : AscP (hpL l) := fun i hi => by
  have h := hpTo_asc l (min l.length 60)
  have := List.pairwise_iff_getElem.1 h i (i + 1) (by rw [keysP_len]; show i < (hpL l).length; omega) (by rw [keysP_len]; exact hi) (by omega)
  rw [← keysP_at (hpL l) i (by omega), ← keysP_at (hpL l) (i + 1) hi]
  unfold keyAt
  rw [List.getD_eq_getElem?_getD, List.getD_eq_getElem?_getD, List.getElem?_eq_getElem (by rw [keysP_len]; omega), List.getElem?_eq_getElem (by rw [keysP_len]; exact hi)]
  exact this
def HpRel (l : List Int) (w : World) (v i : Value) (wr : World) : Prop := ∃ (k : Nat) (A : Option Addr) (c : Nat), k ≤ l.length ∧ k ≤ 60 ∧ v = .slice A (hpTo l k).length c ∧ i = .int .i64 k ∧ (hpTo l k).length ≤ c ∧ PairsAt wr wr.heap.size A (hpTo l k) ∧ Below w.heap.size w wr ∧ ∀ ad, A = some ad → w.heap.size ≤ ad.block
set_option maxHeartbeats 4000000 in
set_option maxRecDepth 100000 in
theorem handP_any (A : Option Addr) (c N : Nat) (l : List Int) (w : World) (hN : N = l.length) (hq : IntsAt w w.heap.size A l) (hl : l.length ≤ 140737488351232) (hw : ∀ i, i < l.length → -9223372036854775808 ≤ keyAt l i ∧ keyAt l i ≤ 9223372036854775807) :
    Calls Tryz.prog 170 #[.slice A N c] w (SomePairsO (hpL l) w) := by
  subst hN
  have HQ := Lib.hid hq
  have HW := Lib.hid hw
  clear hq hw
  go_enter Tryz.func170, Tryz.ntmps170
  go_wp2_with (fail)
  go_loopw [3, 4] (fun v i wr => HpRel l w v i wr) (fun _ i _ => l.length - (intOf i).toNat)
  case atStart => unfold HpRel; exact ⟨0, none, 0, by omega, by omega, rfl, rfl, Nat.le_refl _, Reads.none_, Below.refl _ _, fun ad h => by cases h⟩
  case round =>
    obtain ⟨k, A1, c1, k1, k2, rfl, rfl, hc1, hp, hB, hf⟩ := hrel
    have hlen := hpTo_len l k
    have HP := Lib.hid hp
    have HF := Lib.hid hf
    clear hp hf
    by_cases hlt : k < l.length ∧ k < 60
    · obtain ⟨hlt1, hlt2⟩ := hlt
      obtain ⟨ad, rfl, hbl, hc⟩ := (HQ.out.below hB).cells (by omega)
      have hcell := hc k hlt1
      have HWk := Lib.hid (HW.out k hlt1)
      have e := Lib.hid (show hpTo l (k + 1) = putP (hpTo l k) (keyAt l k % 97 - 40) k from rfl)
      have HL := Lib.hid hlen
      clear hc hlen
      generalize keyAt l k = x at hcell HWk e
      go_wp2_with (fail)
      with_reducible refine (cut_any x 97 _ HWk.out.1 HWk.out.2 (by decide) (by decide)).mono ?_
      rintro e w1 ⟨rfl, rfl⟩
      have hx := cut_bd x 97 (by decide)
      generalize x % 97 = y at e hx ⊢
      go_wp2_with (fail)
      with_reducible refine (putO_any A1 c1 (hpTo l k) (y - 40) k _ HP.out (by have := HL.out; omega) hc1).mono ?_
      rintro e V2 ⟨A2, c2, rfl, hc2, hp2, hb, hf2⟩
      rw [← e.out] at hc2 hp2 ⊢
      have hB2 := hB.trans (hb.mono hB.size)
      have HP2 := Lib.hid hp2
      have hz := hB.size
      have HF2 : Hid (∀ ad, A2 = some ad → w.heap.size ≤ ad.block) := Lib.hid (fun a ha => Nat.le_trans hz (hf2 a ha))
      clear hp2 hf2 hb hcell hB hz
      go_wp2_with (fail)
      go_roundw
      case rel => unfold HpRel; exact ⟨k + 1, A2, c2, by omega, by omega, rfl, by go_num, hc2, HP2.out, hB2, HF2.out⟩
      case measure => simp [intOf]; omega
    · have hk : hpL l = hpTo l k := by unfold hpL; congr 1; omega
      have HK := Lib.hid hk
      have HB := Lib.hid hB
      clear hk hB hlen
      by_cases hlt1 : k < l.length
      · have hlt3 : ¬ (k : Int) < 60 := by omega
        clear hlt
        go_wp2_with (fail)
        go_ret
        unfold SomePairsO
        rw [HK.out]
        exact ⟨A1, c1, rfl, hc1, HP.out, HB.out, HF.out⟩
      · clear hlt
        go_wp2_with (fail)
        go_ret
        unfold SomePairsO
        rw [HK.out]
        exact ⟨A1, c1, rfl, hc1, HP.out, HB.out, HF.out⟩
/- A question whose slots are turned: chapter 25's examples; what keeps the frame apart from the memory. -/

theorem LeftP.within {F : Nat → Prop} {A : Option Addr} {c : Nat} {L : List (Int × Int)} {w : World} (h : LeftP F A c L w) : LeftP (fun x => F x ∧ x < w.heap.size) A c L w := by
  obtain ⟨h1, v0, L0, k, h2, h3, h4⟩ := h
  exact ⟨h1, v0, L0, k, h2, fun g hg => ⟨h3 g hg, own_lt h2 g hg⟩, h4⟩
theorem AgainP.within {F : Nat → Prop} {b : Nat} {s : AS} {w : World} (h : AgainP F b s w) : AgainP (fun x => F x ∧ x < w.heap.size) b s w := by
  obtain ⟨A, c, pv, h⟩ := h
  refine ⟨A, c, pv, ⟨h.fb, h.blk.lt⟩, h.blk, h.left.within, ?_⟩
  have hp := h.peek
  generalize s.peek = o at hp
  cases o with
  | none => exact hp
  | some p => obtain ⟨pb, h1, h2, h3⟩ := hp; exact ⟨pb, h1, ⟨h2, h3.blk.lt⟩, h3⟩
theorem QueryP.within {F : Nat → Prop} {b : Nat} {o : Op} {b0 : Int} {q : QP} {w : World} (h : QueryP F b o b0 q w) : QueryP (fun x => F x ∧ x < w.heap.size) b o b0 q w := by
  obtain ⟨sv, wv, av, r, lv, h⟩ := h
  have hlt := h.blk.lt
  obtain ⟨fb, p1, p2, p3, p4, h⟩ := h
  refine ⟨sv, wv, av, r, lv, ⟨fb, hlt⟩, p1, p2, p3, p4, ?_⟩
  cases q with
  | seek s => obtain ⟨h1, sb, Fs, h2, h3, h4⟩ := h; exact ⟨h1, sb, _, h2, h3.within, fun x hx => ⟨⟨(h4 x hx.1).1, hx.2⟩, (h4 x hx.1).2⟩⟩
  | walk l s => obtain ⟨h1, sb, Fs, h2, h3, h4⟩ := h; exact ⟨h1, sb, _, h2, h3.within, fun x hx => ⟨⟨(h4 x hx.1).1, hx.2⟩, (h4 x hx.1).2⟩⟩
  | look l s a => obtain ⟨h1, wb, Fw, ab, Fa, h2, h3, h4, h5, h6, h7⟩ := h; exact ⟨h1, wb, _, ab, _, h2, h3.within, fun x hx => ⟨⟨(h4 x hx.1).1, hx.2⟩, (h4 x hx.1).2.1, fun e => (h4 x hx.1).2.2 e.1⟩, h5, h6.within, fun x hx => ⟨⟨(h7 x hx.1).1, hx.2⟩, (h7 x hx.1).2⟩⟩
  | done l r' => exact ⟨h.1, h.2.within⟩
def QP.it (o : Op) (b0 : Int) (R : Int → Int) (q : QP) : Nat → QP
  | 0 => q
  | t + 1 => (QP.it o b0 R q t).step o b0 R
theorem QP.Inv.it {o : Op} (h : o.Bd) {b0 : Int} {R : Int → Int} (hR : ∀ a, -9223372036854775808 ≤ R a ∧ R a ≤ 9223372036854775807) {q : QP} (hq : q.Inv) : ∀ t, (QP.it o b0 R q t).Inv
  | 0 => hq
  | t + 1 => QP.Inv.step h hR (QP.Inv.it h hR hq t)
def ex25 (t : Nat) : QP := QP.it ⟨9, 0, 9⟩ 1 (rdC beginL) (QP.init ⟨9, 0, 9⟩ 1) t
theorem ex25_next : (ex25 0).next = 1 ∧ (ex25 1).next = 1 ∧ (ex25 2).next = 2 := by decide +kernel
theorem ex25_done : ex25 3 = .done 0 ⟨0, false, 0, 0, 0, []⟩ := by kernel_rfl
def fewB (R : Int → Int) : QP → Bool
  | .walk _ s => decide (s.levels.length < 1000000) && (decide (s.pairs.length ≤ 1000000) && (decide (s.spots.length ≤ 1000000) && (decide ((s.step R).pairs.length ≤ 1000000) && decide ((s.step R).spots.length ≤ 1000000))))
  | .look _ s _ => decide (s.pairs.length ≤ 1000000)
  | _ => true
theorem few_of {R : Int → Int} {q : QP} (h : fewB R q = true) : q.Few R := by
  cases q with
  | seek s => exact trivial
  | walk l s =>
    unfold fewB at h
    simp only [Bool.and_eq_true, decide_eq_true_eq] at h
    exact h
  | look l s a => exact of_decide_eq_true (p := s.pairs.length ≤ 1000000) h
  | done l r => exact trivial
theorem ex25_few : fewB (rdC beginL) (ex25 0) = true ∧ fewB (rdC beginL) (ex25 1) = true ∧ fewB (rdC beginL) (ex25 2) = true := by decide +kernel
theorem asked25 : AskedQ (rdC beginL) ⟨9, 0, 9⟩ 1 3 ex25 0 ⟨0, false, 0, 0, 0, []⟩ where
  zero := rfl
  step t := rfl
  inv t := QP.Inv.it (by unfold Op.Bd leastI mostI; decide) (rdC_bd (bd_of (by decide))) (QP.Inv.init (by unfold Op.Bd leastI mostI; decide) 1) t
  fewq t h := by
    have : t = 0 ∨ t = 1 ∨ t = 2 := by omega
    rcases this with rfl | rfl | rfl
    · exact few_of ex25_few.1
    · exact few_of ex25_few.2.1
    · exact few_of ex25_few.2.2
  going t h := by
    have : t = 0 ∨ t = 1 ∨ t = 2 := by omega
    rcases this with rfl | rfl | rfl
    · rw [ex25_next.1]; decide
    · rw [ex25_next.2.1]; decide
    · rw [ex25_next.2.2]; decide
  done := ex25_done
  few := by decide
  list := by decide
/- chapter 25's examples. -/

theorem run_why (a k v n : Int) (b : Bool) (lv : Value) (w : World) : Sem.run Tryz.prog (Instr.field 54 (.agg #[.int .i64 a, .bool b, .int .i64 k, .int .i64 v, .int .i64 n, lv]) 0) w = .ok (.int .i64 a) w := by kernel_rfl
section
attribute [local go_sem] run_why
set_option maxRecDepth 100000 in
set_option maxHeartbeats 1000000 in
theorem known25_any (w : World) : Calls Tryz.prog 38 #[] w fun e w' => e = .returned (.bool true) ∧ Below w.heap.size w w' := by
  go_enter Tryz.func38, Tryz.ntmps38
  go_wp2_with (fail)
  with_reducible refine (memNew_any 9 _ (by decide) (by decide)).mono ?_
  rintro e w1 ⟨rfl, hm, hb⟩
  have hB1 := hb
  have HM := Lib.hid hm
  clear hm hb
  obtain ⟨b, hbe⟩ : ∃ b, w.heap.size = b := ⟨_, rfl⟩
  rw [hbe] at HM hB1 ⊢
  go_wp2_with (fail)
  with_reducible refine (begin_any b b 9 0 0 0 _ HM.out (by decide) (by decide)).mono ?_
  rintro e w2 ⟨rfl, v, hm, ho, _⟩
  have hz2 : b < w2.heap.size := by have := hB1.size; have := ho.size; have := HM.out.blk.lt; omega
  have hB2 := hB1.trans (ho.below (B := b) (by simp) (by have := HM.out.blk.lt; omega))
  have HM2 : Hid (MemP b b v beginL 9 2 0 0 w2) := Lib.hid (by rw [show bump (bump 0) = 2 from by kernel_rfl] at hm; exact hm)
  clear hm ho HM hB1
  have HC2 : Hid (MemC b beginL 9 w2) := Lib.hid ⟨v, _, _, HM2.out⟩
  clear HM2
  have HAQ := Lib.hid asked25
  go_wp2_with (fail)
  with_reducible refine (runQ_any b beginL 9 ⟨9, 0, 9⟩ 1 3 _ 0 _ _ HC2.out (by decide) (by decide) HAQ.out).mono ?_
  rintro e w3 ⟨A, c, rfl, hO, hm, hc⟩
  have HB3 := Lib.hid (hB2.trans (hc.below (B := b) (fun x hx => by omega) (by omega)))
  have hz3 := hc.size
  have HO3 := Lib.hid hO
  have hx3 : Below w3.heap.size w3 (w3.alloc (.cells #[.int .i64 0, .bool false, .int .i64 0, .int .i64 0, .int .i64 0, .slice A 0 c] 54)) := (Below.refl w3.heap.size w3).alloc (Nat.le_refl _) _
  have HX3 : Hid (Blk (w3.alloc (.cells #[.int .i64 0, .bool false, .int .i64 0, .int .i64 0, .int .i64 0, .slice A 0 c] 54)) w3.heap.size 54 #[.int .i64 0, .bool false, .int .i64 0, .int .i64 0, .int .i64 0, .slice A 0 c]) := Lib.hid (Blk.new w3 _ _)
  have HO4 := Lib.hid (own_below HO3.out hx3)
  have HB4 := Lib.hid (HB3.out.trans (hx3.mono (by omega)))
  have hz4 := hx3.size
  clear hO hm hc HC2 hB2 HAQ HO3 HB3 hx3
  go_wp2_with (fail)
  generalize w3.alloc (.cells #[.int .i64 0, .bool false, .int .i64 0, .int .i64 0, .int .i64 0, .slice A 0 c] 54) = w4 at HX3 HO4 HB4 hz4 ⊢
  with_reducible refine (newQ_any ⟨7, 0, 0⟩ 0 _).mono ?_
  rintro e w5 ⟨fb, rfl, hq, hb⟩
  have HQ5 : Hid (QueryP (fun x => w4.heap.size ≤ x) fb ⟨7, 0, 0⟩ 0 (.done 0 (Res.err 2)) w5) := Lib.hid hq
  have HB5 := Lib.hid (HB4.out.trans (hb.mono (by omega)))
  have HL5 : Hid (PairsAt w5 w5.heap.size A []) := Lib.hid (Reads.of_own (own_below HO4.out hb))
  have HN5 : Hid (PairsAt w5 w5.heap.size none []) := Lib.hid (PairsAt.nil w5 _)
  have hx5 := HX3.out.below hb HX3.out.lt
  have x0 : w5.cell? ⟨w3.heap.size, 0, none⟩ = some (.int .i64 0) := hx5.cell 0
  have x1 : w5.cell? ⟨w3.heap.size, 1, none⟩ = some (.bool false) := hx5.cell 1
  have x2 : w5.cell? ⟨w3.heap.size, 2, none⟩ = some (.int .i64 0) := hx5.cell 2
  have x3 : w5.cell? ⟨w3.heap.size, 3, none⟩ = some (.int .i64 0) := hx5.cell 3
  have x4 : w5.cell? ⟨w3.heap.size, 4, none⟩ = some (.int .i64 0) := hx5.cell 4
  have x5 : w5.cell? ⟨w3.heap.size, 5, none⟩ = some (.slice A 0 c) := hx5.cell 5
  have hz5 := hb.size
  clear hq hb HB4 HO4 HX3 hx5
  go_wp2_with (fail)
  with_reducible refine (resultsSame_any 0 0 0 0 false [] A none c 0 0 0 _ rfl rfl HL5.out HN5.out (by decide)).mono ?_
  rintro e w6 ⟨rfl, hb⟩
  have HQ6 := Lib.hid (HQ5.out.below hb)
  have HB6 := Lib.hid (HB5.out.trans (hb.mono (by omega)))
  have hz6 := hb.size
  clear hb HQ5 HB5 HL5 HN5
  go_wp2_with (fail)
  with_reducible refine (doneQ_any _ _ _ _ _ _ HQ6.out).mono ?_
  rintro e w7 ⟨rfl, rfl⟩
  rw [show ((QP.done 0 (Res.err 2)).next == 3) = true from rfl]
  go_wp2_with (fail)
  with_reducible refine (resultQ_any _ fb _ _ 0 (Res.err 2) _ HQ6.out (by decide)).mono ?_
  rintro e w8 ⟨lv, rfl, hO, hb⟩
  obtain ⟨A8, c8, rfl⟩ := own_shape hO
  have HB8 := Lib.hid (HB6.out.trans (hb.mono (by omega)))
  clear hO hb HB6
  unfold resV Res.err
  go_wp2_with (fail)
  go_ret
  exact ⟨rfl, hbe ▸ HB8.out⟩
end
/- The walk of QueryRetry. -/

structure RtC (b fb ob : Nat) (o : Op) (n : Nat) (lk : Bool) (L0 t N : Nat) (q : QP) (C : List Int) (v : Value) (count odd : Int) (F : Nat → Prop) (wr : World) : Prop where
  hq : QueryP F fb o n q wr
  hm : MemP b b v C 4000 count odd 0 wr
  off : Off F b v
  good : Good C
  len : C.length = L0 + t
  six : 1 ≤ t → rdC C 6 = wOf 1 C.length
  inv : q.Inv
  pl : Pl o n (rdC C) lk q N
  one : N % 3 = 0 ∨ 1 ≤ t
  few : t + N ≤ 18
  all : lk = false → t + N = 3 * n
  obk : Blk wr ob 48 #[.int .i64 o.kind, .int .i64 o.key, .int .i64 o.val]
  obf : ∀ x, F x → ob < x
def RtRel (b fb ob : Nat) (o : Op) (n : Nat) (lk : Bool) (L0 : Nat) (wq : World) (cv rv : Value) (wr : World) : Prop :=
  Below b wq wr ∧ ((∃ t N q C v count odd F, cv = .int .i64 ((t : Nat) : Int) ∧ rv = .int .i64 ((t : Nat) : Int) ∧ RtC b fb ob o n lk L0 t N q C v count odd F wr) ∨ (∃ (t r : Nat) (F : Nat → Prop), cv = .int .i64 (t : Int) ∧ rv = .int .i64 (r : Int) ∧ t < 100 ∧ r < 100 ∧ QueryP F fb o n (finQ n lk) wr ∧ (lk = false → n ≤ r) ∧ Blk wr ob 48 #[.int .i64 o.kind, .int .i64 o.key, .int .i64 o.val]))
theorem RtC.kind {b fb ob : Nat} {o : Op} {n : Nat} {lk : Bool} {L0 t N : Nat} {q : QP} {C : List Int} {v : Value} {count odd : Int} {F : Nat → Prop} {wr : World} (h : RtC b fb ob o n lk L0 t N q C v count odd F wr) (hL : L0 ≤ 3000) : N % 3 ≠ 0 → wKind (rdC C 6) = 1 := fun hn => by
  have h1 : 1 ≤ t := h.one.resolve_left hn
  rw [h.six h1]
  have := h.good.six
  have := h.len
  have := h.few
  exact (kind_empty (by omega) (by omega)).2
theorem RtC.turn {b fb ob : Nat} {o : Op} {n : Nat} {lk : Bool} {L0 t N : Nat} {q : QP} {C : List Int} {v : Value} {count odd : Int} {F : Nat → Prop} {wr : World} (h : RtC b fb ob o n lk L0 t N q C v count odd F wr) (hL : L0 ≤ 3000) : N % 3 = 2 → rdC (turnC C) 6 ≠ rdC C 6 := fun hn => by
  have h1 : 1 ≤ t := h.one.resolve_left (by omega)
  rw [h.six h1, turnC_six h.good]
  have := h.good.six
  have := h.len
  have := h.few
  rw [(kind_empty (a := (C.length : Int) + 1) (by omega) (by omega)).1, (kind_empty (a := (C.length : Int)) (by omega) (by omega)).1]
  omega
theorem asc_nil : AscP [] := fun i hi => absurd hi (by simp)
theorem apart_none (b : Nat) (v : Value) : Apart none b v := fun ad h => by cases h
theorem lay_nil (C : List Int) : layF (([] : List (Int × Int)).length + 1) C [] = (C ++ [0], wOf 1 ((C.length : Int) + 1)) := by simp [layF]
theorem lay_nil1 (C : List Int) : (layF (([] : List (Int × Int)).length + 1) C []).1 = C ++ [0] := by rw [lay_nil]
theorem lay_nil2 (C : List Int) : (layF (([] : List (Int × Int)).length + 1) C []).2 = wOf 1 ((C.length : Int) + 1) := by rw [lay_nil]
theorem room_nil {C : List Int} (h : C.length ≤ 3999) : (C.length : Int) + cellsI (([] : List (Int × Int)).length : Int) ≤ 4000 := by
  rw [show (([] : List (Int × Int)).length : Int) = 0 from rfl, cellsI_zero]; omega
theorem beginL_bd : ∀ x ∈ beginL, bdI x := by unfold bdI; decide
theorem cells60 : ∀ n : Nat, n < 61 → cellsI (n : Int) ≤ 2900 := by decide +kernel
end Go.Proofs.YtblajeildolloaaGreat
