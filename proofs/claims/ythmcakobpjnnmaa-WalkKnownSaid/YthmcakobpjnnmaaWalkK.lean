/- The walk of WalkKnown. -/
import Derived.Test.YthmcakobpjnnmaaWalkR
namespace Go.Proofs.Ythmcakobpjnnmaa
set_option linter.unusedVariables false
set_option linter.unusedSimpArgs false
open Go.RowKit

/-- The four walks of the law, and the one of the chapter's example. -/
def ask17 (j : Nat) : WS := if j = 0 then WS.init (-9223372036854775808) 9223372036854775807 false 0 true else if j = 1 then WS.init 2 9 true 0 false else if j = 2 then WS.init 0 2 true 1 true else WS.init 3 2 false 0 true
def run17 (j t : Nat) : WS := WS.it (rdC tree3) (ask17 j) t
def steps17 (j : Nat) : Nat := ((List.range 100).find? fun t => (run17 j t).next == 6).getD 0
def want17 (j : Nat) : List (Int × Int) := if j = 0 then p3L else if j = 1 then [(3, 0), (2, 0)] else if j = 2 then [(2, 20)] else []
theorem walk17 : ∀ j, j < 4 → (∀ t, t < steps17 j → (run17 j t).next ≠ 6) ∧ (run17 j (steps17 j)).next = 6 ∧ steps17 j ≤ 1000 ∧ 0 < steps17 j ∧ (∀ t, t < steps17 j + 1 → (run17 j t).levels.length < 1000 ∧ (run17 j t).pairs.length < 1000 ∧ (run17 j t).spots.length < 1000) ∧ (run17 j (steps17 j)).pairs = want17 j ∧ (j = 0 → (run17 j (steps17 j)).spots.length = 5) ∧ (j = 1 → (run17 j (steps17 j)).spots.length = 4) := by decide +kernel
theorem ask17_inv (j : Nat) : (ask17 j).Inv := by
  unfold ask17
  repeat' split
  all_goals exact WS.Inv.init (by decide) (by decide) (by decide) (by decide) (by decide) (by decide)
structure Asked (R : Int → Int) (j : Nat) (S : Nat) (st : Nat → WS) : Prop where
  w : Walked R (ask17 j) S st
  pairs : (st S).pairs = want17 j
  s0 : j = 0 → (st S).spots.length = 5
  s1 : j = 1 → (st S).spots.length = 4
theorem asked17 {j : Nat} (hj : j < 4) {M : List Int} (hM : tree3 = M) : ∃ S st, Asked (rdC M) j S st := by
  obtain ⟨q1, q2, q3, q4, q5, q6, q7, q8⟩ := walk17 j hj
  subst hM
  exact ⟨steps17 j, run17 j, ⟨rfl, fun t => rfl, fun t => WS.Inv.it (ask17_inv j) (rdC_bd (bd_of (memK_bd 0 (by omega)))) t, q1, q2, q3, q4, fun t ht => (q5 t (by omega)).1, fun t ht => (q5 t (by omega)).2.1, fun t ht => (q5 t (by omega)).2.2⟩, q6, q7, q8⟩
theorem ex17 : ((WS.init 0 9 false 0 true).step (rdC beginL)).next = 1 ∧ (((WS.init 0 9 false 0 true).step (rdC beginL)).step (rdC beginL)).next = 6 ∧ (((WS.init 0 9 false 0 true).step (rdC beginL)).step (rdC beginL)).pairs = [] ∧ (((WS.init 0 9 false 0 true).step (rdC beginL)).step (rdC beginL)).spots = [(6, 57)] ∧ ((WS.init 0 9 false 0 true).step (rdC beginL)).levels.length < 1000 ∧ ((WS.init 0 9 false 0 true).step (rdC beginL)).pairs.length < 1000 ∧ ((WS.init 0 9 false 0 true).step (rdC beginL)).spots.length < 1000 := by decide +kernel
set_option maxRecDepth 100000 in
set_option maxHeartbeats 1000000 in
theorem known17_any (w : World) : Calls Try.prog 50 #[] w fun e w' => e = .returned (.bool true) ∧ Below w.heap.size w w' := by
  go_enter Try.func50, Try.ntmps50
  go_wp2_with (fail)
  with_reducible refine (memNew_any 9 _ (by decide) (by decide)).mono ?_
  rintro e w1 ⟨rfl, hm, hb⟩
  have hB1 := hb
  have HM := Lib.hid hm
  clear hm hb
  obtain ⟨b, hbe⟩ : ∃ b, w.heap.size = b := ⟨_, rfl⟩
  rw [hbe] at HM hB1 ⊢
  go_wp2_with (fail)
  with_reducible refine (begin_any b b 9 0 0 0 _ HM.out (by decide) (by decide)).mono ?_
  rintro e w2 ⟨rfl, v, hm, ho, _⟩
  have hz2 : b < w2.heap.size := by have := hB1.size; have := ho.size; have := HM.out.blk.lt; omega
  have hB2 := hB1.trans (ho.below (B := b) (by simp) (by have := HM.out.blk.lt; omega))
  have HM2 : Hid (MemP b b v beginL 9 2 0 0 w2) := Lib.hid (by rw [show bump (bump 0) = 2 from by kernel_rfl] at hm; exact hm)
  clear hm ho HM hB1
  have HC2 : Hid (MemC b beginL 9 w2) := Lib.hid ⟨v, _, _, HM2.out⟩
  clear HM2
  obtain ⟨q1, q2, q3, q4, q5, q6, q7⟩ := ex17
  have hbd : ∀ x ∈ beginL, -9223372036854775808 ≤ x ∧ x ≤ 9223372036854775807 := by decide
  have HI0 := Lib.hid (WS.Inv.init (lo := 0) (hi := 9) (most := 0) (back := false) (values := true) (by decide) (by decide) (by decide) (by decide) (by decide) (by decide))
  have HI1 := Lib.hid (WS.Inv.step HI0.out (rdC_bd (bd_of hbd)))
  have l0 : (WS.init 0 9 false 0 true).levels.length < 1000 ∧ (WS.init 0 9 false 0 true).pairs.length < 1000 ∧ (WS.init 0 9 false 0 true).spots.length < 1000 := by decide
  have HBD := Lib.hid hbd
  have Q1 := Lib.hid q1
  have Q2 := Lib.hid q2
  have Q3 := Lib.hid q3
  have Q4 := Lib.hid q4
  have Q5 := Lib.hid q5
  have Q6 := Lib.hid q6
  have Q7 := Lib.hid q7
  have L0 := Lib.hid l0
  clear hbd q1 q2 q3 q4 q5 q6 q7 l0
  go_wp2_with (fail)
  with_reducible refine (newW_any 0 9 false 0 true _).mono ?_
  rintro e w3 ⟨rfl, hs, hb⟩
  have HC3 := Lib.hid (HC2.out.l.below hb)
  have HS3 := Lib.hid hs
  have hB3 := hB2.trans (hb.mono (by omega))
  have hz3 := hb.size
  clear hs hb HC2 hB2
  generalize w2.heap.size = lo at HS3 HC3 hz2 hz3 ⊢
  generalize WS.init 0 9 false 0 true = s0 at HS3 HI0 HI1 Q1 Q2 Q3 Q4 Q5 Q6 Q7 L0
  go_wp2_with (fail)
  with_reducible refine (stepL_any b lo lo beginL 9 _ _ HS3.out HC3.out HI0.out hz3 (by decide) HBD.out L0.out.1 L0.out.2.1 L0.out.2.2).mono ?_
  rintro e w4 ⟨rfl, hs, hc, hb⟩
  generalize s0.step (rdC beginL) = s1 at hs HI1 Q1 Q2 Q3 Q4 Q5 Q6 Q7 ⊢
  rw [Q1.out]
  have HS4 := Lib.hid hs
  have HC4 := Lib.hid hc
  have hB4 := hB3.trans (hb.below (B := b) (fun x hx => by omega) (by omega))
  have hz4 := hb.size
  clear hs hc hb HS3 HC3 hB3
  go_wp2_with (fail)
  with_reducible refine (stepL_any b lo lo beginL 9 _ _ HS4.out HC4.out HI1.out (by omega) (by decide) HBD.out Q5.out Q6.out Q7.out).mono ?_
  rintro e w5 ⟨rfl, hs, hc, hb⟩
  generalize s1.step (rdC beginL) = s2 at hs Q2 Q3 Q4 ⊢
  rw [Q2.out]
  have HS5 := Lib.hid hs
  have hB5 := hB4.trans (hb.below (B := b) (fun x hx => by omega) (by omega))
  have hz5 := hb.size
  clear hs hc hb HS4 HC4 hB4
  go_wp2_with (fail)
  with_reducible refine (spotsW_any _ _ _ _ HS5.out Q2.out (by rw [Q4.out]; decide)).mono ?_
  rintro e w6 ⟨v6, rfl, hO, hb⟩
  rw [Q4.out] at hO
  obtain ⟨g, c, rfl, _, hlt⟩ := hO.form (by decide)
  have HO := Lib.hid hO
  have HS6 := Lib.hid (HS5.out.below hb)
  have hB6 := hB5.trans (hb.mono (by omega))
  have hz6 := hb.size
  clear hO hb HS5 hB5 hlt
  go_wp2_with (fail)
  with_reducible refine (doneW_any _ _ _ _ HS6.out).mono ?_
  rintro e w7 ⟨rfl, rfl⟩
  rw [Q2.out]
  go_wp2_with (fail)
  with_reducible refine (pairsW_any _ _ _ _ HS6.out Q2.out (by rw [Q3.out]; decide)).mono ?_
  rintro e w7 ⟨v7, rfl, hO7, hb⟩
  rw [Q3.out] at hO7
  obtain ⟨A7, c7, rfl⟩ := own_shape hO7
  have hO := own_below HO.out hb
  have c0 : w7.cell? ⟨g, 0, none⟩ = some (.int .i64 6) := hO.cellAt 0 (by decide)
  have c1 : w7.cell? ⟨g, 1, none⟩ = some (.int .i64 57) := hO.cellAt 1 (by decide)
  have hB7 := hB6.trans (hb.mono (by omega))
  have HB7 := Lib.hid (hbe ▸ hB7)
  clear hO hO7 hb HS6 hB6 hB7
  go_wp2_with (fail)
  go_ret
  exact ⟨rfl, HB7.out⟩
structure WalkedP (b : Nat) (M : List Int) (j : Nat) (f : Nat) (s : WS) (w : World) : Prop where
  lo : b < f
  hi : f < w.heap.size
  hp : WalkP (fun x => f ≤ x) f s w
theorem WalkedP.chg {b : Nat} {M : List Int} {j f : Nat} {s : WS} {w w' : World} (h : WalkedP b M j f s w) (m : Chg (fun x => x = b) w w') : WalkedP b M j f s w' :=
  ⟨h.lo, Nat.lt_of_lt_of_le h.hi m.size, h.hp.chg m (fun x hx e => by have := h.lo; omega)⟩
theorem WalkedP.below {b : Nat} {M : List Int} {j f : Nat} {s : WS} {w w' : World} (h : WalkedP b M j f s w) (m : Below w.heap.size w w') : WalkedP b M j f s w' := h.chg (Chg.of_below m)
set_option maxRecDepth 100000 in
set_option maxHeartbeats 4000000 in
theorem walkKnown_walk (w : World) : Calls Try.prog 10 #[] w fun e w' => e = .returned (.bool true) ∧ Below w.heap.size w w' := by
  go_enter Try.func10, Try.ntmps10
  go_wp2_with (fail)
  with_reducible refine (memNew_any 60 _ (by decide) (by decide)).mono ?_
  rintro e w1 ⟨rfl, hm, hb⟩
  have hB1 := hb
  have HM := Lib.hid hm
  clear hm hb
  obtain ⟨b, hbe⟩ : ∃ b, w.heap.size = b := ⟨_, rfl⟩
  rw [hbe] at HM hB1 ⊢
  go_wp2_with (fail)
  with_reducible refine (begin_any b b 60 0 0 0 _ HM.out (by decide) (by decide)).mono ?_
  rintro e w2 ⟨rfl, v, hm, ho, _⟩
  have hz2 : b < w2.heap.size := by have := hB1.size; have := ho.size; have := HM.out.blk.lt; omega
  have hB2 := hB1.trans (ho.below (B := b) (by simp) (by have := HM.out.blk.lt; omega))
  have HM2 : Hid (MemP b b v beginL 60 2 0 0 w2) := Lib.hid (by rw [show bump (bump 0) = 2 from by kernel_rfl] at hm; exact hm)
  clear hm ho HM hB1
  have hq : PairsAt (w2.alloc (.cells #[.int .i64 1, .int .i64 10, .int .i64 2, .int .i64 20, .int .i64 3, .int .i64 30] 51)) (w2.alloc (.cells #[.int .i64 1, .int .i64 10, .int .i64 2, .int .i64 20, .int .i64 3, .int .i64 30] 51)).heap.size (some ⟨w2.heap.size, 0, none⟩) p3L := (pairs_row w2 51 p3L).more (by simp)
  have hb := (Below.refl w2.heap.size w2).alloc (Nat.le_refl _) (.cells #[.int .i64 1, .int .i64 10, .int .i64 2, .int .i64 20, .int .i64 3, .int .i64 30] 51)
  have HM3 := Lib.hid (HM2.out.below hb)
  have hB3 := hB2.trans (hb.mono (by omega))
  have hz3 := hb.size
  have hap : Apart (some ⟨w2.heap.size, 0, none⟩) b v := fun ad ha hx => by
    injection ha with ha
    subst ha
    rcases hx with h | h
    · have : w2.heap.size = b := h
      omega
    · have : w2.heap.size < w2.heap.size := own_lt HM2.out.own _ h
      omega
  have HQ := Lib.hid hq
  have HA := Lib.hid hap
  clear hq hap
  clear HM2 hB2 hb
  go_wp2_with (fail)
  generalize w2.alloc (.cells #[.int .i64 1, .int .i64 10, .int .i64 2, .int .i64 20, .int .i64 3, .int .i64 30] 51) = w3 at HQ HM3 hB3 hz3 ⊢
  with_reducible refine (build_any b b v beginL 60 2 0 0 _ 3 3 p3L _ (by kernel_rfl) (by decide) HM3.out HQ.out (by decide) (by decide) p3_asc HA.out (by decide +kernel)).mono ?_
  rintro e w4 ⟨rfl, v4, c4, hm, hc, _⟩
  have hB4 := hB3.trans (HM3.out.low hc)
  have HC4 : Hid (MemC b (layF (p3L.length + 1) beginL p3L).1 60 w4) := Lib.hid ⟨_, _, _, hm⟩
  rw [show (layF (p3L.length + 1) beginL p3L).2 = 179 from tree3_len.2.1]
  clear hm hc HM3 HQ HA hB3
  go_wp2_with (fail)
  with_reducible refine (writeC_any b _ 60 6 179 _ HC4.out (by decide +kernel) (by decide) (by decide)).mono ?_
  rintro e w5 ⟨rfl, hc, hb⟩
  rw [mem01] at hc
  have hc : MemC b tree3 60 w5 := hc
  have hB5 := hB4.trans hb
  have hbd := memK_bd 0 (by omega)
  have hml := memK_len 0 (by omega)
  have hbd : ∀ x ∈ tree3, -9223372036854775808 ≤ x ∧ x ≤ 9223372036854775807 := hbd
  have hml : tree3.length ≤ 60 := hml
  clear hb HC4 hB4 hz2 hz3
  obtain ⟨M, hM⟩ : ∃ M, tree3 = M := ⟨_, rfl⟩
  obtain ⟨Sa, sa, ha⟩ := asked17 (j := 0) (by omega) hM
  obtain ⟨Sb, sb, hb⟩ := asked17 (j := 1) (by omega) hM
  obtain ⟨Sc, sc, hcc⟩ := asked17 (j := 2) (by omega) hM
  obtain ⟨Sd, sd, hd⟩ := asked17 (j := 3) (by omega) hM
  rw [hM] at hc hbd hml
  have hml : M.length ≤ 1000000 := by omega
  have HC5 := Lib.hid hc
  have HBD := Lib.hid hbd
  have HML := Lib.hid hml
  have SA := Lib.hid ha
  have SB := Lib.hid hb
  have SC := Lib.hid hcc
  have SD := Lib.hid hd
  have HB5 := Lib.hid hB5
  clear hbd hml ha hb hcc hd hB5
  clear hc hM
  have SAW : Hid (Walked (rdC M) (WS.init (-9223372036854775808) 9223372036854775807 false 0 true) Sa sa) := Lib.hid SA.out.w
  have SBW : Hid (Walked (rdC M) (WS.init 2 9 true 0 false) Sb sb) := Lib.hid SB.out.w
  have SCW : Hid (Walked (rdC M) (WS.init 0 2 true 1 true) Sc sc) := Lib.hid SC.out.w
  have SDW : Hid (Walked (rdC M) (WS.init 3 2 false 0 true) Sd sd) := Lib.hid SD.out.w
  go_wp2_with (fail)
  with_reducible refine (alone_any b M 60 (-9223372036854775808) 9223372036854775807 false 0 true Sa sa _ HC5.out HML.out HBD.out SAW.out).mono ?_
  rintro e w6 ⟨rfl, hw, hc, ho⟩
  have hbl := HC5.out.lt
  have HA6 : Hid (WalkedP b M 0 w5.heap.size (sa Sa) w6) := Lib.hid ⟨hbl, by obtain ⟨_, _, _, _, _, h⟩ := hw; exact h.blk.lt, hw⟩
  have HC6 := Lib.hid hc
  have HB6 := Lib.hid (HB5.out.trans (ho.below (B := b) (fun x hx => by omega) (by omega)))
  clear hw hc ho HC5 HB5 hbl
  generalize w5.heap.size = fa at HA6 ⊢
  go_wp2_with (fail)
  with_reducible refine (alone_any b M 60 2 9 true 0 false Sb sb _ HC6.out HML.out HBD.out SBW.out).mono ?_
  rintro e w7 ⟨rfl, hw, hc, ho⟩
  have hbl := HC6.out.lt
  have HA7 := Lib.hid (HA6.out.chg ho)
  have HB7 : Hid (WalkedP b M 1 w6.heap.size (sb Sb) w7) := Lib.hid ⟨hbl, by obtain ⟨_, _, _, _, _, h⟩ := hw; exact h.blk.lt, hw⟩
  have HC7 := Lib.hid hc
  have HL7 := Lib.hid (HB6.out.trans (ho.below (B := b) (fun x hx => by omega) (by omega)))
  clear hw hc ho HC6 HB6 HA6 hbl
  generalize w6.heap.size = fb at HB7 ⊢
  go_wp2_with (fail)
  with_reducible refine (alone_any b M 60 0 2 true 1 true Sc sc _ HC7.out HML.out HBD.out SCW.out).mono ?_
  rintro e w8 ⟨rfl, hw, hc, ho⟩
  have hbl := HC7.out.lt
  have HA8 := Lib.hid (HA7.out.chg ho)
  have HB8 := Lib.hid (HB7.out.chg ho)
  have HP8 : Hid (WalkedP b M 2 w7.heap.size (sc Sc) w8) := Lib.hid ⟨hbl, by obtain ⟨_, _, _, _, _, h⟩ := hw; exact h.blk.lt, hw⟩
  have HC8 := Lib.hid hc
  have HL8 := Lib.hid (HL7.out.trans (ho.below (B := b) (fun x hx => by omega) (by omega)))
  clear hw hc ho HC7 HL7 HA7 HB7 hbl
  generalize w7.heap.size = fc at HP8 ⊢
  go_wp2_with (fail)
  with_reducible refine (alone_any b M 60 3 2 false 0 true Sd sd _ HC8.out HML.out HBD.out SDW.out).mono ?_
  rintro e w9 ⟨rfl, hw, hc, ho⟩
  have hbl := HC8.out.lt
  have HA9 := Lib.hid (HA8.out.chg ho)
  have HB9 := Lib.hid (HB8.out.chg ho)
  have HP9 := Lib.hid (HP8.out.chg ho)
  have HD9 : Hid (WalkedP b M 3 w8.heap.size (sd Sd) w9) := Lib.hid ⟨hbl, by obtain ⟨_, _, _, _, _, h⟩ := hw; exact h.blk.lt, hw⟩
  have HL9 := Lib.hid (HL8.out.trans (ho.below (B := b) (fun x hx => by omega) (by omega)))
  clear hw hc ho HC8 HL8 HA8 HB8 HP8 hbl
  generalize w8.heap.size = fd at HD9 ⊢
  go_wp2_with (fail)
  with_reducible refine (known17_any _).mono ?_
  rintro e w10 ⟨rfl, ho⟩
  have HA10 := Lib.hid (HA9.out.below ho)
  have HB10 := Lib.hid (HB9.out.below ho)
  have HP10 := Lib.hid (HP9.out.below ho)
  have HD10 := Lib.hid (HD9.out.below ho)
  have HL10 := Lib.hid (HL9.out.trans (ho.mono (by have := HA9.out.lo; have := HA9.out.hi; omega)))
  clear ho HA9 HB9 HP9 HD9 HL9
  go_wp2_with (fail)
  with_reducible refine (doneW_any _ _ _ _ HA10.out.hp).mono ?_
  rintro e w11 ⟨rfl, rfl⟩
  rw [SA.out.w.done]
  go_wp2_with (fail)
  with_reducible refine (doneW_any _ _ _ _ HB10.out.hp).mono ?_
  rintro e w11 ⟨rfl, rfl⟩
  rw [SB.out.w.done]
  go_wp2_with (fail)
  with_reducible refine (doneW_any _ _ _ _ HP10.out.hp).mono ?_
  rintro e w11 ⟨rfl, rfl⟩
  rw [SC.out.w.done]
  go_wp2_with (fail)
  with_reducible refine (doneW_any _ _ _ _ HD10.out.hp).mono ?_
  rintro e w11 ⟨rfl, rfl⟩
  rw [SD.out.w.done]
  go_wp2_with (fail)
  go_wp2_with (fail)
  with_reducible refine (pairsW_any _ _ _ _ HA10.out.hp SA.out.w.done (Nat.le_trans (Nat.le_of_lt (SA.out.w.l2 _ (Nat.le_refl _))) (by decide))).mono ?_
  rintro e w11 ⟨v11, rfl, hO, hb⟩
  have hO : w11.ownsRow w10.heap.size 51 2 v11 3 (cellsP p3L) := by rw [SA.out.pairs] at hO; exact hO
  obtain ⟨A11, c11, rfl⟩ := own_shape hO
  have hx := (Below.refl w11.heap.size w11).alloc (Nat.le_refl _) (.cells #[.int .i64 1, .int .i64 10, .int .i64 2, .int .i64 20, .int .i64 3, .int .i64 30] 51)
  have hbx := hb.trans (hx.mono hb.size)
  have HQ1 : Hid (PairsAt (w11.alloc (.cells #[.int .i64 1, .int .i64 10, .int .i64 2, .int .i64 20, .int .i64 3, .int .i64 30] 51)) (w11.alloc (.cells #[.int .i64 1, .int .i64 10, .int .i64 2, .int .i64 20, .int .i64 3, .int .i64 30] 51)).heap.size A11 p3L) := Lib.hid (Reads.of_own (own_below hO hx))
  have HQ2 : Hid (PairsAt (w11.alloc (.cells #[.int .i64 1, .int .i64 10, .int .i64 2, .int .i64 20, .int .i64 3, .int .i64 30] 51)) (w11.alloc (.cells #[.int .i64 1, .int .i64 10, .int .i64 2, .int .i64 20, .int .i64 3, .int .i64 30] 51)).heap.size (some ⟨w11.heap.size, 0, none⟩) p3L) := Lib.hid ((pairs_row w11 51 p3L).more (by simp))
  have HA12 := Lib.hid (HA10.out.below hbx)
  have HB12 := Lib.hid (HB10.out.below hbx)
  have HP12 := Lib.hid (HP10.out.below hbx)
  have HD12 := Lib.hid (HD10.out.below hbx)
  have HL12 := Lib.hid (HL10.out.trans (hbx.mono (by have := HD10.out.lo; have := HD10.out.hi; omega)))
  clear hO hb hx hbx HA10 HB10 HP10 HD10 HL10
  go_wp2_with (fail)
  generalize w11.alloc (.cells #[.int .i64 1, .int .i64 10, .int .i64 2, .int .i64 20, .int .i64 3, .int .i64 30] 51) = w12 at HA12 HB12 HP12 HD12 HL12 HQ1 HQ2 ⊢
  with_reducible refine (pairsSame_any _ _ _ _ 3 3 _ p3L _ (by decide) (by decide) HQ1.out HQ2.out (by decide)).mono ?_
  rintro e w13 ⟨rfl, hd⟩
  have HA13 := Lib.hid (HA12.out.below (drawn_bl hd _))
  have HB13 := Lib.hid (HB12.out.below (drawn_bl hd _))
  have HP13 := Lib.hid (HP12.out.below (drawn_bl hd _))
  have HD13 := Lib.hid (HD12.out.below (drawn_bl hd _))
  have HL13 := Lib.hid (HL12.out.trans (drawn_bl hd _))
  clear hd HQ1 HQ2 HA12 HB12 HP12 HD12 HL12
  go_wp2_with (fail)
  with_reducible refine (spotsW_any _ _ _ _ HA13.out.hp SA.out.w.done (Nat.le_trans (Nat.le_of_lt (SA.out.w.l3 _ (Nat.le_refl _))) (by decide))).mono ?_
  rintro e w14 ⟨v14, rfl, hO, hb⟩
  rw [SA.out.s0 rfl] at hO
  obtain ⟨A14, c14, rfl⟩ := own_shape hO
  have HB14 := Lib.hid (HB13.out.below hb)
  have HP14 := Lib.hid (HP13.out.below hb)
  have HD14 := Lib.hid (HD13.out.below hb)
  have HL14 := Lib.hid (HL13.out.trans (hb.mono (by have := HD13.out.lo; have := HD13.out.hi; omega)))
  clear hO hb HB13 HP13 HD13 HA13 HL13
  go_wp2_with (fail)
  with_reducible refine (pairsW_any _ _ _ _ HB14.out.hp SB.out.w.done (Nat.le_trans (Nat.le_of_lt (SB.out.w.l2 _ (Nat.le_refl _))) (by decide))).mono ?_
  rintro e w15 ⟨v15, rfl, hO, hb⟩
  have hO : w15.ownsRow w14.heap.size 51 2 v15 2 (cellsP [(3, 0), (2, 0)]) := by rw [SB.out.pairs] at hO; exact hO
  obtain ⟨A15, c15, rfl⟩ := own_shape hO
  have hx := (Below.refl w15.heap.size w15).alloc (Nat.le_refl _) (.cells #[.int .i64 3, .int .i64 0, .int .i64 2, .int .i64 0] 51)
  have hbx := hb.trans (hx.mono hb.size)
  have HQ1 : Hid (PairsAt (w15.alloc (.cells #[.int .i64 3, .int .i64 0, .int .i64 2, .int .i64 0] 51)) (w15.alloc (.cells #[.int .i64 3, .int .i64 0, .int .i64 2, .int .i64 0] 51)).heap.size A15 [(3, 0), (2, 0)]) := Lib.hid (Reads.of_own (own_below hO hx))
  have HQ2 : Hid (PairsAt (w15.alloc (.cells #[.int .i64 3, .int .i64 0, .int .i64 2, .int .i64 0] 51)) (w15.alloc (.cells #[.int .i64 3, .int .i64 0, .int .i64 2, .int .i64 0] 51)).heap.size (some ⟨w15.heap.size, 0, none⟩) [(3, 0), (2, 0)]) := Lib.hid ((pairs_row w15 51 [(3, 0), (2, 0)]).more (by simp))
  have HB16 := Lib.hid (HB14.out.below hbx)
  have HP16 := Lib.hid (HP14.out.below hbx)
  have HD16 := Lib.hid (HD14.out.below hbx)
  have HL16 := Lib.hid (HL14.out.trans (hbx.mono (by have := HD14.out.lo; have := HD14.out.hi; omega)))
  clear hO hb hx hbx HB14 HP14 HD14 HL14
  go_wp2_with (fail)
  generalize w15.alloc (.cells #[.int .i64 3, .int .i64 0, .int .i64 2, .int .i64 0] 51) = w16 at HB16 HP16 HD16 HL16 HQ1 HQ2 ⊢
  with_reducible refine (pairsSame_any _ _ _ _ 2 2 _ [(3, 0), (2, 0)] _ (by decide) (by decide) HQ1.out HQ2.out (by decide)).mono ?_
  rintro e w17 ⟨rfl, hd⟩
  have HB17 := Lib.hid (HB16.out.below (drawn_bl hd _))
  have HP17 := Lib.hid (HP16.out.below (drawn_bl hd _))
  have HD17 := Lib.hid (HD16.out.below (drawn_bl hd _))
  have HL17 := Lib.hid (HL16.out.trans (drawn_bl hd _))
  clear hd HQ1 HQ2 HB16 HP16 HD16 HL16
  go_wp2_with (fail)
  with_reducible refine (spotsW_any _ _ _ _ HB17.out.hp SB.out.w.done (Nat.le_trans (Nat.le_of_lt (SB.out.w.l3 _ (Nat.le_refl _))) (by decide))).mono ?_
  rintro e w18 ⟨v18, rfl, hO, hb⟩
  rw [SB.out.s1 rfl] at hO
  obtain ⟨A18, c18, rfl⟩ := own_shape hO
  have HP18 := Lib.hid (HP17.out.below hb)
  have HD18 := Lib.hid (HD17.out.below hb)
  have HL18 := Lib.hid (HL17.out.trans (hb.mono (by have := HD17.out.lo; have := HD17.out.hi; omega)))
  clear hO hb HP17 HD17 HB17 HL17
  go_wp2_with (fail)
  with_reducible refine (pairsW_any _ _ _ _ HP18.out.hp SC.out.w.done (Nat.le_trans (Nat.le_of_lt (SC.out.w.l2 _ (Nat.le_refl _))) (by decide))).mono ?_
  rintro e w19 ⟨v19, rfl, hO, hb⟩
  have hO : w19.ownsRow w18.heap.size 51 2 v19 1 (cellsP [(2, 20)]) := by rw [SC.out.pairs] at hO; exact hO
  obtain ⟨A19, c19, rfl⟩ := own_shape hO
  have hx := (Below.refl w19.heap.size w19).alloc (Nat.le_refl _) (.cells #[.int .i64 2, .int .i64 20] 51)
  have hbx := hb.trans (hx.mono hb.size)
  have HQ1 : Hid (PairsAt (w19.alloc (.cells #[.int .i64 2, .int .i64 20] 51)) (w19.alloc (.cells #[.int .i64 2, .int .i64 20] 51)).heap.size A19 [(2, 20)]) := Lib.hid (Reads.of_own (own_below hO hx))
  have HQ2 : Hid (PairsAt (w19.alloc (.cells #[.int .i64 2, .int .i64 20] 51)) (w19.alloc (.cells #[.int .i64 2, .int .i64 20] 51)).heap.size (some ⟨w19.heap.size, 0, none⟩) [(2, 20)]) := Lib.hid ((pairs_row w19 51 [(2, 20)]).more (by simp))
  have HD20 := Lib.hid (HD18.out.below hbx)
  have HL20 := Lib.hid (HL18.out.trans (hbx.mono (by have := HD18.out.lo; have := HD18.out.hi; omega)))
  clear hO hb hx hbx HD18 HP18 HL18
  go_wp2_with (fail)
  generalize w19.alloc (.cells #[.int .i64 2, .int .i64 20] 51) = w20 at HD20 HL20 HQ1 HQ2 ⊢
  with_reducible refine (pairsSame_any _ _ _ _ 1 1 _ [(2, 20)] _ (by decide) (by decide) HQ1.out HQ2.out (by decide)).mono ?_
  rintro e w21 ⟨rfl, hd⟩
  have HD21 := Lib.hid (HD20.out.below (drawn_bl hd _))
  have HL21 := Lib.hid (HL20.out.trans (drawn_bl hd _))
  clear hd HQ1 HQ2 HD20 HL20
  go_wp2_with (fail)
  with_reducible refine (pairsW_any _ _ _ _ HD21.out.hp SD.out.w.done (Nat.le_trans (Nat.le_of_lt (SD.out.w.l2 _ (Nat.le_refl _))) (by decide))).mono ?_
  rintro e w22 ⟨v22, rfl, hO, hb⟩
  have hO : w22.ownsRow w21.heap.size 51 2 v22 0 [] := by rw [SD.out.pairs] at hO; exact hO
  obtain ⟨A22, c22, rfl⟩ := own_shape hO
  have HB0 := Lib.hid (HL21.out.trans (hb.mono (by have := HD21.out.lo; have := HD21.out.hi; omega)))
  clear hO hb HD21 HL21
  go_wp2_with (fail)
  go_ret
  exact ⟨rfl, hbe ▸ HB0.out⟩
end Go.Proofs.Ythmcakobpjnnmaa
