import Derived.Test.YtblajeildolloaaGreatWalkAll
import Derived.Deep.RegionLaw
import Derived.Test.YtblajeildolloaaGreatSeekK
namespace Go.Proofs.YtblajeildolloaaGreat
set_option linter.unusedVariables false
set_option linter.unusedSimpArgs false
open Go.RowKit
/- The frame of walk: Step where it routes. -/

def PushQ (F : Nat → Prop) (b : Nat) (s : WS) (rv pv prv sv : Value) (x : Int × Int × Int) (w : World) (e : Ending) (w' : World) : Prop :=
  e = .returned (.tuple #[]) ∧ ∃ lv', WalkQ (fun x => F x ∨ w.heap.size ≤ x) b { s with levels := x :: s.levels } rv pv lv' prv sv w' ∧ Chg (fun x => F x) w w'
theorem pushQ_any (F : Nat → Prop) (b : Nat) (s : WS) (rv pv lv prv sv : Value) (n d i : Int) (w : World) (h : WalkQ F b s rv pv lv prv sv w) (hl : s.levels.length ≤ 1000000) :
    Calls Tryz.prog 128 #[.pointer (some ⟨b, 9, none⟩), .agg #[.int .i64 n, .int .i64 d, .int .i64 i]] w (PushQ F b s rv pv prv sv (n, d, i) w) := by
  refine (pushL_any F b 9 181 _ lv n d i s.levels w h.blk (by decide) rfl h.lev hl).mono ?_
  rintro e w' ⟨he, lv', hb, hlv, hc⟩
  refine ⟨he, lv', (h.mono (fun x hx => Or.inl hx)).turned hb hlv hc, hc.mono (fun x hx => ?_)⟩
  rcases hx with rfl | e
  · exact h.fb
  · exact h.lev.2 x e
section
variable {F G : Nat → Prop} {b : Nat} {s : WS} {rv pv lv prv sv : Value} {w w' : World}
/-- What hangs on the frame's block but for its two frames, kept where none but blocks of other kinds has been turned. -/
theorem WalkQ.rows (h : WalkQ F b s rv pv lv prv sv w) (m : Chg G w w') (hG : ∀ x, G x → ∃ t cs, Blk w x t cs ∧ (t = 134 ∨ t = 136 ∨ t = 221)) : Blk w' b 181 #[.int .i64 s.next, .int .i64 s.lo, .int .i64 s.hi, .bool s.back, .bool s.values, .int .i64 s.most, .int .i64 s.n, rv, pv, lv, .int .i64 s.at_, .int .i64 s.key, prv, sv] ∧ LvP F lv s.levels w' ∧ PrP F 52 prv s.pairs w' ∧ PrP F 114 sv s.spots w' := by
  have k : ∀ T : TypeId, 134 ≠ T → 136 ≠ T → 221 ≠ T → ∀ x, G x → ∃ t cs, Blk w x t cs ∧ t ≠ T := fun T h1 h2 h3 x hx => by
    obtain ⟨t, cs, hb, e | e | e⟩ := hG x hx
    · exact ⟨t, cs, hb, by rw [e]; exact h1⟩
    · exact ⟨t, cs, hb, by rw [e]; exact h2⟩
    · exact ⟨t, cs, hb, by rw [e]; exact h3⟩
  refine ⟨m.blk h.blk (fun hg => ?_), h.lev.keep m (k _ (by decide) (by decide) (by decide)), h.prs.keep m (k _ (by decide) (by decide) (by decide)), h.sps.keep m (k _ (by decide) (by decide) (by decide))⟩
  obtain ⟨t, cs, hb, ht⟩ := k 181 (by decide) (by decide) (by decide) b hg
  exact hb.ne_ h.blk ht rfl
end
section
variable (F : Nat → Prop) (b bm : Nat) (s : WS) (B : Nat) (v : Value) (C : List Int) (size count odd ref : Int) (w : World)
variable (h : WalkP F b s w) (hm : MemP B bm v C size count odd ref w) (hO : Off F bm v) (hI : s.Inv) (hC : C.length ≤ 1000000) (hw : ∀ i, i < C.length → -9223372036854775808 ≤ keyAt C i ∧ keyAt C i ≤ 9223372036854775807) (hll : s.levels.length < 1000000)
include h hm hO hI hC hw hll
set_option maxRecDepth 100000 in
set_option maxHeartbeats 1000000 in
theorem stepW0_any (hn : s.next = 0) : Calls Tryz.prog 61 #[.pointer (some ⟨b, 0, none⟩), .pointer (some ⟨bm, 0, none⟩)] w (WSPost F b bm s B v C size count odd ref w) := by
  obtain ⟨rv, pv, lv, prv, sv, h⟩ := h
  obtain ⟨rb, rfl, hFr, hr⟩ := h.route
  have ha := Lib.hid (WS.acc0 hn)
  have c0 : w.cell? ⟨b, 0, none⟩ = some (.int .i64 0) := by rw [← hn]; exact h.blk.cell 0
  have c7 : w.cell? ⟨b, 7, none⟩ = some (.pointer (some ⟨rb, 0, none⟩)) := h.blk.cell 7
  have hrI := hI.rt
  have H := Lib.hid h
  have HM := Lib.hid hm
  have HR := Lib.hid hr
  have HN := Lib.hid hn
  have HO := Lib.hid hO
  clear h hm hr hn hO
  clear hI
  go_enter Tryz.func61, Tryz.ntmps61
  go_wp2_with (fail)
  with_reducible refine (stepR2_any rb bm s.route B v C size count odd ref _ HR.out HM.out hrI hC hw).mono ?_
  rintro e w1 ⟨rfl, hr1, hm1, o1⟩
  have k1 : Chg (fun y => y = rb ∨ y = bm) w w1 := Chg.of_only o1 (by simp)
  obtain ⟨hB1, hl1, hp1, hs1⟩ := H.out.rows k1 (fun y hy => by
    rcases hy with rfl | rfl
    · exact ⟨_, _, HR.out.blk, .inr (.inl rfl)⟩
    · exact ⟨_, _, HM.out.blk, .inl rfl⟩)
  have hk1 : PeekO F pv s.peek w1 := H.out.peek.keep k1 (fun y hy => by
    rcases hy with rfl | rfl
    · exact ⟨_, _, HR.out.blk, by decide⟩
    · exact ⟨_, _, HM.out.blk, by decide⟩)
  have O1 : Hid (Chg (fun x => F x ∨ x = bm) w w1) := Lib.hid (k1.mono (fun y hy => hy.imp (fun e => by rw [e]; exact hFr) id))
  have HM1 := Lib.hid hm1
  obtain ⟨r1, hr1e⟩ : ∃ r1, s.route.step (rdC C) = r1 := ⟨_, rfl⟩
  rw [hr1e] at hr1 ⊢
  have HQ1 : Hid (WalkQ F b { s with route := r1 } (.pointer (some ⟨rb, 0, none⟩)) pv lv prv sv w1) := Lib.hid ⟨H.out.fb, hB1, ⟨rb, rfl, hFr, hr1⟩, hk1, hl1, hp1, hs1⟩
  have HR1 := Lib.hid hr1
  clear k1 o1 hm1 H HM HR c0 c7 hB1 hl1 hp1 hs1 hk1 hr1
  by_cases h6 : r1.next = 6
  · have e6 : (r1.next == 6) = true := by simpa using h6
    have hs := Lib.hid (WS.step0e (R := rdC C) HN.out (by rw [hr1e]; exact h6))
    rw [hr1e] at hs
    have c6 : w1.cell? ⟨b, 6, none⟩ = some (.int .i64 s.n) := HQ1.out.blk.cell 6
    have c7 : w1.cell? ⟨b, 7, none⟩ = some (.pointer (some ⟨rb, 0, none⟩)) := HQ1.out.blk.cell 7
    have HRd : Hid (RouteP rb r1 w1.drew) := Lib.hid HR1.out
    have HQd : Hid (WalkQ F b { s with route := r1 } (.pointer (some ⟨rb, 0, none⟩)) pv lv prv sv w1.drew) := Lib.hid (HQ1.out.below (drawn_bl (Drawn.of w1 1) _))
    rw [e6]
    clear e6 hr1e
    go_wp2_with (fail)
    go_region_held3 (fun w' => w'.cell? ⟨b, 6, none⟩ = some (.int .i64 s.n) ∧ w'.cell? ⟨b, 7, none⟩ = some (.pointer (some ⟨rb, 0, none⟩))) (first | go_keep | exact ⟨HQ3.out.blk.cell 6, HQ3.out.blk.cell 7⟩) (first | (go_at_call 33; (with_reducible refine (degree_any rb r1 _ HRd.out h6).mono ?_); rintro e wq ⟨rfl, rfl⟩) | (go_at_call 34; (with_reducible refine (child_any rb r1 _ HRd.out).mono ?_); rintro e wq ⟨rfl, rfl⟩) | (go_at_call 128; (with_reducible refine (pushQ_any F b _ _ pv lv prv sv s.n r1.degree r1.child _ HQd.out (Nat.le_of_lt hll)).mono ?_); rintro e w3 ⟨rfl, lv3, hq3, hc3⟩; have HQ3 := Lib.hid hq3; have HC3 := Lib.hid hc3; clear hq3 hc3))
    have H3 : Hid (WalkP (fun x => F x ∨ w1.drew.heap.size ≤ x) b { s with route := r1, levels := (s.n, r1.degree, r1.child) :: s.levels } w3) := Lib.hid ⟨_, _, _, _, _, HQ3.out⟩
    have HMd := Lib.hid (HM1.out.below (drawn_bl (Drawn.of w1 1) _))
    have Od : Hid (Chg (fun x => F x ∨ x = bm) w w1.drew) := Lib.hid (O1.out.trans (Chg.of_below (drawn_bl (Drawn.of w1 1) _)))
    go_wp2_with (fail)
    with_reducible refine (lookW_any _ b _ _ H3.out (by simp) (by simp; omega)).mono ?_
    rintro e w4 hp
    have HX := Lib.hid ((hp.grown HC3.out).out HMd.out Od.out HO.out)
    obtain ⟨rfl, _, _⟩ := hp
    clear HMd Od H3 HQ3 HC3
    go_wp2_with (fail)
    with_reducible refine (doneW_any _ _ _ _ HX.out.1).mono ?_
    rintro e w5 ⟨rfl, rfl⟩
    go_wp2_with (fail)
    go_ret
    unfold WSPost
    rw [hs.out, ha.out]
    exact ⟨rfl, HX.out⟩
  · have e6 : (r1.next == 6) = false := by simpa using h6
    have hs := Lib.hid (WS.step0 (R := rdC C) HN.out (by rw [hr1e]; exact h6))
    rw [hr1e] at hs
    have HX : Hid (WalkP F b { s with route := r1 } w1) := Lib.hid ⟨_, _, _, _, _, HQ1.out⟩
    rw [e6]
    clear e6 hr1e
    go_wp2_with (fail)
    with_reducible refine (doneW_any _ _ _ _ HX.out).mono ?_
    rintro e w2 ⟨rfl, rfl⟩
    go_wp2_with (fail)
    go_ret
    unfold WSPost
    rw [hs.out, ha.out]
    exact ⟨rfl, HX.out.mono (fun _ => .inl), HM1.out, O1.out⟩
variable (hsl : s.spots.length ≤ 1000000)
include hsl
set_option maxRecDepth 100000 in
set_option maxHeartbeats 2000000 in
theorem stepW1_any (hn : s.next = 1) : Calls Tryz.prog 61 #[.pointer (some ⟨b, 0, none⟩), .pointer (some ⟨bm, 0, none⟩)] w (WSPost F b bm s B v C size count odd ref w) := by
  obtain ⟨i0, hi0, hz0, hz1, hz2⟩ := info_parts info_spot
  obtain ⟨rv, pv, lv, prv, sv, h⟩ := h
  obtain ⟨hlv, p, hp, hpI, hp3⟩ : s.levels ≠ [] ∧ ∃ p, s.peek = some p ∧ p.Inv ∧ p.next ≠ 3 := by
    rcases hI.st with ⟨e, _⟩ | ⟨_, q⟩ | e | e | e | ⟨e, _⟩ | e <;> first | exact q | omega
  have hpk := h.peek
  rw [hp] at hpk
  obtain ⟨pb, rfl, hFp, hP⟩ := hpk
  have ha := Lib.hid (WS.acc1 hn hp)
  have c0 : w.cell? ⟨b, 0, none⟩ = some (.int .i64 1) := by rw [← hn]; exact h.blk.cell 0
  have c8 : w.cell? ⟨b, 8, none⟩ = some (.pointer (some ⟨pb, 0, none⟩)) := h.blk.cell 8
  have HLV := Lib.hid hI.lv
  have H := Lib.hid h
  have HM := Lib.hid hm
  have HP := Lib.hid hP
  have HN := Lib.hid hn
  have HPE := Lib.hid hp
  have HO := Lib.hid hO
  have HNL := Lib.hid hlv
  clear h hm hP hn hp hO hlv
  clear hI hp3
  go_enter Tryz.func61, Tryz.ntmps61
  go_wp2_with (fail)
  with_reducible refine (stepPk_any pb bm p B v C size count odd ref _ HP.out HM.out hpI hC hw).mono ?_
  rintro e w1 ⟨rfl, hP1, hm1, o1⟩
  have k1 : Chg (fun y => y = pb ∨ y = bm) w w1 := Chg.of_only o1 (by simp)
  obtain ⟨hB1, hl1, hp1, hs1⟩ := H.out.rows k1 (fun y hy => by
    rcases hy with rfl | rfl
    · exact ⟨_, _, HP.out.blk, .inr (.inr rfl)⟩
    · exact ⟨_, _, HM.out.blk, .inl rfl⟩)
  have hr1 : RouteO F rv s.route w1 := H.out.route.keep k1 (fun y hy => by
    rcases hy with rfl | rfl
    · exact ⟨_, _, HP.out.blk, by decide⟩
    · exact ⟨_, _, HM.out.blk, by decide⟩)
  have O1 : Hid (Chg (fun x => F x ∨ x = bm) w w1) := Lib.hid (k1.mono (fun y hy => hy.imp (fun e => by rw [e]; exact hFp) id))
  have HM1 := Lib.hid hm1
  have hpb := hpI.step (rdC_bd hw)
  obtain ⟨p1, hp1e⟩ : ∃ p1, p.step (rdC C) = p1 := ⟨_, rfl⟩
  rw [hp1e] at hP1 hpb ⊢
  have HQ1 : Hid (WalkQ F b { s with peek := some p1 } rv (.pointer (some ⟨pb, 0, none⟩)) lv prv sv w1) := Lib.hid ⟨H.out.fb, hB1, hr1, ⟨pb, rfl, hFp, hP1⟩, hl1, hp1, hs1⟩
  have HP1 := Lib.hid hP1
  clear k1 o1 hm1 H HM HP c0 c8 hB1 hl1 hp1 hs1 hr1 hP1
  by_cases h3 : p1.next = 3
  · have e3 : (p1.next == 3) = true := by simpa using h3
    have hs := Lib.hid (WS.step1e (R := rdC C) HN.out HPE.out (by rw [hp1e]; exact h3))
    rw [hp1e] at hs
    have c8 : w1.cell? ⟨b, 8, none⟩ = some (.pointer (some ⟨pb, 0, none⟩)) := HQ1.out.blk.cell 8
    have c13 : w1.cell? ⟨b, 13, none⟩ = some sv := HQ1.out.blk.cell 13
    have x0 := hpb.x0
    have x1 := hpb.x1
    obtain ⟨A, c, rfl⟩ := own_shape HQ1.out.sps.1
    have HPd : Hid (WalkP F b { s with peek := some p1 } w1.drew) := Lib.hid ⟨_, _, _, _, _, HQ1.out.below (drawn_bl (Drawn.of w1 1) _)⟩
    have n1 := World.new_ne w1 ⟨b, 13, none⟩ c13
    have hbl := HQ1.out.blk.lt
    have SLOT : Hid (∀ w2, Below w1.drew.heap.size w1.drew w2 → w2.cell? ⟨b, 8, none⟩ = some (.pointer (some ⟨pb, 0, none⟩)) ∧ w2.cell? ⟨b, 13, none⟩ = some (.slice A s.spots.length c) ∧ PeekP pb p1 w2 ∧ (w2.alloc (.cells #[.int .i64 s.slot, .int .i64 p1.word] 114)).ownsRow 0 114 2 (.slice A s.spots.length c) s.spots.length (cellsP s.spots) ∧ (∀ (j : Nat) (u : Value), ([.int .i64 s.slot, .int .i64 p1.word] : List Value)[j]? = some u → (w2.alloc (.cells #[.int .i64 s.slot, .int .i64 p1.word] 114)).cell? ((⟨w2.heap.size, 0, none⟩ : Addr).add j) = some u) ∧ Below w1.heap.size w1 (w2.alloc (.cells #[.int .i64 s.slot, .int .i64 p1.word] 114)) ∧ w1.heap.size ≤ w2.heap.size) := Lib.hid (fun w2 hb2 => by
      have hb := (drawn_bl (Drawn.of w1 1) w1.heap.size).trans (show Below w1.heap.size w1.drew w2 from hb2)
      have hbq := HQ1.out.below hb
      have hba := hb.alloc hb.size (.cells #[.int .i64 s.slot, .int .i64 p1.word] 114)
      refine ⟨hbq.blk.cell 8, hbq.blk.cell 13, HP1.out.blk.below hb HP1.out.blk.lt, own_below HQ1.out.sps.1 hba, fun j u hu => ?_, hba, hb.size⟩
      have e : (⟨w2.heap.size, 0, none⟩ : Addr).add j = ⟨w2.heap.size, j, none⟩ := by unfold Addr.add; split <;> simp_all
      rw [e]
      have := (Blk.new w2 114 #[.int .i64 s.slot, .int .i64 p1.word]).cell j
      exact this.trans (by simpa using hu))
    have SLOTC : Hid (Calls Tryz.prog 130 #[.pointer (some ⟨b, 0, none⟩)] w1.drew fun e w' => e = .returned (.int .i64 s.slot) ∧ Below w1.drew.heap.size w1.drew w') := Lib.hid (slotW_any F b { s with peek := some p1 } _ HPd.out HNL.out (Nat.le_of_lt hll))
    rw [e3]
    clear e3 hp1e h3 hpI hpb
    go_wp2_with (fail)
    go_region_law (first | (refine step_append_lies _ (by rfl) _ _ _ (by rfl) 0 114 i0 _ 2 16 Tryz.underlying41 hi0 hz0 hz1 hz2 rfl (by omega) (.slice A s.spots.length c) s.spots.length (cellsP s.spots) (by rfl) SF.out.2.2.2.1 ⟨w2.heap.size, 0, none⟩ 1 1 [.int .i64 s.slot, .int .i64 p1.word] (by rfl) (by rfl) SF.out.2.2.2.2.1 (by simp [Value.oneCell']) (by omega) (by unfold maxLen; omega) (by omega) (by omega) (w2.heap.size + 1) (by simp) ?_; intro gg cap w5 hO5 hg5 hat hlt5; have K5 := HQ1.out.apps SF.out.2.2.2.2.2.1 hO5 hg5 (hat.imp id (fun e => by have := SF.out.2.2.2.2.2.2; omega)); have c5 := K5.out.1; have f5 := K5.out.2.1; clear hO5 hg5 hat hlt5) | (go_simp; go_at_call 130; (with_reducible refine (SLOTC.out).mono ?_); rintro e w2 ⟨rfl, hb2⟩; have SF := Lib.hid (SLOT.out w2 hb2); have c8b := SF.out.1; have c13b := SF.out.2.1; have n2 := World.new_ne w2 ⟨b, 13, none⟩ c13b; have hbl2 : b < w2.heap.size := World.block_lt_of_cell? w2 _ c13b; clear hb2) | (go_simp; go_at_call 120; (with_reducible refine (wordPk_any pb p1 _ SF.out.2.2.1).mono ?_); rintro e wq ⟨rfl, rfl⟩))
    all_goals
      have hP : WalkQ (fun x => F x ∨ w1.heap.size ≤ x) b { s with peek := some p1, spots := s.spots ++ [(s.slot, p1.word)] } rv (.pointer (some ⟨pb, 0, none⟩)) lv prv (.slice (some ⟨gg, 0, none⟩) (s.spots.length + 1) cap) (w5.setCell ⟨b, 13, none⟩ (.slice (some ⟨gg, 0, none⟩) (s.spots.length + 1) cap)) ∧ Chg (fun x => F x) w1 (w5.setCell ⟨b, 13, none⟩ (.slice (some ⟨gg, 0, none⟩) (s.spots.length + 1) cap)) := K5.out.2.2
      clear K5 c5 f5 SF c8b c13b n2 hbl2 n1 c8 c13
      revert hP
      generalize w5.setCell ⟨b, 13, none⟩ (.slice (some ⟨gg, 0, none⟩) (s.spots.length + 1) cap) = w6
      rintro ⟨hq6, hc6⟩
      have d8 : w6.cell? ⟨b, 8, none⟩ = some (.pointer (some ⟨pb, 0, none⟩)) := hq6.blk.cell 8
      have HP6 : Hid (PeekP pb p1 w6) := Lib.hid (by obtain ⟨pb', e, _, hp⟩ := hq6.peek; cases e; exact hp)
      have H6 : Hid (WalkP (fun x => F x ∨ w1.heap.size ≤ x) b { s with peek := some p1, spots := s.spots ++ [(s.slot, p1.word)] } w6) := Lib.hid ⟨_, _, _, _, _, hq6⟩
      have HC6 := Lib.hid hc6
      clear hq6 hc6
      go_wp2_with (fail)
      with_reducible refine (wordPk_any pb p1 _ HP6.out).mono ?_
      rintro e w7 ⟨rfl, rfl⟩
      go_wp2_with (fail)
      with_reducible refine (meetW_any _ b _ _ p1.word H6.out (Nat.le_of_lt hll) HLV.out x0 x1).mono ?_
      rintro e w8 hp
      have HX := Lib.hid ((hp.grown HC6.out).out HM1.out O1.out HO.out)
      obtain ⟨rfl, _, _⟩ := hp
      go_wp2_with (fail)
      with_reducible refine (doneW_any _ _ _ _ HX.out.1).mono ?_
      rintro e w9 ⟨rfl, rfl⟩
      go_wp2_with (fail)
      go_ret
      unfold WSPost
      rw [hs.out, ha.out]
      exact ⟨rfl, HX.out⟩
  · have e3 : (p1.next == 3) = false := by simpa using h3
    have hs := Lib.hid (WS.step1 (R := rdC C) HN.out HPE.out (by rw [hp1e]; exact h3))
    rw [hp1e] at hs
    have HX : Hid (WalkP F b { s with peek := some p1 } w1) := Lib.hid ⟨_, _, _, _, _, HQ1.out⟩
    rw [e3]
    clear e3 hp1e
    go_wp2_with (fail)
    with_reducible refine (doneW_any _ _ _ _ HX.out).mono ?_
    rintro e w2 ⟨rfl, rfl⟩
    go_wp2_with (fail)
    go_ret
    unfold WSPost
    rw [hs.out, ha.out]
    exact ⟨rfl, HX.out.mono (fun _ => .inl), HM1.out, O1.out⟩
theorem stepW_any (hpl : s.pairs.length ≤ 1000000) : Calls Tryz.prog 61 #[.pointer (some ⟨b, 0, none⟩), .pointer (some ⟨bm, 0, none⟩)] w (WSPost F b bm s B v C size count odd ref w) := by
  rcases hI.st with ⟨e, _⟩ | ⟨e, _⟩ | e | e | e | ⟨e, _⟩ | e
  · exact stepW0_any F b bm s B v C size count odd ref w h hm hO hI hC hw hll e
  · exact stepW1_any F b bm s B v C size count odd ref w h hm hO hI hC hw hll hsl e
  · exact stepW2_any F b bm s B v C size count odd ref w h hm hO hI hC hw hll hpl e
  · exact stepW3_any F b bm s B v C size count odd ref w h hm hO hI hC hll hpl e
  · exact stepW4_any F b bm s B v C size count odd ref w h hm hO hI hC hw e
  · exact stepW5_any F b bm s B v C size count odd ref w h hm hO hI hC hll e
  · exact stepW6_any F b bm s B v C size count odd ref w h hm e
end
/- The walk of WalkKnown: lists alike; a walk alone. -/

theorem PairsAt.both {w : World} {B : Nat} {A : Option Addr} {L : List (Int × Int)} (h : PairsAt w B A L) (hl : 0 < L.length) : ∃ ad, A = some ad ∧ ad.block < B ∧ ∀ i, i < L.length → w.cell? (ad.add (i * 2)) = some (.int .i64 (pkey L i)) ∧ w.cell? (ad.add (i * 2 + 1)) = some (.int .i64 (pval L i)) := by
  obtain ⟨ad, e, hb, hc⟩ := h.2 hl
  exact ⟨ad, e, hb, fun i hi => ⟨hc _ _ (cellsP_key hi), hc _ _ (cellsP_val hi)⟩⟩
set_option maxHeartbeats 1000000 in
set_option maxRecDepth 100000 in
theorem pairsSame_any (A A2 : Option Addr) (c c2 N N2 B : Nat) (q : List (Int × Int)) (w : World) (hN : N = q.length) (hN2 : N2 = q.length) (h1 : PairsAt w B A q) (h2 : PairsAt w B A2 q) (hl : q.length ≤ 1000000) :
    Calls Tryz.prog 63 #[.slice A N c, .slice A2 N2 c2] w fun e w' => e = .returned (.bool true) ∧ Drawn w w' := by
  subst hN
  subst hN2
  have H1 := Lib.hid h1
  have H2 := Lib.hid h2
  clear h1 h2
  go_enter Tryz.func63, Tryz.ntmps63
  go_wp2_with (fail)
  go_loopw [5] (fun v wr => ∃ (i m : Nat), i ≤ q.length ∧ v = .int .i64 i ∧ wr = w.drewN m) (fun v _ => q.length - (intOf v).toNat)
  case atStart => exact ⟨0, 0, by omega, rfl, rfl⟩
  case round =>
    obtain ⟨i, m, i1, rfl, rfl⟩ := hrel
    by_cases hlt : i < q.length
    · obtain ⟨ad, rfl, _, hc⟩ := H1.out.both (by omega)
      obtain ⟨k1, v1⟩ := hc i hlt
      clear hc
      obtain ⟨ad2, rfl, _, hc⟩ := H2.out.both (by omega)
      obtain ⟨k2, v2⟩ := hc i hlt
      clear hc
      generalize pkey q i = x at k1 k2
      generalize pval q i = y at v1 v2
      have u1 : w.cell? { block := (ad.add (i * 2)).block, off := (ad.add (i * 2)).off + 1 } = some (.int .i64 y) := by rw [← Addr.add_add] at v1; exact v1
      have u2 : w.cell? { block := (ad2.add (i * 2)).block, off := (ad2.add (i * 2)).off + 1 } = some (.int .i64 y) := by rw [← Addr.add_add] at v2; exact v2
      go_wp2_with (fail)
      go_quiet (fail)
      go_wp2_with (fail)
      go_roundw
      case rel => exact ⟨i + 1, _, by omega, by go_num, rfl⟩
      case measure => simp [intOf]; omega
    · go_wp2_with (fail)
      go_ret
      exact ⟨rfl, Drawn.of _ _⟩
def WS.it (R : Int → Int) (s : WS) : Nat → WS
  | 0 => s
  | t + 1 => (WS.it R s t).step R
theorem WS.Inv.it {s : WS} (h : s.Inv) {R : Int → Int} (hR : ∀ a, -9223372036854775808 ≤ R a ∧ R a ≤ 9223372036854775807) : ∀ t, (WS.it R s t).Inv
  | 0 => h
  | t + 1 => (WS.Inv.it h hR t).step hR
/-- A memory whose row lies ahead of a place. -/
def MemL (b lo : Nat) (C : List Int) (size : Int) (w : World) : Prop := ∃ v count odd, MemP b b v C size count odd 0 w ∧ b < lo ∧ ∀ g, v.ownBlock = some g → g < lo
theorem MemL.c {b lo : Nat} {C : List Int} {size : Int} {w : World} (h : MemL b lo C size w) : MemC b C size w := by
  obtain ⟨v, c, o, h, _⟩ := h; exact ⟨v, c, o, h⟩
theorem MemC.l {b : Nat} {C : List Int} {size : Int} {w : World} (h : MemC b C size w) : MemL b w.heap.size C size w := by
  obtain ⟨v, c, o, h⟩ := h; exact ⟨v, c, o, h, h.blk.lt, fun g hg => own_lt h.own g hg⟩
theorem MemL.below {b lo : Nat} {C : List Int} {size : Int} {w w' : World} (h : MemL b lo C size w) (hb : Below w.heap.size w w') : MemL b lo C size w' := by
  obtain ⟨v, c, o, h, r⟩ := h; exact ⟨v, c, o, h.below hb, r⟩
def StepLPost (b fb lo : Nat) (C : List Int) (size : Int) (s : WS) (w : World) (e : Ending) (w' : World) : Prop := e = .returned (.bool ((s.step (rdC C)).next == 6)) ∧ WalkP (fun x => lo ≤ x) fb (s.step (rdC C)) w' ∧ MemL b lo C size w' ∧ Chg (fun x => x = b ∨ lo ≤ x) w w'
/-- Step, of a frame all of whose blocks lie above the memory's. -/
theorem stepL_any (b fb lo : Nat) (C : List Int) (size : Int) (s : WS) (w : World) (h : WalkP (fun x => lo ≤ x) fb s w) (hm : MemL b lo C size w) (hI : s.Inv) (hlw : lo ≤ w.heap.size) (hC : C.length ≤ 1000000) (hw : ∀ x ∈ C, -9223372036854775808 ≤ x ∧ x ≤ 9223372036854775807) (h1 : s.levels.length < 1000) (h2 : s.pairs.length < 1000) (h3 : s.spots.length < 1000) :
    Calls Tryz.prog 61 #[.pointer (some ⟨fb, 0, none⟩), .pointer (some ⟨b, 0, none⟩)] w (StepLPost b fb lo C size s w) := by
  obtain ⟨v, count, odd, hm, hb, hv⟩ := hm
  refine (stepW_any _ fb b s b v C size count odd 0 w h hm ⟨by omega, fun g hg => by have := hv g hg; omega⟩ hI hC (bd_of hw) (by omega) (by omega) (by omega)).mono ?_
  rintro e w' ⟨he, h1, h2, h3⟩
  exact ⟨he, h1.mono (fun x hx => hx.elim id (fun h => by omega)), ⟨v, _, _, h2, hb, hv⟩, h3.mono (fun x hx => hx.symm)⟩
/-- A run of a walk to its end. -/
structure Walked (R : Int → Int) (s : WS) (S : Nat) (st : Nat → WS) : Prop where
  zero : st 0 = s
  step : ∀ t, (st t).step R = st (t + 1)
  inv : ∀ t, (st t).Inv
  going : ∀ t, t < S → (st t).next ≠ 6
  done : (st S).next = 6
  few : S ≤ 1000
  pos : 0 < S
  l1 : ∀ t, t ≤ S → (st t).levels.length < 1000
  l2 : ∀ t, t ≤ S → (st t).pairs.length < 1000
  l3 : ∀ t, t ≤ S → (st t).spots.length < 1000
def AloneIn (b fb lo : Nat) (M : List Int) (size : Int) (S : Nat) (st : Nat → WS) (w0 : World) (nv : Value) (wr : World) : Prop := ∃ t : Nat, t < S ∧ nv = .int .i64 (t : Int) ∧ lo ≤ wr.heap.size ∧ WalkP (fun x => lo ≤ x) fb (st t) wr ∧ MemL b lo M size wr ∧ Chg (fun x => x = b) w0 wr
def AlonePost (b : Nat) (M : List Int) (size : Int) (s : WS) (w : World) (e : Ending) (w' : World) : Prop := e = .returned (.pointer (some ⟨w.heap.size, 0, none⟩)) ∧ WalkP (fun x => w.heap.size ≤ x) w.heap.size s w' ∧ MemC b M size w' ∧ Chg (fun x => x = b) w w'
set_option maxHeartbeats 1000000 in
set_option maxRecDepth 100000 in
theorem alone_any (b : Nat) (M : List Int) (size lo hi : Int) (back : Bool) (most : Int) (values : Bool) (S : Nat) (st : Nat → WS) (w : World) (hM : MemC b M size w) (hl : M.length ≤ 1000000) (hw : ∀ x ∈ M, -9223372036854775808 ≤ x ∧ x ≤ 9223372036854775807) (hst : Walked (rdC M) (WS.init lo hi back most values) S st) :
    Calls Tryz.prog 68 #[.pointer (some ⟨b, 0, none⟩), .int .i64 lo, .int .i64 hi, .bool back, .int .i64 most, .bool values] w (AlonePost b M size (st S) w) := by
  have hS6 := hst.pos
  have hS5 := hst.few
  have HM := Lib.hid hM
  have HW := Lib.hid hw
  have HST := Lib.hid hst
  clear hM hw hst
  go_enter Tryz.func68, Tryz.ntmps68
  go_wp2_with (fail)
  with_reducible refine (newW_any lo hi back most values _).mono ?_
  rintro e w1 ⟨rfl, hs, hb⟩
  have HS1 : Hid (WalkP (fun x => w.heap.size ≤ x) w.heap.size (st 0) w1) := Lib.hid (by rw [HST.out.zero]; exact hs)
  have HM1 := Lib.hid (HM.out.l.below hb)
  have HC1 : Hid (Chg (fun x => x = b) w w1) := Lib.hid (Chg.of_below hb)
  have hz1 := hb.size
  clear hs hb HM
  go_wp2_with (fail)
  go_loopw [14] (fun nv wr => AloneIn b w.heap.size w.heap.size M size S st w nv wr) (fun nv _ => 1000 - (intOf nv).toNat)
  case atStart => unfold AloneIn; exact ⟨0, hS6, rfl, hz1, HS1.out, HM1.out, HC1.out⟩
  case round =>
    obtain ⟨t, t1, rfl, hlw, hS, hC, hB⟩ := hrel
    clear HS1 HM1 HC1 hz1
    have HC := Lib.hid hC
    have HS := Lib.hid hS
    have HB := Lib.hid hB
    clear hC hS hB
    have ht60 : (t : Int) < 20000 := by omega
    go_wp2_with (fail)
    with_reducible refine (stepL_any b w.heap.size w.heap.size M size (st t) _ HS.out HC.out (HST.out.inv t) hlw hl HW.out (HST.out.l1 t (by omega)) (HST.out.l2 t (by omega)) (HST.out.l3 t (by omega))).mono ?_
    rintro e w4 ⟨rfl, hs, hc, hb⟩
    rw [HST.out.step t] at hs ⊢
    have HS4 := Lib.hid hs
    have HC4 := Lib.hid hc
    have HB4 := Lib.hid (HB.out.grow hb (fun x hx => hx))
    have hz4 : w.heap.size ≤ w4.heap.size := Nat.le_trans hlw hb.size
    clear hs hc hb HS HC HB hlw
    by_cases hlast : t + 1 < S
    · have e5 : ((st (t + 1)).next == 6) = false := by simpa using HST.out.going (t + 1) hlast
      rw [e5]
      clear e5
      go_wp2_with (fail)
      go_roundw
      case rel => unfold AloneIn; exact ⟨t + 1, hlast, by go_num, hz4, HS4.out, HC4.out, HB4.out⟩
      case measure => simp [intOf]; omega
    · have et : S = t + 1 := by omega
      subst et
      have e5 : ((st (t + 1)).next == 6) = true := by simpa using HST.out.done
      rw [e5]
      clear e5 hlast t1 hS5 hS6
      go_wp2_with (fail)
      go_ret
      exact ⟨rfl, HS4.out, HC4.out.c, HB4.out⟩
end Go.Proofs.YtblajeildolloaaGreat
