/- The frame of walk: Step, all but where it routes and peeks. -/
import Derived.Test.YthmcakobpjnnmaaWalkB
import Derived.Test.YthmcakobpjnnmaaSeekT
namespace Go.Proofs.Ythmcakobpjnnmaa
set_option linter.unusedVariables false
set_option linter.unusedSimpArgs false
open Go.RowKit

def WSPost (F : Nat → Prop) (b bm : Nat) (s : WS) (B : Nat) (v : Value) (C : List Int) (size count odd ref : Int) (w : World) (e : Ending) (w' : World) : Prop :=
  e = .returned (.bool ((s.step (rdC C)).next == 6)) ∧ WalkP (fun x => F x ∨ w.heap.size ≤ x) b (s.step (rdC C)) w' ∧ MemP B bm v C size (cntO s.acc count) (oddO C s.acc odd) ref w' ∧ Chg (fun x => F x ∨ x = bm) w w'
theorem keyAtI_bdW {n i : Int} : 0 ≤ keyAtI n i ∧ keyAtI n i ≤ 3298534883332 := by
  unfold keyAtI
  split
  · rename_i h
    have h1 := nearB_yes h.1; have h2 := nearB_yes h.2
    omega
  · omega
theorem WS.ahead_bd (s : WS) : -9223372036854775808 ≤ s.ahead ∧ s.ahead ≤ 9223372036854775807 := by
  unfold WS.ahead
  split
  · have := keyAtI_bdW (n := s.top.1) (i := s.top.2.2); omega
  · have := keyAtI_bdW (n := s.top.1) (i := s.top.2.2 + 1); omega
/-- A walk's blocks are none of the memory's. -/
def Off (F : Nat → Prop) (bm : Nat) (v : Value) : Prop := ¬ F bm ∧ ∀ g, v.ownBlock = some g → ¬ F g
section
variable {F : Nat → Prop} {b bm : Nat} {s : WS} {B : Nat} {v : Value} {C : List Int} {size count odd ref : Int} {rv pv lv prv sv : Value} {w w1 : World}
theorem WalkQ.mem (hm : MemP B bm v C size count odd ref w) (hq : WalkQ F b s rv pv lv prv sv w) (m : Mv bm none w w1) : WalkQ F b s rv pv lv prv sv w1 := by
  have k := Chg.of_mv (F := fun y => y = bm) m rfl
  obtain ⟨a1, a2, a3, a4, a5⟩ := hq.rest k (fun y hy => by subst hy; exact ⟨_, _, hm.blk, .inr rfl⟩)
  exact ⟨hq.fb, k.blk hq.blk (fun e => hq.blk.ne_ hm.blk (by decide) e), a1, a2, a3, a4, a5⟩
/-- A method's end, seen from the step's beginning. -/
theorem WPost.out {s' : WS} {e : Ending} {w' : World} (hm : MemP B bm v C size count odd ref w1) (o : Chg (fun x => F x ∨ x = bm) w w1) (hO : Off F bm v) (h : WPost F b s' w1 e w') : WalkP (fun x => F x ∨ w.heap.size ≤ x) b s' w' ∧ MemP B bm v C size count odd ref w' ∧ Chg (fun x => F x ∨ x = bm) w w' :=
  ⟨h.2.1.mono (fun x hx => hx.imp id (fun y => Nat.le_trans o.size y)), hm.chg h.2.2 hO.1 hO.2, o.trans (h.2.2.mono (fun _ => .inl))⟩
end
section
variable (F : Nat → Prop) (b bm : Nat) (s : WS) (B : Nat) (v : Value) (C : List Int) (size count odd ref : Int) (w : World)
set_option maxRecDepth 100000 in
set_option maxHeartbeats 1000000 in
theorem stepW6_any (h : WalkP F b s w) (hm : MemP B bm v C size count odd ref w) (hn : s.next = 6) : Calls Try.prog 85 #[.pointer (some ⟨b, 0, none⟩), .pointer (some ⟨bm, 0, none⟩)] w (WSPost F b bm s B v C size count odd ref w) := by
  have hs := Lib.hid (WS.step6 (R := rdC C) hn)
  have ha := Lib.hid (WS.acc6 hn)
  have HH := Lib.hid h
  obtain ⟨rv, pv, lv, prv, sv, h⟩ := h
  have c0 : w.cell? ⟨b, 0, none⟩ = some (.int .i64 6) := by rw [← hn]; exact h.blk.cell 0
  have HM := Lib.hid hm
  clear hm
  clear h hn
  go_enter Try.func85, Try.ntmps85
  go_wp2_with (fail)
  with_reducible refine (doneW_any _ _ _ _ HH.out).mono ?_
  rintro e w2 ⟨rfl, rfl⟩
  go_wp2_with (fail)
  go_ret
  unfold WSPost
  rw [hs.out, ha.out]
  exact ⟨rfl, HH.out.mono (fun _ => .inl), HM.out, Chg.refl _ _⟩
variable (h : WalkP F b s w) (hm : MemP B bm v C size count odd ref w) (hO : Off F bm v) (hI : s.Inv) (hC : C.length ≤ 1000000) (hw : ∀ i, i < C.length → -9223372036854775808 ≤ keyAt C i ∧ keyAt C i ≤ 9223372036854775807) (hll : s.levels.length < 1000000) (hpl : s.pairs.length ≤ 1000000)
include h hm hO hI hC hw hll hpl
omit hll hpl in
set_option maxRecDepth 100000 in
set_option maxHeartbeats 1000000 in
theorem stepW4_any (hn : s.next = 4) : Calls Try.prog 85 #[.pointer (some ⟨b, 0, none⟩), .pointer (some ⟨bm, 0, none⟩)] w (WSPost F b bm s B v C size count odd ref w) := by
  have hs := Lib.hid (WS.step4 (R := rdC C) hn)
  have ha := Lib.hid (WS.acc4 hn)
  obtain ⟨rv, pv, lv, prv, sv, h⟩ := h
  have c0 : w.cell? ⟨b, 0, none⟩ = some (.int .i64 4) := by rw [← hn]; exact h.blk.cell 0
  have c10 : w.cell? ⟨b, 10, none⟩ = some (.int .i64 s.at_) := h.blk.cell 10
  have a0 := hI.a0
  have a1 := hI.a1
  have HQ := Lib.hid (fun (w1 : World) (m : Mv bm none w w1) => h.mem hm m)
  have hR := rdC_bd hw
  have HM := Lib.hid hm
  have HO := Lib.hid hO
  clear hm hO
  clear hI hn h
  go_enter Try.func85, Try.ntmps85
  go_wp2_with (fail)
  with_reducible refine (read_any B bm v C size count odd ref s.at_ _ HM.out hC (by omega) (by omega)).mono ?_
  rintro e w2 ⟨rfl, hm2, m2⟩
  have H2 : Hid (WalkP F b s w2) := Lib.hid ⟨_, _, _, _, _, HQ.out w2 m2⟩
  have HM2 := Lib.hid hm2.read
  have O2 : Hid (Chg (fun x => F x ∨ x = bm) w w2) := Lib.hid (Chg.of_mv m2 (.inr rfl))
  clear hm2 m2 c0 c10 HM HQ
  have hr := hR s.at_
  obtain ⟨x, hx⟩ : ∃ x, rdC C s.at_ = x := ⟨_, rfl⟩
  rw [hx] at hr hs ⊢
  clear hx
  go_wp2_with (fail)
  with_reducible refine (refAt_any x _ hr.1 hr.2).mono ?_
  rintro e w3 ⟨rfl, rfl⟩
  go_wp2_with (fail)
  with_reducible refine (enterW_any F b s (wAt x) _ H2.out).mono ?_
  rintro e w3 hp
  have HX := Lib.hid (hp.out HM2.out O2.out HO.out)
  obtain ⟨rfl, _, _⟩ := hp
  go_wp2_with (fail)
  with_reducible refine (doneW_any _ _ _ _ HX.out.1).mono ?_
  rintro e w4 ⟨rfl, rfl⟩
  go_wp2_with (fail)
  go_ret
  unfold WSPost
  rw [hs.out, ha.out]
  exact ⟨rfl, HX.out⟩
omit hw in
set_option maxRecDepth 100000 in
set_option maxHeartbeats 1000000 in
theorem stepW3_any (hn : s.next = 3) : Calls Try.prog 85 #[.pointer (some ⟨b, 0, none⟩), .pointer (some ⟨bm, 0, none⟩)] w (WSPost F b bm s B v C size count odd ref w) := by
  have hs := Lib.hid (WS.step3 (R := rdC C) hn)
  have ha := Lib.hid (WS.acc3 hn)
  obtain ⟨rv, pv, lv, prv, sv, h⟩ := h
  have c0 : w.cell? ⟨b, 0, none⟩ = some (.int .i64 3) := by rw [← hn]; exact h.blk.cell 0
  have c10 : w.cell? ⟨b, 10, none⟩ = some (.int .i64 s.at_) := h.blk.cell 10
  have a0 := hI.a0
  have a1 := hI.a1
  have hm0 := hI.most0
  have hm1 := hI.most1
  have HLV := Lib.hid hI.lv
  have HQ := Lib.hid (fun (w1 : World) (m : Mv bm none w w1) => h.mem hm m)
  have HM := Lib.hid hm
  have HO := Lib.hid hO
  clear hm hO
  clear hI hn h
  go_enter Try.func85, Try.ntmps85
  go_wp2_with (fail)
  with_reducible refine (read_any B bm v C size count odd ref (s.at_ + 1) _ HM.out hC (by omega) (by omega)).mono ?_
  rintro e w2 ⟨rfl, hm2, m2⟩
  have H2 : Hid (WalkP F b s w2) := Lib.hid ⟨_, _, _, _, _, HQ.out w2 m2⟩
  have HM2 := Lib.hid hm2.read
  have O2 : Hid (Chg (fun x => F x ∨ x = bm) w w2) := Lib.hid (Chg.of_mv m2 (.inr rfl))
  clear hm2 m2 c0 c10 HM HQ
  obtain ⟨x, hx⟩ : ∃ x, rdC C (s.at_ + 1) = x := ⟨_, rfl⟩
  rw [hx] at hs ⊢
  clear hx
  go_wp2_with (fail)
  with_reducible refine (foundW_any F b s _ x H2.out (by omega) HLV.out hpl hm0 hm1).mono ?_
  rintro e w3 hp
  have HX := Lib.hid (hp.out HM2.out O2.out HO.out)
  obtain ⟨rfl, _, _⟩ := hp
  go_wp2_with (fail)
  with_reducible refine (doneW_any _ _ _ _ HX.out.1).mono ?_
  rintro e w4 ⟨rfl, rfl⟩
  go_wp2_with (fail)
  go_ret
  unfold WSPost
  rw [hs.out, ha.out]
  exact ⟨rfl, HX.out⟩
omit hpl hw in
set_option maxRecDepth 100000 in
set_option maxHeartbeats 1000000 in
theorem stepW5_any (hn : s.next = 5) : Calls Try.prog 85 #[.pointer (some ⟨b, 0, none⟩), .pointer (some ⟨bm, 0, none⟩)] w (WSPost F b bm s B v C size count odd ref w) := by
  have hs := Lib.hid (WS.step5 (R := rdC C) hn)
  have ha := Lib.hid (WS.acc5 hn)
  obtain ⟨l, L, hl, hmo⟩ : ∃ l ls, s.levels = l :: ls ∧ more s.back l = true := by
    rcases hI.st with ⟨e, _⟩ | ⟨e, _⟩ | e | e | e | ⟨_, q⟩ | e <;> first | exact q | omega
  have HH := Lib.hid h
  obtain ⟨rv, pv, lv, prv, sv, h⟩ := h
  have c0 : w.cell? ⟨b, 0, none⟩ = some (.int .i64 5) := by rw [← hn]; exact h.blk.cell 0
  have HLV := Lib.hid hI.lv
  have hab : -9223372036854775808 ≤ s.ahead ∧ s.ahead ≤ 9223372036854775807 := WS.ahead_bd s
  have hlL : L.length < 1000000 := by rw [hl] at hll; simp at hll; omega
  have hne : s.levels ≠ [] := by rw [hl]; simp
  have HM := Lib.hid hm
  have HO := Lib.hid hO
  have HL := Lib.hid hl
  have HMO := Lib.hid hmo
  have HN := Lib.hid hn
  have HNE := Lib.hid hne
  clear hm hO hl hmo hn hne
  clear hI h
  go_enter Try.func85, Try.ntmps85
  go_wp2_with (fail)
  with_reducible refine (aheadW_any F b s _ HH.out HNE.out (by omega) HLV.out).mono ?_
  rintro e w1 ⟨rfl, hb1⟩
  have HM1 := Lib.hid (HM.out.below hb1)
  have H1 := Lib.hid (HH.out.below hb1)
  have HB1 := Lib.hid hb1
  clear hb1 c0 HM HH
  go_wp2_with (fail)
  with_reducible refine (read_any B bm v C size count odd ref s.ahead _ HM1.out hC hab.1 hab.2).mono ?_
  rintro e w2 ⟨rfl, hm2, m2⟩
  have H2 : Hid (WalkP F b s w2) := Lib.hid (by obtain ⟨rv, pv, lv, prv, sv, h⟩ := H1.out; exact ⟨_, _, _, _, _, h.mem HM1.out m2⟩)
  have HM2 := Lib.hid hm2.read
  have O2 : Hid (Chg (fun x => F x ∨ x = bm) w w2) := Lib.hid ((Chg.of_below HB1.out).trans (Chg.of_mv m2 (.inr rfl)))
  clear hm2 m2 HM1 H1 HB1
  obtain ⟨x, hx⟩ : ∃ x, rdC C s.ahead = x := ⟨_, rfl⟩
  rw [hx] at hs ⊢
  clear hx
  go_wp2_with (fail)
  with_reducible refine (boundW_any F b s _ x H2.out l L HL.out hlL HLV.out HMO.out).mono ?_
  rintro e w3 hp
  have HX := Lib.hid (hp.out HM2.out O2.out HO.out)
  obtain ⟨rfl, _, _⟩ := hp
  go_wp2_with (fail)
  with_reducible refine (doneW_any _ _ _ _ HX.out.1).mono ?_
  rintro e w4 ⟨rfl, rfl⟩
  go_wp2_with (fail)
  go_ret
  unfold WSPost
  rw [hs.out, ha.out]
  exact ⟨rfl, HX.out⟩
set_option maxRecDepth 100000 in
set_option maxHeartbeats 1000000 in
theorem stepW2_any (hn : s.next = 2) : Calls Try.prog 85 #[.pointer (some ⟨b, 0, none⟩), .pointer (some ⟨bm, 0, none⟩)] w (WSPost F b bm s B v C size count odd ref w) := by
  have hs := Lib.hid (WS.step2 (R := rdC C) hn)
  have ha := Lib.hid (WS.acc2 hn)
  obtain ⟨rv, pv, lv, prv, sv, h⟩ := h
  have c0 : w.cell? ⟨b, 0, none⟩ = some (.int .i64 2) := by rw [← hn]; exact h.blk.cell 0
  have c10 : w.cell? ⟨b, 10, none⟩ = some (.int .i64 s.at_) := h.blk.cell 10
  have ew : IntKind.i64.wrap s.at_ = s.at_ := IntWalk.i64_in _ ⟨by have := hI.a0; omega, by have := hI.a1; omega⟩
  have a0 := hI.a0
  have a1 := hI.a1
  have hm0 := hI.most0
  have hm1 := hI.most1
  have HLV := Lib.hid hI.lv
  have HQ := Lib.hid (fun (w1 : World) (m : Mv bm none w w1) => h.mem hm m)
  have HM := Lib.hid hm
  have HO := Lib.hid hO
  clear hm hO
  clear hI hn h
  go_enter Try.func85, Try.ntmps85
  go_wp2_with (fail)
  with_reducible refine (read_any B bm v C size count odd ref s.at_ _ HM.out hC (by omega) (by omega)).mono ?_
  rintro e w2 ⟨rfl, hm2, m2⟩
  have hq2 := HQ.out w2 m2
  have hR2 := rdC_bd hw s.at_
  obtain ⟨x, hx⟩ : ∃ x, rdC C s.at_ = x := ⟨_, rfl⟩
  rw [hx] at hs hR2 ⊢
  have c11 : w2.cell? ⟨b, 11, none⟩ = some (.int .i64 s.key) := hq2.blk.cell 11
  have f11 := hq2.blk.frozen 11
  have o3 : Chg (fun y => y = b) w2 (w2.setCell ⟨b, 11, none⟩ (.int .i64 x)) := Chg.of_mv (F := fun y => y = b) (Mv.set1 w2 b 11 (.int .i64 x)) rfl
  have hq3 := hq2.own o3 (s' := { s with key := x }) (hq2.blk.set_ 11 _) rfl rfl rfl rfl rfl
  have HQ3 := Lib.hid hq3
  have HM3 := Lib.hid (hm2.read.chg (o3.mono (fun y hy => hy ▸ hq2.fb : ∀ y, y = b → F y)) HO.out.1 HO.out.2)
  have O3 : Hid (Chg (fun x => F x ∨ x = bm) w (w2.setCell ⟨b, 11, none⟩ (.int .i64 x))) := Lib.hid ((Chg.of_mv m2 (.inr rfl)).trans (o3.mono (fun y hy => .inl (hy ▸ hq2.fb))))
  clear hm2 m2 hq2 hq3 o3 HQ HM hx ew a0 a1
  go_wp2_with (fail)
  generalize w2.setCell ⟨b, 11, none⟩ (.int .i64 x) = w3 at HQ3 HM3 O3 ⊢
  clear c11 f11
  have c11 : w3.cell? ⟨b, 11, none⟩ = some (.int .i64 x) := HQ3.out.blk.cell 11
  have c1 : w3.cell? ⟨b, 1, none⟩ = some (.int .i64 s.lo) := HQ3.out.blk.cell 1
  have c2 : w3.cell? ⟨b, 2, none⟩ = some (.int .i64 s.hi) := HQ3.out.blk.cell 2
  have c4 : w3.cell? ⟨b, 4, none⟩ = some (.bool s.values) := HQ3.out.blk.cell 4
  have c0 : w3.cell? ⟨b, 0, none⟩ = some (.int .i64 s.next) := HQ3.out.blk.cell 0
  have f0 := HQ3.out.blk.frozen 0
  have HD : Hid (∀ k, WalkP F b { s with key := x } (w3.drewN k) ∧ MemP B bm v C size (bump count) (if 1 ≤ s.at_ ∧ s.at_ ≤ C.length then odd else bump odd) ref (w3.drewN k) ∧ Chg (fun x => F x ∨ x = bm) w (w3.drewN k)) := Lib.hid (fun k => ⟨⟨_, _, _, _, _, HQ3.out.below (drawn_bl ⟨k, rfl⟩ _)⟩, HM3.out.below (drawn_bl ⟨k, rfl⟩ _), O3.out.trans (Chg.of_below (drawn_bl ⟨k, rfl⟩ _))⟩)
  clear HQ3 HM3 O3
  by_cases hx1 : x < s.lo
  · have HS := Lib.hid (hs.out.trans (if_pos (.inl hx1)))
    go_wp2_with (fail)
    go_quiet (fail)
    go_wp2_with (fail)
    with_reducible refine (onwardW_any F b _ _ (HD.out _).1 (Nat.le_of_lt hll) HLV.out).mono ?_
    rintro e w5 hp
    have HX := Lib.hid (hp.out (HD.out _).2.1 (HD.out _).2.2 HO.out)
    obtain ⟨rfl, _, _⟩ := hp
    go_wp2_with (fail)
    with_reducible refine (doneW_any _ _ _ _ HX.out.1).mono ?_
    rintro e w4 ⟨rfl, rfl⟩
    go_wp2_with (fail)
    go_ret
    unfold WSPost
    rw [HS.out, ha.out]
    exact ⟨rfl, HX.out⟩
  · have hx1' : decide (x < s.lo) = false := decide_eq_false hx1
    by_cases hx2 : s.hi < x
    · have HS := Lib.hid (hs.out.trans (if_pos (.inr hx2)))
      clear hx1
      go_wp2_with (fail)
      go_quiet (fail)
      go_wp2_with (fail)
      with_reducible refine (onwardW_any F b _ _ (HD.out _).1 (Nat.le_of_lt hll) HLV.out).mono ?_
      rintro e w5 hp
      have HX := Lib.hid (hp.out (HD.out _).2.1 (HD.out _).2.2 HO.out)
      obtain ⟨rfl, _, _⟩ := hp
      go_wp2_with (fail)
      with_reducible refine (doneW_any _ _ _ _ HX.out.1).mono ?_
      rintro e w4 ⟨rfl, rfl⟩
      go_wp2_with (fail)
      go_ret
      unfold WSPost
      rw [HS.out, ha.out]
      exact ⟨rfl, HX.out⟩
    · have HS := Lib.hid (hs.out.trans (if_neg (by omega)))
      clear hx1
      cases hv : s.values with
      | true =>
        rw [hv] at c4
        have HS2 := Lib.hid (HS.out.trans (if_pos hv))
        clear hv
        go_wp2_with (fail)
        go_quiet (fail)
        go_wp2_with (fail)
        have hp := (HD.out nq).1.fin 3
        have HX := Lib.hid (hp.out (HD.out nq).2.1 (HD.out nq).2.2 HO.out)
        clear hp
        with_reducible refine (doneW_any _ _ _ _ HX.out.1).mono ?_
        rintro e w4 ⟨rfl, rfl⟩
        go_wp2_with (fail)
        go_ret
        unfold WSPost
        rw [HS2.out, ha.out]
        exact ⟨rfl, HX.out⟩
      | false =>
        rw [hv] at c4
        have HS2 := Lib.hid (HS.out.trans (if_neg (by rw [hv]; exact Bool.false_ne_true)))
        clear hv
        go_wp2_with (fail)
        go_quiet (fail)
        go_wp2_with (fail)
        with_reducible refine (foundW_any F b _ _ 0 (HD.out _).1 (Nat.le_of_lt hll) HLV.out hpl hm0 hm1).mono ?_
        rintro e w5 hp
        have HX := Lib.hid (hp.out (HD.out _).2.1 (HD.out _).2.2 HO.out)
        obtain ⟨rfl, _, _⟩ := hp
        go_wp2_with (fail)
        with_reducible refine (doneW_any _ _ _ _ HX.out.1).mono ?_
        rintro e w4 ⟨rfl, rfl⟩
        go_wp2_with (fail)
        go_ret
        unfold WSPost
        rw [HS2.out, ha.out]
        exact ⟨rfl, HX.out⟩
end
end Go.Proofs.Ythmcakobpjnnmaa
