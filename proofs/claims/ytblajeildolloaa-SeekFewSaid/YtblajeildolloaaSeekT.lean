/- The frame of seek: Step. -/
import Derived.Test.YtblajeildolloaaSeek
import Derived.Deep.RegionHeld3
namespace Go.Proofs.Ytblajeildolloaa
set_option linter.unusedVariables false
set_option linter.unusedSimpArgs false
open Go.RowKit

/-- stepR_any in the words of Chg. -/
theorem stepR2_any (b bm : Nat) (s : RS) (B : Nat) (v : Value) (C : List Int) (size count odd ref : Int) (w : World) (h : RouteP b s w) (hm : MemP B bm v C size count odd ref w) (hI : s.Inv) (hC : C.length ≤ 1000000) (hw : ∀ i, i < C.length → -9223372036854775808 ≤ keyAt C i ∧ keyAt C i ≤ 9223372036854775807) :
    Calls Try.prog 26 #[.pointer (some ⟨b, 0, none⟩), .pointer (some ⟨bm, 0, none⟩)] w fun e w' => e = .returned (.bool ((s.step (rdC C)).next == 6)) ∧ RouteP b (s.step (rdC C)) w' ∧ MemP B bm v C size (cntO s.acc count) (oddO C s.acc odd) ref w' ∧ Only [b, bm] w w' :=
  (stepR_any b bm s B v C size count odd ref w h hm hI hC hw).mono fun e w' ⟨h1, h2, h3, h4⟩ => ⟨h1, h2, by
    unfold RS.acc
    by_cases h6 : s.next = 6
    · rw [if_pos h6]; rw [if_pos h6, if_pos (.inl h6)] at h3; exact h3
    · rw [if_neg h6]
      rw [if_neg h6] at h3
      have e : (s.next = 6 ∨ (1 ≤ s.addr ∧ s.addr ≤ C.length)) ↔ (1 ≤ s.addr ∧ s.addr ≤ C.length) := ⟨fun h => h.resolve_left h6, .inr⟩
      simp only [e] at h3
      exact h3, h4⟩
def SPost (F : Nat → Prop) (b bm : Nat) (s : SS) (B : Nat) (v : Value) (C : List Int) (size count odd ref : Int) (w : World) (e : Ending) (w' : World) : Prop :=
  e = .returned (.bool ((s.step (rdC C)).next == 5)) ∧ SeekP (fun x => F x ∨ w.heap.size ≤ x) b (s.step (rdC C)) w' ∧ MemP B bm v C size (cntO s.acc count) (oddO C s.acc odd) ref w' ∧ Chg (fun x => F x ∨ x = bm) w w'
/-- What is left where nothing but the memory's block has been turned. -/
theorem SeekQ.mem {F : Nat → Prop} {b bm : Nat} {s : SS} {B : Nat} {v : Value} {C : List Int} {size count odd ref : Int} {rv pv : Value} {w w1 : World} (hm : MemP B bm v C size count odd ref w) (hq : SeekQ F b s rv pv w) (m : Mv bm none w w1) : SeekQ F b s rv pv w1 := by
  have k := Chg.of_mv (F := fun y => y = bm) m rfl
  exact ⟨hq.fb, k.blk hq.blk (fun e => hq.blk.ne_ hm.blk (by decide) e), hq.route.keep k (fun y hy => by subst hy; exact ⟨_, _, hm.blk, by decide⟩), hq.peek.keep k (fun y hy => by subst hy; exact ⟨_, _, hm.blk, by decide⟩)⟩
set_option maxRecDepth 100000 in
set_option maxHeartbeats 1000000 in
theorem stepS5_any (F : Nat → Prop) (b bm : Nat) (s : SS) (B : Nat) (v : Value) (C : List Int) (size count odd ref : Int) (w : World) (h : SeekP F b s w) (hm : MemP B bm v C size count odd ref w) (hn : s.next = 5) : Calls Try.prog 10 #[.pointer (some ⟨b, 0, none⟩), .pointer (some ⟨bm, 0, none⟩)] w (SPost F b bm s B v C size count odd ref w) := by
  have hs := Lib.hid (SS.step5 (R := rdC C) hn)
  have ha := Lib.hid (SS.acc5 hn)
  have HH := Lib.hid h
  obtain ⟨rv, pv, h⟩ := h
  have c0 : w.cell? ⟨b, 0, none⟩ = some (.int .i64 5) := by rw [← hn]; exact h.blk.cell 0
  have HM := Lib.hid hm
  clear hm
  clear h hn
  go_enter Try.func10, Try.ntmps10
  go_wp2_with (fail)
  with_reducible refine (doneS_any _ _ _ _ HH.out).mono ?_
  rintro e w2 ⟨rfl, rfl⟩
  go_wp2_with (fail)
  go_ret
  unfold SPost
  rw [hs.out, ha.out]
  exact ⟨rfl, HH.out.mono (fun _ => .inl), HM.out, Chg.refl _ _⟩
section
variable (F : Nat → Prop) (b bm : Nat) (s : SS) (B : Nat) (v : Value) (C : List Int) (size count odd ref : Int) (w : World) (h : SeekP F b s w) (hm : MemP B bm v C size count odd ref w) (hI : s.Inv) (hC : C.length ≤ 1000000) (hw : ∀ i, i < C.length → -9223372036854775808 ≤ keyAt C i ∧ keyAt C i ≤ 9223372036854775807)
include h hm hI hC hw
set_option maxRecDepth 100000 in
set_option maxHeartbeats 1000000 in
theorem stepS0_any (hn : s.next = 0) : Calls Try.prog 10 #[.pointer (some ⟨b, 0, none⟩), .pointer (some ⟨bm, 0, none⟩)] w (SPost F b bm s B v C size count odd ref w) := by
  obtain ⟨rv, pv, h⟩ := h
  obtain ⟨rb, rfl, hFr, hr⟩ := h.route
  have ha := Lib.hid (SS.acc0 hn)
  have c0 : w.cell? ⟨b, 0, none⟩ = some (.int .i64 0) := by rw [← hn]; exact h.blk.cell 0
  have c3 : w.cell? ⟨b, 3, none⟩ = some (.pointer (some ⟨rb, 0, none⟩)) := h.blk.cell 3
  have hrI := hI.rt
  have H := Lib.hid h
  have HM := Lib.hid hm
  have HR := Lib.hid hr
  have HN := Lib.hid hn
  clear h hm hr hn
  clear hI
  go_enter Try.func10, Try.ntmps10
  go_wp2_with (fail)
  with_reducible refine (stepR2_any rb bm s.route B v C size count odd ref _ HR.out HM.out hrI hC hw).mono ?_
  rintro e w1 ⟨rfl, hr1, hm1, o1⟩
  have k1 : Chg (fun y => y = rb ∨ y = bm) w w1 := Chg.of_only o1 (by simp)
  have hB1 : Blk w1 b 56 #[.int .i64 s.next, .int .i64 s.k, .int .i64 s.n, .pointer (some ⟨rb, 0, none⟩), pv, .int .i64 s.at_, .int .i64 s.value, .bool s.there] := k1.blk H.out.blk (fun hy => by
    rcases hy with rfl | rfl
    · exact H.out.blk.ne_ HR.out.blk (by decide) rfl
    · exact H.out.blk.ne_ HM.out.blk (by decide) rfl)
  have hp1 : PeekO F pv s.peek w1 := H.out.peek.keep k1 (fun y hy => by
    rcases hy with rfl | rfl
    · exact ⟨_, _, HR.out.blk, by decide⟩
    · exact ⟨_, _, HM.out.blk, by decide⟩)
  have hFb := H.out.fb
  have hne : b ≠ bm := hB1.ne_ hm1.blk (by decide)
  have hvb := own_blk_not hm1.own hB1 (by decide)
  have O1 : Hid (Chg (fun x => F x ∨ x = bm) w w1) := Lib.hid (k1.mono (fun y hy => hy.imp (fun e => by rw [e]; exact hFr) id))
  have HM1 := Lib.hid hm1
  have hz1 := k1.size
  clear k1 o1 hm1 H HM HR c0 c3
  obtain ⟨r1, hr1e⟩ : ∃ r1, s.route.step (rdC C) = r1 := ⟨_, rfl⟩
  rw [hr1e] at hr1 ⊢
  by_cases h6 : r1.next = 6
  · have e6 : (r1.next == 6) = true := by simpa using h6
    have hs := Lib.hid (SS.step0e (R := rdC C) HN.out (by rw [hr1e]; exact h6))
    rw [hr1e] at hs
    have c2 : w1.cell? ⟨b, 2, none⟩ = some (.int .i64 s.n) := hB1.cell 2
    have c3 : w1.cell? ⟨b, 3, none⟩ = some (.pointer (some ⟨rb, 0, none⟩)) := hB1.cell 3
    have HR1 := Lib.hid hr1
    have HB1 := Lib.hid hB1
    rw [e6]
    clear e6 hr1 hB1 hr1e
    go_wp2_with (fail)
    have HRd : Hid (RouteP rb r1 w1.drew) := Lib.hid HR1.out
    have HBd : Hid (Blk w1.drew b 56 #[.int .i64 s.next, .int .i64 s.k, .int .i64 s.n, .pointer (some ⟨rb, 0, none⟩), pv, .int .i64 s.at_, .int .i64 s.value, .bool s.there]) := Lib.hid HB1.out
    go_region_held3 (fun w' => w'.cell? ⟨b, 2, none⟩ = some (.int .i64 s.n) ∧ w'.cell? ⟨b, 3, none⟩ = some (.pointer (some ⟨rb, 0, none⟩))) (first | go_keep | exact ⟨HB2.out.cell 2, HB2.out.cell 3⟩ | exact ⟨HB3.out.cell 2, HB3.out.cell 3⟩ | exact ⟨(HB3.out.set_ 0 _).cell 2, (HB3.out.set_ 0 _).cell 3⟩ | exact ⟨((HB3.out.set_ 0 _).set_ 4 _).cell 2, ((HB3.out.set_ 0 _).set_ 4 _).cell 3⟩) (first | (go_at_call 29; (with_reducible refine (degree_any rb r1 _ HRd.out h6).mono ?_); rintro e wq ⟨rfl, rfl⟩) | (go_at_call 30; (with_reducible refine (child_any rb r1 _ HRd.out).mono ?_); rintro e wq ⟨rfl, rfl⟩) | (go_at_call 28; (with_reducible refine (childat_any _ _ _ _).mono ?_); rintro e w2 ⟨rfl, hb2⟩; have HB2 := Lib.hid (HBd.out.below hb2 HBd.out.lt); have HR2 := Lib.hid (HRd.out.blk.below hb2 HRd.out.blk.lt); have BB2 := Lib.hid hb2; clear hb2) | (go_at_call 27; (with_reducible refine (newPk_any _ _).mono ?_); rintro e w3 ⟨rfl, hp3, hb3, hz3⟩; have HB3 := Lib.hid (HB2.out.below hb3 HB2.out.lt); have c03 := HB3.out.cell 0; have c43 := HB3.out.cell 4; have f03 := HB3.out.frozen 0; have f43 := HB3.out.frozen 4; have HP3 := Lib.hid hp3; have BB3 := Lib.hid hb3; clear hp3 hb3 hz3))
    have hbb : Below w1.heap.size w1 w3 := Below.trans (show Below w1.heap.size w1 w2 from (below_drew BB2.out)) (BB3.out.mono BB2.out.size)
    have hz2 : w1.heap.size ≤ w2.heap.size := BB2.out.size
    have o4 : Chg (fun y => y = b) w1 ((w3.setCell ⟨b, 0, none⟩ (.int .i64 1)).setCell ⟨b, 4, none⟩ (.pointer (some ⟨w2.heap.size, 0, none⟩))) := (Chg.of_below hbb).trans (Chg.of_mv (F := fun y => y = b) ((Mv.set1 w3 b 0 (.int .i64 1)).trans_ (Mv.set1 _ b 4 (.pointer (some ⟨w2.heap.size, 0, none⟩)))) rfl)
    have o5 : Chg (fun y => y = b) w3 ((w3.setCell ⟨b, 0, none⟩ (.int .i64 1)).setCell ⟨b, 4, none⟩ (.pointer (some ⟨w2.heap.size, 0, none⟩))) := Chg.of_mv (F := fun y => y = b) ((Mv.set1 w3 b 0 (.int .i64 1)).trans_ (Mv.set1 _ b 4 (.pointer (some ⟨w2.heap.size, 0, none⟩)))) rfl
    have HX : Hid (SeekP (fun y => F y ∨ w.heap.size ≤ y) b { s with route := r1, next := 1, peek := some (PS.init (childAtI s.n r1.degree r1.child)) } ((w3.setCell ⟨b, 0, none⟩ (.int .i64 1)).setCell ⟨b, 4, none⟩ (.pointer (some ⟨w2.heap.size, 0, none⟩)))) := Lib.hid ⟨_, _, .inl hFb, (HB3.out.set_ 0 _).set_ 4 _, ⟨rb, rfl, .inl hFr, o4.blk HR1.out (fun e => HR1.out.blk.ne_ HB1.out (by decide) e)⟩, ⟨_, rfl, .inr (by omega), o5.blk HP3.out (fun e => HP3.out.blk.ne_ HB3.out (by decide) e)⟩⟩
    have HM4 := Lib.hid (HM1.out.chg o4 (fun e => hne e.symm) (fun y hy e => hvb y hy e))
    have O4 : Hid (Chg (fun x => F x ∨ x = bm) w ((w3.setCell ⟨b, 0, none⟩ (.int .i64 1)).setCell ⟨b, 4, none⟩ (.pointer (some ⟨w2.heap.size, 0, none⟩)))) := Lib.hid (O1.out.trans (o4.mono (fun y hy => .inl (hy ▸ hFb))))
    clear o4 o5 hbb hz2 BB2 BB3 HB2 HR2 HB3 HP3 HR1 HB1 HRd HBd HM1 O1 c03 c43 f03 f43 c2 c3 hp1
    go_wp2_with (fail)
    with_reducible refine (doneS_any _ _ _ _ HX.out).mono ?_
    rintro e w5 ⟨rfl, rfl⟩
    go_wp2_with (fail)
    go_ret
    unfold SPost
    rw [hs.out, ha.out]
    exact ⟨rfl, HX.out, HM4.out, O4.out⟩
  · have e6 : (r1.next == 6) = false := by simpa using h6
    have hs := Lib.hid (SS.step0 (R := rdC C) HN.out (by rw [hr1e]; exact h6))
    rw [hr1e] at hs
    have HX : Hid (SeekP (fun y => F y ∨ w.heap.size ≤ y) b { s with route := r1 } w1) := Lib.hid ⟨_, _, .inl hFb, hB1, ⟨rb, rfl, .inl hFr, hr1⟩, hp1.mono (fun _ => .inl)⟩
    rw [e6]
    clear e6 hB1 hp1 hr1 hr1e
    go_wp2_with (fail)
    with_reducible refine (doneS_any _ _ _ _ HX.out).mono ?_
    rintro e w2 ⟨rfl, rfl⟩
    go_wp2_with (fail)
    go_ret
    unfold SPost
    rw [hs.out, ha.out]
    exact ⟨rfl, HX.out, HM1.out, O1.out⟩
set_option maxRecDepth 100000 in
set_option maxHeartbeats 1000000 in
theorem stepS1_any (hn : s.next = 1) : Calls Try.prog 10 #[.pointer (some ⟨b, 0, none⟩), .pointer (some ⟨bm, 0, none⟩)] w (SPost F b bm s B v C size count odd ref w) := by
  obtain ⟨rv, pv, h⟩ := h
  obtain ⟨p, hp, hpI, hp3⟩ : ∃ p, s.peek = some p ∧ p.Inv ∧ p.next ≠ 3 := by
    rcases hI.st with ⟨e, _⟩ | ⟨_, q⟩ | e | e | e | e <;> first | exact q | omega
  have hpk := h.peek
  rw [hp] at hpk
  obtain ⟨pb, rfl, hFp, hP⟩ := hpk
  have ha := Lib.hid (SS.acc1 hn hp)
  have c0 : w.cell? ⟨b, 0, none⟩ = some (.int .i64 1) := by rw [← hn]; exact h.blk.cell 0
  have c4 : w.cell? ⟨b, 4, none⟩ = some (.pointer (some ⟨pb, 0, none⟩)) := h.blk.cell 4
  have H := Lib.hid h
  have HM := Lib.hid hm
  have HP := Lib.hid hP
  have HN := Lib.hid hn
  have HPE := Lib.hid hp
  clear h hm hP hn hp
  clear hI hp3
  go_enter Try.func10, Try.ntmps10
  go_wp2_with (fail)
  with_reducible refine (stepPk_any pb bm p B v C size count odd ref _ HP.out HM.out hpI hC hw).mono ?_
  rintro e w1 ⟨rfl, hP1, hm1, o1⟩
  have k1 : Chg (fun y => y = pb ∨ y = bm) w w1 := Chg.of_only o1 (by simp)
  have hB1 : Blk w1 b 56 #[.int .i64 s.next, .int .i64 s.k, .int .i64 s.n, rv, .pointer (some ⟨pb, 0, none⟩), .int .i64 s.at_, .int .i64 s.value, .bool s.there] := k1.blk H.out.blk (fun hy => by
    rcases hy with rfl | rfl
    · exact H.out.blk.ne_ HP.out.blk (by decide) rfl
    · exact H.out.blk.ne_ HM.out.blk (by decide) rfl)
  have hr1 : RouteO F rv s.route w1 := H.out.route.keep k1 (fun y hy => by
    rcases hy with rfl | rfl
    · exact ⟨_, _, HP.out.blk, by decide⟩
    · exact ⟨_, _, HM.out.blk, by decide⟩)
  have hFb := H.out.fb
  have hne : b ≠ bm := hB1.ne_ hm1.blk (by decide)
  have hvb := own_blk_not hm1.own hB1 (by decide)
  have O1 : Hid (Chg (fun x => F x ∨ x = bm) w w1) := Lib.hid (k1.mono (fun y hy => hy.imp (fun e => by rw [e]; exact hFp) id))
  have HM1 := Lib.hid hm1
  have hz1 := k1.size
  have hpb := hpI.step (rdC_bd hw)
  clear k1 o1 hm1 H HM HP c0 c4
  obtain ⟨p1, hp1e⟩ : ∃ p1, p.step (rdC C) = p1 := ⟨_, rfl⟩
  rw [hp1e] at hP1 hpb ⊢
  have HX1 : Hid (SeekP F b { s with peek := some p1 } w1) := Lib.hid ⟨_, _, hFb, hB1, hr1, pb, rfl, hFp, hP1⟩
  by_cases h3 : p1.next = 3
  · have e3 : (p1.next == 3) = true := by simpa using h3
    have hs := Lib.hid (SS.step1e (R := rdC C) HN.out HPE.out (by rw [hp1e]; exact h3))
    rw [hp1e] at hs
    have c4 : w1.cell? ⟨b, 4, none⟩ = some (.pointer (some ⟨pb, 0, none⟩)) := hB1.cell 4
    have x0 := hpb.x0
    have x1 := hpb.x1
    have HP1 := Lib.hid hP1
    rw [e3]
    clear e3 hB1 hr1 hP1 hp1e h3 hpI hpb
    go_wp2_with (fail)
    with_reducible refine (wordPk_any pb p1 _ HP1.out).mono ?_
    rintro e w2 ⟨rfl, rfl⟩
    go_wp2_with (fail)
    with_reducible refine (meetS_any F b { s with peek := some p1 } p1.word _ HX1.out x0 x1).mono ?_
    rintro e w3 ⟨rfl, h3, o3⟩
    have HX3 : Hid (SeekP (fun y => F y ∨ w.heap.size ≤ y) b (SS.meet { s with peek := some p1 } p1.word) w3) := Lib.hid (h3.mono (fun y hy => hy.imp id (fun e => by omega)))
    have HM3 := Lib.hid (HM1.out.chg o3 (fun e => hne e.symm) (fun y hy e => hvb y hy e))
    have O3 : Hid (Chg (fun x => F x ∨ x = bm) w w3) := Lib.hid (O1.out.trans (o3.mono (fun y hy => .inl (hy ▸ hFb))))
    clear h3 o3 HM1 O1 HX1
    go_wp2_with (fail)
    with_reducible refine (doneS_any _ _ _ _ HX3.out).mono ?_
    rintro e w5 ⟨rfl, rfl⟩
    go_wp2_with (fail)
    go_ret
    unfold SPost
    rw [hs.out, ha.out]
    exact ⟨rfl, HX3.out, HM3.out, O3.out⟩
  · have e3 : (p1.next == 3) = false := by simpa using h3
    have hs := Lib.hid (SS.step1 (R := rdC C) HN.out HPE.out (by rw [hp1e]; exact h3))
    rw [hp1e] at hs
    have HX : Hid (SeekP (fun y => F y ∨ w.heap.size ≤ y) b { s with peek := some p1 } w1) := Lib.hid (HX1.out.mono (fun _ => .inl))
    rw [e3]
    clear e3 hB1 hr1 hP1 hp1e
    go_wp2_with (fail)
    with_reducible refine (doneS_any _ _ _ _ HX.out).mono ?_
    rintro e w2 ⟨rfl, rfl⟩
    go_wp2_with (fail)
    go_ret
    unfold SPost
    rw [hs.out, ha.out]
    exact ⟨rfl, HX.out, HM1.out, O1.out⟩
set_option maxRecDepth 100000 in
set_option maxHeartbeats 1000000 in
theorem stepS4_any (hn : s.next = 4) : Calls Try.prog 10 #[.pointer (some ⟨b, 0, none⟩), .pointer (some ⟨bm, 0, none⟩)] w (SPost F b bm s B v C size count odd ref w) := by
  have hs := Lib.hid (SS.step4 (R := rdC C) hn)
  have ha := Lib.hid (SS.acc4 hn)
  obtain ⟨rv, pv, h⟩ := h
  have c0 : w.cell? ⟨b, 0, none⟩ = some (.int .i64 4) := by rw [← hn]; exact h.blk.cell 0
  have c5 : w.cell? ⟨b, 5, none⟩ = some (.int .i64 s.at_) := h.blk.cell 5
  have a0 := hI.a0
  have a1 := hI.a1
  have HQ := Lib.hid (fun (w1 : World) (m : Mv bm none w w1) => h.mem hm m)
  have hR := rdC_bd hw
  have hFb := h.fb
  obtain ⟨rb, rfl, hFr, hr⟩ := h.route
  have hne : b ≠ bm := h.blk.ne_ hm.blk (by decide)
  have H := Lib.hid h
  have HM := Lib.hid hm
  clear h hm
  clear hI hn hr
  go_enter Try.func10, Try.ntmps10
  go_wp2_with (fail)
  with_reducible refine (read_any B bm v C size count odd ref s.at_ _ HM.out hC (by omega) (by omega)).mono ?_
  rintro e w2 ⟨rfl, hm2, m2⟩
  have h2 := HQ.out w2 m2
  have hvb := own_blk_not hm2.own h2.blk (by decide)
  have HM2 := Lib.hid hm2.read
  have O2 : Hid (Chg (fun x => F x ∨ x = bm) w w2) := Lib.hid (Chg.of_mv m2 (.inr rfl))
  have hz2 := m2.size
  have H2 := Lib.hid h2
  clear hm2 m2 c0 c5 HM H HQ h2
  have hr := hR s.at_
  obtain ⟨x, hx⟩ : ∃ x, rdC C s.at_ = x := ⟨_, rfl⟩
  rw [hx] at hr hs ⊢
  clear hx
  go_wp2_with (fail)
  with_reducible refine (refAt_any x _ hr.1 hr.2).mono ?_
  rintro e w3 ⟨rfl, rfl⟩
  go_wp2_with (fail)
  with_reducible refine (enterS_any b _ _ _ _ _ _ _ _ (wAt x) _ H2.out.blk ⟨_, rfl⟩).mono ?_
  rintro e w3 ⟨rfl, hb, hr3, ho⟩
  have HX : Hid (SeekP (fun y => F y ∨ w.heap.size ≤ y) b (SS.enter s (wAt x)) w3) := Lib.hid ⟨_, _, .inl hFb, hb, ⟨_, rfl, .inr hz2, hr3⟩, (H2.out.peek.keep ho (fun y hy => by subst hy; exact ⟨_, _, H2.out.blk, by decide⟩)).mono (fun _ => .inl)⟩
  have HM3 := Lib.hid (HM2.out.chg ho (fun e => hne e.symm) (fun y hy e => hvb y hy e))
  have O3 : Hid (Chg (fun x => F x ∨ x = bm) w w3) := Lib.hid (O2.out.trans (ho.mono (fun y hy => .inl (hy ▸ hFb))))
  clear hb hr3 ho H2 HM2 O2
  go_wp2_with (fail)
  with_reducible refine (doneS_any _ _ _ _ HX.out).mono ?_
  rintro e w4 ⟨rfl, rfl⟩
  go_wp2_with (fail)
  go_ret
  unfold SPost
  rw [hs.out, ha.out]
  exact ⟨rfl, HX.out, HM3.out, O3.out⟩
set_option maxRecDepth 100000 in
set_option maxHeartbeats 1000000 in
theorem stepS3_any (hn : s.next = 3) : Calls Try.prog 10 #[.pointer (some ⟨b, 0, none⟩), .pointer (some ⟨bm, 0, none⟩)] w (SPost F b bm s B v C size count odd ref w) := by
  have hs := Lib.hid (SS.step3 (R := rdC C) hn)
  have ha := Lib.hid (SS.acc3 hn)
  obtain ⟨rv, pv, h⟩ := h
  have c0 : w.cell? ⟨b, 0, none⟩ = some (.int .i64 3) := by rw [← hn]; exact h.blk.cell 0
  have c5 : w.cell? ⟨b, 5, none⟩ = some (.int .i64 s.at_) := h.blk.cell 5
  have a0 := hI.a0
  have a1 := hI.a1
  have HQ := Lib.hid (fun (w1 : World) (m : Mv bm none w w1) => h.mem hm m)
  have hR := rdC_bd hw
  have hFb := h.fb
  have hne : b ≠ bm := h.blk.ne_ hm.blk (by decide)
  have H := Lib.hid h
  have HM := Lib.hid hm
  clear h hm
  clear hI hn
  go_enter Try.func10, Try.ntmps10
  go_wp2_with (fail)
  with_reducible refine (read_any B bm v C size count odd ref (s.at_ + 1) _ HM.out hC (by omega) (by omega)).mono ?_
  rintro e w2 ⟨rfl, hm2, m2⟩
  have h2 := HQ.out w2 m2
  have hvb := own_blk_not hm2.own h2.blk (by decide)
  have HM2 := Lib.hid hm2.read
  have O2 : Hid (Chg (fun x => F x ∨ x = bm) w w2) := Lib.hid (Chg.of_mv m2 (.inr rfl))
  clear hm2 m2 c0 c5 HM H HQ
  obtain ⟨x, hx⟩ : ∃ x, rdC C (s.at_ + 1) = x := ⟨_, rfl⟩
  rw [hx] at hs ⊢
  clear hx
  have c0 : w2.cell? ⟨b, 0, none⟩ = some (.int .i64 s.next) := h2.blk.cell 0
  have c6 : w2.cell? ⟨b, 6, none⟩ = some (.int .i64 s.value) := h2.blk.cell 6
  have c7 : w2.cell? ⟨b, 7, none⟩ = some (.bool s.there) := h2.blk.cell 7
  have f0 := h2.blk.frozen 0
  have f6 := h2.blk.frozen 6
  have f7 := h2.blk.frozen 7
  have o3 : Chg (fun y => y = b) w2 (((w2.setCell ⟨b, 6, none⟩ (.int .i64 x)).setCell ⟨b, 7, none⟩ (.bool true)).setCell ⟨b, 0, none⟩ (.int .i64 5)) := Chg.of_mv (F := fun y => y = b) (((Mv.set1 w2 b 6 (.int .i64 x)).trans_ (Mv.set1 _ b 7 (.bool true))).trans_ (Mv.set1 _ b 0 (.int .i64 5))) rfl
  have HX : Hid (SeekP (fun y => F y ∨ w.heap.size ≤ y) b { s with value := x, there := true, next := 5 } (((w2.setCell ⟨b, 6, none⟩ (.int .i64 x)).setCell ⟨b, 7, none⟩ (.bool true)).setCell ⟨b, 0, none⟩ (.int .i64 5))) := Lib.hid ⟨_, _, .inl hFb, ((h2.blk.set_ 6 _).set_ 7 _).set_ 0 _, (h2.route.keep o3 (fun y hy => by subst hy; exact ⟨_, _, h2.blk, by decide⟩)).mono (fun _ => .inl), (h2.peek.keep o3 (fun y hy => by subst hy; exact ⟨_, _, h2.blk, by decide⟩)).mono (fun _ => .inl)⟩
  have HM3 := Lib.hid (HM2.out.chg o3 (fun e => hne e.symm) (fun y hy e => hvb y hy e))
  have O3 : Hid (Chg (fun x => F x ∨ x = bm) w (((w2.setCell ⟨b, 6, none⟩ (.int .i64 x)).setCell ⟨b, 7, none⟩ (.bool true)).setCell ⟨b, 0, none⟩ (.int .i64 5))) := Lib.hid (O2.out.trans (o3.mono (fun y hy => .inl (hy ▸ hFb))))
  clear h2 o3 HM2 O2
  go_wp2_with (fail)
  with_reducible refine (doneS_any _ _ _ _ HX.out).mono ?_
  rintro e w4 ⟨rfl, rfl⟩
  go_wp2_with (fail)
  go_ret
  unfold SPost
  rw [hs.out, ha.out]
  exact ⟨rfl, HX.out, HM3.out, O3.out⟩
set_option maxRecDepth 100000 in
set_option maxHeartbeats 1000000 in
theorem stepS2_any (hn : s.next = 2) : Calls Try.prog 10 #[.pointer (some ⟨b, 0, none⟩), .pointer (some ⟨bm, 0, none⟩)] w (SPost F b bm s B v C size count odd ref w) := by
  have hR := rdC_bd hw
  clear hR
  have hs := Lib.hid (SS.step2 (R := rdC C) hn)
  have ha := Lib.hid (SS.acc2 hn)
  obtain ⟨rv, pv, h⟩ := h
  have c0 : w.cell? ⟨b, 0, none⟩ = some (.int .i64 2) := by rw [← hn]; exact h.blk.cell 0
  have f0 := h.blk.frozen 0
  have a0 := hI.a0
  have a1 := hI.a1
  have o1 : Chg (fun y => y = b) w (w.setCell ⟨b, 0, none⟩ (.int .i64 3)) := Chg.of_mv (F := fun y => y = b) (Mv.set1 w b 0 (.int .i64 3)) rfl
  have h1 : SeekQ F b { s with next := 3 } rv pv (w.setCell ⟨b, 0, none⟩ (.int .i64 3)) := ⟨h.fb, h.blk.set_ 0 _, h.route.keep o1 (fun y hy => by subst hy; exact ⟨_, _, h.blk, by decide⟩), h.peek.keep o1 (fun y hy => by subst hy; exact ⟨_, _, h.blk, by decide⟩)⟩
  have hFb := h.fb
  have hne : b ≠ bm := h.blk.ne_ hm.blk (by decide)
  have hm1 := hm.chg o1 (fun e => hne e.symm) (fun y hy e => own_blk_not hm.own h.blk (by decide) y hy e)
  have O1 : Hid (Chg (fun x => F x ∨ x = bm) w (w.setCell ⟨b, 0, none⟩ (.int .i64 3))) := Lib.hid (o1.mono (fun y hy => .inl (hy ▸ hFb)))
  have hz1 : w.heap.size = (w.setCell ⟨b, 0, none⟩ (.int .i64 3)).heap.size := by simp
  have HZ := Lib.hid hz1
  have H1 := Lib.hid h1
  have HM1 := Lib.hid hm1
  clear h1 hm1
  clear hI hn o1 h hm hz1
  go_enter Try.func10, Try.ntmps10
  go_wp2_with (fail)
  generalize w.setCell ⟨b, 0, none⟩ (.int .i64 3) = w1 at H1 HM1 O1 HZ ⊢
  have HB1 := Lib.hid H1.out.blk
  have HQ : Hid (∀ w2, Mv bm none w1 w2 → SeekQ F b { s with next := 3 } rv pv w2) := Lib.hid (fun w2 m => by
    have k := Chg.of_mv (F := fun y => y = bm) m rfl
    exact ⟨H1.out.fb, k.blk H1.out.blk (fun e => H1.out.blk.ne_ HM1.out.blk (by decide) e), H1.out.route.keep k (fun y hy => by subst hy; exact ⟨_, _, HM1.out.blk, by decide⟩), H1.out.peek.keep k (fun y hy => by subst hy; exact ⟨_, _, HM1.out.blk, by decide⟩)⟩)
  have HMd : Hid (MemP B bm v C size count odd ref w1.drew) := Lib.hid (HM1.out.below (drawn_bl (Drawn.of w1 1) _))
  have c5 : w1.cell? ⟨b, 5, none⟩ = some (.int .i64 s.at_) := H1.out.blk.cell 5
  have c1 : w1.cell? ⟨b, 1, none⟩ = some (.int .i64 s.k) := H1.out.blk.cell 1
  have ew : IntKind.i64.wrap s.at_ = s.at_ := IntWalk.i64_in _ ⟨by omega, by omega⟩
  go_region_held3 (fun w' => w'.cell? ⟨b, 5, none⟩ = some (.int .i64 s.at_) ∧ w'.cell? ⟨b, 1, none⟩ = some (.int .i64 s.k)) (first | go_keep | exact ⟨H2.out.blk.cell 5, H2.out.blk.cell 1⟩) (first | (go_at_call 34; (with_reducible refine (read_any B bm v C size count odd ref s.at_ _ HMd.out hC (by omega) (by omega)).mono ?_); rintro e w2 ⟨rfl, hm2, m2⟩; have H2 := Lib.hid (HQ.out w2 (Mv.after (drawn_bl (Drawn.of w1 1) _) m2)); have HM2 := Lib.hid hm2.read; have O2 : Hid (Chg (fun x => F x ∨ x = bm) w w2) := Lib.hid (O1.out.trans (Chg.of_mv (Mv.after (drawn_bl (Drawn.of w1 1) _) m2) (.inr rfl))); clear hm2 m2))
  have hz2 := O2.out.size
  clear HMd HM1 O1 HB1 HQ c5 c1 ew
  obtain ⟨x, hx⟩ : ∃ x, rdC C s.at_ = x := ⟨_, rfl⟩
  rw [hx] at hs ⊢
  clear hx
  by_cases hk : x = s.k
  · have e1 : (x != s.k) = false := by simpa using hk
    have HX : Hid (SeekP (fun y => F y ∨ w.heap.size ≤ y) b { s with next := 3 } w2) := Lib.hid (SeekP.mono ⟨_, _, H2.out⟩ (fun _ => .inl))
    have HK := Lib.hid hk
    clear hk
    clear H2 H1
    go_wp2_with (fail)
    with_reducible refine (doneS_any _ _ _ _ HX.out).mono ?_
    rintro e w4 ⟨rfl, rfl⟩
    go_wp2_with (fail)
    go_ret
    unfold SPost
    rw [hs.out, ha.out, if_pos HK.out]
    exact ⟨rfl, HX.out, HM2.out, O2.out⟩
  · have e1 : (x != s.k) = true := by simpa using hk
    have h2 := H2.out
    have c0 : w2.cell? ⟨b, 0, none⟩ = some (.int .i64 3) := h2.blk.cell 0
    have f0 := h2.blk.frozen 0
    have hvb := own_blk_not HM2.out.own h2.blk (by decide)
    have o3 : Chg (fun y => y = b) w2 (w2.setCell ⟨b, 0, none⟩ (.int .i64 5)) := Chg.of_mv (F := fun y => y = b) (Mv.set1 w2 b 0 (.int .i64 5)) rfl
    have HX : Hid (SeekP (fun y => F y ∨ w.heap.size ≤ y) b { s with next := 5 } (w2.setCell ⟨b, 0, none⟩ (.int .i64 5))) := Lib.hid ⟨_, _, .inl hFb, h2.blk.set_ 0 _, (h2.route.keep o3 (fun y hy => by subst hy; exact ⟨_, _, h2.blk, by decide⟩)).mono (fun _ => .inl), (h2.peek.keep o3 (fun y hy => by subst hy; exact ⟨_, _, h2.blk, by decide⟩)).mono (fun _ => .inl)⟩
    have HM3 := Lib.hid (HM2.out.chg o3 (fun e => hne e.symm) (fun y hy e => hvb y hy e))
    have O3 : Hid (Chg (fun x => F x ∨ x = bm) w (w2.setCell ⟨b, 0, none⟩ (.int .i64 5))) := Lib.hid (O2.out.trans (o3.mono (fun y hy => .inl (hy ▸ hFb))))
    have HK := Lib.hid hk
    clear hk
    clear h2 o3 HM2 O2 H2 H1
    go_wp2_with (fail)
    with_reducible refine (doneS_any _ _ _ _ HX.out).mono ?_
    rintro e w4 ⟨rfl, rfl⟩
    go_wp2_with (fail)
    go_ret
    unfold SPost
    rw [hs.out, ha.out, if_neg HK.out]
    exact ⟨rfl, HX.out, HM3.out, O3.out⟩
theorem stepS_any : Calls Try.prog 10 #[.pointer (some ⟨b, 0, none⟩), .pointer (some ⟨bm, 0, none⟩)] w (SPost F b bm s B v C size count odd ref w) := by
  rcases hI.st with ⟨e, _⟩ | ⟨e, _⟩ | e | e | e | e
  · exact stepS0_any F b bm s B v C size count odd ref w h hm hI hC hw e
  · exact stepS1_any F b bm s B v C size count odd ref w h hm hI hC hw e
  · exact stepS2_any F b bm s B v C size count odd ref w h hm hI hC hw e
  · exact stepS3_any F b bm s B v C size count odd ref w h hm hI hC hw e
  · exact stepS4_any F b bm s B v C size count odd ref w h hm hI hC hw e
  · exact stepS5_any F b bm s B v C size count odd ref w h hm e
end
end Go.Proofs.Ytblajeildolloaa
