/- The frame of route: New, Done, Degree, Child, Step. -/
import Derived.Test.YtblajeildolloaaRoute
import Derived.Test.YtblajeildolloaaOnly
import Derived.Deep.RegionWith
namespace Go.Proofs.Ytblajeildolloaa
set_option linter.unusedVariables false
set_option linter.unusedSimpArgs false
open Go.RowKit

theorem keyAtI_bd {n i : Int} : 0 ≤ keyAtI n i ∧ keyAtI n i ≤ 2199023255556 := by
  unfold keyAtI
  split
  · rename_i h
    have h1 := nearB_yes h.1
    have h2 := nearB_yes h.2
    omega
  · omega
theorem rdC_bd {C : List Int} (hC : ∀ i, i < C.length → -9223372036854775808 ≤ keyAt C i ∧ keyAt C i ≤ 9223372036854775807) (a : Int) : -9223372036854775808 ≤ rdC C a ∧ rdC C a ≤ 9223372036854775807 := by
  unfold rdC
  split
  · exact hC _ (by omega)
  · omega
set_option maxHeartbeats 400000 in
theorem done_any (b : Nat) (s : RS) (w : World) (h : RouteP b s w) :
    Calls Try.prog 50 #[.pointer (some ⟨b, 0, none⟩)] w fun e w' => e = .returned (.bool (s.next == 6)) ∧ w = w' := by
  have c0 : w.cell? ⟨b, 0, none⟩ = some (.int .i64 s.next) := h.blk.cell 0
  clear h
  go_enter Try.func50, Try.ntmps50
  go_wp2_with (fail)
  go_ret
  exact ⟨rfl, rfl⟩
set_option maxHeartbeats 400000 in
theorem degree_any (b : Nat) (s : RS) (w : World) (h : RouteP b s w) (hn : s.next = 6) :
    Calls Try.prog 29 #[.pointer (some ⟨b, 0, none⟩)] w fun e w' => e = .returned (.int .i64 s.degree) ∧ w = w' := by
  have c3 : w.cell? ⟨b, 3, none⟩ = some (.int .i64 s.degree) := h.blk.cell 3
  have H := Lib.hid h
  have e1 : (s.next == 6) = true := by simpa using hn
  clear h hn
  go_enter Try.func29, Try.ntmps29
  go_wp2_with (fail)
  with_reducible refine (done_any b s _ H.out).mono ?_
  rintro e w1 ⟨rfl, rfl⟩
  go_wp2_with (fail)
  go_ret
  exact ⟨rfl, rfl⟩
set_option maxHeartbeats 400000 in
theorem child_any (b : Nat) (s : RS) (w : World) (h : RouteP b s w) :
    Calls Try.prog 30 #[.pointer (some ⟨b, 0, none⟩)] w fun e w' => e = .returned (.int .i64 s.child) ∧ w = w' := by
  have c6 : w.cell? ⟨b, 6, none⟩ = some (.int .i64 s.child) := h.blk.cell 6
  clear h
  go_enter Try.func30, Try.ntmps30
  go_wp2_with (fail)
  go_ret
  exact ⟨rfl, rfl⟩
set_option maxHeartbeats 400000 in
theorem newR_any (n k : Int) (w : World) :
    Calls Try.prog 46 #[.int .i64 n, .int .i64 k] w fun e w' => e = .returned (.pointer (some ⟨w.heap.size, 0, none⟩)) ∧ RouteP w.heap.size (RS.init n k) w' ∧ Below w.heap.size w w' := by
  have H : Hid (RouteP w.heap.size (RS.init n k) (w.alloc (.cells #[.int .i64 0, .int .i64 n, .int .i64 k, .int .i64 0, .int .i64 0, .int .i64 0, .int .i64 0] 74))) := Lib.hid (Blk.new w _ _)
  go_enter Try.func46, Try.ntmps46
  go_wp2_with (fail)
  go_ret
  exact ⟨rfl, H.out, (Below.refl _ _).alloc (Nat.le_refl _) _⟩

theorem key_any (b : Nat) (s : RS) (q : Int) (w : World) (h : RouteP b s w) (a1 : 1 ≤ s.next) (a2 : s.next ≤ 5) (d0 : 2 ≤ s.degree) (d1 : s.degree ≤ 9223372036854775807) (k0 : -9223372036854775808 ≤ s.k) (k1 : s.k ≤ 9223372036854775807) (g0 : -9223372036854775808 ≤ s.first) (g1 : s.first ≤ 9223372036854775807) (i0 : 1 ≤ s.i) (i1 : s.i ≤ s.degree - 1) (q0 : -9223372036854775808 ≤ q) (q1 : q ≤ 9223372036854775807) :
    Calls Try.prog 48 #[.pointer (some ⟨b, 0, none⟩), .int .i64 q] w fun e w' => e = .returned (.tuple #[]) ∧ RouteP b (s.key q) w' ∧ Mv b none w w' := by
  have : s.next = 1 ∨ s.next = 2 ∨ s.next = 3 ∨ s.next = 4 ∨ s.next = 5 := by omega
  rcases this with hn | hn | hn | hn | hn
  · exact key1_any b s q w h hn d0 d1 k0 k1 g0 g1 i0 i1 q0 q1
  · exact key2_any b s q w h hn d0 d1 k0 k1 g0 g1 i0 i1 q0 q1
  · exact key3_any b s q w h hn d0 d1 k0 k1 g0 g1 i0 i1 q0 q1
  · exact key4_any b s q w h hn d0 d1 k0 k1 g0 g1 i0 i1 q0 q1
  · exact key5_any b s q w h hn d0 d1 k0 k1 g0 g1 i0 i1 q0 q1
theorem below_drew {w w1 : World} (hb : Below w.drew.heap.size w.drew w1) : Below w.heap.size w w1 := ⟨hb.os, hb.tape, hb.output, hb.size, hb.block⟩
def StepPost (b bm : Nat) (s : RS) (B : Nat) (v : Value) (C : List Int) (size count odd ref : Int) (w : World) (e : Ending) (w' : World) : Prop :=
  e = .returned (.bool ((s.step (rdC C)).next == 6)) ∧ RouteP b (s.step (rdC C)) w' ∧ MemP B bm v C size (if s.next = 6 then count else bump count) (if s.next = 6 ∨ (1 ≤ s.addr ∧ s.addr ≤ C.length) then odd else bump odd) ref w' ∧ Only [b, bm] w w'
set_option maxRecDepth 100000 in
set_option maxHeartbeats 1000000 in
theorem stepR_any (b bm : Nat) (s : RS) (B : Nat) (v : Value) (C : List Int) (size count odd ref : Int) (w : World) (h : RouteP b s w) (hm : MemP B bm v C size count odd ref w) (hI : s.Inv) (hC : C.length ≤ 1000000) (hw : ∀ i, i < C.length → -9223372036854775808 ≤ keyAt C i ∧ keyAt C i ≤ 9223372036854775807) :
    Calls Try.prog 26 #[.pointer (some ⟨b, 0, none⟩), .pointer (some ⟨bm, 0, none⟩)] w (StepPost b bm s B v C size count odd ref w) := by
  have hne : b ≠ bm := h.blk.ne_ hm.blk (by decide)
  have hvb : v.ownBlock ≠ some b := own_blk_ne hm.own h.blk (by decide)
  have hR := rdC_bd hw
  by_cases h6 : s.next = 6
  · have hs := Lib.hid (RS.step_done (R := rdC C) h6)
    have c0 : w.cell? ⟨b, 0, none⟩ = some (.int .i64 6) := by rw [← h6]; exact h.blk.cell 0
    have H := Lib.hid h
    have HM := Lib.hid hm
    have H6 := Lib.hid h6
    clear h hm h6
    go_enter Try.func26, Try.ntmps26
    go_wp2_with (fail)
    with_reducible refine (done_any b s _ H.out).mono ?_
    rintro e w1 ⟨rfl, rfl⟩
    go_wp2_with (fail)
    go_ret
    unfold StepPost
    rw [hs.out, if_pos H6.out, if_pos (.inl H6.out)]
    exact ⟨rfl, H.out, HM.out, Only.refl _ _⟩
  · by_cases h0 : s.next = 0
    · have hs := Lib.hid (RS.step0 (R := rdC C) h0)
      have c0 : w.cell? ⟨b, 0, none⟩ = some (.int .i64 0) := by rw [← h0]; exact h.blk.cell 0
      have c1 : w.cell? ⟨b, 1, none⟩ = some (.int .i64 s.n) := h.blk.cell 1
      have n0 := hI.n0
      have n1 := hI.n1
      have H := Lib.hid h
      have HM := Lib.hid hm
      have H0 := Lib.hid h0
      clear h hm h0 h6 hI
      go_enter Try.func26, Try.ntmps26
      go_wp2_with (fail)
      with_reducible refine (read_any B bm v C size count odd ref s.n _ HM.out hC n0 n1).mono ?_
      rintro e w2 ⟨rfl, hm2, m2⟩
      have h2 : RouteP b s w2 := m2.blk H.out hne (by simp)
      have HM2 := Lib.hid hm2
      have O2 := Lib.hid (Only.of_mv (S := [b, bm]) m2 (by simp))
      clear hm2 m2
      have c3 : w2.cell? ⟨b, 3, none⟩ = some (.int .i64 s.degree) := h2.blk.cell 3
      have c0' : w2.cell? ⟨b, 0, none⟩ = some (.int .i64 0) := by rw [← H0.out]; exact h2.blk.cell 0
      have c4 : w2.cell? ⟨b, 4, none⟩ = some (.int .i64 s.i) := h2.blk.cell 4
      have f0 := h2.blk.frozen 0
      have f3 := h2.blk.frozen 3
      have f4 := h2.blk.frozen 4
      have hr := hR s.n
      obtain ⟨x, hx⟩ : ∃ x, rdC C s.n = x := ⟨_, rfl⟩
      rw [hx] at hr ⊢
      have HX := Lib.hid hx
      clear hx
      have M3 := Lib.hid (((Mv.set1 w2 b 3 (.int .i64 x)).trans_ (Mv.set1 _ b 0 (.int .i64 1))).trans_ (Mv.set1 _ b 4 (.int .i64 1)))
      have h3 : RouteP b { s with degree := x, next := 1, i := 1 } (((w2.setCell ⟨b, 3, none⟩ (.int .i64 x)).setCell ⟨b, 0, none⟩ (.int .i64 1)).setCell ⟨b, 4, none⟩ (.int .i64 1)) := ((h2.blk.set_ 3 _).set_ 0 _).set_ 4 _
      have H3 := Lib.hid h3
      clear h3 h2
      by_cases hx2 : x < 2
      · go_wp2_with (fail)
        with_reducible refine (end_any b _ 0 _ H3.out).mono ?_
        rintro e w3 ⟨rfl, h4, m4⟩
        have H4 := Lib.hid h4
        have M4 := Lib.hid (M3.out.trans_ m4)
        clear h4 m4 M3 H3
        go_wp2_with (fail)
        with_reducible refine (done_any b _ _ H4.out).mono ?_
        rintro e w4 ⟨rfl, rfl⟩
        go_wp2_with (fail)
        go_ret
        unfold StepPost
        have e0 := H0.out
        have ea : s.addr = s.n := if_pos e0
        have e6 : ¬ s.next = 6 := by omega
        rw [hs.out, HX.out, if_pos hx2, if_neg e6, ea]
        simp only [e6, false_or]
        exact ⟨rfl, H4.out, HM2.out.mv M4.out (fun e => hne e.symm) (by simp) hvb (by cases v.ownBlock <;> simp), O2.out.trans (Only.of_mv M4.out (by simp))⟩
      · go_wp2_with (fail)
        with_reducible refine (done_any b _ _ H3.out).mono ?_
        rintro e w4 ⟨rfl, rfl⟩
        go_wp2_with (fail)
        go_ret
        unfold StepPost
        have e0 := H0.out
        have ea : s.addr = s.n := if_pos e0
        have e6 : ¬ s.next = 6 := by omega
        have hx3 : ¬ x < 2 := by omega
        rw [hs.out, HX.out, if_neg hx3, if_neg e6, ea]
        simp only [e6, false_or]
        exact ⟨rfl, H3.out, HM2.out.mv M3.out (fun e => hne e.symm) (by simp) hvb (by cases v.ownBlock <;> simp), O2.out.trans (Only.of_mv M3.out (by simp))⟩
    · have hs := Lib.hid (RS.stepK (R := rdC C) h0 h6)
      have hst : 1 ≤ s.next ∧ s.next ≤ 5 ∧ 2 ≤ s.degree ∧ s.degree ≤ 9223372036854775807 ∧ 1 ≤ s.i ∧ s.i ≤ s.degree - 1 := by rcases hI.st with h | h | h <;> first | exact absurd h h0 | exact absurd h h6 | exact h
      obtain ⟨a1, a2, d0, d1, i0, i1⟩ := hst
      have c0 : w.cell? ⟨b, 0, none⟩ = some (.int .i64 s.next) := h.blk.cell 0
      have c1 : w.cell? ⟨b, 1, none⟩ = some (.int .i64 s.n) := h.blk.cell 1
      have c4 : w.cell? ⟨b, 4, none⟩ = some (.int .i64 s.i) := h.blk.cell 4
      have e0 : (s.next == 0) = false := by simpa using h0
      have e6 : (s.next == 6) = false := by simpa using h6
      have H := Lib.hid h
      have HM := Lib.hid hm
      have HI := Lib.hid hI
      clear h hm h0 h6 hI
      go_enter Try.func26, Try.ntmps26
      go_wp2_with (fail)
      go_region_with (first | (go_at_call 49; (with_reducible refine (keyat_any _ _ _).mono ?_); rintro e w1 ⟨rfl, hB1⟩; replace hB1 := below_drew hB1; have H1 : Hid (RouteP b s w1) := Lib.hid (H.out.blk.below hB1 H.out.blk.lt); have HM1 := Lib.hid (HM.out.below hB1); have O1 := Lib.hid (Only.of_below (S := [b, bm]) hB1); clear hB1) | (go_at_call 34; (with_reducible refine (read_any B bm v C size count odd ref (keyAtI s.n s.i) _ HM1.out hC (by have := keyAtI_bd (n := s.n) (i := s.i); omega) (by have := keyAtI_bd (n := s.n) (i := s.i); omega)).mono ?_); rintro e w2 ⟨rfl, hm2, m2⟩; have H2 : Hid (RouteP b s w2) := Lib.hid (m2.blk H1.out hne (by simp)); have HM2 := Lib.hid hm2; have O2 := Lib.hid (O1.out.trans (Only.of_mv m2 (by simp))); clear hm2 m2 H1 HM1 O1) | (go_at_call 48; (with_reducible refine (key_any b s (rdC C (keyAtI s.n s.i)) _ H2.out a1 a2 d0 d1 HI.out.k0 HI.out.k1 HI.out.g0 HI.out.g1 i0 i1 (hR _).1 (hR _).2).mono ?_); rintro e w3 ⟨rfl, h3, m3⟩; have H3 := Lib.hid h3; have HM3 := Lib.hid (HM2.out.mv m3 (fun e => hne e.symm) (by simp) hvb (by cases v.ownBlock <;> simp)); have O3 := Lib.hid (O2.out.trans (Only.of_mv m3 (by simp))); clear h3 m3 H2 HM2 O2))
      all_goals
        go_wp2_with (fail)
        with_reducible refine (done_any b _ _ H3.out).mono ?_
        rintro e w4 ⟨rfl, rfl⟩
        go_wp2_with (fail)
        go_ret
        unfold StepPost
        rw [hs.out]
        have e6' : ¬ s.next = 6 := by simpa using e6
        have e0' : ¬ s.next = 0 := by simpa using e0
        have ea : s.addr = keyAtI s.n s.i := if_neg e0'
        rw [if_neg e6', ea]
        simp only [e6', false_or]
        exact ⟨rfl, H3.out, HM3.out, O3.out⟩
end Go.Proofs.Ytblajeildolloaa
