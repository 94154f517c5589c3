/- The frame of route: each method. -/
import Derived.Test.YtblajeildolloaaNode
import Derived.Test.YtblajeildolloaaProbe2
import Derived.StillTailTactics
import Derived.Outline
namespace Go.Proofs.Ytblajeildolloaa
set_option linter.unusedVariables false
set_option linter.unusedSimpArgs false
open Go.RowKit

def RouteP (b : Nat) (s : RS) (w : World) : Prop := Blk w b 74 #[.int .i64 s.next, .int .i64 s.n, .int .i64 s.k, .int .i64 s.degree, .int .i64 s.i, .int .i64 s.first, .int .i64 s.child]
theorem RouteP.blk {b : Nat} {s : RS} {w : World} (h : RouteP b s w) : Blk w b 74 #[.int .i64 s.next, .int .i64 s.n, .int .i64 s.k, .int .i64 s.degree, .int .i64 s.i, .int .i64 s.first, .int .i64 s.child] := h

theorem RouteP.drewN {b : Nat} {s : RS} {w : World} (h : RouteP b s w) (n : Nat) : RouteP b s (w.drewN n) := h
set_option maxHeartbeats 400000 in
theorem keys_any (b : Nat) (s : RS) (w : World) (h : RouteP b s w) (d0 : -9223372036854775808 < s.degree) (d1 : s.degree ≤ 9223372036854775807) :
    Calls Try.prog 58 #[.pointer (some ⟨b, 0, none⟩)] w fun e w' => e = .returned (.int .i64 (s.degree - 1)) ∧ w = w' := by
  have c3 : w.cell? ⟨b, 3, none⟩ = some (.int .i64 s.degree) := h.blk.cell 3
  clear h
  go_enter Try.func58, Try.ntmps58
  go_wp2
  go_ret
  exact ⟨rfl, rfl⟩
set_option maxHeartbeats 400000 in
theorem end_any (b : Nat) (s : RS) (c : Int) (w : World) (h : RouteP b s w) :
    Calls Try.prog 47 #[.pointer (some ⟨b, 0, none⟩), .int .i64 c] w fun e w' => e = .returned (.tuple #[]) ∧ RouteP b (s.ende c) w' ∧ Mv b none w w' := by
  have c0 : w.cell? ⟨b, 0, none⟩ = some (.int .i64 s.next) := h.blk.cell 0
  have c6 : w.cell? ⟨b, 6, none⟩ = some (.int .i64 s.child) := h.blk.cell 6
  have f0 := h.blk.frozen 0
  have f6 := h.blk.frozen 6
  have H : Hid (RouteP b (s.ende c) ((w.setCell ⟨b, 6, none⟩ (.int .i64 c)).setCell ⟨b, 0, none⟩ (.int .i64 6))) := Lib.hid ((h.blk.set_ 6 _).set_ 0 _)
  clear h
  go_enter Try.func47, Try.ntmps47
  go_wp2
  go_end0
  exact ⟨rfl, H.out, (Mv.set1 _ _ _ _).trans_ (Mv.set1 _ _ _ _)⟩

set_option maxHeartbeats 400000 in
theorem up_any (b : Nat) (s : RS) (i : Int) (w : World) (h : RouteP b s w) (d0 : 2 ≤ s.degree) (d1 : s.degree ≤ 9223372036854775807) (i0 : -9223372036854775808 ≤ i) (i1 : i ≤ 9223372036854775807) :
    Calls Try.prog 61 #[.pointer (some ⟨b, 0, none⟩), .int .i64 i] w fun e w' => e = .returned (.tuple #[]) ∧ RouteP b (s.up i) w' ∧ Mv b none w w' := by
  have c0 : w.cell? ⟨b, 0, none⟩ = some (.int .i64 s.next) := h.blk.cell 0
  have c4 : w.cell? ⟨b, 4, none⟩ = some (.int .i64 s.i) := h.blk.cell 4
  have f0 := h.blk.frozen 0
  have f4 := h.blk.frozen 4
  have H1 : Hid (RouteP b { s with next := 4, i := i } ((w.setCell ⟨b, 0, none⟩ (.int .i64 4)).setCell ⟨b, 4, none⟩ (.int .i64 i))) := Lib.hid ((h.blk.set_ 0 _).set_ 4 _)
  have M1 := Lib.hid ((Mv.set1 w b 0 (.int .i64 4)).trans_ (Mv.set1 _ b 4 (.int .i64 i)))
  clear h
  by_cases hi : s.degree - 1 ≤ i
  · have HS := Lib.hid (show s.up i = RS.ende { s with next := 4, i := i } (s.degree - 1 - 1) from if_pos hi)
    go_enter Try.func61, Try.ntmps61
    go_wp2_with (fail)
    with_reducible refine (keys_any b { s with next := 4, i := i } _ H1.out (by show _ < s.degree; omega) (by show s.degree ≤ _; omega)).mono ?_
    rintro e w1 ⟨rfl, rfl⟩
    go_wp2_with (fail)
    with_reducible refine (keys_any b { s with next := 4, i := i } _ H1.out (by show _ < s.degree; omega) (by show s.degree ≤ _; omega)).mono ?_
    rintro e w1 ⟨rfl, rfl⟩
    go_wp2_with (fail)
    with_reducible refine (end_any b { s with next := 4, i := i } (s.degree - 1 - 1) _ H1.out).mono ?_
    rintro e w1 ⟨rfl, h2, m2⟩
    have H2 := Lib.hid h2
    have M2 := Lib.hid m2
    clear h2 m2
    go_wp2_with (fail)
    go_end0
    rw [HS.out]
    exact ⟨rfl, H2.out, M1.out.trans_ M2.out⟩
  · have HS := Lib.hid (show s.up i = { s with next := 4, i := i } from if_neg hi)
    go_enter Try.func61, Try.ntmps61
    go_wp2_with (fail)
    with_reducible refine (keys_any b { s with next := 4, i := i } _ H1.out (by show _ < s.degree; omega) (by show s.degree ≤ _; omega)).mono ?_
    rintro e w1 ⟨rfl, rfl⟩
    go_wp2_with (fail)
    go_end0
    rw [HS.out]
    exact ⟨rfl, H1.out, M1.out⟩
set_option maxHeartbeats 400000 in
theorem down_any (b : Nat) (s : RS) (i : Int) (w : World) (h : RouteP b s w) (i0 : -9223372036854775808 ≤ i) (i1 : i ≤ 9223372036854775807) :
    Calls Try.prog 60 #[.pointer (some ⟨b, 0, none⟩), .int .i64 i] w fun e w' => e = .returned (.tuple #[]) ∧ RouteP b (s.down i) w' ∧ Mv b none w w' := by
  have c0 : w.cell? ⟨b, 0, none⟩ = some (.int .i64 s.next) := h.blk.cell 0
  have c4 : w.cell? ⟨b, 4, none⟩ = some (.int .i64 s.i) := h.blk.cell 4
  have f0 := h.blk.frozen 0
  have f4 := h.blk.frozen 4
  have H1 : Hid (RouteP b { s with next := 5, i := i } ((w.setCell ⟨b, 0, none⟩ (.int .i64 5)).setCell ⟨b, 4, none⟩ (.int .i64 i))) := Lib.hid ((h.blk.set_ 0 _).set_ 4 _)
  have M1 := Lib.hid ((Mv.set1 w b 0 (.int .i64 5)).trans_ (Mv.set1 _ b 4 (.int .i64 i)))
  clear h
  by_cases hi : i ≤ 1
  · have HS := Lib.hid (show s.down i = RS.ende { s with next := 5, i := i } 1 from if_pos hi)
    go_enter Try.func60, Try.ntmps60
    go_wp2_with (fail)
    with_reducible refine (end_any b { s with next := 5, i := i } 1 _ H1.out).mono ?_
    rintro e w1 ⟨rfl, h2, m2⟩
    have H2 := Lib.hid h2
    have M2 := Lib.hid m2
    clear h2 m2
    go_wp2_with (fail)
    go_end0
    rw [HS.out]
    exact ⟨rfl, H2.out, M1.out.trans_ M2.out⟩
  · have HS := Lib.hid (show s.down i = { s with next := 5, i := i } from if_neg hi)
    go_enter Try.func60, Try.ntmps60
    go_wp2_with (fail)
    go_end0
    rw [HS.out]
    exact ⟨rfl, H1.out, M1.out⟩
set_option maxHeartbeats 1000000 in
theorem guessF_any (b : Nat) (s : RS) (q : Int) (w : World) (h : RouteP b s w) (d0 : 2 ≤ s.degree) (d1 : s.degree ≤ 9223372036854775807) (k0 : -9223372036854775808 ≤ s.k) (k1 : s.k ≤ 9223372036854775807) (g0 : -9223372036854775808 ≤ s.first) (g1 : s.first ≤ 9223372036854775807) (q0 : -9223372036854775808 ≤ q) (q1 : q ≤ 9223372036854775807) :
    Calls Try.prog 59 #[.pointer (some ⟨b, 0, none⟩), .int .i64 q] w fun e w' => e = .returned (.tuple #[]) ∧ RouteP b (s.guess q) w' ∧ Mv b none w w' := by
  have c0 : w.cell? ⟨b, 0, none⟩ = some (.int .i64 s.next) := h.blk.cell 0
  have c2 : w.cell? ⟨b, 2, none⟩ = some (.int .i64 s.k) := h.blk.cell 2
  have c4 : w.cell? ⟨b, 4, none⟩ = some (.int .i64 s.i) := h.blk.cell 4
  have c5 : w.cell? ⟨b, 5, none⟩ = some (.int .i64 s.first) := h.blk.cell 5
  have f0 := h.blk.frozen 0
  have f4 := h.blk.frozen 4
  have H := Lib.hid h
  have hj := guessI_le s.first q s.k (s.degree - 1) (by omega)
  clear h
  by_cases hj1 : 1 < guessI s.first q s.k (s.degree - 1)
  · have HS := Lib.hid (show s.guess q = { s with next := 3, i := guessI s.first q s.k (s.degree - 1) } from if_pos hj1)
    go_enter Try.func59, Try.ntmps59
    go_wp2_with (fail)
    go_quiet ((first | (go_at_call 58; exact quiet_left (keys_any b s _ (H.out.drewN _) (by omega) (by omega))) | (go_at_call 65; exact Calls.quiet_of (guess_any _ _ _ _ _ (by omega) (by omega) (by omega) (by omega) (by omega) (by omega) (by omega) (by omega)))))
    rename_i nq
    generalize guessI s.first q s.k (s.degree - 1) = j at hj hj1 HS ⊢
    have c0' : (w.drewN nq).cell? ⟨b, 0, none⟩ = some (.int .i64 s.next) := c0
    have c4' : (w.drewN nq).cell? ⟨b, 4, none⟩ = some (.int .i64 s.i) := c4
    have f0' : (w.drewN nq).frozen? ⟨b, 0, none⟩ = false := f0
    have f4' : (w.drewN nq).frozen? ⟨b, 4, none⟩ = false := f4
    go_wp2_with (fail)
    refine bodyPost_ret (results_none rfl _ _ _) rfl ?_
    rw [HS.out]
    exact ⟨rfl, ((H.out.blk.drewN nq).set_ 0 _).set_ 4 _, Mv.after (drawn_bl (Drawn.of w nq) _) ((Mv.set1 _ b 0 _).trans_ (Mv.set1 _ b 4 _))⟩
  · have HS := Lib.hid (show s.guess q = s.up 2 from if_neg hj1)
    go_enter Try.func59, Try.ntmps59
    go_wp2_with (fail)
    go_quiet ((first | (go_at_call 58; exact quiet_left (keys_any b s _ (H.out.drewN _) (by omega) (by omega))) | (go_at_call 65; exact Calls.quiet_of (guess_any _ _ _ _ _ (by omega) (by omega) (by omega) (by omega) (by omega) (by omega) (by omega) (by omega)))))
    go_wp2_with (fail)
    with_reducible refine (up_any b s 2 _ (H.out.drewN _) d0 d1 (by omega) (by omega)).mono ?_
    rintro e w1 ⟨rfl, h2, m2⟩
    have H2 := Lib.hid h2
    have M2 := Lib.hid (Mv.after (drawn_bl (Drawn.of w _) _) m2)
    clear h2 m2
    go_wp2_with (fail)
    go_end0
    rw [HS.out]
    exact ⟨rfl, H2.out, M2.out⟩
set_option maxHeartbeats 1000000 in
set_option maxRecDepth 100000 in
theorem key2_any (b : Nat) (s : RS) (q : Int) (w : World) (h : RouteP b s w) (hn : s.next = 2) (d0 : 2 ≤ s.degree) (d1 : s.degree ≤ 9223372036854775807) (k0 : -9223372036854775808 ≤ s.k) (k1 : s.k ≤ 9223372036854775807) (g0 : -9223372036854775808 ≤ s.first) (g1 : s.first ≤ 9223372036854775807) (i0 : 1 ≤ s.i) (i1 : s.i ≤ s.degree - 1) (q0 : -9223372036854775808 ≤ q) (q1 : q ≤ 9223372036854775807) :
    Calls Try.prog 48 #[.pointer (some ⟨b, 0, none⟩), .int .i64 q] w fun e w' => e = .returned (.tuple #[]) ∧ RouteP b (s.key q) w' ∧ Mv b none w w' := by
  have c0 : w.cell? ⟨b, 0, none⟩ = some (.int .i64 2) := by rw [← hn]; exact h.blk.cell 0
  have c2 : w.cell? ⟨b, 2, none⟩ = some (.int .i64 s.k) := h.blk.cell 2
  have c3 : w.cell? ⟨b, 3, none⟩ = some (.int .i64 s.degree) := h.blk.cell 3
  have c4 : w.cell? ⟨b, 4, none⟩ = some (.int .i64 s.i) := h.blk.cell 4
  have c5 : w.cell? ⟨b, 5, none⟩ = some (.int .i64 s.first) := h.blk.cell 5
  have f0 := h.blk.frozen 0
  have f4 := h.blk.frozen 4
  have f5 := h.blk.frozen 5
  have H := Lib.hid h
  have hK := RS.key2 hn q
  have HN := Lib.hid hn
  clear h hn
  by_cases hq : s.k < q
  · rw [if_pos hq] at hK
    have HK := Lib.hid hK
    clear hK
    go_enter Try.func48, Try.ntmps48
    go_wp2_with (fail)
    with_reducible refine (guessF_any b s q _ H.out d0 d1 k0 k1 g0 g1 q0 q1).mono ?_
    rintro e w1 ⟨rfl, h2, m2⟩
    have H2 := Lib.hid h2
    have M2 := Lib.hid m2
    clear h2 m2
    go_wp2_with (fail)
    go_end0
    rw [HK.out]
    exact ⟨rfl, H2.out, M2.out⟩
  · rw [if_neg hq] at hK
    have HK := Lib.hid hK
    clear hK
    go_enter Try.func48, Try.ntmps48
    go_wp2_with (fail)
    with_reducible refine (keys_any b s _ H.out (by omega) (by omega)).mono ?_
    rintro e w1 ⟨rfl, rfl⟩
    go_wp2_with (fail)
    with_reducible refine (end_any b s (s.degree - 1) _ H.out).mono ?_
    rintro e w1 ⟨rfl, h2, m2⟩
    have H2 := Lib.hid h2
    have M2 := Lib.hid m2
    clear h2 m2
    go_wp2_with (fail)
    go_end0
    rw [HK.out]
    exact ⟨rfl, H2.out, M2.out⟩
set_option maxHeartbeats 1000000 in
set_option maxRecDepth 100000 in
theorem key3_any (b : Nat) (s : RS) (q : Int) (w : World) (h : RouteP b s w) (hn : s.next = 3) (d0 : 2 ≤ s.degree) (d1 : s.degree ≤ 9223372036854775807) (k0 : -9223372036854775808 ≤ s.k) (k1 : s.k ≤ 9223372036854775807) (g0 : -9223372036854775808 ≤ s.first) (g1 : s.first ≤ 9223372036854775807) (i0 : 1 ≤ s.i) (i1 : s.i ≤ s.degree - 1) (q0 : -9223372036854775808 ≤ q) (q1 : q ≤ 9223372036854775807) :
    Calls Try.prog 48 #[.pointer (some ⟨b, 0, none⟩), .int .i64 q] w fun e w' => e = .returned (.tuple #[]) ∧ RouteP b (s.key q) w' ∧ Mv b none w w' := by
  have c0 : w.cell? ⟨b, 0, none⟩ = some (.int .i64 3) := by rw [← hn]; exact h.blk.cell 0
  have c2 : w.cell? ⟨b, 2, none⟩ = some (.int .i64 s.k) := h.blk.cell 2
  have c3 : w.cell? ⟨b, 3, none⟩ = some (.int .i64 s.degree) := h.blk.cell 3
  have c4 : w.cell? ⟨b, 4, none⟩ = some (.int .i64 s.i) := h.blk.cell 4
  have c5 : w.cell? ⟨b, 5, none⟩ = some (.int .i64 s.first) := h.blk.cell 5
  have f0 := h.blk.frozen 0
  have f4 := h.blk.frozen 4
  have f5 := h.blk.frozen 5
  have H := Lib.hid h
  have hK := RS.key3 hn q
  have HN := Lib.hid hn
  clear h hn
  by_cases hq : s.k < q
  · rw [if_pos hq] at hK
    have HK := Lib.hid hK
    clear hK
    go_enter Try.func48, Try.ntmps48
    go_wp2_with (fail)
    with_reducible refine (down_any b s (s.i - 1) _ H.out (by omega) (by omega)).mono ?_
    rintro e w1 ⟨rfl, h2, m2⟩
    have H2 := Lib.hid h2
    have M2 := Lib.hid m2
    clear h2 m2
    go_wp2_with (fail)
    go_end0
    rw [HK.out]
    exact ⟨rfl, H2.out, M2.out⟩
  · rw [if_neg hq] at hK
    have HK := Lib.hid hK
    clear hK
    go_enter Try.func48, Try.ntmps48
    go_wp2_with (fail)
    with_reducible refine (up_any b s (s.i + 1) _ H.out d0 d1 (by omega) (by omega)).mono ?_
    rintro e w1 ⟨rfl, h2, m2⟩
    have H2 := Lib.hid h2
    have M2 := Lib.hid m2
    clear h2 m2
    go_wp2_with (fail)
    go_end0
    rw [HK.out]
    exact ⟨rfl, H2.out, M2.out⟩
set_option maxHeartbeats 1000000 in
set_option maxRecDepth 100000 in
theorem key4_any (b : Nat) (s : RS) (q : Int) (w : World) (h : RouteP b s w) (hn : s.next = 4) (d0 : 2 ≤ s.degree) (d1 : s.degree ≤ 9223372036854775807) (k0 : -9223372036854775808 ≤ s.k) (k1 : s.k ≤ 9223372036854775807) (g0 : -9223372036854775808 ≤ s.first) (g1 : s.first ≤ 9223372036854775807) (i0 : 1 ≤ s.i) (i1 : s.i ≤ s.degree - 1) (q0 : -9223372036854775808 ≤ q) (q1 : q ≤ 9223372036854775807) :
    Calls Try.prog 48 #[.pointer (some ⟨b, 0, none⟩), .int .i64 q] w fun e w' => e = .returned (.tuple #[]) ∧ RouteP b (s.key q) w' ∧ Mv b none w w' := by
  have c0 : w.cell? ⟨b, 0, none⟩ = some (.int .i64 4) := by rw [← hn]; exact h.blk.cell 0
  have c2 : w.cell? ⟨b, 2, none⟩ = some (.int .i64 s.k) := h.blk.cell 2
  have c3 : w.cell? ⟨b, 3, none⟩ = some (.int .i64 s.degree) := h.blk.cell 3
  have c4 : w.cell? ⟨b, 4, none⟩ = some (.int .i64 s.i) := h.blk.cell 4
  have c5 : w.cell? ⟨b, 5, none⟩ = some (.int .i64 s.first) := h.blk.cell 5
  have f0 := h.blk.frozen 0
  have f4 := h.blk.frozen 4
  have f5 := h.blk.frozen 5
  have H := Lib.hid h
  have hK := RS.key4 hn q
  have HN := Lib.hid hn
  clear h hn
  by_cases hq : s.k < q
  · rw [if_pos hq] at hK
    have HK := Lib.hid hK
    clear hK
    go_enter Try.func48, Try.ntmps48
    go_wp2_with (fail)
    with_reducible refine (end_any b s (s.i - 1) _ H.out).mono ?_
    rintro e w1 ⟨rfl, h2, m2⟩
    have H2 := Lib.hid h2
    have M2 := Lib.hid m2
    clear h2 m2
    go_wp2_with (fail)
    go_end0
    rw [HK.out]
    exact ⟨rfl, H2.out, M2.out⟩
  · rw [if_neg hq] at hK
    have HK := Lib.hid hK
    clear hK
    go_enter Try.func48, Try.ntmps48
    go_wp2_with (fail)
    with_reducible refine (up_any b s (s.i + 1) _ H.out d0 d1 (by omega) (by omega)).mono ?_
    rintro e w1 ⟨rfl, h2, m2⟩
    have H2 := Lib.hid h2
    have M2 := Lib.hid m2
    clear h2 m2
    go_wp2_with (fail)
    go_end0
    rw [HK.out]
    exact ⟨rfl, H2.out, M2.out⟩
set_option maxHeartbeats 1000000 in
set_option maxRecDepth 100000 in
theorem key5_any (b : Nat) (s : RS) (q : Int) (w : World) (h : RouteP b s w) (hn : s.next = 5) (d0 : 2 ≤ s.degree) (d1 : s.degree ≤ 9223372036854775807) (k0 : -9223372036854775808 ≤ s.k) (k1 : s.k ≤ 9223372036854775807) (g0 : -9223372036854775808 ≤ s.first) (g1 : s.first ≤ 9223372036854775807) (i0 : 1 ≤ s.i) (i1 : s.i ≤ s.degree - 1) (q0 : -9223372036854775808 ≤ q) (q1 : q ≤ 9223372036854775807) :
    Calls Try.prog 48 #[.pointer (some ⟨b, 0, none⟩), .int .i64 q] w fun e w' => e = .returned (.tuple #[]) ∧ RouteP b (s.key q) w' ∧ Mv b none w w' := by
  have c0 : w.cell? ⟨b, 0, none⟩ = some (.int .i64 5) := by rw [← hn]; exact h.blk.cell 0
  have c2 : w.cell? ⟨b, 2, none⟩ = some (.int .i64 s.k) := h.blk.cell 2
  have c3 : w.cell? ⟨b, 3, none⟩ = some (.int .i64 s.degree) := h.blk.cell 3
  have c4 : w.cell? ⟨b, 4, none⟩ = some (.int .i64 s.i) := h.blk.cell 4
  have c5 : w.cell? ⟨b, 5, none⟩ = some (.int .i64 s.first) := h.blk.cell 5
  have f0 := h.blk.frozen 0
  have f4 := h.blk.frozen 4
  have f5 := h.blk.frozen 5
  have H := Lib.hid h
  have hK := RS.key5 hn q
  have HN := Lib.hid hn
  clear h hn
  by_cases hq : s.k < q
  · rw [if_pos hq] at hK
    have HK := Lib.hid hK
    clear hK
    go_enter Try.func48, Try.ntmps48
    go_wp2_with (fail)
    with_reducible refine (down_any b s (s.i - 1) _ H.out (by omega) (by omega)).mono ?_
    rintro e w1 ⟨rfl, h2, m2⟩
    have H2 := Lib.hid h2
    have M2 := Lib.hid m2
    clear h2 m2
    go_wp2_with (fail)
    go_end0
    rw [HK.out]
    exact ⟨rfl, H2.out, M2.out⟩
  · rw [if_neg hq] at hK
    have HK := Lib.hid hK
    clear hK
    go_enter Try.func48, Try.ntmps48
    go_wp2_with (fail)
    with_reducible refine (end_any b s s.i _ H.out).mono ?_
    rintro e w1 ⟨rfl, h2, m2⟩
    have H2 := Lib.hid h2
    have M2 := Lib.hid m2
    clear h2 m2
    go_wp2_with (fail)
    go_end0
    rw [HK.out]
    exact ⟨rfl, H2.out, M2.out⟩
set_option maxHeartbeats 1000000 in
set_option maxRecDepth 100000 in
theorem key1_any (b : Nat) (s : RS) (q : Int) (w : World) (h : RouteP b s w) (hn : s.next = 1) (d0 : 2 ≤ s.degree) (d1 : s.degree ≤ 9223372036854775807) (k0 : -9223372036854775808 ≤ s.k) (k1 : s.k ≤ 9223372036854775807) (g0 : -9223372036854775808 ≤ s.first) (g1 : s.first ≤ 9223372036854775807) (i0 : 1 ≤ s.i) (i1 : s.i ≤ s.degree - 1) (q0 : -9223372036854775808 ≤ q) (q1 : q ≤ 9223372036854775807) :
    Calls Try.prog 48 #[.pointer (some ⟨b, 0, none⟩), .int .i64 q] w fun e w' => e = .returned (.tuple #[]) ∧ RouteP b (s.key q) w' ∧ Mv b none w w' := by
  have c0 : w.cell? ⟨b, 0, none⟩ = some (.int .i64 1) := by rw [← hn]; exact h.blk.cell 0
  have c2 : w.cell? ⟨b, 2, none⟩ = some (.int .i64 s.k) := h.blk.cell 2
  have c3 : w.cell? ⟨b, 3, none⟩ = some (.int .i64 s.degree) := h.blk.cell 3
  have c4 : w.cell? ⟨b, 4, none⟩ = some (.int .i64 s.i) := h.blk.cell 4
  have c5 : w.cell? ⟨b, 5, none⟩ = some (.int .i64 s.first) := h.blk.cell 5
  have f0 := h.blk.frozen 0
  have f4 := h.blk.frozen 4
  have f5 := h.blk.frozen 5
  have H := Lib.hid h
  have hK := RS.key1 hn q
  have HN := Lib.hid hn
  clear h hn
  have H1 : Hid (RouteP b { s with first := q } (w.setCell ⟨b, 5, none⟩ (.int .i64 q))) := Lib.hid (H.out.blk.set_ 5 _)
  have H2 : Hid (RouteP b { s with first := q, next := 2, i := s.degree - 1 } (((w.setCell ⟨b, 5, none⟩ (.int .i64 q)).setCell ⟨b, 0, none⟩ (.int .i64 2)).setCell ⟨b, 4, none⟩ (.int .i64 (s.degree - 1)))) := Lib.hid (((H.out.blk.set_ 5 _).set_ 0 _).set_ 4 _)
  have M1 := Lib.hid (((Mv.set1 w b 5 (.int .i64 q)).trans_ (Mv.set1 _ b 0 (.int .i64 2))).trans_ (Mv.set1 _ b 4 (.int .i64 (s.degree - 1))))
  by_cases hq : s.k < q
  · rw [if_pos hq] at hK
    have HK := Lib.hid hK
    clear hK
    go_enter Try.func48, Try.ntmps48
    go_wp2_with (fail)
    with_reducible refine (keys_any b { s with first := q } _ H1.out (by show _ < s.degree; omega) (by show s.degree ≤ _; omega)).mono ?_
    rintro e w1 ⟨rfl, rfl⟩
    go_wp2_with (fail)
    with_reducible refine (end_any b { s with first := q, next := 2, i := s.degree - 1 } 0 _ H2.out).mono ?_
    rintro e w1 ⟨rfl, h3, m3⟩
    have H3 := Lib.hid h3
    have M3 := Lib.hid m3
    clear h3 m3
    go_wp2_with (fail)
    go_end0
    rw [HK.out]
    exact ⟨rfl, H3.out, M1.out.trans_ M3.out⟩
  · rw [if_neg hq] at hK
    by_cases hd : s.degree - 1 = 1
    · have hd1 : (s.degree - 1 == 1) = true := by simpa using hd
      rw [if_pos hd] at hK
      have HK := Lib.hid hK
      clear hK hd
      go_enter Try.func48, Try.ntmps48
      go_wp2_with (fail)
      with_reducible refine (keys_any b { s with first := q } _ H1.out (by show _ < s.degree; omega) (by show s.degree ≤ _; omega)).mono ?_
      rintro e w1 ⟨rfl, rfl⟩
      go_wp2_with (fail)
      with_reducible refine (keys_any b { s with first := q, next := 2, i := s.degree - 1 } _ H2.out (by show _ < s.degree; omega) (by show s.degree ≤ _; omega)).mono ?_
      rintro e w1 ⟨rfl, rfl⟩
      go_wp2_with (fail)
      with_reducible refine (end_any b { s with first := q, next := 2, i := s.degree - 1 } 1 _ H2.out).mono ?_
      rintro e w1 ⟨rfl, h3, m3⟩
      have H3 := Lib.hid h3
      have M3 := Lib.hid m3
      clear h3 m3
      go_wp2_with (fail)
      go_end0
      rw [HK.out]
      exact ⟨rfl, H3.out, M1.out.trans_ M3.out⟩
    · have hd1 : (s.degree - 1 == 1) = false := by simpa using hd
      rw [if_neg hd] at hK
      have HK := Lib.hid hK
      clear hK hd
      go_enter Try.func48, Try.ntmps48
      go_wp2_with (fail)
      with_reducible refine (keys_any b { s with first := q } _ H1.out (by show _ < s.degree; omega) (by show s.degree ≤ _; omega)).mono ?_
      rintro e w1 ⟨rfl, rfl⟩
      go_wp2_with (fail)
      with_reducible refine (keys_any b { s with first := q, next := 2, i := s.degree - 1 } _ H2.out (by show _ < s.degree; omega) (by show s.degree ≤ _; omega)).mono ?_
      rintro e w1 ⟨rfl, rfl⟩
      go_wp2_with (fail)
      go_end0
      rw [HK.out]
      exact ⟨rfl, H2.out, M1.out⟩
end Go.Proofs.Ytblajeildolloaa
