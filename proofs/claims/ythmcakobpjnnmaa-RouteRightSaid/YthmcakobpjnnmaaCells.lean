/- Mem.Cells: a copy of what the cells hold; the reference's Words. -/
import Derived.Test.YthmcakobpjnnmaaConcat
import Derived.Lib.SliceRun
namespace Go.Proofs.Ythmcakobpjnnmaa
set_option linter.unusedVariables false
set_option linter.unusedSimpArgs false
open Go.RowKit

set_option maxRecDepth 100000 in
set_option maxHeartbeats 1000000 in
theorem sliceClone_any (A : Option Addr) (c N : Nat) (L : List Int) (w : World) (hN : N = L.length) (h : IntsAt w w.heap.size A L) (hl : L.length ≤ 1000000) :
    Calls Try.prog 61 #[.slice A N c] w (SomeOwn L w) := by
  subst hN
  have qT : ∀ (w : World) (a : Option Addr) (n c n' c' : Nat), (binOp .eql 25 (.slice a n c) (.slice none n' c')).run Try.prog w = .ok (.bool a.isNone) w := fun w a n c n' c' => Lib.run_eql_slice_nil w _ _ a n c n' c' Try.underlying25
  obtain ⟨i0, hi0, hz0, hz1, hz2⟩ := info_parts info_int64m
  rcases A with _ | ad
  · have h0 : L = [] := by
      rcases L with _ | ⟨x, L⟩
      · rfl
      · obtain ⟨ad, e, _⟩ := h.cells (by simp)
        cases e
    subst h0
    clear h
    go_enter Try.func61, Try.ntmps61
    go_wp2_with (fail)
    go_ret
    exact ⟨_, rfl, World.ownsRow_nil _ _ _ _, Below.refl _ _⟩
  · have H := Lib.hid h
    clear h
    go_enter Try.func61, Try.ntmps61
    have hO := Lib.hid (World.ownsRow_lit (base := w.heap.size) (e := 2) (size := 1) w #[] 0 (Nat.le_refl _) (by simp [maxLen]) rfl)
    have hB := (Below.refl w.heap.size w).alloc (Nat.le_refl _) (.cells #[] 2)
    have hin := H.out.below hB
    have hsz := hB.size
    go_wp2_with (at_builtin; refine wpList_append_any _ rfl _ _ 25 rfl w.heap.size 2 i0 (.int .i64 0) 1 8 Try.underlying25 hi0 hz0 hz1 hz2 rfl (by decide) _ 0 [] rfl hO.out w.heap.size (some ad) L.length c (L.map (Value.int .i64)) rfl hin (ints_one L) ?p1 ?p2 ?p3 ?_; (case p1 => (unfold maxLen; omega)); (case p2 => omega); (case p3 => exact hsz); intro v' w2 hO2 hg hvb)
    have hB2 : Below w.heap.size w w2 := hB.grown hg hsz (fun g h => (hO.out.lt g h).1)
    go_wp2_with (fail)
    go_ret
    refine ⟨_, rfl, ?_, hB2⟩
    simpa using hO2

set_option maxHeartbeats 1000000 in
theorem cells_any (B b : Nat) (v : Value) (C : List Int) (size count odd ref : Int) (w : World) (h : MemP B b v C size count odd ref w) (hC : C.length ≤ 1000000) :
    Calls Try.prog 19 #[.pointer (some ⟨b, 0, none⟩)] w (SomeOwn C w) := by
  obtain ⟨A, c, rfl⟩ := own_shape h.own
  have c0 : w.cell? ⟨b, 0, none⟩ = some (.slice A C.length c) := h.blk.cell 0
  have HI := Lib.hid (IntsAt.of_own h.own).2
  clear h
  go_enter Try.func19, Try.ntmps19
  go_wp2_with (fail)
  with_reducible refine (sliceClone_any A c C.length C _ rfl HI.out hC).mono ?_
  rintro e w1 ⟨v, rfl, hO, hB⟩
  go_wp2_with (fail)
  go_ret
  exact ⟨v, rfl, hO, hB⟩
set_option maxHeartbeats 1000000 in
set_option maxRecDepth 100000 in
theorem words15_any (A A2 : Option Addr) (c c2 N N2 B : Nat) (q : List Int) (w : World) (hN : N = q.length) (hN2 : N2 = q.length) (h1 : IntsAt w B A q) (h2 : IntsAt w B A2 q) (hl : q.length ≤ 1000000) :
    Calls Try.prog 20 #[.slice A N c, .slice A2 N2 c2] w fun e w' => e = .returned (.bool true) ∧ Drawn w w' := by
  subst hN
  subst hN2
  have H1 := Lib.hid h1
  have H2 := Lib.hid h2
  clear h1 h2
  go_enter Try.func20, Try.ntmps20
  go_wp2
  go_loopw [5] (fun v wr => ∃ (i m : Nat), i ≤ q.length ∧ v = .int .i64 i ∧ wr = w.drewN m) (fun v _ => q.length - (intOf v).toNat)
  case atStart => exact ⟨0, 0, by omega, rfl, rfl⟩
  case round =>
    obtain ⟨i, m, i1, rfl, rfl⟩ := hrel
    by_cases hlt : i < q.length
    · obtain ⟨ad, rfl, _, hc⟩ := H1.out.cells (by omega)
      have hcell := hc i hlt
      clear hc
      obtain ⟨ad2, rfl, _, hc⟩ := H2.out.cells (by omega)
      have hcell2 := hc i hlt
      clear hc
      generalize keyAt q i = x at hcell hcell2
      go_wp2
      go_quiet (fail)
      go_wp2
      go_roundw
      case rel => exact ⟨i + 1, _, by omega, by go_num, rfl⟩
      case measure => simp [intOf]; omega
    · go_wp2
      go_ret
      exact ⟨rfl, Drawn.of _ _⟩
end Go.Proofs.Ythmcakobpjnnmaa
