/- The program's memory: Write, At, Make of either kind. -/
import Derived.Test.YtblajeildolloaaChg
namespace Go.Proofs.Ytblajeildolloaa
set_option linter.unusedVariables false
set_option linter.unusedSimpArgs false
open Go.RowKit

def wrC (C : List Int) (a x : Int) : List Int := if 1 ≤ a ∧ a ≤ C.length then C.set (a.toNat - 1) x else C
theorem wrC_len (C : List Int) (a x : Int) : (wrC C a x).length = C.length := by unfold wrC; split <;> simp
theorem wrC_bd {C : List Int} {a x : Int} (hC : ∀ y ∈ C, -9223372036854775808 ≤ y ∧ y ≤ 9223372036854775807) (x0 : -9223372036854775808 ≤ x) (x1 : x ≤ 9223372036854775807) : ∀ y ∈ wrC C a x, -9223372036854775808 ≤ y ∧ y ≤ 9223372036854775807 := fun y hy => by
  unfold wrC at hy
  split at hy
  · rcases List.mem_or_eq_of_mem_set hy with h | h
    · exact hC y h
    · rw [h]; exact ⟨x0, x1⟩
  · exact hC y hy
set_option maxHeartbeats 1000000 in
theorem write_any (B b : Nat) (v : Value) (C : List Int) (size count odd ref a x : Int) (w : World) (h : MemP B b v C size count odd ref w) (hC : C.length ≤ 1000000) (a0 : -9223372036854775808 ≤ a) (a1 : a ≤ 9223372036854775807) :
    Calls Try.prog 8 #[.pointer (some ⟨b, 0, none⟩), .int .i64 a, .int .i64 x] w fun e w' => e = .returned (.tuple #[]) ∧ MemP B b v (wrC C a x) size (bump count) (if 1 ≤ a ∧ a ≤ C.length then odd else bump odd) ref w' ∧ Mv b v.ownBlock w w' := by
  by_cases ha : 1 ≤ a ∧ a ≤ C.length
  · obtain ⟨k, rfl⟩ : ∃ k : Nat, a = k := ⟨a.toNat, by omega⟩
    have HR := Lib.hid (show wrC C k x = C.set (k - 1) x from if_pos ha)
    rw [if_pos ha]
    have HH := Lib.hid h
    obtain ⟨k1, k2⟩ := ha
    clear h
    go_enter Try.func8, Try.ntmps8
    go_wp2_with (fail)
    with_reducible refine (cell_in B b v C size count odd ref k w HH.out hC (by omega) (by omega)).mono ?_
    rintro e w1 ⟨g, rfl, hv, h1, m1⟩
    obtain ⟨g', c, rfl, _, _⟩ := h1.own.form (by omega)
    have hg : g' = g := by simpa [Value.ownBlock] using hv
    subst hg
    have hx : w1.cell? ⟨g', k - 1, none⟩ = some (.int .i64 (keyAt C (k - 1))) := by
      rw [h1.own.cellAt (k - 1) (by simp; omega)]
      rw [List.getElem?_map, List.getElem?_eq_getElem (by omega)]
      simp [keyAt, List.getD_eq_getElem?_getD, List.getElem?_eq_getElem (show k - 1 < C.length by omega)]
    have hf := h1.own.frozenAt (k - 1)
    obtain ⟨hs, hs2⟩ := h1.own.stored (k - 1) (.int .i64 x)
    have hne : b ≠ g' := fun e => h1.apart (by simp [Value.ownBlock, e])
    have HM : Hid (MemP B b (.slice (some ⟨g', 0, none⟩) C.length c) (C.set (k - 1) x) size (bump count) odd ref (w1.setCell ⟨g', k - 1, none⟩ (.int .i64 x))) := Lib.hid ⟨h1.blk.far (p := ⟨g', k - 1, none⟩) hne _, (by rw [List.length_set, List.map_set]; exact hs), h1.base⟩
    have HV : Hid (Mv b (some g') w (w1.setCell ⟨g', k - 1, none⟩ (.int .i64 x))) := Lib.hid ((m1.wide _).trans_ ⟨rfl, rfl, rfl, by simp, fun i _ _ hi => Below.heap_setCell w1 _ _ i (fun e => hi (by simpa using e))⟩)
    clear h1 m1 hv hs hs2 hne
    go_wp2_with (fail)
    go_end0
    rw [HR.out]
    exact ⟨rfl, HM.out, HV.out⟩
  · have HR := Lib.hid (show wrC C a x = C from if_neg ha)
    rw [if_neg ha]
    have HH := Lib.hid h
    clear h
    go_enter Try.func8, Try.ntmps8
    go_wp2_with (fail)
    with_reducible refine (cell_out B b v C size count odd ref a w HH.out hC a0 a1 (by omega)).mono ?_
    rintro e w1 ⟨rfl, h1, m1⟩
    have H1 := Lib.hid h1
    have M1 := Lib.hid (m1.wide v.ownBlock)
    clear h1 m1 ha
    go_wp2_with (fail)
    go_end0
    rw [HR.out]
    exact ⟨rfl, H1.out, M1.out⟩
end Go.Proofs.Ytblajeildolloaa
