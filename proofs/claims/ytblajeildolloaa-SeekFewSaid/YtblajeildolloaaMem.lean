/- The program's memory: New, cell, Read, Make, Count, Odd, Used, Size, Cells. -/
import Derived.Test.YtblajeildolloaaInts
import Derived.Test.YtblajeildolloaaMv
import Derived.Deep.QuietTactic
import Derived.BigQuiet
namespace Go.Proofs.Ytblajeildolloaa
set_option linter.unusedVariables false
set_option linter.unusedSimpArgs false
open Go.RowKit

def bump (c : Int) : Int := wrap64 (c + 1)
/-- What a cell holds; 0: there is none. -/
def rdC (C : List Int) (a : Int) : Int := if 1 ≤ a ∧ a ≤ C.length then keyAt C (a.toNat - 1) else 0
theorem rdC_in {C : List Int} {a : Nat} (h1 : 1 ≤ a) (h2 : a ≤ C.length) : rdC C a = keyAt C (a - 1) := by
  unfold rdC; rw [if_pos (by omega), Int.toNat_natCast]
theorem rdC_out {C : List Int} {a : Int} (h : a < 1 ∨ C.length < a) : rdC C a = 0 := if_neg (by omega)

structure MemP (B b : Nat) (v : Value) (C : List Int) (size count odd ref : Int) (w : World) : Prop where
  blk : Blk w b 42 #[v, .int .i64 size, .int .i64 count, .int .i64 odd, .int .i64 ref]
  own : w.ownsRow B 2 1 v C.length (C.map (Value.int .i64))
  base : B ≤ b
theorem info_int64m : (Try.prog.info? 2).map (fun i => (i.zero, i.size, i.bytes)) = some (some (.int .i64 0), 1, 8) := by kernel_rfl

section
variable {B b : Nat} {v : Value} {C : List Int} {size count odd ref : Int} {w w' : World}
theorem MemP.below (h : MemP B b v C size count odd ref w) (hb : Below w.heap.size w w') : MemP B b v C size count odd ref w' :=
  ⟨h.blk.below hb h.blk.lt, own_below h.own hb, h.base⟩
theorem MemP.mv {b2 : Nat} {r : Option Nat} (h : MemP B b v C size count odd ref w) (m : Mv b2 r w w') (h1 : b ≠ b2) (h2 : some b ≠ r) (h3 : v.ownBlock ≠ some b2) (h4 : v.ownBlock = none ∨ v.ownBlock ≠ r) : MemP B b v C size count odd ref w' :=
  ⟨m.blk h.blk h1 h2, m.own h.own h3 h4, h.base⟩
theorem MemP.apart (h : MemP B b v C size count odd ref w) : v.ownBlock ≠ some b := own_blk_ne h.own h.blk (by decide)
theorem Mv.set1 (w : World) (b k : Nat) (u : Value) : Mv b none w (w.setCell ⟨b, k, none⟩ u) :=
  ⟨rfl, rfl, rfl, by simp, fun i _ h _ => Below.heap_setCell w _ _ i (by simpa using h)⟩
theorem Mv.trans_ {r : Option Nat} {w1 : World} (h : Mv b r w w1) (k : Mv b r w1 w') : Mv b r w w' :=
  ⟨k.os.trans h.os, k.tape.trans h.tape, k.output.trans h.output, Nat.le_trans h.size k.size, fun i hi h1 h2 => (k.block i (Nat.lt_of_lt_of_le hi h.size) h1 h2).trans (h.block i hi h1 h2)⟩
theorem MemP.set (h : MemP B b v C size count odd ref w) (k : Nat) (hk : k ≠ 0) (u : Value) {size' count' odd' ref' : Int} (he : (#[v, .int .i64 size, .int .i64 count, .int .i64 odd, .int .i64 ref] : Array Value).setIfInBounds k u = #[v, .int .i64 size', .int .i64 count', .int .i64 odd', .int .i64 ref']) : MemP B b v C size' count' odd' ref' (w.setCell ⟨b, k, none⟩ u) :=
  ⟨by have := h.blk.set_ k u; rw [he] at this; exact this, ownsRow_setCell_other h.own (fun e => h.apart (by simpa using e)) u, h.base⟩
end

set_option maxHeartbeats 1000000 in
theorem cell_out (B b : Nat) (v : Value) (C : List Int) (size count odd ref a : Int) (w : World) (h : MemP B b v C size count odd ref w) (hC : C.length ≤ 1000000) (a0 : -9223372036854775808 ≤ a) (a1 : a ≤ 9223372036854775807) (ha : a < 1 ∨ (C.length : Int) < a) :
    Calls Try.prog 24 #[.pointer (some ⟨b, 0, none⟩), .int .i64 a] w fun e w' => e = .returned (.pointer none) ∧ MemP B b v C size (bump count) (bump odd) ref w' ∧ Mv b none w w' := by
  obtain ⟨A, c, rfl⟩ := own_shape h.own
  have H := Lib.hid ((h.set 2 (by decide) (.int .i64 (bump count)) rfl).set 3 (by decide) (.int .i64 (bump odd)) rfl)
  have c0 : w.cell? ⟨b, 2, none⟩ = some (.int .i64 count) := h.blk.cell 2
  have f0 := h.blk.frozen 2
  have h1 := (h.set 2 (by decide) (.int .i64 (bump count)) rfl)
  have c1 : (w.setCell ⟨b, 2, none⟩ (.int .i64 (wrap64 (count + 1)))).cell? ⟨b, 0, none⟩ = some (.slice A C.length c) := h1.blk.cell 0
  have c2 : (w.setCell ⟨b, 2, none⟩ (.int .i64 (wrap64 (count + 1)))).cell? ⟨b, 3, none⟩ = some (.int .i64 odd) := h1.blk.cell 3
  have f2 : (w.setCell ⟨b, 2, none⟩ (.int .i64 (wrap64 (count + 1)))).frozen? ⟨b, 3, none⟩ = false := h1.blk.frozen 3
  clear h h1
  by_cases h0 : a < 1
  · clear ha
    go_enter Try.func24, Try.ntmps24
    go_wp2_with (fail)
    go_ret
    exact ⟨rfl, H.out, (Mv.set1 _ _ _ _).trans_ (Mv.set1 _ _ _ _)⟩
  · have h2 : (C.length : Int) < a := by omega
    clear ha
    go_enter Try.func24, Try.ntmps24
    go_wp2_with (fail)
    go_ret
    exact ⟨rfl, H.out, (Mv.set1 _ _ _ _).trans_ (Mv.set1 _ _ _ _)⟩

set_option maxHeartbeats 1000000 in
theorem cell_in (B b : Nat) (v : Value) (C : List Int) (size count odd ref : Int) (a : Nat) (w : World) (h : MemP B b v C size count odd ref w) (hC : C.length ≤ 1000000) (a0 : 1 ≤ a) (a1 : a ≤ C.length) :
    Calls Try.prog 24 #[.pointer (some ⟨b, 0, none⟩), .int .i64 a] w fun e w' => ∃ g, e = .returned (.pointer (some ⟨g, a - 1, none⟩)) ∧ v.ownBlock = some g ∧ MemP B b v C size (bump count) odd ref w' ∧ Mv b none w w' := by
  obtain ⟨g, c, rfl, _, _⟩ := h.own.form (by omega)
  obtain ⟨k, rfl⟩ : ∃ k, a = k + 1 := ⟨a - 1, by omega⟩
  have H := Lib.hid (h.set 2 (by decide) (.int .i64 (bump count)) rfl)
  have c0 : w.cell? ⟨b, 2, none⟩ = some (.int .i64 count) := h.blk.cell 2
  have f0 := h.blk.frozen 2
  have h1 := (h.set 2 (by decide) (.int .i64 (bump count)) rfl)
  have c1 : (w.setCell ⟨b, 2, none⟩ (.int .i64 (wrap64 (count + 1)))).cell? ⟨b, 0, none⟩ = some (.slice (some ⟨g, 0, none⟩) C.length c) := h1.blk.cell 0
  have e1 : (k : Int) + 1 - 1 = k := by omega
  clear h h1
  go_enter Try.func24, Try.ntmps24
  go_wp2_with (fail)
  go_ret
  exact ⟨g, rfl, rfl, H.out, Mv.set1 _ _ _ _⟩

set_option maxHeartbeats 1000000 in
/-- Read: what stands there; one access more. -/
theorem read_any (B b : Nat) (v : Value) (C : List Int) (size count odd ref a : Int) (w : World) (h : MemP B b v C size count odd ref w) (hC : C.length ≤ 1000000) (a0 : -9223372036854775808 ≤ a) (a1 : a ≤ 9223372036854775807) :
    Calls Try.prog 34 #[.pointer (some ⟨b, 0, none⟩), .int .i64 a] w fun e w' => e = .returned (.int .i64 (rdC C a)) ∧ MemP B b v C size (bump count) (if 1 ≤ a ∧ a ≤ C.length then odd else bump odd) ref w' ∧ Mv b none w w' := by
  by_cases ha : 1 ≤ a ∧ a ≤ C.length
  · obtain ⟨k, rfl⟩ : ∃ k : Nat, a = k := ⟨a.toNat, by omega⟩
    have HR := Lib.hid (rdC_in (C := C) (a := k) (by omega) (by omega))
    rw [if_pos ha]
    have HH := Lib.hid h
    obtain ⟨k1, k2⟩ := ha
    clear h
    go_enter Try.func34, Try.ntmps34
    go_wp2_with (fail)
    with_reducible refine (cell_in B b v C size count odd ref k w HH.out hC (by omega) (by omega)).mono ?_
    rintro e w1 ⟨g, rfl, hv, h1, m1⟩
    have hx : w1.cell? ⟨g, k - 1, none⟩ = some (.int .i64 (keyAt C (k - 1))) := by
      obtain ⟨g', c, rfl, _, _⟩ := h1.own.form (by omega)
      have : g' = g := by simpa [Value.ownBlock] using hv
      subst this
      rw [h1.own.cellAt (k - 1) (by simp; omega)]
      rw [List.getElem?_map, List.getElem?_eq_getElem (by omega)]
      simp [keyAt, List.getD_eq_getElem?_getD, List.getElem?_eq_getElem (show k - 1 < C.length by omega)]
    have H1 := Lib.hid h1
    have M1 := Lib.hid m1
    clear h1 m1 hv
    go_wp2_with (fail)
    go_ret
    rw [HR.out]
    exact ⟨rfl, H1.out, M1.out⟩
  · have HR := Lib.hid (rdC_out (C := C) (a := a) (by omega))
    rw [if_neg ha]
    have HH := Lib.hid h
    clear h
    go_enter Try.func34, Try.ntmps34
    go_wp2_with (fail)
    with_reducible refine (cell_out B b v C size count odd ref a w HH.out hC a0 a1 (by omega)).mono ?_
    rintro e w1 ⟨rfl, h1, m1⟩
    have H1 := Lib.hid h1
    have M1 := Lib.hid m1
    clear h1 m1 ha
    go_wp2_with (fail)
    go_ret
    rw [HR.out]
    exact ⟨rfl, H1.out, M1.out⟩
end Go.Proofs.Ytblajeildolloaa
