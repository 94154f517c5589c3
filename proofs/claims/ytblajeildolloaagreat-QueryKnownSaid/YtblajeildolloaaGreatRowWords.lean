/- Words for the rows of laws that take slices of whole numbers. -/
import Derived.Test.YtblajeildolloaaGreatInts
import Derived.SizedLaws
import Derived.ChangeSlices
import Derived.OpenShut
namespace Go.Proofs.YtblajeildolloaaGreat
set_option linter.unusedVariables false
set_option linter.unusedSimpArgs false
open Go.RowKit Go.ChangeShapes Go.WideShapes

def IsRow (k : IntKind) (w : World) (a : Option Addr) (len cap : Nat) (zs : List Int) : Prop :=
  (a = none ∧ len = 0 ∧ cap = 0 ∧ zs = []) ∨
  ∃ x, a = some x ∧ len ≤ cap ∧ cap ≤ maxLen ∧ zs.length = cap ∧ (∀ i, i < zs.length → w.cell? (x.add i) = some (.int k (zs.getD i 0))) ∧ ∀ n ∈ zs, (Lit.int k n).wf = true
/-- A row's slice of whole numbers is no longer than its weight allows (the print's word, turned). -/
theorem row_sized {H : Type} {enc : TypeId × Value → H} {P : Program} {W : World} {base : Nat} {spare : Nat → Bool} {held : Bool} {t e : TypeId} {k : IntKind} {a : Option Addr} {len cap : Nat} {d : DataW H} {ps : List MemPlace} {ts : List TypeId} {ds : List (DataW H)} {j : Nat}
    (hsz : (DataW.weightsEach P ts ds).all (· ≤ reachBytes) = true) (ht : ts[j]? = some t) (hd : ds[j]? = some d) (hu : P.underlying t = some (.slice e)) (he : P.underlying e = some (.int k)) (hc : P.cellsOf e = 1) {B : Nat} (hB : P.bytesOf e = B)
    (h : DataW.Trod enc P W base spare held t (.slice a len cap) d ps) : len * B ≤ 140737488351232 := by
  obtain ⟨fuel, hf⟩ := h
  rcases open_ints hu he hc hf with ⟨hcs, _⟩ | ⟨x, l, c, zs, hcs, _, hl, _, hz, hx, _, _⟩
  · simp [Value.cells] at hcs
    obtain ⟨rfl, rfl, rfl⟩ := hcs
    simp
  · simp [Value.cells] at hcs
    obtain ⟨rfl, rfl, rfl⟩ := hcs
    obtain ⟨hx, _⟩ := Prod.mk.inj hx
    subst hx
    have z := sized_slice hsz ht hd hu
    rw [hB] at z
    have hl2 : len ≤ zs.length := by
      rw [hz]
      split
      · exact hl
      · exact Nat.le_refl _
    have h1 : (lits (H := H) k (zs.take len)).length + (lits (H := H) k (zs.drop len)).length = zs.length := by
      simp [lits]
      omega
    rw [h1] at z
    exact Nat.le_trans (Nat.mul_le_mul_right _ hl2) z
/-- What a row's slice reads as. -/
theorem row_ints {w : World} {a : Option Addr} {len cap : Nat} {zs : List Int} (h : IsRow .i64 w a len cap zs) :
    ∃ q : List Int, len = q.length ∧ q.length ≤ cap ∧ IntsAt w w.heap.size a q ∧ ∀ i, i < q.length → -9223372036854775808 ≤ keyAt q i ∧ keyAt q i ≤ 9223372036854775807 := by
  rcases h with ⟨rfl, rfl, rfl, rfl⟩ | ⟨x, rfl, hl, _, hz, hcell, hw⟩
  · exact ⟨[], rfl, Nat.le_refl _, Reads.none_, fun i h => absurd h (by simp)⟩
  · have hlen : (zs.take len).length = len := by rw [List.length_take]; omega
    have key : ∀ i, i < len → keyAt (zs.take len) i = zs.getD i 0 := fun i hi => by
      unfold keyAt
      rw [List.getD_eq_getElem?_getD, List.getD_eq_getElem?_getD, List.getElem?_take, if_pos hi]
    refine ⟨zs.take len, hlen.symm, by rw [hlen]; exact hl, ⟨by simp, fun hn => ⟨x, rfl, ?_, fun j u hu => ?_⟩⟩, fun i hi => ?_⟩
    · have := World.block_lt_of_cell? w _ (hcell 0 (by omega))
      rwa [block_of_add] at this
    · have hj : j < len := by
        rcases Nat.lt_or_ge j len with g | g
        · exact g
        · rw [List.getElem?_eq_none (by simp; omega)] at hu; cases hu
      rw [hcell j (by omega)]
      rw [List.getElem?_map, List.getElem?_take, if_pos hj, List.getElem?_eq_getElem (by omega)] at hu
      rw [List.getD_eq_getElem?_getD, List.getElem?_eq_getElem (by omega)]
      exact hu
    · have hi' : i < len := by omega
      rw [key i hi', List.getD_eq_getElem?_getD, List.getElem?_eq_getElem (by omega)]
      exact Go.bounds_i64 (hw _ (List.getElem_mem _))
end Go.Proofs.YtblajeildolloaaGreat
