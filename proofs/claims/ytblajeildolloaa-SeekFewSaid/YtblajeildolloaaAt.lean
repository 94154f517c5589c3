/- ordinatelaw15.at: an Inner with these keys, in a memory of its own. -/
import Derived.Test.YtblajeildolloaaBegin
namespace Go.Proofs.Ytblajeildolloaa
set_option linter.unusedVariables false
set_option linter.unusedSimpArgs false
open Go.RowKit

theorem bump_eq {c : Int} (h0 : 0 ≤ c) (h1 : c ≤ 1000000000) : bump c = c + 1 := by unfold bump wrap64; omega
def fillA (m k : Nat) : Array Value := ((List.range m).map fun x => Value.int .i64 (if x < k then 57 else 0)).toArray
theorem fillA_made (m : Nat) : madeCells #[Value.int .i64 0] m = fillA m 0 := by
  apply Array.ext
  · simp [fillA, madeCells]
  · intro i h1 h2
    simp [fillA, madeCells, Nat.mod_one]
theorem fillA_at {m k x : Nat} (h : x < m) : (fillA m k)[x]? = some (.int .i64 (if x < k then 57 else 0)) := by simp [fillA, h]
theorem fillA_set {m k : Nat} (h : k < m) : (fillA m k).setIfInBounds k (.int .i64 57) = fillA m (k + 1) := by
  apply Array.ext
  · simp [fillA]
  · intro i h1 h2
    have hi : i < m := by simpa [fillA] using h2
    by_cases e : k = i
    · subst e; simp [fillA, h]
    · rw [Array.getElem_setIfInBounds_ne (by simpa [fillA] using hi) e]
      have : (i < k ↔ i < k + 1) := by omega
      simp [fillA, this]
theorem fillA_ints {w : World} {g m : Nat} {t : TypeId} (h : Blk w g t (fillA m m)) : IntsAt w (g + 1) (some ⟨g, 0, none⟩) (List.replicate m 57) := by
  refine ⟨by simp, fun _ => ⟨_, rfl, Nat.lt_succ_self _, fun j u hu => ?_⟩⟩
  have e : (⟨g, 0, none⟩ : Addr).add j = ⟨g, j, none⟩ := by unfold Addr.add; split <;> simp_all
  rw [e, h.cell j]
  rw [List.map_replicate, List.getElem?_replicate] at hu
  split at hu
  · rename_i hj
    rw [fillA_at hj, if_pos hj]
    exact hu
  · cases hu
def innerL (q : List Int) : List Int := [(q.length : Int) + 1, 0, 0, 0, 0] ++ q ++ List.replicate (q.length + 1) 57
def atL (q : List Int) : List Int := beginL ++ innerL q
theorem innerL_len (q : List Int) : (innerL q).length = 2 * q.length + 6 := by simp [innerL]; omega
def AtPost (q : List Int) (w : World) (e : Ending) (w' : World) : Prop := ∃ v, e = .returned (.tuple #[.pointer (some ⟨w.heap.size, 0, none⟩), .int .i64 8]) ∧ MemP w.heap.size w.heap.size v (atL q) 2000 3 0 0 w' ∧ Below w.heap.size w w'
def FillRel (m : Nat) (w : World) (i : Value) (wr : World) : Prop := ∃ k : Nat, k ≤ m ∧ i = .int .i64 k ∧ Blk wr w.heap.size 2 (fillA m k) ∧ Below w.heap.size w wr
end Go.Proofs.Ytblajeildolloaa
