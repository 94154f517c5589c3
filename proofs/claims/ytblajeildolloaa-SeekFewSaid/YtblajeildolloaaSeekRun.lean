/- Frames of seek over small memories: what they come to. No program's text. -/
import Derived.Test.YtblajeildolloaaSeekM
import Derived.Test.YtblajeildolloaaPlantM
import Derived.Test.YtblajeildolloaaMemW
namespace Go.Proofs.Ytblajeildolloaa
set_option linter.unusedVariables false
set_option linter.unusedSimpArgs false
open Go.RowKit

def SS.it (R : Int → Int) (s : SS) : Nat → SS
  | 0 => s
  | t + 1 => (SS.it R s t).step R
theorem SS.Inv.it {s : SS} (h : s.Inv) {R : Int → Int} (hR : ∀ a, -9223372036854775808 ≤ R a ∧ R a ≤ 9223372036854775807) : ∀ t, (SS.it R s t).Inv
  | 0 => h
  | t + 1 => (SS.Inv.it h hR t).step hR
def p3L : List (Int × Int) := [(1, 10), (2, 20), (3, 30)]
/-- The memory with the tree over three keys; with a Rebuild over it; with a Dcss in it, done. -/
def tree3 : List Int := wrC (layF 4 beginL p3L).1 6 (layF 4 beginL p3L).2
def word3 : Int := (layF 4 beginL p3L).2
def tree3R : List Int := wrC (tree3 ++ [word3, 3, 6, 0, 0]) 6 (wOf 4 ((tree3.length : Int) + 1))
def slot3 : Int := childAtI (wAt word3) 2 1
def tree3L : List Int := tree3R ++ [3, 33]
def tree3D : List Int := tree3L ++ [wAt word3 + 2, slot3, rdC tree3L slot3, wOf 2 ((tree3R.length : Int) + 1), 0]
def tree3E : List Int := wrC (wrC tree3D slot3 (wOf 5 ((tree3L.length : Int) + 1))) ((tree3L.length : Int) + 1 + 4) 1
def memK (i : Nat) : List Int := if i = 0 then tree3 else if i = 1 then tree3R else tree3E
def runK (i k : Nat) (t : Nat) : SS := SS.it (rdC (memK i)) (SS.init k) t
/-- How many steps it has (as a search from the beginning). -/
def stepsK (i k : Nat) : Nat := ((List.range 40).find? fun t => (runK i k t).next == 5).getD 0
def wantK (i k : Nat) : Int := if i = 2 ∧ k = 3 then 33 else if 0 < k ∧ k < 4 then 10 * (k : Int) else 0
theorem seekK : ∀ i, i < 3 → ∀ k, k < 5 → (∀ t, t < stepsK i k → (runK i k t).next ≠ 5) ∧ (runK i k (stepsK i k)).next = 5 ∧ (runK i k (stepsK i k)).there = decide (0 < k ∧ k < 4) ∧ (runK i k (stepsK i k)).value = wantK i k ∧ stepsK i k ≤ 40 ∧ 0 < stepsK i k := by decide +kernel
theorem memK_bd : ∀ i, i < 3 → ∀ x ∈ memK i, -9223372036854775808 ≤ x ∧ x ≤ 9223372036854775807 := by decide +kernel
theorem memK_len : ∀ i, i < 3 → (memK i).length ≤ 60 := by decide +kernel
theorem tree3_len : tree3.length = 29 ∧ word3 = 179 ∧ slot3 = 29 := by decide +kernel
end Go.Proofs.Ytblajeildolloaa
