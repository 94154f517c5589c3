/- What a claim's form asks of the program as a whole. -/
import Derived.Test.YtblajeildolloaaRows
import Derived.JoinedOf
import Derived.WalkKit
namespace Go.Proofs.Ytblajeildolloaa
open Go.RowKit

theorem closedEnter : Try.pinned.checked.prog.mayEnter = true := by as_aux_lemma => kernel_rfl
theorem closedLifts : Try.pinned.checked.prog.liftsFinal = Rows.seekFewRow.lifted := by as_aux_lemma => kernel_rfl
theorem closedMake : Try.pinned.checked.prog.make = some Rows.seekFewRow.make := by as_aux_lemma => kernel_rfl
end Go.Proofs.Ytblajeildolloaa
