/- What a claim's form asks of the program as a whole. -/
import Derived.Test.YtblajeildolloaaGreatRows
import Derived.JoinedOf
import Derived.WalkKit
namespace Go.Proofs.YtblajeildolloaaGreat
open Go.RowKit

theorem closedEnter : Tryz.pinned.checked.prog.mayEnter = true := by as_aux_lemma => kernel_rfl
theorem closedLifts : Tryz.pinned.checked.prog.liftsFinal = Rows.queryKnownRow.lifted := by as_aux_lemma => kernel_rfl
theorem closedMake : Tryz.pinned.checked.prog.make = some Rows.queryKnownRow.make := by as_aux_lemma => kernel_rfl
end Go.Proofs.YtblajeildolloaaGreat
