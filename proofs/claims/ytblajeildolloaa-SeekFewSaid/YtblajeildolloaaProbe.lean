/- The walks of package probe. -/
import Derived.Test.YtblajeildolloaaMathG
import Derived.Test.YtblajeildolloaaShare
import Derived.Test.YtblajeildolloaaInts
namespace Go.Proofs.Ytblajeildolloaa
set_option linter.unusedVariables false
set_option linter.unusedSimpArgs false
open Go.RowKit

end Go.Proofs.Ytblajeildolloaa
