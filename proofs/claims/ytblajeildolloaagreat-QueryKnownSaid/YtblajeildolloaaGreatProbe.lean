/- The walks of package probe. -/
import Derived.Test.YtblajeildolloaaGreatMathG
import Derived.Test.YtblajeildolloaaGreatShare
import Derived.Test.YtblajeildolloaaGreatInts
namespace Go.Proofs.YtblajeildolloaaGreat
set_option linter.unusedVariables false
set_option linter.unusedSimpArgs false
open Go.RowKit

end Go.Proofs.YtblajeildolloaaGreat
