/- The walks of package probe. -/
import Derived.Test.YthmcakobpjnnmaaGreatMathG
import Derived.Test.YthmcakobpjnnmaaGreatShare
import Derived.Test.YthmcakobpjnnmaaGreatInts
namespace Go.Proofs.YthmcakobpjnnmaaGreat
set_option linter.unusedVariables false
set_option linter.unusedSimpArgs false
open Go.RowKit

end Go.Proofs.YthmcakobpjnnmaaGreat
