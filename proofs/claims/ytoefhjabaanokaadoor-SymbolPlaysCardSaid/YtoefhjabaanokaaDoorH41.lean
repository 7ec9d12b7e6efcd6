/- Two terms' cells that are made in either order. General lemmas. -/
import Derived.Test.YtoefhjabaanokaaDoorH40
import Derived.Test.YtoefhjabaanokaaDoorD9
set_option linter.unusedSimpArgs false
set_option linter.unusedVariables false
set_option linter.unnecessarySimpa false
namespace Go.Mi.Term
open Go.Mi Go.Proofs Go.RowKit
end Go.Mi.Term
