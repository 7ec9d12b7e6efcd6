/- Clean as a value. General lemmas. -/
import Derived.Test.YtoefhjabaanokaaDoorS13
import Derived.Test.YtoefhjabaanokaaDoorH38
set_option linter.unusedSimpArgs false
set_option linter.unusedVariables false
set_option linter.unnecessarySimpa false
namespace Go.Mi.Term
open Go.Mi Go.Proofs Go.RowKit
end Go.Mi.Term
