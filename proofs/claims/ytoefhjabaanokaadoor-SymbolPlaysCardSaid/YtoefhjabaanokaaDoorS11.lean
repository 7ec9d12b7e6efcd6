/- What the enemy sees of sends: a box for each, in their order. Plain laws. -/
import Derived.Test.YtoefhjabaanokaaDoorS10
set_option linter.unusedSimpArgs false
set_option linter.unusedVariables false
set_option linter.unnecessarySimpa false
namespace Go.Mi.Term
end Go.Mi.Term
