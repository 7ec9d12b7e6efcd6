/- Sends of a run: their indexes, their epochs, and that their keys are unlike. Plain laws. -/
import Derived.Test.YtoefhjabaanokaaDoorH35
set_option linter.unusedSimpArgs false
set_option linter.unusedVariables false
set_option linter.unnecessarySimpa false
namespace Go.Mi.Term
end Go.Mi.Term
