/- Rows of cells that a statement hands over, at plain addresses. General lemmas. -/
import Derived.Test.YtoefhjabaanokaaDoorB8
import Derived.Deep.Grids
set_option linter.unusedSimpArgs false
set_option linter.unusedVariables false
set_option linter.unnecessarySimpa false
namespace Go.Mi
end Go.Mi
