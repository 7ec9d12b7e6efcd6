/- Acts that a law is given, and what laws ask of a run. General lemmas. -/
import Derived.Test.YtoefhjabaanokaaDoorD9
set_option linter.unusedSimpArgs false
set_option linter.unusedVariables false
set_option linter.unnecessarySimpa false
namespace Go.Mi.Term
open Go.Mi Go.Proofs Go.RowKit
structure Ac where
 k : Int
 who : Int
 kem : Bool
def acv (a : Ac) : List Value := [vI a.k, vI a.who, .bool a.kem]
theorem kinds (k : Int) : k = 1 ∨ (¬k = 1 ∧ k = 2) ∨ (¬k = 1 ∧ ¬k = 2) := by omega
def brk (c : Bool) (r : Rn) (k : Int) : Rn := bif c then r.doAct k 0 false else r
end Go.Mi.Term
