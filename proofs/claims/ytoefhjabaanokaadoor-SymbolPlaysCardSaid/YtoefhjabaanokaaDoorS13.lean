/- What the reference tells of a run's keys. Plain laws. -/
import Derived.Test.YtoefhjabaanokaaDoorY28
import Derived.Test.YtoefhjabaanokaaDoorD9
set_option linter.unusedSimpArgs false
set_option linter.unusedVariables false
set_option linter.unnecessarySimpa false
namespace Go.Mi.Term
def pS (x:Tm):Prop:=cy x 0=true/\cF x<=5000/\Ok x
theorem Fine.told {m c:Nat} {t:Tm} (h:Fine m c t) (h1:m<100) (h2:c<=5000):cy t 0=true/\cF t<=5000/\Ok t:=by have :=h.sh 0 (by omega);exact⟨this,zy h.nd h2,(fW t 0 this).1⟩
end Go.Mi.Term
