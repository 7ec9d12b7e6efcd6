/- What the reference's walks need. General lemmas. -/
import Derived.Test.YtoefhjabaanokaaDoorS12
import Derived.Test.YtoefhjabaanokaaDoorY25
set_option linter.unusedSimpArgs false
set_option linter.unusedVariables false
set_option linter.unnecessarySimpa false
namespace Go.Mi.Term
open Go.Mi Go.Proofs Go.RowKit
def oK (w:World) (X:List Nat) (ts:List Tm) (v:Value):Prop:=∃xs,SlA w X v ts.length xs/\IsTs w X ts xs
theorem tf3 (x y:Bool):(x=true/\y=true)\/(x=true/\y=false)\/x=false:=by cases x<;>cases y<;>simp
theorem tf2 (x:Bool):x=true\/x=false:=by cases x<;>simp
theorem nY {ks:List Tm} {d:Nat} (h:cA ks d=true) {x:Tm} (hx:x∈ks):cy x d=true:=by
 induction ks with
 |nil=>simp at hx
 |cons y l ih=>
  simp only[cA,zD]at h;rcases zx.1 hx with rfl|hx
  ·exact h.1
  ·exact ih h.2 hx
theorem mS {k n:Int} {ks:List Tm} {d:Nat} (h:cy (.mk k n ks) d=true):(1<=k/\k<=9)/\(k=1->0<=n/\n<=1073741824)/\d<100/\low k<=ks.length/\ks.length<=dZ k/\∀x,x∈ks->cy x (d+1)=true:=by simp only[cy,zD,zU]at h;obtain⟨⟨h1,h2,h3,h4⟩,h5⟩:=h;simp only[named,zD,z8,zU,Aq,decide_eq_false_iff_not]at h1;exact⟨h1.1,λe=>h1.2.resolve_left (λh=>h e),h2,h3,h4,λx hx=>nY h5 hx⟩
theorem oq {ks:List Tm} {i:Nat} {x:Tm} (hx:ks[i]? =some x):co (ks.take (i+1))=co (ks.take i)+cF x:=by
 rw[dC hx];generalize ks.take i=l
 induction l with
 |nil=>simp [co]
 |cons y l ih=>simp only[Ah,co,ih];omega
theorem ko (ks:List Tm) (i:Nat):co (ks.take i)<=co ks:=by
 induction ks generalizing i with
 |nil=>simp
 |cons y l ih=>cases i with
  |zero=>simp [co]
  |succ i=>simp only[AV,co];have :=ih i;omega
theorem qn {ks:List Tm} {x:Tm} (h:x∈ks):cF x<=co ks:=by
 induction ks with
 |nil=>simp at h
 |cons y l ih=>
  simp only[co];rcases zx.1 h with rfl|h
  ·omega
  ·have :=ih h;omega
end Go.Mi.Term
