/- Locks and hashes: what is known of them. Plain laws. -/
import Derived.Test.YtoefhjabaanokaaDoorK1
set_option linter.unusedSimpArgs false
set_option linter.unusedVariables false
set_option linter.unnecessarySimpa false
namespace Go.Mi.Term
abbrev pN (n:Int):Tm:= .mk 1 n []
theorem pd {n:Int} (h0:0<=n) (h1:n<=1073741824):Ok (pN n):=by refine .mk ?_ (by simp [low]) (by simp [dZ]) (by simp);simp only[named,zD,z8,zU,Aq,decide_eq_false_iff_not];omega
theorem oG {a:Tm} {n:Int} (ha:Ok a) (h0:0<=n) (h1:n<=1073741824) (h:txt a=txt (pN n)):a=pN n:=by
 have hal:=eC ha (pd h0 h1) h;cases a with
 |mk k m ks=>
  obtain⟨e1,e2,_⟩:=hal;simp only[Tm.kind,Tm.name]at e1 e2;subst e1;have e2:=e2 rfl;subst e2;have :=ha.atom;subst this;rfl
mutual
theorem sH:(t:Tm)->(n:Nat)->n+cF t<=5000->cnt t n=n+cF t
 | .mk _ _ ks,n,h=>by simp only[cF]at h;simp only[cnt,cF];rw[pF ks (n+1) (by omega)];omega
theorem pF:(ts:List Tm)->(n:Nat)->n+co ts<=5000->eZ ts n=n+co ts
 |[],n,_=>by simp [eZ,co]
 |t::ts,n,h=>by simp only[co]at h;simp only[eZ,co];rw[zK (by omega),sH t n (by omega),pF ts (n+cF t) (by omega)];omega
end
theorem wo {t:Tm} (h:cF t<=5000) (hs:cy t 0=true):may t=true:=by have h1:=sH t 0 (by omega);simp only[may,hs,Bc,zU];unfold size;omega
theorem mT {n:Int} {d:Nat} (h0:0<=n) (h1:n<=1073741824) (hd:d<100):cy (pN n) d=true:=by simp only[cy,cA,named,low,dZ,Bc,zD,z8,zU,Aq,decide_eq_false_iff_not,Az];simp;omega
end Go.Mi.Term
namespace Go.Mi.Term
end Go.Mi.Term
