/- What the enemy saw, as a law is told it. General lemmas. -/
import Derived.Test.YtoefhjabaanokaaDoorY22
import Derived.Test.YtoefhjabaanokaaDoorS11
set_option linter.unusedSimpArgs false
set_option linter.unusedVariables false
set_option linter.unnecessarySimpa false
namespace Go.Mi.Term
open Go.Mi Go.Proofs Go.RowKit
abbrev tkS (ts:List Tm):Sp TT:= .pr ⟨λg w v=>∃xs,SlA w g.X v ts.length xs/\IsTs w g.X ts xs,λ⟨xs,h1,h2⟩ k=>⟨xs,h1.mv k.ch (Gh.sub _) k.X,IsTs.mv k.ch (Gh.sub _) k.X _ _ h2⟩⟩
abbrev tpS (t:Tm) (j:Nat):Sp TT:= .pr ⟨λg w v=>∃b o vs,v=vP b (o+j)/\b∉g.X/\b<w.heap.size/\At w b o vs/\IsT w g.X t vs,λ⟨b,o,vs,h1,h2,h3,h4,h5⟩ k=>⟨b,o,vs,h1,λhm=>by
 rcases k.X b hm with h|h
 ·exact h2 h
 ·omega,zE h3 k.ch.size,h4.mv k.ch λhm=>h2 (Gh.sub _ b hm),IsT.mv k.ch (Gh.sub _) k.X _ _ h5⟩⟩
theorem IsTs.pick {w:World} {X:List Nat}:∀{ts:List Tm} {xs:List Value} {j:Nat} {t:Tm},IsTs w X ts xs->ts[j]? =some t->∃u,IsT w X t u/\u.length=3/\(xs.drop (j*3)).take u.length=u
 |[],_,_,_,_,h=>by simp at h
 |s::ts,xs,0,t,h,e=>by
  simp only[IsTs]at h;obtain⟨u,r,rfl,h1,_⟩:=h;simp at e;subst e;obtain⟨_,_,_,_,_,rfl⟩:=h1.form;exact⟨_,h1,rfl,by simp⟩
 |s::ts,xs,j+1,t,h,e=>by simp only[IsTs]at h;obtain⟨u,r,rfl,h1,h2⟩:=h;obtain⟨_,_,_,_,_,rfl⟩:=h1.form;obtain⟨v,h3,h4,h5⟩:=IsTs.pick h2 (by simpa using e);refine⟨v,h3,h4,?_⟩;rw[Nat.add_mul,Nat.one_mul,show j*3+3=((j*3+1)+1)+1 by omega];simpa using h5
section
set_option maxRecDepth 100000
variable {ops:List Oper} {n:Nat} {B:Nat->BX XX} {i p b k o base:Nat} {L:TL TT} {ph:List Nat} {ρ:RX} {ns:List (Nat×Sp TT)} {ds:Option Tmp} {ty:TypeId} {pos:String} {af:Array Edge} {gu:Option (Nat×Bool)} {t:TypeId} {x y z:Operand} {κ:RY} {r:Rn} {us:List Tm} {u:Tm} {c:Bool}
theorem cR (hop:ops.getD i default=⟨ds,.call ⟨.builtin .len,#[x],#[24]⟩,t,pos,af,gu⟩) (hx:spO L x=some (tkS us)):EOb Tryd.prog n ops XX B ⟨i,L,eI us.length,ph,false⟩ p:=bN λξ g w hB hH=>by rw[hop];obtain⟨v,h1,xs,h2,_⟩:=bH hx hH;obtain⟨ad,cap,rfl,_⟩:=h2.form;exact⟨_,rfl,bW u24 h1⟩
theorem gA {j:Nat} (hop:ops.getD i default=⟨ds,.indexAddr 24 x y,t,pos,af,gu⟩) (hx:spO L x=some (tkS us)) (hy:spO L y=some (eI j)) (hu:us[j]? =some u):EOb Tryd.prog n ops XX B ⟨i,L,tpS u 0,ph,false⟩ p:=bN λξ g w hB hH=>by rw[hop];obtain⟨v,h1,xs,h2,h3⟩:=bH hx hH;have hj:=dN hu;obtain⟨b,o,cap,rfl,h4,h5,h6⟩:=h2.some (by omega);obtain⟨q,h7,h8,h9⟩:=IsTs.pick h3 hu;exact⟨_,⟨b,o+j*3,q,rfl,h4,h5,h6.part (j*3) h9,h7⟩,dU u24 b6 h1 (bF hy) rfl hj⟩
theorem j8 (hop:ops.getD i default=⟨ds,.load 26 x,t,pos,af,gu⟩) (hx:spO L x=some (tpS u 0)):EOb Tryd.prog n ops XX B ⟨i,L,tmS u,ph,false⟩ p:=bN λξ g w hB hH=>by rw[hop];obtain⟨v,h1,b,o,vs,rfl,_,_,h4,h5⟩:=bH hx hH;obtain⟨a1,a2,ad,l,cp,rfl⟩:=h5.form;exact⟨_,⟨_,_,_,rfl,h5⟩,cb u26 rfl b6 h1 (λj q hq=>h4 j q hq) rfl⟩
end
end Go.Mi.Term
