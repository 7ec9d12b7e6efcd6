/- Keys that a call told; terms compared. General lemmas. -/
import Derived.Test.YtoefhjabaanokaaDoorH36
import Derived.Test.YtoefhjabaanokaaDoorS10
set_option linter.unusedSimpArgs false
set_option linter.unusedVariables false
set_option linter.unnecessarySimpa false
namespace Go.Mi.Term
open Go.Mi Go.Proofs Go.RowKit
abbrev kpS (e:Ky) (j:Nat):Sp TT:= .pr ⟨λg w v=>∃b o vs,v=vP b (o+j)/\b∉g.X/\b<w.heap.size/\At w b o vs/\KyIs w g.X e vs,λ⟨b,o,vs,h1,h2,h3,h4,h5⟩ k=>⟨b,o,vs,h1,λhm=>by
 rcases k.X b hm with h|h
 ·exact h2 h
 ·omega,zE h3 k.ch.size,h4.mv k.ch λhm=>h2 (Gh.sub _ b hm),h5.mv k.ch (Gh.sub _) k.X⟩⟩
theorem KyIs.len6 {w:World} {X:List Nat} {e:Ky} {vs:List Value} (h:KyIs w X e vs):vs.length=6:=KyIs.len _ _ h
section
set_option maxRecDepth 100000
variable {ops:List Oper} {n:Nat} {B:Nat->BX XX} {i p b k o base:Nat} {L:TL TT} {ph:List Nat} {ρ:RX} {ns:List (Nat×Sp TT)} {ds:Option Tmp} {ty:TypeId} {pos:String} {af:Array Edge} {gu:Option (Nat×Bool)} {t:TypeId} {x y z:Operand} {κ:RY} {r:Rn} {e:Ky} {ks:List Ky} {a a':Tm} {c:Bool}
theorem o6 {j:Nat} (hop:ops.getD i default=⟨ds,.indexAddr 53 x y,t,pos,af,gu⟩) (hx:spO L x=some (ksS ks)) (hy:spO L y=some (eI j)) (he:ks[j]? =some e):EOb Tryd.prog n ops XX B ⟨i,L,kpS e 0,ph,false⟩ p:=bN λξ g w hB hH=>by rw[hop];obtain⟨v,h1,xs,h2,h3⟩:=bH hx hH;have hj:=dN he;obtain⟨b,o,cap,rfl,h4,h5,h6⟩:=h2.some (by omega);obtain⟨x1,u,x2,rfl,h8,h7,_⟩:=AllIs.at (λ_ _ h=>KyIs.len6 h) h3 he;exact⟨_,⟨b,o+j*6,u,rfl,h4,h5,h6.part (j*6) (by rw[<-h8];simp),h7⟩,dU u53 nW h1 (bF hy) rfl hj⟩
theorem tQ {f m q:Nat} {fs:Array Field} {fd:Field} (hop:ops.getD i default=⟨ds,.fieldAddr 58 x f,t,pos,af,gu⟩) (hx:spO L x=some (kpS e 0)) (hs:(Tryd.prog.info? fd.type).map (·.size)=some (m+1)) (hu:Tryd.prog.underlying 58=some (.struct fs)) (hf:fs[f]? =some fd) (hq:fd.offset=q):EOb Tryd.prog n ops XX B ⟨i,L,kpS e q,ph,false⟩ p:=bN λξ g w hB hH=>by rw[hop];obtain⟨v,h1,b,o,vs,rfl,h2⟩:=bH hx hH;exact⟨_,⟨b,o,vs,rfl,h2⟩,bG hu hs hf h1 (by rw[hq];rfl)⟩
theorem vQ {j:Nat} {v:Value} (hop:ops.getD i default=⟨ds,.load 3 x,t,pos,af,gu⟩) (hx:spO L x=some (kpS e (j+3))) (hv:[vI e.ep,vI e.who,vI e.ix][j]? =some v):EOb Tryd.prog n ops XX B ⟨i,L,eqS v,ph,false⟩ p:=bN λξ g w hB hH=>by rw[hop];obtain⟨u,h1,b,o,vs,rfl,_,_,h4,ts,rfl,h5⟩:=bH hx hH;obtain⟨_,_,_,_,_,rfl⟩:=h5.form;refine⟨v,rfl,bJ Tryd.underlying3 rfl h1 (h4 (j+3) v ?_)⟩;rw[zM (by simp)];simpa using hv
theorem yS (hop:ops.getD i default=⟨ds,.load 26 x,t,pos,af,gu⟩) (hx:spO L x=some (kpS e 0)):EOb Tryd.prog n ops XX B ⟨i,L,tmS e.t,ph,false⟩ p:=bN λξ g w hB hH=>by rw[hop];obtain⟨u,h1,b,o,vs,rfl,_,_,h4,ts,rfl,h5⟩:=bH hx hH;obtain⟨a1,a2,ad,l,cp,rfl⟩:=h5.form;refine⟨_,⟨_,_,_,rfl,h5⟩,cb u26 rfl b6 h1 (λj u hu=> ?_) rfl⟩;have :=h4 j u (by rw[zL (dN hu)];exact hu);simpa using this
end
end Go.Mi.Term
