/- Acts that a law is given, and what laws ask of a run. General lemmas. -/
import Derived.Test.YtoefhjabaanokaaDoorD9
set_option linter.unusedSimpArgs false
set_option linter.unusedVariables false
set_option linter.unnecessarySimpa false
namespace Go.Mi.Term
open Go.Mi Go.Proofs Go.RowKit
structure Ac where
 k:Int
 who:Int
 kem:Bool
def acv (a:Ac):List Value:=[vI a.k,vI a.who,.bool a.kem]
def acL (l:List Ac):List Value:=l.flatMap acv
theorem sX:∀{l:List Ac} {j:Nat} {p:Ac},l[j]? =some p->((acL l).drop (j*3)).take (acv p).length=acv p
 |[],j,p,h=>by simp at h
 |c::l,0,p,h=>by simp at h;subst h;simp [acL,acv]
 |c::l,j+1,p,h=>by have :=sX (l:=l) (j:=j) (p:=p) (by simpa using h);rw[Nat.add_mul,Nat.one_mul,show j*3+3=((j*3+1)+1)+1 by omega];simpa[acL,acv]using this
theorem TT.own {g g':Gh} {w w':World} {b:Nat} (k:TT g w g' w') (h:b∉g.F++g.M) (hb:b<w.heap.size):b∉g'.F++g'.M:=λhm=>by
 rcases k.sub b hm with h'|h'
 ·exact h h'
 ·omega
abbrev acS (l:List Ac):Sp TT:= .pr ⟨λg w v=>(∃ad cap,v= .slice ad 0 cap/\l=[])\/∃b o cap,v= .slice (some ⟨b,o,none⟩) l.length cap/\b∉g.F++g.M/\b<w.heap.size/\At w b o (acL l),λh k=>by
 rcases h with h|⟨b,o,cap,h1,h2,h3,h4⟩
 ·exact .inl h
 ·exact .inr ⟨b,o,cap,h1,k.own h2 h3,zE h3 k.ch.size,h4.mv k.ch h2⟩⟩
abbrev apS (a:Ac) (j:Nat):Sp TT:= .pr ⟨λg w v=>∃b o,v=vP b (o+j)/\b∉g.F++g.M/\b<w.heap.size/\At w b o (acv a),λ⟨b,o,h1,h2,h3,h4⟩ k=>⟨b,o,h1,k.own h2 h3,zE h3 k.ch.size,h4.mv k.ch h2⟩⟩
abbrev ksS (ks:List Ky):Sp TT:= .pr ⟨λg w v=>∃xs,SlA w g.X v ks.length xs/\AllIs (KyIs w g.X) ks xs,λ⟨xs,h1,h2⟩ k=>⟨xs,h1.mv k.ch (Gh.sub _) k.X,AllIs.imp (λ_ _ h=>KyIs.mv h k.ch (Gh.sub _) k.X) h2⟩⟩
section
set_option maxRecDepth 100000
variable {ops:List Oper} {n:Nat} {B:Nat->BX XX} {i p b k o base:Nat} {L:TL TT} {ph:List Nat} {ρ:RX} {ns:List (Nat×Sp TT)} {ds:Option Tmp} {ty:TypeId} {pos:String} {af:Array Edge} {gu:Option (Nat×Bool)} {t:TypeId} {x y z:Operand} {κ:RY} {r:Rn} {l:List Ac} {a:Ac}
theorem eN (hop:ops.getD i default=⟨ds,.call ⟨.builtin .len,#[x],#[51]⟩,t,pos,af,gu⟩) (hx:spO L x=some (acS l)):EOb Tryd.prog n ops XX B ⟨i,L,eI l.length,ph,false⟩ p:=bN λξ g w hB hH=>by
 rw[hop];obtain⟨v,h1,⟨ad,cap,rfl,rfl⟩|⟨b,o,cap,rfl,_⟩⟩:=bH hx hH
 ·exact⟨_,rfl,bW u51 h1⟩
 ·exact⟨_,rfl,bW u51 h1⟩
theorem fQ {j:Nat} (hop:ops.getD i default=⟨ds,.indexAddr 51 x y,t,pos,af,gu⟩) (hx:spO L x=some (acS l)) (hy:spO L y=some (eI j)) (ha:l[j]? =some a):EOb Tryd.prog n ops XX B ⟨i,L,apS a 0,ph,false⟩ p:=bN λξ g w hB hH=>by
 rw[hop];obtain⟨v,h1,⟨ad,cap,rfl,rfl⟩|⟨b,o,cap,rfl,h2,h3,h4⟩⟩:=bH hx hH
 ·simp at ha
 ·exact⟨_,⟨b,o+j*3,rfl,h2,h3,h4.part (j*3) (sX ha)⟩,dU u51 tj h1 (bF hy) rfl (dN ha)⟩
theorem iq {f m q:Nat} {fs:Array Field} {fd:Field} (hop:ops.getD i default=⟨ds,.fieldAddr 52 x f,t,pos,af,gu⟩) (hx:spO L x=some (apS a 0)) (hs:(Tryd.prog.info? fd.type).map (·.size)=some (m+1)) (hu:Tryd.prog.underlying 52=some (.struct fs)) (hf:fs[f]? =some fd) (hq:fd.offset=q):EOb Tryd.prog n ops XX B ⟨i,L,apS a q,ph,false⟩ p:=bN λξ g w hB hH=>by rw[hop];obtain⟨v,h1,b,o,rfl,h2⟩:=bH hx hH;exact⟨_,⟨b,o,rfl,h2⟩,bG hu hs hf h1 (by rw[hq];rfl)⟩
theorem ip {j:Nat} {d:TypeDesc} {v:Value} (hop:ops.getD i default=⟨ds,.load ty x,t,pos,af,gu⟩) (hx:spO L x=some (apS a j)) (ht:Tryd.prog.underlying ty=some d) (hf:TypeDesc.flat d=true) (hv:(acv a)[j]? =some v):EOb Tryd.prog n ops XX B ⟨i,L,eqS v,ph,false⟩ p:=bN λξ g w hB hH=>by rw[hop];obtain⟨u,h1,b,o,rfl,_,_,h4⟩:=bH hx hH;exact⟨v,rfl,bJ ht hf h1 (h4 j v hv)⟩
theorem tH {c:Bool} {t':TypeId} (hop:ops.getD i default=⟨ds,.binOp .neq 4 x y t',t,pos,af,gu⟩) (hx:spO L x=some (eqS (.bool c))) (hy:spO L y=some (eqS (.bool c))):EOb Tryd.prog n ops XX B ⟨i,L,eqS (.bool false),ph,false⟩ p:=bN λξ g w hB hH=>by rw[hop];have h:=wS (P:=Tryd.prog) (n:=n) (w:=w) (ds:=ds) (ty:=t) (pos:=pos) (af:=af) (gu:=gu) (t:=4) (t':=t') u4 (bF (ξ:=ξ) hx) (bF (ξ:=ξ) hy);simp at h;exact⟨_,rfl,h⟩
theorem io {ks:List Ky} (hop:ops.getD i default=⟨ds,.call ⟨.builtin .len,#[x],#[53]⟩,t,pos,af,gu⟩) (hx:spO L x=some (ksS ks)):EOb Tryd.prog n ops XX B ⟨i,L,eI ks.length,ph,false⟩ p:=bN λξ g w hB hH=>by rw[hop];obtain⟨v,h1,xs,h2,_⟩:=bH hx hH;obtain⟨ad,cap,rfl,_⟩:=h2.form;exact⟨_,rfl,bW u53 h1⟩
end
theorem kinds (k:Int):k=1\/(¬k=1/\k=2)\/(¬k=1/\¬k=2):=by omega
def brk (c:Bool) (r:Rn) (k:Int):Rn:=bif c then r.doAct k 0 false else r
end Go.Mi.Term
