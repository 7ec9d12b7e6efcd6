/- Texts that belong together: S14, H50, Y35, Y36, H51, Y37. General lemmas and walks; no conditions. -/
import Derived.Test.YtoefhjabaanokaaDoorM3
import Derived.Test.YtoefhjabaanokaaDoorS10
import Derived.Test.YtoefhjabaanokaaDoorS13
import Derived.Test.YtoefhjabaanokaaDoorH43
set_option linter.unusedSimpArgs false
set_option linter.unusedVariables false
set_option linter.unnecessarySimpa false
namespace Go.Mi.Term
open Go.Mi
def Mn.doAct (m:Mn) (kd wh:Int) (c:Bool):Mn:=if m.r.refuses kd wh then m else m.doA kd wh c
theorem Mn.doAct_r (m:Mn) (kd wh:Int) (c:Bool):(m.doAct kd wh c).r=m.r.doAct kd wh c:=by unfold Mn.doAct Rn.doAct;cases m.r.refuses kd wh<;>rfl
structure Twin (m:Mn):Prop where
 g:Good m.r
 tp:m.tp=none
 sn:m.sn=(m.r.keys.zip m.r.behind).map λp=>(p.1.ep,p.2)
 tl:∀n:Nat,n∈m.tl↔itl m.r.rvd n≠0
 tn:m.tl.length<=2*m.r.acts
theorem Twin.new (kem:Bool):Twin (Mn.rest (Rn.new kem) 0):=⟨Good.new kem,rfl,by cases kem<;>rfl,λn=>by cases kem<;>(show n∈[]↔(0:Int)≠0;simp),zV _⟩
theorem oS {r:Rn} {a n:Nat} (h:∀k,0<=itl r.rvd k):itl (r.told a).rvd (n:Int)≠0↔itl r.rvd (n:Int)≠0\/n=a:=by
 show itl (ist r.rvd a _) n≠0↔_;by_cases e:n=a
 ·subst e;rw[iV];have :=h n;exact⟨λ_=> .inr rfl,λ_=>by omega⟩
 ·rw[iW (by omega)];simp [e]
theorem ti {r:Rn} {a:Nat} (h:∀k,0<=itl r.rvd k) (k:Int):0<=itl (r.told a).rvd k:=by
 show 0<=itl (ist r.rvd a _) k;by_cases e:k=a
 ·subst e;rw[iV];have :=h a;omega
 ·rw[iW e];exact h k
theorem Twin.doAct {m:Mn} (h:Twin m) (kd wh:Int) (c:Bool):Twin (m.doAct kd wh c):=by
 have hg:Good (m.doAct kd wh c).r:=by rw[Mn.doAct_r];exact h.g.doAct kd wh c
 obtain⟨p1,p2,p3,p4,p5,p6⟩:=h.g.pre;have a:∀k,0<=itl m.r.rvd k:=λk=>(p2 k).1;cases hr:m.r.refuses kd wh with
 |true=>rw[show m.doAct kd wh c=m from zX hr];exact h
 |false=>
  have e0:m.doAct kd wh c=m.doA kd wh c:=zK (by simp [hr]);rw[e0]at hg⊢;obtain⟨_,⟨rfl,j,rfl,hj⟩|⟨rfl,j,rfl,hj⟩|⟨rfl,j,rfl,hj⟩|rfl|rfl⟩:=lA hr
  ·refine⟨hg,h.tp,?_,h.tl,by have :=h.tn;show m.tl.length<=2*(m.r.acts+1);omega⟩;show m.sn++[(m.r.eps.length-1,m.r.last.rev)]=((m.r.keys++[(⟨m.r.key j,m.r.eps.length-1,j,m.r.ix j⟩:Ky)]).zip (m.r.behind++[m.r.last.rev])).map _;rw[List.zip_append p5.symm,AY,<-h.sn];rfl
  ·refine⟨hg,h.tp,?_,?_,?_⟩
   ·cases c<;>exact h.sn
   ·cases c<;>exact h.tl
   ·have :=h.tn;cases c<;>(show m.tl.length<=2*(m.r.acts+1);omega)
  ·refine⟨hg,h.tp,h.sn,λn=> ?_,by have :=h.tn;show(m.tl++[m.r.id j,m.r.x j]).length<=2*(m.r.acts+1);simp;omega⟩;show n∈m.tl++[m.r.id j,m.r.x j]↔itl ((m.r.told (m.r.id j)).told (m.r.x j)).rvd n≠0;rw[oS (ti a),oS a,<-h.tl n];simp [or_assoc]
  ·exact⟨hg,h.tp,h.sn,h.tl,by have :=h.tn;show m.tl.length<=2*(m.r.acts+1);omega⟩
  ·exact⟨hg,h.tp,h.sn,h.tl,by have :=h.tn;show m.tl.length<=2*(m.r.acts+1);omega⟩
section
variable {m:Mn} (h:Twin m)
include h
theorem Twin.inp (e:Ep):m.inpB e=m.r.inputB e:=by
 obtain⟨p1,p2,p3,p4,p5,p6⟩:=h.g.pre;have ho:∀p:Nat×Nat,m.opB p=(m.r.dh|| !decide (itl m.r.rvd p.1+itl m.r.rvd p.2=0)):=λp=>by
  have h1:=h.tl p.1;have h2:=h.tl p.2;have q1:=(p2 p.1).1;have q2:=(p2 p.2).1;unfold Mn.opB;by_cases e1:p.1∈m.tl
  ·have :=h1.1 e1;rw[decide_eq_true e1,decide_eq_false (show¬itl m.r.rvd p.1+itl m.r.rvd p.2=0 by omega)];simp
  ·by_cases e2:p.2∈m.tl
   ·have :=h2.1 e2;rw[decide_eq_true e2,decide_eq_false (show¬itl m.r.rvd p.1+itl m.r.rvd p.2=0 by omega)];simp
   ·have f1 : itl m.r.rvd p.1 = 0 := by
     rcases Int.lt_trichotomy (itl m.r.rvd p.1) 0 with f|f|f
     ·omega
     ·exact f
     ·exact absurd (h1.2 (by omega)) e1
    have f2:itl m.r.rvd p.2=0:=by
     rcases Int.lt_trichotomy (itl m.r.rvd p.2) 0 with f|f|f
     ·omega
     ·exact f
     ·exact absurd (h2.2 (by omega)) e2
    rw[decide_eq_false e1,decide_eq_false e2,f1,f2];simp
 unfold Mn.inpB Rn.inputB;rw[show m.opB=_ from funext ho];cases m.r.dh<;>simp [Bool.and_comm]
theorem Twin.whole:∀k:Nat,m.r.wholeB k=(m.inpB (m.r.eps.getD k ⟨[],false,false⟩)&&m.rootB k)
 |0=>by simp only[Rn.wholeB,Mn.rootB,Bc,h.inp]
 |k+1=>by have :=Twin.whole k;simp only[Rn.wholeB,Mn.rootB,h.inp]at this⊢;rw[this]
theorem Twin.cln (k:Int):m.clnZ k=m.r.cleanZ k:=by
 obtain⟨p1,p2,p3,p4,p5,p6⟩:=h.g.pre;have hl:m.sn.length=m.r.keys.length:=by rw[h.sn];simp [p5]
 unfold Mn.clnZ Rn.cleanZ;by_cases h0:0<=k
 ·rw[decide_eq_true h0,AX];by_cases h1:k<m.r.keys.length
  ·rw[zX ⟨h0,h1⟩];have e1:m.r.keys[k.toNat]? =some (m.r.keys[k.toNat]'(by omega)):=zp (by omega);have e2:m.r.behind[k.toNat]? =some (m.r.behind[k.toNat]'(by omega)):=zp (by omega);have e3:m.sn[k.toNat]? =some ((m.r.keys[k.toNat]'(by omega)).ep,m.r.behind[k.toNat]'(by omega)):=by rw[h.sn,Ai,(List.getElem?_zip_eq_some (z:=(m.r.keys[k.toNat]'(by omega),m.r.behind[k.toNat]'(by omega)))).2 ⟨e1,e2⟩];rfl
   rw[e3];simp only[zW,zT,Mn.clnB,Rn.cleanB,zG,e1,e2];rw[h.whole];simp only[zG]
  ·rw[zK (λe=>h1 e.2),zz (by omega)];rfl
 ·rw[decide_eq_false h0,zK (λe=>h0 e.1)];rfl
theorem Twin.sna (j ep:Nat) (l:Bool) (hj:m.sn[j]? =some (ep,l)):ep<m.r.eps.length:=by obtain⟨p1,p2,p3,p4,p5,p6⟩:=h.g.pre;rw[h.sn,Ai]at hj;obtain⟨p,h1,h2⟩:=zq.1 hj;have h3:=(List.getElem?_zip_eq_some.1 h1).1;cases h2;exact p6 _ (zC h3)
theorem Twin.lens:m.tl.length<=120/\m.sn.length=m.r.keys.length:=by obtain⟨p1,p2,p3,p4,p5,p6⟩:=h.g.pre;exact⟨by have :=h.tn;have :=h.g.ac;omega,by rw[h.sn];simp [p5]⟩
end
def amR (kem:Bool) (l:List Ac) (i:Nat):Mn:=(l.take i).foldl (λm a=>m.doAct a.k a.who a.kem) (Mn.rest (Rn.new kem) 0)
theorem nN {kem:Bool} {l:List Ac} {i:Nat} {a:Ac} (h:l[i]? =some a):(amR kem l i).doAct a.k a.who a.kem=amR kem l (i+1):=by unfold amR;rw[dC h,List.foldl_append];rfl
theorem amT (kem:Bool) (l:List Ac) (i:Nat):Twin (amR kem l i):=by
 unfold amR;generalize l.take i=s;have :∀(s:List Ac) (m:Mn),Twin m->Twin (s.foldl (λm a=>m.doAct a.k a.who a.kem) m):=λs=>by
  induction s with
  |nil=>exact λm h=>h
  |cons a s ih=>exact λm h=>ih _ (h.doAct _ _ _)
 exact this s _ (Twin.new kem)
def fE (a:Ac):Bool:=decide (a.k=2)&&(decide (a.who=0)||decide (a.who=1))
def tc (l:List Ac) (i:Nat):Nat:=(l.take i).countP fE
theorem vi {l:List Ac} {i:Nat} {a:Ac} (h:l[i]? =some a) (ht:fE a=true):((tc l i:Nat):Int)+1=(tc l (i+1):Nat):=by unfold tc;rw[dC h,List.countP_append];simp [ht]
theorem vj {l:List Ac} {i:Nat} {a:Ac} (h:l[i]? =some a) (ht:fE a=false):((tc l i:Nat):Int)=(tc l (i+1):Nat):=by unfold tc;rw[dC h,List.countP_append];simp [ht]
theorem oU (l:List Ac) (i:Nat):tc l i<=i:=zy AG (by simp;omega)
theorem oI (kem:Bool) (l:List Ac):∀i,i<=60->i<=l.length->(amR kem l i).r.acts<=i/\(amR kem l i).r.eps.length=1+tc l i
 |0,_,_=>by
  have e:amR kem l 0=Mn.rest (Rn.new kem) 0:=rfl;rw[e];cases kem<;>exact⟨by decide,by simp [tc];rfl⟩
 |i+1,h1,h2=>by
  obtain⟨h3,h4⟩:=oI kem l i (by omega) (by omega);obtain⟨a,ha⟩:∃a,l[i]? =some a:=⟨_,zp (show i<l.length by omega)⟩;rw[<-nN ha,Mn.doAct_r];have hy:=λht=>vi (a:=a) ha ht;have hn:=λht=>vj (a:=a) ha ht;rcases(amR kem l i).r.doAct_eq a.k a.who a.kem with⟨hr,e⟩|⟨_,hac,⟨j,_,hj,hk,e⟩|⟨j,hw,hj,hk,e⟩|⟨j,_,hj,hk,e⟩|⟨hk,e⟩|⟨hk,e⟩⟩
  ·rw[e];have :fE a=false:=by simp only[Rn.refuses,z8,zD,zU]at hr;simp only[fE,Ay,AJ,decide_eq_false_iff_not];omega
   have :=hn this;exact⟨by omega,by omega⟩
  ·rw[e];have :=hn (by simp [fE,hk]);exact⟨by show(amR kem l i).r.acts+1<=_;omega,by show(amR kem l i).r.eps.length=_;omega⟩
  ·rw[e];have :=hy (by simp only[fE,zD,z8,zU];omega);cases a.kem
   ·exact⟨by show(amR kem l i).r.acts+1<=_;omega,by show((amR kem l i).r.eps++[_]).length=_;simp;omega⟩
   ·exact⟨by show(amR kem l i).r.acts+1<=_;omega,by show((amR kem l i).r.eps++[_]).length=_;simp;omega⟩
  ·rw[e];have :=hn (by simp [fE,hk]);exact⟨by show(amR kem l i).r.acts+1<=_;omega,by show((amR kem l i).r.eps.modify _ _).length=_;simp;omega⟩
  ·rw[e];have :=hn (by simp [fE,hk]);exact⟨by show(amR kem l i).r.acts+1<=_;omega,by show(amR kem l i).r.eps.length=_;omega⟩
  ·rw[e];have :=hn (by simp only[fE,Ay,decide_eq_false_iff_not];omega);exact⟨by show(amR kem l i).r.acts+1<=_;omega,by show(amR kem l i).r.eps.length=_;omega⟩
theorem Good.told {r:Rn} (hg:Good r):(∀x,x∈r.known->pS x)/\∀e,e∈r.keys->pS e.t:=by have ha:=hg.ac;exact⟨λx hx=>(hg.sz.kn x hx).told (by omega) (by omega),λe he=>(hg.sz.ky e he).told (by omega) (by omega)⟩
theorem sT (t:Tm):eY t t=true:=decide_eq_true rfl
end Go.Mi.Term
namespace Go.Mi.Term
open Go.Mi Go.Proofs Go.RowKit
def PairIs (b c:Nat) (r:Rn) (m:Mn) (F X:List Nat) (w:World):Prop:=∃F1 F2,F=F1++F2/\(∀x,x∈F1->x∉F2)/\RunIs b r F1 X w/\MIs 0 c m F2 X w
theorem PairIs.mv {w w':World} {X X' C F:List Nat} {b c:Nat} {r:Rn} {m:Mn} (h:PairIs b c r m F X w) (k:Ch C w w') (hc:∀c,c∈C->c∈X/\c∉F) (hx:∀x,x∈X'->x∈X\/w.heap.size<=x) (hs:∀x,x∈F->x∈X'):PairIs b c r m F X' w':=by obtain⟨F1,F2,rfl,h1,h2,h3⟩:=h;exact⟨F1,F2,rfl,h1,h2.mv k (λc hm=>⟨(hc c hm).1,λh=>(hc c hm).2 (zw _ h)⟩) hx λx hx=>hs x (zw _ hx),h3.mv k (λc hm=>⟨(hc c hm).1,λh=>(hc c hm).2 (zA _ h)⟩) hx λx hx=>hs x (zA _ hx)⟩
theorem PairIs.lt {w:World} {X F:List Nat} {b c:Nat} {r:Rn} {m:Mn} (h:PairIs b c r m F X w):∀x,x∈F->x<w.heap.size:=by
 obtain⟨F1,F2,rfl,_,h2,h3⟩:=h;intro x hx;rcases zr.1 hx with hx|hx
 ·exact h2.lt x hx
 ·exact h3.lt x hx
def fe (b c:Nat) (r:Rn) (m:Mn):RX:=⟨λg w=>PairIs b c r m g.F g.X w,λ{g g'} _ _ _ h k hc hf _ hx _=>by
 rw[hf];exact h.mv k (λc hm=>⟨(hc c hm).1,(hc c hm).2.1⟩) hx λx hx=>by simp [Gh.X,hf,hx]⟩
def jC (κ:RY) (base b c:Nat) (m:Mn):RX:=⟨λg w=>κ.P g w/\base<=w.heap.size/\(∀y,y∈g.Y->y<base)/\(∀x,x∈g.F->base<=x)/\PairIs b c m.r m g.F g.X w,λ{g g'} w w' C ⟨h1,h2,h3,h4,h5⟩ k hc hf hy hx hN=>⟨κ.st h1 k (λc hm=>⟨(hc c hm).1,(hc c hm).2.2⟩) hy hx,zy h2 k.size,by rw[hy];exact h3,by rw[hf];exact h4,(fe b c m.r m).st h5 k hc hf hy hx hN⟩⟩
def pq (κ:RY) (base b k:Nat) (m:Mn):RX:=⟨λg w=>∃c,g.N[k]? =some (.map (some c))/\(jC κ base b c m).P g w,λ⟨c,h1,h2⟩ k hc hf hy hx hN=>⟨c,hN _ _ h1,(jC κ base b c m).st h2 k hc hf hy hx hN⟩⟩
def ff (κ:RY) (base b c:Nat) (m:Mn) (q:Mv):RX:=⟨λg w=>κ.P g w/\base<=w.heap.size/\(∀y,y∈g.Y->y<base)/\(∃F1,g.F=F1++q.F c/\RunIs b m.r F1 g.X w)/\MAt w g.X 0 c m q,λ{g g'} w w' C ⟨h1,h2,h3,⟨F1,h4,h5⟩,h6⟩ k hc hf hy hx hN=>⟨κ.st h1 k (λc hm=>⟨(hc c hm).1,(hc c hm).2.2⟩) hy hx,zy h2 k.size,by rw[hy];exact h3,⟨F1,hf.trans h4,h5.mv k (λc hm=>⟨(hc c hm).1,λh=>(hc c hm).2.1 (by rw[h4];exact zw _ h)⟩) hx λx hx=>by simp [Gh.X,hf,h4,hx]⟩,h6.mv k (λc hm=>⟨(hc c hm).1,λh=>(hc c hm).2.1 (by rw[h4];exact zA _ h)⟩) hx λx hx=>by simp [Gh.X,hf,h4,hx]⟩⟩
theorem SS.born2 {L:TL TT} {n t k base b:Nat} {κ:RY} {m:Mn} {ns:List (Nat×Sp TT)} {g0 g:Gh} {w0 w:World} {a:Act} (h:SS L n (stB (pq κ base b k m) ns) g0 w0 a g w) (ht:lkS L t=some (ptS k)):∃c,SS ((t,eqS (vp c))::L) n (stB (jC κ base b c m) ns) g0 w0 a g w:=by
 obtain⟨b,h1,h2⟩:=h.b.run;refine⟨b,h.t,⟨h.b.wf,h.b.pl,h2,h.b.nd,h.b.len,h.b.cell⟩,h.f.size,h.f.defers,λt' s hs=> ?_⟩;simp only[lkS]at hs;by_cases e:t=t'
 ·subst e;simp at hs;subst hs;obtain⟨m,h3,h4⟩:=h.f.get t _ ht;rw[h1]at h3;cases h3;exact h4
 ·rw[el e]at hs;exact h.f.get t' s hs
theorem SS.open2 {L:TL TT} {n base b c:Nat} {κ:RY} {m:Mn} {ns:List (Nat×Sp TT)} {g0 g:Gh} {w0 w:World} {a:Act} (h:SS L n (stB (jC κ base b c m) ns) g0 w0 a g w):∃q,SS L n (stB (ff κ base b c m q) ns) g0 w0 a g w:=by obtain⟨h1,h2,h3,h4,F1,F2,h5,h6,h7,q,rfl,h8⟩:=h.b.run;exact⟨q,h.t,⟨h.b.wf,h.b.pl,⟨h1,h2,h3,⟨F1,h5,h7⟩,h8⟩,h.b.nd,h.b.len,h.b.cell⟩,h.f⟩
theorem jo (κ:RY) (base b c:Nat) (m:Mn) (q:Mv):HasMQ (ff κ base b c m q) c m q:=λ_ _ ⟨_,_,_,_,h⟩=>⟨_,h⟩
theorem rd2 {κ:RY} {base b c:Nat} {m:Mn} {q:Mv} {ns:List (Nat×Sp TT)} {g:Gh} {w:World} (h:StB (ff κ base b c m q) ns g w):∃F,RunIs b m.r F g.X w/\∀x,x∈F->x∈g.X:=by obtain⟨_,_,_,⟨F1,h4,h5⟩,_⟩:=h.run;exact⟨F1,h5,λx hx=>by simp [Gh.X,h4,hx]⟩
theorem vw {b:Nat} {m:Mn} {F Y:List Nat} {kd wh:Int} {c:Bool} (hT:Twin m) (w0:World) (hX:∀x,x∈F++Y->x<w0.heap.size) (hr:MIs 0 b m F (F++Y) w0):Calls Tryd.prog 71 (List.toArray [vp b,.agg #[vI kd,vI wh,.bool c]]) w0 (Ret (ju b (m.doAct kd wh c) Y F w0 (λ_ _ v=>v=vI (if m.r.refuses kd wh then 1 else 0)))):=by
 unfold Mn.doAct;cases h:m.r.refuses kd wh with
 |true=>exact vA w0 hX hr hT.tp h
 |false=>exact tG w0 hX hr hT.tp hT.g.small (by have :=hT.lens;have :=hT.g.small.hy;omega) (by have :=hT.lens;omega) h
theorem MIs.x {w:World} {X X' F:List Nat} {base b:Nat} {m:Mn} (h:MIs base b m F X w) (hx:∀x,x∈X'↔x∈X):MIs base b m F X' w:=h.mv (Ch.refl [] w) (by simp) (λx hm=> .inl ((hx x).1 hm)) λx hm=>by obtain⟨q,rfl,h⟩:=h;exact(hx x).2 (h.rs.sub x hm)
theorem RunIs.x {w:World} {X X' F:List Nat} {b:Nat} {r:Rn} (h:RunIs b r F X w) (hx:∀x,x∈X'↔x∈X):RunIs b r F X' w:=h.mv (Ch.refl [] w) (by simp) (λx hm=> .inl ((hx x).1 hm)) λx hm=>by obtain⟨q,rfl,h⟩:=h;exact(hx x).2 (h.rs.sub x hm)
section
set_option maxRecDepth 100000
variable {ops:List Oper} {n:Nat} {B:Nat->BX XX} {i p b c k o base:Nat} {L:TL TT} {ph:List Nat} {ρ:RX} {ns:List (Nat×Sp TT)} {ds:Option Tmp} {ty:TypeId} {pos:String} {af:Array Edge} {gu:Option (Nat×Bool)} {t:TypeId} {x y x1 x2:Operand} {κ:RY} {r:Rn} {m m':Mn} {q:Mv}
theorem xX {kd wh:Int} {kk:Bool} {ts:Array TypeId} (hg:Good r) (hB0:B p=stB (fe b c r m) ns) (hB1:B (p+1)=stB (fe b c (r.doAct kd wh kk) m) ns) (hop:ops.getD i default=⟨ds,.call ⟨.value (.func 27),#[x,y],ts⟩,t,pos,af,gu⟩) (hx:spO L x=some (eqS (vp b))) (hy:spO L y=some (agS (cxV [vI kd,vI wh,.bool kk]))):EOb Tryd.prog n ops XX B ⟨i,L,eI (if r.refuses kd wh then 1 else 0),ph,true⟩ p:=by
 intro ξ g w hB hH;rw[hB0]at hB;have hB:StB (fe b c r m) ns g w:=hB;show Ok1 Tryd.prog (ops.getD i default) _ _ _ _;rw[hop];obtain⟨F1,F2,hF,hd,h1,h2⟩:=hB.run;obtain⟨vy,e2,vs,rfl,e3⟩:=bH hy hH;obtain rfl:vs=[vI kd,vI wh,.bool kk]:=e3;have hX:∀x,x∈F1++(F2++(g.M++g.Y))↔x∈g.X:=λx=>by simp [Gh.X,hF,or_assoc]
 refine(a_ c27 (by simp only[evs,bF hx,e2]) (u7 (kd:=kd) (wh:=wh) (c:=kk) (Y:=F2++(g.M++g.Y)) hg w (λx hx=>hB.wf.lt x ((hX x).1 hx)) (h1.x hX))).mono ?_;rintro v w' ⟨hv,F',k1,k2,k3⟩;have a:∀x,x∈(F'++F2)++(g.M++g.Y)↔x∈F'++(F2++(g.M++g.Y)):=λx=>by simp [or_assoc]
 have e:∀x,x∈(F'++F2)++(g.M++g.Y)->x∈g.X\/w.heap.size<=x:=λx hx=>by
  rcases zr.1 ((a x).1 hx)with hx|hx
  ·rcases k2 x hx with h|h
   ·exact .inl ((hX x).1 (zw _ h))
   ·exact .inr h
  ·exact .inl ((hX x).1 (zA _ hx))
 have d:MIs 0 c m F2 ((F'++F2)++(g.M++g.Y)) w':=h2.mv k1 (λc hm=>⟨(hX c).1 (zw _ hm),hd c hm⟩) e λx hx=>by simp [hx]
 obtain⟨t1,t2⟩:=hB.run' (ρ':=fe b c (r.doAct kd wh kk) m) (g':=⟨F'++F2,g.M,g.Y,g.N⟩) (l:=[]) (l':=[]) (k1.mono (λx hx=>by rw[hF];exact zw _ hx)) (λx hx=>by
  rw[hF];rcases zr.1 hx with hx|hx
  ·rcases k2 x hx with h|h
   ·exact .inl (zw _ h)
   ·exact .inr h
  ·exact .inl (zA _ hx)) (λx hx=>by
  rcases zr.1 hx with hx|hx
  ·exact k3.lt x hx
  ·exact d.lt x hx) rfl rfl (by simp) rfl (by simp) (by simp) ⟨F',F2,rfl,λx hx hm=>by
   rcases k2 x hx with h|h
   ·exact hd x h hm
   ·have :=h2.lt x hm;omega,k3.x a,d⟩
 rw[AQ]at t2;exact⟨_,⟨t1,by show(B (p+1)).P _ _;rw[hB1];exact t2⟩,hv⟩
theorem xY {kd wh:Int} {kk:Bool} {ts:Array TypeId} (hT:Twin m) (hB0:B p=stB (fe b c r m) ns) (hB1:B (p+1)=stB (fe b c r (m.doAct kd wh kk)) ns) (hop:ops.getD i default=⟨ds,.call ⟨.value (.func 71),#[x,y],ts⟩,t,pos,af,gu⟩) (hx:spO L x=some (eqS (vp c))) (hy:spO L y=some (agS (cxV [vI kd,vI wh,.bool kk]))):EOb Tryd.prog n ops XX B ⟨i,L,eI (if m.r.refuses kd wh then 1 else 0),ph,true⟩ p:=by
 intro ξ g w hB hH;rw[hB0]at hB;have hB:StB (fe b c r m) ns g w:=hB;show Ok1 Tryd.prog (ops.getD i default) _ _ _ _;rw[hop];obtain⟨F1,F2,hF,hd,h1,h2⟩:=hB.run;obtain⟨vy,e2,vs,rfl,e3⟩:=bH hy hH;obtain rfl:vs=[vI kd,vI wh,.bool kk]:=e3;have hX:∀x,x∈F2++(F1++(g.M++g.Y))↔x∈g.X:=λx=>by simp [Gh.X,hF];exact or_left_comm
 refine(a_ c71 (by simp only[evs,bF hx,e2]) (vw (kd:=kd) (wh:=wh) (c:=kk) (Y:=F1++(g.M++g.Y)) hT w (λx hx=>hB.wf.lt x ((hX x).1 hx)) (h2.x hX))).mono ?_;rintro v w' ⟨F',k1,k2,k3,hv⟩;have a:∀x,x∈(F1++F')++(g.M++g.Y)↔x∈F'++(F1++(g.M++g.Y)):=λx=>by simp;exact or_left_comm
 have e:∀x,x∈(F1++F')++(g.M++g.Y)->x∈g.X\/w.heap.size<=x:=λx hx=>by
  rcases zr.1 ((a x).1 hx)with hx|hx
  ·rcases k2 x hx with h|h
   ·exact .inl ((hX x).1 (zw _ h))
   ·exact .inr h
  ·exact .inl ((hX x).1 (zA _ hx))
 have d:RunIs b r F1 ((F1++F')++(g.M++g.Y)) w':=h1.mv k1 (λc hm=>⟨(hX c).1 (zw _ hm),λh=>hd c h hm⟩) e λx hx=>by simp [hx]
 obtain⟨t1,t2⟩:=hB.run' (ρ':=fe b c r (m.doAct kd wh kk)) (g':=⟨F1++F',g.M,g.Y,g.N⟩) (l:=[]) (l':=[]) (k1.mono (λx hx=>by rw[hF];exact zA _ hx)) (λx hx=>by
  rw[hF];rcases zr.1 hx with hx|hx
  ·exact .inl (zw _ hx)
  ·rcases k2 x hx with h|h
   ·exact .inl (zA _ h)
   ·exact .inr h) (λx hx=>by
  rcases zr.1 hx with hx|hx
  ·exact d.lt x hx
  ·exact k3.lt x hx) rfl rfl (by simp) rfl (by simp) (by simp) ⟨F1,F',rfl,λx hx hm=>by
   rcases k2 x hm with h|h
   ·exact hd x hx h
   ·have :=h1.lt x hx;omega,d,k3.x a⟩
 rw[AQ]at t2;exact⟨_,⟨t1,by show(B (p+1)).P _ _;rw[hB1];exact t2⟩,hv⟩
theorem wt {kem:Bool} {ts:Array TypeId} (hB0:B p=stB (fS κ base b (Rn.new kem)) ns) (hB1:B (p+1)=stB (pq κ base b ns.length (Mn.rest (Rn.new kem) 0)) (ns++[(0,bB)])) (hk:ns.length=k) (hop:ops.getD i default=⟨ds,.call ⟨.value (.func 32),#[x],ts⟩,t,pos,af,gu⟩) (hx:spO L x=some (eqS (.bool kem))):EOb Tryd.prog n ops XX B ⟨i,L,ptS k,ph,true⟩ p:=by
 subst hk;intro ξ g w hB hH;rw[hB0]at hB;have hB:StB (fS κ base b (Rn.new kem)) ns g w:=hB;show Ok1 Tryd.prog (ops.getD i default) _ _ _ _;rw[hop];obtain⟨h1,h2,h3,h4,h5⟩:=hB.run;have a:g.N.length=ns.length:=hB.len;refine(a_ c32 (by simp only[evs,bF hx]) (tF (X:=g.X) (kem:=kem) w hB.wf.lt)).mono ?_;rintro v w' ⟨c,F,rfl,hgr,hF,hr⟩;have hX:∀x,x∈(g.F++F)++(g.M++g.Y)↔x∈F++g.X:=λx=>by simp [Gh.X];exact or_left_comm
 have d:∀x,x∈(g.F++F)++(g.M++g.Y)->x∈g.X\/w.heap.size<=x:=λx hx=>by
  rcases zr.1 ((hX x).1 hx)with hx|hx
  ·exact .inr (hF x hx)
  ·exact .inl hx
 obtain⟨t1,t2⟩:=hB.run' (ρ':=pq κ base b ns.length (Mn.rest (Rn.new kem) 0)) (g':=⟨g.F++F,g.M,g.Y,g.N++[.map (some c)]⟩) (w':=w') (l:=[.map (some c)]) (l':=[(0,bB)]) (hgr.ch.mono (by simp)) (λx hx=>by
  rcases zr.1 hx with hx|hx
  ·exact .inl hx
  ·exact .inr (hF x hx)) (λx hx=>by
  rcases zr.1 hx with hx|hx
  ·exact zE (hB.wf.lt x (by simp [Gh.X,hx])) hgr.size
  ·exact hr.lt x hx) rfl rfl rfl rfl (λu hu b'=>by rw[zt.1 hu];simp) (λu hu=>by rw[zt.1 hu]) ⟨c,by simp [<-a],κ.st h1 hgr.ch (by simp) rfl d,zy h2 hgr.size,h3,λx hx=>by
   rcases zr.1 hx with hx|hx
   ·exact h4 x hx
   ·exact zy h2 (hF x hx),g.F,F,rfl,λx hx hm=>by have :=hF x hm;have :=hB.wf.lt x (by simp [Gh.X,hx]);omega,h5.mv hgr.ch (λc hm=>absurd hm (by simp)) d (λx hx=>zw _ (zw _ hx)),hr.x hX⟩
 exact⟨_,⟨t1,by show(B (p+1)).P _ _;rw[hB1];exact t2⟩,c,by show(g.N++[_])[ns.length]? =some _;simp [<-a],rfl⟩
theorem tX {ts:Array TypeId} (hg:Good m.r) (hB0:B p=stB (ff κ base b c m q) ns) (hop:ops.getD i default=⟨ds,.call ⟨.value (.func 30),#[x],ts⟩,t,pos,af,gu⟩) (hx:spO L x=some (eqS (vp b))):EOb Tryd.prog n ops XX B ⟨i,L,ksS m.r.keys,ph,false⟩ p:=bX hB0 λξ g w hB hH=>by obtain⟨F,h1,h2⟩:=rd2 hB;rw[hop];have s:=hg.small;exact a_ c30 (by simp only[evs,bF hx]) (um w hB.wf.lt h1 h2 s.h0 (by have :=s.hy;omega) λe he=>(hg.sz.ky e he).fw)
theorem rC {ts:Array TypeId} (hg:Good m.r) (hB0:B p=stB (ff κ base b c m q) ns) (hop:ops.getD i default=⟨ds,.call ⟨.value (.func 35),#[x],ts⟩,t,pos,af,gu⟩) (hx:spO L x=some (eqS (vp b))):EOb Tryd.prog n ops XX B ⟨i,L,tkS m.r.known,ph,false⟩ p:=bX hB0 λξ g w hB hH=>by obtain⟨F,h1,h2⟩:=rd2 hB;rw[hop];have s:=hg.small;exact a_ c35 (by simp only[evs,bF hx]) (r_ w hB.wf.lt h1 h2 s.h0 (by have :=s.hk;omega) λe he=>(hg.sz.kn e he).fw)
theorem rB {ts:Array TypeId} (hg:Good m.r) (hB0:B p=stB (ff κ base b c m q) ns) (hop:ops.getD i default=⟨ds,.call ⟨.value (.func 36),#[x],ts⟩,t,pos,af,gu⟩) (hx:spO L x=some (eqS (vp b))):EOb Tryd.prog n ops XX B ⟨i,L,agS (cxV [.bool m.r.dh,.bool m.r.kem]),ph,false⟩ p:=bX hB0 λξ g w hB hH=>by obtain⟨F,h1,h2⟩:=rd2 hB;rw[hop];exact(a_ c36 (by simp only[evs,bF hx]) (qH w hB.wf.lt h1 h2 hg.small.h0)).mono λv w' ⟨h1,h2⟩=>⟨h1,_,h2,rfl⟩
theorem fx {kk:Int} {cc:Bool} {ts:Array TypeId} (hg:Good m.r) (hB0:B p=stB (ff κ base b c m q) ns) (hop:ops.getD i default=⟨ds,.call ⟨.value (.func 28),#[x,y],ts⟩,t,pos,af,gu⟩) (hx:spO L x=some (eqS (vp b))) (hy:spO L y=some (eI kk)) (hc:m.r.cleanZ kk=cc):EOb Tryd.prog n ops XX B ⟨i,L,eqS (.bool cc),ph,false⟩ p:=bX hB0 λξ g w hB hH=>by obtain⟨F,h1,h2⟩:=rd2 hB;rw[hop,<-hc];obtain⟨p1,p2,p3,p4,p5,p6⟩:=hg.pre;exact a_ c28 (by simp only[evs,bF hx,bF hy]) (nJ w hB.wf.lt h1 h2 p1 p2 p3 p4 p5 p6)
theorem qa {kk:Int} {cc:Bool} {ts:Array TypeId} (hT:Twin m) (hB0:B p=stB (ff κ base b c m q) ns) (hop:ops.getD i default=⟨ds,.call ⟨.value (.func 38),#[x,y],ts⟩,t,pos,af,gu⟩) (hx:spO L x=some (eqS (vp c))) (hy:spO L y=some (eI kk)) (hc:m.r.cleanZ kk=cc):EOb Tryd.prog n ops XX B ⟨i,L,eqS (.bool cc),ph,false⟩ p:=bX hB0 λξ g w hB hH=>by obtain⟨_,_,_,_,h⟩:=hB.run;rw[hop,<-hc,<-hT.cln];obtain⟨p1,p2,p3,p4,p5,p6⟩:=hT.g.pre;have s:=hT.g.small;have hl:=hT.lens;exact a_ c38 (by simp only[evs,bF hx,bF hy]) (p8 w hB.wf.lt ⟨q,rfl,h⟩ h.rs.sub (by omega) p3 p4 (by have :=s.hy;omega) hT.sna)
theorem m6 {ts:Array TypeId} (hg:Good m.r) (hB0:B p=stB (ff κ base b c m q) ns) (hop:ops.getD i default=⟨ds,.call ⟨.value (.func 39),#[x],ts⟩,t,pos,af,gu⟩) (hx:spO L x=some (eqS (vp b))):EOb Tryd.prog n ops XX B ⟨i,L,eI ((m.r.eps.length-1:Nat):Int),ph,false⟩ p:=bX hB0 λξ g w hB hH=>by obtain⟨F,h1,h2⟩:=rd2 hB;rw[hop];exact a_ c39 (by simp only[evs,bF hx]) (iE w hB.wf.lt h1 h2 hg.small.h0 (zy hg.small.h1 (by decide)))
theorem kf {kk:Int} {ts:Array TypeId} (hk:kk<0) (hg:Good m.r) (hB0:B p=stB (ff (d6 κ dW) base b c m q) ns) (hop:ops.getD i default=⟨ds,.call ⟨.value (.func 29),#[x,y],ts⟩,t,pos,af,gu⟩) (hx:spO L x=some (eqS (vp b))) (hy:spO L y=some (eI kk)):EOb Tryd.prog n ops XX B ⟨i,L,eqS (.bool false),ph,false⟩ p:=bX hB0 λξ g w hB hH=>by
 obtain⟨F,h1,h2⟩:=rd2 hB;rw[hop];have s:=hg.small;refine(a_ c29 (by simp only[evs,bF hx,bF hy]) (nB (k:=kk) w hB.wf.lt h1 h2 s.h0 (by have :=hB.run.1.2.1;simp [Gh.X,this]) hB.run.1.2.2 (by have :=s.hk;omega))).mono ?_;rintro v w' ⟨h1,c,rfl,h2⟩;refine⟨h1,?_⟩;show Value.bool c=Value.bool false;rw[hg.der]at h2;congr 1;cases c with
 |false=>rfl
 |true=>exact absurd (h2.1 rfl).1.1 (by omega)
theorem n9 {ts:Array TypeId} (hB0:B p=stB (ff (d6 κ dW) base b c m q) ns) (hop:ops.getD i default=⟨ds,.call ⟨.value (.func 24),#[],ts⟩,t,pos,af,gu⟩):EOb Tryd.prog n ops XX B ⟨i,L,eqS (.bool true),ph,false⟩ p:=bX hB0 λξ g w hB hH=>by rw[hop];exact a_ c24 rfl (pM w hB.wf.lt (by have :=hB.run.1.2.1;simp [Gh.X,this]) hB.run.1.2.2)
theorem tN {l:Nat} {e:Ky} (hr:HasMQ ρ c m q) (hB0:B p=stB ρ ns) (hop:ops.getD i default=⟨ds,.load 73 x,t,pos,af,gu⟩) (hx:spO L x=some (eP (bkV (q.v 0)) (l*6))) (he:m.r.keys[l]? =some e):EOb Tryd.prog n ops XX B ⟨i,L,agS (cxK e),ph,false⟩ p:=gZ hB0 λξ g w hB hH=>by obtain⟨_,h⟩:=hr g w hB.run;rw[hop];obtain⟨cap,xs,_,hat,hxs⟩:=jH (j:=0) (l:=l) (by decide) h.rs (df he);obtain⟨x1,u,x2,e1,e2,⟨ts,rfl,h3⟩,_⟩:=AllIs.at KyIs.len (show AllIs (KyIs w g.X) m.r.keys xs from hxs) he;obtain⟨_,_,_,_,_,rfl⟩:=h3.form;refine⟨_,⟨_,rfl,_,rfl,h3⟩,cb Tryd.underlying73 rfl vm (bF hx) (λk v hv=> ?_) rfl⟩;have :=hat (l*6+k) v (by rw[e1,Aa,zM (by omega),e2,AC,zL (by rcases zF k 6 with h'|h';exact h';rw[zz h']at hv;cases hv)];exact hv);simpa using this
theorem tL {e:Ky} (hop:ops.getD i default=⟨ds,.load 26 x,t,pos,af,gu⟩) (hB0:B p=stB ρ ns) (hx:spO L x=some (nwO k 0)) (hk:ns[k]? =some (73,agS (cxK e))):EOb Tryd.prog n ops XX B ⟨i,L,tmS e.t,ph,false⟩ p:=gZ hB0 λξ g w hB hH=>by rw[hop];obtain⟨vx,h1,b',h2,rfl⟩:=bH hx hH;obtain⟨b,cc,h5,_,h7,vs,e1,ts,rfl,h9⟩:=hB.cell k _ hk (show(73:Nat)≠0 by decide);rw[h5]at h2;cases h2;cases e1;obtain⟨_,_,_,_,_,rfl⟩:=h9.form;exact⟨_,⟨_,_,_,rfl,h9⟩,cb u26 rfl b6 h1 (At.part (by have :=At.of_blk h7;simpa using this) 0 rfl) rfl⟩
theorem lP {e:Ky} {j a:Nat} (hop:ops.getD i default=⟨ds,.load 3 x,t,pos,af,gu⟩) (hB0:B p=stB ρ ns) (hx:spO L x=some (nwO k (3+j))) (hk:ns[k]? =some (73,agS (cxK e))) (ha:[e.ep,e.who,e.ix][j]? =some a):EOb Tryd.prog n ops XX B ⟨i,L,eI a,ph,false⟩ p:=gZ hB0 λξ g w hB hH=>by
 rw[hop];obtain⟨vx,h1,b',h2,rfl⟩:=bH hx hH;obtain⟨b,cc,h5,_,h7,vs,e1,ts,rfl,h9⟩:=hB.cell k _ hk (show(73:Nat)≠0 by decide);rw[h5]at h2;cases h2;cases e1;obtain⟨_,_,_,_,_,rfl⟩:=h9.form;refine⟨_,rfl,bJ Tryd.underlying3 rfl h1 (by
  rw[cG h7]
  match j,ha with
  |0,ha=>cases ha;rfl
  |1,ha=>cases ha;rfl
  |2,ha=>cases ha;rfl
  |j+3,ha=>simp at ha)⟩
theorem xI {u v:Bool} (hop:ops.getD i default=⟨ds,.build 31 #[(0,x1),(1,x2)],t,pos,af,gu⟩) (h1:spO L x1=some (eqS (.bool u))) (h2:spO L x2=some (eqS (.bool v))):EOb Tryd.prog n ops XX B ⟨i,L,agS (cxV [.bool u,.bool v]),ph,false⟩ p:=bN λξ g w hB hH=>by rw[hop];have k1:=bF (ξ:=ξ) h1;have k2:=bF (ξ:=ξ) h2;exact⟨_,⟨_,rfl,rfl⟩,cM (ps:=[(0,.bool u),(1,.bool v)]) u31 z31 (λw=>yX w _ u31) (by simp [evp,k1,k2]) (by simp [Instr.fill,Value.cells])⟩
end
theorem x7 {w:World} {X:List Nat} {ts:List Tm} {v:Value} (h:KnIs w X ts v):oK w X ts v:=by
 rcases h with⟨rfl,rfl⟩|h
 ·exact tk0
 ·exact qN h
def nR (b c:Nat) (m':Mn) (Y F:List Nat) (w:World) (v:Value) (w':World):Prop:=v= .bool true/\∃F',Ch F w w'/\(∀x,x∈F'->x∈F\/w.heap.size<=x)/\PairIs b c m'.r m' F' (F'++Y) w'
theorem SS.postP {L:TL TT} {n b c:Nat} {m':Mn} {ns:List (Nat×Sp TT)} {F Y:List Nat} {g:Gh} {w0 w:World} {a:Act} {r:Rn} (h:SS L n (stB (fe b c r m') ns) ⟨F,[],Y,[]⟩ w0 a g w) (hr:r=m'.r):nR b c m' Y F w0 (.bool true) w:=by
 subst hr;have hY:g.Y=Y:=h.t.y;refine⟨rfl,g.F,h.t.ch.mono (by simp),λx hx=>by simpa using h.t.sub x (zw _ hx),?_⟩;exact PairIs.mv h.b.run (Ch.refl [] w) (by simp) (λx hx=> .inl (by
  simp only[Gh.X,zr,hY]at hx⊢;rcases hx with hx|hx
  ·exact .inl hx
  ·exact .inr (.inr hx))) (λx hx=>zw _ hx)
end Go.Mi.Term
namespace Go.Mi.Term
open Go.Mi Go.Proofs Go.RowKit
set_option maxRecDepth 100000 in
set_option maxHeartbeats 4000000 in
theorem k_ {X:List Nat} {t:Tm} {v u:Value} (w0:World) (hX:∀x,x∈X->x<w0.heap.size) (ht:pS t) (hv:TmIs w0 X t v) (hu:TmIs w0 X t u):Calls Tryd.prog 37 (List.toArray [v,u]) w0 (Ret λv w'=>Gr w0 w'/\v= .bool true):=by refine dI [tmS t,tmS t] hX ⟨hv,hu,zo⟩ Tryd.func37 rfl Tryd.ntmps37 rfl λac hS=> ?_;refine wp_seq ?_;refine rx [e1 0 [(0,tmS t)] (nwS 0),⟨1,[(1,tmS t)],nwS 1,[1],true⟩] [2,3,4] (Bl [stB noR [],stB noR [(26,tmS t)],stB noR [(26,tmS t),(26,tmS t)]]) 2 [(2,nwS 0),(3,nwS 1),(4,eqS vf)] ⟨⟨cY rfl rfl rfl rfl (bT _).sized rfl,zo⟩,⟨cY rfl rfl rfl rfl (bT _).sized rfl,zo⟩,zo⟩ hS rfl λac g w hS=> ?_;refine wp_seq ?_;refine rz hS [e0 0 [(2,nwS 0)] (tmS t),e0 1 [(5,tmS t)] (eqS vt),e0 3 [(7,eqS vt),(3,nwS 1)] (tmS t),e0 4 [(7,eqS vt),(8,tmS t)] (eqS vt),e0 7 [(11,eqS vt),(2,nwS 0)] (tmS t),e0 8 [(11,eqS vt),(3,nwS 1)] (tmS t),e0 9 [(11,eqS vt),(12,tmS t),(13,tmS t)] (eqS vt)] [4] [(4,eqS vt)] ⟨⟨cg (k:=0) rfl rfl rfl rfl (by decide) u26 rfl b6 (bT _).sized,zo⟩,⟨bX rfl λξ g w hB hH=>a_ c22 rfl (oY w hB.wf.lt ht.1 ht.2.1 (hH 5 _ rfl)),zo⟩,⟨cg (k:=1) rfl rfl rfl rfl (by decide) u26 rfl b6 (bT _).sized,zo⟩,⟨bX rfl λξ g w hB hH=>a_ c22 rfl (oY w hB.wf.lt ht.1 ht.2.1 (hH 8 _ rfl)),zo⟩,⟨cg (k:=0) rfl rfl rfl rfl (by decide) u26 rfl b6 (bT _).sized,zo⟩,⟨cg (k:=1) rfl rfl rfl rfl (by decide) u26 rfl b6 (bT _).sized,zo⟩,⟨bX rfl λξ g w hB hH=>a_ c72 rfl (dJ (qY t t _ _ _ w ht.2.2 ht.2.2 hB.wf.lt (hH 12 _ rfl) (hH 13 _ rfl)) (sT t)),zo⟩,zo⟩ λac g w hS=> ?_;refine wp_ret ?_;exact bv hS.f.frm (bw Tryd.results37 (RV.tmp hS.f.frm rfl)) ⟨hS.gr0,rfl⟩
set_option maxRecDepth 100000 in
set_option maxHeartbeats 4000000 in
theorem r4 {X:List Nat} {l:List Tm} {v u:Value} (w0:World) (hX:∀x,x∈X->x<w0.heap.size) (hl:l.length<=1000000) (ht:∀x,x∈l->pS x) (hv:oK w0 X l v) (hu:oK w0 X l u):Calls Tryd.prog 34 (List.toArray [v,u]) w0 (Ret λv w'=>Gr w0 w'/\v= .bool true):=by
 refine dI [tkS l,tkS l] hX ⟨hv,hu,zo⟩ Tryd.func34 rfl Tryd.ntmps34 rfl λac hS=> ?_;refine wp_seq ?_;refine rz hS [] [0,1,4] [(0,tkS l),(1,tkS l),(4,eqS vf)] zo λac g w hS=> ?_;refine wp_seq ?_;refine wp_seq ?_;refine rz hS [e0 1 [(6,tkS l)] (eI l.length),e0 3 [(8,tkS l)] (eI l.length),e0 4 [(7,eI l.length),(9,eI l.length)] (eqS vf)] [0,1,4,10] [(0,tkS l),(1,tkS l),(4,eqS vf),(10,eqS vf)] ⟨⟨cR rfl rfl,zo⟩,⟨cR rfl rfl,zo⟩,⟨bI rfl rfl rfl (by simp [fo]),zo⟩,zo⟩ λac g w hS=> ?_;refine wp_cond_false (hS.f.frm.eval rfl) ?_;refine wp_skip ?_;refine wp_seq ?_;refine wp_seq ?_;refine rz hS [] [0,1,4,5] [(0,tkS l),(1,tkS l),(4,eqS vf),(5,eI 0)] zo λac g w hS=> ?_;refine bA ?_;refine wp_block ?_;refine ca (λa ac w=>∃(i:Nat) (g:Gh),a=l.length-i/\(i<=l.length)/\SS [(0,tkS l),(1,tkS l),(5,eI i)] 27 (stB noR []) ⟨[],[],X,[]⟩ w0 ac g w) _ ⟨0,_,rfl,zV _,hS.to ⟨rfl,rfl,rfl,zo⟩⟩ ?_;rintro _ ac w ⟨i,g,rfl,hi,hS⟩;refine wp_seq ?_;refine wp_seq ?_;refine rz hS [e0 2 [(12,tkS l)] (eI l.length)] [0,1,5,14] [(0,tkS l),(1,tkS l),(5,eI i),(14,eB (decide ((i:Int)<l.length)))] ⟨⟨cR rfl rfl,zo⟩,zo⟩ λac g w hS=> ?_;refine bA ?_;refine cr hS.f.frm rfl (λh=> ?_) (λh=> ?_)
 ·have hc:=zB h;clear h;have hc:=AA.1 hc;obtain⟨x,hx⟩:∃x,l[i]? =some x:=⟨_,zp hc⟩;refine wp_skip ?_;refine wp_seq ?_;refine wp_block ?_;refine wp_seq ?_;refine ry mo hS [e0 2 [(17,tkS l),(18,eI i)] (tpS x 0),e0 3 [(19,tpS x 0)] (tmS x),e0 6 [(21,tkS l),(22,eI i)] (tpS x 0),e0 7 [(23,tpS x 0)] (tmS x),e0 8 [(20,tmS x),(24,tmS x)] (eqS vt)] [0,1,5,26] [(0,tkS l),(1,tkS l),(5,eI i),(26,eqS vf)] ⟨⟨gA rfl rfl rfl hx,zo⟩,⟨j8 rfl rfl,zo⟩,⟨gA rfl rfl rfl hx,zo⟩,⟨j8 rfl rfl,zo⟩,⟨bX rfl λξ g w hB hH=>a_ c37 rfl (k_ w hB.wf.lt (ht x (zC hx)) (hH 20 _ rfl) (hH 24 _ rfl)),zo⟩,zo⟩ λac g w hS=> ?_;refine wp_cond_false (hS.f.frm.eval rfl) ?_;refine wp_skip ?_;refine bR ?_;refine rz hS [e0 1 [(15,eI i)] (eI (((i:Nat):Int)+1))] [0,1,5] [(0,tkS l),(1,tkS l),(5,eI (((i:Nat):Int)+1))] ⟨⟨bN λξ g w hB hH=>⟨_,rfl,ci rfl rfl (bK (by omega) (by omega))⟩,zo⟩,zo⟩ λac g w hS=> ?_;refine bA ?_;refine⟨_,?_,i+1,_,rfl,hc,hS.to ⟨rfl,rfl,rfl,zo⟩⟩;omega
 ·have hc:=of_decide_eq_false h;clear h;refine wp_exit ?_;refine bM ?_;refine bM ?_;refine bZ ?_;refine wp_seq ?_;refine rz hS [] [0,1,4] [(0,tkS l),(1,tkS l),(4,eqS vt)] zo λac g w hS=> ?_;refine wp_ret ?_;exact bv hS.f.frm (bw Tryd.results34 (RV.tmp hS.f.frm rfl)) ⟨hS.gr0,rfl⟩
end Go.Mi.Term
namespace Go.Mi.Term
open Go.Mi Go.Proofs Go.RowKit
set_option maxRecDepth 100000 in
set_option maxHeartbeats 4000000 in
theorem uu {b c:Nat} {m:Mn} {F Y:List Nat} {kd wh:Int} {kk:Bool} (hT:Twin m) (w0:World) (hX:∀x,x∈F++Y->x<w0.heap.size) (hr:PairIs b c m.r m F (F++Y) w0):Calls Tryd.prog 33 (List.toArray [vp b,vp c,.agg #[vI kd,vI wh,.bool kk]]) w0 (Ret (nR b c (m.doAct kd wh kk) Y F w0)):=by refine bY (ρ:=fe b c m.r m) [eqS (vp b),eqS (vp c),agS (cxV [vI kd,vI wh,.bool kk])] hX hr ⟨rfl,rfl,⟨_,rfl,rfl⟩,zo⟩ Tryd.func33 rfl Tryd.ntmps33 rfl λac hS=> ?_;refine wp_seq ?_;refine rx [e1 0 [(2,agS (cxV [vI kd,vI wh,.bool kk]))] (nwS 0)] [0,1,5,6] (Bl [stB (fe b c m.r m) [],stB (fe b c m.r m) [(52,agS (cxV [vI kd,vI wh,.bool kk]))]]) 1 [(0,eP b 0),(1,eP c 0),(5,nwS 0),(6,eqS vf)] ⟨⟨cY rfl rfl rfl rfl (ed _ _ _).sized rfl,zo⟩,zo⟩ hS rfl λac g w hS=> ?_;refine wp_seq ?_;refine rw_ mo [e0 1 [(5,nwS 0)] (nwO 0 0),e0 2 [(8,nwO 0 0)] (eI kd),e0 3 [(5,nwS 0)] (nwO 0 1),e0 4 [(10,nwO 0 1)] (eI wh),e0 5 [(5,nwS 0)] (nwO 0 2),e0 6 [(12,nwO 0 2)] (eB kk),e0 7 [(9,eI kd),(11,eI wh),(13,eB kk)] (agS (cxV [vI kd,vI wh,.bool kk])),e1 8 [(7,eP b 0),(14,agS (cxV [vI kd,vI wh,.bool kk]))] (eI (if m.r.refuses kd wh then 1 else 0:Int)),⟨10,[(5,nwS 0)],agS (cxV [vI kd,vI wh,.bool kk]),[0,1],false⟩,⟨11,[(16,eP c 0),(17,agS (cxV [vI kd,vI wh,.bool kk]))],eI (if m.r.refuses kd wh then 1 else 0:Int),[1],true⟩,⟨12,[(15,eI (if m.r.refuses kd wh then 1 else 0:Int)),(18,eI (if m.r.refuses kd wh then 1 else 0:Int))],eqS vt,[2],false⟩] [6] (Bl [stB (fe b c m.r m) [(52,agS (cxV [vI kd,vI wh,.bool kk]))],stB (fe b c (m.r.doAct kd wh kk) m) [(52,agS (cxV [vI kd,vI wh,.bool kk]))],stB (fe b c (m.r.doAct kd wh kk) (m.doAct kd wh kk)) [(52,agS (cxV [vI kd,vI wh,.bool kk]))]]) 2 [(6,eqS vt)] ⟨⟨bE (k:=0) rfl rfl rfl rfl (by decide) (by kernel_rfl),zo⟩,⟨bP (k:=0) (j:=0) rfl rfl rfl rfl (by decide) Tryd.underlying3 rfl rfl,zo⟩,⟨bE (k:=0) rfl rfl rfl rfl (by decide) (by kernel_rfl),zo⟩,⟨bP (k:=0) (j:=1) rfl rfl rfl rfl (by decide) Tryd.underlying3 rfl rfl,zo⟩,⟨bE (k:=0) rfl rfl rfl rfl (by decide) (by kernel_rfl),zo⟩,⟨bP (k:=0) (j:=2) rfl rfl rfl rfl (by decide) u4 rfl rfl,zo⟩,⟨vZ rfl rfl rfl rfl,zo⟩,⟨xX hT.g rfl rfl rfl rfl rfl,zo⟩,⟨cg (k:=0) rfl rfl rfl rfl (by decide) u52 rfl tj (ed _ _ _).sized,cg (k:=0) rfl rfl rfl rfl (by decide) u52 rfl tj (ed _ _ _).sized,zo⟩,⟨xY hT rfl rfl rfl rfl rfl,zo⟩,⟨lR rfl rfl rfl (decide_eq_true rfl),zo⟩,zo⟩ hS rfl λac g w hS=> ?_;refine wp_ret ?_;exact bv hS.f.frm (bw Tryd.results33 (RV.tmp hS.f.frm rfl)) (hS.postP (Mn.doAct_r _ _ _ _).symm)
end Go.Mi.Term
namespace Go.Mi.Term
open Go.Mi Go.Proofs Go.RowKit
theorem nV (a:Ac):(a.k=2/\a.who=0)\/(a.k=2/\¬a.who=0/\a.who=1)\/(a.k=2/\¬a.who=0/\¬a.who=1)\/¬a.k=2:=by omega
theorem hO {r:Rn}:r.cleanZ (-1)=false:=by unfold Rn.cleanZ;rw[zK (λh=>by omega)]
theorem hQ {r:Rn}:r.cleanZ (r.keys.length:Nat)=false:=by unfold Rn.cleanZ;rw[zK (λh=>by omega)]
section
set_option maxRecDepth 100000
variable {ops:List Oper} {n:Nat} {B:Nat->BX XX} {i p b c k o base:Nat} {L:TL TT} {ph:List Nat} {ρ:RX} {ns:List (Nat×Sp TT)} {ds:Option Tmp} {ty:TypeId} {pos:String} {af:Array Edge} {gu:Option (Nat×Bool)} {t:TypeId} {x y z:Operand} {κ:RY} {m:Mn} {a:Ac}
theorem v6 (hop:ops.getD i default=⟨ds,.load 52 x,t,pos,af,gu⟩) (hx:spO L x=some (apS a 0)):EOb Tryd.prog n ops XX B ⟨i,L,agS (cxV [vI a.k,vI a.who,.bool a.kem]),ph,false⟩ p:=bN λξ g w hB hH=>by rw[hop];obtain⟨u,h1,b,o,rfl,_,_,h4⟩:=bH hx hH;exact⟨_,⟨_,rfl,rfl⟩,cb u52 rfl tj h1 h4 rfl⟩
theorem wu {kd wh:Int} {kk:Bool} {ts:Array TypeId} (hT:Twin m) (hB0:B p=stB (jC κ base b c m) ns) (hB1:B (p+1)=stB (jC κ base b c (m.doAct kd wh kk)) ns) (hop:ops.getD i default=⟨ds,.call ⟨.value (.func 33),#[x,y,z],ts⟩,t,pos,af,gu⟩) (hx:spO L x=some (eqS (vp b))) (hy:spO L y=some (eqS (vp c))) (hz:spO L z=some (agS (cxV [vI kd,vI wh,.bool kk]))):EOb Tryd.prog n ops XX B ⟨i,L,eqS (.bool true),ph,true⟩ p:=by
 intro ξ g w hB hH;rw[hB0]at hB;have hB:StB (jC κ base b c m) ns g w:=hB;show Ok1 Tryd.prog (ops.getD i default) _ _ _ _;rw[hop];obtain⟨h1,h2,h3,h4,h5⟩:=hB.run;obtain⟨vz,e2,vs,rfl,e3⟩:=bH hz hH;obtain rfl:vs=[vI kd,vI wh,.bool kk]:=e3;refine(a_ c33 (by simp only[evs,bF hx,bF hy,e2]) (uu (kd:=kd) (wh:=wh) (kk:=kk) hT w hB.wf.lt h5)).mono ?_;rintro v w' ⟨hv,F',k1,k2,k3⟩;have hX:∀x,x∈F'++(g.M++g.Y)->x∈g.X\/w.heap.size<=x:=λx hx=>by
  rcases zr.1 hx with hx|hx
  ·rcases k2 x hx with h|h
   ·exact .inl (by simp [Gh.X,h])
   ·exact .inr h
  ·exact .inl (by simp only[Gh.X,zr]at hx⊢;exact .inr hx)
 obtain⟨t1,t2⟩:=hB.run' (ρ':=jC κ base b c (m.doAct kd wh kk)) (g':=⟨F',g.M,g.Y,g.N⟩) (l:=[]) (l':=[]) k1 k2 k3.lt rfl rfl (by simp) rfl (by simp) (by simp) ⟨κ.st h1 k1 (λc hm=>⟨by simp [Gh.X,hm],λhy=>by have :=h3 c hy;have :=h4 c hm;omega⟩) rfl hX,zy h2 k1.size,h3,λx hx=>by
  rcases k2 x hx with h|h
  ·exact h4 x h
  ·omega,k3⟩
 rw[AQ]at t2;exact⟨_,⟨t1,by show(B (p+1)).P _ _;rw[hB1];exact t2⟩,hv⟩
end
end Go.Mi.Term
namespace Go.Mi.Term
open Go.Mi Go.Proofs Go.RowKit
set_option maxRecDepth 100000 in
set_option maxHeartbeats 4000000 in
theorem v8 {X:List Nat} {l:List Ac} {kem:Bool} {v:Value} (w0:World) (hX:∀x,x∈X->x<w0.heap.size) (h00:0∈X) (hT:T0 w0) (hv:(acS l).hold ⟨[],[],X,[]⟩ w0 v) (h:65<l.length):Calls Tryd.prog 11 (List.toArray [.bool kem,v]) w0 (Ret λv w'=>Gr w0 w'/\v= .bool true):=by refine bY (F:=[]) (ρ:=mu (d6 noY dW) w0.heap.size) [eB kem,acS l] hX ⟨rfl,⟨zo,h00,hT⟩,zH _,hX⟩ ⟨rfl,hv,zo⟩ Tryd.func11 rfl Tryd.ntmps11 rfl λac hS=> ?_;refine wp_seq ?_;refine rz hS [] [0,1,4] [(0,eB kem),(1,acS l),(4,eqS vf)] zo λac g w hS=> ?_;refine wp_seq ?_;refine wp_seq ?_;refine rz hS [e0 1 [(13,acS l)] (eI l.length),e0 2 [(14,eI l.length)] (eqS vt)] [0,1,4,15] [(0,eB kem),(1,acS l),(4,eqS vf),(15,eqS vt)] ⟨⟨eN rfl rfl,zo⟩,⟨bI rfl rfl rfl (zu some (decide_eq_true (by omega))),zo⟩,zo⟩ λac g w hS=> ?_;refine wp_cond_true (hS.f.frm.eval rfl) ?_;refine wp_seq ?_;refine rz hS [e0 0 [] (eqS vt)] [0,1,4] [(0,eB kem),(1,acS l),(4,eqS vt)] ⟨⟨vY rfl rfl,zo⟩,zo⟩ λac g w hS=> ?_;refine wp_ret ?_;refine bO ?_;exact bv hS.f.frm (bw Tryd.results11 (RV.tmp hS.f.frm rfl)) ⟨hS.gr0,rfl⟩
set_option maxRecDepth 100000 in
set_option maxHeartbeats 4000000 in
theorem v7 {X:List Nat} {l:List Ac} {kem:Bool} {v:Value} (w0:World) (hX:∀x,x∈X->x<w0.heap.size) (h00:0∈X) (hT:T0 w0) (hv:(acS l).hold ⟨[],[],X,[]⟩ w0 v) (hl:l.length<=65):Calls Tryd.prog 11 (List.toArray [.bool kem,v]) w0 (Ret λv w'=>Gr w0 w'/\v= .bool true):=by
 have o:(amR kem l l.length).r.known.length<=1000000:=by have :=(amT kem l l.length).g.small.hk;omega
 have hky:(amR kem l l.length).r.keys.length<=1000000:=by have :=(amT kem l l.length).g.small.hy;omega
 refine bY (F:=[]) (ρ:=mu (d6 noY dW) w0.heap.size) [eB kem,acS l] hX ⟨rfl,⟨zo,h00,hT⟩,zH _,hX⟩ ⟨rfl,hv,zo⟩ Tryd.func11 rfl Tryd.ntmps11 rfl λac hS=> ?_;refine wp_seq ?_;refine rz hS [] [0,1,4] [(0,eB kem),(1,acS l),(4,eqS vf)] zo λac g w hS=> ?_;refine wp_seq ?_;refine wp_seq ?_;refine rz hS [e0 1 [(13,acS l)] (eI l.length),e0 2 [(14,eI l.length)] (eqS vf)] [0,1,4,15] [(0,eB kem),(1,acS l),(4,eqS vf),(15,eqS vf)] ⟨⟨eN rfl rfl,zo⟩,⟨bI rfl rfl rfl (zu some (decide_eq_false (by omega))),zo⟩,zo⟩ λac g w hS=> ?_;refine wp_cond_false (hS.f.frm.eval rfl) ?_;refine wp_skip ?_;refine wp_seq ?_;refine rx [e1 1 [(17,eB kem)] (ptS 0)] [0,1,4,5] (Bl [stB (mu (d6 noY dW) w0.heap.size) [],stB (r7 (d6 noY dW) w0.heap.size 0 (Rn.new kem)) [(0,bB)]]) 1 [(0,eB kem),(1,acS l),(4,eqS vf),(5,ptS 0)] ⟨⟨uQ rfl rfl rfl rfl rfl,zo⟩,zo⟩ hS rfl λac g w hS=> ?_;obtain⟨b,hS⟩:=hS.bornL (t:=5) rfl;refine wp_seq ?_;refine rx [e1 1 [(19,eB kem)] (ptS 1)] [1,4,5,6] (Bl [stB (fS (d6 noY dW) w0.heap.size b (Rn.new kem)) [(0,bB)],stB (pq (d6 noY dW) w0.heap.size b 1 (Mn.rest (Rn.new kem) 0)) [(0,bB),(0,bB)]]) 1 [(1,acS l),(4,eqS vf),(5,eP b 0),(6,ptS 1)] ⟨⟨wt rfl rfl rfl rfl rfl,zo⟩,zo⟩ hS rfl λac g w hS=> ?_;obtain⟨c,hS⟩:=hS.born2 (t:=6) rfl;refine wp_seq ?_;refine wp_seq ?_;refine rz hS [e0 1 [(21,eP b 0)] (eqS vf)] [1,4,5,6,22] [(1,acS l),(4,eqS vf),(5,eP b 0),(6,eP c 0),(22,eqS vf)] ⟨⟨rg rfl rfl rfl rfl,zo⟩,zo⟩ λac g w hS=> ?_;refine wp_cond_false (hS.f.frm.eval rfl) ?_;refine wp_skip ?_;refine wp_seq ?_;refine wp_seq ?_;refine rz hS [] [1,4,5,6,7] [(1,acS l),(4,eqS vf),(5,eP b 0),(6,eP c 0),(7,eI 0)] zo λac g w hS=> ?_;refine bA ?_;refine wp_block ?_;refine ca (λd ac w=>∃(i:Nat) (g:Gh),d=l.length-i/\(i<=l.length)/\SS [(1,acS l),(5,eP b 0),(6,eP c 0),(7,eI i)] 195 (stB (jC (d6 noY dW) w0.heap.size b c (amR kem l i)) [(0,bB),(0,bB)]) ⟨[],[],X,[]⟩ w0 ac g w) _ ⟨0,_,rfl,zV _,hS.to ⟨rfl,rfl,rfl,rfl,zo⟩⟩ ?_;rintro _ ac w ⟨i,g,rfl,hi,hS⟩;refine wp_seq ?_;refine wp_seq ?_;refine rz hS [e0 2 [(24,acS l)] (eI l.length)] [1,5,6,7,26] [(1,acS l),(5,eP b 0),(6,eP c 0),(7,eI i),(26,eB (decide ((i:Int)<l.length)))] ⟨⟨eN rfl rfl,zo⟩,zo⟩ λac g w hS=> ?_;refine bA ?_;refine cr hS.f.frm rfl (λh=> ?_) (λh=> ?_)
 ·have hc:=zB h;clear h;have hc:=AA.1 hc;obtain⟨a,ha⟩:∃a,l[i]? =some a:=⟨_,zp hc⟩;refine wp_skip ?_;refine wp_seq ?_;refine wp_block ?_;refine wp_seq ?_;refine rx [e0 4 [(31,acS l),(32,eI i)] (apS a 0),e0 5 [(33,apS a 0)] (agS (cxV [vI a.k,vI a.who,.bool a.kem])),e1 6 [(29,eP b 0),(30,eP c 0),(34,agS (cxV [vI a.k,vI a.who,.bool a.kem]))] (eqS vt)] [1,5,6,7,36] (Bl [stB (jC (d6 noY dW) w0.heap.size b c (amR kem l i)) [(0,bB),(0,bB)],stB (jC (d6 noY dW) w0.heap.size b c ((amR kem l i).doAct a.k a.who a.kem)) [(0,bB),(0,bB)]]) 1 [(1,acS l),(5,eP b 0),(6,eP c 0),(7,eI i),(36,eqS vf)] ⟨⟨fQ rfl rfl rfl ha,zo⟩,⟨v6 rfl rfl,zo⟩,⟨wu (amT kem l i) rfl rfl rfl rfl rfl rfl,zo⟩,zo⟩ hS rfl λac g w hS=> ?_;refine wp_cond_false (hS.f.frm.eval rfl) ?_;refine wp_skip ?_;refine bR ?_;refine rz hS [e0 1 [(27,eI i)] (eI (((i:Nat):Int)+1))] [1,5,6,7] [(1,acS l),(5,eP b 0),(6,eP c 0),(7,eI (((i:Nat):Int)+1))] ⟨⟨bN λξ g w hB hH=>⟨_,rfl,ci rfl rfl (bK (by omega) (by omega))⟩,zo⟩,zo⟩ λac g w hS=> ?_;refine bA ?_;refine⟨_,?_,i+1,_,rfl,hc,hS.toB (zu (λz=>stB (jC (d6 noY dW) w0.heap.size b c z) _) (nN ha)) ⟨rfl,rfl,rfl,rfl,zo⟩⟩;omega
 ·have hc:=of_decide_eq_false h;clear h;obtain rfl:i=l.length:=by omega
  refine wp_exit ?_;refine bM ?_;refine bM ?_;refine bZ ?_;refine wp_seq ?_;obtain⟨q,hS⟩:=hS.open2;refine rz hS [e0 1 [(37,eP b 0)] (ksS (amR kem l l.length).r.keys)] [1,5,6,8] [(1,acS l),(5,eP b 0),(6,eP c 0),(8,ksS (amR kem l l.length).r.keys)] ⟨⟨tX (amT kem l l.length).g rfl rfl rfl,zo⟩,zo⟩ λac g w hS=> ?_;refine wp_seq ?_;refine wp_seq ?_;refine ry mo hS [e0 1 [(39,ksS (amR kem l l.length).r.keys)] (eI ((amR kem l l.length).r.keys.length)),e0 5 [(43,eP c 17)] (eqS (q.v 0)),e0 6 [(44,eqS (q.v 0))] (eI ((amR kem l l.length).r.keys.length)),e0 7 [(40,eI ((amR kem l l.length).r.keys.length)),(45,eI ((amR kem l l.length).r.keys.length))] (eqS vf),e0 10 [(47,eqS vf),(48,eP b 0)] (tkS (amR kem l l.length).r.known),e0 14 [(47,eqS vf),(52,eP c 16)] (knS (amR kem l l.length).r.known),e0 15 [(47,eqS vf),(49,tkS (amR kem l l.length).r.known),(53,knS (amR kem l l.length).r.known)] (eqS vt),e0 20 [(57,eqS vf),(58,eP b 0)] (agS (cxV [.bool (amR kem l l.length).r.dh,.bool (amR kem l l.length).r.kem])),e0 24 [(57,eqS vf),(62,eP c 18)] (eB ((amR kem l l.length).r.dh)),e0 28 [(57,eqS vf),(66,eP c 19)] (eB ((amR kem l l.length).r.kem)),e0 29 [(57,eqS vf),(63,eB ((amR kem l l.length).r.dh)),(67,eB ((amR kem l l.length).r.kem))] (agS (cxV [.bool (amR kem l l.length).r.dh,.bool (amR kem l l.length).r.kem])),e0 30 [(57,eqS vf),(59,agS (cxV [.bool (amR kem l l.length).r.dh,.bool (amR kem l l.length).r.kem])),(68,agS (cxV [.bool (amR kem l l.length).r.dh,.bool (amR kem l l.length).r.kem]))] (eqS vf)] [1,5,6,8,70] [(1,acS l),(5,eP b 0),(6,eP c 0),(8,ksS (amR kem l l.length).r.keys),(70,eqS vf)] ⟨⟨io rfl rfl,zo⟩,⟨cE (jo _ _ _ _ _ _) rfl rfl rfl u65 rfl rfl,zo⟩,⟨ge (j:=0) (by decide) (jo _ _ _ _ _ _) rfl rfl rfl u65 rfl,zo⟩,⟨bI rfl rfl rfl (by simp [fo]),zo⟩,⟨rC (amT kem l l.length).g rfl rfl rfl,zo⟩,⟨o4 (HasMQ.run (jo _ _ _ _ _ _)) rfl rfl rfl,zo⟩,⟨bX rfl λξ g w hB hH=>a_ c34 rfl (r4 w hB.wf.lt o (Good.told (amT kem l l.length).g).1 (hH 49 _ rfl) (x7 (hH 53 _ rfl))),zo⟩,⟨rB (amT kem l l.length).g rfl rfl rfl,zo⟩,⟨cE (jo _ _ _ _ _ _) rfl rfl rfl u4 rfl rfl,zo⟩,⟨cE (jo _ _ _ _ _ _) rfl rfl rfl u4 rfl rfl,zo⟩,⟨xI rfl rfl rfl,zo⟩,⟨xB (c:=true) rfl rfl rfl (by simp),zo⟩,zo⟩ λac g w hS=> ?_;refine wp_cond_false (hS.f.frm.eval rfl) ?_;refine wp_skip ?_;refine wp_seq ?_;refine rz hS [] [1,5,6,8,9] [(1,acS l),(5,eP b 0),(6,eP c 0),(8,ksS (amR kem l l.length).r.keys),(9,eI 0)] zo λac g w hS=> ?_;refine wp_seq ?_;refine wp_seq ?_;refine rz hS [] [1,5,6,8,9,10] [(1,acS l),(5,eP b 0),(6,eP c 0),(8,ksS (amR kem l l.length).r.keys),(9,eI 0),(10,eI 0)] zo λac g w hS=> ?_;refine bA ?_;refine wp_block ?_;refine ca (λd ac w=>∃(i:Nat) (g:Gh),d=(amR kem l l.length).r.keys.length-i/\(i<=(amR kem l l.length).r.keys.length)/\SS [(1,acS l),(5,eP b 0),(6,eP c 0),(8,ksS (amR kem l l.length).r.keys),(9,eI 0),(10,eI i)] 195 (stB (ff (d6 noY dW) w0.heap.size b c (amR kem l l.length) q) [(0,bB),(0,bB)]) ⟨[],[],X,[]⟩ w0 ac g w) _ ⟨0,_,rfl,zV _,hS.to ⟨rfl,rfl,rfl,rfl,rfl,rfl,zo⟩⟩ ?_;rintro _ ac w ⟨i,g,rfl,hi,hS⟩;refine wp_seq ?_;refine wp_seq ?_;refine rz hS [e0 2 [(72,ksS (amR kem l l.length).r.keys)] (eI ((amR kem l l.length).r.keys.length))] [1,5,6,8,9,10,74] [(1,acS l),(5,eP b 0),(6,eP c 0),(8,ksS (amR kem l l.length).r.keys),(9,eI 0),(10,eI i),(74,eB (decide ((i:Int)<(amR kem l l.length).r.keys.length)))] ⟨⟨io rfl rfl,zo⟩,zo⟩ λac g w hS=> ?_;refine bA ?_;refine cr hS.f.frm rfl (λh=> ?_) (λh=> ?_)
  ·have hc:=zB h;clear h;have hc:=AA.1 hc;obtain⟨e,he⟩:∃e,(amR kem l l.length).r.keys[i]? =some e:=⟨_,zp hc⟩;refine wp_skip ?_;refine wp_seq ?_;refine wp_block ?_;refine wp_seq ?_;refine rx [e0 3 [(79,eP c 17)] (eqS (q.v 0)),e0 5 [(80,eqS (q.v 0)),(81,eI i)] (eP (bkV (q.v 0)) (i*6)),e0 6 [(82,eP (bkV (q.v 0)) (i*6))] (agS (cxK e)),e1 7 [] (nwS 2),⟨8,[(11,nwS 2),(83,agS (cxK e))],bB,[1],true⟩] [1,5,6,8,9,10,11] (Bl [stB (ff (d6 noY dW) w0.heap.size b c (amR kem l l.length) q) [(0,bB),(0,bB)],stB (ff (d6 noY dW) w0.heap.size b c (amR kem l l.length) q) [(0,bB),(0,bB),(73,cH 6)],stB (ff (d6 noY dW) w0.heap.size b c (amR kem l l.length) q) [(0,bB),(0,bB),(73,agS (cxK e))]]) 2 [(1,acS l),(5,eP b 0),(6,eP c 0),(8,ksS (amR kem l l.length).r.keys),(9,eI 0),(10,eI i),(11,nwS 2)] ⟨⟨cE (jo _ _ _ _ _ _) rfl rfl rfl u65 rfl rfl,zo⟩,⟨rq (j:=0) (by decide) (jo _ _ _ _ _ _) rfl rfl u65 vm rfl rfl rfl hc,zo⟩,⟨tN (jo _ _ _ _ _ _) rfl rfl rfl he,zo⟩,⟨cC rfl rfl rfl z73 rfl rfl,zo⟩,⟨cB (k:=2) (m:=6) rfl rfl rfl rfl rfl rfl (by decide) vm (cf 6) (sU _),zo⟩,zo⟩ hS rfl λac g w hS=> ?_;refine wp_seq ?_;refine ry mo hS [e0 2 [(84,ksS (amR kem l l.length).r.keys),(85,eI i)] (kpS e 0),e0 3 [(86,kpS e 0)] (kpS e 0),e0 4 [(87,kpS e 0)] (tmS e.t),e0 5 [(11,nwS 2)] (nwO 2 0),e0 6 [(89,nwO 2 0)] (tmS e.t),e0 7 [(88,tmS e.t),(90,tmS e.t)] (eqS vt),e0 12 [(93,eqS vf),(94,ksS (amR kem l l.length).r.keys),(95,eI i)] (kpS e 0),e0 13 [(93,eqS vf),(96,kpS e 0)] (kpS e 3),e0 14 [(93,eqS vf),(97,kpS e 3)] (eI e.ep),e0 15 [(93,eqS vf),(11,nwS 2)] (nwO 2 3),e0 16 [(93,eqS vf),(99,nwO 2 3)] (eI e.ep),e0 17 [(93,eqS vf),(98,eI e.ep),(100,eI e.ep)] (eqS vf),e0 22 [(103,eqS vf),(104,ksS (amR kem l l.length).r.keys),(105,eI i)] (kpS e 0),e0 23 [(103,eqS vf),(106,kpS e 0)] (kpS e 4),e0 24 [(103,eqS vf),(107,kpS e 4)] (eI e.who),e0 25 [(103,eqS vf),(11,nwS 2)] (nwO 2 4),e0 26 [(103,eqS vf),(109,nwO 2 4)] (eI e.who),e0 27 [(103,eqS vf),(108,eI e.who),(110,eI e.who)] (eqS vf),e0 32 [(113,eqS vf),(114,ksS (amR kem l l.length).r.keys),(115,eI i)] (kpS e 0),e0 33 [(113,eqS vf),(116,kpS e 0)] (kpS e 5),e0 34 [(113,eqS vf),(117,kpS e 5)] (eI e.ix),e0 35 [(113,eqS vf),(11,nwS 2)] (nwO 2 5),e0 36 [(113,eqS vf),(119,nwO 2 5)] (eI e.ix),e0 37 [(113,eqS vf),(118,eI e.ix),(120,eI e.ix)] (eqS vf),e0 42 [(123,eqS vf),(124,eP b 0),(125,eI i)] (eB ((amR kem l l.length).r.cleanZ (i:Nat))),e0 45 [(123,eqS vf),(127,eP c 0),(128,eI i)] (eB ((amR kem l l.length).r.cleanZ (i:Nat))),e0 46 [(123,eqS vf),(126,eB ((amR kem l l.length).r.cleanZ (i:Nat))),(129,eB ((amR kem l l.length).r.cleanZ (i:Nat)))] (eqS vf)] [1,5,6,8,9,10,131] [(1,acS l),(5,eP b 0),(6,eP c 0),(8,ksS (amR kem l l.length).r.keys),(9,eI 0),(10,eI i),(131,eqS vf)] ⟨⟨o6 rfl rfl rfl he,zo⟩,⟨tQ rfl rfl b6 u58 rfl rfl,zo⟩,⟨yS rfl rfl,zo⟩,⟨bE (k:=2) rfl rfl rfl rfl (by decide) (by kernel_rfl),zo⟩,⟨tL (k:=2) rfl rfl rfl rfl,zo⟩,⟨bX rfl λξ g w hB hH=>a_ c37 rfl (k_ w hB.wf.lt ((Good.told (amT kem l l.length).g).2 e (zC he)) (hH 88 _ rfl) (hH 90 _ rfl)),zo⟩,⟨o6 rfl rfl rfl he,zo⟩,⟨tQ rfl rfl sz3 u58 rfl rfl,zo⟩,⟨vQ (j:=0) rfl rfl rfl,zo⟩,⟨bE (k:=2) rfl rfl rfl rfl (by decide) (by kernel_rfl),zo⟩,⟨lP (k:=2) (j:=0) rfl rfl rfl rfl rfl,zo⟩,⟨bI rfl rfl rfl (by simp [fo]),zo⟩,⟨o6 rfl rfl rfl he,zo⟩,⟨tQ rfl rfl sz3 u58 rfl rfl,zo⟩,⟨vQ (j:=1) rfl rfl rfl,zo⟩,⟨bE (k:=2) rfl rfl rfl rfl (by decide) (by kernel_rfl),zo⟩,⟨lP (k:=2) (j:=1) rfl rfl rfl rfl rfl,zo⟩,⟨bI rfl rfl rfl (by simp [fo]),zo⟩,⟨o6 rfl rfl rfl he,zo⟩,⟨tQ rfl rfl sz3 u58 rfl rfl,zo⟩,⟨vQ (j:=2) rfl rfl rfl,zo⟩,⟨bE (k:=2) rfl rfl rfl rfl (by decide) (by kernel_rfl),zo⟩,⟨lP (k:=2) (j:=2) rfl rfl rfl rfl rfl,zo⟩,⟨bI rfl rfl rfl (by simp [fo]),zo⟩,⟨fx (amT kem l l.length).g rfl rfl rfl rfl rfl,zo⟩,⟨qa (amT kem l l.length) rfl rfl rfl rfl rfl,zo⟩,⟨tH rfl rfl rfl,zo⟩,zo⟩ λac g w hS=> ?_;refine wp_cond_false (hS.f.frm.eval rfl) ?_;refine wp_skip ?_;refine bR ?_;refine rz hS [e0 1 [(75,eI i)] (eI (((i:Nat):Int)+1))] [1,5,6,8,9,10] [(1,acS l),(5,eP b 0),(6,eP c 0),(8,ksS (amR kem l l.length).r.keys),(9,eI 0),(10,eI (((i:Nat):Int)+1))] ⟨⟨bN λξ g w hB hH=>⟨_,rfl,ci rfl rfl (bK (by omega) (by omega))⟩,zo⟩,zo⟩ λac g w hS=> ?_;refine bA ?_;refine⟨_,?_,i+1,_,rfl,hc,hS.cut (ns:=[(0,bB),(0,bB)]) (m:=2) rfl rfl (λh=>h) (λk p hp h0=>by match k,hp with |0,hp=>cases hp;exact absurd rfl h0|1,hp=>cases hp;exact absurd rfl h0) ⟨⟨_,rfl,λ_ _ _ h=>h⟩,⟨_,rfl,λ_ _ _ h=>h⟩,⟨_,rfl,λ_ _ _ h=>h⟩,⟨_,rfl,λ_ _ _ h=>h⟩,⟨_,rfl,λ_ _ _ h=>h⟩,⟨_,rfl,λ_ _ _ h=>h⟩,zo⟩⟩;omega
  ·have hc:=of_decide_eq_false h;clear h;refine wp_exit ?_;refine bM ?_;refine bM ?_;refine bZ ?_;refine wp_seq ?_;refine wp_seq ?_;refine rz hS [] [1,5,6,8,9,12] [(1,acS l),(5,eP b 0),(6,eP c 0),(8,ksS (amR kem l l.length).r.keys),(9,eI 0),(12,eI 0)] zo λac g w hS=> ?_;refine bA ?_;refine wp_block ?_;refine ca (λd ac w=>∃(i:Nat) (g:Gh),d=l.length-i/\(i<=l.length/\i<=60)/\SS [(1,acS l),(5,eP b 0),(8,ksS (amR kem l l.length).r.keys),(9,eI (tc l i:Nat)),(12,eI i)] 195 (stB (ff (d6 noY dW) w0.heap.size b c (amR kem l l.length) q) [(0,bB),(0,bB)]) ⟨[],[],X,[]⟩ w0 ac g w) _ ⟨0,_,rfl,⟨zV _,zV _⟩,hS.to ⟨rfl,rfl,rfl,rfl,rfl,zo⟩⟩ ?_;rintro _ ac w ⟨i,g,rfl,hi,hS⟩;refine wp_seq ?_;refine wp_seq ?_;rcases(show(i<l.length/\i<60)\/(60<=i/\60<l.length)\/(60<=i/\i=l.length)\/(i<60/\i=l.length) by omega)with⟨h1,h2⟩|⟨h1,h2⟩|⟨h1,h2⟩|⟨h1,h2⟩
   ·obtain⟨a,ha⟩:∃a,l[i]? =some a:=⟨_,zp h1⟩;refine rz hS [e0 2 [(133,acS l)] (eI l.length),e0 3 [(132,eI i),(134,eI l.length)] (eqS vt),e0 6 [(136,eqS vt),(137,eI i)] (eqS vt)] [1,5,8,9,12,139] [(1,acS l),(5,eP b 0),(8,ksS (amR kem l l.length).r.keys),(9,eI (tc l i:Nat)),(12,eI i),(139,eqS vt)] ⟨⟨eN rfl rfl,zo⟩,⟨bI rfl rfl rfl (zu some (decide_eq_true (by omega))),zo⟩,⟨bI rfl rfl rfl (zu some (decide_eq_true (by omega))),zo⟩,zo⟩ λac g w hS=> ?_;refine wp_cond_true (hS.f.frm.eval rfl) ?_;refine wp_skip ?_;refine wp_seq ?_;refine wp_block ?_;refine wp_seq ?_;rcases nV a with⟨h3,h4⟩|⟨h3,h4,h5⟩|⟨h3,h4,h5⟩|h3
    ·skip;refine rz hS [e0 2 [(142,acS l),(143,eI i)] (apS a 0),e0 3 [(144,apS a 0)] (apS a 0),e0 4 [(145,apS a 0)] (eI a.k),e0 5 [(146,eI a.k)] (eqS vt),e0 9 [(148,eqS vt),(149,acS l),(150,eI i)] (apS a 0),e0 10 [(148,eqS vt),(151,apS a 0)] (apS a 1),e0 11 [(148,eqS vt),(152,apS a 1)] (eI a.who),e0 12 [(148,eqS vt),(153,eI a.who)] (eqS vt)] [1,5,8,9,12,163] [(1,acS l),(5,eP b 0),(8,ksS (amR kem l l.length).r.keys),(9,eI (tc l i:Nat)),(12,eI i),(163,eqS vt)] ⟨⟨fQ rfl rfl rfl ha,zo⟩,⟨iq rfl rfl sz3 u52 rfl rfl,zo⟩,⟨ip rfl rfl Tryd.underlying3 rfl rfl,zo⟩,⟨bI rfl rfl rfl (zu some (decide_eq_true h3)),zo⟩,⟨fQ rfl rfl rfl ha,zo⟩,⟨iq rfl rfl sz3 u52 rfl rfl,zo⟩,⟨ip rfl rfl Tryd.underlying3 rfl rfl,zo⟩,⟨bI rfl rfl rfl (zu some (decide_eq_true h4)),zo⟩,zo⟩ λac g w hS=> ?_;refine wp_cond_true (hS.f.frm.eval rfl) ?_;refine rz hS [e0 1 [(164,eI (tc l i:Nat))] (eI (((tc l i:Nat):Int)+1))] [1,5,8,9,12] [(1,acS l),(5,eP b 0),(8,ksS (amR kem l l.length).r.keys),(9,eI (((tc l i:Nat):Int)+1)),(12,eI i)] ⟨⟨bN λξ g w hB hH=>⟨_,rfl,ci rfl rfl (bK (by have :=oU l i;omega) (by have :=oU l i;omega))⟩,zo⟩,zo⟩ λac g w hS=> ?_;refine bR ?_;refine rz hS [e0 1 [(140,eI i)] (eI (((i:Nat):Int)+1))] [1,5,8,9,12] [(1,acS l),(5,eP b 0),(8,ksS (amR kem l l.length).r.keys),(9,eI (((tc l i:Nat):Int)+1)),(12,eI (((i:Nat):Int)+1))] ⟨⟨bN λξ g w hB hH=>⟨_,rfl,ci rfl rfl (bK (by omega) (by omega))⟩,zo⟩,zo⟩ λac g w hS=> ?_;refine bA ?_;refine⟨_,?_,i+1,_,rfl,⟨h1,h2⟩,hS.to ⟨rfl,rfl,rfl,zu (λz:Int=>some (eI z)) (vi ha (by simp [fE,h3,h4])),rfl,zo⟩⟩;omega
    ·skip;refine rz hS [e0 2 [(142,acS l),(143,eI i)] (apS a 0),e0 3 [(144,apS a 0)] (apS a 0),e0 4 [(145,apS a 0)] (eI a.k),e0 5 [(146,eI a.k)] (eqS vt),e0 9 [(148,eqS vt),(149,acS l),(150,eI i)] (apS a 0),e0 10 [(148,eqS vt),(151,apS a 0)] (apS a 1),e0 11 [(148,eqS vt),(152,apS a 1)] (eI a.who),e0 12 [(148,eqS vt),(153,eI a.who)] (eqS vf),e0 16 [(155,eqS vf),(156,acS l),(157,eI i)] (apS a 0),e0 17 [(155,eqS vf),(158,apS a 0)] (apS a 1),e0 18 [(155,eqS vf),(159,apS a 1)] (eI a.who),e0 19 [(155,eqS vf),(160,eI a.who)] (eqS vt)] [1,5,8,9,12,163] [(1,acS l),(5,eP b 0),(8,ksS (amR kem l l.length).r.keys),(9,eI (tc l i:Nat)),(12,eI i),(163,eqS vt)] ⟨⟨fQ rfl rfl rfl ha,zo⟩,⟨iq rfl rfl sz3 u52 rfl rfl,zo⟩,⟨ip rfl rfl Tryd.underlying3 rfl rfl,zo⟩,⟨bI rfl rfl rfl (zu some (decide_eq_true h3)),zo⟩,⟨fQ rfl rfl rfl ha,zo⟩,⟨iq rfl rfl sz3 u52 rfl rfl,zo⟩,⟨ip rfl rfl Tryd.underlying3 rfl rfl,zo⟩,⟨bI rfl rfl rfl (zu some (decide_eq_false h4)),zo⟩,⟨fQ rfl rfl rfl ha,zo⟩,⟨iq rfl rfl sz3 u52 rfl rfl,zo⟩,⟨ip rfl rfl Tryd.underlying3 rfl rfl,zo⟩,⟨bI rfl rfl rfl (zu some (decide_eq_true h5)),zo⟩,zo⟩ λac g w hS=> ?_;refine wp_cond_true (hS.f.frm.eval rfl) ?_;refine rz hS [e0 1 [(164,eI (tc l i:Nat))] (eI (((tc l i:Nat):Int)+1))] [1,5,8,9,12] [(1,acS l),(5,eP b 0),(8,ksS (amR kem l l.length).r.keys),(9,eI (((tc l i:Nat):Int)+1)),(12,eI i)] ⟨⟨bN λξ g w hB hH=>⟨_,rfl,ci rfl rfl (bK (by have :=oU l i;omega) (by have :=oU l i;omega))⟩,zo⟩,zo⟩ λac g w hS=> ?_;refine bR ?_;refine rz hS [e0 1 [(140,eI i)] (eI (((i:Nat):Int)+1))] [1,5,8,9,12] [(1,acS l),(5,eP b 0),(8,ksS (amR kem l l.length).r.keys),(9,eI (((tc l i:Nat):Int)+1)),(12,eI (((i:Nat):Int)+1))] ⟨⟨bN λξ g w hB hH=>⟨_,rfl,ci rfl rfl (bK (by omega) (by omega))⟩,zo⟩,zo⟩ λac g w hS=> ?_;refine bA ?_;refine⟨_,?_,i+1,_,rfl,⟨h1,h2⟩,hS.to ⟨rfl,rfl,rfl,zu (λz:Int=>some (eI z)) (vi ha (by simp [fE,h3,h5])),rfl,zo⟩⟩;omega
    ·skip;refine rz hS [e0 2 [(142,acS l),(143,eI i)] (apS a 0),e0 3 [(144,apS a 0)] (apS a 0),e0 4 [(145,apS a 0)] (eI a.k),e0 5 [(146,eI a.k)] (eqS vt),e0 9 [(148,eqS vt),(149,acS l),(150,eI i)] (apS a 0),e0 10 [(148,eqS vt),(151,apS a 0)] (apS a 1),e0 11 [(148,eqS vt),(152,apS a 1)] (eI a.who),e0 12 [(148,eqS vt),(153,eI a.who)] (eqS vf),e0 16 [(155,eqS vf),(156,acS l),(157,eI i)] (apS a 0),e0 17 [(155,eqS vf),(158,apS a 0)] (apS a 1),e0 18 [(155,eqS vf),(159,apS a 1)] (eI a.who),e0 19 [(155,eqS vf),(160,eI a.who)] (eqS vf)] [1,5,8,9,12,163] [(1,acS l),(5,eP b 0),(8,ksS (amR kem l l.length).r.keys),(9,eI (tc l i:Nat)),(12,eI i),(163,eqS vf)] ⟨⟨fQ rfl rfl rfl ha,zo⟩,⟨iq rfl rfl sz3 u52 rfl rfl,zo⟩,⟨ip rfl rfl Tryd.underlying3 rfl rfl,zo⟩,⟨bI rfl rfl rfl (zu some (decide_eq_true h3)),zo⟩,⟨fQ rfl rfl rfl ha,zo⟩,⟨iq rfl rfl sz3 u52 rfl rfl,zo⟩,⟨ip rfl rfl Tryd.underlying3 rfl rfl,zo⟩,⟨bI rfl rfl rfl (zu some (decide_eq_false h4)),zo⟩,⟨fQ rfl rfl rfl ha,zo⟩,⟨iq rfl rfl sz3 u52 rfl rfl,zo⟩,⟨ip rfl rfl Tryd.underlying3 rfl rfl,zo⟩,⟨bI rfl rfl rfl (zu some (decide_eq_false h5)),zo⟩,zo⟩ λac g w hS=> ?_;refine wp_cond_false (hS.f.frm.eval rfl) ?_;refine wp_skip ?_;refine bR ?_;refine rz hS [e0 1 [(140,eI i)] (eI (((i:Nat):Int)+1))] [1,5,8,9,12] [(1,acS l),(5,eP b 0),(8,ksS (amR kem l l.length).r.keys),(9,eI (tc l i:Nat)),(12,eI (((i:Nat):Int)+1))] ⟨⟨bN λξ g w hB hH=>⟨_,rfl,ci rfl rfl (bK (by omega) (by omega))⟩,zo⟩,zo⟩ λac g w hS=> ?_;refine bA ?_;refine⟨_,?_,i+1,_,rfl,⟨h1,h2⟩,hS.to ⟨rfl,rfl,rfl,zu (λz:Int=>some (eI z)) (vj ha (by simp [fE,h3,h4,h5])),rfl,zo⟩⟩;omega
    ·skip;refine rz hS [e0 2 [(142,acS l),(143,eI i)] (apS a 0),e0 3 [(144,apS a 0)] (apS a 0),e0 4 [(145,apS a 0)] (eI a.k),e0 5 [(146,eI a.k)] (eqS vf)] [1,5,8,9,12,163] [(1,acS l),(5,eP b 0),(8,ksS (amR kem l l.length).r.keys),(9,eI (tc l i:Nat)),(12,eI i),(163,eqS vf)] ⟨⟨fQ rfl rfl rfl ha,zo⟩,⟨iq rfl rfl sz3 u52 rfl rfl,zo⟩,⟨ip rfl rfl Tryd.underlying3 rfl rfl,zo⟩,⟨bI rfl rfl rfl (zu some (decide_eq_false h3)),zo⟩,zo⟩ λac g w hS=> ?_;refine wp_cond_false (hS.f.frm.eval rfl) ?_;refine wp_skip ?_;refine bR ?_;refine rz hS [e0 1 [(140,eI i)] (eI (((i:Nat):Int)+1))] [1,5,8,9,12] [(1,acS l),(5,eP b 0),(8,ksS (amR kem l l.length).r.keys),(9,eI (tc l i:Nat)),(12,eI (((i:Nat):Int)+1))] ⟨⟨bN λξ g w hB hH=>⟨_,rfl,ci rfl rfl (bK (by omega) (by omega))⟩,zo⟩,zo⟩ λac g w hS=> ?_;refine bA ?_;refine⟨_,?_,i+1,_,rfl,⟨h1,h2⟩,hS.to ⟨rfl,rfl,rfl,zu (λz:Int=>some (eI z)) (vj ha (by simp [fE,h3])),rfl,zo⟩⟩;omega
   ·skip;refine rz hS [e0 2 [(133,acS l)] (eI l.length),e0 3 [(132,eI i),(134,eI l.length)] (eqS vt),e0 6 [(136,eqS vt),(137,eI i)] (eqS vf)] [1,5,8,9,12,139] [(1,acS l),(5,eP b 0),(8,ksS (amR kem l l.length).r.keys),(9,eI (tc l i:Nat)),(12,eI i),(139,eqS vf)] ⟨⟨eN rfl rfl,zo⟩,⟨bI rfl rfl rfl (zu some (decide_eq_true (by omega))),zo⟩,⟨bI rfl rfl rfl (zu some (decide_eq_false (by omega))),zo⟩,zo⟩ λac g w hS=> ?_;refine wp_cond_false (hS.f.frm.eval rfl) ?_;refine wp_exit ?_;refine bM ?_;refine bM ?_;refine bZ ?_;refine wp_seq ?_;refine rz hS [e0 1 [(166,acS l)] (eI l.length),e0 2 [(167,eI l.length)] (eqS vt),e0 11 [(175,eqS vt),(176,eP b 0)] (eqS vf),e0 17 [(180,eqS vt),(182,ksS (amR kem l l.length).r.keys)] (eI ((amR kem l l.length).r.keys.length)),e0 18 [(180,eqS vt),(181,eP b 0),(183,eI ((amR kem l l.length).r.keys.length))] (eqS vf),e0 23 [(187,eqS vt),(188,eP b 0)] (eqS vf),e0 27 [(192,eqS vt)] (eqS vt)] [1,4,5,8,9,12] [(1,acS l),(4,eqS vt),(5,eP b 0),(8,ksS (amR kem l l.length).r.keys),(9,eI (tc l i:Nat)),(12,eI i)] ⟨⟨eN rfl rfl,zo⟩,⟨bI rfl rfl rfl (zu some (decide_eq_true (by omega))),zo⟩,⟨fx (amT kem l l.length).g rfl rfl rfl rfl hO,zo⟩,⟨io rfl rfl,zo⟩,⟨fx (amT kem l l.length).g rfl rfl rfl rfl hQ,zo⟩,⟨kf (by decide) (amT kem l l.length).g rfl rfl rfl rfl,zo⟩,⟨n9 rfl rfl,zo⟩,zo⟩ λac g w hS=> ?_;refine wp_ret ?_;exact bv hS.f.frm (bw Tryd.results11 (RV.tmp hS.f.frm rfl)) ⟨hS.gr0,rfl⟩
   ·subst h2;have n:(((amR kem l l.length).r.eps.length-1:Nat):Int)=(tc l l.length:Nat):=by have :=(oI kem l l.length (by omega) (by omega)).2;omega
    refine rz hS [e0 2 [(133,acS l)] (eI l.length),e0 3 [(132,eI l.length),(134,eI l.length)] (eqS vf)] [1,5,8,9,12,139] [(1,acS l),(5,eP b 0),(8,ksS (amR kem l l.length).r.keys),(9,eI (tc l l.length:Nat)),(12,eI l.length),(139,eqS vf)] ⟨⟨eN rfl rfl,zo⟩,⟨bI rfl rfl rfl (zu some (decide_eq_false (by omega))),zo⟩,zo⟩ λac g w hS=> ?_;refine wp_cond_false (hS.f.frm.eval rfl) ?_;refine wp_exit ?_;refine bM ?_;refine bM ?_;refine bZ ?_;refine wp_seq ?_;refine rz hS [e0 1 [(166,acS l)] (eI l.length),e0 2 [(167,eI l.length)] (eqS vf),e0 5 [(169,eqS vf),(170,eP b 0)] (eI (((amR kem l l.length).r.eps.length-1:Nat):Int)),e0 7 [(169,eqS vf),(171,eI (((amR kem l l.length).r.eps.length-1:Nat):Int)),(172,eI (tc l l.length:Nat))] (eqS vt),e0 11 [(175,eqS vt),(176,eP b 0)] (eqS vf),e0 17 [(180,eqS vt),(182,ksS (amR kem l l.length).r.keys)] (eI ((amR kem l l.length).r.keys.length)),e0 18 [(180,eqS vt),(181,eP b 0),(183,eI ((amR kem l l.length).r.keys.length))] (eqS vf),e0 23 [(187,eqS vt),(188,eP b 0)] (eqS vf),e0 27 [(192,eqS vt)] (eqS vt)] [1,4,5,8,9,12] [(1,acS l),(4,eqS vt),(5,eP b 0),(8,ksS (amR kem l l.length).r.keys),(9,eI (tc l l.length:Nat)),(12,eI l.length)] ⟨⟨eN rfl rfl,zo⟩,⟨bI rfl rfl rfl (zu some (decide_eq_false (by omega))),zo⟩,⟨m6 (amT kem l l.length).g rfl rfl rfl,zo⟩,⟨lR rfl rfl rfl (decide_eq_true n),zo⟩,⟨fx (amT kem l l.length).g rfl rfl rfl rfl hO,zo⟩,⟨io rfl rfl,zo⟩,⟨fx (amT kem l l.length).g rfl rfl rfl rfl hQ,zo⟩,⟨kf (by decide) (amT kem l l.length).g rfl rfl rfl rfl,zo⟩,⟨n9 rfl rfl,zo⟩,zo⟩ λac g w hS=> ?_;refine wp_ret ?_;exact bv hS.f.frm (bw Tryd.results11 (RV.tmp hS.f.frm rfl)) ⟨hS.gr0,rfl⟩
   ·subst h2;have n:(((amR kem l l.length).r.eps.length-1:Nat):Int)=(tc l l.length:Nat):=by have :=(oI kem l l.length (by omega) (by omega)).2;omega
    refine rz hS [e0 2 [(133,acS l)] (eI l.length),e0 3 [(132,eI l.length),(134,eI l.length)] (eqS vf)] [1,5,8,9,12,139] [(1,acS l),(5,eP b 0),(8,ksS (amR kem l l.length).r.keys),(9,eI (tc l l.length:Nat)),(12,eI l.length),(139,eqS vf)] ⟨⟨eN rfl rfl,zo⟩,⟨bI rfl rfl rfl (zu some (decide_eq_false (by omega))),zo⟩,zo⟩ λac g w hS=> ?_;refine wp_cond_false (hS.f.frm.eval rfl) ?_;refine wp_exit ?_;refine bM ?_;refine bM ?_;refine bZ ?_;refine wp_seq ?_;refine rz hS [e0 1 [(166,acS l)] (eI l.length),e0 2 [(167,eI l.length)] (eqS vf),e0 5 [(169,eqS vf),(170,eP b 0)] (eI (((amR kem l l.length).r.eps.length-1:Nat):Int)),e0 7 [(169,eqS vf),(171,eI (((amR kem l l.length).r.eps.length-1:Nat):Int)),(172,eI (tc l l.length:Nat))] (eqS vt),e0 11 [(175,eqS vt),(176,eP b 0)] (eqS vf),e0 17 [(180,eqS vt),(182,ksS (amR kem l l.length).r.keys)] (eI ((amR kem l l.length).r.keys.length)),e0 18 [(180,eqS vt),(181,eP b 0),(183,eI ((amR kem l l.length).r.keys.length))] (eqS vf),e0 23 [(187,eqS vt),(188,eP b 0)] (eqS vf),e0 27 [(192,eqS vt)] (eqS vt)] [1,4,5,8,9,12] [(1,acS l),(4,eqS vt),(5,eP b 0),(8,ksS (amR kem l l.length).r.keys),(9,eI (tc l l.length:Nat)),(12,eI l.length)] ⟨⟨eN rfl rfl,zo⟩,⟨bI rfl rfl rfl (zu some (decide_eq_false (by omega))),zo⟩,⟨m6 (amT kem l l.length).g rfl rfl rfl,zo⟩,⟨lR rfl rfl rfl (decide_eq_true n),zo⟩,⟨fx (amT kem l l.length).g rfl rfl rfl rfl hO,zo⟩,⟨io rfl rfl,zo⟩,⟨fx (amT kem l l.length).g rfl rfl rfl rfl hQ,zo⟩,⟨kf (by decide) (amT kem l l.length).g rfl rfl rfl rfl,zo⟩,⟨n9 rfl rfl,zo⟩,zo⟩ λac g w hS=> ?_;refine wp_ret ?_;exact bv hS.f.frm (bw Tryd.results11 (RV.tmp hS.f.frm rfl)) ⟨hS.gr0,rfl⟩
theorem n_ {l:List Ac} {kem:Bool} {v:Value} (w0:World) (hT:T0 w0) (hv:(acS l).hold ⟨[],[],[0],[]⟩ w0 v):Calls Tryd.prog 11 (List.toArray [.bool kem,v]) w0 (Ret λv w'=>v= .bool true/\Gr w0 w'):=by
 have hX:∀x,x∈[0]->x<w0.heap.size:=λx hx=>by rw[zt.1 hx];exact hT.size
 have fin:Calls Tryd.prog 11 (List.toArray [.bool kem,v]) w0 (Ret λv w'=>Gr w0 w'/\v= .bool true)->Calls Tryd.prog 11 (List.toArray [.bool kem,v]) w0 (Ret λv w'=>v= .bool true/\Gr w0 w'):=λh=>h.mono λen w' ⟨v,h1,h2,h3⟩=>⟨v,h1,h3,h2⟩;by_cases h:65<l.length
 ·exact fin (v8 w0 hX (by simp) hT hv h)
 ·exact fin (v7 w0 hX (by simp) hT hv (by omega))
end Go.Mi.Term
