/- General lemmas, walks. -/
import Derived.Deep.Grids
import Derived.Test.YtmkplecnmklbfaaGreatJ8PPlays
set_option maxRecDepth 100000
set_option maxHeartbeats 1000000
set_option linter.unusedSimpArgs false
set_option linter.unusedVariables false
set_option linter.unnecessarySimpa false
set_option linter.unusedSectionVars false
namespace Go.Sx.Tryz
open Go.Mi Go.RowKit Go.Sx Go.Proofs Go.Proofs.Tryz
noncomputable section
open List (map_congr_left)
structure Wy (M:Nat->Ad) (A:Ad) (mf:Nat->Nat) (g:Nat->Nat×Nat) (top n cur:Nat) (ik:Ad) (ii lD:Nat) (kl:List KR) (i:Nat) (j:List Nat):Prop where
 ik:ik=Am A i
 ii:ii=i
 le:i<=n
 R:RI i j
 kl:kl=j.map (Ix M A g)
 g:∀k,k<i->(g k).1<=mf k/\mf k<(g k).1+(g k).2/\(g k).1+(g k).2<=top
 mono:∀k k',k<=k'->k'<n->mf k<=mf k'
 lD:lD<=cur/\∀k,i<=k->k<n->lD<=mf k
 cu:∀k,k<n->mf k<=cur
 top:cur<top
section
variable {M:Nat->Ad} {A:Ad} {mf:Nat->Nat} {g:Nat->Nat×Nat} {top n cur:Nat} {ik:Ad} {ii lD:Nat} {kl:List KR} {i:Nat} {j:List Nat}
theorem Wy.snd (h:Wy M A mf g top n cur ik ii lD kl i j):Wy M A (λk=>if k=n then cur else mf k) g top (n+1) cur ik ii lD kl i j:=by
 have hle:=h.le
 have key:∀k,k<n+1->(if k=n then cur else mf k)<=cur:=λk hk=>by
  split
  ·exact an _
  ·exact h.cu k Ac
 refine⟨h.ik,h.ii,by omega,h.R,h.kl,λk hk=>by show _<=(if _ then _ else _)/\(if _ then _ else _)<_/\_;rw[aj Ac];exact h.g k hk,λk k' h1 h2=> ?_,⟨h.lD.1,λk h1 h2=> ?_⟩,key,h.top⟩
 ·show(if k=n then cur else mf k)<=if k'=n then cur else mf k'
  by_cases hk:k'=n
  ·rw[ah hk];exact key k Ac
  ·rw[aj hk,aj Ac];exact h.mono k k' h1 Ac
 ·show lD<=if k=n then cur else mf k
  split
  ·exact h.lD.1
  ·exact h.lD.2 k h1 Ac
theorem Ab5 {M M':Nat->Ad} {c:Nat} (hM:∀x,x<c->M' x=M x) (A:Ad) {g:Nat->Nat×Nat} {k:Nat} (h:(g k).1+(g k).2<=c):Ix M' A g k=Ix M A g k:=by
 unfold Ix qM
 rw[map_congr_left λx hx=>by rw[hM x (by have :=(List.mem_range'_1.1 hx).2;omega)]]
theorem Wy.up (h:Wy M A mf g top n cur ik ii lD kl i j) {M':Nat->Ad} {top' cur':Nat} (hM:∀x,x<top->M' x=M x) (h1:top<=top') (h2:cur<=cur') (h3:cur'<top'):Wy M' A mf g top' n cur' ik ii lD kl i j:=
 ⟨h.ik,h.ii,h.le,h.R,h.kl.trans (map_congr_left λk hk=>(Ab5 hM A (h.g k (h.R.lt k hk)).2.2).symm),λk hk=>by have :=h.g k hk;omega,h.mono,⟨by have :=h.lD.1;omega,h.lD.2⟩,λk hk=>by have :=h.cu k hk;omega,h3⟩
theorem Wy.gIn (h:Wy M A mf g top n cur ik ii lD kl i j) {k:Nat} (hk:k<n) {t:Nat} (ht:top<=t):gIn g ii lD t k (mf k):=by
 have h1:=h.top;have h2:=h.cu k hk;have h3:=h.ii
 exact⟨λq=>by have :=h.g k Ac;omega,λq=>⟨h.lD.2 k Ac hk,by omega⟩⟩
theorem Wy.rcv (h:Wy M A mf g top n cur ik ii lD kl i j) {k:Nat} (hk:k<n):Wy M A mf (gN g ii lD (mf k)) top n cur (Am A (nI ii k)) (nI ii k) (if k<ii then lD else mf k) ((nJ ii j k).map (Ix M A (gN g ii lD (mf k)))) (nI i k) (nJ i j k):=by
 have h3:=h.ii
 subst h3
 have h1:=h.top;have h2:=h.cu k hk;have h4:=h.le
 refine⟨rfl,rfl,?_,h.R.next,rfl,λx hx=> ?_,h.mono,?_,h.cu,h1⟩
 ·unfold nI;split<;>omega
 ·unfold gN
  by_cases hx2:x<ii
  ·rw[ah hx2];exact h.g x hx2
  ·have hki:¬k<ii:=λq=>by unfold nI at hx;rw[ah q]at hx;exact hx2 hx
   unfold nI at hx
   rw[aj hki]at hx
   rw[aj hx2]
   have a1:=h.lD.2 x Ac Ac
   have a2:=h.mono x k Ac hk
   show lD<=mf x/\mf x<lD+(mf k+1-lD)/\lD+(mf k+1-lD)<=top
   omega
 ·unfold nI
  by_cases hki:k<ii
  ·rw[ah hki,ah hki];exact h.lD
  ·rw[aj hki,aj hki]
   exact⟨h2,λx q1 q2=>h.mono k x Ac q2⟩
end
def Rw (M:Nat->Ad) (A B:Ad) (mA mB:Nat->Nat) (na ea:Nat) (ta:Ad) (nb sb eb:Nat) (tb:Ad) (x:Int×Int×Ad×Ad):Prop:=∃(n:Nat) (tT q:Ad),tT.length<=500/\By tT/\
 ((x=((0:Int),(n:Int),tT,Uy (Am A n) (M (mA n)) n (mA n) (mA n) q tT)/\n<na/\(q=[]\/∃pa d,q=B7 (2*mA n) pa 2 d/\fR ea ta (mA n) pa d))
 \/(∃l,x=((1:Int),(n:Int),tT,Uy (Am B n) (M (mB n)) n (mB n) l q tT)/\n<nb/\l<=ea+1/\(q=[]\/∃e pa d,q=B7 (2*e+1) pa 2 d/\xQ sb eb tb e pa d)))
theorem Rw.up {M : Nat -> Ad} {A B : Ad} {mA mB : Nat -> Nat} {na ea : Nat} {ta : Ad} {nb sb eb : Nat} {tb : Ad} {x : Int × Int × Ad × Ad} (h : Rw M A B mA mB na ea ta nb sb eb tb x) {M' : Nat -> Ad} {mA' mB' : Nat -> Nat} {na' ea' : Nat} {ta' : Ad} {nb' sb' eb' : Nat} {tb' : Ad} (c : Nat) (hM : ∀ j, j <= c -> M' j = M j)
  (hA:∀n,n<na->mA' n=mA n/\mA n<=c) (hB:∀n,n<nb->mB' n=mB n/\mB n<=c) (h1:na<=na'/\nb<=nb'/\ea<=ea') (hpA:∀e pa d,fR ea ta e pa d->fR ea' ta' e pa d) (hpB:∀e pa d,xQ sb eb tb e pa d->xQ sb' eb' tb' e pa d):Rw M' A B mA' mB' na' ea' ta' nb' sb' eb' tb' x:=by
 obtain⟨n,tT,q,ht,hy,k⟩:=h
 refine⟨n,tT,q,ht,hy,?_⟩
 rcases k with⟨e1,e2,e3⟩|⟨l,e1,e2,e3,e4⟩
 ·obtain⟨q1,q2⟩:=hA n e2
  exact .inl ⟨by rw[q1,hM _ q2];exact e1,by omega,e3.imp (λq=>q) λ⟨pa,d,r1,r2⟩=>⟨pa,d,by rw[q1];exact r1,by rw[q1];exact hpA _ _ _ r2⟩⟩
 ·obtain⟨q1,q2⟩:=hB n e2
  exact .inr ⟨l,by rw[q1,hM _ q2];exact e1,by omega,by omega,e4.imp (λq=>q) λ⟨e,pa,d,r1,r2⟩=>⟨e,pa,d,r1,hpB _ _ _ r2⟩⟩
structure JN (T:Nat) (A B:Ad) (M:Nat->Ad) (mA mB:Nat->Nat) (gA gB:Nat->Nat×Nat) (p:PS):Prop where
 id:p.ida=p.idb/\p.ida.length=32
 lA:A.length=32
 lB:B.length=32
 ok:p.a.ok=Am A p.na/\p.b.ok=Am B p.nb
 oi:p.a.oi=p.na/\p.b.oi=p.nb
 wa:Wy M A mA gA (p.a.ep+1) p.na p.a.ep p.b.ik p.b.ii p.b.lD p.b.kl p.ia p.ja
 wb:Wy M B mB gB (p.a.ep+1) p.nb p.b.tD p.a.ik p.a.ii p.a.lD p.a.kl p.ib p.jb
 t:p.na+p.nb<=T/\p.fl.length<=T
 ea:p.a.lT+p.a.mx.length=p.a.ep+1
 eb:p.b.lT+p.b.mx.length=Xq p.b.st p.b.ep+1
 m32:∀j,(M j).length=32
 ma:MI M p.a.lT p.a.mx
 mb:MI M p.b.lT p.b.mx
 la:p.a.lT<=p.a.lD
 lb:p.b.lT<=p.b.lD/\p.b.lT<=p.b.tD/\p.b.tD<=p.a.ep
 ta:p.a.tD<=p.a.ep+1
 st:p.a.st=1
 kj:KJ p.a.ep p.a.sd p.a.tx p.a.bx p.b.st p.b.ep p.b.tx p.b.bx
 sd:p.b.sd=[]
 rida:p.a.rD=2*p.a.ep+1/\p.a.rT=1088
 ridb:p.b.rD=2*p.b.ep/\p.b.rT=1184
 aD:p.a.aD<=T/\p.b.aD<=T
 ep:p.a.ep<=T
 fl:∀x∈p.fl,Rw M A B mA mB p.na p.a.ep p.a.tx p.nb p.b.st p.b.ep p.b.tx x
section
variable {T:Nat} {A B:Ad} {M:Nat->Ad} {mA mB:Nat->Nat} {gA gB:Nat->Nat×Nat} {p:PS}
theorem JN.up (h:JN T A B M mA mB gA gB p):JN (T+1) A B M mA mB gA gB p:=by
 have e1:=h.t;have e2:=h.aD;have e3:=h.ep
 exact⟨h.id,h.lA,h.lB,h.ok,h.oi,h.wa,h.wb,by omega,h.ea,h.eb,h.m32,h.ma,h.mb,h.la,h.lb,h.ta,h.st,h.kj,h.sd,h.rida,h.ridb,by omega,by omega,h.fl⟩
theorem JN.kr (h:JN T A B M mA mB gA gB p) (hT:T<=10000):KRd p.a.ii p.a.kl/\KRd p.b.ii p.b.kl:=by
 have e1:=h.ep;have e2:=h.t;have e3:=h.wa.le;have e4:=h.wb.le
 rw[h.wa.ii,h.wb.ii,h.wa.kl,h.wb.kl]
 exact⟨Uo _ h.wb.R Ac λj hj=>by have :=h.wb.g j hj;omega,Uo _ h.wa.R Ac λj hj=>by have :=h.wa.g j hj;omega⟩
theorem JN.eok (h:JN T A B M mA mB gA gB p) (hT:T<=10000):EOk true p.a/\EOk false p.b:=by
 obtain⟨k1,k2,k3,k4,k5,k6,k7,k8,k9⟩:=h.kj.ne
 have e1:=h.oi;have e2:=h.wa.ii;have e3:=h.t;have e4:=h.ea;have e5:=h.eb;have e6:=h.la;have e7:=h.lb;have e8:=h.ta;have e9:=h.aD;have e10:=h.ep;have e11:=h.st;have e12:=h.rida;have e13:=h.ridb;have p1:=h.ma.pos;have p2:=h.mb.pos;have e14:=h.wb.ii;have e15:=h.wa.le;have e16:=h.wb.le;have e17:=h.wa.lD.1;have e18:=h.wb.lD.1
 have hK:=h.kr hT
 refine⟨⟨⟨by rw[h.ok.1];exact Cf h.lA _,by rw[h.wb.ik];exact Cf h.lB _,by omega,by omega,⟨p1,by omega⟩,h.ma.m2 h.m32,by omega,?_,.inl e11,by omega,by omega,⟨λ_=>k9,by omega⟩,by omega⟩,hK.1.KOk Ac,⟨by omega,by omega⟩,by omega,by rw[ah e11];exact e12.2,by rw[ah e11];exact e12.1,k5⟩,
  ⟨⟨by rw[h.ok.2];exact Cf h.lB _,by rw[h.wa.ik];exact Cf h.lA _,by omega,by omega,⟨p2,by omega⟩,h.mb.m2 h.m32,by omega,?_,by omega,by omega,by omega,⟨by omega,k7⟩,?_⟩,hK.2.KOk Ac,⟨by omega,by omega⟩,by omega,by rw[aj Ac];exact e13.2,by rw[aj Ac];exact e13.1,k6⟩⟩
 ·unfold A6;rw[ah rfl];omega
 ·unfold A6;rw[aj (by decide)];omega
 ·rcases k1 with k|k
  ·rw[k8 k];exact bw _
  ·rw[k7 k];decide
theorem JN.lde (h:JN T A B M mA mB gA gB p) (hT:T<=10000):LdE true p.ida p.a/\LdE false p.idb p.b:=by
 obtain⟨oa,ob⟩:=h.eok hT
 obtain⟨k1,k2,k3,k4,k5,k6,k7,k8,k9⟩:=h.kj.ne
 have e1:=h.oi;have e2:=h.wa.ii;have e3:=h.t;have e4:=h.ea;have e5:=h.eb;have e6:=h.la;have e7:=h.lb;have e8:=h.ta;have e9:=h.aD;have e10:=h.ep;have p1:=h.ma.pos;have p2:=h.mb.pos;have e14:=h.wb.ii;have e15:=h.wa.le;have e16:=h.wb.le;have e17:=h.wa.lD.1;have e18:=h.wb.lD.1
 have hK:=h.kr hT
 have m32:∀{lT:Nat} {mx:AZ},MI M lT mx->∀j,j<mx.length->(mx.getD j AW).length=32:=λhm j hj=>by
  show(mg _ j).length=32
  rw[hm.aD j hj];exact h.m32 _
 have l:=h.kj.ld
 have la:LdOk p.a.st p.a.ep p.a.sd p.a.tx p.a.rD p.a.rT p.a.bx:=by rw[h.st,h.rida.1,h.rida.2];exact l.1
 have lb:LdOk p.b.st p.b.ep p.b.sd p.b.tx p.b.rD p.b.rT p.b.bx:=by rw[h.sd,h.ridb.1,h.ridb.2];exact l.2
 exact⟨⟨h.id.2,oa.ok,oa.ik,⟨by omega,by omega,by omega,by omega,by omega⟩,⟨p1,by omega⟩,m32 h.ma,⟨e6,by omega,oa.mn⟩,hK.1,⟨by omega,by omega⟩,la⟩,
  ⟨by rw[<-h.id.1];exact h.id.2,ob.ok,ob.ik,⟨by omega,by omega,by omega,by omega,by omega⟩,⟨p2,by omega⟩,m32 h.mb,⟨e7.1,by omega,ob.mn⟩,hK.2,⟨by omega,by omega⟩,lb⟩⟩
theorem nQ {n m l:Nat} {ok mix q tT:Ad} (h:n<=2000000/\m<=2000000/\l<=2000000) (hq:q.length<=1040) (ht:tT.length<=500):(Uy ok mix n m l q tT).length<=50000:=ca (NC ⟨by omega,by omega,by omega⟩ hq ht).2 (by decide)
theorem JN.sqA (hy:Bool) (h:JN T A B M mA mB gA gB p) (hT:T<=9000) {tT rQ:Ad} (ht:tT.length<=500) (hb:By tT) (hr:rQ.length=128):JN (T+1) A B M (λk=>if k=p.na then p.a.ep else mA k) mB gA gB (p.sqA hy tT rQ):=by
 obtain⟨a,s,t,q,hpc,ha,hk,hq,hup⟩:∃a s t q,p.a.pq hy rQ=(a,s,t,q)/\a<=p.a.aD+1/\KJ p.a.ep s t p.a.bx p.b.st p.b.ep p.b.tx p.b.bx/\(q=[]\/∃pa d,q=B7 (2*p.a.ep) pa 2 d/\fR p.a.ep t p.a.ep pa d)/\∀e pa d,fR p.a.ep p.a.tx e pa d->fR p.a.ep t e pa d:=by
  cases hy
  ·exact⟨_,_,_,_,rfl,Nat.le_succ _,h.kj,.inl rfl,λ_ _ _ q=>q⟩
  ·obtain⟨s,t,d,ho,hk,hd,hup⟩:=h.kj.outA p.a.aD p.a.rD p.a.rT (r:=rQ.take 64) (by rw[ap];omega)
   exact⟨_,s,t,_,by show p.a.pc rQ=_;unfold EndH.pc;rw[h.st];exact ho,an _,hk,.inr ⟨_,d,rfl,hd⟩,hup⟩
 have e1:=h.t;have e2:=h.aD;have e3:=h.ep;have e4:=h.ea;have e5:=h.oi;have e6:=h.wa.lD.1;have p1:=h.ma.pos
 have hnum:p.a.num true=p.a.ep:=by unfold EndH.num A6;rw[ah rfl];omega
 have hF:p.a.fq hy true tT rQ=Uy (Am A p.na) (M p.a.ep) p.na p.a.ep p.a.ep q tT:=by
  unfold EndH.fq
  rw[hnum,hpc,h.ok.1,e5.1,show p.a.lT+p.a.mx.length-1=p.a.ep by omega,h.ma.out (by have :=h.la;omega) Ac]
 refine⟨h.id,h.lA,h.lB,⟨?_,h.ok.2⟩,⟨?_,e5.2⟩,h.wa.snd,h.wb,⟨?_,?_⟩,e4,h.eb,h.m32,h.ma,h.mb,h.la,h.lb,h.ta,h.st,?_,h.sd,h.rida,h.ridb,⟨?_,?_⟩,?_,λx hx=> ?_⟩
 ·show Sb p.a.ok=Am A (p.na+1);rw[h.ok.1];rfl
 ·show p.a.oi+1=p.na+1;omega
 ·show p.na+1+p.nb<=T+1;omega
 ·show(p.fl++[_]).length<=T+1;rw[ab,List.length_singleton];omega
 ·show KJ p.a.ep (p.a.pq hy rQ).2.1 (p.a.pq hy rQ).2.2.1 p.a.bx p.b.st p.b.ep p.b.tx p.b.bx
  rw[hpc];exact hk
 ·show(p.a.pq hy rQ).1<=T+1
  rw[hpc];show a<=T+1;omega
 ·show p.b.aD<=T+1;omega
 ·show p.a.ep<=T+1;omega
 ·show Rw M A B _ mB (p.na+1) p.a.ep (p.a.pq hy rQ).2.2.1 p.nb p.b.st p.b.ep p.b.tx x
  rw[hpc]
  rcases bo.1 hx with hx|hx
  ·exact(h.fl x hx).up p.a.ep (λ_ _=>rfl) (λn hn=>⟨aj Ac,h.wa.cu n hn⟩) (λn hn=>⟨rfl,by have :=h.wb.cu n hn;have :=h.lb;omega⟩) ⟨by omega,an _,an _⟩ hup λ_ _ _ q=>q
  ·have e0:(λk=>if k=p.na then p.a.ep else mA k) p.na=p.a.ep:=ah rfl
   refine⟨p.na,tT,q,ht,hb,.inl ⟨?_,dn _,by rw[e0];exact hq⟩⟩
   rw[bn.1 hx,hF,e5.1,e0]
theorem JN.sqB (hy:Bool) (h:JN T A B M mA mB gA gB p) (hT:T<=9000) {tT rQ:Ad} (ht:tT.length<=500) (hb:By tT) (hr:rQ.length=128):JN (T+1) A B M mA (λk=>if k=p.nb then p.b.tD else mB k) gA gB (p.sqB hy tT rQ):=by
 obtain⟨a,q,hpc,ha,hq⟩:∃a q,p.b.pq hy rQ=(a,p.b.sd,p.b.tx,q)/\a<=p.b.aD+1/\(q=[]\/∃pa d,q=B7 (2*p.b.ep+1) pa 2 d/\xQ p.b.st p.b.ep p.b.tx p.b.ep pa d):=by
  cases hy
  ·exact⟨_,_,rfl,Nat.le_succ _,.inl rfl⟩
  ·exact h.kj.outB p.b.aD p.b.sd p.b.rD p.b.rT (rQ.take 64)
 obtain⟨k1,k2,k3,k4,k5,k6,k7,k8,k9⟩:=h.kj.ne
 have e1:=h.t;have e2:=h.aD;have e3:=h.ep;have e4:=h.eb;have e5:=h.oi;have e6:=h.lb;have p1:=h.mb.pos
 have hnum:p.b.num false=p.b.tD:=by unfold EndH.num A6;rw[aj (by decide)];omega
 have hF:p.b.fq hy false tT rQ=Uy (Am B p.nb) (M p.b.tD) p.nb p.b.tD (Xq p.b.st p.b.ep) q tT:=by
  unfold EndH.fq
  rw[hnum,hpc,h.ok.2,e5.2,show p.b.lT+p.b.mx.length-1=Xq p.b.st p.b.ep by omega,h.mb.out Ac Ac]
 refine⟨h.id,h.lA,h.lB,⟨h.ok.1,?_⟩,⟨e5.1,?_⟩,h.wa,h.wb.snd,⟨?_,?_⟩,h.ea,e4,h.m32,h.ma,h.mb,h.la,e6,h.ta,h.st,?_,?_,h.rida,h.ridb,⟨?_,?_⟩,?_,λx hx=> ?_⟩
 ·show Sb p.b.ok=Am B (p.nb+1);rw[h.ok.2];rfl
 ·show p.b.oi+1=p.nb+1;omega
 ·show p.na+(p.nb+1)<=T+1;omega
 ·show(p.fl++[_]).length<=T+1;rw[ab,List.length_singleton];omega
 ·show KJ p.a.ep p.a.sd p.a.tx p.a.bx p.b.st p.b.ep (p.b.pq hy rQ).2.2.1 p.b.bx
  rw[hpc];exact h.kj
 ·show(p.b.pq hy rQ).2.1=[]
  rw[hpc];exact h.sd
 ·show p.a.aD<=T+1;omega
 ·show(p.b.pq hy rQ).1<=T+1
  rw[hpc];show a<=T+1;omega
 ·show p.a.ep<=T+1;omega
 ·show Rw M A B mA _ p.na p.a.ep p.a.tx (p.nb+1) p.b.st p.b.ep (p.b.pq hy rQ).2.2.1 x
  rw[hpc]
  rcases bo.1 hx with hx|hx
  ·exact(h.fl x hx).up p.a.ep (λ_ _=>rfl) (λn hn=>⟨rfl,h.wa.cu n hn⟩) (λn hn=>⟨aj Ac,by have :=h.wb.cu n hn;omega⟩) ⟨an _,by omega,an _⟩ (λ_ _ _ q=>q) λ_ _ _ q=>q
  ·have e0:(λk=>if k=p.nb then p.b.tD else mB k) p.nb=p.b.tD:=ah rfl
   refine⟨p.nb,tT,q,ht,hb,.inr ⟨Xq p.b.st p.b.ep,?_,dn _,k3,hq.imp (λq=>q) λ⟨pa,d,q1,q2⟩=>⟨_,pa,d,q1,q2⟩⟩⟩
   rw[bn.1 hx,hF,e5.2,e0]
theorem JN.agr (h:JN T A B M mA mB gA gB p):SE p.ida p.idb p.a p.b=true:=by
 have e4:=h.ea;have e5:=h.eb;have e6:=h.lb;have e7:=h.la;have e8:=h.wa.lD.1;have e9:=h.wb.lD.1;have k:=h.kj.ne;have p1:=h.ma.pos;have p2:=h.mb.pos
 unfold SE
 unfold T0;rw[Ab]
 rw[ah h.id.1,aj Ac,aj Ac]
 refine decide_eq_true ?_
 rw[h.ma.out Ac Ac,h.mb.out Ac Ac]
end
theorem ZR (mx:AZ) {ks:AZ} (h:ks.length<=1):mx.length<=(Nm mx ks).length:=by
 match ks,h with
 |[],_=>exact an _
 |[k],_=>show _<=(mx++[_]).length;rw[ab];omega
structure Aap (hy:Bool) (id:Ad) (fi:Bool) (e:EndH) (i:Nat) (j:List Nat) (rQ:Ad) (n:Nat) (tT fr:Ad) (e2:EndH):Prop where
 G:bB hy id fi e fr rQ e2 tT n
 I:e2.ii=nI i n
 J:O5 e2.kl=ints (nJ i j n)
 E:EOk fi e2
section
variable {T:Nat} {A B:Ad} {M:Nat->Ad} {mA mB:Nat->Nat} {gA gB:Nat->Nat×Nat} {p:PS}
theorem JN.dqA (hy : Bool) (h : JN T A B M mA mB gA gB p) (hT : T <= 9000) {n : Nat} {tT q r2 : Ad} (ht : tT.length <= 500) (hb : By tT) (hn : n < p.na) (hd : q = [] \/ ∃ pa d, q = B7 (2 * mA n) pa 2 d /\ fR p.a.ep p.a.tx (mA n) pa d) (hs : EN p.ia p.ja n = true) :
  ∃e2 M2 gA2,Aap hy p.idb false p.b p.ia p.ja r2 n tT (Uy (Am A n) (M (mA n)) n (mA n) (mA n) q tT) e2/\JN T A B M2 mA mB gA2 gB (p.dlvA e2 n):=by
 have k:=h.kj.ne
 have e1:=h.t;have e2:=h.aD;have e3:=h.ep;have e4:=h.ea;have e5:=h.eb;have e6:=h.lb;have e7:=h.wa.lD;have e8:=h.wa.ii;have e9:=h.wa.le;have e10:=h.wa.cu n hn;have p2:=h.mb.pos
 have hg:=h.wa.gIn hn (t:=p.b.lT+p.b.mx.length) Ac
 rw[<-e8]at hs
 have hR:RI p.b.ii p.ja:=by rw[e8];exact h.wa.R
 have hla:(if n<p.b.ii then p.b.lD else mA n)<=p.a.ep/\p.b.lD<=(if n<p.b.ii then p.b.lD else mA n):=by
  split
  ·exact⟨e7.1,an _⟩
  ·exact⟨e10,e7.2 n Ac hn⟩
 have hw:=h.wa.rcv hn
 obtain ⟨lT, mx, M2, s2, ep2, a2, t2, b2, hG, hk2, ha2, hup, hM2, h32, hMI, hl1, hl2, hle⟩ : ∃ lT mx M2 s2 ep2 a2 t2 b2, bB hy p.idb false p.b (Uy (Am A n) (M (mA n)) n (mA n) (mA n) q tT) r2 (p.b.gotQ A (nI p.b.ii n) (mA n) (if n < p.b.ii then p.b.lD else mA n) ((nJ p.b.ii p.ja n).map (Ix M A (gN gA p.b.ii p.b.lD (mA n)))) lT mx (s2, ep2, a2, [], t2, 2 * ep2, 1184, b2, [])) tT n
   /\KJ p.a.ep p.a.sd p.a.tx p.a.bx s2 ep2 t2 b2/\a2<=p.b.aD/\(∀e pa d,xQ p.b.st p.b.ep p.b.tx e pa d->xQ s2 ep2 t2 e pa d)/\(∀x,x<p.a.ep+1->M2 x=M x)/\(∀j,(M2 j).length=32)/\MI M2 lT mx/\lT<=(if n<p.b.ii then p.b.lD else mA n)/\lT<=max p.b.tD (mA n)/\lT+mx.length=Xq s2 ep2+1:=by
  cases hy
  ·have hql : q.length <= 1040 := by
    rcases hd with rfl|⟨pa,d,rfl,hd⟩
    ·exact bw _
    ·exact HB ⟨by omega,by have :=hd.2.1;omega,by decide⟩ (by have :=hd.2.2.1;omega)
   have hG:=bW p.idb false (pc:=q) r2 (n:=n) (l:=mA n) (by rw[e8];exact h.wa.ik) h.wa.kl h.mb hR e6.1 hg hs ⟨by omega,by omega,by omega⟩ hql ht hb
   rw[h.sd,h.ridb.1,h.ridb.2]at hG
   exact⟨_,_,M,_,_,_,_,_,hG,h.kj,an _,λ_ _ _ q=>q,λ_ _=>rfl,h.m32,h.mb,by omega,by omega,e5⟩
  ·obtain ⟨pid, pa, d, hpk, hql, s2, ep2, a2, t2, b2, ks, hX, hk2, ha2, hn2, hks, hup⟩ : ∃ pid pa d, R4 p.b.st p.b.ep [] p.b.tx p.b.bx q pid pa d /\ q.length <= 1040 /\ ∃ s ep a t b ks, F5 p.b.st p.b.ep p.b.aD [] p.b.tx (2 * p.b.ep) 1184 p.b.bx q pid pa d (r2.drop 64) = (s, ep, a, [], t, 2 * ep, 1184, b, ks)
     /\KJ p.a.ep p.a.sd p.a.tx p.a.bx s ep t b/\a<=p.b.aD/\Xq s ep=Xq p.b.st p.b.ep+ks.length/\ks.length<=1/\∀e pa d,xQ p.b.st p.b.ep p.b.tx e pa d->xQ s ep t e pa d:=by
    rcases hd with rfl|⟨pa,d,rfl,hd⟩
    ·exact⟨0,0,[],.inl rfl,bw _,_,_,_,_,_,[],Z8 ..,h.kj,an _,rfl,bw _,λ_ _ _ q=>q⟩
    ·obtain⟨i1,i2⟩:=h.kj.inB Ac hd p.b.aD (r2.drop 64)
     exact⟨_,_,_,i1,HB ⟨by omega,by have :=hd.2.1;omega,by decide⟩ (by have :=hd.2.2.1;omega),i2⟩
   have hG:=ZA p.idb false r2 (n:=n) (l:=mA n) (by rw[e8];exact h.wa.ik) h.wa.kl h.mb hR e6.1 hg hs ⟨by omega,by omega,by omega⟩ hql ht hb (by rw[h.sd];exact hpk)
   rw[h.sd,h.ridb.1,h.ridb.2,hX]at hG
   generalize hlo:(if n<p.b.ii then p.b.lD else mA n)=lo at *
   have hml:=ZR p.b.mx hks
   have hmn:p.b.lT<=A6 false p.b.lT (Nm p.b.mx ks).length (max p.b.tD (mA n)):=by
    unfold A6;rw[aj (by decide)];omega
   obtain⟨hml,M2,hM,h32,hMI,hlw,hle⟩:=h.mb.put h.m32 false lo (max p.b.tD (mA n)) ks hks Ac Ac hmn
   have hlw2:(EF false p.b.lT p.b.mx lo (max p.b.tD (mA n)) ks).1<=lo/\(EF false p.b.lT p.b.mx lo (max p.b.tD (mA n)) ks).1<=max p.b.tD (mA n):=by
    rw[hlw];unfold A6;rw[aj (by decide)];omega
   exact⟨(EF false p.b.lT p.b.mx lo (max p.b.tD (mA n)) ks).1,(EF false p.b.lT p.b.mx lo (max p.b.tD (mA n)) ks).2,M2,s2,ep2,a2,t2,b2,hG,hk2,ha2,hup,λx hx=>hM x Ac,h32,hMI,hlw2.1,hlw2.2,by omega⟩
 generalize hlo:(if n<p.b.ii then p.b.lD else mA n)=lo at *
 have JJ:JN T A B M2 mA mB (gN gA p.b.ii p.b.lD (mA n)) gB (p.dlvA (p.b.gotQ A (nI p.b.ii n) (mA n) lo ((nJ p.b.ii p.ja n).map (Ix M A (gN gA p.b.ii p.b.lD (mA n)))) lT mx (s2,ep2,a2,[],t2,2*ep2,1184,b2,[])) n):=by
  refine⟨h.id,h.lA,h.lB,h.ok,h.oi,?_,?_,e1,e4,hle,h32,h.ma.mono λj hj=>hM2 j Ac,hMI,h.la,⟨hl1,hl2,?_⟩,h.ta,h.st,hk2,rfl,h.rida,⟨rfl,rfl⟩,⟨e2.1,?_⟩,e3,λx hx=> ?_⟩
  ·show Wy M2 A mA _ (p.a.ep+1) p.na p.a.ep (Am A (nI p.b.ii n)) (nI p.b.ii n) lo ((nJ p.b.ii p.ja n).map _) (nI p.ia n) (nJ p.ia p.ja n)
   rw[<-e8]at hw⊢
   exact hw.up hM2 (an _) (an _) (dn _)
  ·show Wy M2 B mB gB (p.a.ep+1) p.nb (max p.b.tD (mA n)) p.a.ik p.a.ii p.a.lD p.a.kl p.ib p.jb
   exact h.wb.up hM2 (an _) Ac Ac
  ·show max p.b.tD (mA n)<=p.a.ep;omega
  ·show a2<=T;omega
  ·exact(h.fl x hx).up p.a.ep (λj hj=>hM2 j Ac) (λn hn=>⟨rfl,h.wa.cu n hn⟩) (λn hn=>⟨rfl,by have :=h.wb.cu n hn;omega⟩) ⟨an _,an _,an _⟩ (λ_ _ _ q=>q) hup
 refine⟨_,M2,_,⟨hG,?_,?_,(JJ.eok Ac).2⟩,JJ⟩
 ·show nI p.b.ii n=nI p.ia n;rw[e8]
 ·show O5 ((nJ p.b.ii p.ja n).map _)=_
  rw[Lh λ_=>rfl,e8]
theorem JN.dqB (hy : Bool) (h : JN T A B M mA mB gA gB p) (hT : T <= 9000) {n l : Nat} {tT q r2 : Ad} (ht : tT.length <= 500) (hb : By tT) (hn : n < p.nb) (hl : l <= p.a.ep + 1) (hd : q = [] \/ ∃ e pa d, q = B7 (2 * e + 1) pa 2 d /\ xQ p.b.st p.b.ep p.b.tx e pa d) (hs : EN p.ib p.jb n = true) :
  ∃e2 gB2,Aap hy p.ida true p.a p.ib p.jb r2 n tT (Uy (Am B n) (M (mB n)) n (mB n) l q tT) e2/\((hy=true->SE p.ida p.idb e2 p.b=true)->JN (T+1) A B M mA mB gA gB2 (p.dlvB e2 n)):=by
 have k:=h.kj.ne
 obtain⟨oa,ob⟩:=h.eok Ac
 have e1:=h.t;have e2:=h.aD;have e3:=h.ep;have e4:=h.ea;have e5:=h.eb;have e6:=h.lb;have e7:=h.wb.lD;have e8:=h.wb.ii;have e9:=h.wb.le;have e10:=h.wb.cu n hn;have e11:=h.la;have e12:=h.ta;have e13:=h.oi;have e14:=h.wa.lD;have p1:=h.ma.pos
 have hg:=h.wb.gIn hn (t:=p.a.lT+p.a.mx.length) Ac
 rw[<-e8]at hs
 have hR:RI p.a.ii p.jb:=by rw[e8];exact h.wb.R
 have hla:(if n<p.a.ii then p.a.lD else mB n)<=p.b.tD/\p.a.lD<=(if n<p.a.ii then p.a.lD else mB n):=by
  split
  ·exact⟨e7.1,an _⟩
  ·exact⟨e10,e7.2 n Ac hn⟩
 have hw:=h.wb.rcv hn
 have hwi:nI p.a.ii n<=1000000:=by have :=hw.le;rw[<-e8]at this;omega
 have hKK:KOk ((nJ p.a.ii p.jb n).map (Ix M B (gN gB p.a.ii p.a.lD (mB n)))):=by
  refine(Uo B (hR.next (i:=n)) hwi λj hj=> ?_).KOk Ac
  have :=hw.g j (by rw[<-e8];exact hj);omega
 obtain ⟨lT, mx, M2, ep2, a2, d2, t2, b2, hG, hk2, ha2, hep, hup, hM, h32, hMI, hl1, hle, hML⟩ : ∃ lT mx M2 ep2 a2 d2 t2 b2, bB hy p.ida true p.a (Uy (Am B n) (M (mB n)) n (mB n) l q tT) r2 (p.a.gotQ B (nI p.a.ii n) l (if n < p.a.ii then p.a.lD else mB n) ((nJ p.a.ii p.jb n).map (Ix M B (gN gB p.a.ii p.a.lD (mB n)))) lT mx (1, ep2, a2, d2, t2, 2 * ep2 + 1, 1088, b2, [])) tT n
   /\KJ ep2 d2 t2 b2 p.b.st p.b.ep p.b.tx p.b.bx/\a2<=p.a.aD/\(p.a.ep<=ep2/\ep2<=p.a.ep+1)/\(∀e pa d,fR p.a.ep p.a.tx e pa d->fR ep2 t2 e pa d)/\(∀j,j<p.a.lT+p.a.mx.length->M2 j=M j)/\(∀j,(M2 j).length=32)/\MI M2 lT mx/\lT<=(if n<p.a.ii then p.a.lD else mB n)/\lT+mx.length=ep2+1/\(hy=false->MI M lT mx):=by
  cases hy
  ·have hql : q.length <= 1040 := by
    rcases hd with rfl|⟨e,pa,d,rfl,hd⟩
    ·exact bw _
    ·exact HB ⟨by have :=hd.1;omega,by have :=hd.2.1;omega,by decide⟩ (by have :=hd.2.2.1;omega)
   have hG:=bW p.ida true (pc:=q) r2 (n:=n) (l:=l) (by rw[e8];exact h.wb.ik) h.wb.kl h.ma hR e11 hg hs ⟨by omega,by omega,by omega⟩ hql ht hb
   rw[h.st,h.rida.1,h.rida.2]at hG
   exact⟨_,_,M,_,_,_,_,_,hG,h.kj,an _,⟨an _,Nat.le_succ _⟩,λ_ _ _ q=>q,λ_ _=>rfl,h.m32,h.ma,by omega,e4,λ_=>h.ma⟩
  ·obtain ⟨pid, pa, d, hpk, hpl, ep2, a2, d2, t2, b2, ks, hX, hk2, ha2, hn2, hks, hup⟩ : ∃ pid pa d, R4 1 p.a.ep p.a.sd p.a.tx p.a.bx q pid pa d /\ q.length <= 1040 /\ ∃ ep2 a2 d2 t2 b2 ks, F5 1 p.a.ep p.a.aD p.a.sd p.a.tx (2 * p.a.ep + 1) 1088 p.a.bx q pid pa d (r2.drop 64) = (1, ep2, a2, d2, t2, 2 * ep2 + 1, 1088, b2, ks)
     /\KJ ep2 d2 t2 b2 p.b.st p.b.ep p.b.tx p.b.bx/\a2<=p.a.aD/\ep2=p.a.ep+ks.length/\ks.length<=1/\∀e pa d,fR p.a.ep p.a.tx e pa d->fR ep2 t2 e pa d:=by
    rcases hd with rfl|⟨e,pa,d,rfl,hd⟩
    ·exact⟨0,0,[],.inl rfl,bw _,p.a.ep,p.a.aD,p.a.sd,p.a.tx,p.a.bx,[],Z8 ..,h.kj,an _,rfl,bw _,λ_ _ _ q=>q⟩
    ·obtain⟨i1,i2⟩:=h.kj.inA Ac hd p.a.aD (r2.drop 64)
     exact⟨_,_,_,i1,HB ⟨by have :=hd.1;omega,by have :=hd.2.1;omega,by decide⟩ (by have :=hd.2.2.1;omega),i2⟩
   have hG:=ZA p.ida true r2 (n:=n) (l:=l) (by rw[e8];exact h.wb.ik) h.wb.kl h.ma hR e11 hg hs ⟨by omega,by omega,by omega⟩ hpl ht hb (by rw[h.st];exact hpk)
   rw[h.st,h.rida.1,h.rida.2,hX]at hG
   generalize hlo:(if n<p.a.ii then p.a.lD else mB n)=lo at *
   have hml:=ZR p.a.mx hks
   have hmn:p.a.lT<=A6 true p.a.lT (Nm p.a.mx ks).length (max p.a.tD l):=by
    unfold A6;rw[ah rfl];omega
   obtain⟨hml,M2,hM,h32,hMI,hlw,hle⟩:=h.ma.put h.m32 true lo (max p.a.tD l) ks hks Ac Ac hmn
   have hlw2:(EF true p.a.lT p.a.mx lo (max p.a.tD l) ks).1=lo:=by
    rw[hlw];unfold A6;rw[ah rfl];omega
   exact⟨(EF true p.a.lT p.a.mx lo (max p.a.tD l) ks).1,(EF true p.a.lT p.a.mx lo (max p.a.tD l) ks).2,M2,ep2,a2,d2,t2,b2,hG,hk2,ha2,⟨by omega,by omega⟩,hup,hM,h32,hMI,by omega,by omega,λq=>by cases q⟩
 generalize hlo:(if n<p.a.ii then p.a.lD else mB n)=lo at *
 have hkn:=hk2.ne
 have hmb:=hMI.pos
 refine⟨p.a.gotQ B (nI p.a.ii n) l lo ((nJ p.a.ii p.jb n).map (Ix M B (gN gB p.a.ii p.a.lD (mB n)))) lT mx (1,ep2,a2,d2,t2,2*ep2+1,1088,b2,[]),gN gB p.a.ii p.a.lD (mB n),⟨hG,?_,?_,?_⟩,λhag=> ?_⟩
 ·show nI p.a.ii n=nI p.ib n;rw[e8]
 ·show O5 ((nJ p.a.ii p.jb n).map _)=_
  rw[Lh λ_=>rfl,e8]
 ·refine⟨⟨oa.ok,Cf h.lB _,oa.oi,hwi,⟨hmb,?_⟩,hMI.m2 h32,?_,?_,.inl rfl,?_,?_,⟨λ_=>hkn.2.2.2.2.2.2.2.2,λe=>absurd (show(1:Nat)=3 from e) (by decide)⟩,?_⟩,hKK,⟨?_,?_⟩,?_,rfl,rfl,hkn.2.2.2.2.1⟩
  ·show mx.length<=80000;omega
  ·show lT<=10000000;omega
  ·show lT<=A6 true lT mx.length _
   unfold A6;rw[ah rfl]
   exact Nat.le_sub_one_of_lt (Nat.lt_add_of_pos_right hmb)
  ·show ep2<=100000000;omega
  ·show a2<=100000000;omega
  ·show t2.length<=10000;have :=hkn.2.2.2.2.2.2.2.2;omega
  ·show lT<=lo;omega
  ·show lo<=20000000;omega
  ·show max p.a.tD l<=20000000;omega
 ·have hML : MI M lT mx := by
   cases hy
   ·exact hML rfl
   ·have hag:=hag rfl
    unfold SE at hag
    unfold T0 at hag;rw[Ab]at hag
    rw[ah h.id.1]at hag
    have hag:(if((min (lT+mx.length-1) (p.b.lT+p.b.mx.length-1):Nat):Int)<(lT:Int)then true else(if((min (lT+mx.length-1) (p.b.lT+p.b.mx.length-1):Nat):Int)<((p.b.lT:Nat):Int)then true else decide ((mx.getD ((min (lT+mx.length-1) (p.b.lT+p.b.mx.length-1))-lT) AW)=(p.b.mx.getD ((min (lT+mx.length-1) (p.b.lT+p.b.mx.length-1))-p.b.lT) AW))))=true:=hag
    refine hMI.mono λj hj=> ?_
    rcases ci j (p.a.lT+p.a.mx.length)with hj2|hj2
    ·exact(hM j hj2).symm
    ·have hmin:min (lT+mx.length-1) (p.b.lT+p.b.mx.length-1)=j:=by omega
     rw[hmin,aj Ac,aj Ac]at hag
     have :=cj hag
     rw[hMI.out Ac Ac,h.mb.out Ac Ac]at this
     exact this.symm
  refine⟨h.id,h.lA,h.lB,h.ok,h.oi,?_,?_,⟨by show p.na+p.nb<=T+1;omega,by show p.fl.length<=T+1;omega⟩,hle,e5,h.m32,hML,h.mb,hl1,⟨e6.1,e6.2.1,?_⟩,?_,rfl,hk2,h.sd,⟨rfl,rfl⟩,h.ridb,⟨?_,?_⟩,?_,λx hx=> ?_⟩
  ·show Wy M A mA gA (ep2+1) p.na ep2 p.b.ik p.b.ii p.b.lD p.b.kl p.ia p.ja
   exact h.wa.up (λ_ _=>rfl) Ac Ac (dn _)
  ·show Wy M B mB _ (ep2+1) p.nb p.b.tD (Am B (nI p.a.ii n)) (nI p.a.ii n) lo ((nJ p.a.ii p.jb n).map _) (nI p.ib n) (nJ p.ib p.jb n)
   rw[<-e8]at hw⊢
   exact hw.up (λ_ _=>rfl) Ac (an _) Ac
  ·show p.b.tD<=ep2;omega
  ·show max p.a.tD l<=ep2+1;omega
  ·show a2<=T+1;omega
  ·show p.b.aD<=T+1;omega
  ·show ep2<=T+1;omega
  ·exact(h.fl x hx).up p.a.ep (λ_ _=>rfl) (λn hn=>⟨rfl,h.wa.cu n hn⟩) (λn hn=>⟨rfl,by have :=h.wb.cu n hn;omega⟩) ⟨an _,an _,show p.a.ep<=ep2 by omega⟩ hup λ_ _ _ q=>q
end
theorem y0 (rX:Ad):JN 0 (pA rX) (pB rX) (λ_=>pM rX) (λ_=>0) (λ_=>0) (λ_=>(0,0)) (λ_=>(0,0)) (Ih rX):=by
 have hm:∀(e:AZ),e=[pM rX]->MI (λ_=>pM rX) 0 e:=λe h=>by
  subst h
  exact⟨an 1,λi hi=>by
   have :i=0:=by simp at hi;omega
   subst this;rfl⟩
 have hw:∀X,Wy (λ_=>pM rX) X (λ_=>0) (λ_=>(0,0)) 1 0 0 X 0 0 [] 0 []:=λX=>⟨rfl,rfl,an _,R3 _,rfl,λk hk=>absurd hk (be k),λk k' _ hk=>absurd hk (be k'),⟨an _,λk _ _=>an _⟩,λk hk=>absurd hk (be k),dn 0⟩
 refine⟨⟨rfl,Kk ..⟩,Q0 _,QZ _,⟨rfl,rfl⟩,⟨rfl,rfl⟩,hw _,hw _,⟨an _,an _⟩,rfl,rfl,λ_=>XX _,hm _ rfl,hm _ rfl,an _,⟨an _,an _,an _⟩,bw _,rfl,⟨.inl ⟨rfl,rfl⟩,.inl ⟨rfl,rfl,rfl,rfl,Good.nil _ _ _,λ_=>rfl⟩,rfl,rfl⟩,rfl,⟨rfl,rfl⟩,⟨rfl,rfl⟩,⟨an _,an _⟩,an _,λx hx=>by cases hx⟩
def FV (hy:Bool) (p:PS) (kd who:Int) (n dr:Int) (raw:Ad) (q:PS):Con:=⟨[.cp 0 0,.ag (Jg [vi kd,vi who,vi n,vi dr,lb raw])],([(0,qE 1 6 p.na p.ia (ints p.ja) p.nb p.ib (ints p.jb) 11),(1,Abh p.ida true hy 2 3 (rP hy 4) p.a.lT p.a.mx p.a.lD p.a.tD p.a.kl),(2,Ag p.a.ok p.a.oi),(3,Ag p.a.ik p.a.ii)]++rH hy [(4,AL p.a.st p.a.ep p.a.aD p.a.sd p.a.tx 5),(5,AT p.a.rD p.a.rT p.a.bx)]++[(6,Abh p.idb false hy 7 8 (rP hy 9) p.b.lT p.b.mx p.b.lD p.b.tD p.b.kl),(7,Ag p.b.ok p.b.oi),(8,Ag p.b.ik p.b.ii)]++rH hy [(9,AL p.b.st p.b.ep p.b.aD p.b.sd p.b.tx 10),(10,AT p.b.rD p.b.rT p.b.bx)]++[(11,.sl 48 Bp p.fl)]),.tu (Jg [.v (.bool true),.v (.bool (!SE q.ida q.idb q.a q.b))]),([(0,qE 13 16 q.na q.ia (ints q.ja) q.nb q.ib (ints q.jb) 19),(13,Abh q.ida true hy 14 15 (rP hy 20) q.a.lT q.a.mx q.a.lD q.a.tD q.a.kl),(14,Ag q.a.ok q.a.oi),(15,Ag q.a.ik q.a.ii),(16,Abh q.idb false hy 17 18 (rP hy 22) q.b.lT q.b.mx q.b.lD q.b.tD q.b.kl),(17,Ag q.b.ok q.b.oi),(18,Ag q.b.ik q.b.ii),(19,.sl 48 Bp q.fl)]++rH hy [(20,AL q.a.st q.a.ep q.a.aD q.a.sd q.a.tx 21),(21,AT q.a.rD q.a.rT q.a.bx),(22,AL q.b.st q.b.ep q.b.aD q.b.sd q.b.tx 23),(23,AT q.b.rD q.b.rT q.b.bx)])⟩
theorem jR {hy:Bool} (ih:IsB hy) (p:PS) (kd who:Int) (n dr:Int) (raw:Ad) (q:PS) (hs:∀raw,AP 26 (FV hy p kd who n dr raw q)):AP 26 (FV hy p kd who n dr raw q):=hs raw
def JX (i:Nat) (p:PS):Prop:=∃A B M mA mB gA gB,JN i A B M mA mB gA gB p
theorem yZ (rX:Ad):JX 0 (Ih rX):=⟨_,_,_,_,_,_,_,y0 rX⟩
theorem JX.le {i:Nat} {p:PS} (h:JX i p):p.ia<=i/\p.ib<=i/\p.fl.length<=i:=by
 obtain⟨A,B,M,mA,mB,gA,gB,h⟩:=h
 have e1:=h.t;have e2:=h.wa.le;have e3:=h.wb.le
 omega
theorem JX.agr {i:Nat} {p:PS} (h:JX i p):SE p.ida p.idb p.a p.b=true:=by
 obtain⟨A,B,M,mA,mB,gA,gB,h⟩:=h
 exact h.agr
theorem JX.sh {i:Nat} {p:PS} (h:JX i p) (hi:i<=9000):(KOk p.a.kl/\p.a.ii=p.ib/\O5 p.a.kl=ints p.jb)/\KOk p.b.kl/\p.b.ii=p.ia/\O5 p.b.kl=ints p.ja:=by
 obtain⟨A,B,M,mA,mB,gA,gB,h⟩:=h
 obtain⟨oa,ob⟩:=h.eok Ac
 exact⟨⟨oa.K,h.wb.ii,by rw[h.wb.kl];exact Lh (λ_=>rfl) _⟩,ob.K,h.wa.ii,by rw[h.wa.kl];exact Lh (λ_=>rfl) _⟩
theorem tS {l:yW} {k:Nat} (h:k<l.length):l.getD k Bu∈l:=by
 show List.getD (α:=Int×Int×Ad×Ad) l k (0,0,[],[])∈l
 rw[al,am h];exact fv h
theorem JX.step {hy:Bool} (ih:IsB hy) {i:Nat} {p:PS} (h:JX i p) (hi:i<=1000) (kd who n dr:Int):∃q,(∀raw,AP 26 (FV hy p kd who n dr raw q))/\((hy=true->SE q.ida q.idb q.a q.b=true)->JX (i+1) q):=by
 obtain⟨A,B,M,mA,mB,gA,gB,h⟩:=h
 obtain⟨oa,ob⟩:=h.eok Ac
 have e1:=h.t;have e2:=h.wa.le;have e3:=h.wb.le;have e4:=h.ep
 have hr2:=D1 who (n:=2) (by decide)
 have hb:=IK (AK n 520) dr
 have up:JX (i+1) p:=⟨_,_,_,_,_,_,_,h.up⟩
 by_cases h1:kd=1
 ·subst h1
  have go:∀q,AP 14 (nR hy p q (AK who 2) (Ak (AK n 520) dr) (Al dr))->JX (i+1) q->∃q,(∀raw,AP 26 (FV hy p 1 who n dr raw q))/\((hy=true->SE q.ida q.idb q.a q.b=true)->JX (i+1) q):=λq hc hj=>by
   have hj2:=hj
   obtain⟨A,B,M,mA,mB,gA,gB,hj⟩:=hj
   obtain⟨ja,jb⟩:=hj.eok Ac
   exact⟨q,λraw=>oT ih p q who n dr raw hc ja.toSndOk jb.toSndOk,λ_=>hj2⟩
  by_cases h3:AK who 2=0
  ·by_cases h2:AK n 520<=500
   ·exact go _ (by rw[h3];exact nT ih p _ _ oa.toSndOk h.oi.1 Ac Ac (CL _)) ⟨_,_,_,_,_,_,_,h.sqA hy Ac Ac hb.2 (CL _)⟩
   ·exact go p (by rw[h3];exact lS ih p _ _ Ac (CL _)) up
  ·have h3:AK who 2=1:=by omega
   by_cases h2:AK n 520<=500
   ·exact go _ (by rw[h3];exact nS ih p _ _ ob.toSndOk h.oi.2 Ac Ac (CL _)) ⟨_,_,_,_,_,_,_,h.sqB hy Ac Ac hb.2 (CL _)⟩
   ·exact go p (by rw[h3];exact lR ih p _ _ Ac (CL _)) up
 ·by_cases h2:kd=2
  ·subst h2
   by_cases h3:p.fl.length=0
   ·exact⟨p,λraw=>nU ih p who n dr raw oa.toSndOk ob.toSndOk h3,λ_=>up⟩
   ·have hk:=D1 n (n:=p.fl.length) Ac
    obtain⟨m,t,q,k1,k2,⟨k3,k4,k5⟩|⟨l,k3,k4,k5,k6⟩⟩:=h.fl _ (tS hk)
    ·have c1:=h.wa.cu m k4
     have hql:q.length<=1040:=by
      rcases k5 with rfl|⟨pa,d,rfl,k5⟩
      ·exact bw _
      ·exact HB ⟨by omega,by have :=k5.2.1;omega,by decide⟩ (by have :=k5.2.2.1;omega)
     have hfl:=nQ (n:=m) (m:=mA m) (l:=mA m) (ok:=Am A m) (mix:=M (mA m)) ⟨by omega,by omega,by omega⟩ hql k1
     by_cases hs:EN p.ia p.ja m=true
     ·obtain⟨x2,M2,gA2,hD,hJ⟩:=h.dqA hy Ac (r2:=Al dr) k1 k2 k4 k5 hs
      exact⟨p.dlvA x2 m,λraw=>Tv ih p _ who n dr raw ⟨by omega,by omega⟩ (r9 ih p _ _ m t _ x2 ob hfl (CL _) k3 ⟨hk,by omega⟩ h.wa.R ⟨by omega,by omega⟩ hD.G hs hD.I hD.J hD.E.K) oa.toSndOk hD.E.toSndOk,λ_=>⟨_,_,_,_,_,_,_,hJ.up⟩⟩
     ·have hs:EN p.ia p.ja m=false:=by simpa using hs
      have hR:=Zw (id:=p.idb) (fi:=false) (l:=mA m) (M:=M) (tT:=t) (by rw[h.wa.ii];exact h.wa.ik) h.wa.kl (by rw[h.wa.ii];exact h.wa.R) (h.wa.gIn k4 (t:=p.b.lT+p.b.mx.length) (by have :=h.eb;have :=h.kj.ne;omega)) (by rw[h.wa.ii];exact hs) ⟨by omega,by omega,by omega⟩ hql k1
      rw[h.wa.ii]at hR
      exact⟨p,λraw=>Tv ih p _ who n dr raw ⟨by omega,by omega⟩ (nO ih p _ _ m t _ ob hfl (CL _) k3 ⟨hk,by omega⟩ h.wa.R ⟨by omega,by omega⟩ hR hs h.wa.ii (by rw[h.wa.kl];exact Lh (λ_=>rfl) _)) oa.toSndOk ob.toSndOk,λ_=>up⟩
    ·have c1:=h.wb.cu m k4;have c2:=h.lb
     have hql:q.length<=1040:=by
      rcases k6 with rfl|⟨e,pa,d,rfl,k6⟩
      ·exact bw _
      ·exact HB ⟨by have :=k6.1;have :=h.kj.ne;omega,by have :=k6.2.1;omega,by decide⟩ (by have :=k6.2.2.1;omega)
     have hfl:=nQ (n:=m) (m:=mB m) (l:=l) (ok:=Am B m) (mix:=M (mB m)) ⟨by omega,by omega,by omega⟩ hql k1
     by_cases hs:EN p.ib p.jb m=true
     ·obtain⟨x2,gB2,hD,hJ⟩:=h.dqB hy Ac (r2:=Al dr) k1 k2 k4 k5 k6 hs
      exact⟨p.dlvB x2 m,λraw=>Tv ih p _ who n dr raw ⟨by omega,by omega⟩ (r8 ih p _ _ m t _ x2 oa hfl (CL _) k3 ⟨hk,by omega⟩ h.wb.R ⟨by omega,by omega⟩ hD.G hs hD.I hD.J hD.E.K) hD.E.toSndOk ob.toSndOk,λhg=>⟨_,_,_,_,_,_,_,hJ hg⟩⟩
     ·have hs:EN p.ib p.jb m=false:=by simpa using hs
      have hR:=Zw (id:=p.ida) (fi:=true) (l:=l) (M:=M) (tT:=t) (by rw[h.wb.ii];exact h.wb.ik) h.wb.kl (by rw[h.wb.ii];exact h.wb.R) (h.wb.gIn k4 (t:=p.a.lT+p.a.mx.length) (by have :=h.ea;omega)) (by rw[h.wb.ii];exact hs) ⟨by omega,by omega,by omega⟩ hql k1
      rw[h.wb.ii]at hR
      exact⟨p,λraw=>Tv ih p _ who n dr raw ⟨by omega,by omega⟩ (nN ih p _ _ m t _ oa hfl (CL _) k3 ⟨hk,by omega⟩ h.wb.R ⟨by omega,by omega⟩ hR hs h.wb.ii (by rw[h.wb.kl];exact Lh (λ_=>rfl) _)) oa.toSndOk ob.toSndOk,λ_=>up⟩
  ·refine⟨p,λraw=> ?_,λ_=>up⟩
   by_cases h3:kd=3
   ·subst h3
    have l:=h.lde Ac
    by_cases h4:AK who 2=0
    ·exact fA ih p who n dr raw oa.toSndOk ob.toSndOk h4 l.1
    ·exact bZ ih p who n dr raw oa.toSndOk ob.toSndOk Ac l.2
   ·exact oW ih p who n dr raw kd oa.toSndOk ob.toSndOk ⟨h1,h2,h3⟩
theorem ZY (p:PS) (kd:Int) (who n dr:Int) (raw:Ad) (q:PS) (hs:∀raw,AP 26 (FV false p kd who n dr raw q)) (hag:SE q.ida q.idb q.a q.b=true):AP 26 ⟨[.cp 0 0,.ag (Jg [vi kd,vi who,vi n,vi dr,lb raw])],[(0,qE 1 6 p.na p.ia (ints p.ja) p.nb p.ib (ints p.jb) 11),(1,Ga p.ida true false 2 3 p.a.lT p.a.mx p.a.lD p.a.tD p.a.kl),(2,Ag p.a.ok p.a.oi),(3,Ag p.a.ik p.a.ii),(6,Ga p.idb false false 7 8 p.b.lT p.b.mx p.b.lD p.b.tD p.b.kl),(7,Ag p.b.ok p.b.oi),(8,Ag p.b.ik p.b.ii),(11,.sl 48 Bp p.fl)],.tu (Jg [.v (.bool true),.v (.bool false)]),[(0,qE 13 16 q.na q.ia (ints q.ja) q.nb q.ib (ints q.jb) 19),(13,Ga q.ida true false 14 15 q.a.lT q.a.mx q.a.lD q.a.tD q.a.kl),(14,Ag q.a.ok q.a.oi),(15,Ag q.a.ik q.a.ii),(16,Ga q.idb false false 17 18 q.b.lT q.b.mx q.b.lD q.b.tD q.b.kl),(17,Ag q.b.ok q.b.oi),(18,Ag q.b.ik q.b.ii),(19,.sl 48 Bp q.fl)]⟩:=by
 have h:=hs raw
 unfold FV at h
 rw[hag]at h
 exact h
theorem ZD (rX:Ad) (hr:rX.length=32):AP 12 ⟨[lb rX,.v (.bool false)],[],.tu (Jg [.cp 0 0,.v (.bool true)]),[(0,qE 1 4 ((Ih rX).na) ((Ih rX).ia) (ints (Ih rX).ja) ((Ih rX).nb) ((Ih rX).ib) (ints (Ih rX).jb) 7),(1,Ga ((Ih rX).ida) true false 2 3 ((Ih rX).a.lT) ((Ih rX).a.mx) ((Ih rX).a.lD) ((Ih rX).a.tD) ((Ih rX).a.kl)),(2,Ag ((Ih rX).a.ok) ((Ih rX).a.oi)),(3,Ag ((Ih rX).a.ik) ((Ih rX).a.ii)),(4,Ga ((Ih rX).idb) false false 5 6 ((Ih rX).b.lT) ((Ih rX).b.mx) ((Ih rX).b.lD) ((Ih rX).b.tD) ((Ih rX).b.kl)),(5,Ag ((Ih rX).b.ok) ((Ih rX).b.oi)),(6,Ag ((Ih rX).b.ik) ((Ih rX).b.ii)),(7,.sl 48 Bp ((Ih rX).fl))]⟩:=dH rX hr
theorem z8 {b:Bool} (h:¬((!b)=true)):b=true:=by
 cases b
 ·exact absurd rfl h
 ·rfl
section
variable (rX:Ad) (l:List (Int×Int×Int×Int×Ad))
theorem bJ:AP 8 ⟨[lb rX,.v (.bool true),.ls false zY l],[],.v (.bool true),[]⟩:=by
 refine cy 0 func8 rfl ntmps8 λY V=>Aj [] 0 V λV=>Ii ?_
 by_cases h1:((rX.length:Nat):Int)=32
 ·refine Aw [(2,Ha h1)] [] 0 V λV=>Ae (AJ ((40:Int)<((l.length:Nat):Int)) V (λh2=> ?_) (λh2=> ?_))
  ·exact Ay [(0,AS (If))] [] 0 V λV=>AY (Ao (BW V))
  ·refine Cb (Ay [(2,AA (X8 rX Ax) [] [(0,0),(1,1),(2,2),(3,3),(4,4),(5,5),(6,6),(7,7),(8,8),(9,9),(10,10),(11,11)])] [] 12 V λV=>Ar (Aj [] 12 V λV=>Ai V (DG (Aj [] 12 V λV=>BC (AC (ι:=Nat×PS) Y V (λ(i,p)=>(l.length-i,[(9,vi ((i:Nat):Int))],[(0,qE 1 6 p.na p.ia (ints p.ja) p.nb p.ib (ints p.jb) 11),(1,A3 p.ida true true 2 3 4 p.a.lT p.a.mx p.a.lD p.a.tD p.a.kl),(2,Ag p.a.ok p.a.oi),(3,Ag p.a.ik p.a.ii),(4,AL p.a.st p.a.ep p.a.aD p.a.sd p.a.tx 5),(5,AT p.a.rD p.a.rT p.a.bx),(6,A3 p.idb false true 7 8 9 p.b.lT p.b.mx p.b.lD p.b.tD p.b.kl),(7,Ag p.b.ok p.b.oi),(8,Ag p.b.ik p.b.ii),(9,AL p.b.st p.b.ep p.b.aD p.b.sd p.b.tx 10),(10,AT p.b.rD p.b.rT p.b.bx),(11,.sl 48 Bp p.fl)],(i<=l.length)/\(JX i p)/\True)) [1,2,7] [] 12 (0,(Ih rX)) [(0,0),(1,1),(2,2),(3,3),(4,4),(5,5),(6,6),(7,7),(8,8),(9,9),(10,10),(11,11)] ⟨Ac,yZ rX,aa⟩ ?_)))))
   rintro⟨i,p⟩ ac gs ws ⟨hi,hI,_⟩ V
   refine Ar (Aj [] 12 V λV=>AJ ((i:Int)<((l.length:Nat):Int)) V (λh3=> ?_) (λh3=> ?_))
   ·refine B3 (Ar ?_)
    obtain⟨q,hq,hqJ⟩:=hI.step (hy:=true) ⟨⟩ Ac (l.getD i HO).1 (l.getD i HO).2.1 (l.getD i HO).2.2.1 (l.getD i HO).2.2.2.1
    refine Aw [(3,AH i l.length),(5,AA (jR (hy:=true) ⟨⟩ p (l.getD i HO).1 (l.getD i HO).2.1 (l.getD i HO).2.2.1 (l.getD i HO).2.2.2.1 (l.getD i HO).2.2.2.2 q hq) [(0,0),(1,1),(2,2),(3,3),(4,4),(5,5),(6,6),(7,7),(8,8),(9,9),(10,10),(11,11)] [(13,12),(14,13),(15,14),(16,15),(17,16),(18,17),(19,18),(20,19),(21,20),(22,21),(23,22)])] [] 23 V λV=>CQ (Aj [] 23 V λV=>Ai V (DG (Aj [] 23 V λV=>Sd (!SE q.ida q.idb q.a q.b) V (λh4=> ?_) (λh4=> ?_))))
    ·exact Ay [(2,AS (If))] [] 23 V λV=>AY (Ao (AN (Ao (Ao (AN (Ao (BW V)))))))
    ·refine DG ?_
     have hI9:=hqJ (λ_=>z8 (LQ h4))
     have hI8:=hI9.sh Ac
     exact Aw [(1,AA (Sv (hy:=true) ⟨⟩ q.a q.b q.ida q.idb q.na q.ia q.ja q.nb q.ib q.jb q.fl hI8.1.1 hI8.1.2.1 hI8.1.2.2) [(0,0),(1,12),(2,13),(3,14),(4,19),(5,20),(6,15),(7,16),(8,17),(9,21),(10,22),(11,18)] []),(5,AA (OV (hy:=true) ⟨⟩ q.a q.b q.ida q.idb q.na q.ia q.ja q.nb q.ib q.jb q.fl hI8.2.1 hI8.2.2.1 hI8.2.2.2) [(0,0),(1,12),(2,13),(3,14),(4,19),(5,20),(6,15),(7,16),(8,17),(9,21),(10,22),(11,18)] [])] [] 23 V λV=>Ae (Ai V (FN (Aw [(1,Cu i)] [9] 23 V λV=>Ae (As Y V (i+1,q) [(0,0),(1,12),(2,13),(3,14),(4,19),(5,20),(6,15),(7,16),(8,17),(9,21),(10,22),(11,18)] ⟨Ac,hI9,aa⟩))))
   ·have hT:=V
    obtain rfl:l.length=i:=by omega
    have V:=hT
    exact Dw (Ay [(0,AS (If))] [] 12 V λV=>AY (BW V))
 ·exact Aw [(2,sT h1)] [] 0 V λV=>Ae (AG V (Ay [(0,AS (If))] [] 0 V λV=>AY (Ao (BW V))))
theorem bV:AP 8 ⟨[lb rX,.v (.bool false),.ls false zY l],[],.v (.bool true),[]⟩:=by
 refine cy 0 func8 rfl ntmps8 λY V=>Aj [] 0 V λV=>Ii ?_
 by_cases h1:((rX.length:Nat):Int)=32
 ·refine Aw [(2,Ha h1)] [] 0 V λV=>Ae (AJ ((40:Int)<((l.length:Nat):Int)) V (λh2=> ?_) (λh2=> ?_))
  ·exact Ay [(0,AS (If))] [] 0 V λV=>AY (Ao (BW V))
  ·refine Cb (Ay [(2,AA (ZD rX Ax) [] [(0,0),(1,1),(2,2),(3,3),(4,4),(5,5),(6,6),(7,7)])] [] 8 V λV=>Ar (Aj [] 8 V λV=>Ai V (DG (Aj [] 8 V λV=>BC (AC (ι:=Nat×PS) Y V (λ(i,p)=>(l.length-i,[(9,vi ((i:Nat):Int))],[(0,qE 1 4 p.na p.ia (ints p.ja) p.nb p.ib (ints p.jb) 7),(1,Ga p.ida true false 2 3 p.a.lT p.a.mx p.a.lD p.a.tD p.a.kl),(2,Ag p.a.ok p.a.oi),(3,Ag p.a.ik p.a.ii),(4,Ga p.idb false false 5 6 p.b.lT p.b.mx p.b.lD p.b.tD p.b.kl),(5,Ag p.b.ok p.b.oi),(6,Ag p.b.ik p.b.ii),(7,.sl 48 Bp p.fl)],(i<=l.length)/\(JX i p)/\True)) [1,2,7] [] 8 (0,(Ih rX)) [(0,0),(1,1),(2,2),(3,3),(4,4),(5,5),(6,6),(7,7)] ⟨Ac,yZ rX,aa⟩ ?_)))))
   rintro⟨i,p⟩ ac gs ws ⟨hi,hI,_⟩ V
   refine Ar (Aj [] 8 V λV=>AJ ((i:Int)<((l.length:Nat):Int)) V (λh3=> ?_) (λh3=> ?_))
   ·refine B3 (Ar ?_)
    obtain⟨q,hq,hqJ⟩:=hI.step (hy:=false) ⟨⟩ Ac (l.getD i HO).1 (l.getD i HO).2.1 (l.getD i HO).2.2.1 (l.getD i HO).2.2.2.1
    have hI9:=hqJ (λe=>by cases e)
    have hag:=hI9.agr
    refine Aw [(3,AH i l.length),(5,AA (ZY p (l.getD i HO).1 (l.getD i HO).2.1 (l.getD i HO).2.2.1 (l.getD i HO).2.2.2.1 (l.getD i HO).2.2.2.2 q hq hag) [(0,0),(1,1),(2,2),(3,3),(6,4),(7,5),(8,6),(11,7)] [(13,8),(14,9),(15,10),(16,11),(17,12),(18,13),(19,14)])] [] 15 V λV=>CQ (Aj [] 15 V λV=>Ai V (DG (Aj [] 15 V λV=>Ai V (DG ?_))))
    have hI8:=hI9.sh Ac
    exact Aw [(1,AA (Sv (hy:=false) ⟨⟩ q.a q.b q.ida q.idb q.na q.ia q.ja q.nb q.ib q.jb q.fl hI8.1.1 hI8.1.2.1 hI8.1.2.2) [(0,0),(1,8),(2,9),(3,10),(6,11),(7,12),(8,13),(11,14)] []),(5,AA (OV (hy:=false) ⟨⟩ q.a q.b q.ida q.idb q.na q.ia q.ja q.nb q.ib q.jb q.fl hI8.2.1 hI8.2.2.1 hI8.2.2.2) [(0,0),(1,8),(2,9),(3,10),(6,11),(7,12),(8,13),(11,14)] [])] [] 15 V λV=>Ae (Ai V (FN (Aw [(1,Cu i)] [9] 15 V λV=>Ae (As Y V (i+1,q) [(0,0),(1,8),(2,9),(3,10),(4,11),(5,12),(6,13),(7,14)] ⟨Ac,hI9,aa⟩))))
   ·have hT:=V
    obtain rfl:l.length=i:=by omega
    have V:=hT
    exact Dw (Ay [(0,AS (If))] [] 8 V λV=>AY (BW V))
 ·exact Aw [(2,sT h1)] [] 0 V λV=>Ae (AG V (Ay [(0,AS (If))] [] 0 V λV=>AY (Ao (BW V))))
end
theorem splq_ok (rX:Ad) (hyb:Bool) (l:List (Int×Int×Int×Int×Ad)):AP 8 ⟨[lb rX,.v (.bool hyb),.ls false zY l],[],.v (.bool true),[]⟩:=by
 cases hyb
 ·exact bV rX l
 ·exact bJ rX l
end
end Go.Sx.Tryz
namespace Go.Sx
open Go.Mi Go.RowKit
variable [Dfr]
theorem y3 {w:World} {x:Addr} {v:Value} (h:w.cell? x=some v):x=⟨x.block,x.off,none⟩:=by
 obtain⟨b,o,s⟩:=x
 cases s with
 |none=>rfl
 |some s=>
  unfold World.cell? at h
  simp at h
  split at h<;>simp at h
def Ac6 (w:World) (k:IntKind) (ad:Option Addr) (l c:Nat) (zs:List Int):Prop:=l<=c/\c<=maxLen/\zs.length=c/\(ad=none->c=0)/\∀a,ad=some a->∀i,i<c->w.cell? (a.add i)=some (.int k (zs.getD i 0))
theorem mJ {X:Nat->Prop} {N:Nat->Option Value} {w:World} {k:IntKind}:∀l:List Int,Fa2 (fS X N w (.int k)) l (l.map (Value.int k))
 |[]=>trivial
 |_::l=>⟨rfl,mJ l⟩
theorem AbE {w:World} {k:IntKind} {ad:Option Addr} {l c:Nat} {zs:List Int} (h:Ac6 w k ad l c zs):fS g00.X g00.N w (.sl (.int k)) (zs.take l:List Int) (.slice ad l c):=by
 obtain⟨h1,h2,h3,h4,h5⟩:=h
 have hl:(zs.take l).length=l:=by rw[ap];omega
 refine⟨(zs.take l).map (Value.int k),⟨by show(zs.take l).length<=_;omega,by rw[cg];exact(fk _).symm,?_⟩,mJ _⟩
 by_cases h0:l=0
 ·refine .inl ⟨by show(zs.take l).length=0;omega,?_⟩
  subst h0
  cases ad with
  |none=>have :=h4 rfl;subst this;exact .inl ⟨rfl,rfl⟩
  |some a=>exact .inr ⟨a,c,rfl⟩
 ·cases ad with
  |none=>have :=h4 rfl;omega
  |some a=>
   have e0:=h5 a rfl 0 (by omega)
   have hp:=y3 (x:=a) (v:= .int k (zs.getD 0 0)) (by simpa[Addr.add]using e0)
   have hb:a.block<w.heap.size:=by have :=World.block_lt_of_cell? w _ e0;simpa[Addr.add]using this
   refine .inr ⟨a.block,a.off,c,by show _=vS a.block a.off (zs.take l).length c;rw[hl,hp],by show(zs.take l).length<=_;omega,h2,id,hb,λi u hu=> ?_⟩
   rw[eu]at hu
   obtain⟨y,hy,rfl⟩:=ak.1 hu
   have hi:i<l:=by
    rcases ci i l with h|h
    ·exact h
    ·rw[bg (by rw[hl];exact h)]at hy;cases hy
   rw[List.getElem?_take_of_lt hi]at hy
   have :=h5 a rfl i (by omega)
   rw[al,hy,el,hp,Dz]at this
   exact this
end Go.Sx
namespace Go.Sx
open Go.Mi Go.RowKit
variable [Dfr]
abbrev g4:List Fk:=[.int .i64,.int .i64,.int .i64,.int .i64,.sl (.int .u8)]
def sA (w:World) (cs:List Value):Prop:=∃(a b c d:Int) (A:Option Addr) (L C:Nat) (Z:List Int),cs=[.int .i64 a,.int .i64 b,.int .i64 c,.int .i64 d,.slice A L C]/\Ac6 w .u8 A L C Z
theorem Zf {w : World} {x : Addr} : ∀ (n i0 : Nat), (∀ i, i < n -> ∃ cs, sA w cs /\ ∀ j, j < 5 -> w.cell? ((x.add ((i0 + i) * 5)).add j) = cs[j]?) ->
  ∃(l:List (RT g4)) (ls:List (List Value)),l.length=n/\Fa2 (rS g00.X g00.N w g4) l ls/\ls.flatten.length=n*5/\∀j,j<n*5->w.cell? (x.add (i0*5+j))=ls.flatten[j]?
 |0,_,_=>⟨[],[],rfl,aa,rfl,by simp⟩
 |n+1,i0,h=>by
  obtain⟨cs,⟨a,b,c,d,A,L,C,Z,rfl,hz⟩,h3⟩:=h 0 (by omega)
  obtain⟨l,ls,k1,k2,k3,k4⟩:=Zf (w:=w) (x:=x) n (i0+1) λi hi=>by
   have :=h (i+1) (by omega)
   rw[show i0+(i+1)=i0+1+i by omega]at this
   exact this
  refine⟨(a,b,c,d,(Z.take L:List Int))::l,_::ls,dp (· +1) k1,⟨⟨_,_,rfl,rfl,_,_,rfl,rfl,_,_,rfl,rfl,_,_,rfl,rfl,_,rfl,AbE hz⟩,k2⟩,by rw[bd,ab,k3];simp;omega,λj hj=> ?_⟩
  rw[bd]
  rcases ci j 5 with hj3|hj3
  ·rw[dj hj3,<-h3 j hj3,Go.Deep.add_add,eC]
  ·rw[df hj3]
   show _=ls.flatten[j-5]?
   rw[<-k4 (j-5) (by omega),show(i0+1)*5+(j-5)=i0*5+j by omega]
theorem yE {w:World} {a:Addr} {len cap:Nat} (hl:len<=cap) (hm:cap<=maxLen) (ho:a.spot=none/\a.block<w.heap.size) (h:∀i,i<len->∃cs,sA w cs/\∀j,j<5->w.cell? ((a.add (i*5)).add j)=cs[j]?):∃l:List (Int×Int×Int×Int×List Int),Sm g00 w (.ls false g4 l) (.slice (some a) len cap):=by
 obtain⟨l,ls,k1,k2,k3,k4⟩:=Zf (w:=w) (x:=a) len 0 (by simpa using h)
 subst k1
 obtain⟨b,o,s⟩:=a
 obtain⟨h5,h6⟩:=ho
 simp only at h5
 subst h5
 refine⟨l,_,ls,rfl,⟨by omega,k3,.inr ⟨b,o,cap,rfl,hl,hm,id,h6,λj u hu=> ?_⟩⟩,k2⟩
 have hj:j<l.length*5:=by
  rcases ci j (l.length*5)with h'|h'
  ·exact h'
  ·rw[bg (by omega)]at hu;cases hu
 have :=k4 j hj
 rw[hu,io,br,Dz]at this
 exact this
end Go.Sx
