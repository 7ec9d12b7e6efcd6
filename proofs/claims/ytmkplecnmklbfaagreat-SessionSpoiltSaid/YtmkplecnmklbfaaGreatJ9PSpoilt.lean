/- General lemmas, walks. -/
import Derived.Deep.Grids
import Derived.Test.YtmkplecnmklbfaaGreatJ8PSpoilt
set_option maxRecDepth 100000
set_option maxHeartbeats 1000000
set_option linter.unusedSimpArgs false
set_option linter.unusedVariables false
set_option linter.unnecessarySimpa false
set_option linter.unusedSectionVars false
namespace Go.Sx
abbrev rq_ (a n:Nat):List Nat:=List.range' a n
abbrev q1_:List Nat:=[1,2,3,4,11,13,16,18,19,20,21,66,67,68,69,70,100,101,102,103,104,105,106,107,108,109,110,111,112,113,114,115,116,117,118,119,120,121,122,124,125,126,127,128,129,130,131,132,133,134,135,136,137,138,139,140,141,142,143,144,145,146,147]
abbrev q2_:List Nat:=[13,16,17,18,19,20,21,67,68,69,70,100,101,102,103,104,105,106,107,108,109,110,111,112,113,114,115,116,117,118,119,120,121,122,124,125,126,127,128,129,130,131,132,133,134,135,136,137,138,139,140,141,142,143,144,145,146,147]
abbrev q3_:List Nat:=(rq_ 124 23)
abbrev q4_:List Nat:=(rq_ 107 14)
abbrev q5_:List Nat:=(rq_ 82 18)
abbrev q6_:List Nat:=(rq_ 71 10)
abbrev q7_:List Nat:=(rq_ 100 7)
abbrev q8_:List Nat:=(rq_ 71 7)
abbrev q9_:List (Nat×Nat):=[(0,0),(1,1),(2,2),(3,3),(4,4),(5,5),(6,6),(7,7),(8,8),(9,9),(10,10),(11,11),(13,1),(14,2),(15,3),(16,6),(17,7),(18,8),(19,11),(20,4),(21,5),(22,9),(23,10)]
abbrev q10_:List (Nat×Nat):=[(0,0),(12,12),(13,13),(14,14),(15,15),(16,16),(17,17),(18,18),(19,19),(20,20),(21,21),(22,22)]
abbrev q11_:List (Nat×Nat):=[(0,0),(1,1),(2,2),(3,3),(4,4),(5,5),(6,6),(7,7),(8,8),(9,9),(10,10),(11,11)]
abbrev q12_:List (Nat×Nat):=[(0,0),(8,8),(9,9),(10,10),(11,11),(12,12),(13,13),(14,14)]
abbrev q13_:List (Nat×Nat):=[(0,0),(1,1),(2,2),(3,3),(6,4),(7,5),(8,6),(11,7)]
abbrev q14_:List (Nat×Nat):=[(0,0),(1,1),(2,2),(3,3),(4,4),(5,5),(6,6),(7,7)]
abbrev q15_:List (Nat×Nat):=[(0,12),(1,13),(2,14),(3,19),(4,20)]
abbrev q16_:List (Nat×Nat):=[(0,15),(1,16),(2,17),(3,21),(4,22)]
abbrev q17_:List (Nat×Nat):=[(0,11),(1,12),(2,13)]
abbrev q18_:List (Nat×Nat):=[(0,8),(1,9),(2,10)]
end Go.Sx
namespace Go.Sx.Tryz
open Go.Mi Go.RowKit Go.Sx Go.Proofs Go.Proofs.Tryz
noncomputable section
open List (replicate map_congr_left)
theorem oJ {hy:Bool} (ih:IsB hy) (p:PS) (tT rQ:Ad) (htx:500<tT.length) (hr:rQ.length=128):AO 14 ⟨[.cp 0 0,vi 0,lb tT,lb rQ],([(0,CQ 1 6 p.na p.ia (ints p.ja) p.nb p.ib (ints p.jb) 11),(1,Bc p.ida true hy 2 3 (rP hy 4) p.a.lT p.a.mx p.a.lD p.a.tD p.a.kl),(2,Al p.a.ok p.a.oi),(3,Al p.a.ik p.a.ii)]++rH hy [(4,AI p.a.st p.a.ep p.a.aD p.a.sd p.a.tx 5),(5,AQ p.a.rD p.a.rT p.a.bx)]++[(6,Bc p.idb false hy 7 8 (rP hy 9) p.b.lT p.b.mx p.b.lD p.b.tD p.b.kl),(7,Al p.b.ok p.b.oi),(8,Al p.b.ik p.b.ii)]++rH hy [(9,AI p.b.st p.b.ep p.b.aD p.b.sd p.b.tx 10),(10,AQ p.b.rD p.b.rT p.b.bx)]++[(11,.sl 48 CJ p.fl)]),.v (.bool true),([(0,CQ 13 16 p.na p.ia (ints p.ja) p.nb p.ib (ints p.jb) 19),(13,Bc p.ida true hy 14 15 (rP hy 20) p.a.lT p.a.mx p.a.lD p.a.tD p.a.kl),(14,Al p.a.ok p.a.oi),(15,Al p.a.ik p.a.ii),(16,Bc p.idb false hy 17 18 (rP hy 22) p.b.lT p.b.mx p.b.lD p.b.tD p.b.kl),(17,Al p.b.ok p.b.oi),(18,Al p.b.ik p.b.ii),(19,.sl 48 CJ p.fl)]++rH hy [(20,AI p.a.st p.a.ep p.a.aD p.a.sd p.a.tx 21),(21,AQ p.a.rD p.a.rT p.a.bx),(22,AI p.b.st p.b.ep p.b.aD p.b.sd p.b.tx 23),(23,AQ p.b.rD p.b.rT p.b.bx)])⟩:=by
 cases hy
 all_goals
  refine cy 12 func14 rfl ntmps14 λY V=> ?_;have hx1:(500:Int)<((tT.length:Nat):Int):=Ac;refine Ak [] 12 V λV=>Ay [(4,AN 0 2),(8,Kf (UB tT rQ Ac Au) [1,2] [.im (Ag [.top,.top,.top,.im (Ag []) 0,.top,.top,.top,.top,.top,.top,.top]) 0,lb tT,lb rQ])] [] 12 V λV=>Ao (Ay [(2,Ga hx1)] [] 12 V λV=>AE V (Ak [] 12 V λV=>AU (Aj ?_)));obtain⟨gs,V⟩:=V.rn2 q9_ [(8,.v (.bool true))] ([(0,CQ 13 16 p.na p.ia (ints p.ja) p.nb p.ib (ints p.jb) 19),(13,Bc p.ida true ih.b 14 15 (rP ih.b 20) p.a.lT p.a.mx p.a.lD p.a.tD p.a.kl),(14,Al p.a.ok p.a.oi),(15,Al p.a.ik p.a.ii),(16,Bc p.idb false ih.b 17 18 (rP ih.b 22) p.b.lT p.b.mx p.b.lD p.b.tD p.b.kl),(17,Al p.b.ok p.b.oi),(18,Al p.b.ik p.b.ii),(19,.sl 48 CJ p.fl)]++rH ih.b [(20,AI p.a.st p.a.ep p.a.aD p.a.sd p.a.tx 21),(21,AQ p.a.rD p.a.rT p.a.bx),(22,AI p.b.st p.b.ep p.b.aD p.b.sd p.b.tx 23),(23,AQ p.b.rD p.b.rT p.b.bx)]) 24 Y;exact BN V
theorem oI {hy:Bool} (ih:IsB hy) (p:PS) (tT rQ:Ad) (htx:500<tT.length) (hr:rQ.length=128):AO 14 ⟨[.cp 0 0,vi 1,lb tT,lb rQ],([(0,CQ 1 6 p.na p.ia (ints p.ja) p.nb p.ib (ints p.jb) 11),(1,Bc p.ida true hy 2 3 (rP hy 4) p.a.lT p.a.mx p.a.lD p.a.tD p.a.kl),(2,Al p.a.ok p.a.oi),(3,Al p.a.ik p.a.ii)]++rH hy [(4,AI p.a.st p.a.ep p.a.aD p.a.sd p.a.tx 5),(5,AQ p.a.rD p.a.rT p.a.bx)]++[(6,Bc p.idb false hy 7 8 (rP hy 9) p.b.lT p.b.mx p.b.lD p.b.tD p.b.kl),(7,Al p.b.ok p.b.oi),(8,Al p.b.ik p.b.ii)]++rH hy [(9,AI p.b.st p.b.ep p.b.aD p.b.sd p.b.tx 10),(10,AQ p.b.rD p.b.rT p.b.bx)]++[(11,.sl 48 CJ p.fl)]),.v (.bool true),([(0,CQ 13 16 p.na p.ia (ints p.ja) p.nb p.ib (ints p.jb) 19),(13,Bc p.ida true hy 14 15 (rP hy 20) p.a.lT p.a.mx p.a.lD p.a.tD p.a.kl),(14,Al p.a.ok p.a.oi),(15,Al p.a.ik p.a.ii),(16,Bc p.idb false hy 17 18 (rP hy 22) p.b.lT p.b.mx p.b.lD p.b.tD p.b.kl),(17,Al p.b.ok p.b.oi),(18,Al p.b.ik p.b.ii),(19,.sl 48 CJ p.fl)]++rH hy [(20,AI p.a.st p.a.ep p.a.aD p.a.sd p.a.tx 21),(21,AQ p.a.rD p.a.rT p.a.bx),(22,AI p.b.st p.b.ep p.b.aD p.b.sd p.b.tx 23),(23,AQ p.b.rD p.b.rT p.b.bx)])⟩:=by
 cases hy
 all_goals
  refine cy 12 func14 rfl ntmps14 λY V=> ?_;have hx1:(500:Int)<((tT.length:Nat):Int):=Ac;refine Ak [] 12 V λV=>Ay [(4,AN 1 2),(8,Kf (UB tT rQ Ac Au) [6,7] [.im (Ag [.top,.top,.top,.im (Ag []) 0,.top,.top,.top,.top,.top,.top,.top]) 0,lb tT,lb rQ])] [] 12 V λV=>Ao (Ay [(2,Ga hx1)] [] 12 V λV=>AE V (Ak [] 12 V λV=>AU (Aj ?_)));obtain⟨gs,V⟩:=V.rn2 q9_ [(8,.v (.bool true))] ([(0,CQ 13 16 p.na p.ia (ints p.ja) p.nb p.ib (ints p.jb) 19),(13,Bc p.ida true ih.b 14 15 (rP ih.b 20) p.a.lT p.a.mx p.a.lD p.a.tD p.a.kl),(14,Al p.a.ok p.a.oi),(15,Al p.a.ik p.a.ii),(16,Bc p.idb false ih.b 17 18 (rP ih.b 22) p.b.lT p.b.mx p.b.lD p.b.tD p.b.kl),(17,Al p.b.ok p.b.oi),(18,Al p.b.ik p.b.ii),(19,.sl 48 CJ p.fl)]++rH ih.b [(20,AI p.a.st p.a.ep p.a.aD p.a.sd p.a.tx 21),(21,AQ p.a.rD p.a.rT p.a.bx),(22,AI p.b.st p.b.ep p.b.aD p.b.sd p.b.tx 23),(23,AQ p.b.rD p.b.rT p.b.bx)]) 24 Y;exact BN V
def EndH.gotQ (r:EndH) (A:Ad) (i l lD:Nat) (kl:List KR) (lT:Nat) (mx:AZ) (X:Nat×Nat×Nat×Ad×Ad×Nat×Nat×CE×AZ):EndH:=
 {r with ik:=Bm A i,ii:=i,lT:=lT,mx:=mx,lD:=lD,tD:=max r.tD l,kl:=kl,st:=X.1,ep:=X.2.1,aD:=X.2.2.1,sd:=X.2.2.2.1,tx:=X.2.2.2.2.1,rD:=X.2.2.2.2.2.1,rT:=X.2.2.2.2.2.2.1,bx:=X.2.2.2.2.2.2.2.1}
section
variable (id:Ad) (fi:Bool) {r:EndH} {M:Nat->Ad} {A:Ad} {g:Nat->Nat×Nat} {js:List Nat} {n m l:Nat} {pc tT:Ad} (rQ:Ad)
theorem eV (hik:r.ik=Bm A r.ii) (hkl:r.kl=js.map (Hm M A g)) (hM:MI M r.lT r.mx) (hR:RI r.ii js) (hl:r.lT<=r.lD) (hg:gIn g r.ii r.lD (r.lT+r.mx.length) n m) (hf:LM r.ii js n=true) (hn:n<=2147483648 /\ m<=2147483648 /\ l<=2147483648) (hp:pc.length<=1040) (ht:tT.length<=500) (hy:By tT) :
  z5 id fi r (QW (Bm A n) (M m) n m l pc tT) rQ (r.gotQ A (nI r.ii n) l (if n<r.ii then r.lD else m) ((nJ r.ii js n).map (Hm M A (gN g r.ii r.lD m))) r.lT r.mx (r.st,r.ep,r.aD,r.sd,r.tx,r.rD,r.rT,r.bx,[])) tT n:=by
 obtain⟨h1,h2⟩:=WP (Bm A n) (M m) hn.1 hn.2.1 hn.2.2 hp ht;have ok1:=fW id fi r.ok r.oi (M:=M) (A:=A) (tD:=r.tD) (N2 n m l pc) l pc (QX (Bm A n) (M m) n m l pc tT) hR hg;have ok2:=s9 id fi r.ok r.oi (A:=A) (tD:=r.tD) (N2 n m l pc) l pc (QX (Bm A n) (M m) n m l pc tT) hM hR hl hg hf;have cm:=t4 id fi r.ok r.oi (A:=A) (tD:=r.tD) (N2 n m l pc) l pc (QX (Bm A n) (M m) n m l pc tT) hM hR hl hg hf;have hop:BA (iS M (Bm A n) m) (replicate 12 (0:Int)) (N2 n m l pc) (QX (Bm A n) (M m) n m l pc tT)=(tT,0):=RR _ _ _ hy;refine⟨?_,?_,rfl,rfl,rfl,rfl⟩
 ·rw[hik,hkl];unfold Ed;rw[Ab];rw[ab];unfold Gj;rw[Ab];rw[ab h1,h2];simp only[];rw[ok1,hf,ok2,hop];rfl
 ·rw[hik,hkl];unfold De;rw[Ab];unfold BY;rw[Ab];rw[h2];simp only[];rw[ok2,hop,cm];rfl
end
structure Wy (M:Nat->Ad) (A:Ad) (mf:Nat->Nat) (g:Nat->Nat×Nat) (top n cur:Nat) (ik:Ad) (ii lD:Nat) (kl:List KR) (i:Nat) (j:List Nat):Prop where
 ik:ik=Bm A i
 ii:ii=i
 le:i<=n
 R:RI i j
 kl:kl=j.map (Hm M A g)
 g:∀k,k<i->(g k).1<=mf k/\mf k<(g k).1+(g k).2/\(g k).1+(g k).2<=top
 mono:∀k k',k<=k'->k'<n->mf k<=mf k'
 lD:lD<=cur/\∀k,i<=k->k<n->lD<=mf k
 cu:∀k,k<n->mf k<=cur
 top:cur<top
section
variable {M:Nat->Ad} {A:Ad} {mf:Nat->Nat} {g:Nat->Nat×Nat} {top n cur:Nat} {ik:Ad} {ii lD:Nat} {kl:List KR} {i:Nat} {j:List Nat}
theorem Wy.snd (h:Wy M A mf g top n cur ik ii lD kl i j):Wy M A (λk=>if k=n then cur else mf k) g top (n+1) cur ik ii lD kl i j:=by
 have hle:=h.le;have key:∀k,k<n+1->(if k=n then cur else mf k)<=cur:=λk hk=>by
  split
  ·exact an _
  ·exact h.cu k Ac
 refine⟨h.ik,h.ii,by omega,h.R,h.kl,λk hk=>by show _<=(if _ then _ else _)/\(if _ then _ else _)<_/\_;rw[aj Ac];exact h.g k hk,λk k' h1 h2=> ?_,⟨h.lD.1,λk h1 h2=> ?_⟩,key,h.top⟩
 ·show(if k=n then cur else mf k)<=if k'=n then cur else mf k';by_cases hk:k'=n
  ·rw[ab hk];exact key k Ac
  ·rw[aj hk,aj Ac];exact h.mono k k' h1 Ac
 ·show lD<=if k=n then cur else mf k;split
  ·exact h.lD.1
  ·exact h.lD.2 k h1 Ac
theorem AaO {M M':Nat->Ad} {c:Nat} (hM:∀x,x<c->M' x=M x) (A:Ad) {g:Nat->Nat×Nat} {k:Nat} (h:(g k).1+(g k).2<=c):Hm M' A g k=Hm M A g k:=by unfold Hm iS;rw[map_congr_left λx hx=>by rw[hM x (by have :=(List.mem_range'_1.1 hx).2;omega)]]
theorem Wy.up (h:Wy M A mf g top n cur ik ii lD kl i j) {M':Nat->Ad} {top' cur':Nat} (hM:∀x,x<top->M' x=M x) (h1:top<=top') (h2:cur<=cur') (h3:cur'<top'):Wy M' A mf g top' n cur' ik ii lD kl i j:=
 ⟨h.ik,h.ii,h.le,h.R,h.kl.trans (map_congr_left λk hk=>(AaO hM A (h.g k (h.R.lt k hk)).2.2).symm),λk hk=>by have :=h.g k hk;omega,h.mono,⟨by have :=h.lD.1;omega,h.lD.2⟩,λk hk=>by have :=h.cu k hk;omega,h3⟩
theorem Wy.gIn (h:Wy M A mf g top n cur ik ii lD kl i j) {k:Nat} (hk:k<n) {t:Nat} (ht:top<=t):gIn g ii lD t k (mf k):=by have h1:=h.top;have h2:=h.cu k hk;have h3:=h.ii;exact⟨λq=>by have :=h.g k Ac;omega,λq=>⟨h.lD.2 k Ac hk,by omega⟩⟩
theorem Wy.rcv (h:Wy M A mf g top n cur ik ii lD kl i j) {k:Nat} (hk:k<n):Wy M A mf (gN g ii lD (mf k)) top n cur (Bm A (nI ii k)) (nI ii k) (if k<ii then lD else mf k) ((nJ ii j k).map (Hm M A (gN g ii lD (mf k)))) (nI i k) (nJ i j k):=by
 have h3:=h.ii;subst h3;have h1:=h.top;have h2:=h.cu k hk;have h4:=h.le;refine⟨rfl,rfl,?_,h.R.next,rfl,λx hx=> ?_,h.mono,?_,h.cu,h1⟩
 ·unfold nI;split<;>omega
 ·unfold gN;by_cases hx2:x<ii
  ·rw[ab hx2];exact h.g x hx2
  ·have hki:¬k<ii:=λq=>by unfold nI at hx;rw[ab q]at hx;exact hx2 hx
   unfold nI at hx;rw[aj hki]at hx;rw[aj hx2];have a1:=h.lD.2 x Ac Ac;have a2:=h.mono x k Ac hk;show lD<=mf x/\mf x<lD+(mf k+1-lD)/\lD+(mf k+1-lD)<=top;omega
 ·unfold nI;by_cases hki:k<ii
  ·rw[ab hki,ab hki];exact h.lD
  ·rw[aj hki,aj hki];exact⟨h2,λx q1 q2=>h.mono k x Ac q2⟩
end
def Rw (M:Nat->Ad) (A B:Ad) (mA mB:Nat->Nat) (na ea:Nat) (ta:Ad) (nb sb eb:Nat) (tb:Ad) (x:Int×Int×Ad×Ad):Prop:=∃(n:Nat) (tT q:Ad),tT.length<=500/\By tT/\
 ((x=((0:Int),(n:Int),tT,QW (Bm A n) (M (mA n)) n (mA n) (mA n) q tT)/\n<na/\(q=[]\/∃pa d,q=BJ (2*mA n) pa 2 d/\V4 ea ta (mA n) pa d))
 \/(∃l,x=((1:Int),(n:Int),tT,QW (Bm B n) (M (mB n)) n (mB n) l q tT)/\n<nb/\l<=ea+1/\(q=[]\/∃e pa d,q=BJ (2*e+1) pa 2 d/\bQ sb eb tb e pa d)))
theorem Rw.up {M:Nat->Ad} {A B:Ad} {mA mB:Nat->Nat} {na ea:Nat} {ta:Ad} {nb sb eb:Nat} {tb:Ad} {x:Int × Int × Ad × Ad} (h:Rw M A B mA mB na ea ta nb sb eb tb x) {M':Nat->Ad} {mA' mB':Nat->Nat} {na' ea':Nat} {ta':Ad} {nb' sb' eb':Nat} {tb':Ad} (c:Nat) (hM:∀ j, j<=c->M' j=M j)
  (hA:∀n,n<na->mA' n=mA n/\mA n<=c) (hB:∀n,n<nb->mB' n=mB n/\mB n<=c) (h1:na<=na'/\nb<=nb'/\ea<=ea') (hpA:∀e pa d,V4 ea ta e pa d->V4 ea' ta' e pa d) (hpB:∀e pa d,bQ sb eb tb e pa d->bQ sb' eb' tb' e pa d):Rw M' A B mA' mB' na' ea' ta' nb' sb' eb' tb' x:=by
 obtain⟨n,tT,q,ht,hy,k⟩:=h;refine⟨n,tT,q,ht,hy,?_⟩;rcases k with⟨e1,e2,e3⟩|⟨l,e1,e2,e3,e4⟩
 ·obtain⟨q1,q2⟩:=hA n e2;exact .inl ⟨by rw[q1,hM _ q2];exact e1,by omega,e3.imp (λq=>q) λ⟨pa,d,r1,r2⟩=>⟨pa,d,by rw[q1];exact r1,by rw[q1];exact hpA _ _ _ r2⟩⟩
 ·obtain⟨q1,q2⟩:=hB n e2;exact .inr ⟨l,by rw[q1,hM _ q2];exact e1,by omega,by omega,e4.imp (λq=>q) λ⟨e,pa,d,r1,r2⟩=>⟨e,pa,d,r1,hpB _ _ _ r2⟩⟩
structure JN (T:Nat) (A B:Ad) (M:Nat->Ad) (mA mB:Nat->Nat) (gA gB:Nat->Nat×Nat) (p:PS):Prop where
 id:p.ida=p.idb/\p.ida.length=32
 lA:A.length=32
 lB:B.length=32
 ok:p.a.ok=Bm A p.na/\p.b.ok=Bm B p.nb
 oi:p.a.oi=p.na/\p.b.oi=p.nb
 wa:Wy M A mA gA (p.a.ep+1) p.na p.a.ep p.b.ik p.b.ii p.b.lD p.b.kl p.ia p.ja
 wb:Wy M B mB gB (p.a.ep+1) p.nb p.b.tD p.a.ik p.a.ii p.a.lD p.a.kl p.ib p.jb
 t:p.na+p.nb<=T/\p.fl.length<=T
 ea:p.a.lT+p.a.mx.length=p.a.ep+1
 eb:p.b.lT+p.b.mx.length=Yw p.b.st p.b.ep+1
 m32:∀j,(M j).length=32
 ma:MI M p.a.lT p.a.mx
 mb:MI M p.b.lT p.b.mx
 la:p.a.lT<=p.a.lD
 lb:p.b.lT<=p.b.lD/\p.b.lT<=p.b.tD/\p.b.tD<=p.a.ep
 ta:p.a.tD<=p.a.ep+1
 st:p.a.st=1
 kj:KJ p.a.ep p.a.sd p.a.tx p.a.bx p.b.st p.b.ep p.b.tx p.b.bx
 sd:p.b.sd=[]
 rida:p.a.rD=2*p.a.ep+1/\p.a.rT=1088
 ridb:p.b.rD=2*p.b.ep/\p.b.rT=1184
 aD:p.a.aD<=T/\p.b.aD<=T
 ep:p.a.ep<=T
 fl:∀x∈p.fl,Rw M A B mA mB p.na p.a.ep p.a.tx p.nb p.b.st p.b.ep p.b.tx x
section
variable {T:Nat} {A B:Ad} {M:Nat->Ad} {mA mB:Nat->Nat} {gA gB:Nat->Nat×Nat} {p:PS}
theorem JN.up (h:JN T A B M mA mB gA gB p):JN (T+1) A B M mA mB gA gB p:=by have e1:=h.t;have e2:=h.aD;have e3:=h.ep;exact⟨h.id,h.lA,h.lB,h.ok,h.oi,h.wa,h.wb,by omega,h.ea,h.eb,h.m32,h.ma,h.mb,h.la,h.lb,h.ta,h.st,h.kj,h.sd,h.rida,h.ridb,by omega,by omega,h.fl⟩
theorem JN.kr (h:JN T A B M mA mB gA gB p) (hT:T<=10000):KRd p.a.ii p.a.kl/\KRd p.b.ii p.b.kl:=by have e1:=h.ep;have e2:=h.t;have e3:=h.wa.le;have e4:=h.wb.le;rw[h.wa.ii,h.wb.ii,h.wa.kl,h.wb.kl];exact⟨WG _ h.wb.R Ac λj hj=>by have :=h.wb.g j hj;omega,WG _ h.wa.R Ac λj hj=>by have :=h.wa.g j hj;omega⟩
theorem JN.eok (h:JN T A B M mA mB gA gB p) (hT:T<=10000):EOk true p.a/\EOk false p.b:=by
 obtain⟨k1,k2,k3,k4,k5,k6,k7,k8,k9⟩:=h.kj.ne;have e1:=h.oi;have e2:=h.wa.ii;have e3:=h.t;have e4:=h.ea;have e5:=h.eb;have e6:=h.la;have e7:=h.lb;have e8:=h.ta;have e9:=h.aD;have e10:=h.ep;have e11:=h.st;have e12:=h.rida;have e13:=h.ridb;have p1:=h.ma.pos;have p2:=h.mb.pos;have e14:=h.wb.ii;have e15:=h.wa.le;have e16:=h.wb.le;have e17:=h.wa.lD.1;have e18:=h.wb.lD.1;have hK:=h.kr hT;refine⟨⟨⟨by rw[h.ok.1];exact F1 h.lA _,by rw[h.wb.ik];exact F1 h.lB _,by omega,by omega,⟨p1,by omega⟩,h.ma.m2 h.m32,by omega,?_,.inl e11,by omega,by omega,⟨λ_=>k9,by omega⟩,by omega⟩,hK.1.KOk Ac,⟨by omega,by omega⟩,by omega,by rw[ab e11];exact e12.2,by rw[ab e11];exact e12.1,k5⟩,
  ⟨⟨by rw[h.ok.2];exact F1 h.lB _,by rw[h.wa.ik];exact F1 h.lA _,by omega,by omega,⟨p2,by omega⟩,h.mb.m2 h.m32,by omega,?_,by omega,by omega,by omega,⟨by omega,k7⟩,?_⟩,hK.2.KOk Ac,⟨by omega,by omega⟩,by omega,by rw[aj Ac];exact e13.2,by rw[aj Ac];exact e13.1,k6⟩⟩
 ·unfold A5;rw[ab rfl];omega
 ·unfold A5;rw[aj (by decide)];omega
 ·rcases k1 with k|k
  ·rw[k8 k];exact br _
  ·rw[k7 k];decide
theorem JN.lde (h:JN T A B M mA mB gA gB p) (hT:T<=10000):LdE true p.ida p.a/\LdE false p.idb p.b:=by
 obtain⟨oa,ob⟩:=h.eok hT;obtain⟨k1,k2,k3,k4,k5,k6,k7,k8,k9⟩:=h.kj.ne;have e1:=h.oi;have e2:=h.wa.ii;have e3:=h.t;have e4:=h.ea;have e5:=h.eb;have e6:=h.la;have e7:=h.lb;have e8:=h.ta;have e9:=h.aD;have e10:=h.ep;have p1:=h.ma.pos;have p2:=h.mb.pos;have e14:=h.wb.ii;have e15:=h.wa.le;have e16:=h.wb.le;have e17:=h.wa.lD.1;have e18:=h.wb.lD.1;have hK:=h.kr hT;have m32:∀{lT:Nat} {mx:AZ},MI M lT mx->∀j,j<mx.length->(mx.getD j AW).length=32:=λhm j hj=>by show(mg _ j).length=32;rw[hm.aD j hj];exact h.m32 _
 have l:=h.kj.ld;have la:LdOk p.a.st p.a.ep p.a.sd p.a.tx p.a.rD p.a.rT p.a.bx:=by rw[h.st,h.rida.1,h.rida.2];exact l.1
 have lb:LdOk p.b.st p.b.ep p.b.sd p.b.tx p.b.rD p.b.rT p.b.bx:=by rw[h.sd,h.ridb.1,h.ridb.2];exact l.2
 exact⟨⟨h.id.2,oa.ok,oa.ik,⟨by omega,by omega,by omega,by omega,by omega⟩,⟨p1,by omega⟩,m32 h.ma,⟨e6,by omega,oa.mn⟩,hK.1,⟨by omega,by omega⟩,la⟩,
  ⟨by rw[<-h.id.1];exact h.id.2,ob.ok,ob.ik,⟨by omega,by omega,by omega,by omega,by omega⟩,⟨p2,by omega⟩,m32 h.mb,⟨e7.1,by omega,ob.mn⟩,hK.2,⟨by omega,by omega⟩,lb⟩⟩
theorem Vv {n m l:Nat} {ok mix q tT:Ad} (h:n<=2000000/\m<=2000000/\l<=2000000) (hq:q.length<=1040) (ht:tT.length<=500):(QW ok mix n m l q tT).length<=50000:=b_ (YL ⟨by omega,by omega,by omega⟩ hq ht).2 (by decide)
theorem JN.sqA (hy:Bool) (h:JN T A B M mA mB gA gB p) (hT:T<=9000) {tT rQ:Ad} (ht:tT.length<=500) (hb:By tT) (hr:rQ.length=128):JN (T+1) A B M (λk=>if k=p.na then p.a.ep else mA k) mB gA gB (p.sqA hy tT rQ):=by
 obtain⟨a,s,t,q,hpc,ha,hk,hq,hup⟩:∃a s t q,p.a.pq hy rQ=(a,s,t,q)/\a<=p.a.aD+1/\KJ p.a.ep s t p.a.bx p.b.st p.b.ep p.b.tx p.b.bx/\(q=[]\/∃pa d,q=BJ (2*p.a.ep) pa 2 d/\V4 p.a.ep t p.a.ep pa d)/\∀e pa d,V4 p.a.ep p.a.tx e pa d->V4 p.a.ep t e pa d:=by
  cases hy
  ·exact⟨_,_,_,_,rfl,Nat.le_succ _,h.kj,.inl rfl,λ_ _ _ q=>q⟩
  ·obtain⟨s,t,d,ho,hk,hd,hup⟩:=h.kj.outA p.a.aD p.a.rD p.a.rT (r:=rQ.take 64) (by rw[ao];omega);exact⟨_,s,t,_,by show p.a.pc rQ=_;unfold EndH.pc;rw[h.st];exact ho,an _,hk,.inr ⟨_,d,rfl,hd⟩,hup⟩
 have e1:=h.t;have e2:=h.aD;have e3:=h.ep;have e4:=h.ea;have e5:=h.oi;have e6:=h.wa.lD.1;have p1:=h.ma.pos;have hnum:p.a.num true=p.a.ep:=by unfold EndH.num A5;rw[ab rfl];omega
 have hF:p.a.fq hy true tT rQ=QW (Bm A p.na) (M p.a.ep) p.na p.a.ep p.a.ep q tT:=by unfold EndH.fq;rw[hnum,hpc,h.ok.1,e5.1,show p.a.lT+p.a.mx.length-1=p.a.ep by omega,h.ma.out (by have :=h.la;omega) Ac]
 refine⟨h.id,h.lA,h.lB,⟨?_,h.ok.2⟩,⟨?_,e5.2⟩,h.wa.snd,h.wb,⟨?_,?_⟩,e4,h.eb,h.m32,h.ma,h.mb,h.la,h.lb,h.ta,h.st,?_,h.sd,h.rida,h.ridb,⟨?_,?_⟩,?_,λx hx=> ?_⟩
 ·show V7 p.a.ok=Bm A (p.na+1);rw[h.ok.1];rfl
 ·show p.a.oi+1=p.na+1;omega
 ·show p.na+1+p.nb<=T+1;omega
 ·show(p.fl++[_]).length<=T+1;rw[ah,List.length_singleton];omega
 ·show KJ p.a.ep (p.a.pq hy rQ).2.1 (p.a.pq hy rQ).2.2.1 p.a.bx p.b.st p.b.ep p.b.tx p.b.bx;rw[hpc];exact hk
 ·show(p.a.pq hy rQ).1<=T+1;rw[hpc];show a<=T+1;omega
 ·show p.b.aD<=T+1;omega
 ·show p.a.ep<=T+1;omega
 ·show Rw M A B _ mB (p.na+1) p.a.ep (p.a.pq hy rQ).2.2.1 p.nb p.b.st p.b.ep p.b.tx x;rw[hpc];rcases bn.1 hx with hx|hx
  ·exact(h.fl x hx).up p.a.ep (λ_ _=>rfl) (λn hn=>⟨aj Ac,h.wa.cu n hn⟩) (λn hn=>⟨rfl,by have :=h.wb.cu n hn;have :=h.lb;omega⟩) ⟨by omega,an _,an _⟩ hup λ_ _ _ q=>q
  ·have e0:(λk=>if k=p.na then p.a.ep else mA k) p.na=p.a.ep:=ab rfl;refine⟨p.na,tT,q,ht,hb,.inl ⟨?_,dp _,by rw[e0];exact hq⟩⟩;rw[bo.1 hx,hF,e5.1,e0]
theorem JN.sqB (hy:Bool) (h:JN T A B M mA mB gA gB p) (hT:T<=9000) {tT rQ:Ad} (ht:tT.length<=500) (hb:By tT) (hr:rQ.length=128):JN (T+1) A B M mA (λk=>if k=p.nb then p.b.tD else mB k) gA gB (p.sqB hy tT rQ):=by
 obtain⟨a,q,hpc,ha,hq⟩:∃a q,p.b.pq hy rQ=(a,p.b.sd,p.b.tx,q)/\a<=p.b.aD+1/\(q=[]\/∃pa d,q=BJ (2*p.b.ep+1) pa 2 d/\bQ p.b.st p.b.ep p.b.tx p.b.ep pa d):=by
  cases hy
  ·exact⟨_,_,rfl,Nat.le_succ _,.inl rfl⟩
  ·exact h.kj.outB p.b.aD p.b.sd p.b.rD p.b.rT (rQ.take 64)
 obtain⟨k1,k2,k3,k4,k5,k6,k7,k8,k9⟩:=h.kj.ne;have e1:=h.t;have e2:=h.aD;have e3:=h.ep;have e4:=h.eb;have e5:=h.oi;have e6:=h.lb;have p1:=h.mb.pos;have hnum:p.b.num false=p.b.tD:=by unfold EndH.num A5;rw[aj (by decide)];omega
 have hF:p.b.fq hy false tT rQ=QW (Bm B p.nb) (M p.b.tD) p.nb p.b.tD (Yw p.b.st p.b.ep) q tT:=by unfold EndH.fq;rw[hnum,hpc,h.ok.2,e5.2,show p.b.lT+p.b.mx.length-1=Yw p.b.st p.b.ep by omega,h.mb.out Ac Ac]
 refine⟨h.id,h.lA,h.lB,⟨h.ok.1,?_⟩,⟨e5.1,?_⟩,h.wa,h.wb.snd,⟨?_,?_⟩,h.ea,e4,h.m32,h.ma,h.mb,h.la,e6,h.ta,h.st,?_,?_,h.rida,h.ridb,⟨?_,?_⟩,?_,λx hx=> ?_⟩
 ·show V7 p.b.ok=Bm B (p.nb+1);rw[h.ok.2];rfl
 ·show p.b.oi+1=p.nb+1;omega
 ·show p.na+(p.nb+1)<=T+1;omega
 ·show(p.fl++[_]).length<=T+1;rw[ah,List.length_singleton];omega
 ·show KJ p.a.ep p.a.sd p.a.tx p.a.bx p.b.st p.b.ep (p.b.pq hy rQ).2.2.1 p.b.bx;rw[hpc];exact h.kj
 ·show(p.b.pq hy rQ).2.1=[];rw[hpc];exact h.sd
 ·show p.a.aD<=T+1;omega
 ·show(p.b.pq hy rQ).1<=T+1;rw[hpc];show a<=T+1;omega
 ·show p.a.ep<=T+1;omega
 ·show Rw M A B mA _ p.na p.a.ep p.a.tx (p.nb+1) p.b.st p.b.ep (p.b.pq hy rQ).2.2.1 x;rw[hpc];rcases bn.1 hx with hx|hx
  ·exact(h.fl x hx).up p.a.ep (λ_ _=>rfl) (λn hn=>⟨rfl,h.wa.cu n hn⟩) (λn hn=>⟨aj Ac,by have :=h.wb.cu n hn;omega⟩) ⟨an _,by omega,an _⟩ (λ_ _ _ q=>q) λ_ _ _ q=>q
  ·have e0:(λk=>if k=p.nb then p.b.tD else mB k) p.nb=p.b.tD:=ab rfl;refine⟨p.nb,tT,q,ht,hb,.inr ⟨Yw p.b.st p.b.ep,?_,dp _,k3,hq.imp (λq=>q) λ⟨pa,d,q1,q2⟩=>⟨_,pa,d,q1,q2⟩⟩⟩;rw[bo.1 hx,hF,e5.2,e0]
theorem JN.agr (h:JN T A B M mA mB gA gB p):QG p.ida p.idb p.a p.b=true:=by have e4:=h.ea;have e5:=h.eb;have e6:=h.lb;have e7:=h.la;have e8:=h.wa.lD.1;have e9:=h.wb.lD.1;have k:=h.kj.ne;have p1:=h.ma.pos;have p2:=h.mb.pos;unfold QG;unfold TW;rw[Ab];rw[ab h.id.1,aj Ac,aj Ac];refine decide_eq_true ?_;rw[h.ma.out Ac Ac,h.mb.out Ac Ac]
end
theorem Yq (mx:AZ) {ks:AZ} (h:ks.length<=1):mx.length<=(Mw mx ks).length:=by
 match ks,h with
 |[],_=>exact an _
 |[k],_=>show _<=(mx++[_]).length;rw[ah];omega
structure AbS (hy:Bool) (id:Ad) (fi:Bool) (e:EndH) (i:Nat) (j:List Nat) (rQ:Ad) (n:Nat) (tT fr:Ad) (e2:EndH):Prop where
 G:bO hy id fi e fr rQ e2 tT n
 I:e2.ii=nI i n
 J:QO e2.kl=ints (nJ i j n)
 E:EOk fi e2
section
variable {T:Nat} {A B:Ad} {M:Nat->Ad} {mA mB:Nat->Nat} {gA gB:Nat->Nat×Nat} {p:PS}
theorem JN.dqA (hy:Bool) (h:JN T A B M mA mB gA gB p) (hT:T<=9000) {n:Nat} {tT q r2:Ad} (ht:tT.length<=500) (hb:By tT) (hn:n < p.na) (hd:q=[] \/ ∃ pa d, q=BJ (2 * mA n) pa 2 d /\ V4 p.a.ep p.a.tx (mA n) pa d) (hs:LM p.ia p.ja n=true) :
  ∃e2 M2 gA2,AbS hy p.idb false p.b p.ia p.ja r2 n tT (QW (Bm A n) (M (mA n)) n (mA n) (mA n) q tT) e2/\JN T A B M2 mA mB gA2 gB (p.dlvA e2 n):=by
 have k:=h.kj.ne;have e1:=h.t;have e2:=h.aD;have e3:=h.ep;have e4:=h.ea;have e5:=h.eb;have e6:=h.lb;have e7:=h.wa.lD;have e8:=h.wa.ii;have e9:=h.wa.le;have e10:=h.wa.cu n hn;have p2:=h.mb.pos;have hg:=h.wa.gIn hn (t:=p.b.lT+p.b.mx.length) Ac;rw[<-e8]at hs;have hR:RI p.b.ii p.ja:=by rw[e8];exact h.wa.R
 have hla:(if n<p.b.ii then p.b.lD else mA n)<=p.a.ep/\p.b.lD<=(if n<p.b.ii then p.b.lD else mA n):=by
  split
  ·exact⟨e7.1,an _⟩
  ·exact⟨e10,e7.2 n Ac hn⟩
 have hw:=h.wa.rcv hn;obtain ⟨lT, mx, M2, s2, ep2, a2, t2, b2, hG, hk2, ha2, hup, hM2, h32, hMI, hl1, hl2, hle⟩ : ∃ lT mx M2 s2 ep2 a2 t2 b2, bO hy p.idb false p.b (QW (Bm A n) (M (mA n)) n (mA n) (mA n) q tT) r2 (p.b.gotQ A (nI p.b.ii n) (mA n) (if n < p.b.ii then p.b.lD else mA n) ((nJ p.b.ii p.ja n).map (Hm M A (gN gA p.b.ii p.b.lD (mA n)))) lT mx (s2, ep2, a2, [], t2, 2 * ep2, 1184, b2, [])) tT n
   /\KJ p.a.ep p.a.sd p.a.tx p.a.bx s2 ep2 t2 b2/\a2<=p.b.aD/\(∀e pa d,bQ p.b.st p.b.ep p.b.tx e pa d->bQ s2 ep2 t2 e pa d)/\(∀x,x<p.a.ep+1->M2 x=M x)/\(∀j,(M2 j).length=32)/\MI M2 lT mx/\lT<=(if n<p.b.ii then p.b.lD else mA n)/\lT<=max p.b.tD (mA n)/\lT+mx.length=Yw s2 ep2+1:=by
  cases hy
  ·have hql : q.length <= 1040 := by
    rcases hd with rfl|⟨pa,d,rfl,hd⟩
    ·exact br _
    ·exact EL ⟨by omega,by have :=hd.2.1;omega,by decide⟩ (by have :=hd.2.2.1;omega)
   have hG:=eV p.idb false (pc:=q) r2 (n:=n) (l:=mA n) (by rw[e8];exact h.wa.ik) h.wa.kl h.mb hR e6.1 hg hs ⟨by omega,by omega,by omega⟩ hql ht hb;rw[h.sd,h.ridb.1,h.ridb.2]at hG;exact⟨_,_,M,_,_,_,_,_,hG,h.kj,an _,λ_ _ _ q=>q,λ_ _=>rfl,h.m32,h.mb,by omega,by omega,e5⟩
  ·obtain ⟨pid, pa, d, hpk, hql, s2, ep2, a2, t2, b2, ks, hX, hk2, ha2, hn2, hks, hup⟩ : ∃ pid pa d, GB p.b.st p.b.ep [] p.b.tx p.b.bx q pid pa d /\ q.length <= 1040 /\ ∃ s ep a t b ks, QV p.b.st p.b.ep p.b.aD [] p.b.tx (2 * p.b.ep) 1184 p.b.bx q pid pa d (r2.drop 64) = (s, ep, a, [], t, 2 * ep, 1184, b, ks)
     /\KJ p.a.ep p.a.sd p.a.tx p.a.bx s ep t b/\a<=p.b.aD/\Yw s ep=Yw p.b.st p.b.ep+ks.length/\ks.length<=1/\∀e pa d,bQ p.b.st p.b.ep p.b.tx e pa d->bQ s ep t e pa d:=by
    rcases hd with rfl|⟨pa,d,rfl,hd⟩
    ·exact⟨0,0,[],.inl rfl,br _,_,_,_,_,_,[],Vs ..,h.kj,an _,rfl,br _,λ_ _ _ q=>q⟩
    ·obtain⟨i1,i2⟩:=h.kj.inB Ac hd p.b.aD (r2.drop 64);exact⟨_,_,_,i1,EL ⟨by omega,by have :=hd.2.1;omega,by decide⟩ (by have :=hd.2.2.1;omega),i2⟩
   have hG:=X_ p.idb false r2 (n:=n) (l:=mA n) (by rw[e8];exact h.wa.ik) h.wa.kl h.mb hR e6.1 hg hs ⟨by omega,by omega,by omega⟩ hql ht hb (by rw[h.sd];exact hpk);rw[h.sd,h.ridb.1,h.ridb.2,hX]at hG;generalize hlo:(if n<p.b.ii then p.b.lD else mA n)=lo at *;have hml:=Yq p.b.mx hks;have hmn:p.b.lT<=A5 false p.b.lT (Mw p.b.mx ks).length (max p.b.tD (mA n)):=by unfold A5;rw[aj (by decide)];omega
   obtain⟨hml,M2,hM,h32,hMI,hlw,hle⟩:=h.mb.put h.m32 false lo (max p.b.tD (mA n)) ks hks Ac Ac hmn;have hlw2:(Jl false p.b.lT p.b.mx lo (max p.b.tD (mA n)) ks).1<=lo/\(Jl false p.b.lT p.b.mx lo (max p.b.tD (mA n)) ks).1<=max p.b.tD (mA n):=by rw[hlw];unfold A5;rw[aj (by decide)];omega
   exact⟨(Jl false p.b.lT p.b.mx lo (max p.b.tD (mA n)) ks).1,(Jl false p.b.lT p.b.mx lo (max p.b.tD (mA n)) ks).2,M2,s2,ep2,a2,t2,b2,hG,hk2,ha2,hup,λx hx=>hM x Ac,h32,hMI,hlw2.1,hlw2.2,by omega⟩
 generalize hlo:(if n<p.b.ii then p.b.lD else mA n)=lo at *;have JJ:JN T A B M2 mA mB (gN gA p.b.ii p.b.lD (mA n)) gB (p.dlvA (p.b.gotQ A (nI p.b.ii n) (mA n) lo ((nJ p.b.ii p.ja n).map (Hm M A (gN gA p.b.ii p.b.lD (mA n)))) lT mx (s2,ep2,a2,[],t2,2*ep2,1184,b2,[])) n):=by
  refine⟨h.id,h.lA,h.lB,h.ok,h.oi,?_,?_,e1,e4,hle,h32,h.ma.mono λj hj=>hM2 j Ac,hMI,h.la,⟨hl1,hl2,?_⟩,h.ta,h.st,hk2,rfl,h.rida,⟨rfl,rfl⟩,⟨e2.1,?_⟩,e3,λx hx=> ?_⟩
  ·show Wy M2 A mA _ (p.a.ep+1) p.na p.a.ep (Bm A (nI p.b.ii n)) (nI p.b.ii n) lo ((nJ p.b.ii p.ja n).map _) (nI p.ia n) (nJ p.ia p.ja n);rw[<-e8]at hw⊢;exact hw.up hM2 (an _) (an _) (dp _)
  ·show Wy M2 B mB gB (p.a.ep+1) p.nb (max p.b.tD (mA n)) p.a.ik p.a.ii p.a.lD p.a.kl p.ib p.jb;exact h.wb.up hM2 (an _) Ac Ac
  ·show max p.b.tD (mA n)<=p.a.ep;omega
  ·show a2<=T;omega
  ·exact(h.fl x hx).up p.a.ep (λj hj=>hM2 j Ac) (λn hn=>⟨rfl,h.wa.cu n hn⟩) (λn hn=>⟨rfl,by have :=h.wb.cu n hn;omega⟩) ⟨an _,an _,an _⟩ (λ_ _ _ q=>q) hup
 refine⟨_,M2,_,⟨hG,?_,?_,(JJ.eok Ac).2⟩,JJ⟩
 ·show nI p.b.ii n=nI p.ia n;rw[e8]
 ·show QO ((nJ p.b.ii p.ja n).map _)=_;rw[KB λ_=>rfl,e8]
theorem JN.dqB (hy:Bool) (h:JN T A B M mA mB gA gB p) (hT:T<=9000) {n l:Nat} {tT q r2:Ad} (ht:tT.length<=500) (hb:By tT) (hn:n < p.nb) (hl:l<=p.a.ep+1) (hd:q=[] \/ ∃ e pa d, q=BJ (2 * e+1) pa 2 d /\ bQ p.b.st p.b.ep p.b.tx e pa d) (hs:LM p.ib p.jb n=true) :
  ∃e2 gB2,AbS hy p.ida true p.a p.ib p.jb r2 n tT (QW (Bm B n) (M (mB n)) n (mB n) l q tT) e2/\((hy=true->QG p.ida p.idb e2 p.b=true)->JN (T+1) A B M mA mB gA gB2 (p.dlvB e2 n)):=by
 have k:=h.kj.ne;obtain⟨oa,ob⟩:=h.eok Ac;have e1:=h.t;have e2:=h.aD;have e3:=h.ep;have e4:=h.ea;have e5:=h.eb;have e6:=h.lb;have e7:=h.wb.lD;have e8:=h.wb.ii;have e9:=h.wb.le;have e10:=h.wb.cu n hn;have e11:=h.la;have e12:=h.ta;have e13:=h.oi;have e14:=h.wa.lD;have p1:=h.ma.pos;have hg:=h.wb.gIn hn (t:=p.a.lT+p.a.mx.length) Ac;rw[<-e8]at hs;have hR:RI p.a.ii p.jb:=by rw[e8];exact h.wb.R
 have hla:(if n<p.a.ii then p.a.lD else mB n)<=p.b.tD/\p.a.lD<=(if n<p.a.ii then p.a.lD else mB n):=by
  split
  ·exact⟨e7.1,an _⟩
  ·exact⟨e10,e7.2 n Ac hn⟩
 have hw:=h.wb.rcv hn;have hwi:nI p.a.ii n<=1000000:=by have :=hw.le;rw[<-e8]at this;omega
 have hKK:KOk ((nJ p.a.ii p.jb n).map (Hm M B (gN gB p.a.ii p.a.lD (mB n)))):=by refine(WG B (hR.next (i:=n)) hwi λj hj=> ?_).KOk Ac;have :=hw.g j (by rw[<-e8];exact hj);omega
 obtain ⟨lT, mx, M2, ep2, a2, d2, t2, b2, hG, hk2, ha2, hep, hup, hM, h32, hMI, hl1, hle, hML⟩ : ∃ lT mx M2 ep2 a2 d2 t2 b2, bO hy p.ida true p.a (QW (Bm B n) (M (mB n)) n (mB n) l q tT) r2 (p.a.gotQ B (nI p.a.ii n) l (if n < p.a.ii then p.a.lD else mB n) ((nJ p.a.ii p.jb n).map (Hm M B (gN gB p.a.ii p.a.lD (mB n)))) lT mx (1, ep2, a2, d2, t2, 2 * ep2 + 1, 1088, b2, [])) tT n
   /\KJ ep2 d2 t2 b2 p.b.st p.b.ep p.b.tx p.b.bx/\a2<=p.a.aD/\(p.a.ep<=ep2/\ep2<=p.a.ep+1)/\(∀e pa d,V4 p.a.ep p.a.tx e pa d->V4 ep2 t2 e pa d)/\(∀j,j<p.a.lT+p.a.mx.length->M2 j=M j)/\(∀j,(M2 j).length=32)/\MI M2 lT mx/\lT<=(if n<p.a.ii then p.a.lD else mB n)/\lT+mx.length=ep2+1/\(hy=false->MI M lT mx):=by
  cases hy
  ·have hql : q.length <= 1040 := by
    rcases hd with rfl|⟨e,pa,d,rfl,hd⟩
    ·exact br _
    ·exact EL ⟨by have :=hd.1;omega,by have :=hd.2.1;omega,by decide⟩ (by have :=hd.2.2.1;omega)
   have hG:=eV p.ida true (pc:=q) r2 (n:=n) (l:=l) (by rw[e8];exact h.wb.ik) h.wb.kl h.ma hR e11 hg hs ⟨by omega,by omega,by omega⟩ hql ht hb;rw[h.st,h.rida.1,h.rida.2]at hG;exact⟨_,_,M,_,_,_,_,_,hG,h.kj,an _,⟨an _,Nat.le_succ _⟩,λ_ _ _ q=>q,λ_ _=>rfl,h.m32,h.ma,by omega,e4,λ_=>h.ma⟩
  ·obtain ⟨pid, pa, d, hpk, hpl, ep2, a2, d2, t2, b2, ks, hX, hk2, ha2, hn2, hks, hup⟩ : ∃ pid pa d, GB 1 p.a.ep p.a.sd p.a.tx p.a.bx q pid pa d /\ q.length <= 1040 /\ ∃ ep2 a2 d2 t2 b2 ks, QV 1 p.a.ep p.a.aD p.a.sd p.a.tx (2 * p.a.ep + 1) 1088 p.a.bx q pid pa d (r2.drop 64) = (1, ep2, a2, d2, t2, 2 * ep2 + 1, 1088, b2, ks)
     /\KJ ep2 d2 t2 b2 p.b.st p.b.ep p.b.tx p.b.bx/\a2<=p.a.aD/\ep2=p.a.ep+ks.length/\ks.length<=1/\∀e pa d,V4 p.a.ep p.a.tx e pa d->V4 ep2 t2 e pa d:=by
    rcases hd with rfl|⟨e,pa,d,rfl,hd⟩
    ·exact⟨0,0,[],.inl rfl,br _,p.a.ep,p.a.aD,p.a.sd,p.a.tx,p.a.bx,[],Vs ..,h.kj,an _,rfl,br _,λ_ _ _ q=>q⟩
    ·obtain⟨i1,i2⟩:=h.kj.inA Ac hd p.a.aD (r2.drop 64);exact⟨_,_,_,i1,EL ⟨by have :=hd.1;omega,by have :=hd.2.1;omega,by decide⟩ (by have :=hd.2.2.1;omega),i2⟩
   have hG:=X_ p.ida true r2 (n:=n) (l:=l) (by rw[e8];exact h.wb.ik) h.wb.kl h.ma hR e11 hg hs ⟨by omega,by omega,by omega⟩ hpl ht hb (by rw[h.st];exact hpk);rw[h.st,h.rida.1,h.rida.2,hX]at hG;generalize hlo:(if n<p.a.ii then p.a.lD else mB n)=lo at *;have hml:=Yq p.a.mx hks;have hmn:p.a.lT<=A5 true p.a.lT (Mw p.a.mx ks).length (max p.a.tD l):=by unfold A5;rw[ab rfl];omega
   obtain⟨hml,M2,hM,h32,hMI,hlw,hle⟩:=h.ma.put h.m32 true lo (max p.a.tD l) ks hks Ac Ac hmn;have hlw2:(Jl true p.a.lT p.a.mx lo (max p.a.tD l) ks).1=lo:=by rw[hlw];unfold A5;rw[ab rfl];omega
   exact⟨(Jl true p.a.lT p.a.mx lo (max p.a.tD l) ks).1,(Jl true p.a.lT p.a.mx lo (max p.a.tD l) ks).2,M2,ep2,a2,d2,t2,b2,hG,hk2,ha2,⟨by omega,by omega⟩,hup,hM,h32,hMI,by omega,by omega,λq=>by cases q⟩
 generalize hlo:(if n<p.a.ii then p.a.lD else mB n)=lo at *;have hkn:=hk2.ne;have hmb:=hMI.pos;refine⟨p.a.gotQ B (nI p.a.ii n) l lo ((nJ p.a.ii p.jb n).map (Hm M B (gN gB p.a.ii p.a.lD (mB n)))) lT mx (1,ep2,a2,d2,t2,2*ep2+1,1088,b2,[]),gN gB p.a.ii p.a.lD (mB n),⟨hG,?_,?_,?_⟩,λhag=> ?_⟩
 ·show nI p.a.ii n=nI p.ib n;rw[e8]
 ·show QO ((nJ p.a.ii p.jb n).map _)=_;rw[KB λ_=>rfl,e8]
 ·refine⟨⟨oa.ok,F1 h.lB _,oa.oi,hwi,⟨hmb,?_⟩,hMI.m2 h32,?_,?_,.inl rfl,?_,?_,⟨λ_=>hkn.2.2.2.2.2.2.2.2,λe=>absurd (show(1:Nat)=3 from e) (by decide)⟩,?_⟩,hKK,⟨?_,?_⟩,?_,rfl,rfl,hkn.2.2.2.2.1⟩
  ·show mx.length<=80000;omega
  ·show lT<=10000000;omega
  ·show lT<=A5 true lT mx.length _;unfold A5;rw[ab rfl];exact Nat.le_sub_one_of_lt (Nat.lt_add_of_pos_right hmb)
  ·show ep2<=100000000;omega
  ·show a2<=100000000;omega
  ·show t2.length<=10000;have :=hkn.2.2.2.2.2.2.2.2;omega
  ·show lT<=lo;omega
  ·show lo<=20000000;omega
  ·show max p.a.tD l<=20000000;omega
 ·have hML : MI M lT mx := by
   cases hy
   ·exact hML rfl
   ·have hag:=hag rfl;unfold QG at hag;unfold TW at hag;rw[Ab]at hag;rw[ab h.id.1]at hag;have hag:(if((min (lT+mx.length-1) (p.b.lT+p.b.mx.length-1):Nat):Int)<(lT:Int)then true else(if((min (lT+mx.length-1) (p.b.lT+p.b.mx.length-1):Nat):Int)<((p.b.lT:Nat):Int)then true else decide ((mx.getD ((min (lT+mx.length-1) (p.b.lT+p.b.mx.length-1))-lT) AW)=(p.b.mx.getD ((min (lT+mx.length-1) (p.b.lT+p.b.mx.length-1))-p.b.lT) AW))))=true:=hag;refine hMI.mono λj hj=> ?_;rcases ci j (p.a.lT+p.a.mx.length)with hj2|hj2
    ·exact(hM j hj2).symm
    ·have hmin:min (lT+mx.length-1) (p.b.lT+p.b.mx.length-1)=j:=by omega
     rw[hmin,aj Ac,aj Ac]at hag;have :=cj hag;rw[hMI.out Ac Ac,h.mb.out Ac Ac]at this;exact this.symm
  refine⟨h.id,h.lA,h.lB,h.ok,h.oi,?_,?_,⟨by show p.na+p.nb<=T+1;omega,by show p.fl.length<=T+1;omega⟩,hle,e5,h.m32,hML,h.mb,hl1,⟨e6.1,e6.2.1,?_⟩,?_,rfl,hk2,h.sd,⟨rfl,rfl⟩,h.ridb,⟨?_,?_⟩,?_,λx hx=> ?_⟩
  ·show Wy M A mA gA (ep2+1) p.na ep2 p.b.ik p.b.ii p.b.lD p.b.kl p.ia p.ja;exact h.wa.up (λ_ _=>rfl) Ac Ac (dp _)
  ·show Wy M B mB _ (ep2+1) p.nb p.b.tD (Bm B (nI p.a.ii n)) (nI p.a.ii n) lo ((nJ p.a.ii p.jb n).map _) (nI p.ib n) (nJ p.ib p.jb n);rw[<-e8]at hw⊢;exact hw.up (λ_ _=>rfl) Ac (an _) Ac
  ·show p.b.tD<=ep2;omega
  ·show max p.a.tD l<=ep2+1;omega
  ·show a2<=T+1;omega
  ·show p.b.aD<=T+1;omega
  ·show ep2<=T+1;omega
  ·exact(h.fl x hx).up p.a.ep (λ_ _=>rfl) (λn hn=>⟨rfl,h.wa.cu n hn⟩) (λn hn=>⟨rfl,by have :=h.wb.cu n hn;omega⟩) ⟨an _,an _,show p.a.ep<=ep2 by omega⟩ hup λ_ _ _ q=>q
end
theorem vL (rX:Ad):JN 0 (pA rX) (pB rX) (λ_=>pM rX) (λ_=>0) (λ_=>0) (λ_=>(0,0)) (λ_=>(0,0)) (EH rX):=by
 have hm:∀(e:AZ),e=[pM rX]->MI (λ_=>pM rX) 0 e:=λe h=>by
  subst h;exact⟨an 1,λi hi=>by
   have :i=0:=by simp at hi;omega
   subst this;rfl⟩
 have hw:∀X,Wy (λ_=>pM rX) X (λ_=>0) (λ_=>(0,0)) 1 0 0 X 0 0 [] 0 []:=λX=>⟨rfl,rfl,an _,zO _,rfl,λk hk=>absurd hk (bd k),λk k' _ hk=>absurd hk (bd k'),⟨an _,λk _ _=>an _⟩,λk hk=>absurd hk (bd k),dp 0⟩;refine⟨⟨rfl,Mq ..⟩,vX _,vW _,⟨rfl,rfl⟩,⟨rfl,rfl⟩,hw _,hw _,⟨an _,an _⟩,rfl,rfl,λ_=>vU _,hm _ rfl,hm _ rfl,an _,⟨an _,an _,an _⟩,br _,rfl,⟨.inl ⟨rfl,rfl⟩,.inl ⟨rfl,rfl,rfl,rfl,Good.nil _ _ _,λ_=>rfl⟩,rfl,rfl⟩,rfl,⟨rfl,rfl⟩,⟨rfl,rfl⟩,⟨an _,an _⟩,an _,λx hx=>by cases hx⟩
def KM (hy:Bool) (p:PS) (kd who:Int) (n dr:Int) (raw:Ad) (q:PS):Con:=⟨[.cp 0 0,.ag (Ag [vi kd,vi who,vi n,vi dr,lb raw])],([(0,CQ 1 6 p.na p.ia (ints p.ja) p.nb p.ib (ints p.jb) 11),(1,Bc p.ida true hy 2 3 (rP hy 4) p.a.lT p.a.mx p.a.lD p.a.tD p.a.kl),(2,Al p.a.ok p.a.oi),(3,Al p.a.ik p.a.ii)]++rH hy [(4,AI p.a.st p.a.ep p.a.aD p.a.sd p.a.tx 5),(5,AQ p.a.rD p.a.rT p.a.bx)]++[(6,Bc p.idb false hy 7 8 (rP hy 9) p.b.lT p.b.mx p.b.lD p.b.tD p.b.kl),(7,Al p.b.ok p.b.oi),(8,Al p.b.ik p.b.ii)]++rH hy [(9,AI p.b.st p.b.ep p.b.aD p.b.sd p.b.tx 10),(10,AQ p.b.rD p.b.rT p.b.bx)]++[(11,.sl 48 CJ p.fl)]),.tu (Ag [.v (.bool true),.v (.bool (!QG q.ida q.idb q.a q.b))]),([(0,CQ 13 16 q.na q.ia (ints q.ja) q.nb q.ib (ints q.jb) 19),(13,Bc q.ida true hy 14 15 (rP hy 20) q.a.lT q.a.mx q.a.lD q.a.tD q.a.kl),(14,Al q.a.ok q.a.oi),(15,Al q.a.ik q.a.ii),(16,Bc q.idb false hy 17 18 (rP hy 22) q.b.lT q.b.mx q.b.lD q.b.tD q.b.kl),(17,Al q.b.ok q.b.oi),(18,Al q.b.ik q.b.ii),(19,.sl 48 CJ q.fl)]++rH hy [(20,AI q.a.st q.a.ep q.a.aD q.a.sd q.a.tx 21),(21,AQ q.a.rD q.a.rT q.a.bx),(22,AI q.b.st q.b.ep q.b.aD q.b.sd q.b.tx 23),(23,AQ q.b.rD q.b.rT q.b.bx)])⟩
theorem j8 {hy:Bool} (ih:IsB hy) (p:PS) (kd who:Int) (n dr:Int) (raw:Ad) (q:PS) (hs:∀raw,AO 26 (KM hy p kd who n dr raw q)):AO 26 (KM hy p kd who n dr raw q):=hs raw
def JX (i:Nat) (p:PS):Prop:=∃A B M mA mB gA gB,JN i A B M mA mB gA gB p
theorem Wx (rX:Ad):JX 0 (EH rX):=⟨_,_,_,_,_,_,_,vL rX⟩
theorem JX.le {i:Nat} {p:PS} (h:JX i p):p.ia<=i/\p.ib<=i/\p.fl.length<=i:=by obtain⟨A,B,M,mA,mB,gA,gB,h⟩:=h;have e1:=h.t;have e2:=h.wa.le;have e3:=h.wb.le;omega
theorem JX.agr {i:Nat} {p:PS} (h:JX i p):QG p.ida p.idb p.a p.b=true:=by obtain⟨A,B,M,mA,mB,gA,gB,h⟩:=h;exact h.agr
theorem JX.sh {i:Nat} {p:PS} (h:JX i p) (hi:i<=9000):(KOk p.a.kl/\p.a.ii=p.ib/\QO p.a.kl=ints p.jb)/\KOk p.b.kl/\p.b.ii=p.ia/\QO p.b.kl=ints p.ja:=by obtain⟨A,B,M,mA,mB,gA,gB,h⟩:=h;obtain⟨oa,ob⟩:=h.eok Ac;exact⟨⟨oa.K,h.wb.ii,by rw[h.wb.kl];exact KB (λ_=>rfl) _⟩,ob.K,h.wa.ii,by rw[h.wa.kl];exact KB (λ_=>rfl) _⟩
theorem Ty {l:LzF} {k:Nat} (h:k<l.length):l.getD k FB∈l:=by show List.getD (α:=Int×Int×Ad×Ad) l k (0,0,[],[])∈l;rw[al,am h];exact gr h
theorem JX.step {hy:Bool} (ih:IsB hy) {i:Nat} {p:PS} (h:JX i p) (hi:i<=1000) (kd who n dr:Int):∃q,(∀raw,AO 26 (KM hy p kd who n dr raw q))/\((hy=true->QG q.ida q.idb q.a q.b=true)->JX (i+1) q):=by
 obtain⟨A,B,M,mA,mB,gA,gB,h⟩:=h;obtain⟨oa,ob⟩:=h.eok Ac;have e1:=h.t;have e2:=h.wa.le;have e3:=h.wb.le;have e4:=h.ep;have hr2:=Jz who (n:=2) (by decide);have hb:=zG (HA n 520) dr;have up:JX (i+1) p:=⟨_,_,_,_,_,_,_,h.up⟩;by_cases h1:kd=1
 ·subst h1;have go:∀q,AO 14 (Y3 hy p q (HA who 2) (MW (HA n 520) dr) (Bl dr))->JX (i+1) q->∃q,(∀raw,AO 26 (KM hy p 1 who n dr raw q))/\((hy=true->QG q.ida q.idb q.a q.b=true)->JX (i+1) q):=λq hc hj=>by have hj2:=hj;obtain⟨A,B,M,mA,mB,gA,gB,hj⟩:=hj;obtain⟨ja,jb⟩:=hj.eok Ac;exact⟨q,λraw=>vH ih p q who n dr raw hc ja.toSndOk jb.toSndOk,λ_=>hj2⟩
  by_cases h3:HA who 2=0
  ·by_cases h2:HA n 520<=500
   ·exact go _ (by rw[h3];exact Ww ih p _ _ oa.toSndOk h.oi.1 Ac Ac (Ci _)) ⟨_,_,_,_,_,_,_,h.sqA hy Ac Ac hb.2 (Ci _)⟩
   ·exact go p (by rw[h3];exact oJ ih p _ _ Ac (Ci _)) up
  ·have h3:HA who 2=1:=by omega
   by_cases h2:HA n 520<=500
   ·exact go _ (by rw[h3];exact vF ih p _ _ ob.toSndOk h.oi.2 Ac Ac (Ci _)) ⟨_,_,_,_,_,_,_,h.sqB hy Ac Ac hb.2 (Ci _)⟩
   ·exact go p (by rw[h3];exact oI ih p _ _ Ac (Ci _)) up
 ·by_cases h2:kd=2
  ·subst h2;by_cases h3:p.fl.length=0
   ·exact⟨p,λraw=>vG ih p who n dr raw oa.toSndOk ob.toSndOk h3,λ_=>up⟩
   ·have hk:=Jz n (n:=p.fl.length) Ac;obtain⟨m,t,q,k1,k2,⟨k3,k4,k5⟩|⟨l,k3,k4,k5,k6⟩⟩:=h.fl _ (Ty hk)
    ·have c1:=h.wa.cu m k4;have hql:q.length<=1040:=by
      rcases k5 with rfl|⟨pa,d,rfl,k5⟩
      ·exact br _
      ·exact EL ⟨by omega,by have :=k5.2.1;omega,by decide⟩ (by have :=k5.2.2.1;omega)
     have hfl:=Vv (n:=m) (m:=mA m) (l:=mA m) (ok:=Bm A m) (mix:=M (mA m)) ⟨by omega,by omega,by omega⟩ hql k1;by_cases hs:LM p.ia p.ja m=true
     ·obtain⟨x2,M2,gA2,hD,hJ⟩:=h.dqA hy Ac (r2:=Bl dr) k1 k2 k4 k5 hs;exact⟨p.dlvA x2 m,λraw=>SP ih p _ who n dr raw ⟨by omega,by omega⟩ (fB ih p _ _ m t _ x2 ob hfl (Ci _) k3 ⟨hk,by omega⟩ h.wa.R ⟨by omega,by omega⟩ hD.G hs hD.I hD.J hD.E.K) oa.toSndOk hD.E.toSndOk,λ_=>⟨_,_,_,_,_,_,_,hJ.up⟩⟩
     ·have hs:LM p.ia p.ja m=false:=by simpa using hs
      have hR:=X8 (id:=p.idb) (fi:=false) (l:=mA m) (M:=M) (tT:=t) (by rw[h.wa.ii];exact h.wa.ik) h.wa.kl (by rw[h.wa.ii];exact h.wa.R) (h.wa.gIn k4 (t:=p.b.lT+p.b.mx.length) (by have :=h.eb;have :=h.kj.ne;omega)) (by rw[h.wa.ii];exact hs) ⟨by omega,by omega,by omega⟩ hql k1;rw[h.wa.ii]at hR;exact⟨p,λraw=>SP ih p _ who n dr raw ⟨by omega,by omega⟩ (oL ih p _ _ m t _ ob hfl (Ci _) k3 ⟨hk,by omega⟩ h.wa.R ⟨by omega,by omega⟩ hR hs h.wa.ii (by rw[h.wa.kl];exact KB (λ_=>rfl) _)) oa.toSndOk ob.toSndOk,λ_=>up⟩
    ·have c1:=h.wb.cu m k4;have c2:=h.lb;have hql:q.length<=1040:=by
      rcases k6 with rfl|⟨e,pa,d,rfl,k6⟩
      ·exact br _
      ·exact EL ⟨by have :=k6.1;have :=h.kj.ne;omega,by have :=k6.2.1;omega,by decide⟩ (by have :=k6.2.2.1;omega)
     have hfl:=Vv (n:=m) (m:=mB m) (l:=l) (ok:=Bm B m) (mix:=M (mB m)) ⟨by omega,by omega,by omega⟩ hql k1;by_cases hs:LM p.ib p.jb m=true
     ·obtain⟨x2,gB2,hD,hJ⟩:=h.dqB hy Ac (r2:=Bl dr) k1 k2 k4 k5 k6 hs;exact⟨p.dlvB x2 m,λraw=>SP ih p _ who n dr raw ⟨by omega,by omega⟩ (vJ ih p _ _ m t _ x2 oa hfl (Ci _) k3 ⟨hk,by omega⟩ h.wb.R ⟨by omega,by omega⟩ hD.G hs hD.I hD.J hD.E.K) hD.E.toSndOk ob.toSndOk,λhg=>⟨_,_,_,_,_,_,_,hJ hg⟩⟩
     ·have hs:LM p.ib p.jb m=false:=by simpa using hs
      have hR:=X8 (id:=p.ida) (fi:=true) (l:=l) (M:=M) (tT:=t) (by rw[h.wb.ii];exact h.wb.ik) h.wb.kl (by rw[h.wb.ii];exact h.wb.R) (h.wb.gIn k4 (t:=p.a.lT+p.a.mx.length) (by have :=h.ea;omega)) (by rw[h.wb.ii];exact hs) ⟨by omega,by omega,by omega⟩ hql k1;rw[h.wb.ii]at hR;exact⟨p,λraw=>SP ih p _ who n dr raw ⟨by omega,by omega⟩ (oK ih p _ _ m t _ oa hfl (Ci _) k3 ⟨hk,by omega⟩ h.wb.R ⟨by omega,by omega⟩ hR hs h.wb.ii (by rw[h.wb.kl];exact KB (λ_=>rfl) _)) oa.toSndOk ob.toSndOk,λ_=>up⟩
  ·refine⟨p,λraw=> ?_,λ_=>up⟩;by_cases h3:kd=3
   ·subst h3;have l:=h.lde Ac;by_cases h4:HA who 2=0
    ·exact fA ih p who n dr raw oa.toSndOk ob.toSndOk h4 l.1
    ·exact eZ ih p who n dr raw oa.toSndOk ob.toSndOk Ac l.2
   ·exact vI ih p who n dr raw kd oa.toSndOk ob.toSndOk ⟨h1,h2,h3⟩
def pZ:PS:=AR (EH (replicate 32 (0:Int)))
theorem Aaw:JX 0 pZ:=by unfold pZ;rw[Ab];exact Wx _
theorem AbY:pZ.ia=0/\pZ.ja=[]/\pZ.na=0/\pZ.fl=[]:=by unfold pZ;rw[Ab];exact⟨rfl,rfl,rfl,rfl⟩
def VV:Con:=⟨[lb (replicate 32 (0:Int)),.v (.bool false)],[],.tu (Ag [.cp 0 0,.v (.bool true)]),[(0,CQ 1 4 pZ.na pZ.ia (ints pZ.ja) pZ.nb pZ.ib (ints pZ.jb) 7),(1,D6 pZ.ida true false 2 3 pZ.a.lT pZ.a.mx pZ.a.lD pZ.a.tD pZ.a.kl),(2,Al pZ.a.ok pZ.a.oi),(3,Al pZ.a.ik pZ.a.ii),(4,D6 pZ.idb false false 5 6 pZ.b.lT pZ.b.mx pZ.b.lD pZ.b.tD pZ.b.kl),(5,Al pZ.b.ok pZ.b.oi),(6,Al pZ.b.ik pZ.b.ii),(7,.sl 48 CJ pZ.fl)]⟩
theorem Z3:AO 12 (VV):=by have h:=R5 (replicate 32 (0:Int)) rfl;unfold VV pZ;rw[Ab];exact h
theorem mL (ida idb:Ad) (a b:EndH) (ha:SndOk true a) (hb:SndOk false b) (hag:QG ida idb a b=true):AO 17 ⟨[.cp 0 0,.cp 5 0],[(0,D6 ida true false 1 2 a.lT a.mx a.lD a.tD a.kl),(1,Al a.ok a.oi),(2,Al a.ik a.ii),(5,D6 idb false false 6 7 b.lT b.mx b.lD b.tD b.kl),(6,Al b.ok b.oi),(7,Al b.ik b.ii)],.v (.bool true),[(0,D6 ida true false 1 2 a.lT a.mx a.lD a.tD a.kl),(1,Al a.ok a.oi),(2,Al a.ik a.ii),(5,D6 idb false false 6 7 b.lT b.mx b.lD b.tD b.kl),(6,Al b.ok b.oi),(7,Al b.ik b.ii)]⟩:=by have h:=Jf (hy:=false) ⟨⟩ ida idb a b ha hb;unfold lZ at h;rw[hag]at h;exact h
theorem Dt:AO 11 ⟨[],[],.v (.bool true),[]⟩:=by
 refine cy 0 func11 rfl ntmps11 λY V=>Ak [] 0 V λV=>Ay [(0,QP .mf [(32:Int)=32,(0:Int)<=32,1*32<=281474976710656,(32:Int)<=9223372036854775807] ⟨rfl,by omega,by omega,by omega,aa⟩),(1,AC (Z3) [] q14_)] [] 8 V λV=>He ?_;obtain⟨A,B,M,mA,mB,gA,gB,h0⟩:=Aaw;obtain⟨z1,z2,z3,z4⟩:=AbY;have o0:=(h0.eok (by decide)).1.toSndOk;have n1:pZ.fl.length<=1000000:=by rw[z4];decide
 have h1:=h0.sqA false (by decide) (tT:=[97]) (rQ:=Bl 1) (by decide) (by1 (by decide)) (Ci _);have c1:=Ww (hy:=false) ⟨⟩ pZ [97] (Bl 1) o0 h0.oi.1 n1 (by decide) (Ci _);obtain⟨p1,e1⟩:∃y,y=pZ.sqA false [97] (Bl 1):=⟨_,rfl⟩;have w1:p1.na=pZ.na+1/\p1.fl=pZ.fl++[((0:Int),((pZ.a.oi:Nat):Int),[97],pZ.a.fq false true [97] (Bl 1))]/\p1.ia=pZ.ia/\p1.ja=pZ.ja:=by rw[e1];exact⟨rfl,rfl,rfl,rfl⟩
 replace c1:AO 14 (Y3 false pZ p1 0 [97] (Bl 1)):=by rw[e1];exact c1
 rw[<-e1]at h1;have o1:=(h1.eok (by decide)).1.toSndOk;have n2:p1.fl.length<=1000000:=by rw[w1.2.1,z4];exact(by decide:1<=1000000)
 have h2:=h1.sqA false (by decide) (tT:=[98]) (rQ:=Bl 2) (by decide) (by1 (by decide)) (Ci _);have c2:=Ww (hy:=false) ⟨⟩ p1 [98] (Bl 2) o1 h1.oi.1 n2 (by decide) (Ci _);obtain⟨p2,e2⟩:∃y,y=p1.sqA false [98] (Bl 2):=⟨_,rfl⟩;have w2:∃fr,p2.fl=(pZ.fl++[((0:Int),((pZ.a.oi:Nat):Int),[97],pZ.a.fq false true [97] (Bl 1))])++[((0:Int),((p1.a.oi:Nat):Int),[98],fr)]:=by rw[e2,<-w1.2.1];exact⟨_,rfl⟩
 have w3:p2.ia=pZ.ia/\p2.ja=pZ.ja:=by rw[e2];exact w1.2.2
 replace c2:AO 14 (Y3 false p1 p2 0 [98] (Bl 2)):=by rw[e2];exact c2
 obtain⟨mA2,h2⟩:∃mA2,JN 2 A B M mA2 mB gA gB p2:=⟨_,by rw[e2];exact h2⟩;have o2:=(h2.eok (by decide)).2;obtain⟨fr,w2⟩:=w2;rw[z4]at w2;have n3:1<p2.fl.length/\1<1000000:=by rw[w2];exact⟨(by decide:1<2),by decide⟩
 have hg1:p2.fl.getD 1 FB=((0:Int),((p1.a.oi:Nat):Int),[98],fr):=by rw[w2];rfl
 obtain⟨m,t,q,k1,k2,⟨k3,k4,k5⟩|⟨l,k3,k4,k5,k6⟩⟩:=h2.fl _ (Ty n3.1);rotate_left
 ·rw[hg1]at k3;simp at k3
 rw[hg1]at k3;simp only[Prod.mk.injEq,true_and]at k3;obtain⟨m1,rfl,rfl⟩:=k3;obtain rfl:m=1:=by have e:=h1.oi.1;omega
 rw[m1]at hg1;have hs:LM p2.ia p2.ja 1=true:=by rw[w3.1,w3.2,z1,z2];rfl
 obtain⟨x2,M2,gA2,hD,hJ⟩:=h2.dqA false (by decide) (r2:=Bl 3) k1 k2 k4 k5 hs;have hql:q.length<=1040:=by
  rcases k5 with rfl|⟨pa,d,rfl,k5⟩
  ·exact br _
  ·exact EL ⟨by have :=h2.ep;have :=h2.wa.cu 1 k4;omega,by have :=k5.2.1;omega,by decide⟩ (by have :=k5.2.2.1;omega)
 have v1:=h2.wa.cu 1 k4;have hep:=h2.ep;have hfl:=Vv (n:=1) (ok:=Bm A 1) (mix:=M (mA2 1)) (tT:=[98]) ⟨by decide,b_ v1 (b_ hep (by decide)),b_ v1 (b_ hep (by decide))⟩ hql k1;have c3:=fB (hy:=false) ⟨⟩ p2 1 (Bl 3) 1 [98] _ x2 o2 hfl (Ci _) hg1 n3 h2.wa.R ⟨by decide,by rw[w3.1,z1];decide⟩ hD.G hs hD.I hD.J hD.E.K;have hX:JX _ (p2.dlvA x2 1):=⟨_,_,_,_,_,_,_,hJ⟩;have o3:=hJ.eok (by decide);have hX8:=hX.sh (by decide);have hag:=hX.agr;have hk8:QO (p2.dlvA x2 1).b.kl=[0]:=by rw[hX8.2.2.2];show ints (nJ p2.ia p2.ja 1)=_;rw[w3.1,w3.2,z1,z2];rfl
 obtain⟨p3,e3⟩:∃y,y=p2.dlvA x2 1:=⟨_,rfl⟩;replace c3:AO 16 (t6 false p2 p3 1 (Bl 3)):=by rw[e3];exact c3
 rw[<-e3]at hX hX8 hag hk8 o3;refine Aw [(4,QQ),(5,OZ (0<[97].length) (by decide)),(6,AS (E8 1)),(7,Jp (((λ(_ _:PS) (_:Nat) (_ _:Ad)=>c1)) pZ p1 0 [97] (Bl 1)) q13_ [(13,9),(14,10),(15,11),(16,12),(17,13),(18,14),(19,15)] [.cp 0 0,vi 0,lb ([97]:Ad),lb (Bl 1)] [some (CQ 1 4 pZ.na pZ.ia (ints pZ.ja) pZ.nb pZ.ib (ints pZ.jb) 7),some (D6 pZ.ida true false 2 3 pZ.a.lT pZ.a.mx pZ.a.lD pZ.a.tD pZ.a.kl),some (Al pZ.a.ok pZ.a.oi),some (Al pZ.a.ik pZ.a.ii),some (D6 pZ.idb false false 5 6 pZ.b.lT pZ.b.mx pZ.b.lD pZ.b.tD pZ.b.kl),some (Al pZ.b.ok pZ.b.oi),some (Al pZ.b.ik pZ.b.ii),some (.sl 48 CJ pZ.fl)]),(12,QQ),(13,OZ (0<[98].length) (by decide)),(14,AS (E8 2)),(15,Jp (((λ(_ _:PS) (_:Nat) (_ _:Ad)=>c2)) p1 p2 0 [98] (Bl 2)) [(0,0),(1,9),(2,10),(3,11),(6,12),(7,13),(8,14),(11,15)] [(13,17),(14,18),(15,19),(16,20),(17,21),(18,22),(19,23)] [.cp 0 0,vi 0,lb ([98]:Ad),lb (Bl 2)] [some (CQ 9 12 p1.na p1.ia (ints p1.ja) p1.nb p1.ib (ints p1.jb) 15),some (D6 p1.ida true false 10 11 p1.a.lT p1.a.mx p1.a.lD p1.a.tD p1.a.kl),some (Al p1.a.ok p1.a.oi),some (Al p1.a.ik p1.a.ii),some (D6 p1.idb false false 13 14 p1.b.lT p1.b.mx p1.b.lD p1.b.tD p1.b.kl),some (Al p1.b.ok p1.b.oi),some (Al p1.b.ik p1.b.ii),some (.sl 48 CJ p1.fl)]),(20,AS (E8 3)),(21,Jp (((λ(_ _:PS) (_:Nat) (_:Ad)=>c3)) p2 p3 1 (Bl 3)) [(0,0),(1,17),(2,18),(3,19),(6,20),(7,21),(8,22),(11,23)] [(13,24),(14,25),(15,26),(16,27),(17,28),(18,29),(19,30)] [.cp 0 0,vi 1,lb (Bl 3)] [some (CQ 17 20 p2.na p2.ia (ints p2.ja) p2.nb p2.ib (ints p2.jb) 23),some (D6 p2.ida true false 18 19 p2.a.lT p2.a.mx p2.a.lD p2.a.tD p2.a.kl),some (Al p2.a.ok p2.a.oi),some (Al p2.a.ik p2.a.ii),some (D6 p2.idb false false 21 22 p2.b.lT p2.b.mx p2.b.lD p2.b.tD p2.b.kl),some (Al p2.b.ok p2.b.oi),some (Al p2.b.ik p2.b.ii),some (.sl 48 CJ p2.fl)])] [] 31 V λV=>Ae (Ai V (BR (Ay [(0,AS (dK))] [] 31 V λV=>Ao ?_)));have hq9:(QG p3.ida p3.idb p3.a p3.b)=true:=hag;exact Aw [(3,AN 1 2),(5,AC (Qa (hy:=false) ⟨⟩ p3.idb false p3.b hX8.2.1) [(0,27),(1,28),(2,29)] []),(7,AS (Qd (QO p3.b.kl) [0] hk8)),(16,AN 0 2),(21,AN 1 2),(23,Jp (mL p3.ida p3.idb p3.a p3.b o3.1.toSndOk o3.2.toSndOk hag) [(0,24),(1,25),(2,26),(5,27),(6,28),(7,29)] [] [.cp 24 0,.cp 27 0] [some (D6 p3.ida true false 25 26 p3.a.lT p3.a.mx p3.a.lD p3.a.tD p3.a.kl),some (Al p3.a.ok p3.a.oi),some (Al p3.a.ik p3.a.ii),some (D6 p3.idb false false 28 29 p3.b.lT p3.b.mx p3.b.lD p3.b.tD p3.b.kl),some (Al p3.b.ok p3.b.oi),some (Al p3.b.ik p3.b.ii)])] [] 31 V λV=>Fa (BN V)
theorem aJ (p:PS) (kd:Int) (who n dr:Int) (raw:Ad) (q:PS) (hs:∀raw,AO 26 (KM false p kd who n dr raw q)) (hag:QG q.ida q.idb q.a q.b=true):AO 26 ⟨[.cp 0 0,.ag (Ag [vi kd,vi who,vi n,vi dr,lb raw])],[(0,CQ 1 6 p.na p.ia (ints p.ja) p.nb p.ib (ints p.jb) 11),(1,D6 p.ida true false 2 3 p.a.lT p.a.mx p.a.lD p.a.tD p.a.kl),(2,Al p.a.ok p.a.oi),(3,Al p.a.ik p.a.ii),(6,D6 p.idb false false 7 8 p.b.lT p.b.mx p.b.lD p.b.tD p.b.kl),(7,Al p.b.ok p.b.oi),(8,Al p.b.ik p.b.ii),(11,.sl 48 CJ p.fl)],.tu (Ag [.v (.bool true),.v (.bool false)]),[(0,CQ 13 16 q.na q.ia (ints q.ja) q.nb q.ib (ints q.jb) 19),(13,D6 q.ida true false 14 15 q.a.lT q.a.mx q.a.lD q.a.tD q.a.kl),(14,Al q.a.ok q.a.oi),(15,Al q.a.ik q.a.ii),(16,D6 q.idb false false 17 18 q.b.lT q.b.mx q.b.lD q.b.tD q.b.kl),(17,Al q.b.ok q.b.oi),(18,Al q.b.ik q.b.ii),(19,.sl 48 CJ q.fl)]⟩:=by have h:=hs raw;unfold KM at h;rw[hag]at h;exact h
theorem Z5 (rX:Ad) (hr:rX.length=32):AO 12 ⟨[lb rX,.v (.bool false)],[],.tu (Ag [.cp 0 0,.v (.bool true)]),[(0,CQ 1 4 ((EH rX).na) ((EH rX).ia) (ints (EH rX).ja) ((EH rX).nb) ((EH rX).ib) (ints (EH rX).jb) 7),(1,D6 ((EH rX).ida) true false 2 3 ((EH rX).a.lT) ((EH rX).a.mx) ((EH rX).a.lD) ((EH rX).a.tD) ((EH rX).a.kl)),(2,Al ((EH rX).a.ok) ((EH rX).a.oi)),(3,Al ((EH rX).a.ik) ((EH rX).a.ii)),(4,D6 ((EH rX).idb) false false 5 6 ((EH rX).b.lT) ((EH rX).b.mx) ((EH rX).b.lD) ((EH rX).b.tD) ((EH rX).b.kl)),(5,Al ((EH rX).b.ok) ((EH rX).b.oi)),(6,Al ((EH rX).b.ik) ((EH rX).b.ii)),(7,.sl 48 CJ ((EH rX).fl))]⟩:=R5 rX hr
theorem AaE {b:Bool} (h:¬((!b)=true)):b=true:=by
 cases b
 ·exact absurd rfl h
 ·rfl
theorem sZ (xs:Ad) (m:Nat):2<=Bu xs m:=by
 unfold Bu;rw[Ab];split
 ·decide
 ·unfold D_;rw[Ab];split<;>decide
theorem vB (xs:Ad):2<=DU xs:=by
 unfold DU;rw[Ab];split
 ·decide
 ·unfold Ep;rw[Ab];split<;>exact sZ ..
theorem vA (xs a b:Ad):2<=DT xs a b:=by
 unfold DT;rw[Ab];split
 ·decide
 ·unfold Do;rw[Ab];split
  ·split
   ·split
    ·exact sZ ..
    ·decide
   ·decide
  ·decide
theorem RO (xs:Ad):2<=CG xs:=by
 unfold CG;rw[Ab];split
 ·split
  ·decide
  ·exact vA ..
 ·exact vB ..
theorem Uv (key num data tT:Ad):(BA key num data tT).2=0\/(BA key num data tT).2=2:=by
 unfold BA;rw[Ab];show(Ic _ _ _ _ _ _ _ _ _ _).2=0\/(Ic _ _ _ _ _ _ _ _ _ _).2=2;unfold Ic;rw[Ab];split
 ·exact .inr rfl
 ·split
  ·exact .inl rfl
  ·exact .inr rfl
theorem PX (id:Ad) (fi:Bool) (ok:Ad) (oi:Nat) (ik:Ad) (ii lT:Nat) (mx:AZ) (lD tD:Nat) (kl:List KR) (hb:Ad) (hi hn hh:Nat) (hp hx:Ad):2<=Bj id fi ok oi ik ii lT mx lD tD kl hb hi hn hh hp hx:=by
 unfold Bj;rw[Ab];split
 ·split
  ·decide
  ·split<;>decide
 ·split
  ·split<;>decide
  ·rename_i h;have h:¬(ii<=hi/\hi<=ii+40):=λe=>h (decide_eq_true e);by_cases h1:hi<ii
   ·rw[kM h1];decide
   ·rw[Xb Ac];decide
theorem nE {id:Ad} {fi:Bool} {ok:Ad} {oi:Nat} {ik:Ad} {ii lT:Nat} {mx:AZ} {lD tD:Nat} {kl:List KR} {xs rQ:Ad} (h:Gj id fi ok oi ik ii lT mx lD tD kl xs rQ=false):2<=Cx id fi ok oi ik ii lT mx lD tD kl xs rQ:=by
 unfold Gj at h;rw[Ab]at h;unfold Cx;rw[Ab];split at h
 ·rename_i h1;rw[ab h1];split at h
  ·rename_i h2;rw[ab h2];split at h
   ·cases h
   ·rename_i h3;rcases Uv (BU id fi ok oi ik ii lT mx lD tD kl (Aa xs).1 (Aa xs).2.1 (Aa xs).2.2.1 (Aa xs).2.2.2.1 (Aa xs).2.2.2.2.1 (Aa xs).2.2.2.2.2) (replicate 12 (0:Int)) (Aa xs).1 (Aa xs).2.2.2.2.2 with h4|h4
    ·exact absurd (by rw[h4];rfl) h3
    ·rw[h4];exact an _
  ·rename_i h2;rw[aj h2];exact PX ..
 ·rename_i h1;rw[aj h1];exact RO ..
theorem vD {id:Ad} {fi:Bool} {ok:Ad} {oi:Nat} {ik:Ad} {ii lT:Nat} {mx:AZ} {lD tD:Nat} {kl:List KR} {xs rQ:Ad} (h:Ed id fi ok oi ik ii lT mx lD tD kl xs rQ=false):2<=Cx id fi ok oi ik ii lT mx lD tD kl xs (rQ.drop 64):=by
 unfold Ed at h;rw[Ab]at h;refine nE (h:= ?_);split at h
 ·cases h
 ·rename_i h1;exact BH h1
theorem aL (b:Ad):(F_ b).2.2.2.2=2\/∃pid pa ct d,b=BJ pid pa ct d/\(pa<ct/\ct<=1073741824/\pid<=1073741824)/\(1<=d.length/\d.length<=1000):=by
 unfold F_;rw[Ab];split
 ·split
  ·split
   ·rename_i h1 h2;refine .inr ⟨(B8 b).1,(B8 b).2.1,(B8 b).2.2.1,(B8 b).2.2.2,?_⟩;revert h1 h2;generalize(B8 b).1=i;generalize(B8 b).2.1=a;generalize(B8 b).2.2.1=c;generalize(B8 b).2.2.2=d;intro h1 h2;unfold F8 at h1 h2;rw[Ab]at h1 h2;split at h1
    ·rename_i g1;rw[ab g1]at h2;split at h1
     ·rename_i g2;rw[ab g2]at h2;split at h1
      ·rename_i g3;rw[ab g3]at h2;split at h1
       ·cases h1
       ·rename_i g4;rw[aj g4]at h2;split at h1
        ·cases h1
        ·rename_i g5;rw[aj g5]at h2;have k1:=uJ g1;have k2:=uJ g2;have k3:=uJ g3;exact⟨h2.symm,by omega,by omega⟩
      ·cases h1
     ·cases h1
    ·cases h1
   ·exact .inl rfl
  ·exact .inl rfl
 ·exact .inl rfl
theorem YI {ln:Nat} {bx:CE} (hl:ln=1088\/ln=1184) (hb:bx=B0\/∃pa d,pa<2/\(1<=d.length/\d.length<=1000)/\d.length=min 1000 (ln-pa*1000)/\bx=A2 B0 pa d) {a:Nat} {d:Ad} (ha:a<2) (hd:d.length=min 1000 (ln-a*1000)) (hf:C_ (A2 bx a d)=true):((Gt (A2 bx a d)).flatten).length=ln:=by
 rcases hb with rfl|⟨p,e,h1,_,h3,rfl⟩
 ·rw[T5 d ha]at hf;cases hf
 ·have :p=0\/p=1:=by omega
  have :a=0\/a=1:=by omega
  rcases ‹p=0\/p=1›with rfl|rfl<;>rcases ‹a=0\/a=1›with rfl|rfl
  ·cases hf
  ·show(e++(d++[])).length=ln;simp only[ah,av];omega
  ·show(d++(e++[])).length=ln;simp only[ah,av];omega
  ·cases hf
theorem zK {st ep:Nat} {sd tx:Ad} {id ln:Nat} {bx:CE} (hL:LdOk st ep sd tx id ln bx) (he:ep<=400000000) (b:Ad):∃q:Nat×Nat×Ad,GB st ep sd tx bx b q.1 q.2.1 q.2.2\/Ob st ep b\/T4 st ep tx bx b:=by
 by_cases h0:b=[]
 ·exact⟨(0,0,[]),.inl (.inl h0)⟩
 rcases aL b with h|⟨p,a,c,d,rfl,h1,h2⟩
 ·exact⟨(0,0,[]),.inr (.inr (.inl ⟨h0,h⟩))⟩
 by_cases hs:(st=1/\p<=2*ep)\/(st≠1/\p<2*ep)\/(st=3/\p=2*ep)
 ·exact⟨(0,0,[]),.inr (.inl ⟨p,a,c,d,rfl,h1,h2,hs⟩)⟩
 have hns:(st=1->2*ep<p)/\(st≠1->2*ep<=p)/\(st=3->p≠2*ep):=by omega
 have bad:(st=1->p=2*ep+1->1<=tx.length->¬Ft 1088 bx a c d)->(st=2->p=2*ep->¬Ft 1184 bx a c d)->(st=3->p=2*ep+2->¬Ft 1184 (replicate 2 none) a c d)->∃q:Nat×Nat×Ad,GB st ep sd tx bx (BJ p a c d) q.1 q.2.1 q.2.2\/Ob st ep (BJ p a c d)\/T4 st ep tx bx (BJ p a c d):=λh4 h5 h6=>⟨(0,0,[]),.inr (.inr (.inr ⟨p,a,c,d,rfl,h1,h2,.inl ⟨hns,h4,h5,h6⟩⟩))⟩;rcases hL.or with⟨rfl,_,_,_,rfl⟩|⟨rfl,_,_,_,rfl,rfl⟩|⟨rfl,_,rfl,_,rfl,rfl⟩|⟨rfl,hsd,htx,_,rfl⟩
 ·by_cases hp:p=2*ep
  ·by_cases hf:Ft 1184 bx a c d
   ·obtain⟨rfl,f1,f2,f3⟩:=hf;by_cases hfu:C_ (A2 bx a d)=true
    ·have hlen:=YI (.inr rfl) hL.bx f1 f2 hfu;by_cases hck:chk ((Gt (A2 bx a d)).flatten)=0
     ·exact⟨(p,a,d),.inl (.inr ⟨rfl,f1,h2,by omega,f2,.inr (.inl ⟨by decide,by omega⟩),λ_ _=>f3,λh=>absurd h (by decide),λ_ _ _=>⟨hck,hlen⟩,λh=>absurd h (by decide)⟩)⟩
     ·exact⟨(0,0,[]),.inr (.inr (.inr ⟨p,a,2,d,rfl,h1,h2,.inr ⟨rfl,hp,⟨rfl,f1,f2,f3⟩,hfu,hck,hlen⟩⟩))⟩
    ·exact⟨(p,a,d),.inl (.inr ⟨rfl,f1,h2,by omega,f2,.inr (.inl ⟨by decide,by omega⟩),λ_ _=>f3,λh=>absurd h (by decide),λ_ _ h=>absurd h hfu,λh=>absurd h (by decide)⟩)⟩
   ·exact bad (λh=>absurd h (by decide)) (λ_ _=>hf) (λh=>absurd h (by decide))
  ·exact bad (λh=>absurd h (by decide)) (λ_ h=>absurd h hp) (λh=>absurd h (by decide))
 ·by_cases hp:p=2*ep+2
  ·by_cases hf:Ft 1184 (replicate 2 none) a c d
   ·obtain⟨rfl,f1,f2,f3⟩:=hf;exact⟨(p,a,d),.inl (.inr ⟨rfl,f1,h2,by omega,f2,.inr (.inr ⟨rfl,hp⟩),λ_ h=>absurd rfl h,λh=>absurd h (by decide),λ_ h=>by omega,λh=>absurd h (by decide)⟩)⟩
   ·exact bad (λh=>absurd h (by decide)) (λh=>absurd h (by decide)) (λ_ _=>hf)
  ·exact bad (λh=>absurd h (by decide)) (λh=>absurd h (by decide)) (λ_ h=>absurd h hp)
 ·exact bad (λ_ _ h=>absurd h (by decide)) (λh=>absurd h (by decide)) (λh=>absurd h (by decide))
 ·have htl:tx.length=1184:=by rw[htx];exact(GQ _ _ (by rw[au];omega)).1
  by_cases hp:p=2*ep+1
  ·by_cases hf:Ft 1088 bx a c d
   ·obtain⟨rfl,f1,f2,f3⟩:=hf;exact⟨(p,a,d),.inl (.inr ⟨rfl,f1,h2,by omega,f2,.inl ⟨rfl,by omega⟩,λ_ _=>f3,λ_ _=>⟨by omega,hsd⟩,λh=>absurd rfl h,λ_ _ h=>YI (.inl rfl) hL.bx f1 f2 h⟩)⟩
   ·exact bad (λ_ _ _=>hf) (λh=>absurd h (by decide)) (λh=>absurd h (by decide))
  ·exact bad (λ_ h=>absurd h hp) (λh=>absurd h (by decide)) (λh=>absurd h (by decide))
open Classical in
def pz (e:EndH) (xs:Ad):Nat×Nat×Ad:=if h:∃q:Nat×Nat×Ad,GB e.st e.ep e.sd e.tx e.bx (Aa xs).2.2.2.2.1 q.1 q.2.1 q.2.2\/Ob e.st e.ep (Aa xs).2.2.2.2.1\/T4 e.st e.ep e.tx e.bx (Aa xs).2.2.2.2.1 then Classical.choose h else(0,0,[])
theorem s6 {e:EndH} (hL:LdOk e.st e.ep e.sd e.tx e.rD e.rT e.bx) (he:e.ep<=400000000) (xs:Ad):GB e.st e.ep e.sd e.tx e.bx (Aa xs).2.2.2.2.1 (pz e xs).1 (pz e xs).2.1 (pz e xs).2.2\/Ob e.st e.ep (Aa xs).2.2.2.2.1\/T4 e.st e.ep e.tx e.bx (Aa xs).2.2.2.2.1:=by have h:=zK hL he (Aa xs).2.2.2.2.1;unfold pz;rw[dif_pos h];exact Classical.choose_spec h
section
variable (hy:Bool) (id:Ad) (fi:Bool) (e:EndH)
def uX (xs rQ:Ad):Bool:=bif hy then Dv id fi e.ok e.oi e.ik e.ii e.lT e.mx e.lD e.tD e.kl e.st e.ep e.aD e.sd e.tx e.rD e.rT e.bx xs rQ (pz e xs).1 (pz e xs).2.1 (pz e xs).2.2 else Ed id fi e.ok e.oi e.ik e.ii e.lT e.mx e.lD e.tD e.kl xs rQ
def rzT (xs rQ:Ad):Ad×Nat:=bif hy then(Br id fi e.ok e.oi e.ik e.ii e.lT e.mx e.lD e.tD e.kl e.st e.ep e.aD e.sd e.tx e.rD e.rT e.bx xs rQ (pz e xs).1 (pz e xs).2.1 (pz e xs).2.2).2.2.2.2.2.2.2.2.2.2.2.2.2.2.2 else(De id fi e.ok e.oi e.ik e.ii e.lT e.mx e.lD e.tD e.kl xs rQ).2.2.2.2.2
def X0 (xs rQ:Ad):Nat:=bif hy then BM id fi e.ok e.oi e.ik e.ii e.lT e.mx e.lD e.tD e.kl e.st e.ep e.aD e.sd e.tx e.rD e.rT e.bx xs (rQ.drop 64) (pz e xs).1 (pz e xs).2.1 (pz e xs).2.2 else Cx id fi e.ok e.oi e.ik e.ii e.lT e.mx e.lD e.tD e.kl xs (rQ.drop 64)
end
theorem cV {id:Ad} {fi:Bool} {ok:Ad} {oi:Nat} {ik:Ad} {ii:Nat} {lT:Nat} {mx:AZ} {lD:Nat} {tD:Nat} {kl:List KR} {st:Nat} {ep:Nat} {aD:Nat} {sd:Ad} {tx:Ad} {rD:Nat} {rT:Nat} {bx:CE} {xs rQ:Ad} {pid pa:Nat} {d:Ad} (h:Eo id fi ok oi ik ii lT mx lD tD kl st ep aD sd tx rD rT bx xs rQ pid pa d=false):2<=BM id fi ok oi ik ii lT mx lD tD kl st ep aD sd tx rD rT bx xs rQ pid pa d:=by
 have hq:=H8 (id:=id) (fi:=fi) (ok:=ok) (oi:=oi) (ik:=ik) (ii:=ii) (lT:=lT) (mx:=mx) (lD:=lD) (tD:=tD) (kl:=kl) (st:=st) (ep:=ep) (aD:=aD) (sd:=sd) (tx:=tx) (rD:=rD) (rT:=rT) (bx:=bx) (hb:=(Aa xs).1) (hi:=(Aa xs).2.1) (hn:=(Aa xs).2.2.1) (hh:=(Aa xs).2.2.2.1) (hp:=(Aa xs).2.2.2.2.1) (hx:=(Aa xs).2.2.2.2.2);unfold Eo at h;rw[Ab]at h;unfold BM;rw[Ab];by_cases h1:B9 xs=true
 ·rw[ab h1]at h⊢;by_cases h2:BG id fi ok oi ik ii lT mx lD tD kl st ep aD sd tx rD rT bx (Aa xs).1 (Aa xs).2.1 (Aa xs).2.2.1 (Aa xs).2.2.2.1 (Aa xs).2.2.2.2.1 (Aa xs).2.2.2.2.2=true
  ·rw[ab h2]at h⊢;split
   ·rename_i h3;rw[ab h3]at h;split
    ·rename_i h4;rw[ab h4]at h;cases h
    ·exact an _
   ·rename_i h3;rcases Uv _ _ _ _ with h4|h4
    ·exact absurd (by rw[h4];rfl) h3
    ·rw[h4];exact an _
  ·rw[aj h2,hq.2.2];exact PX ..
 ·rw[aj h1];exact RO ..
theorem SC {hy:Bool} {id:Ad} {fi:Bool} {e:EndH} {xs rQ:Ad} (h:uX hy id fi e xs rQ=false):2<=X0 hy id fi e xs rQ:=by
 cases hy
 ·exact vD h
 ·have h:Dv id fi e.ok e.oi e.ik e.ii e.lT e.mx e.lD e.tD e.kl e.st e.ep e.aD e.sd e.tx e.rD e.rT e.bx xs rQ (pz e xs).1 (pz e xs).2.1 (pz e xs).2.2=false:=h;unfold Dv at h;rw[Ab]at h;refine cV (rQ:=rQ.drop 64) (h:= ?_);split at h
  ·cases h
  ·rename_i h1;exact BH h1
theorem Ow {hy:Bool} (ih:IsB hy) (id:Ad) (fi:Bool) (e:EndH) (xs rQ:Ad) (hE:EOk fi e) (hL:LdOk e.st e.ep e.sd e.tx e.rD e.rT e.bx) (hf:xs.length<=50000) (hr:rQ.length=128) (hk:uX hy id fi e xs rQ=true):AO 19 ⟨[.cp 0 0,lb xs,lb rQ],([(0,Bc id fi hy 1 2 (rP hy 3) e.lT e.mx e.lD e.tD e.kl),(1,Al e.ok e.oi),(2,Al e.ik e.ii)]++rH hy [(3,AI e.st e.ep e.aD e.sd e.tx 4),(4,AQ e.rD e.rT e.bx)]),.tu (Ag [lb (rzT hy id fi e xs rQ).1,vi (((rzT hy id fi e xs rQ).2:Nat):Int),vi 0]),[]⟩:=by
 cases hy
 ·exact(PD id fi e.ok e.oi e.ik e.ii e.lT e.mx e.lD e.tD e.kl xs rQ hE.ok hE.ik (by have :=hE.oi;omega) (by have :=hE.ii;omega) ⟨hE.m1.1,by have :=hE.m1.2;omega⟩ hE.m2 (by have :=hE.lT;omega) hE.K ⟨hE.ll.1,by have :=hE.ll.2;omega⟩ (by have :=hE.td;omega) hf hr hk).rn [(0,0),(1,1),(2,2)] _ []
 ·exact(NU id fi e.ok e.oi e.ik e.ii e.lT e.mx e.lD e.tD e.kl e.st e.ep e.aD e.sd e.tx e.rD e.rT e.bx xs rQ (pz e xs).1 (pz e xs).2.1 (pz e xs).2.2 hE.ok hE.ik (by have :=hE.oi;omega) (by have :=hE.ii;omega) ⟨hE.m1.1,by have :=hE.m1.2;omega⟩ hE.m2 (by have :=hE.lT;omega) hE.K ⟨hE.ll.1,by have :=hE.ll.2;omega⟩ (by have :=hE.td;omega) hE.mn hE.st hE.rT hE.rD hE.bx (by have :=hE.ep;omega) (λ_ _ _=>s6 hL (by have :=hE.ep;omega) xs) hf hr hk).rn [(0,0),(1,1),(2,2),(3,3),(4,4)] _ []
theorem Ox {hy:Bool} (ih:IsB hy) (id:Ad) (fi:Bool) (e:EndH) (xs rQ:Ad) (hE:EOk fi e) (hL:LdOk e.st e.ep e.sd e.tx e.rD e.rT e.bx) (hf:xs.length<=50000) (hr:rQ.length=128) (hk:uX hy id fi e xs rQ=false):AO 19 ⟨[.cp 0 0,lb xs,lb rQ],([(0,Bc id fi hy 1 2 (rP hy 3) e.lT e.mx e.lD e.tD e.kl),(1,Al e.ok e.oi),(2,Al e.ik e.ii)]++rH hy [(3,AI e.st e.ep e.aD e.sd e.tx 4),(4,AQ e.rD e.rT e.bx)]),.tu (Ag [.v (.slice none 0 0),vi 0,vi ((X0 hy id fi e xs rQ:Nat):Int)]),([(0,Bc id fi hy 1 2 (rP hy 3) e.lT e.mx e.lD e.tD e.kl),(1,Al e.ok e.oi),(2,Al e.ik e.ii)]++rH hy [(3,AI e.st e.ep e.aD e.sd e.tx 4),(4,AQ e.rD e.rT e.bx)])⟩:=by
 cases hy
 ·exact Md id fi e.ok e.oi e.ik e.ii e.lT e.mx e.lD e.tD e.kl xs rQ hE.ok hE.ik (by have :=hE.oi;omega) (by have :=hE.ii;omega) ⟨hE.m1.1,by have :=hE.m1.2;omega⟩ hE.m2 (by have :=hE.lT;omega) hE.K ⟨hE.ll.1,by have :=hE.ll.2;omega⟩ (by have :=hE.td;omega) hf hr hk
 ·exact KW id fi e.ok e.oi e.ik e.ii e.lT e.mx e.lD e.tD e.kl e.st e.ep e.aD e.sd e.tx e.rD e.rT e.bx xs rQ (pz e xs).1 (pz e xs).2.1 (pz e xs).2.2 hE.ok hE.ik (by have :=hE.oi;omega) (by have :=hE.ii;omega) ⟨hE.m1.1,by have :=hE.m1.2;omega⟩ hE.m2 (by have :=hE.lT;omega) hE.K ⟨hE.ll.1,by have :=hE.ll.2;omega⟩ (by have :=hE.td;omega) hE.mn hE.st hE.rT hE.rD hE.bx (by have :=hE.ep;omega) (λ_ _ _=>s6 hL (by have :=hE.ep;omega) xs) hf hr hk
section
variable (b:Ad) (bit:Int)
def Lt:Ad:=AR (if(0:Int)<((([]++b).length:Nat):Int)then([]++b).set ((HA bit (8*(([]++b).length)))/8) (AV .u8 (([]++b).getD ((HA bit (8*(([]++b).length)))/8) 0) (BW .u8 1 (((HA bit (8*(([]++b).length)))%8:Nat):Int)))else[]++b)
theorem Ey:(Lt b bit).length=b.length:=by
 unfold Lt;rw[Ab];split
 ·rw[c_];rfl
 ·rfl
def yZ (z_:Ad:=Lt b bit):Con:=⟨[lb b,vi bit],[],lb z_,[]⟩
theorem OH (hb:b.length<=100000):AO 28 (yZ b bit):=by
 refine cy 0 func28 rfl ntmps28 λY V=> ?_;have Fp:b.length<=9223372036854775807:=V.len 0 rfl;refine Ak [] 0 V λV=>Ay [(0,QQ),(2,GJ 0 b.length 1)] [] 2 V λV=>Ao (Ak [] 2 V λV=>AH ((0:Int)<((([]++b).length:Nat):Int)) V (λh1=> ?_) (λh1=> ?_))
 ·refine Ao ?_;have hba:(([]:Ad)++b).length=b.length:=rfl;refine Aw [(3,HV 8 (([]++b).length) (8*(([]++b).length))),(4,AS (Dc bit (8*(([]++b).length)) Ac))] [] 2 V λV=>Ae ?_;have hrl:=Jz bit (n:=8*(([]:Ad)++b).length) Ac;refine Aw [(2,V9 (HA bit (8*(([]++b).length))) 8),(5,V9 (HA bit (8*(([]++b).length))) 8),(6,AN ((HA bit (8*(([]++b).length)))/8) (([]++b).length)),(9,M6 (HA bit (8*(([]++b).length))) 8),(10,If ((HA bit (8*(([]++b).length)))%8)),(12,AN ((HA bit (8*(([]++b).length)))/8) (([]++b).length))] [] 2 V λV=>Ae (Ak [] 2 V λV=>AU ?_);obtain⟨gs,V⟩:=V.fz 1;exact BX (.trans (Ab _) (ab h1)) V
 ·refine BR (Ak [] 2 V λV=>AU ?_);obtain⟨gs,V⟩:=V.fz 1;exact BX (.trans (Ab _) (aj h1)) V
end
theorem JX.any {i:Nat} {p:PS} (h:JX i p) (hi:i<=9000):(EOk true p.a/\EOk false p.b)/\(LdE true p.ida p.a/\LdE false p.idb p.b)/\∀k,k<p.fl.length->(p.fl.getD k FB).2.2.2.length<=50000:=by
 obtain⟨A,B,M,mA,mB,gA,gB,h⟩:=h;have e1:=h.t;have e4:=h.ep;refine⟨h.eok Ac,h.lde Ac,λk hk=> ?_⟩;obtain⟨m,t,q,k1,k2,⟨k3,k4,k5⟩|⟨l,k3,k4,k5,k6⟩⟩:=h.fl _ (Ty hk)
 ·have c1:=h.wa.cu m k4;rw[k3];refine Vv ⟨by omega,by omega,by omega⟩ ?_ k1;rcases k5 with rfl|⟨pa,d,rfl,k5⟩
  ·exact br _
  ·exact EL ⟨by omega,by have :=k5.2.1;omega,by decide⟩ (by have :=k5.2.2.1;omega)
 ·have c1:=h.wb.cu m k4;have c2:=h.lb;rw[k3];refine Vv ⟨by omega,by omega,by omega⟩ ?_ k1;rcases k6 with rfl|⟨e,pa,d,rfl,k6⟩
  ·exact br _
  ·exact EL ⟨by have :=k6.1;have :=h.kj.ne;omega,by have :=k6.2.1;omega,by decide⟩ (by have :=k6.2.2.1;omega)
section
variable (rX:Ad) (l:List (Int×Int×Int×Int×Ad)) (bit:Int) (raw:Ad)
theorem dE:AO 9 ⟨[lb rX,.v (.bool true),.ls false wM l,vi bit,lb raw],[],.v (.bool true),[]⟩:=by
 refine cy 0 func9 rfl ntmps9 λY V=> ?_;have Fp:rX.length<=9223372036854775807:=V.len 0 rfl;have EK:l.length<=9223372036854775807:=V.len 2 rfl;have AaV:raw.length<=9223372036854775807:=V.len 4 rfl;refine Ak [] 0 V λV=>He ?_;by_cases h1:((rX.length:Nat):Int)=32
 ·by_cases h2:(20:Int)<((l.length:Nat):Int)
  ·exact Aw [(2,Gd h1),(6,Ga h2)] [] 0 V λV=>Ae (AE V (Ay [(0,AS (Dt))] [] 0 V λV=>AU (Aj (BN V))))
  ·refine Aw [(2,Gd h1),(6,CH h2)] [] 0 V λV=>Ae (AH ((3000:Int)<((raw.length:Nat):Int)) V (λh3=> ?_) (λh3=> ?_))
   ·exact Ay [(0,AS (Dt))] [] 0 V λV=>AU (Aj (BN V))
   ·refine BR (Ay [(2,AC (WO rX Au) [] q11_)] [] 12 V λV=>Ao (Ak [] 12 V λV=>Ai V (DZ (Ak [] 12 V λV=>BK (AD (ι:=Nat×PS) Y V (λ(i,p)=>(l.length-i,[(13,vi ((i:Nat):Int))],[(0,CQ 1 6 p.na p.ia (ints p.ja) p.nb p.ib (ints p.jb) 11),(1,G4 p.ida true true 2 3 4 p.a.lT p.a.mx p.a.lD p.a.tD p.a.kl),(2,Al p.a.ok p.a.oi),(3,Al p.a.ik p.a.ii),(4,AI p.a.st p.a.ep p.a.aD p.a.sd p.a.tx 5),(5,AQ p.a.rD p.a.rT p.a.bx),(6,G4 p.idb false true 7 8 9 p.b.lT p.b.mx p.b.lD p.b.tD p.b.kl),(7,Al p.b.ok p.b.oi),(8,Al p.b.ik p.b.ii),(9,AI p.b.st p.b.ep p.b.aD p.b.sd p.b.tx 10),(10,AQ p.b.rD p.b.rT p.b.bx),(11,.sl 48 CJ p.fl)],(i<=l.length)/\(JX i p)/\True)) [1,2,3,4,11] [] 12 (0,(EH rX)) q11_ ⟨Ac,Wx rX,aa⟩ ?_)))));rintro⟨i,p⟩ ac gs ws ⟨hi,hI,_⟩ V;refine Ao (Ak [] 12 V λV=>AH ((i:Int)<((l.length:Nat):Int)) V (λh4=> ?_) (λh4=> ?_))
    ·refine B6 (Ao ?_);obtain⟨q,hq,hqJ⟩:=hI.step (hy:=true) ⟨⟩ Ac (l.getD i Jk).1 (l.getD i Jk).2.1 (l.getD i Jk).2.2.1 (l.getD i Jk).2.2.2.1;have hIl:=hI.le;refine Aw [(3,AN i l.length),(5,AC (j8 (hy:=true) ⟨⟩ p (l.getD i Jk).1 (l.getD i Jk).2.1 (l.getD i Jk).2.2.1 (l.getD i Jk).2.2.2.1 (l.getD i Jk).2.2.2.2 q hq) q11_ [(13,12),(14,13),(15,14),(16,15),(17,16),(18,17),(19,18),(20,19),(21,20),(22,21),(23,22)])] [] 23 V λV=>CV (Ak [] 23 V λV=>Ai V (DZ (Ak [] 23 V λV=>Qe (!QG q.ida q.idb q.a q.b) V (λh5=> ?_) (λh5=> ?_))))
     ·exact Ay [(2,AS (Dt))] [] 23 V λV=>AU (Aj (As (Aj (Aj (As (Aj (BN V)))))))
     ·refine DZ ?_;have hI9:=hqJ (λ_=>AaE (Ka h5));have hz:=hI9.any Ac;have hIm:=hI9.le;refine CW [] 23 V λV=>Ae (BK (wp_loop_rounds 3 ?_));refine AX (n:=2) (Ao (Ak [66] 23 V λV=>AE V (B6 (Ak [70] 23 V λV=>Tq (ι:=Ad) V (λy0=>([(17,lb y0)],[],(y0.length<=50000)/\True)) [1,2,3,4,11,13,16,66,67,70] [0,12,13,14,15,16,17,18,19,20,21,22] 23 ?_ ?_))))
      ·refine Ao ?_;by_cases h6:(0:Int)<((q.fl.length:Nat):Int)
       ·refine Aw [(5,Ga h6),(8,NI ((2:Int)≠0))] q6_ 23 V λV=>Ae (AH ((DY bit 2)=0) V (λh7=> ?_) (λh7=> ?_))
        ·have hrl:=Jz (i:Int) (n:=q.fl.length) Ac;have hfk:=hz.2.2 _ hrl;exact Aw [(10,AS (Dc (i:Int) q.fl.length Ac)),(11,AN (HA (i:Int) q.fl.length) q.fl.length),(17,AS (OH ((((q.fl.getD (HA (i:Int) q.fl.length) FB).2).2).2) (A6 .i64 bit (i:Int)) Au))] q5_ 23 V λV=>Ae (G0 Y V (Lt ((((q.fl.getD (HA (i:Int) q.fl.length) FB).2).2).2) (A6 .i64 bit (i:Int))) q10_ ⟨(by first |omega|(rw[Ey];omega)),aa⟩)
        ·exact BR (G0 Y V raw q10_ ⟨(by first |omega|(rw[Ey];omega)),aa⟩)
       ·exact Aw [(5,CH h6)] q8_ 23 V λV=>Ae (Ai V (BR (G0 Y V raw q10_ ⟨(by first |omega|(rw[Ey];omega)),aa⟩)))
      ·rintro y0 ac gs ws ⟨hy0,_⟩ V;refine Ay [(4,AN 0 2),(6,AC (Fh (hy:=true) ⟨⟩ q.ida true q.a hz.2.1.1) q15_ [])] q7_ 23 V λV=>Ao ?_;by_cases h8:uX true q.ida true q.a y0 (Bl (i:Int))=true
       ·exact Aw [(4,AN 0 2),(8,AS (E8 (i:Int))),(9,AC (Ow (hy:=true) ⟨⟩ q.ida true q.a y0 (Bl (i:Int)) hz.1.1 hz.2.1.1.L hy0 (Ci _) h8) q15_ [])] q4_ 23 V λV=>CV (Ak [121] 23 V λV=>AE V (Ay [(0,AS (Dt))] [123] 23 V λV=>AU (Aj (As (Aj (Aj (As (As (Aj (Aj (As (Aj (BN V)))))))))))))
       ·refine Aw [(4,AN 0 2),(8,AS (E8 (i:Int))),(9,AC (Ox (hy:=true) ⟨⟩ q.ida true q.a y0 (Bl (i:Int)) hz.1.1 hz.2.1.1.L hy0 (Ci _) (BH h8)) q15_ [])] q4_ 23 V λV=>CV (Ao ?_);have hge:2<=X0 true q.ida true q.a y0 (Bl (i:Int)):=SC (BH A3);have he0:¬((X0 true q.ida true q.a y0 (Bl (i:Int)):Nat):Int)=0:=Ac;have he1:¬((X0 true q.ida true q.a y0 (Bl (i:Int)):Nat):Int)=1:=Ac;have hsv:DW (Sv true q.ida true q.a)=DW (Sv true q.ida true q.a):=rfl;refine Aw [(1,CH he0)] [121] 23 V λV=>Ae (Ai V (BR (Ay [(1,CH he1),(16,AN 0 2),(18,AC (Fh (hy:=true) ⟨⟩ q.ida true q.a hz.2.1.1) q15_ []),(22,TX false [(!((DW (Sv true q.ida true q.a)).toList==(DW (Sv true q.ida true q.a)).toList))=false] ⟨by rw[beq_self_eq_true _];rfl,aa⟩)] q3_ 23 V λV=>Ai V (GT (CW [16,68,69] 23 V λV=>Ae ?_)))));refine AX (n:=1) (Ao (Ak [66] 23 V λV=>AE V (B6 (Ak [70] 23 V λV=>Tq (ι:=Ad) V (λy1=>([(17,lb y1)],[],(y1.length<=50000)/\True)) q1_ [0,12,13,14,15,16,17,18,19,20,21,22] 23 ?_ ?_))))
        ·refine Ao ?_;by_cases h9:(0:Int)<((q.fl.length:Nat):Int)
         ·refine Aw [(5,Ga h9),(8,NI ((2:Int)≠0))] q6_ 23 V λV=>Ae (AH ((DY bit 2)=0) V (λh10=> ?_) (λh10=> ?_))
          ·have hrl:=Jz (i:Int) (n:=q.fl.length) Ac;have hfk:=hz.2.2 _ hrl;exact Aw [(10,AS (Dc (i:Int) q.fl.length Ac)),(11,AN (HA (i:Int) q.fl.length) q.fl.length),(17,AS (OH ((((q.fl.getD (HA (i:Int) q.fl.length) FB).2).2).2) (A6 .i64 bit (i:Int)) Au))] q5_ 23 V λV=>Ae (G0 Y V (Lt ((((q.fl.getD (HA (i:Int) q.fl.length) FB).2).2).2) (A6 .i64 bit (i:Int))) q10_ ⟨(by first |omega|(rw[Ey];omega)),aa⟩)
          ·exact BR (G0 Y V raw q10_ ⟨(by first |omega|(rw[Ey];omega)),aa⟩)
         ·exact Aw [(5,CH h9)] q8_ 23 V λV=>Ae (Ai V (BR (G0 Y V raw q10_ ⟨(by first |omega|(rw[Ey];omega)),aa⟩)))
        ·rintro y1 ac gs ws ⟨hy1,_⟩ V;refine Ay [(4,AN 1 2),(6,AC (Fh (hy:=true) ⟨⟩ q.idb false q.b hz.2.1.2) q16_ [])] q7_ 23 V λV=>Ao ?_;by_cases h11:uX true q.idb false q.b y1 (Bl (i:Int))=true
         ·exact Aw [(4,AN 1 2),(8,AS (E8 (i:Int))),(9,AC (Ow (hy:=true) ⟨⟩ q.idb false q.b y1 (Bl (i:Int)) hz.1.2 hz.2.1.2.L hy1 (Ci _) h11) q16_ [])] q4_ 23 V λV=>CV (Ak [121] 23 V λV=>AE V (Ay [(0,AS (Dt))] [123] 23 V λV=>AU (Aj (As (Aj (Aj (As (As (Aj (Aj (As (Aj (BN V)))))))))))))
         ·refine Aw [(4,AN 1 2),(8,AS (E8 (i:Int))),(9,AC (Ox (hy:=true) ⟨⟩ q.idb false q.b y1 (Bl (i:Int)) hz.1.2 hz.2.1.2.L hy1 (Ci _) (BH h11)) q16_ [])] q4_ 23 V λV=>CV (Ao ?_);have hge:2<=X0 true q.idb false q.b y1 (Bl (i:Int)):=SC (BH A3);have he0:¬((X0 true q.idb false q.b y1 (Bl (i:Int)):Nat):Int)=0:=Ac;have he1:¬((X0 true q.idb false q.b y1 (Bl (i:Int)):Nat):Int)=1:=Ac;have hsv:DW (Sv true q.idb false q.b)=DW (Sv true q.idb false q.b):=rfl;refine Aw [(1,CH he0)] [121] 23 V λV=>Ae (Ai V (BR (Ay [(1,CH he1),(16,AN 1 2),(18,AC (Fh (hy:=true) ⟨⟩ q.idb false q.b hz.2.1.2) q16_ []),(22,TX false [(!((DW (Sv true q.idb false q.b)).toList==(DW (Sv true q.idb false q.b)).toList))=false] ⟨by rw[beq_self_eq_true _];rfl,aa⟩)] q3_ 23 V λV=>Ai V (GT (CW [16,68,69] 23 V λV=>Ae ?_)))));exact AX (n:=0) (Ao (Ak [] 23 V λV=>Ai V (V8 (Aw [(1,CF i)] q2_ 23 V λV=>Ae (Av Y V (i+1,q) [(0,0),(1,12),(2,13),(3,14),(4,19),(5,20),(6,15),(7,16),(8,17),(9,21),(10,22),(11,18)] ⟨Ac,hI9,aa⟩)))))
    ·have hT:=V;obtain rfl:l.length=i:=by omega
     have V:=hT;exact DF (Ay [(0,AS (Dt))] [] 12 V λV=>AU (BN V))
 ·exact Aw [(2,bN h1)] [] 0 V λV=>Ae (AE V (Ay [(0,AS (Dt))] [] 0 V λV=>AU (Aj (BN V))))
theorem dG:AO 9 ⟨[lb rX,.v (.bool false),.ls false wM l,vi bit,lb raw],[],.v (.bool true),[]⟩:=by
 refine cy 0 func9 rfl ntmps9 λY V=> ?_;have Fp:rX.length<=9223372036854775807:=V.len 0 rfl;have EK:l.length<=9223372036854775807:=V.len 2 rfl;have AaV:raw.length<=9223372036854775807:=V.len 4 rfl;refine Ak [] 0 V λV=>He ?_;by_cases h1:((rX.length:Nat):Int)=32
 ·by_cases h2:(20:Int)<((l.length:Nat):Int)
  ·exact Aw [(2,Gd h1),(6,Ga h2)] [] 0 V λV=>Ae (AE V (Ay [(0,AS (Dt))] [] 0 V λV=>AU (Aj (BN V))))
  ·refine Aw [(2,Gd h1),(6,CH h2)] [] 0 V λV=>Ae (AH ((3000:Int)<((raw.length:Nat):Int)) V (λh3=> ?_) (λh3=> ?_))
   ·exact Ay [(0,AS (Dt))] [] 0 V λV=>AU (Aj (BN V))
   ·refine BR (Ay [(2,AC (Z5 rX Au) [] q14_)] [] 8 V λV=>Ao (Ak [] 8 V λV=>Ai V (DZ (Ak [] 8 V λV=>BK (AD (ι:=Nat×PS) Y V (λ(i,p)=>(l.length-i,[(13,vi ((i:Nat):Int))],[(0,CQ 1 4 p.na p.ia (ints p.ja) p.nb p.ib (ints p.jb) 7),(1,D6 p.ida true false 2 3 p.a.lT p.a.mx p.a.lD p.a.tD p.a.kl),(2,Al p.a.ok p.a.oi),(3,Al p.a.ik p.a.ii),(4,D6 p.idb false false 5 6 p.b.lT p.b.mx p.b.lD p.b.tD p.b.kl),(5,Al p.b.ok p.b.oi),(6,Al p.b.ik p.b.ii),(7,.sl 48 CJ p.fl)],(i<=l.length)/\(JX i p)/\True)) [1,2,3,4,11] [] 8 (0,(EH rX)) q14_ ⟨Ac,Wx rX,aa⟩ ?_)))));rintro⟨i,p⟩ ac gs ws ⟨hi,hI,_⟩ V;refine Ao (Ak [] 8 V λV=>AH ((i:Int)<((l.length:Nat):Int)) V (λh4=> ?_) (λh4=> ?_))
    ·refine B6 (Ao ?_);obtain⟨q,hq,hqJ⟩:=hI.step (hy:=false) ⟨⟩ Ac (l.getD i Jk).1 (l.getD i Jk).2.1 (l.getD i Jk).2.2.1 (l.getD i Jk).2.2.2.1;have hIl:=hI.le;have hI9:=hqJ (λe=>by cases e);have hag:=hI9.agr;refine Aw [(3,AN i l.length),(5,AC (aJ p (l.getD i Jk).1 (l.getD i Jk).2.1 (l.getD i Jk).2.2.1 (l.getD i Jk).2.2.2.1 (l.getD i Jk).2.2.2.2 q hq hag) q13_ [(13,8),(14,9),(15,10),(16,11),(17,12),(18,13),(19,14)])] [] 15 V λV=>CV (Ak [] 15 V λV=>Ai V (DZ (Ak [] 15 V λV=>Ai V (DZ ?_))));have hz:=hI9.any Ac;have hIm:=hI9.le;refine CW [] 15 V λV=>Ae (BK (wp_loop_rounds 3 ?_));refine AX (n:=2) (Ao (Ak [66] 15 V λV=>AE V (B6 (Ak [70] 15 V λV=>Tq (ι:=Ad) V (λy0=>([(17,lb y0)],[],(y0.length<=50000)/\True)) [1,2,3,4,11,13,16,66,67,70] [0,8,9,10,11,12,13,14] 15 ?_ ?_))))
     ·refine Ao ?_;by_cases h5:(0:Int)<((q.fl.length:Nat):Int)
      ·refine Aw [(5,Ga h5),(8,NI ((2:Int)≠0))] q6_ 15 V λV=>Ae (AH ((DY bit 2)=0) V (λh6=> ?_) (λh6=> ?_))
       ·have hrl:=Jz (i:Int) (n:=q.fl.length) Ac;have hfk:=hz.2.2 _ hrl;exact Aw [(10,AS (Dc (i:Int) q.fl.length Ac)),(11,AN (HA (i:Int) q.fl.length) q.fl.length),(17,AS (OH ((((q.fl.getD (HA (i:Int) q.fl.length) FB).2).2).2) (A6 .i64 bit (i:Int)) Au))] q5_ 15 V λV=>Ae (G0 Y V (Lt ((((q.fl.getD (HA (i:Int) q.fl.length) FB).2).2).2) (A6 .i64 bit (i:Int))) q12_ ⟨(by first |omega|(rw[Ey];omega)),aa⟩)
       ·exact BR (G0 Y V raw q12_ ⟨(by first |omega|(rw[Ey];omega)),aa⟩)
      ·exact Aw [(5,CH h5)] q8_ 15 V λV=>Ae (Ai V (BR (G0 Y V raw q12_ ⟨(by first |omega|(rw[Ey];omega)),aa⟩)))
     ·rintro y0 ac gs ws ⟨hy0,_⟩ V;refine Ay [(4,AN 0 2),(6,AC (Fh (hy:=false) ⟨⟩ q.ida true q.a hz.2.1.1) q18_ [])] q7_ 15 V λV=>Ao ?_;by_cases h7:uX false q.ida true q.a y0 (Bl (i:Int))=true
      ·exact Aw [(4,AN 0 2),(8,AS (E8 (i:Int))),(9,AC (Ow (hy:=false) ⟨⟩ q.ida true q.a y0 (Bl (i:Int)) hz.1.1 hz.2.1.1.L hy0 (Ci _) h7) q18_ [])] q4_ 15 V λV=>CV (Ak [121] 15 V λV=>AE V (Ay [(0,AS (Dt))] [123] 15 V λV=>AU (Aj (As (Aj (Aj (As (As (Aj (Aj (As (Aj (BN V)))))))))))))
      ·refine Aw [(4,AN 0 2),(8,AS (E8 (i:Int))),(9,AC (Ox (hy:=false) ⟨⟩ q.ida true q.a y0 (Bl (i:Int)) hz.1.1 hz.2.1.1.L hy0 (Ci _) (BH h7)) q18_ [])] q4_ 15 V λV=>CV (Ao ?_);have hge:2<=X0 false q.ida true q.a y0 (Bl (i:Int)):=SC (BH A3);have he0:¬((X0 false q.ida true q.a y0 (Bl (i:Int)):Nat):Int)=0:=Ac;have he1:¬((X0 false q.ida true q.a y0 (Bl (i:Int)):Nat):Int)=1:=Ac;have hsv:DW (Sv false q.ida true q.a)=DW (Sv false q.ida true q.a):=rfl;refine Aw [(1,CH he0)] [121] 15 V λV=>Ae (Ai V (BR (Ay [(1,CH he1),(16,AN 0 2),(18,AC (Fh (hy:=false) ⟨⟩ q.ida true q.a hz.2.1.1) q18_ []),(22,TX false [(!((DW (Sv false q.ida true q.a)).toList==(DW (Sv false q.ida true q.a)).toList))=false] ⟨by rw[beq_self_eq_true _];rfl,aa⟩)] q3_ 15 V λV=>Ai V (GT (CW [16,68,69] 15 V λV=>Ae ?_)))));refine AX (n:=1) (Ao (Ak [66] 15 V λV=>AE V (B6 (Ak [70] 15 V λV=>Tq (ι:=Ad) V (λy1=>([(17,lb y1)],[],(y1.length<=50000)/\True)) q1_ [0,8,9,10,11,12,13,14] 15 ?_ ?_))))
       ·refine Ao ?_;by_cases h8:(0:Int)<((q.fl.length:Nat):Int)
        ·refine Aw [(5,Ga h8),(8,NI ((2:Int)≠0))] q6_ 15 V λV=>Ae (AH ((DY bit 2)=0) V (λh9=> ?_) (λh9=> ?_))
         ·have hrl:=Jz (i:Int) (n:=q.fl.length) Ac;have hfk:=hz.2.2 _ hrl;exact Aw [(10,AS (Dc (i:Int) q.fl.length Ac)),(11,AN (HA (i:Int) q.fl.length) q.fl.length),(17,AS (OH ((((q.fl.getD (HA (i:Int) q.fl.length) FB).2).2).2) (A6 .i64 bit (i:Int)) Au))] q5_ 15 V λV=>Ae (G0 Y V (Lt ((((q.fl.getD (HA (i:Int) q.fl.length) FB).2).2).2) (A6 .i64 bit (i:Int))) q12_ ⟨(by first |omega|(rw[Ey];omega)),aa⟩)
         ·exact BR (G0 Y V raw q12_ ⟨(by first |omega|(rw[Ey];omega)),aa⟩)
        ·exact Aw [(5,CH h8)] q8_ 15 V λV=>Ae (Ai V (BR (G0 Y V raw q12_ ⟨(by first |omega|(rw[Ey];omega)),aa⟩)))
       ·rintro y1 ac gs ws ⟨hy1,_⟩ V;refine Ay [(4,AN 1 2),(6,AC (Fh (hy:=false) ⟨⟩ q.idb false q.b hz.2.1.2) q17_ [])] q7_ 15 V λV=>Ao ?_;by_cases h10:uX false q.idb false q.b y1 (Bl (i:Int))=true
        ·exact Aw [(4,AN 1 2),(8,AS (E8 (i:Int))),(9,AC (Ow (hy:=false) ⟨⟩ q.idb false q.b y1 (Bl (i:Int)) hz.1.2 hz.2.1.2.L hy1 (Ci _) h10) q17_ [])] q4_ 15 V λV=>CV (Ak [121] 15 V λV=>AE V (Ay [(0,AS (Dt))] [123] 15 V λV=>AU (Aj (As (Aj (Aj (As (As (Aj (Aj (As (Aj (BN V)))))))))))))
        ·refine Aw [(4,AN 1 2),(8,AS (E8 (i:Int))),(9,AC (Ox (hy:=false) ⟨⟩ q.idb false q.b y1 (Bl (i:Int)) hz.1.2 hz.2.1.2.L hy1 (Ci _) (BH h10)) q17_ [])] q4_ 15 V λV=>CV (Ao ?_);have hge:2<=X0 false q.idb false q.b y1 (Bl (i:Int)):=SC (BH A3);have he0:¬((X0 false q.idb false q.b y1 (Bl (i:Int)):Nat):Int)=0:=Ac;have he1:¬((X0 false q.idb false q.b y1 (Bl (i:Int)):Nat):Int)=1:=Ac;have hsv:DW (Sv false q.idb false q.b)=DW (Sv false q.idb false q.b):=rfl;refine Aw [(1,CH he0)] [121] 15 V λV=>Ae (Ai V (BR (Ay [(1,CH he1),(16,AN 1 2),(18,AC (Fh (hy:=false) ⟨⟩ q.idb false q.b hz.2.1.2) q17_ []),(22,TX false [(!((DW (Sv false q.idb false q.b)).toList==(DW (Sv false q.idb false q.b)).toList))=false] ⟨by rw[beq_self_eq_true _];rfl,aa⟩)] q3_ 15 V λV=>Ai V (GT (CW [16,68,69] 15 V λV=>Ae ?_)))));exact AX (n:=0) (Ao (Ak [] 15 V λV=>Ai V (V8 (Aw [(1,CF i)] q2_ 15 V λV=>Ae (Av Y V (i+1,q) [(0,0),(1,8),(2,9),(3,10),(4,11),(5,12),(6,13),(7,14)] ⟨Ac,hI9,aa⟩)))))
    ·have hT:=V;obtain rfl:l.length=i:=by omega
     have V:=hT;exact DF (Ay [(0,AS (Dt))] [] 8 V λV=>AU (BN V))
 ·exact Aw [(2,bN h1)] [] 0 V λV=>Ae (AE V (Ay [(0,AS (Dt))] [] 0 V λV=>AU (Aj (BN V))))
end
theorem sspl_ok (rX:Ad) (hyb:Bool) (l:List (Int×Int×Int×Int×Ad)) (bit:Int) (raw:Ad):AO 9 ⟨[lb rX,.v (.bool hyb),.ls false wM l,vi bit,lb raw],[],.v (.bool true),[]⟩:=by
 cases hyb
 ·exact dG rX l bit raw
 ·exact dE rX l bit raw
end
end Go.Sx.Tryz
namespace Go.Sx
open Go.Mi Go.RowKit
variable [Dfr]
theorem vM {w:World} {x:Addr} {v:Value} (h:w.cell? x=some v):x=⟨x.block,x.off,none⟩:=by
 obtain⟨b,o,s⟩:=x;cases s with
 |none=>rfl
 |some s=>
  unfold World.cell? at h;simp at h;split at h<;>simp at h
def AbO (w:World) (k:IntKind) (ad:Option Addr) (l c:Nat) (zs:List Int):Prop:=l<=c/\c<=maxLen/\zs.length=c/\(ad=none->c=0)/\∀a,ad=some a->∀i,i<c->w.cell? (a.add i)=some (.int k (zs.getD i 0))
theorem iW {X:Nat->Prop} {N:Nat->Option Value} {w:World} {k:IntKind}:∀l:List Int,Fa2 (fS X N w (.int k)) l (l.map (Value.int k))
 |[]=>trivial
 |_::l=>⟨rfl,iW l⟩
theorem Aam {w:World} {k:IntKind} {ad:Option Addr} {l c:Nat} {zs:List Int} (h:AbO w k ad l c zs):fS g00.X g00.N w (.sl (.int k)) (zs.take l:List Int) (.slice ad l c):=by
 obtain⟨h1,h2,h3,h4,h5⟩:=h;have hl:(zs.take l).length=l:=by rw[ao];omega
 refine⟨(zs.take l).map (Value.int k),⟨by show(zs.take l).length<=_;omega,by rw[cg];exact(ga _).symm,?_⟩,iW _⟩;by_cases h0:l=0
 ·refine .inl ⟨by show(zs.take l).length=0;omega,?_⟩;subst h0;cases ad with
  |none=>have :=h4 rfl;subst this;exact .inl ⟨rfl,rfl⟩
  |some a=>exact .inr ⟨a,c,rfl⟩
 ·cases ad with
  |none=>have :=h4 rfl;omega
  |some a=>
   have e0:=h5 a rfl 0 (by omega);have hp:=vM (x:=a) (v:= .int k (zs.getD 0 0)) (by simpa[Addr.add]using e0);have hb:a.block<w.heap.size:=by have :=World.block_lt_of_cell? w _ e0;simpa[Addr.add]using this
   refine .inr ⟨a.block,a.off,c,by show _=vS a.block a.off (zs.take l).length c;rw[hl,hp],by show(zs.take l).length<=_;omega,h2,id,hb,λi u hu=> ?_⟩;rw[eo]at hu;obtain⟨y,hy,rfl⟩:=ak.1 hu;have hi:i<l:=by
    rcases ci i l with h|h
    ·exact h
    ·rw[bf (by rw[hl];exact h)]at hy;cases hy
   rw[List.getElem?_take_of_lt hi]at hy;have :=h5 a rfl i (by omega);rw[al,hy,ej,hp,Dm]at this;exact this
end Go.Sx
namespace Go.Sx
open Go.Mi Go.RowKit
variable [Dfr]
abbrev KSt:List Fk:=[.int .i64,.int .i64,.int .i64,.int .i64,.sl (.int .u8)]
def StC (w:World) (cs:List Value):Prop:=∃(a b c d:Int) (A:Option Addr) (L C:Nat) (Z:List Int),cs=[.int .i64 a,.int .i64 b,.int .i64 c,.int .i64 d,.slice A L C]/\AbO w .u8 A L C Z
theorem XS {w:World} {x:Addr}:∀ (n i0:Nat), (∀ i, i < n->∃ cs, StC w cs /\ ∀ j, j < 5->w.cell? ((x.add ((i0+i) * 5)).add j)=cs[j]?) ->
  ∃(l:List (RT KSt)) (ls:List (List Value)),l.length=n/\Fa2 (rS g00.X g00.N w KSt) l ls/\ls.flatten.length=n*5/\∀j,j<n*5->w.cell? (x.add (i0*5+j))=ls.flatten[j]?
 |0,_,_=>⟨[],[],rfl,aa,rfl,by simp⟩
 |n+1,i0,h=>by
  obtain⟨cs,⟨a,b,c,d,A,L,C,Z,rfl,hz⟩,h3⟩:=h 0 (by omega);obtain⟨l,ls,k1,k2,k3,k4⟩:=XS (w:=w) (x:=x) n (i0+1) λi hi=>by have :=h (i+1) (by omega);rw[show i0+(i+1)=i0+1+i by omega]at this;exact this
  refine⟨(a,b,c,d,(Z.take L:List Int))::l,_::ls,dn (· +1) k1,⟨⟨_,_,rfl,rfl,_,_,rfl,rfl,_,_,rfl,rfl,_,_,rfl,rfl,_,rfl,Aam hz⟩,k2⟩,by rw[bc,ah,k3];simp;omega,λj hj=> ?_⟩;rw[bc];rcases ci j 5 with hj3|hj3
  ·rw[dj hj3,<-h3 j hj3,Go.Deep.add_add,ey]
  ·rw[df hj3];show _=ls.flatten[j-5]?;rw[<-k4 (j-5) (by omega),show(i0+1)*5+(j-5)=i0*5+j by omega]
theorem uS {w:World} {a:Addr} {len cap:Nat} (hl:len<=cap) (hm:cap<=maxLen) (ho:a.spot=none/\a.block<w.heap.size) (h:∀i,i<len->∃cs,StC w cs/\∀j,j<5->w.cell? ((a.add (i*5)).add j)=cs[j]?):∃l:List (Int×Int×Int×Int×List Int),Sm g00 w (.ls false KSt l) (.slice (some a) len cap):=by
 obtain⟨l,ls,k1,k2,k3,k4⟩:=XS (w:=w) (x:=a) len 0 (by simpa using h);subst k1;obtain⟨b,o,s⟩:=a;obtain⟨h5,h6⟩:=ho;simp only at h5;subst h5;refine⟨l,_,ls,rfl,⟨by omega,k3,.inr ⟨b,o,cap,rfl,hl,hm,id,h6,λj u hu=> ?_⟩⟩,k2⟩;have hj:j<l.length*5:=by
  rcases ci j (l.length*5)with h'|h'
  ·exact h'
  ·rw[bf (by omega)]at hu;cases hu
 have :=k4 j hj;rw[hu,iw,bu,Dm]at this;exact this
end Go.Sx
