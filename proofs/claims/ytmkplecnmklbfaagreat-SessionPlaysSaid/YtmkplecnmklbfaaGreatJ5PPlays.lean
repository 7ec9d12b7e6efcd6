/- General lemmas, walks. -/
import Derived.Test.YtmkplecnmklbfaaGreatJ4PPlays
set_option maxRecDepth 100000
set_option maxHeartbeats 1000000
set_option linter.unusedSimpArgs false
set_option linter.unusedVariables false
set_option linter.unnecessarySimpa false
set_option linter.unusedSectionVars false
namespace Go.Mi.Ke
abbrev Ln:=BitVec 64
abbrev St:=Nat->Ln
def rot (a:Ln) (n:Nat):Ln:=a.rotateLeft n
def Eq25 (a b:St):Prop:=∀i,i<25->a i=b i
theorem U3 (a:Ln) (n i:Nat) (hi:i<64):(rot a n).getLsbD i=a.getLsbD ((i+(64-n%64))%64):=by
 unfold rot
 simp only[BitVec.getLsbD_rotateLeft]
 have hn:n%64<64:=di _ (by decide)
 by_cases h:i<n%64
 ·rw[decide_eq_true h,cond_true]
  congr 1
  omega
 ·rw[decide_eq_false h,cond_false,decide_eq_true hi,iq]
  congr 1
  omega
theorem rN {a b:Ln} {n:Nat} (h:rot a n=rot b n):a=b:=by
 apply gi
 intro i hi
 have hn:n%64<64:=di _ (by decide)
 have h1:=U3 a n ((i+n%64)%64) (di _ (by decide))
 have h2:=U3 b n ((i+n%64)%64) (di _ (by decide))
 rw[h,h2]at h1
 rw[show((i+n%64)%64+(64-n%64))%64=i by omega]at h1
 exact h1.symm
def par (a:St) (x:Nat):Ln:=a (x%5)^^^a (x%5+5)^^^a (x%5+10)^^^a (x%5+15)^^^a (x%5+20)
def dif (a:St) (x:Nat):Ln:=par a (x+4)^^^rot (par a (x+1)) 1
def theta (a:St):St:=λi=>a i^^^dif a i
theorem par_mod (a:St) (x:Nat):par a (x%5)=par a x:=by unfold par;rw[Nat.mod_mod]
theorem aK (a:St) (x k:Nat):dif a (x+5*k)=dif a x:=by
 unfold dif par
 rw[show(x+5*k+4)%5=(x+4)%5 by omega,show(x+5*k+1)%5=(x+1)%5 by omega]
theorem Ada (a b c d e u:Ln):(a^^^u)^^^(b^^^u)^^^(c^^^u)^^^(d^^^u)^^^(e^^^u)=(a^^^b^^^c^^^d^^^e)^^^u:=by
 apply gi
 intro i _
 simp only[BitVec.getLsbD_xor]
 generalize a.getLsbD i=a
 generalize b.getLsbD i=b
 generalize c.getLsbD i=c
 generalize d.getLsbD i=d
 generalize e.getLsbD i=e
 generalize u.getLsbD i=u
 revert a b c d e u
 decide
theorem S6 (a:St) (x:Nat):par (theta a) x=par a x^^^dif a x:=by
 have h:∀k,theta a (x%5+5*k)=a (x%5+5*k)^^^dif a x:=λk=>by
  unfold theta
  rw[aK,<-aK a (x%5) (x/5),show x%5+5*(x/5)=x by omega]
 have h0:=h 0
 have h1:=h 1
 have h2:=h 2
 have h3:=h 3
 have h4:=h 4
 simp only[Nat.mul_zero,eC,Nat.reduceMul]at h0 h1 h2 h3 h4
 unfold par
 rw[h0,h1,h2,h3,h4]
 exact Ada ..
theorem sO {r:Nat->Nat->Bool} (p5:∀x z,r (x+5) z=r x z) (p64:∀x z,r x (z+64)=r x z) (h:∀x z,r x z=(r (x+4) z^^r (x+1) (z+63))) (x z:Nat):r x z=false:=by
 have q5:∀k x z,r (x+5*k) z=r x z:=by
  intro k
  induction k with
  |zero=>intro x z;rfl
  |succ k ih=>intro x z;rw[show x+5*(k+1)=(x+5*k)+5 by omega,p5,ih]
 have q64:∀k x z,r x (z+64*k)=r x z:=by
  intro k
  induction k with
  |zero=>intro x z;rfl
  |succ k ih=>intro x z;rw[show z+64*(k+1)=(z+64*k)+64 by omega,p64,ih]
 have dbl:∀m,(∀x z,r x z=(r (x+4*m) z^^r (x+m) (z+63*m)))->∀x z,r x z=(r (x+4*(2*m)) z^^r (x+2*m) (z+63*(2*m))):=by
  intro m hm x z
  have e1:=hm (x+4*m) z
  have e2:=hm (x+m) (z+63*m)
  rw[hm x z,e1,e2]
  rw[show x+4*m+4*m=x+4*(2*m) by omega,show x+4*m+m=x+5*m by omega,show x+m+4*m=x+5*m by omega,show x+m+m=x+2*m by omega,show z+63*m+63*m=z+63*(2*m) by omega]
  cases r (x+4*(2*m)) z<;>cases r (x+5*m) (z+63*m)<;>cases r (x+2*m) (z+63*(2*m))<;>rfl
 have h64:=dbl 32 (dbl 16 (dbl 8 (dbl 4 (dbl 2 (dbl 1 (by simpa using h))))))
 have key:∀x,r x z=(r (x+1) z^^r (x+4) z):=by
  intro x
  have :=h64 x z
  rw[show x+4*(2*32)=(x+1)+5*51 by omega,show x+2*32=(x+4)+5*12 by omega,show z+63*(2*32)=z+64*63 by omega,q5,q5,q64]at this
  exact this
 have k0:=key x
 have k1:=key (x+1)
 have k2:=key (x+2)
 have k3:=key (x+3)
 have k4:=key (x+4)
 rw[show x+1+4=x+5 by omega,p5]at k1
 rw[show x+2+4=(x+1)+5 by omega,p5]at k2
 rw[show x+3+4=(x+2)+5 by omega,p5]at k3
 rw[show x+4+1=x+5 by omega,show x+4+4=(x+3)+5 by omega,p5,p5]at k4
 simp only[gp,Nat.reduceAdd]at k0 k1 k2 k3 k4
 revert k0 k1 k2 k3 k4
 cases r x z<;>cases r (x+1) z<;>cases r (x+2) z<;>cases r (x+3) z<;>cases r (x+4) z<;>simp
theorem bO {a b:St} (h:Eq25 (theta a) (theta b)):Eq25 a b:=by
 have hp:∀x,par (theta a) x=par (theta b) x:=λx=>by
  have hx:x%5<5:=di _ (by decide)
  unfold par
  rw[h _ (by omega),h _ (by omega),h _ (by omega),h _ (by omega),h _ (by omega)]
 let r:Nat->Nat->Bool:=λx z=>(par a x).getLsbD (z%64)^^(par b x).getLsbD (z%64)
 have hr:∀x z,r x z=false:=by
  refine sO (λx z=> ?_) (λx z=> ?_) (λx z=> ?_)
  ·show(_^^_)=(_^^_)
   rw[<-par_mod a (x+5),<-par_mod b (x+5),show(x+5)%5=x%5 by omega,par_mod,par_mod]
  ·show(_^^_)=(_^^_)
   rw[show(z+64)%64=z%64 by omega]
  ·have e:=hp x
   rw[S6,S6]at e
   have e2:=dp (λu:Ln=>u.getLsbD (z%64)) e
   have hz:z%64<64:=di _ (by decide)
   simp only[dif,BitVec.getLsbD_xor,U3 _ _ _ hz]at e2
   rw[show(z%64+(64-1%64))%64=(z+63)%64 by omega]at e2
   show(_^^_)=((_^^_)^^(_^^_))
   revert e2
   generalize(par a x).getLsbD (z%64)=q1
   generalize(par b x).getLsbD (z%64)=q2
   generalize(par a (x+4)).getLsbD (z%64)=q3
   generalize(par b (x+4)).getLsbD (z%64)=q4
   generalize(par a (x+1)).getLsbD ((z+63)%64)=q5
   generalize(par b (x+1)).getLsbD ((z+63)%64)=q6
   revert q1 q2 q3 q4 q5 q6
   decide
 have hab:∀x,par a x=par b x:=λx=>by
  apply gi
  intro i hi
  have :=hr x i
  simp only[r]at this
  rw[Nat.mod_eq_of_lt hi]at this
  revert this
  cases(par a x).getLsbD i<;>cases(par b x).getLsbD i<;>simp
 intro i hi
 have e:=h i hi
 have ed:dif a i=dif b i:=by unfold dif;rw[hab,hab]
 unfold theta at e
 rw[ed]at e
 have :=dp (· ^^^dif b i) e
 simpa[BitVec.xor_assoc]using this
def chi (a:St):St:=λi=>a i^^^(~~~a (i-i%5+(i+1)%5)&&&a (i-i%5+(i+2)%5))
theorem Adn:∀a0 a1 a2 a3 a4 b0 b1 b2 b3 b4:Bool,(a0^^(!a1&&a2))=(b0^^(!b1&&b2))->(a1^^(!a2&&a3))=(b1^^(!b2&&b3))->(a2^^(!a3&&a4))=(b2^^(!b3&&b4))->(a3^^(!a4&&a0))=(b3^^(!b4&&b0))->(a4^^(!a0&&a1))=(b4^^(!b0&&b1))->a0=b0/\a1=b1/\a2=b2/\a3=b3/\a4=b4:=by decide
theorem uM {a b:St} (h:Eq25 (chi a) (chi b)):Eq25 a b:=by
 intro i hi
 apply gi
 intro z hz
 have hy:i=5*(i/5)+i%5:=by omega
 have row:∀k,k<5->chi a (5*(i/5)+k)=chi b (5*(i/5)+k):=λk hk=>h _ (by omega)
 have at_:∀(a:St) (k:Nat),k<5->(chi a (5*(i/5)+k)).getLsbD z=((a (5*(i/5)+k)).getLsbD z^^(!(a (5*(i/5)+(k+1)%5)).getLsbD z&&(a (5*(i/5)+(k+2)%5)).getLsbD z)):=by
  intro a k hk
  unfold chi
  rw[show 5*(i/5)+k-(5*(i/5)+k)%5=5*(i/5) by omega,show(5*(i/5)+k+1)%5=(k+1)%5 by omega,show(5*(i/5)+k+2)%5=(k+2)%5 by omega]
  simp only[BitVec.getLsbD_xor,BitVec.getLsbD_and,BitVec.getLsbD_not,hz,decide_true,iq]
 have e:∀k,k<5->_:=λk hk=>dp (λu:Ln=>u.getLsbD z) (row k hk)
 have e0:=e 0 (by omega)
 have e1:=e 1 (by omega)
 have e2:=e 2 (by omega)
 have e3:=e 3 (by omega)
 have e4:=e 4 (by omega)
 simp only[at_ _ 0 (by omega),at_ _ 1 (by omega),at_ _ 2 (by omega),at_ _ 3 (by omega),at_ _ 4 (by omega),Nat.reduceAdd,Nat.reduceMod]at e0 e1 e2 e3 e4
 obtain⟨k0,k1,k2,k3,k4⟩:=Adn _ _ _ _ _ _ _ _ _ _ e0 e1 e2 e3 e4
 have h5:i%5<5:=di _ (by decide)
 rw[hy]
 generalize i%5=m at h5
 match m,h5 with
 |0,_=>exact k0
 |1,_=>exact k1
 |2,_=>exact k2
 |3,_=>exact k3
 |4,_=>exact k4
theorem jP:∀(N:Nat) (f:Nat->Nat),(∀i,i<=N->f i<N)->∃i j,i<j/\j<=N/\f i=f j
 |0,f,h=>absurd (h 0 (an _)) (by omega)
 |N+1,f,h=>by
  -- is the last value met ahead?
  by_cases hm:∃i,i<N+1/\f i=f (N+1)
  ·obtain⟨i,h1,h2⟩:=hm
   exact⟨i,N+1,h1,an _,h2⟩
  ·-- else swap it with the greatest
   let g:Nat->Nat:=λi=>if f i=N then f (N+1)else f i
   have hg:∀i,i<=N->g i<N:=by
    intro i hi
    have h1:=h i (by omega)
    have h2:=h (N+1) (by omega)
    have h3:f i≠f (N+1):=λe=>hm ⟨i,by omega,e⟩
    show(if f i=N then f (N+1)else f i)<N
    split<;>omega
   obtain⟨i,j,h1,h2,h3⟩:=jP N g hg
   refine⟨i,j,h1,by omega,?_⟩
   have h4:f i≠f (N+1):=λe=>hm ⟨i,by omega,e⟩
   have h5:f j≠f (N+1):=λe=>hm ⟨j,by omega,e⟩
   change (if f i=N then f (N+1)else f i)=(if f j=N then f (N+1)else f j)at h3
   split at h3<;>split at h3<;>omega
def px:Nat->Nat×Nat
 |0=>(1,0)
 |t+1=>((px t).2,(2*(px t).1+3*(px t).2)%5)
def ps (t:Nat):Nat:=(px t).1+5*(px t).2
def rhoN (a:St):Nat->St
 |0=>a
 |t+1=>λi=>if i=ps (t+1)then rot (a (ps t)) ((t+1)*(t+2)/2)else rhoN a t i
def rho (a:St):St:=rhoN a 24
theorem ps_lt (t:Nat) (h:t<=24):ps t<25:=by
 have :∀t:Fin 25,ps t.1<25:=by decide
 exact this ⟨t,by omega⟩
theorem AbL (t u:Nat) (ht:t<=24) (hu:u<=24) (h0:0<t) (h1:0<u) (h:ps t=ps u):t=u:=by
 have :∀t u:Fin 25,0<t.1->0<u.1->ps t.1=ps u.1->t.1=u.1:=by decide
 exact this ⟨t,by omega⟩ ⟨u,by omega⟩ h0 h1 h
theorem yY (i:Nat) (h:i<25):i=0\/∃t,t<24/\ps t=i:=by
 have :∀i:Fin 25,i.1=0\/∃t:Fin 24,ps t.1=i.1:=by decide
 rcases this ⟨i,h⟩with h|⟨t,h⟩
 ·exact .inl h
 ·exact .inr ⟨t.1,t.2,h⟩
theorem TR (a:St):∀n,n<=24->∀t,t<n->rhoN a n (ps (t+1))=rot (a (ps t)) ((t+1)*(t+2)/2)
 |0,_,t,h=>absurd h (by omega)
 |n+1,hn,t,h=>by
  simp only[rhoN]
  by_cases e:t=n
  ·subst e;rw[ah rfl]
  ·rw[aj (λh'=>e (by have :=AbL _ _ (by omega) (by omega) (by omega) (by omega) h';omega))]
   exact TR a n (by omega) t (by omega)
theorem rY (t:Nat) (h:t<=24):ps t≠0:=by
 have :∀t:Fin 25,ps t.1≠0:=by decide
 exact this ⟨t,by omega⟩
theorem Ol (a:St):∀n,n<=24->rhoN a n 0=a 0
 |0,_=>rfl
 |n+1,hn=>by
  simp only[rhoN]
  rw[aj (λh=>rY (n+1) hn h.symm)]
  exact Ol a n (by omega)
theorem rR {a b:St} (h:Eq25 (rho a) (rho b)):Eq25 a b:=by
 intro i hi
 rcases yY i hi with rfl|⟨t,ht,rfl⟩
 ·have :=h 0 (by omega)
  unfold rho at this
  rwa [Ol a 24 (an _),Ol b 24 (an _)]at this
 ·have :=h _ (ps_lt (t+1) (by omega))
  unfold rho at this
  rw[TR a 24 (an _) t ht,TR b 24 (an _) t ht]at this
  exact rN this
theorem rhoN_congr {a b:St} (h:Eq25 a b):∀n,n<=24->Eq25 (rhoN a n) (rhoN b n)
 |0,_=>h
 |n+1,hn=>λi hi=>by
  simp only[rhoN]
  split
  ·rw[h _ (ps_lt n (by omega))]
  ·exact rhoN_congr h n (by omega) i hi
def iota (c:Ln) (a:St):St:=λi=>if i=0 then a 0^^^c else a i
def round (c:Ln) (a:St):St:=iota c (chi (rho (theta a)))
def rounds:List Ln->St->St
 |[],a=>a
 |c::l,a=>rounds l (round c a)
theorem lH {c:Ln} {a b:St} (h:Eq25 (iota c a) (iota c b)):Eq25 a b:=by
 intro i hi
 have :=h i hi
 unfold iota at this
 by_cases e:i=0
 ·subst e
  rw[ah rfl,ah rfl]at this
  have :=dp (· ^^^c) this
  simpa[BitVec.xor_assoc]using this
 ·rwa [aj e,aj e]at this
theorem theta_congr {a b:St} (h:Eq25 a b):Eq25 (theta a) (theta b):=by
 have hp:∀x,par a x=par b x:=λx=>by
  have hx:x%5<5:=di _ (by decide)
  unfold par
  rw[h _ (by omega),h _ (by omega),h _ (by omega),h _ (by omega),h _ (by omega)]
 intro i hi
 unfold theta dif
 rw[h i hi,hp,hp]
theorem chi_congr {a b:St} (h:Eq25 a b):Eq25 (chi a) (chi b):=by
 intro i hi
 unfold chi
 rw[h i hi,h _ (by omega),h _ (by omega)]
theorem cF {c:Ln} {a b:St} (h:Eq25 (round c a) (round c b)):Eq25 a b:=bO (rR (uM (lH h)))
theorem VO {c:Ln} {a b:St} (h:Eq25 a b):Eq25 (round c a) (round c b):=by
 have h1:=chi_congr (rhoN_congr (theta_congr h) 24 (an _))
 intro i hi
 show(if i=0 then chi (rhoN (theta a) 24) 0^^^c else chi (rhoN (theta a) 24) i)=(if i=0 then chi (rhoN (theta b) 24) 0^^^c else chi (rhoN (theta b) 24) i)
 split
 ·rw[h1 0 (by omega)]
 ·exact h1 i hi
theorem rounds_inj:∀(l:List Ln) {a b:St},Eq25 (rounds l a) (rounds l b)->Eq25 a b
 |[],_,_,h=>h
 |_::l,_,_,h=>cF (rounds_inj l h)
theorem rounds_congr:∀(l:List Ln) {a b:St},Eq25 a b->Eq25 (rounds l a) (rounds l b)
 |[],_,_,h=>h
 |_::l,_,_,h=>rounds_congr l (VO h)
def enc (a:St):Nat->Nat
 |0=>0
 |n+1=>enc a n*2^64+(a n).toNat
theorem nG (a:St):∀n,enc a n<(2^64)^n
 |0=>by simp [enc]
 |n+1=>by
  have h1:=nG a n
  have h2:=(a n).isLt
  have e:(2^64)^(n+1)=(2^64)^n*2^64:=Nat.pow_succ ..
  simp only[enc]
  rw[e]
  generalize(2^64)^n=M at h1⊢
  omega
theorem aJ {a b:St}:∀n,enc a n=enc b n->∀i,i<n->a i=b i
 |0,_,i,h=>absurd h (by omega)
 |n+1,h,i,hi=>by
  simp only[enc]at h
  have h1:=(a n).isLt
  have h2:=(b n).isLt
  have h3:enc a n=enc b n:=by omega
  by_cases e:i=n
  ·subst e
   exact gt (by omega)
  ·exact aJ n h3 i (by omega)
def iter (f:St->St):Nat->St->St
 |0,a=>a
 |n+1,a=>f (iter f n a)
theorem Ww {f:St->St} (hf:∀{a b},Eq25 (f a) (f b)->Eq25 a b):∀n {a b},Eq25 (iter f n a) (iter f n b)->Eq25 a b
 |0,_,_,h=>h
 |n+1,_,_,h=>Ww hf n (hf h)
theorem Rl (f:St->St) (m:Nat) (a:St):∀n,iter f (m+n) a=iter f n (iter f m a)
 |0=>rfl
 |n+1=>by show f (iter f (m+n) a)=f (iter f n (iter f m a));rw[Rl f m a n]
theorem xO {f:St->St} (hf:∀{a b},Eq25 (f a) (f b)->Eq25 a b) (s:St):∃n,0<n/\Eq25 (iter f n s) s:=by
 obtain⟨i,j,h1,_,h3⟩:=jP ((2^64)^25) (λi=>enc (iter f i s) 25) (λi _=>nG _ _)
 have h4:Eq25 (iter f i s) (iter f j s):=aJ 25 h3
 refine⟨j-i,by omega,?_⟩
 have e:iter f j s=iter f i (iter f (j-i) s):=by rw[<-Rl,show j-i+i=j by omega]
 rw[e]at h4
 have :=Ww hf i h4
 exact λk hk=>(this k hk).symm
theorem Rj {f:St->St} (hc:∀{a b},Eq25 a b->Eq25 (f a) (f b)):∀n {a b},Eq25 a b->Eq25 (iter f n a) (iter f n b)
 |0,_,_,h=>h
 |n+1,_,_,h=>hc (Rj hc n h)
theorem again_late {f:St->St} (hf:∀{a b},Eq25 (f a) (f b)->Eq25 a b) (hc:∀{a b},Eq25 a b->Eq25 (f a) (f b)) (s:St):∀m:Nat,∃n,m<n/\Eq25 (iter f n s) s
 |0=>xO hf s
 |m+1=>by
  obtain⟨n,h1,h2⟩:=again_late hf hc s m
  obtain⟨k,h3,h4⟩:=xO hf s
  refine⟨n+k,by omega,λi hi=> ?_⟩
  rw[Rl,Rj hc k h2 i hi,h4 i hi]
end Go.Mi.Ke
namespace Go.Sx
open Go.Mi Go.RowKit
def N5 (a:Nat->Int):Nat->Nat->Int
 |0=>λ_=>0
 |i+1=>upd (N5 a i) (i%5) (A0 .u64 (N5 a i (i%5)) (a i))
def TO (x k:Int):Int:=Em .u64 (BX .u64 x (Bz .u64 (IntKind.wrap .u64 k) 63)) (Bh .u64 x (FC .u64 64 (Bz .u64 (IntKind.wrap .u64 k) 63)))
def yB (a c:Nat->Int):Nat->Nat->Int
 |0=>a
 |i+1=>upd (yB a c i) i (A0 .u64 (yB a c i i) (A0 .u64 (c ((i%5+4)%5)) (TO (c ((i%5+1)%5)) 1)))
def theta (a:Nat->Int):Nat->Int:=yB a (N5 a 25) 25
def XK (a:Nat->Int):Nat->Nat->Int
 |0=>a
 |t+1=>upd (XK a t) ((Ke.px (t+1)).1+5*(Ke.px (t+1)).2) (TO (a ((Ke.px t).1+5*(Ke.px t).2)) (Nt .i64 (BN .i64 ((t+1:Nat):Int) ((t+2:Nat):Int)) 2))
def rho (a:Nat->Int):Nat->Int:=XK a 24
def Yx (a:Nat->Int):Nat->Nat->Int
 |0=>a
 |i+1=>upd (Yx a i) i (A0 .u64 (Yx a i i) (Bz .u64 (Mc .u64 (a (i-i%5+(i+1)%5))) (a (i-i%5+(i+2)%5))))
def chi (a:Nat->Int):Nat->Int:=Yx a 25
def RC:Nat->Int:=upd (upd (upd (upd (upd (upd (upd (upd (upd (upd (upd (upd (upd (upd (upd (upd (upd (upd (upd (upd (upd (upd (upd (upd (λ_=>0) 0 1) 1 32898) 2 9223372036854808714) 3 9223372039002292224) 4 32907) 5 2147483649) 6 9223372039002292353) 7 9223372036854808585) 8 138) 9 136) 10 2147516425) 11 2147483658) 12 2147516555) 13 9223372036854775947) 14 9223372036854808713) 15 9223372036854808579) 16 9223372036854808578) 17 9223372036854775936) 18 32778) 19 9223372039002259466) 20 9223372039002292353) 21 9223372036854808704) 22 2147483649) 23 9223372039002292232
def z4:Nat->(Nat->Int)->Nat->Int
 |0=>theta
 |1=>rho
 |_=>chi
def ZX (b:Nat->Int):Nat->Nat->Int
 |0=>b
 |j+1=>z4 j (ZX b j)
def Lu (a:Nat->Int):Nat->Nat->Int
 |0=>a
 |i+1=>upd (ZX (Lu a i) 3) 0 (A0 .u64 (ZX (Lu a i) 3 0) (RC i))
def C6 (a:Nat->Int):Nat->Int:=Lu a 24
theorem kS (b f:Nat->Int) (j:Nat) (h:f=ZX b j):z4 j f=ZX b (j+1):=by rw[h];rfl
theorem AbM (a b f:Nat->Int) (i:Nat) (hb:b=Lu a i) (h:f=ZX b 3):upd f 0 (A0 .u64 (f 0) (RC i))=Lu a (i+1):=by rw[h,hb];rfl
end Go.Sx
namespace Go.Sx.Tryz
open Go.Mi Go.RowKit Go.Sx Go.Proofs Go.Proofs.Tryz
noncomputable section
open List (replicate)
def Td (x0:Nat->Int):O:= .ob 263 (Jg [.ar .u64 25 x0])
theorem VP (x k:Int):AP 213 ⟨[.v (.int .u64 x),vi k],[],.v (.int .u64 (TO x k)),[]⟩:=by
 exact cy 0 func213 rfl ntmps213 λY V=>Aj [] 0 V λV=>Aj [] 0 V λV=>Ay [(2,P8 ((0:Int)<=(Bz .u64 (IntKind.wrap .u64 k) 63)) (KZ rfl)),(6,P8 ((0:Int)<=(FC .u64 64 (Bz .u64 (IntKind.wrap .u64 k) 63))) (KZ rfl))] [] 0 V λV=>AY (BW V)
section
variable (a:Nat->Int)
theorem gK:AP 207 ⟨[.ar .u64 25 a],[],.ar .u64 25 (theta a),[]⟩:=by
 refine cy 0 func207 rfl ntmps207 λY V=>Aj [] 2 V λV=>Aj [] 3 V λV=>Ar (Aj [] 3 V λV=>BC (AC (ι:=Nat) Y V (λi=>(25-i,[(9,vi ((i:Nat):Int))],[(2,.ob 273 (Jg [.ar .u64 5 (N5 a i)]))],(i<=25)/\True)) [1,2,3,8] [0,1] 3 0 [(0,0),(1,1),(2,2)] ⟨Ac,aa⟩ ?_))
 rintro i ac gs ws ⟨hi,_⟩ V
 refine Aj [] 3 V λV=>Ar (AJ ((i:Int)<25) V (λh1=> ?_) (λh1=> ?_))
 ·exact B3 (Ay [(1,AH i 25)] [] 3 V λV=>Aw [(1,MA i 5),(2,AH (i%5) 5),(6,AH (i%5) 5)] [] 3 V λV=>Ck (Aw [(0,Cu i)] [9] 3 V λV=>Ae (As Y V (i+1) [(0,0),(1,1),(2,2)] ⟨Ac,aa⟩)))
 ·have hT:=V
  obtain rfl:25=i:=by omega
  have V:=hT
  refine JH (Aj [] 3 V λV=>BC (AC (ι:=Nat) Y V (λi=>(25-i,[(21,vi ((i:Nat):Int))],[(0,Td (yB a (N5 a 25) i))],(i<=25)/\True)) [1,2,3] [1,2] 3 0 [(0,0),(1,1),(2,2)] ⟨Ac,aa⟩ ?_))
  rintro i ac gs ws ⟨hi,_⟩ V
  refine Aj [] 3 V λV=>Ar (AJ ((i:Int)<25) V (λh2=> ?_) (λh2=> ?_))
  ·exact B3 (Aj [] 3 V λV=>Ay [(1,MA i 5)] [] 3 V λV=>Aw [(1,AH i 25),(4,FW (i%5) 5 ((i%5)+5)),(5,IM ((i%5)+5) 1 ((i%5)+4)),(6,MA ((i%5)+4) 5),(7,AH (((i%5)+4)%5) 5),(10,FW (i%5) 1 ((i%5)+1)),(11,MA ((i%5)+1) 5),(12,AH (((i%5)+1)%5) 5),(14,AS (VP ((N5 a 25) (((i%5)+1)%5)) 1)),(17,AH i 25)] [] 3 V λV=>Ck (Aw [(0,Cu i)] [21] 3 V λV=>Ae (As Y V (i+1) [(0,0),(1,1),(2,2)] ⟨Ac,aa⟩)))
  ·have hT:=V
   obtain rfl:25=i:=by omega
   have V:=hT
   exact Dw (Aj [] 3 V λV=>AY (BW V))
theorem yM:AP 208 ⟨[.ar .u64 25 a],[],.ar .u64 25 (rho a),[]⟩:=by
 refine cy 0 func208 rfl ntmps208 λY V=>Aj [] 2 V λV=>Aj [3] 3 V λV=>Aj [] 3 V λV=>Ar (Aj [] 3 V λV=>BC (AC (ι:=Nat×Nat×Nat×(Nat->Int)) Y V (λ(t,x,y,f)=>(24-t,[(4,vi (x:Int)),(5,vi (y:Int)),(9,vi ((t:Nat):Int))],[(2,Td f)],(t<=24)/\(x<5)/\(y<5)/\(x=(Ke.px t).1)/\(y=(Ke.px t).2)/\(f=XK a t)/\True)) [1,2,3] [0,1] 3 (0,1,0,a) [(0,0),(1,1),(2,2)] ⟨Ac,Ac,Ac,rfl,rfl,rfl,aa⟩ ?_))
 rintro⟨t,x,y,f⟩ ac gs ws ⟨ht,hx5,hy5,hx,hy,hf,_⟩ V
 refine Aj [] 3 V λV=>Ar (AJ ((t:Int)<24) V (λh1=> ?_) (λh1=> ?_))
 ·exact B3 (Aj [] 3 V λV=>Ay [(2,IC 5 y (5*y)),(3,FW x (5*y) (x+(5*y))),(4,AH (x+(5*y)) 25),(7,Cu t),(9,FW t 2 (t+2)),(11,Pe ((2:Int)≠0)),(12,AS (VP (a (x+(5*y))) (Nt .i64 (BN .i64 ((t+1:Nat):Int) ((t+2:Nat):Int)) 2)))] [] 3 V λV=>Ay [(2,IC 2 x (2*x)),(4,IC 3 y (3*y)),(5,FW (2*x) (3*y) ((2*x)+(3*y))),(6,MA ((2*x)+(3*y)) 5)] [4,5] 3 V λV=>Aw [(2,IC 5 (((2*x)+(3*y))%5) (5*(((2*x)+(3*y))%5))),(3,FW y (5*(((2*x)+(3*y))%5)) (y+(5*(((2*x)+(3*y))%5)))),(5,AH (y+(5*(((2*x)+(3*y))%5))) 25)] [] 3 V λV=>Ck (Aw [(0,Cu t)] [9] 3 V λV=>Ae (As Y V (t+1,y,((2*x)+(3*y))%5,upd f (y+(5*(((2*x)+(3*y))%5))) (TO (a (x+(5*y))) (Nt .i64 (BN .i64 ((t+1:Nat):Int) ((t+2:Nat):Int)) 2))) [(0,0),(1,1),(2,2)] ⟨Ac,Ac,Ac,hy,(by rw[hx,hy];rfl),(by rw[hf,hx,hy];rfl),aa⟩)))
 ·have hT:=V
  obtain rfl:24=t:=by omega
  obtain rfl:rho a=f:=Eq.symm hf
  have V:=hT
  exact Dw (Aj [] 3 V λV=>AY (BW V))
theorem AaB:AP 209 ⟨[.ar .u64 25 a],[],.ar .u64 25 (chi a),[]⟩:=by
 refine cy 0 func209 rfl ntmps209 λY V=>Aj [] 2 V λV=>Aj [3] 3 V λV=>Ar (Aj [] 3 V λV=>BC (AC (ι:=Nat) Y V (λi=>(25-i,[(7,vi ((i:Nat):Int))],[(2,Td (Yx a i))],(i<=25)/\True)) [1,2,3] [0,1] 3 0 [(0,0),(1,1),(2,2)] ⟨Ac,aa⟩ ?_))
 rintro i ac gs ws ⟨hi,_⟩ V
 refine Aj [] 3 V λV=>Ar (AJ ((i:Int)<25) V (λh1=> ?_) (λh1=> ?_))
 ·exact B3 (Aj [] 3 V λV=>Ay [(2,MA i 5),(3,IM i (i%5) (i-(i%5)))] [] 3 V λV=>Aw [(1,AH i 25),(5,Cu i),(6,MA (i+1) 5),(7,FW (i-(i%5)) ((i+1)%5) ((i-(i%5))+((i+1)%5))),(8,AH ((i-(i%5))+((i+1)%5)) 25),(13,FW i 2 (i+2)),(14,MA (i+2) 5),(15,FW (i-(i%5)) ((i+2)%5) ((i-(i%5))+((i+2)%5))),(16,AH ((i-(i%5))+((i+2)%5)) 25),(20,AH i 25)] [] 3 V λV=>Ck (Aw [(0,Cu i)] [7] 3 V λV=>Ae (As Y V (i+1) [(0,0),(1,1),(2,2)] ⟨Ac,aa⟩)))
 ·have hT:=V
  obtain rfl:25=i:=by omega
  have V:=hT
  exact Dw (Aj [] 3 V λV=>AY (BW V))
end
theorem cE:AP 210 ⟨[],[],.ar .u64 24 RC,[]⟩:=by
 exact cy 0 func210 rfl ntmps210 λY V=>Aj [] 1 V λV=>Aj [] 1 V λV=>AY (BW V)
theorem ZE (a:Nat->Int):AP 199 ⟨[.ar .u64 25 a],[],.ar .u64 25 (C6 a),[]⟩:=by
 refine cy 0 func199 rfl ntmps199 λY V=>Aj [] 2 V λV=>Aj [3] 3 V λV=>Aj [4] 4 V λV=>Ar (Ay [(0,AS (cE))] [] 4 V λV=>BC (AC (ι:=Nat×(Nat->Int)) Y V (λ(i,f)=>(24-i,[(12,vi ((i:Nat):Int))],[(2,Td f)],(i<=24)/\(f=Lu a i)/\True)) [2,3,4,11] [1,3] 4 (0,a) [(1,1),(2,2),(3,3)] ⟨Ac,rfl,aa⟩ ?_))
 rintro⟨i,f⟩ ac gs ws ⟨hi,hf,_⟩ V
 refine Aj [] 4 V λV=>Ar (AJ ((i:Int)<24) V (λh1=> ?_) (λh1=> ?_))
 ·refine B3 (Ay [(0,AH i 24)] [] 4 V λV=>Ar (Aj [] 4 V λV=>BC (AC (ι:=Nat×(Nat->Int)) Y V (λ(j,g)=>(3-j,[(16,vi ((j:Nat):Int))],[(2,Td g)],(j<=3)/\(g=ZX f j)/\True)) [2,3,4,6,11,12,15] [1,3] 4 (0,f) [(1,1),(2,2),(3,3)] ⟨Ac,rfl,aa⟩ ?_)))
  rintro⟨j,g⟩ ac gs ws ⟨hj,hg,_⟩ V
  refine Aj [] 4 V λV=>Ar (AJ ((j:Int)<3) V (λh2=> ?_) (λh2=> ?_))
  ·have hT:=V
   rcases(by omega:j=0\/j=1\/j=2)with rfl|rfl|rfl
   ·have V:=hT
    exact B3 (Ay [(0,AH 0 3)] [] 4 V λV=>Aw [(1,Ik (.ar .u64 25 g) [(.ar .u64 25 g:D)=(.ar .u64 25 g)] ⟨rfl,aa⟩),(2,AS (gK g))] [] 4 V λV=>Ck (Dl [16] 4 V λV=>Ae (As Y V (1,theta g) [(1,1),(2,2),(3,3)] ⟨Ac,(kS _ _ _ hg),aa⟩)))
   ·have V:=hT
    exact B3 (Ay [(0,AH 1 3)] [] 4 V λV=>Aw [(1,Ik (.ar .u64 25 g) [(.ar .u64 25 g:D)=(.ar .u64 25 g)] ⟨rfl,aa⟩),(2,AS (yM g))] [] 4 V λV=>Ck (Dl [16] 4 V λV=>Ae (As Y V (2,rho g) [(1,1),(2,2),(3,3)] ⟨Ac,(kS _ _ _ hg),aa⟩)))
   ·have V:=hT
    exact B3 (Ay [(0,AH 2 3)] [] 4 V λV=>Aw [(1,Ik (.ar .u64 25 g) [(.ar .u64 25 g:D)=(.ar .u64 25 g)] ⟨rfl,aa⟩),(2,AS (AaB g))] [] 4 V λV=>Ck (Dl [16] 4 V λV=>Ae (As Y V (3,chi g) [(1,1),(2,2),(3,3)] ⟨Ac,(kS _ _ _ hg),aa⟩)))
  ·have hT:=V
   obtain rfl:3=j:=by omega
   have V:=hT
   exact Dw (Aw [(0,AH 0 25),(4,AH 0 25)] [] 4 V λV=>Ck (Aw [(0,Cu i)] [12] 4 V λV=>Ae (As Y V (i+1,upd g 0 (A0 .u64 (g 0) (RC i))) [(1,1),(2,2),(3,3)] ⟨Ac,(AbM a _ _ i hf hg),aa⟩)))
 ·have hT:=V
  obtain rfl:24=i:=by omega
  obtain rfl:C6 a=f:=Eq.symm hf
  have V:=hT
  exact Dw (Aj [] 4 V λV=>AY (BW V))
end
end Go.Sx.Tryz
namespace Go.Sx
open Go.Mi Go.RowKit
theorem W6 (l:AZ) (j:Nat) (h:j<l.length):(l.take (j+1)).flatten=(l.take j).flatten++l.getD j AW:=by
 rw[List.take_add_one,de,am h]
 simp [List.getD,am h]
 try rfl
theorem UT (l:AZ) (j:Nat) (h:j<l.length):(l.take (j+1)).flatten.length=(l.take j).flatten.length+(l.getD j AW).length:=by
 rw[W6 l j h,ab]
theorem UB (l:AZ) (j:Nat):(l.take j).flatten.length<=l.flatten.length:=by
 have h:l.flatten=(l.take j).flatten++(l.drop j).flatten:=by rw[<-de,dg]
 rw[h,ab]
 omega
theorem Yz {l:AZ} {j c:Nat} (h:j<l.length) (hc:l.flatten.length<=c):(l.take j).flatten.length+(l.getD j AW).length<=c:=by
 rw[<-UT l j h]
 exact ca (UB l _) hc
def fO (b:Ad) (f:Nat->Int):Nat->Nat->Int
 |0=>f
 |i+1=>upd (fO b f i) (i/8) (A0 .u64 (fO b f i (i/8)) (BX .u64 (IntKind.wrap .u64 (b.getD i 0)) ((8*(i%8):Nat):Int)))
def SA (p:Ad) (r:Nat):Nat->Nat->Int
 |0=>λ_=>0
 |k+1=>C6 (fO (p.drop (k*r)) (SA p r k) r)
def Nj (r:Nat) (e:Int) (l:AZ):Ad:=(l.flatten++[e])++List.replicate ((r-(l.flatten++[e]).length%r)%r) (0:Int)
def jZ (r:Nat) (e:Int) (l:AZ):Ad:=(Nj r e l).set ((Nj r e l).length-1) (Em .u8 ((Nj r e l).getD ((Nj r e l).length-1) 0) 128)
def Qx (r:Nat) (e:Int) (l:AZ):Nat->Int:=SA (jZ r e l) r ((jZ r e l).length/r)
theorem jY {r:Nat} (h:0<r) (e:Int) (l:AZ):∃N,0<N/\(Nj r e l).length=N*r:=by
 unfold Nj
 generalize hb:l.flatten++[e]=b
 have hp:0<b.length:=by rw[<-hb];simp
 rw[ab,az]
 have h1:=Nat.div_add_mod b.length r
 have h2:=di b.length h
 by_cases h3:b.length%r=0
 ·rw[h3,Nat.sub_zero,Nat.mod_self]
  refine⟨b.length/r,?_,?_⟩
  ·rcases eR (b.length/r)with h4|h4
   ·rw[h4,h3]at h1;simp at h1;omega
   ·exact h4
  ·rw[h3]at h1;rw[Nat.mul_comm];omega
 ·rw[Nat.mod_eq_of_lt (a:=r-b.length%r) (by omega)]
  refine⟨b.length/r+1,Nat.succ_pos _,?_⟩
  rw[eP,Nat.mul_comm]
  omega
theorem T5 {r:Nat} {e:Int} {l:AZ}:(jZ r e l).length=(Nj r e l).length:=by simp [jZ]
theorem ZJ {r:Nat} (h:0<r) (e:Int) (l:AZ):(Nj r e l).length<=l.flatten.length+1+r:=by
 unfold Nj
 rw[ab,az,ab]
 have :=di (r-(l.flatten++[e]).length%r) h
 simp only[ab,aw,au]at this⊢
 omega
theorem Aba {p b:Ad} {r k N:Nat} (hr:0<r) (hN:p.length=N*r) (hb:b=p.drop (k*r)) (hk:k<=N) (h:0<b.length):k<N/\r<=b.length:=by
 rw[hb,av,hN,<-Nat.sub_mul]at h⊢
 rcases eR (N-k)with h1|h1
 ·rw[h1]at h;simp at h
 ·exact⟨by omega,Nat.le_mul_of_pos_left r h1⟩
theorem vL {p b:Ad} {r k N:Nat} (hr:0<r) (hN:p.length=N*r) (hb:b=p.drop (k*r)) (hk:k<=N) (h:¬0<b.length):k=p.length/r:=by
 rw[hb,av,hN,<-Nat.sub_mul]at h
 rw[hN,Nat.mul_div_cancel _ hr]
 rcases eR (N-k)with h1|h1
 ·omega
 ·exact absurd (Nat.mul_pos h1 hr) h
theorem pV {p b:Ad} {r k:Nat} (hb:b=p.drop (k*r)):b.drop r=p.drop ((k+1)*r):=by
 rw[hb,List.drop_drop,eP]
theorem pT {p b:Ad} {r k:Nat} {f g:Nat->Int} (hb:b=p.drop (k*r)) (hf:f=SA p r k) (hg:g=fO b f r):C6 g=SA p r (k+1):=by
 rw[hg,hf,hb];rfl
def Ez (r:Nat) (f:Nat->Int) (a:Nat):Nat->(Nat->Int)×Nat×Ad
 |0=>(f,a,[])
 |j+1=>match Ez r f a j with
  |(g,b,o)=>if b=r then(C6 g,1,o++[IntKind.wrap .u8 (Bh .u64 (C6 g 0) 0)])else(g,b+1,o++[IntKind.wrap .u8 (Bh .u64 (g (b/8)) ((8*(b%8):Nat):Int))])
theorem VZ {r:Nat} {f0:Nat->Int} {a0:Nat} {f:Nat->Int} {a:Nat} {o:Ad} (hq:(f,a,o)=Ez r f0 a0 o.length) (ha:a=r):(C6 f,1,o++[IntKind.wrap .u8 (Bh .u64 (C6 f 0) 0)])=Ez r f0 a0 (o++[IntKind.wrap .u8 (Bh .u64 (C6 f 0) 0)]).length:=by
 rw[ab]
 show _=(match Ez r f0 a0 o.length with
  |(g,b,o)=>if b=r then(C6 g,1,o++[IntKind.wrap .u8 (Bh .u64 (C6 g 0) 0)])else(g,b+1,o++[IntKind.wrap .u8 (Bh .u64 (g (b/8)) ((8*(b%8):Nat):Int))]))
 rw[<-hq]
 simp only[ah ha]
theorem VY {r:Nat} {f0:Nat->Int} {a0:Nat} {f:Nat->Int} {a:Nat} {o:Ad} (hq:(f,a,o)=Ez r f0 a0 o.length) (ha:¬a=r):(f,a+1,o++[IntKind.wrap .u8 (Bh .u64 (f (a/8)) ((8*(a%8):Nat):Int))])=Ez r f0 a0 (o++[IntKind.wrap .u8 (Bh .u64 (f (a/8)) ((8*(a%8):Nat):Int))]).length:=by
 rw[ab]
 show _=(match Ez r f0 a0 o.length with
  |(g,b,o)=>if b=r then(C6 g,1,o++[IntKind.wrap .u8 (Bh .u64 (C6 g 0) 0)])else(g,b+1,o++[IntKind.wrap .u8 (Bh .u64 (g (b/8)) ((8*(b%8):Nat):Int))]))
 rw[<-hq]
 simp only[aj ha]
theorem yS {r:Nat} {f0:Nat->Int} {a0 n:Nat} {f:Nat->Int} {a:Nat} {o:Ad} (hq:(f,a,o)=Ez r f0 a0 o.length) (hn:o.length=n):f=(Ez r f0 a0 n).1/\a=(Ez r f0 a0 n).2.1/\o=(Ez r f0 a0 n).2.2:=by
 rw[<-hn,<-hq];exact⟨rfl,rfl,rfl⟩
theorem Oq (r:Nat) (f0:Nat->Int) (a0:Nat):∀n,(Ez r f0 a0 n).2.2.length=n
 |0=>rfl
 |n+1=>by
  have ih:=Oq r f0 a0 n
  show(match Ez r f0 a0 n with
   |(g,b,o)=>if b=r then(C6 g,1,o++[IntKind.wrap .u8 (Bh .u64 (C6 g 0) 0)])else(g,b+1,o++[IntKind.wrap .u8 (Bh .u64 (g (b/8)) ((8*(b%8):Nat):Int))])).2.2.length=n+1
  revert ih
  generalize Ez r f0 a0 n=q
  obtain⟨g,b,o⟩:=q
  intro ih
  simp only at ih⊢
  split<;>simp [ih]
theorem cI (r:Nat) (f0:Nat->Int) (a0:Nat):(f0,a0,[])=Ez r f0 a0 0:=rfl
theorem SZ (r : Nat) (f : Nat -> Int) (a j : Nat) : Ez r f a (j + 1) = match Ez r f a j with
  |(g,b,o)=>if b=r then(C6 g,1,o++[IntKind.wrap .u8 (Bh .u64 (C6 g 0) 0)])else(g,b+1,o++[IntKind.wrap .u8 (Bh .u64 (g (b/8)) ((8*(b%8):Nat):Int))]):=rfl
attribute [irreducible] Ez
end Go.Sx
namespace Go.Sx.Tryz
open Go.Mi Go.RowKit Go.Sx Go.Proofs Go.Proofs.Tryz
noncomputable section
open List (replicate)
theorem tP (n:Nat) (h:n<=140737488355328):AP 187 ⟨[.v (.slice none 0 0),vi (n:Int)],[],.sk 0,[(0,.sl 5 Bg [])]⟩:=by
 refine cy 0 func187 rfl ntmps187 λY V=>Aj [] 0 V λV=>Ar (Ay [(1,Vj false [(decide ((n:Int)<0))=false] ⟨decide_eq_false Ac,aa⟩)] [] 0 V λV=>Ai V (DG (Ay [(6,IM n 0 n)] [1] 0 V λV=>Aj [] 0 V λV=>AJ ((0:Int)<(n:Int)) V (λh1=> ?_) (λh1=> ?_))))
 ·refine Aw [(3,fE 0 0),(5,qD [(0:Int)<=(n:Int),([]:List (RT Bg)).length+n<=9223372036854775807,(([]:List (RT Bg)).length+n)*1<=140737488355328] ⟨by omega,by simp<;>omega,by simp<;>omega,aa⟩),(8,P8 ((0:Int)<=0/\(0:Int)<=([]++replicate n (0:Int)).length) (by simp))] [0] 2 V λV=>Ae (Aj [] 2 V λV=>AY ?_)
  obtain⟨gs,V⟩:=V.rx [(0,1)] [4] [0] 1 Y
  exact BW V
 ·refine Cb (Aj [] 0 V λV=>AY ?_)
  obtain⟨gs,V⟩:=V.nilk 4 5 Bg
  exact BW V
theorem Tn (l:AZ) (h:l.flatten.length<=140737488355328):AP 161 ⟨[.ls false A8 l],[],.sk 0,[(0,.sl 5 Bg l.flatten)]⟩:=by
 refine cy 0 func161 rfl ntmps161 λY V=> ?_
 have Bj:l.length<=9223372036854775807:=V.len 0 rfl
 refine Aj [] 0 V λV=>Aj [] 0 V λV=>Ar (Aj [9] 0 V λV=>BC (AC (ι:=Nat×Nat) Y V (λ(i,c)=>(l.length-i,[(3,vi (c:Int)),(11,vi ((i:Nat):Int))],[],(i<=l.length)/\(c=(l.take i).flatten.length)/\True)) [0,2,9,10] [] 0 (0,0) [] ⟨Ac,rfl,aa⟩ ?_))
 rintro⟨i,c⟩ ac gs ws ⟨hi,hc,_⟩ V
 refine Aj [] 0 V λV=>Ar (AJ ((i:Int)<((l.length:Nat):Int)) V (λh1=> ?_) (λh1=> ?_))
 ·refine B3 (Ay [(0,AH i l.length)] [] 0 V λV=>Ar ?_)
  have hb:=Yz (l:=l) (j:=i) Ac h
  rw[<-hc]at hb
  exact Aw [(3,FW c ((l.getD i AW).length) (c+((l.getD i AW).length)))] [3] 0 V λV=>Ae (Ay [(1,Vj false [(decide (((c+((l.getD i AW).length):Nat):Int)<0))=false] ⟨decide_eq_false Ac,aa⟩)] [] 0 V λV=>Ai V (FN (Aw [(0,Cu i)] [11] 0 V λV=>Ae (As Y V (i+1,c+((l.getD i AW).length)) [] ⟨Ac,(by rw[UT l i Ac,<-hc]),aa⟩))))
 ·have hT:=V
  obtain rfl:l.length=i:=by omega
  obtain rfl:l.flatten.length=c:=Eq.symm (by rw[hc,eh])
  have V:=hT
  refine Dw (Ay [(1,AA (tP l.flatten.length Ac) [] [(0,0)])] [] 1 V λV=>Ar (Aj [25] 1 V λV=>BC (AC (ι:=Nat×Ad) Y V (λ(j,o)=>(l.length-j,[(27,vi ((j:Nat):Int))],[(0,.sl 5 Bg o)],(j<=l.length)/\(o=(l.take j).flatten)/\True)) [2,6,25,26] [] 1 (0,[]) [(0,0)] ⟨Ac,rfl,aa⟩ ?_)))
  rintro⟨j,o⟩ ac gs ws ⟨hj,ho,_⟩ V
  refine Aj [] 1 V λV=>Ar (AJ ((j:Int)<((l.length:Nat):Int)) V (λh2=> ?_) (λh2=> ?_))
  ·refine B3 (Ay [(0,AH j l.length)] [] 1 V λV=> ?_)
   have hb:=Yz (l:=l) (j:=j) Ac h
   rw[<-ho]at hb
   exact Aw [(2,Gt o.length ((l.getD j AW).length) 1 Ac)] [6] 2 V λV=>Ck (Aw [(0,Cu j)] [27] 2 V λV=>Ae (As Y V (j+1,o++(l.getD j AW)) [(0,1)] ⟨Ac,(by rw[W6 l j Ac,<-ho]),aa⟩))
  ·have hT:=V
   obtain rfl:l.length=j:=by omega
   obtain rfl:l.flatten=o:=Eq.symm (by rw[ho,eh])
   have V:=hT
   exact Dw (Aj [] 1 V λV=>AY (BW V))
theorem RJ (l:AZ) (h:l.flatten.length<=140737488355328):AP 154 ⟨[.ls false A8 l],[],.sk 0,[(0,.sl 5 Bg l.flatten)]⟩:=by
 exact cy 0 func154 rfl ntmps154 λY V=>Aj [] 0 V λV=>Ay [(1,AA (Tn l (by first |omega|(simp only[bd,ce,ab,aw,au,ap,av,az]<;>omega)|(simp<;>omega))) [] [(0,0)])] [] 1 V λV=>AY (BW V)
section
variable (x0:Nat->Int) (x1:Nat)
def yI:O:= .ob 250 (Jg [.ar .u64 25 x0,vi ((x1:Nat):Int),vi 0])
def xR (x2:Nat):O:= .ob 250 (Jg [.ar .u64 25 x0,vi ((x1:Nat):Int),vi ((x2:Nat):Int)])
end
theorem IT (r:Nat) (e:Int) (l:AZ) (hr:0<r) (hr2:r<=200) (h:l.flatten.length<=140000000000000):AP 173 ⟨[vi (r:Int),.v (.int .u8 e),.ls false A8 l],[],.cp 0 0,[(0,yI (Qx r e l) r)]⟩:=by
 refine cy 0 func173 rfl ntmps173 λY V=>Aj [] 0 V λV=>Ay [(1,AA (RJ l (by first |omega|(simp only[bd,ce,ab,aw,au,ap,av,az]<;>omega)|(simp<;>omega))) [] [(0,0)]),(4,Gt l.flatten.length 1 1 (by first |omega|(simp only[ab,aw,au];omega)))] [] 2 V λV=>Ar ?_
 have hm:=di (l.flatten++[e]).length hr
 have hm2:=di (r-(l.flatten++[e]).length%r) hr
 have hl1:(l.flatten++[e]).length=l.flatten.length+1:=by simp
 refine Aw [(5,MA ((l.flatten++[e]).length) r),(6,IM r (((l.flatten++[e]).length)%r) (r-(((l.flatten++[e]).length)%r))),(8,MA (r-(((l.flatten++[e]).length)%r)) r),(9,qD [(0:Int)<=(((r-(((l.flatten++[e]).length)%r))%r:Nat):Int),(l.flatten++[e]).length+((r-(((l.flatten++[e]).length)%r))%r)<=9223372036854775807,((l.flatten++[e]).length+((r-(((l.flatten++[e]).length)%r))%r))*1<=140737488355328] ⟨by omega,by first |omega|(simp only[ab,aw,au];omega),by first |omega|(simp only[ab,aw,au];omega),aa⟩)] [7] 3 V λV=> ?_
 obtain⟨p,hp⟩:∃p,p=Nj r e l:=⟨_,rfl⟩
 have V:=(V.rv [(0,vi (r:Int)),(6,.v (.pointer none)),(7,.sk 2)] [(2,some (.sl 5 Bg p))] (by subst hp;kernel_rfl) (by subst hp;kernel_rfl)).sp
 obtain⟨N,hN0,hN⟩:=jY hr e l
 have hp1:1<=(Nj r e l).length:=by rw[hN];exact Nat.mul_pos hN0 hr
 have hpl:=ZJ hr e l
 rw[<-hp]at hN hp1 hpl
 refine CQ (Aw [(3,IM p.length 1 (p.length-1)),(4,AH (p.length-1) p.length),(7,AH (p.length-1) p.length)] [] 3 V λV=> ?_)
 obtain⟨q,hq⟩:∃q,q=jZ r e l:=⟨_,rfl⟩
 have V:=(V.rv [(0,vi (r:Int)),(6,.v (.pointer none)),(7,.sk 2)] [(2,some (.sl 5 Bg q))] (by subst hq;subst hp;kernel_rfl) (by subst hq;subst hp;kernel_rfl)).sp
 have hNq:q.length=N*r:=by rw[hq,T5,<-hp,hN]
 refine Ae (Aj [] 4 V λV=>Ar (BC ?_))
 obtain⟨gs,V⟩:=V.fz 2
 refine AC (ι:=Nat×Ad×(Nat->Int)) Y V (λ(k,b,f)=>(N-k,[(7,lb b)],[(3,yI f r)],(k<=N)/\(b=q.drop (k*r))/\(f=SA q r k)/\True)) [0,6,8] [] 4 (0,q,λ_=>0) [(3,3)] ⟨Ac,(by rw[io];rfl),rfl,aa⟩ ?_
 rintro⟨k,b,f⟩ ac gs ws ⟨hk,hb,hf,_⟩ V
 refine Ar (Aj [] 4 V λV=>AJ ((0:Int)<((b.length:Nat):Int)) V (λh1=> ?_) (λh1=> ?_))
 ·refine B3 (Ii ?_)
  obtain⟨hkN,hrb⟩:=Aba hr hNq hb hk Ac
  refine Dl [] 4 V λV=>Ae (BC (AC (ι:=Nat×(Nat->Int)) Y V (λ(i,g)=>(r-i,[(43,vi ((i:Nat):Int))],[(3,yI g r)],(i<=r)/\(g=fO b f i)/\True)) [0,6,7,8,42] [] 4 (0,f) [(3,3)] ⟨Ac,rfl,aa⟩ ?_))
  rintro⟨i,g⟩ ac gs ws ⟨hi,hg,_⟩ V
  refine Aj [] 4 V λV=>Ar (AJ ((i:Int)<(r:Int)) V (λh2=> ?_) (λh2=> ?_))
  ·exact B3 (Aj [] 4 V λV=>Aw [(2,Vk i 8),(5,AH (i/8) 25),(9,AH i b.length),(13,MA i 8),(14,IC 8 (i%8) (8*(i%8))),(15,F_ (8*(i%8))),(19,AH (i/8) 25)] [] 4 V λV=>Ck (Aw [(0,Cu i)] [43] 4 V λV=>Ae (As Y V (i+1,upd g (i/8) (A0 .u64 (g (i/8)) (BX .u64 (IntKind.wrap .u64 (b.getD i 0)) ((8*(i%8):Nat):Int)))) [(3,3)] ⟨Ac,(by rw[hg];rfl),aa⟩)))
  ·have hT:=V
   obtain rfl:r=i:=by omega
   have V:=hT
   exact Dw (Aw [(4,Ik (.ar .u64 25 g) [(.ar .u64 25 g:D)=(.ar .u64 25 g)] ⟨rfl,aa⟩),(5,AS (ZE g))] [] 4 V λV=>Ck (Aw [(2,ON r b.length)] [7] 4 V λV=>Ae (As Y V (k+1,b.drop r,C6 g) [(3,3)] ⟨Ac,(pV hb),(pT hb hf hg),aa⟩)))
 ·have hT:=V
  obtain rfl:q.length/r=k:=Eq.symm (vL hr hNq hb hk Ac)
  obtain rfl:Qx r e l=f:=Eq.symm (by rw[hf,hq];rfl)
  have V:=hT
  refine Dw (Aj [] 4 V λV=>AY ?_)
  obtain⟨gs,V⟩:=V.rx [(0,3)] [6] [0] 1 Y
  exact BW V
theorem M_ (r:Nat) (f:Nat->Int) (a n:Nat) (hr:0<r) (hr2:r<=200) (har:a<=r) (h:n<=140737488355328):AP 174 ⟨[.cp 0 0,vi (n:Int)],[(0,xR f r a)],lb (Ez r f a n).2.2,[(0,xR (Ez r f a n).1 r (Ez r f a n).2.1)]⟩:=by
 refine cy 1 func174 rfl ntmps174 λY V=>Aj [] 1 V λV=>Ar (BC ?_)
 obtain⟨gs,V⟩:=V.nilk 4 5 Bg
 refine AC (ι:=(Nat->Int)×Nat×Ad) Y V (λ(g,b,o)=>(n-o.length,[],[(0,xR g r b),(1,.sl 5 Bg o)],(b<=r)/\(o.length<=n)/\((g,b,o)=Ez r f a o.length)/\True)) [0,1,4] [] 2 (f,a,[]) [(0,0),(1,1)] ⟨Ac,(by simp),(cI r f a),aa⟩ ?_
 rintro⟨g,b,o⟩ ac gs ws ⟨hb,ho,hq,_⟩ V
 refine Ar (Aj [] 2 V λV=>AJ (((o.length:Nat):Int)<(n:Int)) V (λh1=> ?_) (λh1=> ?_))
 ·refine Cb (BC (Ar (Aj [] 2 V λV=>AJ ((b:Int)=(r:Int)) V (λh2=> ?_) (λh2=> ?_))))
  ·exact Aw [(5,Ik (.ar .u64 25 g) [(.ar .u64 25 g:D)=(.ar .u64 25 g)] ⟨rfl,aa⟩),(6,AS (ZE g))] [] 2 V λV=>Ae (Ay [(6,Pe ((8:Int)≠0)),(9,AH 0 25),(15,Pe ((8:Int)≠0)),(17,F_ 0),(20,Gt o.length 1 1)] [4] 3 V λV=>Dl [] 3 V λV=>Ck (As Y V (C6 g,1,o++[(IntKind.wrap .u8 (Bh .u64 ((C6 g) 0) 0))]) [(0,0),(1,2)] ⟨Ac,(by simp<;>omega),(by first |exact VZ hq Ac|exact VY hq Ac),aa⟩ (by simp<;>omega)))
  ·exact Cb (Ay [(6,Vk b 8),(9,AH (b/8) 25),(15,MA b 8),(16,IC 8 (b%8) (8*(b%8))),(17,F_ (8*(b%8))),(20,Gt o.length 1 1)] [4] 3 V λV=>Aw [(4,Cu b)] [] 3 V λV=>Ck (As Y V (g,b+1,o++[(IntKind.wrap .u8 (Bh .u64 (g (b/8)) ((8*(b%8):Nat):Int)))]) [(0,0),(1,2)] ⟨Ac,(by simp<;>omega),(by first |exact VZ hq Ac|exact VY hq Ac),aa⟩ (by simp<;>omega)))
 ·have hT:=V
  have hn:o.length=n:=by omega
  obtain⟨e1,e2,e3⟩:=yS hq hn
  obtain rfl:(Ez r f a n).1=g:=Eq.symm e1
  obtain rfl:(Ez r f a n).2.1=b:=Eq.symm e2
  obtain rfl:(Ez r f a n).2.2=o:=Eq.symm e3
  have V:=hT
  refine Dw (Aj [4] 2 V λV=>AY ?_)
  obtain⟨gs,V⟩:=V.fz 1
  exact BW V
def N1 (x0:Nat->Int):O:= .ob 212 (Jg [.ar .u16 256 x0])
def Eu (x:Int):Int:=AV ((IntKind.wrap .u16 (Eb x 3329)))
def AcU (x:Int) (z_:Int:=Eu x):Con:=⟨[.v (.int .u32 x)],[],.v (.int .u16 z_),[]⟩
theorem IG (x:Int):AP 177 (AcU x):=by
 exact cy 0 func177 rfl ntmps177 λY V=>Aj [] 0 V λV=>Ay [(1,Pe ((3329:Int)≠0))] [] 0 V λV=>AY (BV (Ab _) V)
def Xk (g:Nat->Int) (x6:Nat):(Nat->Int)->(Nat->Int):=λo2_0=>upd o2_0 x6 (Eu (A9 .u32 (IntKind.wrap .u32 (o2_0 x6)) (IntKind.wrap .u32 (g x6))))
section
variable (f g:Nat->Int)
def RZ (f g:Nat->Int):Nat->(Nat->Int)
 |0=>f
 |x6+1=>Xk g x6 (RZ f g x6)
def BM:(Nat->Int):=AV (RZ f g 256)
def AcZ (z_:(Nat->Int):=BM f g):Con:=⟨[.ar .u16 256 f,.ar .u16 256 g],[],.ar .u16 256 z_,[]⟩
theorem JP:AP 151 (AcZ f g):=by
 refine cy 0 func151 rfl ntmps151 λY V=>Aj [] 3 V λV=>Ar (Aj [] 3 V λV=>BC (AC (ι:=Nat×(Nat->Int)) Y V (λ(x6,o2_0)=>(256-x6,[(6,vi ((x6:Nat):Int))],[(0,N1 o2_0)],(x6<=256)/\(o2_0=RZ f g x6)/\True)) [2,3,4] [1,2] 3 (0,f) [(0,0),(1,1),(2,2)] ⟨Ac,rfl,aa⟩ ?_))
 rintro⟨x6,o2_0⟩ ac gs ws ⟨hx6,hq1,_⟩ V
 refine Aj [] 3 V λV=>Ar (AJ ((x6:Int)<256) V (λh1=> ?_) (λh1=> ?_))
 ·exact B3 (Aj [] 3 V λV=>Aw [(2,AH x6 256),(6,AH x6 256),(10,AS (IG (A9 .u32 (IntKind.wrap .u32 (o2_0 x6)) (IntKind.wrap .u32 (g x6))))),(11,AH x6 256)] [] 3 V λV=>Ck (Aw [(0,Cu x6)] [6] 3 V λV=>Ae (As Y V (x6+1,upd o2_0 x6 (Eu (A9 .u32 (IntKind.wrap .u32 (o2_0 x6)) (IntKind.wrap .u32 (g x6))))) [(0,0),(1,1),(2,2)] ⟨Ac,(Bm (st:=Xk _) hq1 rfl rfl),aa⟩)))
 ·have hT:=V
  obtain rfl:256=x6:=by omega
  obtain rfl:=hq1.symm
  have V:=hT
  exact Dw (Aj [] 3 V λV=>AY (BV (Ab _) V))
end
def Vz (g:Nat->Int) (x6:Nat):(Nat->Int)->(Nat->Int):=λo2_0=>upd o2_0 x6 (Eu (FC .u32 (A9 .u32 (IntKind.wrap .u32 (o2_0 x6)) 3329) (IntKind.wrap .u32 (Eb (g x6) 3329))))
section
variable (f g:Nat->Int)
def Xz (f g:Nat->Int):Nat->(Nat->Int)
 |0=>f
 |x6+1=>Vz g x6 (Xz f g x6)
def MV:(Nat->Int):=AV (Xz f g 256)
def AcO (z_:(Nat->Int):=MV f g):Con:=⟨[.ar .u16 256 f,.ar .u16 256 g],[],.ar .u16 256 z_,[]⟩
theorem yC:AP 196 (AcO f g):=by
 refine cy 0 func196 rfl ntmps196 λY V=>Aj [] 3 V λV=>Ar (Aj [] 3 V λV=>BC (AC (ι:=Nat×(Nat->Int)) Y V (λ(x6,o2_0)=>(256-x6,[(6,vi ((x6:Nat):Int))],[(0,N1 o2_0)],(x6<=256)/\(o2_0=Xz f g x6)/\True)) [2,3,4] [1,2] 3 (0,f) [(0,0),(1,1),(2,2)] ⟨Ac,rfl,aa⟩ ?_))
 rintro⟨x6,o2_0⟩ ac gs ws ⟨hx6,hq1,_⟩ V
 refine Aj [] 3 V λV=>Ar (AJ ((x6:Int)<256) V (λh1=> ?_) (λh1=> ?_))
 ·exact B3 (Aj [] 3 V λV=>Aw [(2,AH x6 256),(7,AH x6 256),(9,Pe ((3329:Int)≠0)),(12,AS (IG (FC .u32 (A9 .u32 (IntKind.wrap .u32 (o2_0 x6)) 3329) (IntKind.wrap .u32 (Eb (g x6) 3329))))),(13,AH x6 256)] [] 3 V λV=>Ck (Aw [(0,Cu x6)] [6] 3 V λV=>Ae (As Y V (x6+1,upd o2_0 x6 (Eu (FC .u32 (A9 .u32 (IntKind.wrap .u32 (o2_0 x6)) 3329) (IntKind.wrap .u32 (Eb (g x6) 3329))))) [(0,0),(1,1),(2,2)] ⟨Ac,(Bm (st:=Vz _) hq1 rfl rfl),aa⟩)))
 ·have hT:=V
  obtain rfl:256=x6:=by omega
  obtain rfl:=hq1.symm
  have V:=hT
  exact Dw (Aj [] 3 V λV=>AY (BV (Ab _) V))
end
def OR (x3:Nat):(Int×Int)->(Int×Int):=λ(x0,x2)=>((Bh .i64 x0 1),(Em .i64 (BX .i64 x2 1) (Bz .i64 x0 1)))
section
variable (i:Nat)
def N_ (i:Nat):Nat->Int×Int
 |0=>((i:Int),0)
 |x3+1=>OR x3 (N_ i x3)
def MR:Int:=(N_ i 7).2
def HM:Int:=AV (MR i)
theorem Vt:HM i=MR i:=Ab _
theorem bN (h:i<128):0<=HM i/\HM i<128:=by
 have key:((List.range 128).all λi=>decide (0<=MR i)&&decide (MR i<128))=true:=by kernel_rfl
 have :=ax.1 key i (eo.2 h)
 rw[ao,decide_eq_true_iff,decide_eq_true_iff]at this
 rw[Vt]
 exact this
def oM (z_:Int:=HM i):Con:=⟨[vi (i:Int)],[],vi z_,[]⟩
theorem bM (h:i<128):AP 200 (oM i):=by
 refine cy 0 func200 rfl ntmps200 λY V=>Aj [] 0 V λV=>Ar (Aj [] 0 V λV=>BC (AC (ι:=Nat×Int×Int) Y V (λ(x3,x0,x2)=>(7-x3,[(0,vi x0),(2,vi x2),(3,vi ((x3:Nat):Int))],[],(x3<=7)/\((x0,x2)=N_ i x3)/\True)) [] [] 0 (0,(i:Int),0) [] ⟨Ac,rfl,aa⟩ ?_))
 rintro⟨x3,x0,x2⟩ ac gs ws ⟨hx3,hq1,_⟩ V
 refine Aj [] 0 V λV=>Ar (AJ ((x3:Int)<7) V (λh1=> ?_) (λh1=> ?_))
 ·exact B3 (Ay [(1,F_ 1)] [2] 0 V λV=>Aw [(1,F_ 1)] [0] 0 V λV=>Ck (Aw [(0,Cu x3)] [3] 0 V λV=>Ae (As Y V (x3+1,(Bh .i64 x0 1),(Em .i64 (BX .i64 x2 1) (Bz .i64 x0 1))) [] ⟨Ac,(Bm (st:=OR) hq1 rfl rfl),aa⟩)))
 ·have hT:=V
  obtain rfl:7=x3:=by omega
  obtain⟨rfl,rfl⟩:=T1 hq1
  have V:=hT
  exact Dw (Aj [2] 0 V λV=>AY (BV (Vt ..) V))
end
def Qb (k1:Nat):(Nat×(Nat->Int))->(Nat×(Nat->Int)):=λ(x2,o1_0)=>(x2+1,upd o1_0 x2 (Eb (BN .u32 (o1_0 (Int.toNat (((x2:Nat):Int)-1))) 17) 3329))
def HL:Nat->Nat×(Nat->Int)
 |0=>(1,upd (λ_=>0) 0 1)
 |k1+1=>Qb k1 (HL k1)
def LS:(Nat×(Nat->Int))->Prop:=λ(x2,o1_0)=>((x2:Nat):Int)<128
def P_ (x17:Nat):(Nat->Int)->(Nat->Int):=λo0_0=>upd o0_0 x17 (((HL (D3 λj=>LS (HL j))).2) (Int.toNat (HM x17)))
def Qa:Nat->(Nat->Int)
 |0=>λ_=>0
 |x17+1=>P_ x17 (Qa x17)
def Eo:(Nat->Int):=AV (Qa 128)
def uS (z_:(Nat->Int):=Eo):Con:=⟨[],[],.ar .u32 128 z_,[]⟩
theorem P9:AP 176 (uS):=by
 refine cy 0 func176 rfl ntmps176 λY V=>Aj [] 1 V λV=>Aj [] 2 V λV=>Ay [(0,AH 0 128)] [] 2 V λV=>Ar (Aj [] 2 V λV=>BC (AC (ι:=Nat×Nat×(Nat->Int)) Y V (λ(k1,x2,o1_0)=>(128-x2,[(2,vi (x2:Int))],[(1,.ob 233 (Jg [.ar .u32 128 o1_0]))],((x2,o1_0)=HL k1)/\(∀j,j<k1->LS (HL j))/\(x2<=128)/\(1<=x2)/\True)) [0,1] [0] 2 (0,1,upd (λ_=>0) 0 1) [(0,0),(1,1)] ⟨rfl,(λj h=>absurd h (be j)),Ac,Ac,aa⟩ ?_))
 rintro⟨k1,x2,o1_0⟩ ac gs ws ⟨hq1,hj1,p1,p2,_⟩ V
 refine Ar (Aj [] 2 V λV=>AJ ((x2:Int)<128) V (λh1=> ?_) (λh1=> ?_))
 ·exact B3 (Aw [(2,Xl (x2:Int) 1),(3,Ty ((x2:Int)-1) 128),(6,Pe ((3329:Int)≠0)),(7,AH x2 128)] [] 2 V λV=>Ck (Aw [(1,Cu x2)] [2] 2 V λV=>Ae (As Y V (k1+1,x2+1,upd o1_0 x2 (Eb (BN .u32 (o1_0 (Int.toNat ((x2:Int)-1))) 17) 3329)) [(0,0),(1,1)] ⟨(Bm (st:=Qb) hq1 rfl rfl),(Br hj1 (by rw[<-hq1];exact h1)),Ac,Ac,aa⟩)))
 ·have hT:=V
  obtain rfl:=CE (by rw[<-hq1];first |exact h1|exact cq h1) hj1
  obtain⟨rfl,rfl⟩:=T1 hq1
  have V:=hT
  refine JH (Aj [] 2 V λV=>BC (AC (ι:=Nat×(Nat->Int)) Y V (λ(x17,o0_0)=>(128-x17,[(17,vi ((x17:Nat):Int))],[(0,.ob 233 (Jg [.ar .u32 128 o0_0]))],(x17<=128)/\(o0_0=Qa x17)/\True)) [0,1] [1] 2 (0,λ_=>0) [(0,0),(1,1)] ⟨Ac,rfl,aa⟩ ?_))
  rintro⟨x17,o0_0⟩ ac gs ws ⟨hx17,hq2,_⟩ V
  refine Aj [] 2 V λV=>Ar (AJ ((x17:Int)<128) V (λh2=> ?_) (λh2=> ?_))
  ·refine B3 (Aj [] 2 V λV=> ?_)
   have ht:=bN x17 Ac
   exact Aw [(2,AS (bM x17 Ac)),(3,Ty (HM x17) 128),(5,AH x17 128)] [] 2 V λV=>Ck (Aw [(0,Cu x17)] [17] 2 V λV=>Ae (As Y V (x17+1,upd o0_0 x17 (((HL (D3 λj=>LS (HL j))).2) (Int.toNat (HM x17)))) [(0,0),(1,1)] ⟨Ac,(Bm (st:=P_) hq2 rfl rfl),aa⟩))
  ·have hT:=V
   obtain rfl:128=x17:=by omega
   obtain rfl:=hq2.symm
   have V:=hT
   exact Dw (Aj [] 2 V λV=>AY (BV (Ab _) V))
def PW (h:Nat):Prop:=h=1\/h=2\/h=4\/h=8\/h=16\/h=32\/h=64\/h=128
theorem AbV {h k:Nat} (h2:2<=h) (hh:PW h) (hk:k*h=128):k*(2*h)=256+0/\PW (h/2)/\h<=128:=by
 unfold PW at hh⊢
 rcases hh with rfl|rfl|rfl|rfl|rfl|rfl|rfl|rfl<;>omega
theorem AbU {h k f:Nat} (h2:2<=h) (hh:PW h) (hk:k*(2*h)=256+f) (hf:f<256):f+2*h<=256/\k<128/\(k+1)*(2*h)=256+(f+2*h):=by
 unfold PW at hh
 rcases hh with rfl|rfl|rfl|rfl|rfl|rfl|rfl|rfl<;>omega
theorem AbT {h k f:Nat} (h2:2<=h) (hh:PW h) (hk:k*(2*h)=256+f) (hf:f=256):k*(h/2)=128:=by
 unfold PW at hh
 rcases hh with rfl|rfl|rfl|rfl|rfl|rfl|rfl|rfl<;>omega
def Wh (x5 x4_2 k3:Nat):(Nat×(Nat->Int))->(Nat×(Nat->Int)):=λ(x7,o1_0_3)=>(x7+1,upd (upd o1_0_3 x7 (Eu (A9 .u32 (IntKind.wrap .u32 (o1_0_3 x7)) (Eb (BN .u32 (Eo x4_2) (IntKind.wrap .u32 (o1_0_3 (x7+x5)))) 3329)))) (x7+x5) (Eu (FC .u32 (A9 .u32 (IntKind.wrap .u32 (o1_0_3 x7)) 3329) (Eb (BN .u32 (Eo x4_2) (IntKind.wrap .u32 (o1_0_3 (x7+x5)))) 3329))))
def L_ (x5 x4_2 x6:Nat) (o1_0_2:Nat->Int):Nat->Nat×(Nat->Int)
 |0=>(x6,o1_0_2)
 |k3+1=>Wh x5 x4_2 k3 (L_ x5 x4_2 x6 o1_0_2 k3)
def Q7 (x5 x6:Nat):(Nat×(Nat->Int))->Prop:=λ(x7,o1_0_3)=>((x7:Nat):Int)<((x6+x5:Nat):Int)
def Wi (x5 k2:Nat):(Nat×Nat×(Nat->Int))->(Nat×Nat×(Nat->Int)):=λ(x4_2,x6,o1_0_2)=>(x4_2+1,x6+(2*x5),(L_ x5 x4_2 x6 o1_0_2 (D3 λj=>Q7 x5 x6 (L_ x5 x4_2 x6 o1_0_2 j))).2)
def H2 (x4 x5:Nat) (o1_0:Nat->Int):Nat->Nat×Nat×(Nat->Int)
 |0=>(x4,0,o1_0)
 |k2+1=>Wi x5 k2 (H2 x4 x5 o1_0 k2)
def Kr:(Nat×Nat×(Nat->Int))->Prop:=λ(x4_2,x6,o1_0_2)=>(x6:Int)<256
def Wj (k1:Nat):(Nat×Nat×(Nat->Int))->(Nat×Nat×(Nat->Int)):=λ(x4,x5,o1_0)=>((H2 x4 x5 o1_0 (D3 λj=>Kr (H2 x4 x5 o1_0 j))).1,x5/2,(H2 x4 x5 o1_0 (D3 λj=>Kr (H2 x4 x5 o1_0 j))).2.2)
def Q8 (f:Nat->Int):Nat->Nat×Nat×(Nat->Int)
 |0=>(1,128,BM f (λ_=>0))
 |k1+1=>Wj k1 (Q8 f k1)
def Wk:(Nat×Nat×(Nat->Int))->Prop:=λ(x4,x5,o1_0)=>(2:Int)<=(x5:Int)
section
variable (f:Nat->Int)
def Wg:(Nat->Int):=AV ((Q8 f (D3 λj=>Wk (Q8 f j))).2.2)
def AcS (z_:(Nat->Int):=Wg f):Con:=⟨[.ar .u16 256 f],[],.ar .u16 256 z_,[]⟩
theorem kA:AP 150 (AcS f):=by
 refine cy 0 func150 rfl ntmps150 λY V=>Aj [] 2 V λV=>Ay [(0,Ik (.ar .u16 256 f) [(.ar .u16 256 f:D)=(.ar .u16 256 f)] ⟨rfl,aa⟩),(2,J0 (JP f (λ_=>0)) [] [] [.ar .u16 256 f,.ar .u16 256 (λ_=>0)] [])] [] 2 V λV=>Ay [(0,AS (P9))] [3] 3 V λV=>Ar (Aj [] 3 V λV=>BC (AC (ι:=Nat×Nat×Nat×(Nat->Int)) Y V (λ(k1,x4,x5,o1_0)=>(x5,[(4,vi (x4:Int)),(5,vi (x5:Int))],[(0,N1 o1_0)],((x4,x5,o1_0)=Q8 f k1)/\(∀j,j<k1->Wk (Q8 f j))/\(PW x5)/\(x4*x5=128)/\True)) [1,2,3] [1,2] 3 (0,1,128,BM f (λ_=>0)) [(0,0),(1,1),(2,2)] ⟨rfl,(λj h=>absurd h (be j)),(by unfold PW;omega),rfl,aa⟩ ?_))
 rintro⟨k1,x4,x5,o1_0⟩ ac gs ws ⟨hq1,hj1,pw,pk,_⟩ V
 refine Ar (Aj [] 3 V λV=>AJ ((2:Int)<=(x5:Int)) V (λh1=> ?_) (λh1=> ?_))
 ·refine B3 (Ar ?_)
  have pa:=AbV Ac pw pk
  refine Dl [] 3 V λV=>Ae (BC (AC (ι:=Nat×Nat×Nat×(Nat->Int)) Y V (λ(k2,x4_2,x6,o1_0_2)=>(256-x6,[(4,vi (x4_2:Int)),(6,vi (x6:Int))],[(0,N1 o1_0_2)],((x4_2,x6,o1_0_2)=H2 x4 x5 o1_0 k2)/\(∀j,j<k2->Kr (H2 x4 x5 o1_0 j))/\(x4_2*(2*x5)=256+x6)/\(x6<=256)/\True)) [1,2,3,5] [1,2] 3 (0,x4,0,o1_0) [(0,0),(1,1),(2,2)] ⟨rfl,(λj h=>absurd h (be j)),pa.1,Ac,aa⟩ ?_))
  rintro⟨k2,x4_2,x6,o1_0_2⟩ ac gs ws ⟨hq2,hj2,p2,p3,_⟩ V
  refine Ar (Aj [] 3 V λV=>AJ ((x6:Int)<256) V (λh2=> ?_) (λh2=> ?_))
  ·refine B3 (Ii ?_)
   have pb:=AbU Ac pw p2 Ac
   refine Dl [] 3 V λV=>Ae (BC (AC (ι:=Nat×Nat×(Nat->Int)) Y V (λ(k3,x7,o1_0_3)=>(x6+x5-x7,[(7,vi (x7:Int))],[(0,N1 o1_0_3)],((x7,o1_0_3)=L_ x5 x4_2 x6 o1_0_2 k3)/\(∀j,j<k3->Q7 x5 x6 (L_ x5 x4_2 x6 o1_0_2 j))/\(x6<=x7)/\(x7<=x6+x5)/\True)) [1,2,3,4,5,6] [1,2] 3 (0,x6,o1_0_2) [(0,0),(1,1),(2,2)] ⟨rfl,(λj h=>absurd h (be j)),Ac,Ac,aa⟩ ?_))
   rintro⟨k3,x7,o1_0_3⟩ ac gs ws ⟨hq3,hj3,p4,p5,_⟩ V
   refine Ar (Ay [(3,FW x6 x5 (x6+x5))] [] 3 V λV=>AJ ((x7:Int)<((x6+x5:Nat):Int)) V (λh3=> ?_) (λh3=> ?_))
   ·exact B3 (Ay [(1,AH x4_2 128),(5,FW x7 x5 (x7+x5)),(6,AH (x7+x5) 256),(10,Pe ((3329:Int)≠0))] [] 3 V λV=>Aw [(3,FW x7 x5 (x7+x5)),(5,AH x7 256),(10,AS (IG (A9 .u32 (IntKind.wrap .u32 (o1_0_3 x7)) (Eb (BN .u32 (Eo x4_2) (IntKind.wrap .u32 (o1_0_3 (x7+x5)))) 3329)))),(12,AH x7 256),(18,AS (IG (FC .u32 (A9 .u32 (IntKind.wrap .u32 (o1_0_3 x7)) 3329) (Eb (BN .u32 (Eo x4_2) (IntKind.wrap .u32 (o1_0_3 (x7+x5)))) 3329)))),(19,AH x7 256),(21,AH (x7+x5) 256)] [] 3 V λV=>Ck (Aw [(1,Cu x7)] [7] 3 V λV=>Ae (As Y V (k3+1,x7+1,upd (upd o1_0_3 x7 (Eu (A9 .u32 (IntKind.wrap .u32 (o1_0_3 x7)) (Eb (BN .u32 (Eo x4_2) (IntKind.wrap .u32 (o1_0_3 (x7+x5)))) 3329)))) (x7+x5) (Eu (FC .u32 (A9 .u32 (IntKind.wrap .u32 (o1_0_3 x7)) 3329) (Eb (BN .u32 (Eo x4_2) (IntKind.wrap .u32 (o1_0_3 (x7+x5)))) 3329)))) [(0,0),(1,1),(2,2)] ⟨(Bm (st:=Wh _ _) hq3 rfl rfl),(Br hj3 (by rw[<-hq3];exact h3)),Ac,Ac,aa⟩)))
   ·have hT:=V
    obtain rfl:=CE (by rw[<-hq3];first |exact h3|exact cq h3) hj3
    obtain⟨rfl,rfl⟩:=T1 hq3
    have V:=hT
    exact Dw (Aw [(1,Cu x4_2)] [4] 3 V λV=>Ck (Aw [(2,IC 2 x5 (2*x5)),(3,FW x6 (2*x5) (x6+(2*x5)))] [6] 3 V λV=>Ae (As Y V (k2+1,x4_2+1,x6+(2*x5),(L_ x5 x4_2 x6 o1_0_2 (D3 λj=>Q7 x5 x6 (L_ x5 x4_2 x6 o1_0_2 j))).2) [(0,0),(1,1),(2,2)] ⟨(Bm (st:=Wi _) hq2 rfl rfl),(Br hj2 (by rw[<-hq2];exact h2)),pb.2.2,pb.1,aa⟩)))
  ·have hT:=V
   have pe:=AbT Ac pw p2 Ac
   have pn:=pa.2.1
   obtain rfl:=CE (by rw[<-hq2];first |exact h2|exact cq h2) hj2
   obtain⟨rfl,rfl,rfl⟩:=jL hq2
   have V:=hT
   exact Vh (Aw [(1,Vk x5 2)] [5] 3 V λV=>Ae (As Y V (k1+1,(H2 x4 x5 o1_0 (D3 λj=>Kr (H2 x4 x5 o1_0 j))).1,x5/2,(H2 x4 x5 o1_0 (D3 λj=>Kr (H2 x4 x5 o1_0 j))).2.2) [(0,0),(1,1),(2,2)] ⟨(Bm (st:=Wj) hq1 rfl rfl),(Br hj1 (by rw[<-hq1];exact h1)),pn,pe,aa⟩))
 ·have hT:=V
  obtain rfl:=CE (by rw[<-hq1];first |exact h1|exact cq h1) hj1
  obtain⟨rfl,rfl,rfl⟩:=jL hq1
  have V:=hT
  exact Dw (Aj [] 3 V λV=>AY (BV (Ab _) V))
end
def PQ (h:Nat):Prop:=h=2\/h=4\/h=8\/h=16\/h=32\/h=64\/h=128\/h=256
set_option maxRecDepth 10000 in
theorem Ab9 {h k:Nat} (h2:h<=128) (hh:PQ h) (hk:(k+1)*h=256):(k+1)*(2*h)+0=512/\PQ (h*2)/\1<=h:=by
 unfold PQ at hh⊢
 rcases hh with rfl|rfl|rfl|rfl|rfl|rfl|rfl|rfl<;>omega
set_option maxRecDepth 10000 in
theorem Ab8 {h k f:Nat} (h2:h<=128) (hh:PQ h) (hk:(k+1)*(2*h)+f=512) (hf:f<256):f+2*h<=256/\k<128/\1<=k/\(k-1+1)*(2*h)+(f+2*h)=512/\2<=h:=by
 unfold PQ at hh
 rcases hh with rfl|rfl|rfl|rfl|rfl|rfl|rfl|rfl<;>omega
set_option maxRecDepth 10000 in
theorem Ab7 {h k f:Nat} (h2:h<=128) (hh:PQ h) (hk:(k+1)*(2*h)+f=512) (hf:f=256):(k+1)*(h*2)=256:=by
 unfold PQ at hh
 rcases hh with rfl|rfl|rfl|rfl|rfl|rfl|rfl|rfl<;>omega
def Nv (x5 x4_2 k3:Nat):(Nat×(Nat->Int))->(Nat×(Nat->Int)):=λ(x7,o1_0_3)=>(x7+1,upd (upd o1_0_3 x7 (Eu (A9 .u32 (IntKind.wrap .u32 (o1_0_3 x7)) (IntKind.wrap .u32 (o1_0_3 (x7+x5)))))) (x7+x5) (Eu (BN .u32 (Eo x4_2) (FC .u32 (A9 .u32 (IntKind.wrap .u32 ((upd o1_0_3 x7 (Eu (A9 .u32 (IntKind.wrap .u32 (o1_0_3 x7)) (IntKind.wrap .u32 (o1_0_3 (x7+x5)))))) (x7+x5))) 3329) (IntKind.wrap .u32 (o1_0_3 x7))))))
def FR (x5 x4_2 x6:Nat) (o1_0_2:Nat->Int):Nat->Nat×(Nat->Int)
 |0=>(x6,o1_0_2)
 |k3+1=>Nv x5 x4_2 k3 (FR x5 x4_2 x6 o1_0_2 k3)
def Jy (x5 x6:Nat):(Nat×(Nat->Int))->Prop:=λ(x7,o1_0_3)=>((x7:Nat):Int)<((x6+x5:Nat):Int)
def Nw (x5 k2:Nat):(Nat×Nat×(Nat->Int))->(Nat×Nat×(Nat->Int)):=λ(x4_2,x6,o1_0_2)=>(x4_2-1,x6+(2*x5),(FR x5 x4_2 x6 o1_0_2 (D3 λj=>Jy x5 x6 (FR x5 x4_2 x6 o1_0_2 j))).2)
def DU (x4 x5:Nat) (o1_0:Nat->Int):Nat->Nat×Nat×(Nat->Int)
 |0=>(x4,0,o1_0)
 |k2+1=>Nw x5 k2 (DU x4 x5 o1_0 k2)
def Gq:(Nat×Nat×(Nat->Int))->Prop:=λ(x4_2,x6,o1_0_2)=>(x6:Int)<256
def Ny (k1:Nat):(Nat×Nat×(Nat->Int))->(Nat×Nat×(Nat->Int)):=λ(x4,x5,o1_0)=>((DU x4 x5 o1_0 (D3 λj=>Gq (DU x4 x5 o1_0 j))).1,x5*2,(DU x4 x5 o1_0 (D3 λj=>Gq (DU x4 x5 o1_0 j))).2.2)
def FS (f:Nat->Int):Nat->Nat×Nat×(Nat->Int)
 |0=>(127,2,BM f (λ_=>0))
 |k1+1=>Ny k1 (FS f k1)
def Jz:(Nat×Nat×(Nat->Int))->Prop:=λ(x4,x5,o1_0)=>(x5:Int)<=128
def Nu (x67:Nat):(Nat->Int)->(Nat->Int):=λo1_0=>upd o1_0 x67 (Eu (BN .u32 (IntKind.wrap .u32 (o1_0 x67)) 3303))
section
variable (f:Nat->Int)
def Mb (f:Nat->Int):Nat->(Nat->Int)
 |0=>(FS f (D3 λj=>Jz (FS f j))).2.2
 |x67+1=>Nu x67 (Mb f x67)
def A2:(Nat->Int):=AV (Mb f 256)
def eM (z_:(Nat->Int):=A2 f):Con:=⟨[.ar .u16 256 f],[],.ar .u16 256 z_,[]⟩
theorem Ma:AP 197 (eM f):=by
 refine cy 0 func197 rfl ntmps197 λY V=>Aj [] 2 V λV=>Ay [(0,Ik (.ar .u16 256 f) [(.ar .u16 256 f:D)=(.ar .u16 256 f)] ⟨rfl,aa⟩),(2,J0 (JP f (λ_=>0)) [] [] [.ar .u16 256 f,.ar .u16 256 (λ_=>0)] [])] [] 2 V λV=>Ay [(0,AS (P9))] [3] 3 V λV=>Ar (Aj [] 3 V λV=>BC (AC (ι:=Nat×Nat×Nat×(Nat->Int)) Y V (λ(k1,x4,x5,o1_0)=>(256-x5,[(4,vi (x4:Int)),(5,vi (x5:Int))],[(0,N1 o1_0)],((x4,x5,o1_0)=FS f k1)/\(∀j,j<k1->Jz (FS f j))/\(PQ x5)/\((x4+1)*x5=256)/\True)) [1,2,3] [1,2] 3 (0,127,2,BM f (λ_=>0)) [(0,0),(1,1),(2,2)] ⟨rfl,(λj h=>absurd h (be j)),(by unfold PQ;omega),rfl,aa⟩ ?_))
 rintro⟨k1,x4,x5,o1_0⟩ ac gs ws ⟨hq1,hj1,pw,pk,_⟩ V
 refine Ar (Aj [] 3 V λV=>AJ ((x5:Int)<=128) V (λh1=> ?_) (λh1=> ?_))
 ·refine B3 (Ar ?_)
  have pa:=Ab9 Ac pw pk
  refine Dl [] 3 V λV=>Ae (BC (AC (ι:=Nat×Nat×Nat×(Nat->Int)) Y V (λ(k2,x4_2,x6,o1_0_2)=>(256-x6,[(4,vi (x4_2:Int)),(6,vi (x6:Int))],[(0,N1 o1_0_2)],((x4_2,x6,o1_0_2)=DU x4 x5 o1_0 k2)/\(∀j,j<k2->Gq (DU x4 x5 o1_0 j))/\((x4_2+1)*(2*x5)+x6=512)/\(x6<=256)/\True)) [1,2,3,5] [1,2] 3 (0,x4,0,o1_0) [(0,0),(1,1),(2,2)] ⟨rfl,(λj h=>absurd h (be j)),pa.1,Ac,aa⟩ ?_))
  rintro⟨k2,x4_2,x6,o1_0_2⟩ ac gs ws ⟨hq2,hj2,p2,p3,_⟩ V
  refine Ar (Aj [] 3 V λV=>AJ ((x6:Int)<256) V (λh2=> ?_) (λh2=> ?_))
  ·refine B3 (Ii ?_)
   have pb:=Ab8 Ac pw p2 Ac
   refine Dl [] 3 V λV=>Ae (BC (AC (ι:=Nat×Nat×(Nat->Int)) Y V (λ(k3,x7,o1_0_3)=>(x6+x5-x7,[(7,vi (x7:Int))],[(0,N1 o1_0_3)],((x7,o1_0_3)=FR x5 x4_2 x6 o1_0_2 k3)/\(∀j,j<k3->Jy x5 x6 (FR x5 x4_2 x6 o1_0_2 j))/\(x6<=x7)/\(x7<=x6+x5)/\True)) [1,2,3,4,5,6] [1,2] 3 (0,x6,o1_0_2) [(0,0),(1,1),(2,2)] ⟨rfl,(λj h=>absurd h (be j)),Ac,Ac,aa⟩ ?_))
   rintro⟨k3,x7,o1_0_3⟩ ac gs ws ⟨hq3,hj3,p4,p5,_⟩ V
   refine Ar (Ay [(3,FW x6 x5 (x6+x5))] [] 3 V λV=>AJ ((x7:Int)<((x6+x5:Nat):Int)) V (λh3=> ?_) (λh3=> ?_))
   ·exact B3 (Ay [(1,AH x7 256)] [] 3 V λV=>Ay [(4,FW x7 x5 (x7+x5)),(5,AH (x7+x5) 256),(9,AS (IG (A9 .u32 (IntKind.wrap .u32 (o1_0_3 x7)) (IntKind.wrap .u32 (o1_0_3 (x7+x5)))))),(10,AH x7 256)] [] 3 V λV=>Aw [(2,FW x7 x5 (x7+x5)),(4,AH x4_2 128),(8,FW x7 x5 (x7+x5)),(9,AH (x7+x5) 256),(16,AS (IG (BN .u32 (Eo x4_2) (FC .u32 (A9 .u32 (IntKind.wrap .u32 ((upd o1_0_3 x7 (Eu (A9 .u32 (IntKind.wrap .u32 (o1_0_3 x7)) (IntKind.wrap .u32 (o1_0_3 (x7+x5)))))) (x7+x5))) 3329) (IntKind.wrap .u32 (o1_0_3 x7)))))),(17,AH (x7+x5) 256)] [] 3 V λV=>Ck (Aw [(1,Cu x7)] [7] 3 V λV=>Ae (As Y V (k3+1,x7+1,upd (upd o1_0_3 x7 (Eu (A9 .u32 (IntKind.wrap .u32 (o1_0_3 x7)) (IntKind.wrap .u32 (o1_0_3 (x7+x5)))))) (x7+x5) (Eu (BN .u32 (Eo x4_2) (FC .u32 (A9 .u32 (IntKind.wrap .u32 ((upd o1_0_3 x7 (Eu (A9 .u32 (IntKind.wrap .u32 (o1_0_3 x7)) (IntKind.wrap .u32 (o1_0_3 (x7+x5)))))) (x7+x5))) 3329) (IntKind.wrap .u32 (o1_0_3 x7)))))) [(0,0),(1,1),(2,2)] ⟨(Bm (st:=Nv _ _) hq3 rfl rfl),(Br hj3 (by rw[<-hq3];exact h3)),Ac,Ac,aa⟩)))
   ·have hT:=V
    obtain rfl:=CE (by rw[<-hq3];first |exact h3|exact cq h3) hj3
    obtain⟨rfl,rfl⟩:=T1 hq3
    have V:=hT
    exact Dw (Aw [(1,IM x4_2 1 (x4_2-1))] [4] 3 V λV=>Ck (Aw [(2,IC 2 x5 (2*x5)),(3,FW x6 (2*x5) (x6+(2*x5)))] [6] 3 V λV=>Ae (As Y V (k2+1,x4_2-1,x6+(2*x5),(FR x5 x4_2 x6 o1_0_2 (D3 λj=>Jy x5 x6 (FR x5 x4_2 x6 o1_0_2 j))).2) [(0,0),(1,1),(2,2)] ⟨(Bm (st:=Nw _) hq2 rfl rfl),(Br hj2 (by rw[<-hq2];exact h2)),pb.2.2.2.1,pb.1,aa⟩)))
  ·have hT:=V
   have pe:=Ab7 Ac pw p2 Ac
   have pn:=pa.2.1
   have pz:=pa.2.2
   obtain rfl:=CE (by rw[<-hq2];first |exact h2|exact cq h2) hj2
   obtain⟨rfl,rfl,rfl⟩:=jL hq2
   have V:=hT
   exact Vh (Aw [(1,IC x5 2 (x5*2))] [5] 3 V λV=>Ae (As Y V (k1+1,(DU x4 x5 o1_0 (D3 λj=>Gq (DU x4 x5 o1_0 j))).1,x5*2,(DU x4 x5 o1_0 (D3 λj=>Gq (DU x4 x5 o1_0 j))).2.2) [(0,0),(1,1),(2,2)] ⟨(Bm (st:=Ny) hq1 rfl rfl),(Br hj1 (by rw[<-hq1];exact h1)),pn,pe,aa⟩))
 ·have hT:=V
  obtain rfl:=CE (by rw[<-hq1];first |exact h1|exact cq h1) hj1
  obtain⟨rfl,rfl,rfl⟩:=jL hq1
  have V:=hT
  refine JH (Aj [] 3 V λV=>BC (AC (ι:=Nat×(Nat->Int)) Y V (λ(x67,o1_0)=>(256-x67,[(67,vi ((x67:Nat):Int))],[(0,N1 o1_0)],(x67<=256)/\(o1_0=Mb f x67)/\True)) [1,2] [1] 2 (0,(FS f (D3 λj=>Jz (FS f j))).2.2) [(0,0),(1,1)] ⟨Ac,rfl,aa⟩ ?_))
  rintro⟨x67,o1_0⟩ ac gs ws ⟨hx67,hq4,_⟩ V
  refine Aj [] 2 V λV=>Ar (AJ ((x67:Int)<256) V (λh4=> ?_) (λh4=> ?_))
  ·exact B3 (Aj [] 2 V λV=>Aw [(2,AH x67 256),(6,AS (IG (BN .u32 (IntKind.wrap .u32 (o1_0 x67)) 3303))),(7,AH x67 256)] [] 2 V λV=>Ck (Aw [(0,Cu x67)] [67] 2 V λV=>Ae (As Y V (x67+1,upd o1_0 x67 (Eu (BN .u32 (IntKind.wrap .u32 (o1_0 x67)) 3303))) [(0,0),(1,1)] ⟨Ac,(Bm (st:=Nu) hq4 rfl rfl),aa⟩)))
  ·have hT:=V
   obtain rfl:256=x67:=by omega
   obtain rfl:=hq4.symm
   have V:=hT
   exact Dw (Aj [] 2 V λV=>AY (BV (Ab _) V))
end
def Wn (g:Nat->Int) (k1:Nat):(Nat×(Nat->Int))->(Nat×(Nat->Int)):=λ(x6,o2_0)=>(x6+2,upd (upd o2_0 x6 (Eu (A9 .u32 (BN .u32 (IntKind.wrap .u32 (o2_0 x6)) (IntKind.wrap .u32 ((BM g (λ_=>0)) x6))) (BN .u32 (Eb (BN .u32 (IntKind.wrap .u32 (o2_0 (x6+1))) (IntKind.wrap .u32 ((BM g (λ_=>0)) (x6+1)))) 3329) (Eb (BN .u32 (Eb (BN .u32 (Eo (x6/2)) (Eo (x6/2))) 3329) 17) 3329))))) (x6+1) (Eu (A9 .u32 (BN .u32 (IntKind.wrap .u32 (o2_0 x6)) (IntKind.wrap .u32 ((BM g (λ_=>0)) (x6+1)))) (BN .u32 (IntKind.wrap .u32 (o2_0 (x6+1))) (IntKind.wrap .u32 ((BM g (λ_=>0)) x6))))))
def Rc (f g:Nat->Int):Nat->Nat×(Nat->Int)
 |0=>(0,BM f (λ_=>0))
 |k1+1=>Wn g k1 (Rc f g k1)
def Wo:(Nat×(Nat->Int))->Prop:=λ(x6,o2_0)=>((x6:Nat):Int)<256
section
variable (f:Nat->Int)
def kJ (g:Nat->Int):(Nat->Int):=AV ((Rc f g (D3 λj=>Wo (Rc f g j))).2)
def AcT (g:Nat->Int) (z_:(Nat->Int):=kJ f g):Con:=⟨[.ar .u16 256 f,.ar .u16 256 g],[],.ar .u16 256 z_,[]⟩
theorem zN (g:Nat->Int):AP 180 (AcT f g):=by
 refine cy 0 func180 rfl ntmps180 λY V=>Aj [] 3 V λV=>Ay [(0,Ik (.ar .u16 256 f) [(.ar .u16 256 f:D)=(.ar .u16 256 f)] ⟨rfl,aa⟩),(2,J0 (JP f (λ_=>0)) [] [] [.ar .u16 256 f,.ar .u16 256 (λ_=>0)] []),(3,Ik (.ar .u16 256 g) [(.ar .u16 256 g:D)=(.ar .u16 256 g)] ⟨rfl,aa⟩),(5,J0 (JP g (λ_=>0)) [] [] [.ar .u16 256 g,.ar .u16 256 (λ_=>0)] [])] [] 3 V λV=>Ay [(0,AS (P9))] [5] 4 V λV=>Ar (Aj [] 4 V λV=>BC (AC (ι:=Nat×Nat×(Nat->Int)) Y V (λ(k1,x6,o2_0)=>(256-x6,[(6,vi (x6:Int))],[(0,N1 o2_0)],((x6,o2_0)=Rc f g k1)/\(∀j,j<k1->Wo (Rc f g j))/\(x6<=256)/\(x6%2=0)/\True)) [2,3,4,5] [1,2,3] 4 (0,0,BM f (λ_=>0)) [(0,0),(1,1),(2,2),(3,3)] ⟨rfl,(λj h=>absurd h (be j)),Ac,rfl,aa⟩ ?_))
 rintro⟨k1,x6,o2_0⟩ ac gs ws ⟨hq1,hj1,p1,p2,_⟩ V
 refine Ar (Aj [] 4 V λV=>AJ ((x6:Int)<256) V (λh1=> ?_) (λh1=> ?_))
 ·exact B3 (Ay [(1,Vk x6 2),(2,AH (x6/2) 128),(5,Vk x6 2),(6,AH (x6/2) 128),(9,Pe ((3329:Int)≠0)),(11,Pe ((3329:Int)≠0))] [] 4 V λV=>Ay [(1,AH x6 256),(5,Cu x6),(6,AH (x6+1) 256),(10,AH x6 256),(14,Cu x6),(15,AH (x6+1) 256)] [] 4 V λV=>Aw [(2,Cu x6),(9,Pe ((3329:Int)≠0)),(13,AS (IG (A9 .u32 (BN .u32 (IntKind.wrap .u32 (o2_0 x6)) (IntKind.wrap .u32 ((BM g (λ_=>0)) x6))) (BN .u32 (Eb (BN .u32 (IntKind.wrap .u32 (o2_0 (x6+1))) (IntKind.wrap .u32 ((BM g (λ_=>0)) (x6+1)))) 3329) (Eb (BN .u32 (Eb (BN .u32 (Eo (x6/2)) (Eo (x6/2))) 3329) 17) 3329))))),(21,AS (IG (A9 .u32 (BN .u32 (IntKind.wrap .u32 (o2_0 x6)) (IntKind.wrap .u32 ((BM g (λ_=>0)) (x6+1)))) (BN .u32 (IntKind.wrap .u32 (o2_0 (x6+1))) (IntKind.wrap .u32 ((BM g (λ_=>0)) x6)))))),(22,AH x6 256),(24,AH (x6+1) 256)] [] 4 V λV=>Ck (Aw [(1,FW x6 2 (x6+2))] [6] 4 V λV=>Ae (As Y V (k1+1,x6+2,upd (upd o2_0 x6 (Eu (A9 .u32 (BN .u32 (IntKind.wrap .u32 (o2_0 x6)) (IntKind.wrap .u32 ((BM g (λ_=>0)) x6))) (BN .u32 (Eb (BN .u32 (IntKind.wrap .u32 (o2_0 (x6+1))) (IntKind.wrap .u32 ((BM g (λ_=>0)) (x6+1)))) 3329) (Eb (BN .u32 (Eb (BN .u32 (Eo (x6/2)) (Eo (x6/2))) 3329) 17) 3329))))) (x6+1) (Eu (A9 .u32 (BN .u32 (IntKind.wrap .u32 (o2_0 x6)) (IntKind.wrap .u32 ((BM g (λ_=>0)) (x6+1)))) (BN .u32 (IntKind.wrap .u32 (o2_0 (x6+1))) (IntKind.wrap .u32 ((BM g (λ_=>0)) x6)))))) [(0,0),(1,1),(2,2),(3,3)] ⟨(Bm (st:=Wn _) hq1 rfl rfl),(Br hj1 (by rw[<-hq1];exact h1)),Ac,Ac,aa⟩)))
 ·have hT:=V
  obtain rfl:=CE (by rw[<-hq1];first |exact h1|exact cq h1) hj1
  obtain⟨rfl,rfl⟩:=T1 hq1
  have V:=hT
  exact Dw (Aj [] 4 V λV=>AY (BV (Ab _) V))
def EU (x21:Nat) (x6:Ad) (x30:Nat):Ad->Ad:=λx6_2=>x6_2.set (((x21*12)+x30)/8) (Em .u8 (x6_2.getD (((x21*12)+x30)/8) 0) (BX .u8 (IntKind.wrap .u8 (Bz .u16 (Bh .u16 (Eb (f x21) 3329) (x30:Int)) 1)) ((((x21*12)+x30)%8:Nat):Int)))
def Fe (f:Nat->Int) (x21:Nat) (x6:Ad):Nat->Ad
 |0=>x6
 |x30+1=>EU f x21 x6 x30 (Fe f x21 x6 x30)
def LM (x21:Nat):Ad->Ad:=λx6=>Fe f x21 x6 12
def F7 (f:Nat->Int):Nat->Ad
 |0=>replicate 384 (0:Int)
 |x21+1=>LM f x21 (F7 f x21)
def CZ:Ad:=AV (F7 f 256)
def YL (z_:Ad:=CZ f):Con:=⟨[.ar .u16 256 f,vi 12],[],.tu (Jg [.sk 0,vi 0]),[(0,.sl 5 Bg z_)]⟩
theorem WS:AP 181 (YL f):=by
 refine cy 0 func181 rfl ntmps181 λY V=>Aj [] 1 V λV=>Ar (Aj [] 1 V λV=>Ai V (Cb (Ay [(2,fD 384 1)] [] 2 V λV=>Ar (Aj [] 2 V λV=>BC (AC (ι:=Nat×Ad) Y V (λ(x21,x6)=>(256-x21,[(21,vi ((x21:Nat):Int))],[(1,.sl 5 Bg x6)],(x21<=256)/\(x6=F7 f x21)/\(x6.length=384)/\True)) [1,4,5,6,20] [] 2 (0,replicate 384 (0:Int)) [(1,1)] ⟨Ac,rfl,(by simp),aa⟩ ?_)))))
 rintro⟨x21,x6⟩ ac gs ws ⟨hx21,hq1,p1,_⟩ V
 refine Aj [] 2 V λV=>Ar (AJ ((x21:Int)<256) V (λh1=> ?_) (λh1=> ?_))
 ·refine B3 (Ay [(1,AH x21 256)] [] 2 V λV=>Ar (Aj [] 2 V λV=>AG V (Aw [(1,Pe ((3329:Int)≠0))] [8] 2 V λV=>Ae (Aj [] 2 V λV=>BC (AC (ι:=Nat×Ad) Y V (λ(x30,x6_2)=>(12-x30,[(30,vi ((x30:Nat):Int))],[(1,.sl 5 Bg x6_2)],(x30<=12)/\(x6_2=Fe f x21 x6 x30)/\(x6_2.length=384)/\True)) [1,4,5,6,7,8,20,21,29] [] 2 (0,x6) [(1,1)] ⟨Ac,rfl,p1,aa⟩ ?_)))))
  rintro⟨x30,x6_2⟩ ac gs ws ⟨hx30,hq2,p2,_⟩ V
  refine Aj [] 2 V λV=>Ar (AJ ((x30:Int)<12) V (λh2=> ?_) (λh2=> ?_))
  ·exact B3 (Aj [] 2 V λV=>Ay [(2,IC x21 12 (x21*12)),(4,FW (x21*12) x30 ((x21*12)+x30))] [] 2 V λV=>Aw [(2,Vk ((x21*12)+x30) 8),(3,AH (((x21*12)+x30)/8) x6_2.length),(7,F_ x30),(11,MA ((x21*12)+x30) 8),(12,F_ (((x21*12)+x30)%8)),(14,AH (((x21*12)+x30)/8) x6_2.length)] [] 2 V λV=>Ck (Aw [(0,Cu x30)] [30] 2 V λV=>Ae (As Y V (x30+1,x6_2.set (((x21*12)+x30)/8) (Em .u8 (x6_2.getD (((x21*12)+x30)/8) 0) (BX .u8 (IntKind.wrap .u8 (Bz .u16 (Bh .u16 (Eb (f x21) 3329) (x30:Int)) 1)) ((((x21*12)+x30)%8:Nat):Int)))) [(1,1)] ⟨Ac,(Bm (st:=EU _ _ _) hq2 rfl rfl),(by simpa using p2),aa⟩)))
  ·have hT:=V
   obtain rfl:12=x30:=by omega
   obtain rfl:=hq2.symm
   have V:=hT
   exact Vh (Aw [(0,Cu x21)] [21] 2 V λV=>Ae (As Y V (x21+1,Fe f x21 x6 12) [(1,1)] ⟨Ac,(Bm (st:=LM _) hq1 rfl rfl),p2,aa⟩))
 ·have hT:=V
  obtain rfl:256=x21:=by omega
  obtain rfl:=hq1.symm
  have V:=hT
  refine Dw (Aj [] 2 V λV=>AY ?_)
  obtain⟨gs,V⟩:=V.rx [(0,1)] [4,5] [0] 1 Y
  exact BV (Ab _) V
end
section
variable (xs:Ad)
def LB (x8 x12:Nat):(Nat->Int)->(Nat->Int):=λo4_0_2=>upd o4_0_2 x8 (Em .u16 (o4_0_2 x8) (BX .u16 (IntKind.wrap .u16 (Bz .u8 (Bh .u8 (xs.getD (((x8*12)+x12)/8) 0) ((((x8*12)+x12)%8:Nat):Int)) 1)) (x12:Int)))
def EA (xs:Ad) (x8:Nat) (o4_0:Nat->Int):Nat->(Nat->Int)
 |0=>o4_0
 |x12+1=>LB xs x8 x12 (EA xs x8 o4_0 x12)
def LC (x8:Nat):(Nat->Int)->(Nat->Int):=λo4_0=>EA xs x8 o4_0 12
def FX (xs:Ad):Nat->(Nat->Int)
 |0=>λ_=>0
 |x8+1=>LC xs x8 (FX xs x8)
def E8:(Nat->Int):=AV (FX xs 256)
def YD (z_:(Nat->Int):=E8 xs):Con:=⟨[vi 12,lb xs],[],.ar .u16 256 z_,[]⟩
theorem Vr (h:384<=xs.length):AP 194 (YD xs):=by
 refine cy 0 func194 rfl ntmps194 λY V=> ?_
 have BJ:xs.length<=9223372036854775807:=V.len 1 rfl
 refine Aj [] 1 V λV=>Ar (Aj [] 1 V λV=>BC (AC (ι:=Nat×(Nat->Int)) Y V (λ(x8,o4_0)=>(256-x8,[(8,vi ((x8:Nat):Int))],[(0,N1 o4_0)],(x8<=256)/\(o4_0=FX xs x8)/\True)) [0,1,4] [] 1 (0,λ_=>0) [(0,0)] ⟨Ac,rfl,aa⟩ ?_))
 rintro⟨x8,o4_0⟩ ac gs ws ⟨hx8,hq1,_⟩ V
 refine Aj [] 1 V λV=>Ar (AJ ((x8:Int)<256) V (λh1=> ?_) (λh1=> ?_))
 ·refine B3 (Aj [] 1 V λV=>Aj [] 1 V λV=>BC (AC (ι:=Nat×(Nat->Int)) Y V (λ(x12,o4_0_2)=>(12-x12,[(12,vi ((x12:Nat):Int))],[(0,N1 o4_0_2)],(x12<=12)/\(o4_0_2=EA xs x8 o4_0 x12)/\True)) [0,1,4,5,8,11] [] 1 (0,o4_0) [(0,0)] ⟨Ac,rfl,aa⟩ ?_))
  rintro⟨x12,o4_0_2⟩ ac gs ws ⟨hx12,hq2,_⟩ V
  refine Aj [] 1 V λV=>Ar (AJ ((x12:Int)<12) V (λh2=> ?_) (λh2=> ?_))
  ·exact B3 (Aj [] 1 V λV=>Ay [(2,IC x8 12 (x8*12)),(4,FW (x8*12) x12 ((x8*12)+x12))] [] 1 V λV=>Aw [(1,AH x8 256),(5,Vk ((x8*12)+x12) 8),(6,AH (((x8*12)+x12)/8) xs.length),(9,MA ((x8*12)+x12) 8),(10,F_ (((x8*12)+x12)%8)),(14,F_ x12),(16,AH x8 256)] [] 1 V λV=>Ck (Aw [(0,Cu x12)] [12] 1 V λV=>Ae (As Y V (x12+1,upd o4_0_2 x8 (Em .u16 (o4_0_2 x8) (BX .u16 (IntKind.wrap .u16 (Bz .u8 (Bh .u8 (xs.getD (((x8*12)+x12)/8) 0) ((((x8*12)+x12)%8:Nat):Int)) 1)) (x12:Int)))) [(0,0)] ⟨Ac,(Bm (st:=LB _ _) hq2 rfl rfl),aa⟩)))
  ·have hT:=V
   obtain rfl:12=x12:=by omega
   obtain rfl:=hq2.symm
   have V:=hT
   exact Vh (Aw [(0,Cu x8)] [8] 1 V λV=>Ae (As Y V (x8+1,EA xs x8 o4_0 12) [(0,0)] ⟨Ac,(Bm (st:=LC _) hq1 rfl rfl),aa⟩))
 ·have hT:=V
  obtain rfl:256=x8:=by omega
  obtain rfl:=hq1.symm
  have V:=hT
  exact Dw (Aj [] 1 V λV=>AY (BV (Ab _) V))
end
theorem JS {a b q:Nat} (hq:q=a*b) (h:q<=1000000000):BN .i64 (↑a) (b:Int)=(q:Int):=by
 rw[hq,lL (by rw[<-eO,<-hq];omega) (by rw[<-eO,<-hq];omega)]
 exact(eO _ _).symm
section
variable (d:Nat) (xs:Ad)
def Ff (x8 x12:Nat):(Nat->Int)->(Nat->Int):=λo4_0_2=>upd o4_0_2 x8 (Em .u16 (o4_0_2 x8) (BX .u16 (IntKind.wrap .u16 (Bz .u8 (Bh .u8 (xs.getD (((x8*d)+x12)/8) 0) ((((x8*d)+x12)%8:Nat):Int)) 1)) (x12:Int)))
def EG (d:Nat) (xs:Ad) (x8:Nat) (o4_0:Nat->Int):Nat->(Nat->Int)
 |0=>o4_0
 |x12+1=>Ff d xs x8 x12 (EG d xs x8 o4_0 x12)
def FT (x8:Nat):(Nat->Int)->(Nat->Int):=λo4_0=>EG d xs x8 o4_0 d
def GZ (d:Nat) (xs:Ad):Nat->(Nat->Int)
 |0=>λ_=>0
 |x8+1=>FT d xs x8 (GZ d xs x8)
def CH:(Nat->Int):=AV (GZ d xs 256)
def JD (z_:(Nat->Int):=CH d xs):Con:=⟨[vi (d:Int),lb xs],[],.ar .u16 256 z_,[]⟩
theorem GM (hd:1<=d/\d<=12) (h:32*d<=xs.length):AP 194 (JD d xs):=by
 refine cy 0 func194 rfl ntmps194 λY V=> ?_
 have BJ:xs.length<=9223372036854775807:=V.len 1 rfl
 refine Aj [] 1 V λV=>Ar (Aj [] 1 V λV=>BC (AC (ι:=Nat×(Nat->Int)) Y V (λ(x8,o4_0)=>(256-x8,[(8,vi ((x8:Nat):Int))],[(0,N1 o4_0)],(x8<=256)/\(o4_0=GZ d xs x8)/\True)) [0,1,4] [] 1 (0,λ_=>0) [(0,0)] ⟨Ac,rfl,aa⟩ ?_))
 rintro⟨x8,o4_0⟩ ac gs ws ⟨hx8,hq1,_⟩ V
 refine Aj [] 1 V λV=>Ar (AJ ((x8:Int)<256) V (λh1=> ?_) (λh1=> ?_))
 ·refine B3 (Aj [] 1 V λV=>Aj [] 1 V λV=>BC (AC (ι:=Nat×(Nat->Int)) Y V (λ(x12,o4_0_2)=>(d-x12,[(12,vi ((x12:Nat):Int))],[(0,N1 o4_0_2)],(x12<=d)/\(o4_0_2=EG d xs x8 o4_0 x12)/\True)) [0,1,4,5,8,11] [] 1 (0,o4_0) [(0,0)] ⟨Ac,rfl,aa⟩ ?_))
  rintro⟨x12,o4_0_2⟩ ac gs ws ⟨hx12,hq2,_⟩ V
  refine Aj [] 1 V λV=>Ar (AJ ((x12:Int)<(d:Int)) V (λh2=> ?_) (λh2=> ?_))
  ·refine B3 (Aj [] 1 V λV=>Ar ?_)
   have hml:x8*d<=255*d:=cz d (show x8<=255 by omega)
   exact Aw [(2,Ly ((x8*d:Nat):Int) [BN .i64 (x8:Int) (d:Int)=((x8*d:Nat):Int)] ⟨(JS rfl Ac),aa⟩),(4,FW (x8*d) x12 ((x8*d)+x12))] [] 1 V λV=>Ae (Aw [(1,AH x8 256),(5,Vk ((x8*d)+x12) 8),(6,AH (((x8*d)+x12)/8) xs.length),(9,MA ((x8*d)+x12) 8),(10,F_ (((x8*d)+x12)%8)),(14,F_ x12),(16,AH x8 256)] [] 1 V λV=>Ck (Aw [(0,Cu x12)] [12] 1 V λV=>Ae (As Y V (x12+1,upd o4_0_2 x8 (Em .u16 (o4_0_2 x8) (BX .u16 (IntKind.wrap .u16 (Bz .u8 (Bh .u8 (xs.getD (((x8*d)+x12)/8) 0) ((((x8*d)+x12)%8:Nat):Int)) 1)) (x12:Int)))) [(0,0)] ⟨Ac,(Bm (st:=Ff _ _ _) hq2 rfl rfl),aa⟩)))
  ·have hT:=V
   obtain rfl:d=x12:=by omega
   obtain rfl:=hq2.symm
   have V:=hT
   exact Vh (Aw [(0,Cu x8)] [8] 1 V λV=>Ae (As Y V (x8+1,EG d xs x8 o4_0 d) [(0,0)] ⟨Ac,(Bm (st:=FT _ _) hq1 rfl rfl),aa⟩))
 ·have hT:=V
  obtain rfl:256=x8:=by omega
  obtain rfl:=hq1.symm
  have V:=hT
  exact Dw (Aj [] 1 V λV=>AY (BV (Ab _) V))
end
section
variable (f:Nat->Int) (d:Nat)
def Dr (x21 x30:Nat):Ad->Ad:=λx6_2=>x6_2.set (((x21*d)+x30)/8) (Em .u8 (x6_2.getD (((x21*d)+x30)/8) 0) (BX .u8 (IntKind.wrap .u8 (Bz .u16 (Bh .u16 (f x21) (x30:Int)) 1)) ((((x21*d)+x30)%8:Nat):Int)))
def Ed (f:Nat->Int) (d x21:Nat) (x6:Ad):Nat->Ad
 |0=>x6
 |x30+1=>Dr f d x21 x30 (Ed f d x21 x6 x30)
def GK (x21:Nat):Ad->Ad:=λx6=>Ed f d x21 x6 d
def EH (f:Nat->Int) (d:Nat):Nat->Ad
 |0=>replicate (32*d) (0:Int)
 |x21+1=>GK f d x21 (EH f d x21)
def C3:Ad:=AV (EH f d 256)
def JF (z_:Ad:=C3 f d):Con:=⟨[.ar .u16 256 f,vi (d:Int)],[],.tu (Jg [.sk 0,vi 0]),[(0,.sl 5 Bg z_)]⟩
theorem Im (hd:1<=d/\d<=11):AP 181 (JF f d):=by
 refine cy 0 func181 rfl ntmps181 λY V=> ?_
 have hf1:¬(d:Int)<1:=Ac
 have hf2:¬(12:Int)<(d:Int):=Ac
 have hf3:¬(d:Int)=12:=Ac
 refine Aj [] 1 V λV=>Ar (Ay [(1,Do hf1),(4,Do hf2)] [] 1 V λV=>Ai V (DG ?_))
 have h32:32*d<=400:=by omega
 refine Aw [(1,Ly ((32*d:Nat):Int) [BN .i64 ((32:Nat):Int) (d:Int)=((32*d:Nat):Int)] ⟨(JS rfl Ac),aa⟩),(2,fD (32*d) 1)] [] 2 V λV=>CQ (Aj [] 2 V λV=>BC (AC (ι:=Nat×Ad) Y V (λ(x21,x6)=>(256-x21,[(21,vi ((x21:Nat):Int))],[(1,.sl 5 Bg x6)],(x21<=256)/\(x6=EH f d x21)/\(x6.length=32*d)/\True)) [1,4,5,6,20] [] 2 (0,replicate (32*d) (0:Int)) [(1,1)] ⟨Ac,rfl,(by simp),aa⟩ ?_))
 rintro⟨x21,x6⟩ ac gs ws ⟨hx21,hq1,p1,_⟩ V
 refine Aj [] 2 V λV=>Ar (AJ ((x21:Int)<256) V (λh1=> ?_) (λh1=> ?_))
 ·refine B3 (Ay [(1,AH x21 256)] [] 2 V λV=>Ar (Ay [(1,Do hf3)] [] 2 V λV=>Ai V (Cb (Aj [] 2 V λV=>BC (AC (ι:=Nat×Ad) Y V (λ(x30,x6_2)=>(d-x30,[(30,vi ((x30:Nat):Int))],[(1,.sl 5 Bg x6_2)],(x30<=d)/\(x6_2=Ed f d x21 x6 x30)/\(x6_2.length=32*d)/\True)) [1,4,5,6,7,8,20,21,29] [] 2 (0,x6) [(1,1)] ⟨Ac,rfl,p1,aa⟩ ?_)))))
  rintro⟨x30,x6_2⟩ ac gs ws ⟨hx30,hq2,p2,_⟩ V
  refine Aj [] 2 V λV=>Ar (AJ ((x30:Int)<(d:Int)) V (λh2=> ?_) (λh2=> ?_))
  ·refine B3 (Aj [] 2 V λV=>Ar ?_)
   have hml:x21*d<=255*d:=cz d (show x21<=255 by omega)
   exact Aw [(2,Ly ((x21*d:Nat):Int) [BN .i64 (x21:Int) (d:Int)=((x21*d:Nat):Int)] ⟨(JS rfl Ac),aa⟩),(4,FW (x21*d) x30 ((x21*d)+x30))] [] 2 V λV=>Ae (Aw [(2,Vk ((x21*d)+x30) 8),(3,AH (((x21*d)+x30)/8) x6_2.length),(7,F_ x30),(11,MA ((x21*d)+x30) 8),(12,F_ (((x21*d)+x30)%8)),(14,AH (((x21*d)+x30)/8) x6_2.length)] [] 2 V λV=>Ck (Aw [(0,Cu x30)] [30] 2 V λV=>Ae (As Y V (x30+1,x6_2.set (((x21*d)+x30)/8) (Em .u8 (x6_2.getD (((x21*d)+x30)/8) 0) (BX .u8 (IntKind.wrap .u8 (Bz .u16 (Bh .u16 (f x21) (x30:Int)) 1)) ((((x21*d)+x30)%8:Nat):Int)))) [(1,1)] ⟨Ac,(Bm (st:=Dr _ _ _) hq2 rfl rfl),(by simpa using p2),aa⟩)))
  ·have hT:=V
   obtain rfl:d=x30:=by omega
   obtain rfl:=hq2.symm
   have V:=hT
   exact Vh (Aw [(0,Cu x21)] [21] 2 V λV=>Ae (As Y V (x21+1,Ed f d x21 x6 d) [(1,1)] ⟨Ac,(Bm (st:=GK _ _) hq1 rfl rfl),p2,aa⟩))
 ·have hT:=V
  obtain rfl:256=x21:=by omega
  obtain rfl:=hq1.symm
  have V:=hT
  refine Dw (Aj [] 2 V λV=>AY ?_)
  obtain⟨gs,V⟩:=V.rx [(0,1)] [4,5] [0] 1 Y
  exact BV (Ab _) V
def GL (x16:Nat):(Nat->Int)->(Nat->Int):=λo2_0=>upd o2_0 x16 (IntKind.wrap .u16 (Bz .u32 (Nt .u32 (A9 .u32 (BX .u32 (IntKind.wrap .u32 (Eb (f x16) 3329)) ((d+1:Nat):Int)) 3329) 6658) (FC .u32 (BX .u32 1 (d:Int)) 1)))
def IJ (f:Nat->Int) (d:Nat):Nat->(Nat->Int)
 |0=>f
 |x16+1=>GL f d x16 (IJ f d x16)
def C0:(Nat->Int):=AV (IJ f d 256)
def JG (z_:(Nat->Int):=C0 f d):Con:=⟨[.ar .u16 256 f,vi (d:Int)],[],.tu (Jg [.ar .u16 256 z_,vi 0]),[]⟩
theorem IA (hd:1<=d/\d<=11):AP 198 (JG f d):=by
 refine cy 0 func198 rfl ntmps198 λY V=> ?_
 have hf1:¬(d:Int)<1:=Ac
 have hf2:¬(12:Int)<=(d:Int):=Ac
 refine Aj [] 2 V λV=>Ar (Ay [(1,Do hf1),(4,Do hf2)] [] 2 V λV=>Ai V (DG (Aj [] 2 V λV=>BC (AC (ι:=Nat×(Nat->Int)) Y V (λ(x16,o2_0)=>(256-x16,[(16,vi ((x16:Nat):Int))],[(0,N1 o2_0)],(x16<=256)/\(o2_0=IJ f d x16)/\True)) [1,2,4,5,15] [1] 2 (0,f) [(0,0),(1,1)] ⟨Ac,rfl,aa⟩ ?_))))
 rintro⟨x16,o2_0⟩ ac gs ws ⟨hx16,hq1,_⟩ V
 refine Aj [] 2 V λV=>Ar (AJ ((x16:Int)<256) V (λh1=> ?_) (λh1=> ?_))
 ·exact B3 (Ay [(1,AH x16 256)] [] 2 V λV=>Aw [(2,Pe ((3329:Int)≠0)),(5,Cu d),(6,F_ (d+1)),(8,Pe ((6658:Int)≠0)),(10,F_ d),(14,AH x16 256)] [] 2 V λV=>Ck (Aw [(0,Cu x16)] [16] 2 V λV=>Ae (As Y V (x16+1,upd o2_0 x16 (IntKind.wrap .u16 (Bz .u32 (Nt .u32 (A9 .u32 (BX .u32 (IntKind.wrap .u32 (Eb (f x16) 3329)) ((d+1:Nat):Int)) 3329) 6658) (FC .u32 (BX .u32 1 (d:Int)) 1)))) [(0,0),(1,1)] ⟨Ac,(Bm (st:=GL _ _) hq1 rfl rfl),aa⟩)))
 ·have hT:=V
  obtain rfl:256=x16:=by omega
  obtain rfl:=hq1.symm
  have V:=hT
  exact Dw (Aj [] 2 V λV=>AY (BV (Ab _) V))
def F8 (x16:Nat):(Nat->Int)->(Nat->Int):=λo2_0=>upd o2_0 x16 (IntKind.wrap .u16 (Bh .u32 (A9 .u32 (BN .u32 (Bz .u32 (IntKind.wrap .u32 (f x16)) (FC .u32 (BX .u32 1 (d:Int)) 1)) 3329) (BX .u32 1 ((d:Int)-1))) (d:Int)))
def Hz (f:Nat->Int) (d:Nat):Nat->(Nat->Int)
 |0=>f
 |x16+1=>F8 f d x16 (Hz f d x16)
def CU:(Nat->Int):=AV (Hz f d 256)
def JE (z_:(Nat->Int):=CU f d):Con:=⟨[.ar .u16 256 f,vi (d:Int)],[],.tu (Jg [.ar .u16 256 z_,vi 0]),[]⟩
theorem Hy (hd:1<=d/\d<=11):AP 195 (JE f d):=by
 refine cy 0 func195 rfl ntmps195 λY V=> ?_
 have hf1:¬(d:Int)<1:=Ac
 have hf2:¬(12:Int)<=(d:Int):=Ac
 refine Aj [] 2 V λV=>Ar (Ay [(1,Do hf1),(4,Do hf2)] [] 2 V λV=>Ai V (DG (Aj [] 2 V λV=>BC (AC (ι:=Nat×(Nat->Int)) Y V (λ(x16,o2_0)=>(256-x16,[(16,vi ((x16:Nat):Int))],[(0,N1 o2_0)],(x16<=256)/\(o2_0=Hz f d x16)/\True)) [1,2,4,5,15] [1] 2 (0,f) [(0,0),(1,1)] ⟨Ac,rfl,aa⟩ ?_))))
 rintro⟨x16,o2_0⟩ ac gs ws ⟨hx16,hq1,_⟩ V
 refine Aj [] 2 V λV=>Ar (AJ ((x16:Int)<256) V (λh1=> ?_) (λh1=> ?_))
 ·exact B3 (Ay [(1,AH x16 256)] [] 2 V λV=>Aw [(4,F_ d),(9,Xl (d:Int) 1),(10,Pe ((0:Int)<=((d:Int)-1))),(13,F_ d),(15,AH x16 256)] [] 2 V λV=>Ck (Aw [(0,Cu x16)] [16] 2 V λV=>Ae (As Y V (x16+1,upd o2_0 x16 (IntKind.wrap .u16 (Bh .u32 (A9 .u32 (BN .u32 (Bz .u32 (IntKind.wrap .u32 (f x16)) (FC .u32 (BX .u32 1 (d:Int)) 1)) 3329) (BX .u32 1 ((d:Int)-1))) (d:Int)))) [(0,0),(1,1)] ⟨Ac,(Bm (st:=F8 _ _) hq1 rfl rfl),aa⟩)))
 ·have hT:=V
  obtain rfl:256=x16:=by omega
  obtain rfl:=hq1.symm
  have V:=hT
  exact Dw (Aj [] 2 V λV=>AY (BV (Ab _) V))
end
def Lx (f:Nat->Int):Bool:=(List.range 256).all λi=>decide (f i<3329)
theorem zR {f:Nat->Int} {i:Nat} (hi:i<256) (h:(3329:Int)<=f i):Lx f=false:=by
 cases hb:Lx f with
 |false=>rfl
 |true=>
  have :=ax.1 hb i (eo.2 hi)
  simp only[decide_eq_true_iff]at this
  omega
theorem ZT {f:Nat->Int} (h:∀i,i<256->f i<3329):Lx f=true:=by
 unfold Lx
 rw[ax]
 intro i hi
 rw[decide_eq_true_iff]
 exact h i (eo.1 hi)
theorem kK (f:Nat->Int):AP 193 ⟨[.ar .u16 256 f],[],.v (.bool (Lx f)),[]⟩:=by
 refine cy 0 func193 rfl ntmps193 λY V=>Aj [] 1 V λV=>Ar (Aj [] 1 V λV=>BC (AC (ι:=Nat) Y V (λi=>(256-i,[(6,vi ((i:Nat):Int))],[],(i<=256)/\(∀j,j<i->f j<3329)/\True)) [5] [] 0 0 [] ⟨Ac,(λj h=>absurd h (be j)),aa⟩ ?_))
 rintro i ac gs ws ⟨hi,pm,_⟩ V
 refine Aj [] 0 V λV=>Ar (AJ ((i:Int)<256) V (λh1=> ?_) (λh1=> ?_))
 ·refine B3 (Ay [(0,AH i 256)] [] 0 V λV=>Aj [] 0 V λV=>AJ ((3329:Int)<=(f i)) V (λh2=> ?_) (λh2=> ?_))
  ·exact Aj [] 0 V λV=>AY (AN (Ao (Ao (AN (Ao (Ec rfl (.inr rfl) V [.v (.bool false)] [] (by show weak _ (.v (.bool (Lx f)))= .v (.bool (Lx f));rw[zR Ac h2];rfl) aa))))))
  ·exact FN (Aw [(0,Cu i)] [6] 0 V λV=>Ae (As Y V (i+1) [] ⟨Ac,(Br pm Ac),aa⟩))
 ·have hT:=V
  obtain rfl:256=i:=by omega
  have V:=hT
  exact Dw (Aj [] 0 V λV=>AY (Ec rfl (.inr rfl) V [.v (.bool true)] [] (by show weak _ (.v (.bool (Lx f)))= .v (.bool (Lx f));rw[ZT pm];rfl) aa))
def wN (x0:Nat->Int) (x1:Nat):O:= .ob 250 (Jg [.ar .u64 25 x0,vi 168,vi ((x1:Nat):Int)])
def B8 (l:AZ):Ad:=AV ((Ez 136 (Qx 136 6 l) 0 32).2.2)
@[simp] theorem L3 (l:AZ):(B8 l).length=32:=by unfold B8;rw[Ab];exact Oq ..
section
variable (l:AZ)
def oO (z_:Ad:=B8 l):Con:=⟨[.ls false A8 l],[],lb z_,[]⟩
theorem K8 (h:l.flatten.length<=140000000000000):AP 156 (oO l):=by
 exact cy 0 func156 rfl ntmps156 λY V=>Aj [] 0 V λV=>Ay [(1,AA (IT 136 6 l Ac Ac (by first |omega|(simp only[bd,ce,ab,aw,au,ap,av,az]<;>omega)|(simp<;>omega))) [] [(0,0)]),(2,AA (M_ 136 (Qx 136 6 l) 0 32 Ac Ac Ac Ac) [(0,0)] [])] [] 1 V λV=>AY (BV (Ab _) V)
def AM:Ad:=AV ((Ez 72 (Qx 72 6 l) 0 64).2.2)
end
@[simp] theorem E9 (l:AZ):(AM l).length=64:=by unfold AM;rw[Ab];exact Oq ..
section
variable (l:AZ)
def oN (z_:Ad:=AM l):Con:=⟨[.ls false A8 l],[],lb z_,[]⟩
theorem K7 (h:l.flatten.length<=140000000000000):AP 147 (oN l):=by
 exact cy 0 func147 rfl ntmps147 λY V=>Aj [] 0 V λV=>Ay [(1,AA (IT 72 6 l Ac Ac (by first |omega|(simp only[bd,ce,ab,aw,au,ap,av,az]<;>omega)|(simp<;>omega))) [] [(0,0)]),(2,AA (M_ 72 (Qx 72 6 l) 0 64 Ac Ac Ac Ac) [(0,0)] [])] [] 1 V λV=>AY (BV (Ab _) V)
def CC:Ad:=AV ((Ez 136 (Qx 136 31 l) 0 128).2.2)
end
@[simp] theorem TL (l:AZ):(CC l).length=128:=by unfold CC;rw[Ab];exact Oq ..
section
variable (l:AZ)
def YF (z_:Ad:=CC l):Con:=⟨[vi 128,.ls false A8 l],[],lb z_,[]⟩
theorem VG (h:l.flatten.length<=140000000000000):AP 171 (YF l):=by
 exact cy 0 func171 rfl ntmps171 λY V=>Aj [] 0 V λV=>Ay [(1,AA (IT 136 31 l Ac Ac (by first |omega|(simp only[bd,ce,ab,aw,au,ap,av,az]<;>omega)|(simp<;>omega))) [] [(0,0)]),(4,AA (M_ 136 (Qx 136 31 l) 0 128 Ac Ac Ac Ac) [(0,0)] [])] [] 1 V λV=>AY (BV (Ab _) V)
def IV:Ad:=AV ((Ez 136 (Qx 136 31 l) 0 32).2.2)
end
@[simp] theorem VF (l:AZ):(IV l).length=32:=by unfold IV;rw[Ab];exact Oq ..
def eG (l:AZ) (z_:Ad:=IV l):Con:=⟨[vi 32,.ls false A8 l],[],lb z_,[]⟩
theorem XF (l:AZ) (h:l.flatten.length<=140000000000000):AP 171 (eG l):=by
 exact cy 0 func171 rfl ntmps171 λY V=>Aj [] 0 V λV=>Ay [(1,AA (IT 136 31 l Ac Ac (by first |omega|(simp only[bd,ce,ab,aw,au,ap,av,az]<;>omega)|(simp<;>omega))) [] [(0,0)]),(4,AA (M_ 136 (Qx 136 31 l) 0 32 Ac Ac Ac Ac) [(0,0)] [])] [] 1 V λV=>AY (BV (Ab _) V)
section
variable (sd:Ad) (k:Int)
def Q9 (x13:Nat):(Nat->Int)->(Nat->Int):=λo4_0=>upd o4_0 x13 (Eu (FC .u32 (FC .u32 (A9 .u32 (A9 .u32 (Bz .u32 (Bh .u32 (IntKind.wrap .u32 ((CC [sd,[k]]).getD (x13/2) 0)) (((x13%2)*4:Nat):Int)) 1) (Bz .u32 (Bh .u32 (Bh .u32 (IntKind.wrap .u32 ((CC [sd,[k]]).getD (x13/2) 0)) (((x13%2)*4:Nat):Int)) 1) 1)) 3329) (Bz .u32 (Bh .u32 (Bh .u32 (IntKind.wrap .u32 ((CC [sd,[k]]).getD (x13/2) 0)) (((x13%2)*4:Nat):Int)) 2) 1)) (Bz .u32 (Bh .u32 (Bh .u32 (IntKind.wrap .u32 ((CC [sd,[k]]).getD (x13/2) 0)) (((x13%2)*4:Nat):Int)) 3) 1)))
def Q_ (sd:Ad) (k:Int):Nat->(Nat->Int)
 |0=>λ_=>0
 |x13+1=>Q9 sd k x13 (Q_ sd k x13)
def Ea:(Nat->Int):=AV (Q_ sd k 256)
def u9 (z_:(Nat->Int):=Ea sd k):Con:=⟨[lb sd,.v (.int .u8 k)],[],.ar .u16 256 z_,[]⟩
theorem Wl (h:sd.length<=100000000000000):AP 175 (u9 sd k):=by
 refine cy 0 func175 rfl ntmps175 λY V=>Aj [] 1 V λV=>Ar (Aw [(4,AS (VG [sd,[k]] (by first |omega|(simp only[bd,ce,ab,aw,au,ap,av,az]<;>omega)|(simp<;>omega))))] [] 1 V λV=> ?_)
 have hl:=TL [sd,[k]]
 refine CQ (Aj [] 1 V λV=>BC (AC (ι:=Nat×(Nat->Int)) Y V (λ(x13,o4_0)=>(256-x13,[(13,vi ((x13:Nat):Int))],[(0,N1 o4_0)],(x13<=256)/\(o4_0=Q_ sd k x13)/\True)) [4,5] [] 1 (0,λ_=>0) [(0,0)] ⟨Ac,rfl,aa⟩ ?_))
 rintro⟨x13,o4_0⟩ ac gs ws ⟨hx13,hq1,_⟩ V
 refine Aj [] 1 V λV=>Ar (AJ ((x13:Int)<256) V (λh1=> ?_) (λh1=> ?_))
 ·exact B3 (Aj [] 1 V λV=>Ay [(2,Vk x13 2),(3,AH (x13/2) ((CC [sd,[k]]).length)),(7,MA x13 2),(8,IC (x13%2) 4 ((x13%2)*4)),(9,F_ ((x13%2)*4))] [] 1 V λV=>Aw [(4,F_ 1),(9,F_ 2),(13,F_ 3),(16,AS (IG (FC .u32 (FC .u32 (A9 .u32 (A9 .u32 (Bz .u32 (Bh .u32 (IntKind.wrap .u32 ((CC [sd,[k]]).getD (x13/2) 0)) (((x13%2)*4:Nat):Int)) 1) (Bz .u32 (Bh .u32 (Bh .u32 (IntKind.wrap .u32 ((CC [sd,[k]]).getD (x13/2) 0)) (((x13%2)*4:Nat):Int)) 1) 1)) 3329) (Bz .u32 (Bh .u32 (Bh .u32 (IntKind.wrap .u32 ((CC [sd,[k]]).getD (x13/2) 0)) (((x13%2)*4:Nat):Int)) 2) 1)) (Bz .u32 (Bh .u32 (Bh .u32 (IntKind.wrap .u32 ((CC [sd,[k]]).getD (x13/2) 0)) (((x13%2)*4:Nat):Int)) 3) 1)))),(17,AH x13 256)] [] 1 V λV=>Ck (Aw [(0,Cu x13)] [13] 1 V λV=>Ae (As Y V (x13+1,upd o4_0 x13 (Eu (FC .u32 (FC .u32 (A9 .u32 (A9 .u32 (Bz .u32 (Bh .u32 (IntKind.wrap .u32 ((CC [sd,[k]]).getD (x13/2) 0)) (((x13%2)*4:Nat):Int)) 1) (Bz .u32 (Bh .u32 (Bh .u32 (IntKind.wrap .u32 ((CC [sd,[k]]).getD (x13/2) 0)) (((x13%2)*4:Nat):Int)) 1) 1)) 3329) (Bz .u32 (Bh .u32 (Bh .u32 (IntKind.wrap .u32 ((CC [sd,[k]]).getD (x13/2) 0)) (((x13%2)*4:Nat):Int)) 2) 1)) (Bz .u32 (Bh .u32 (Bh .u32 (IntKind.wrap .u32 ((CC [sd,[k]]).getD (x13/2) 0)) (((x13%2)*4:Nat):Int)) 3) 1)))) [(0,0)] ⟨Ac,(Bm (st:=Q9 _ _) hq1 rfl rfl),aa⟩)))
 ·have hT:=V
  obtain rfl:256=x13:=by omega
  obtain rfl:=hq1.symm
  have V:=hT
  exact Dw (Aj [] 1 V λV=>AY (BV (Ab _) V))
end
theorem Ud (l:AZ) (h:l.flatten.length<=140000000000000):AP 201 ⟨[.ls false A8 l],[],.cp 0 0,[(0,.ob 270 (Jg [.cp 1 0])),(1,.ob 250 (Jg [.ar .u64 25 (Qx 168 31 l),vi 168,vi 0]))]⟩:=by
 refine cy 0 func201 rfl ntmps201 λY V=>Aj [] 0 V λV=>Ay [(1,AA (IT 168 31 l Ac Ac (by first |omega|(simp only[bd,ce,ab,aw,au,ap,av,az]<;>omega)|(simp<;>omega))) [] [(0,0)])] [] 2 V λV=>AY ?_
 obtain⟨gs,V⟩:=V.rx [(0,1),(1,0)] [2] [0,1] 2 Y
 exact BW V
theorem iJ (f:Nat->Int) (a:Nat) (h:a<=168):AP 202 ⟨[.cp 0 0,vi 504],[(0,.ob 270 (Jg [.cp 1 0])),(1,wN f a)],lb (Ez 168 f a 504).2.2,[(0,.ob 270 (Jg [.cp 1 0])),(1,wN (Ez 168 f a 504).1 (Ez 168 f a 504).2.1)]⟩:=by
 exact cy 2 func202 rfl ntmps202 λY V=>Aj [] 2 V λV=>Ar (Aj [] 2 V λV=>Ai V (DG (Aj [] 2 V λV=>Ai V (Cb (Ay [(5,AA (M_ 168 f a 504 Ac Ac Ac Ac) [(0,1)] [])] [] 2 V λV=>AY (BW V))))))
end
end Go.Sx.Tryz
namespace Go.Sx
open Go.Mi Go.RowKit
def bv (f:Nat->Int):Ke.St:=λi=>BitVec.ofInt 64 (f i)
def Rg (f:Nat->Int):Prop:=∀i,i<25->0<=f i/\f i<18446744073709551616
theorem Qd (x:Int):IntKind.wrap .u64 x=x%18446744073709551616:=by
 simp [IntKind.wrap,IntKind.bits,IntKind.signed]
theorem Sr (x:Int):0<=IntKind.wrap .u64 x/\IntKind.wrap .u64 x<18446744073709551616:=by rw[Qd];omega
theorem P4 (x:Int):BitVec.ofInt 64 (IntKind.wrap .u64 x)=BitVec.ofInt 64 x:=by
 apply BitVec.eq_of_toInt_eq
 simp only[BitVec.toInt_ofInt,Qd]
 unfold Int.bmod
 simp
theorem YP (x:BitVec 64):BitVec.ofInt 64 (x.toNat:Int)=x:=by simp
theorem OK (p q:Int):BitVec.ofInt 64 (A0 .u64 p q)=BitVec.ofInt 64 p^^^BitVec.ofInt 64 q:=by
 unfold A0;rw[P4];exact YP _
theorem Aa8 (p q:Int):BitVec.ofInt 64 (Bz .u64 p q)=BitVec.ofInt 64 p&&&BitVec.ofInt 64 q:=by
 unfold Bz;rw[P4];exact YP _
theorem Ac0 (p q:Int):BitVec.ofInt 64 (Em .u64 p q)=BitVec.ofInt 64 p|||BitVec.ofInt 64 q:=by
 unfold Em;rw[P4];exact YP _
theorem Aa7 (p:Int):BitVec.ofInt 64 (Mc .u64 p)= ~~~BitVec.ofInt 64 p:=by
 unfold Mc;rw[OK]
 rw[show BitVec.ofInt 64 (if IntKind.signed .u64 then -1 else IntKind.max .u64)=BitVec.allOnes 64 from rfl,BitVec.allOnes_xor]
theorem Ns (p q:Int):0<=A0 .u64 p q/\A0 .u64 p q<18446744073709551616:=Sr _
theorem lI (p q:Int):0<=Em .u64 p q/\Em .u64 p q<18446744073709551616:=Sr _
theorem G4 {x:Int} (h:0<=x/\x<18446744073709551616):(BitVec.ofInt 64 x).toNat=x.toNat:=by
 rw[eS];omega
theorem Aa6 (p:Int) (k:Nat) (hk:k<=64):BitVec.ofInt 64 (BX .u64 p (k:Int))=BitVec.ofInt 64 p<<<k:=by
 unfold BX
 rw[P4,show min (k:Int).toNat (IntKind.bits .u64)=k by simp [IntKind.bits];omega]
 apply gt
 rw[BitVec.toNat_shiftLeft,Nat.shiftLeft_eq,eS,eS]
 have h1:(p*2^k)%((2^64:Nat):Int)=((p%((2^64:Nat):Int))*((2^k:Nat):Int))%((2^64:Nat):Int):=by
  rw[show((2^k:Nat):Int)=(2:Int)^k by simp]
  have e1:=Int.mul_emod p (2^k) ((2^64:Nat):Int)
  have e2:=Int.mul_emod (p%((2^64:Nat):Int)) (2^k) ((2^64:Nat):Int)
  rw[Int.emod_emod_of_dvd _ (Int.dvd_refl _)]at e2
  rw[e1,e2]
 rw[h1]
 have h2:0<=p%((2^64:Nat):Int):=Int.emod_nonneg _ (by decide)
 obtain⟨n,hn⟩:=cd h2
 rw[hn]
 have h3:(((n:Int)*((2^k:Nat):Int))%((2^64:Nat):Int)).toNat=n*2^k%2^64:=by
  rw[<-eO,<-Int.natCast_emod,bc]
 rw[h3]
 rfl
theorem Aa5 {p:Int} (h:0<=p/\p<18446744073709551616) (k:Nat) (hk:k<=64):BitVec.ofInt 64 (Bh .u64 p (k:Int))=BitVec.ofInt 64 p>>>k:=by
 unfold Bh
 rw[show min (k:Int).toNat (IntKind.bits .u64)=k by simp [IntKind.bits];omega]
 obtain⟨n,rfl⟩:=cd h.1
 apply gt
 rw[BitVec.toNat_ushiftRight,ef,G4 h]
 rw[Int.fdiv_eq_ediv_of_nonneg _ (Int.pow_nonneg (by decide)),show(2:Int)^k=((2^k:Nat):Int) by simp]
 rw[show(((n:Nat):Int)/((2^k:Nat):Int))=((n/2^k:Nat):Int)from rfl]
 have h3:n/2^k<=n:=Nat.div_le_self _ _
 have h4:n<18446744073709551616:=by have :=h.2;omega
 rw[G4 ⟨dt _,by omega⟩,bc,bc]
theorem Zq {x:Int} (h:0<=x/\x<18446744073709551616) (k:Nat) (hk:k<1000):BitVec.ofInt 64 (TO x (k:Int))=Ke.rot (BitVec.ofInt 64 x) k:=by
 have hm:Bz .u64 (IntKind.wrap .u64 (k:Int)) 63=((k%64:Nat):Int):=by
  unfold Bz
  rw[Qd,BitVec.toNat_and,show(BitVec.ofInt (IntKind.bits .u64) 63).toNat=2^6-1 from rfl,Nat.and_two_pow_sub_one_eq_mod]
  have e:(BitVec.ofInt (IntKind.bits .u64) (IntKind.wrap .u64 (k:Int))).toNat=k:=by
   rw[Qd]
   show(BitVec.ofInt 64 _).toNat=k
   rw[G4 ⟨by omega,by omega⟩];omega
  rw[e]
  omega
 have hs:FC .u64 64 (Bz .u64 (IntKind.wrap .u64 (k:Int)) 63)=((64-k%64:Nat):Int):=by
  rw[hm];unfold FC;rw[Qd];omega
 unfold TO
 rw[Ac0,hs,hm,Aa6 _ _ (by omega),Aa5 h _ (by omega)]
 unfold Ke.rot
 rw[BitVec.rotateLeft_def]
theorem rM (x k:Int):0<=TO x k/\TO x k<18446744073709551616:=lI _ _
theorem Vv (a:Nat->Int) (n x:Nat):N5 a (n+1) x=if x=n%5 then A0 .u64 (N5 a n x) (a n)else N5 a n x:=by
 simp only[N5,upd]
 split
 ·rename_i h;rw[h]
 ·rfl
theorem Vw (a:Nat->Int) (k x:Nat) (hx:x<5):N5 a (5*k+5) x=A0 .u64 (N5 a (5*k) x) (a (5*k+x)):=by
 have h5:x=0\/x=1\/x=2\/x=3\/x=4:=by omega
 rw[show 5*k+5=5*k+4+1 from rfl,Vv,show 5*k+4=5*k+3+1 from rfl,Vv,show 5*k+3=5*k+2+1 from rfl,Vv,show 5*k+2=5*k+1+1 from rfl,Vv,Vv]
 rcases h5 with rfl|rfl|rfl|rfl|rfl<;>repeat (first |rw[ah (by omega)]|rw[aj (by omega)]|rfl)
theorem gO (a:Nat->Int) (x:Nat) (hx:x<5):BitVec.ofInt 64 (N5 a 25 x)=Ke.par (bv a) x:=by
 have h1:=Vw a 4 x hx
 have h2:=Vw a 3 x hx
 have h3:=Vw a 2 x hx
 have h4:=Vw a 1 x hx
 have h5:=Vw a 0 x hx
 have h6:N5 a 0 x=0:=rfl
 show BitVec.ofInt 64 (N5 a (5*4+5) x)=_
 rw[h1,show N5 a (5*4) x=N5 a (5*3+5) x from rfl,h2,show N5 a (5*3) x=N5 a (5*2+5) x from rfl,h3,show N5 a (5*2) x=N5 a (5*1+5) x from rfl,h4,show N5 a (5*1) x=N5 a (5*0+5) x from rfl,h5,show N5 a (5*0) x=0 from rfl]
 simp only[OK]
 unfold Ke.par bv
 rw[Nat.mod_eq_of_lt hx]
 simp [Nat.add_comm]
theorem TE (a c:Nat->Int):∀n i,yB a c n i=if i<n then A0 .u64 (a i) (A0 .u64 (c ((i%5+4)%5)) (TO (c ((i%5+1)%5)) 1))else a i
 |0,i=>by simp [yB]
 |n+1,i=>by
  simp only[yB,upd]
  by_cases h:i=n
  ·subst h;rw[ah rfl,TE a c i i,aj (gq _),ah (dn _)]
  ·rw[aj h,TE a c n i]
   by_cases h2:i<n
   ·rw[ah h2,ah (by omega)]
   ·rw[aj h2,aj (by omega)]
theorem gM (a:Nat->Int):∀n i,0<=N5 a n i/\N5 a n i<18446744073709551616
 |0,i=>by simp [N5]
 |n+1,i=>by
  simp only[N5,upd]
  split
  ·exact Ns _ _
  ·exact gM a n i
theorem gL (a:Nat->Int):Ke.Eq25 (bv (theta a)) (Ke.theta (bv a)):=by
 intro i hi
 unfold bv theta Ke.theta Ke.dif
 rw[TE,ah hi,OK,OK,gO _ _ (by omega),show(1:Int)=((1:Nat):Int)from rfl,Zq (gM _ _ _) 1 (by omega),gO _ _ (by omega)]
 rw[show(i%5+4)%5=(i+4)%5 by omega,show(i%5+1)%5=(i+1)%5 by omega,Ke.par_mod,Ke.par_mod]
 rfl
theorem gJ (a:Nat->Int):Rg (theta a):=λi hi=>by
 unfold theta;rw[TE,ah hi];exact Ns _ _
theorem Zv {a:Nat->Int} (ha:Rg a):∀n,n<=24->Rg (XK a n)/\Ke.Eq25 (bv (XK a n)) (Ke.rhoN (bv a) n)
 |0,_=>⟨ha,λi _=>rfl⟩
 |n+1,hn=>by
  obtain⟨h1,h2⟩:=Zv ha n (by omega)
  have hk:Nt .i64 (BN .i64 ((n+1:Nat):Int) ((n+2:Nat):Int)) 2=(((n+1)*(n+2)/2:Nat):Int):=by
   have key:((List.range 24).all λn=>decide (Nt .i64 (BN .i64 ((n+1:Nat):Int) ((n+2:Nat):Int)) 2=(((n+1)*(n+2)/2:Nat):Int)))=true:=by kernel_rfl
   exact cj (ax.1 key n (eo.2 (by omega)))
  have hk2:(n+1)*(n+2)/2<1000:=by
   have :(n+1)*(n+2)<=24*25:=Nat.mul_le_mul (by omega) (by omega)
   omega
  have hp:=Ke.ps_lt n (by omega)
  refine⟨λi hi=> ?_,λi hi=> ?_⟩
  ·simp only[XK,upd]
   split
   ·exact rM _ _
   ·exact h1 i hi
  ·simp only[XK,upd,bv,Ke.rhoN]
   show BitVec.ofInt 64 (if i=Ke.ps (n+1)then _ else _)=_
   split
   ·rw[hk];exact Zq (ha _ hp) _ hk2
   ·exact h2 i hi
theorem yN {a:Nat->Int} (ha:Rg a):Ke.Eq25 (bv (rho a)) (Ke.rho (bv a)):=(Zv ha 24 (an _)).2
theorem P1 (a:Nat->Int):∀n i,Yx a n i=if i<n then A0 .u64 (a i) (Bz .u64 (Mc .u64 (a (i-i%5+(i+1)%5))) (a (i-i%5+(i+2)%5)))else a i
 |0,i=>by simp [Yx]
 |n+1,i=>by
  simp only[Yx,upd]
  by_cases h:i=n
  ·subst h;rw[ah rfl,P1 a i i,aj (gq _),ah (dn _)]
  ·rw[aj h,P1 a n i]
   by_cases h2:i<n
   ·rw[ah h2,ah (by omega)]
   ·rw[aj h2,aj (by omega)]
theorem AaC (a:Nat->Int):Ke.Eq25 (bv (chi a)) (Ke.chi (bv a)):=by
 intro i hi
 unfold bv chi Ke.chi
 rw[P1,ah hi,OK,Aa8,Aa7]
theorem AaA (a:Nat->Int):Rg (chi a):=λi hi=>by
 unfold chi;rw[P1,ah hi];exact Ns _ _
theorem Ab4 (b:Nat->Int):ZX b 3=chi (rho (theta b)):=by simp only[ZX,z4]
def wP (n:Nat):List Ke.Ln:=(List.range n).map λi=>BitVec.ofInt 64 (RC i)
theorem QH:∀(l m:List Ke.Ln) (a:Ke.St),Ke.rounds (l++m) a=Ke.rounds m (Ke.rounds l a)
 |[],m,a=>rfl
 |c::l,m,a=>QH l m (Ke.round c a)
theorem T4 {a:Nat->Int} (ha:Rg a):∀n,Rg (Lu a n)/\Ke.Eq25 (bv (Lu a n)) (Ke.rounds (wP n) (bv a))
 |0=>⟨ha,λi _=>rfl⟩
 |n+1=>by
  obtain⟨h1,h2⟩:=T4 ha n
  generalize hK:Ke.rounds (wP n) (bv a)=K at h2
  have e:Ke.rounds (wP (n+1)) (bv a)=Ke.round (BitVec.ofInt 64 (RC n)) K:=by
   rw[<-hK];unfold wP;rw[List.range_succ,cb,QH];rfl
  have k1:Rg (ZX (Lu a n) 3):=by rw[Ab4];exact AaA _
  have k2:Ke.Eq25 (bv (ZX (Lu a n) 3)) (Ke.chi (Ke.rho (Ke.theta K))):=by
   have t1:Ke.Eq25 (bv (theta (Lu a n))) (Ke.theta K):=λi hi=>by rw[gL _ i hi,Ke.theta_congr h2 i hi]
   have t2:Ke.Eq25 (bv (rho (theta (Lu a n)))) (Ke.rho (Ke.theta K)):=λi hi=>by
    rw[yN (gJ _) i hi];exact Ke.rhoN_congr t1 24 (an _) i hi
   intro i hi
   rw[Ab4,AaC _ i hi,Ke.chi_congr t2 i hi]
  have pe:Lu a (n+1)=upd (ZX (Lu a n) 3) 0 (A0 .u64 (ZX (Lu a n) 3 0) (RC n)):=rfl
  generalize ZX (Lu a n) 3=q at k1 k2 pe
  rw[pe]
  refine⟨λi hi=> ?_,λi hi=> ?_⟩
  ·unfold upd
   split
   ·exact Ns _ _
   ·exact k1 i hi
  ·rw[e]
   unfold Ke.round Ke.iota bv upd
   split
   ·rw[OK]
    have :=k2 0 (by omega)
    unfold bv at this
    rw[this]
   ·exact k2 i hi
def Wa (a:Ke.St):Ke.St:=Ke.rounds (wP 24) a
theorem r7 {a:Nat->Int} (ha:Rg a):Ke.Eq25 (bv (C6 a)) (Wa (bv a)):=(T4 ha 24).2
theorem r6 {a:Nat->Int} (ha:Rg a):Rg (C6 a):=(T4 ha 24).1
def Et (a:Nat->Int):Nat->Nat->Int
 |0=>a
 |n+1=>C6 (Et a n)
theorem V_ {a:Nat->Int} (ha:Rg a):∀n,Rg (Et a n)/\Ke.Eq25 (bv (Et a n)) (Ke.iter Wa n (bv a))
 |0=>⟨ha,λ_ _=>rfl⟩
 |n+1=>by
  obtain⟨h1,h2⟩:=V_ ha n
  refine⟨r6 h1,λi hi=> ?_⟩
  show bv (C6 (Et a n)) i=Wa (Ke.iter Wa n (bv a)) i
  rw[r7 h1 i hi]
  exact Ke.rounds_congr (wP 24) h2 i hi
theorem XU {a:Nat->Int} (ha:Rg a) (m:Nat):∃n,m<n/\∀i,i<25->Et a n i=a i:=by
 obtain⟨n,h1,h2⟩:=Ke.again_late (f:=Wa) (λh=>Ke.rounds_inj _ h) (λh=>Ke.rounds_congr _ h) (bv a) m
 refine⟨n,h1,λi hi=> ?_⟩
 obtain⟨h3,h4⟩:=V_ ha n
 have h5:=(h4 i hi).trans (h2 i hi)
 unfold bv at h5
 have h6:=dp BitVec.toNat h5
 rw[G4 (h3 i hi),G4 (ha i hi)]at h6
 have :=h3 i hi
 have :=ha i hi
 omega
end Go.Sx
namespace Go.Sx
open Go.Mi Go.RowKit
def Bt (f:Nat->Int) (i:Nat):Int:=IntKind.wrap .u8 (Bh .u64 (f (i/8)) ((8*(i%8):Nat):Int))
def eV (f:Nat->Int) (a n:Nat):Ad:=(List.range n).map λi=>Bt f (a+i)
theorem Ac1 (f:Nat->Int) (a n:Nat):eV f a (n+1)=eV f a n++[Bt f (a+n)]:=by unfold eV;rw[List.range_succ,cb];rfl
theorem vK (f:Nat->Int) (a n:Nat):(eV f a n).length=n:=by simp [eV]
theorem jC {r:Nat} (f:Nat->Int) (a:Nat):∀n,a+n<=r->Ez r f a n=(f,a+n,eV f a n)
 |0,_=>(cI r f a).symm
 |n+1,h=>by
  rw[SZ,jC f a n (by omega),Ac1]
  simp only
  rw[aj (by omega)]
  rfl
theorem Na (r:Nat) (f:Nat->Int) (a m:Nat):∀n,Ez r f a (m+n)=((Ez r (Ez r f a m).1 (Ez r f a m).2.1 n).1,(Ez r (Ez r f a m).1 (Ez r f a m).2.1 n).2.1,(Ez r f a m).2.2++(Ez r (Ez r f a m).1 (Ez r f a m).2.1 n).2.2)
 |0=>by
  rw[<-cI]
  simp
 |n+1=>by
  have ih:=Na r f a m n
  rw[show m+(n+1)=(m+n)+1 from rfl,SZ,ih,SZ]
  generalize Ez r (Ez r f a m).1 (Ez r f a m).2.1 n=q
  obtain⟨g,b,o⟩:=q
  simp only
  split<;>simp
theorem V0 {r:Nat} (hr:0<r) (f:Nat->Int) (n:Nat):Ez r f r (n+1)=Ez r (C6 f) 0 (n+1):=by
 rw[Nat.add_comm n 1,Na r f r 1,Na r (C6 f) 0 1]
 have h1:Ez r f r 1=(C6 f,1,[Bt (C6 f) 0]):=by rw[SZ,<-cI];simp only[if_true];rfl
 have h2:Ez r (C6 f) 0 1=(C6 f,1,[Bt (C6 f) 0]):=by rw[SZ,<-cI];simp only;rw[aj (by omega)];rfl
 rw[h1,h2]
def blk (f:Nat->Int):Ad:=eV f 0 168
theorem P6 (f:Nat->Int):(blk f).length=168:=vK ..
theorem AbH {r:Nat} (hr:0<r) (h:Nat->Int):Ez r h 0 (r+(r+r))=(C6 (C6 h),r,eV h 0 r++eV (C6 h) 0 r++eV (C6 (C6 h)) 0 r):=by
 have e:∀h,Ez r h 0 r=(h,r,eV h 0 r):=λh=>by rw[jC h 0 r (by omega),br]
 have e2:∀h,Ez r h r r=(C6 h,r,eV (C6 h) 0 r):=λh=>by
  obtain⟨n,rfl⟩:∃n,r=n+1:=⟨r-1,by omega⟩
  rw[V0 hr,e]
 rw[Na,e,Na,e2,e2,bu]
theorem wF (h:Nat->Int):Ez 168 h 0 504=(C6 (C6 h),168,blk h++blk (C6 h)++blk (C6 (C6 h))):=AbH (by decide) h
theorem AbI (h:Nat->Int):Ez 168 h 168 504=(C6 (C6 (C6 h)),168,blk (C6 h)++blk (C6 (C6 h))++blk (C6 (C6 (C6 h)))):=(V0 (r:=168) (by decide) h 503).trans (wF (C6 h))
def GT (x:Int) (s:(Nat->Int)×Nat):(Nat->Int)×Nat:=if x<3329 then(if s.2<256 then(upd s.1 s.2 x,s.2+1)else s)else s
def v6 (a b:Int):Int:=Em .u16 (IntKind.wrap .u16 a) (BX .u16 (IntKind.wrap .u16 (Bz .u8 b 15)) 8)
def xY (b c:Int):Int:=Em .u16 (IntKind.wrap .u16 (Bh .u8 b 4)) (BX .u16 (IntKind.wrap .u16 c) 4)
def acc:Ad->(Nat->Int)×Nat->(Nat->Int)×Nat
 |a::b::c::r,s=>acc r (GT (xY b c) (GT (v6 a b) s))
 |_,s=>s
theorem qB {b:Ad} (h:3<=b.length) (s:(Nat->Int)×Nat):acc b s=acc (b.drop 3) (GT (xY (b.getD 1 0) (b.getD 2 0)) (GT (v6 (b.getD 0 0) (b.getD 1 0)) s)):=by
 match b,h with
 |x::y::z::r,_=>rfl
theorem bG (s:(Nat->Int)×Nat):acc [] s=s:=rfl
theorem Lt (x:Int) (s:(Nat->Int)×Nat):s.2<=(GT x s).2/\((GT x s).2<=s.2+1)/\(s.2<=256->(GT x s).2<=256):=by
 unfold GT
 split
 ·split
  ·simp only;omega
  ·omega
 ·omega
theorem NY:∀(l:Ad) (s:(Nat->Int)×Nat),s.2<=(acc l s).2/\(s.2<=256->(acc l s).2<=256):=by
 intro l
 induction h:l.length using Nat.strongRecOn generalizing l with
 |_ n ih=>
  intro s
  match l,h with
  |[],_=>exact⟨an _,id⟩
  |[_],_=>exact⟨an _,id⟩
  |[_,_],_=>exact⟨an _,id⟩
  |a::b::c::r,h=>
   have h1:=Lt (v6 a b) s
   have h2:=Lt (xY b c) (GT (v6 a b) s)
   have h3:=ih r.length (by rw[<-h];simp only[aw];omega) r rfl (GT (xY b c) (GT (v6 a b) s))
   exact⟨by show s.2<=(acc r _).2;omega,λh4=>h3.2 (h2.2.2 (h1.2.2 h4))⟩
theorem vU:∀(p r:Ad) (s:(Nat->Int)×Nat),p.length%3=0->acc (p++r) s=acc r (acc p s):=by
 intro p
 induction h:p.length using Nat.strongRecOn generalizing p with
 |_ n ih=>
  intro r s hm
  match p,h with
  |[],_=>rfl
  |[_],h=>simp only[aw,au]at h;omega
  |[_,_],h=>simp only[aw,au]at h;omega
  |a::b::c::q,h=>
   simp only[aw]at h
   exact ih q.length (by omega) q rfl r _ (by omega)
theorem R0 {p r:Ad} (hp:p.length%3=0) {s:(Nat->Int)×Nat} (hs:s.2<256):s.2<(acc (p++0::0::0::r) s).2:=by
 rw[vU _ _ _ hp]
 have h1:=(NY p s).1
 show s.2<(acc r (GT (xY 0 0) (GT (v6 0 0) (acc p s)))).2
 rw[show v6 0 0=0 from rfl,show xY 0 0=0 from rfl]
 generalize acc p s=t at h1
 have h2:=Lt 0 (GT 0 t)
 have h3:=(NY r (GT 0 (GT 0 t))).1
 have h4:t.2<256->(GT 0 t).2=t.2+1:=λh=>by unfold GT;rw[ah (by decide),ah h]
 have h5:=Lt 0 t
 omega
def uR (g0:Nat->Int):Nat->(Nat->Int)×Nat×(Nat->Int)×Nat
 |0=>(g0,0,λ_=>0,0)
 |k+1=>((Ez 168 (uR g0 k).1 (uR g0 k).2.1 504).1,(Ez 168 (uR g0 k).1 (uR g0 k).2.1 504).2.1,acc (Ez 168 (uR g0 k).1 (uR g0 k).2.1 504).2.2 (uR g0 k).2.2)
theorem ZF (a:Nat->Int):∀n,Et (C6 a) n=Et a (n+1)
 |0=>rfl
 |n+1=>dp C6 (ZF a n)
theorem gG (g0:Nat->Int):∀k,Ez 168 (uR g0 k).1 (uR g0 k).2.1 504=(Et g0 (3*k+2),168,blk (Et g0 (3*k))++blk (Et g0 (3*k+1))++blk (Et g0 (3*k+2)))
 |0=>wF g0
 |k+1=>by
  have ih:=gG g0 k
  have e:uR g0 (k+1)=(Et g0 (3*k+2),168,acc (blk (Et g0 (3*k))++blk (Et g0 (3*k+1))++blk (Et g0 (3*k+2))) (uR g0 k).2.2):=by
   show((Ez 168 (uR g0 k).1 (uR g0 k).2.1 504).1,(Ez 168 (uR g0 k).1 (uR g0 k).2.1 504).2.1,acc (Ez 168 (uR g0 k).1 (uR g0 k).2.1 504).2.2 (uR g0 k).2.2)=_
   rw[ih]
  rw[e]
  simp only
  rw[AbI]
  rfl
theorem TC (g0:Nat->Int) (k:Nat):(uR g0 (k+1)).2.2=acc (blk (Et g0 (3*k))++blk (Et g0 (3*k+1))++blk (Et g0 (3*k+2))) (uR g0 k).2.2:=by
 show acc (Ez 168 (uR g0 k).1 (uR g0 k).2.1 504).2.2 (uR g0 k).2.2=_
 rw[gG]
theorem U_ {f:Nat->Int} {i:Nat} (h:f (i/8)=0):Bt f i=0:=by
 unfold Bt;rw[h];unfold Bh;rw[Int.zero_fdiv];rfl
theorem pS {f:Nat->Int} (h:f 5=0):∃p r,blk f=p++0::0::0::r/\p.length=42:=by
 have hb:∀i,i<168->(blk f)[i]? =some (Bt f i):=λi hi=>by simp [blk,eV,hi]
 have hl:=P6 f
 refine⟨(blk f).take 42,(blk f).drop 45,?_,by simp [hl]⟩
 have e:(blk f).drop 42=0::0::0::(blk f).drop 45:=by
  have at':∀i,i<168->(blk f).drop i=Bt f i::(blk f).drop (i+1):=λi hi=>by
   rw[List.drop_eq_getElem_cons (by rw[hl];exact hi)]
   have :=hb i hi
   rw[am (by rw[hl];exact hi)]at this
   rw[Option.some.inj this]
  rw[at' 42 (by omega),at' 43 (by omega),at' 44 (by omega),U_ h,U_ h,U_ h]
 rw[<-e,dg]
theorem Zc (g0:Nat->Int):∀k,(uR g0 k).2.2.2<=(uR g0 (k+1)).2.2.2/\(uR g0 k).2.2.2<=256
 |0=>⟨bw _,bw _⟩
 |k+1=>by
  have ih:=Zc g0 k
  refine⟨?_,?_⟩
  ·rw[TC g0 (k+1)];exact(NY _ _).1
  ·rw[TC g0 k];exact(NY _ _).2 ih.2
theorem gE (g0:Nat->Int) (k:Nat):∀d,(uR g0 k).2.2.2<=(uR g0 (k+d)).2.2.2
 |0=>an _
 |d+1=>ca (gE g0 k d) (Zc g0 (k+d)).1
theorem qT {g0:Nat->Int} {t:Nat} (h:Et g0 t 5=0) (hk:(uR g0 (t/3)).2.2.2<256):(uR g0 (t/3)).2.2.2<(uR g0 (t/3+1)).2.2.2:=by
 rw[TC]
 have h3:t%3=0\/t%3=1\/t%3=2:=by omega
 obtain⟨p,r,e,hp⟩:=pS h
 rcases h3 with h3|h3|h3
 ·rw[show 3*(t/3)=t by omega,e]
  have :=R0 (p:=p) (r:=r++blk (Et g0 (t+1))++blk (Et g0 (t+2))) (by rw[hp]) hk
  simpa using this
 ·rw[show 3*(t/3)+1=t by omega,e]
  have :=R0 (p:=blk (Et g0 (3*(t/3)))++p) (r:=r++blk (Et g0 (3*(t/3)+2))) (by rw[ab,hp,P6]) hk
  simpa using this
 ·rw[show 3*(t/3)+2=t by omega,e]
  have :=R0 (p:=blk (Et g0 (3*(t/3)))++blk (Et g0 (3*(t/3)+1))++p) (r:=r) (by rw[ab,ab,hp,P6,P6]) hk
  simpa using this
theorem qU {g0:Nat->Int} (h:∀m,∃t,m<=t/\Et g0 t 5=0):∃K,∀k,(uR g0 k).2.2.2<256->k<K:=by
 have key:∀c,c<=256->∃K,∀k,K<=k->c<=(uR g0 k).2.2.2:=by
  intro c
  induction c with
  |zero=>exact λ_=>⟨0,λ_ _=>bw _⟩
  |succ c ih=>
   intro hc
   obtain⟨K,hK⟩:=ih (by omega)
   obtain⟨t,h1,h2⟩:=h (3*K)
   refine⟨t/3+1,λk hk=> ?_⟩
   have h3:=hK (t/3) (by omega)
   have h4:=gE g0 (t/3+1) (k-(t/3+1))
   rw[show t/3+1+(k-(t/3+1))=k by omega]at h4
   have h6:=gE g0 (t/3) 1
   by_cases h5:(uR g0 (t/3)).2.2.2<256
   ·have :=qT h2 h5
    omega
   ·omega
 obtain⟨K,hK⟩:=key 256 (an _)
 refine⟨K,λk hk=> ?_⟩
 rcases ci k K with h1|h1
 ·exact h1
 ·have :=hK k h1;omega
theorem fW (b:Ad):∀n,Rg (fO b (λ_=>0) n)
 |0=>λi _=>by simp [fO]
 |n+1=>λi hi=>by
  simp only[fO,upd]
  split
  ·exact Ns _ _
  ·exact fW b n i hi
theorem Qc {b:Ad} {l:Nat} (h:∀i,i/8=l->b.getD i 0=0):∀n,fO b (λ_=>0) n l=0
 |0=>rfl
 |n+1=>by
  simp only[fO,upd]
  split
  ·rename_i e
   rw[<-e,Qc h n,h n e.symm]
   have e2:∀m:Nat,m<8->A0 .u64 0 (BX .u64 (IntKind.wrap .u64 0) ((8*m:Nat):Int))=0:=by
    intro m hm
    have :m=0\/m=1\/m=2\/m=3\/m=4\/m=5\/m=6\/m=7:=by omega
    rcases this with rfl|rfl|rfl|rfl|rfl|rfl|rfl|rfl<;>rfl
   exact e2 (n%8) (di _ (by decide))
  ·exact Qc h n
theorem sE {l:AZ} (h:l.flatten.length<40):(jZ 168 31 l).length=168/\∀i,i/8=5->(jZ 168 31 l).getD i 0=0:=by
 have hl:(l.flatten++[(31:Int)]).length=l.flatten.length+1:=by simp
 have hz:(Nj 168 31 l).length=168:=by
  unfold Nj
  rw[ab,az,hl]
  omega
 refine⟨by rw[T5,hz],λi hi=> ?_⟩
 unfold jZ
 rw[hz,al,List.getElem?_set_ne (by omega)]
 unfold Nj
 rw[df (by rw[hl];omega)]
 rw[List.getElem?_replicate]
 split<;>rfl
theorem q9 {l:AZ} (h:l.flatten.length<40):∃x0,Rg x0/\x0 5=0/\Qx 168 31 l=C6 x0:=by
 obtain⟨h1,h2⟩:=sE h
 refine⟨fO (jZ 168 31 l) (λ_=>0) 168,fW _ _,Qc h2 _,?_⟩
 unfold Qx
 rw[h1]
 show C6 (fO ((jZ 168 31 l).drop (0*168)) (SA (jZ 168 31 l) 168 0) 168)=_
 rw[io,gx]
 rfl
theorem bX {l:AZ} (h:l.flatten.length<40) (m:Nat):∃t,m<=t/\Et (Qx 168 31 l) t 5=0:=by
 obtain⟨x0,h1,h2,h3⟩:=q9 h
 obtain⟨n,h4,h5⟩:=XU h1 m
 refine⟨n-1,by omega,?_⟩
 rw[h3,ZF,show n-1+1=n by omega,h5 5 (by omega),h2]
noncomputable def uK (l:AZ):Nat:=Classical.epsilon λK=>∀k,(uR (Qx 168 31 l) k).2.2.2<256->k<K
theorem Aby {l:AZ} (h:l.flatten.length<40) {k:Nat} (hk:(uR (Qx 168 31 l) k).2.2.2<256):k<uK l:=
 Classical.epsilon_spec (qU (bX h)) k hk
noncomputable def K5 (l:AZ):Nat->Int:=(uR (Qx 168 31 l) (D3 λk=>(uR (Qx 168 31 l) k).2.2.2<256)).2.2.1
def Sn (xs:Ad) (s:(Nat->Int)×Nat):Nat->(Nat->Int)×Nat
 |0=>s
 |i+1=>GT (xs.getD i 0) (Sn xs s i)
theorem YV {x:Int} {f:Nat->Int} {n:Nat} (h:x<3329) (h2:((n:Nat):Int)<256):GT x (f,n)=(upd f n x,n+1):=by
 unfold GT;rw[ah h,ah (by simp only;omega)]
theorem YW {x:Int} {f:Nat->Int} {n:Nat} (h:x<3329) (h2:¬((n:Nat):Int)<256):GT x (f,n)=(f,n):=by
 unfold GT;rw[ah h,aj (by simp only;omega)]
theorem YU {x:Int} {f:Nat->Int} {n:Nat} (h:¬x<3329):GT x (f,n)=(f,n):=by
 unfold GT;rw[aj h]
theorem OL {xs:Ad} {s s':(Nat->Int)×Nat} {t:Nat} {f:Nat->Int} {n:Nat} (h:(f,n)=Sn xs s t) (h2:s'=GT (xs.getD t 0) (f,n)):s'=Sn xs s (t+1):=by
 show _=GT _ (Sn xs s t)
 rw[<-h];exact h2
theorem Abf {b:Ad} {s r:(Nat->Int)×Nat} (h:3<=b.length) (hc:acc b s=r):acc (b.drop 3) (Sn [v6 (b.getD 0 0) (b.getD 1 0),xY (b.getD 1 0) (b.getD 2 0)] s 2)=r:=(qB h s).symm.trans hc
theorem Abx {g0 g f:Nat->Int} {k a n:Nat} (hq:(g,a,f,n)=uR g0 k):((Ez 168 g a 504).1,(Ez 168 g a 504).2.1,acc (Ez 168 g a 504).2.2 (f,n))=uR g0 (k+1):=by
 show _=((Ez 168 (uR g0 k).1 (uR g0 k).2.1 504).1,(Ez 168 (uR g0 k).1 (uR g0 k).2.1 504).2.1,acc (Ez 168 (uR g0 k).1 (uR g0 k).2.1 504).2.2 (uR g0 k).2.2)
 rw[<-hq]
theorem Adb {g0 g f:Nat->Int} {k a n:Nat} (hq:(g,a,f,n)=uR g0 k):a<=168:=by
 cases k with
 |zero=>have :=dp (·.2.1) hq;simp only[uR]at this;omega
 |succ k=>
  have :=dp (·.2.1) hq
  have e:(uR g0 (k+1)).2.1=(Ez 168 (uR g0 k).1 (uR g0 k).2.1 504).2.1:=rfl
  simp only[e,gG]at this
  omega
end Go.Sx
namespace Go.Sx.Tryz
open Go.Mi Go.RowKit Go.Sx Go.Proofs Go.Proofs.Tryz
noncomputable section
open List (replicate)
theorem Qk (sd:Ad) (bi bj:Int) (h:sd.length=32):AP 178 ⟨[lb sd,.v (.int .u8 bi),.v (.int .u8 bj)],[],.ar .u16 256 (K5 [sd,[bi,bj]]),[]⟩:=by
 refine cy 0 func178 rfl ntmps178 λY V=>Aj [] 1 V λV=>Ay [(5,AA (Ud [sd,[bi,bj]] (by first |omega|(simp only[bd,ce,ab,aw,au,ap,av,az]<;>omega)|(simp<;>omega))) [] [(0,1),(1,2)])] [] 3 V λV=>Aj [] 3 V λV=>Ar (BC (AC (ι:=Nat×(Nat->Int)×Nat×(Nat->Int)×Nat) Y V (λ(k,g,a,f,n)=>(uK [sd,[bi,bj]]-k,[(8,vi (n:Int))],[(0,N1 f),(2,wN g a)],((g,a,f,n)=uR (Qx 168 31 [sd,[bi,bj]]) k)/\(∀j,j<k->(uR (Qx 168 31 [sd,[bi,bj]]) j).2.2.2<256)/\True)) [6,7] [1] 3 (0,(Qx 168 31 [sd,[bi,bj]]),0,λ_=>0,0) [(0,0),(1,1),(2,2)] ⟨rfl,(λj h=>absurd h (be j)),aa⟩ ?_))
 rintro⟨k,g,a,f,n⟩ ac gs ws ⟨hq,hj,_⟩ V
 refine Ar (Aj [] 3 V λV=>AJ ((n:Int)<256) V (λh1=> ?_) (λh1=> ?_))
 ·refine Cb (BC (Ar ?_))
  have ha:=Adb hq
  have hnk:(uR (Qx 168 31 [sd,[bi,bj]]) k).2.2.2<256:=by rw[<-hq];simp only;omega
  have hk:=Aby (l:=[sd,[bi,bj]]) (by simp only[bd,ce,ab,aw,au];omega) hnk
  refine Aw [(1,AA (iJ g a Ac) [(0,1),(1,2)] [])] [] 3 V λV=>Ae (BC (AC (ι:=Ad×(Nat->Int)×Nat) Y V (λ(b,f2,n2)=>(b.length,[(8,vi (n2:Int)),(9,lb b)],[(0,N1 f2)],(b.length%3=0)/\(acc b (f2,n2)=acc (Ez 168 g a 504).2.2 (f,n))/\True)) [6,7] [1,2] 3 ((Ez 168 g a 504).2.2,f,n) [(0,0),(1,1),(2,2)] ⟨(by rw[Oq]),rfl,aa⟩ ?_))
  rintro⟨b,f2,n2⟩ ac gs ws ⟨hb,hc,_⟩ V
  refine Ar (Aj [] 3 V λV=>AJ ((0:Int)<((b.length:Nat):Int)) V (λh2=> ?_) (λh2=> ?_))
  ·refine B3 (Ay [(1,AH 0 b.length),(5,AH 1 b.length),(9,F_ 8),(12,AH 1 b.length),(14,F_ 4),(17,AH 2 b.length),(20,F_ 4)] [49] 3 V λV=>BC (AC (ι:=Nat×(Nat->Int)×Nat) Y V (λ(t,f3,n3)=>(2-t,[(8,vi (n3:Int)),(51,vi ((t:Nat):Int))],[(0,N1 f3)],(t<=2)/\((f3,n3)=Sn [(Em .u16 (IntKind.wrap .u16 (b.getD 0 0)) (BX .u16 (IntKind.wrap .u16 (Bz .u8 (b.getD 1 0) 15)) 8)),(Em .u16 (IntKind.wrap .u16 (Bh .u8 (b.getD 1 0) 4)) (BX .u16 (IntKind.wrap .u16 (b.getD 2 0)) 4))] (f2,n2) t)/\True)) [6,7,9,49,50] [1,2] 3 (0,f2,n2) [(0,0),(1,1),(2,2)] ⟨Ac,rfl,aa⟩ ?_))
   rintro⟨t,f3,n3⟩ ac gs ws ⟨ht,hs,_⟩ V
   refine Aj [] 3 V λV=>Ar (AJ ((t:Int)<2) V (λh3=> ?_) (λh3=> ?_))
   ·refine B3 (Ay [(0,AH t 2)] [] 3 V λV=>Ar ?_)
    by_cases h4:([(Em .u16 (IntKind.wrap .u16 (b.getD 0 0)) (BX .u16 (IntKind.wrap .u16 (Bz .u8 (b.getD 1 0) 15)) 8)),(Em .u16 (IntKind.wrap .u16 (Bh .u8 (b.getD 1 0) 4)) (BX .u16 (IntKind.wrap .u16 (b.getD 2 0)) 4))].getD t 0)<3329
    ·refine Aw [(1,Gv h4)] [] 3 V λV=>Ae (AJ ((n3:Int)<256) V (λh5=> ?_) (λh5=> ?_))
     ·exact Ay [(2,AH n3 256)] [] 3 V λV=>Aw [(1,Cu n3)] [8] 3 V λV=>Ck (Aw [(0,Cu t)] [51] 3 V λV=>Ae (As Y V (t+1,upd f3 n3 ([(Em .u16 (IntKind.wrap .u16 (b.getD 0 0)) (BX .u16 (IntKind.wrap .u16 (Bz .u8 (b.getD 1 0) 15)) 8)),(Em .u16 (IntKind.wrap .u16 (Bh .u8 (b.getD 1 0) 4)) (BX .u16 (IntKind.wrap .u16 (b.getD 2 0)) 4))].getD t 0),n3+1) [(0,0),(1,1),(2,2)] ⟨Ac,(OL hs (by first |exact(YV A_ A_).symm|exact(YW A_ A_).symm|exact(YU A_).symm)),aa⟩))
     ·exact FN (Aw [(0,Cu t)] [51] 3 V λV=>Ae (As Y V (t+1,f3,n3) [(0,0),(1,1),(2,2)] ⟨Ac,(OL hs (by first |exact(YV A_ A_).symm|exact(YW A_ A_).symm|exact(YU A_).symm)),aa⟩))
    ·exact Aw [(1,Do h4)] [] 3 V λV=>Ae (Ai V (FN (Aw [(0,Cu t)] [51] 3 V λV=>Ae (As Y V (t+1,f3,n3) [(0,0),(1,1),(2,2)] ⟨Ac,(OL hs (by first |exact(YV A_ A_).symm|exact(YW A_ A_).symm|exact(YU A_).symm)),aa⟩))))
   ·have hT:=V
    obtain rfl:2=t:=by omega
    obtain rfl:(Sn [(Em .u16 (IntKind.wrap .u16 (b.getD 0 0)) (BX .u16 (IntKind.wrap .u16 (Bz .u8 (b.getD 1 0) 15)) 8)),(Em .u16 (IntKind.wrap .u16 (Bh .u8 (b.getD 1 0) 4)) (BX .u16 (IntKind.wrap .u16 (b.getD 2 0)) 4))] (f2,n2) 2).1=f3:=Eq.symm (dp (λz=>z.1) hs)
    obtain rfl:(Sn [(Em .u16 (IntKind.wrap .u16 (b.getD 0 0)) (BX .u16 (IntKind.wrap .u16 (Bz .u8 (b.getD 1 0) 15)) 8)),(Em .u16 (IntKind.wrap .u16 (Bh .u8 (b.getD 1 0) 4)) (BX .u16 (IntKind.wrap .u16 (b.getD 2 0)) 4))] (f2,n2) 2).2=n3:=Eq.symm (dp (λz=>z.2) hs)
    have V:=hT
    exact Vh (Aw [(1,ON 3 b.length)] [9] 3 V λV=>Ae (As Y V (b.drop 3,(Sn [(Em .u16 (IntKind.wrap .u16 (b.getD 0 0)) (BX .u16 (IntKind.wrap .u16 (Bz .u8 (b.getD 1 0) 15)) 8)),(Em .u16 (IntKind.wrap .u16 (Bh .u8 (b.getD 1 0) 4)) (BX .u16 (IntKind.wrap .u16 (b.getD 2 0)) 4))] (f2,n2) 2).1,(Sn [(Em .u16 (IntKind.wrap .u16 (b.getD 0 0)) (BX .u16 (IntKind.wrap .u16 (Bz .u8 (b.getD 1 0) 15)) 8)),(Em .u16 (IntKind.wrap .u16 (Bh .u8 (b.getD 1 0) 4)) (BX .u16 (IntKind.wrap .u16 (b.getD 2 0)) 4))] (f2,n2) 2).2) [(0,0),(1,1),(2,2)] ⟨(by rw[av];omega),(Abf Ac hc),aa⟩ (show(b.drop 3).length<b.length from by rw[av];omega)))
  ·have hT:=V
   have hn:b=[]:=bm Ac
   obtain rfl:[]=b:=Eq.symm hn
   obtain rfl:(acc (Ez 168 g a 504).2.2 (f,n)).1=f2:=Eq.symm (dp (λz=>z.1) ((bG _).symm.trans hc))
   obtain rfl:(acc (Ez 168 g a 504).2.2 (f,n)).2=n2:=Eq.symm (dp (λz=>z.2) ((bG _).symm.trans hc))
   have V:=hT
   exact Vh (As Y V (k+1,(Ez 168 g a 504).1,(Ez 168 g a 504).2.1,(acc (Ez 168 g a 504).2.2 (f,n)).1,(acc (Ez 168 g a 504).2.2 (f,n)).2) [(0,0),(1,1),(2,2)] ⟨(Abx hq),(Br hj hnk),aa⟩)
 ·have hT:=V
  obtain rfl:=CE (P:=λk=>(uR (Qx 168 31 [sd,[bi,bj]]) k).2.2.2<256) (by rw[<-hq];simp only;omega) hj
  obtain rfl:K5 [sd,[bi,bj]]=f:=Eq.symm (dp (λz=>z.2.2.1) hq)
  have V:=hT
  exact Dw (Aj [] 3 V λV=>AY (BW V))
def xU (x0:Nat->Int):O:= .ob 214 (Jg [.ar .u16 768 x0])
theorem JR (f:Nat->Int) (i:Nat) (o:Ad):∀k,(Fe f i o k).length=o.length
 |0=>rfl
 |k+1=>by
  show(EU f i o k (Fe f i o k)).length=o.length
  unfold EU
  rw[da,JR f i o k]
@[simp] theorem HA (f:Nat->Int):(CZ f).length=384:=by
 have key:∀i,(F7 f i).length=384:=by
  intro i
  induction i with
  |zero=>exact az
  |succ i ih=>exact(JR f i _ 12).trans ih
 unfold CZ;rw[Ab]
 exact key 256
theorem EC (f:Nat->Int) (d i:Nat) (o:Ad):∀k,(Ed f d i o k).length=o.length
 |0=>rfl
 |k+1=>by
  show(Dr f d i k (Ed f d i o k)).length=o.length
  unfold Dr
  rw[da,EC f d i o k]
theorem Dj (f:Nat->Int) (d:Nat):(C3 f d).length=32*d:=by
 have key:∀i,(EH f d i).length=32*d:=by
  intro i
  induction i with
  |zero=>exact az
  |succ i ih=>exact(EC f d i _ d).trans ih
 unfold C3;rw[Ab]
 exact key 256
def LO (x6:Nat):(Nat->Int)->(Nat->Int):=λo2_0=>Ey o2_0 (x6*256) 256 (Wg (λj=>o2_0 (x6*256+j)))
section
variable (f:Nat->Int)
def KL (f:Nat->Int):Nat->(Nat->Int)
 |0=>f
 |x6+1=>LO x6 (KL f x6)
def AF:(Nat->Int):=AV (KL f 3)
def YN (z_:(Nat->Int):=AF f):Con:=⟨[.ar .u16 768 f,.v (.func (.func 150) #[] #[])],[],.ar .u16 768 z_,[]⟩
theorem KH:AP 149 (YN f):=by
 refine cy 0 func149 rfl ntmps149 λY V=>Aj [] 2 V λV=>Ar (Aj [] 2 V λV=>BC (AC (ι:=Nat×(Nat->Int)) Y V (λ(x6,o2_0)=>(3-x6,[(6,vi ((x6:Nat):Int))],[(0,xU o2_0)],(x6<=3)/\(o2_0=KL f x6)/\True)) [1,2,4] [1] 2 (0,f) [(0,0),(1,1)] ⟨Ac,rfl,aa⟩ ?_))
 rintro⟨x6,o2_0⟩ ac gs ws ⟨hx6,hq1,_⟩ V
 refine Aj [] 2 V λV=>Ar (AJ ((x6:Int)<3) V (λh1=> ?_) (λh1=> ?_))
 ·exact B3 (Aj [] 2 V λV=>Aw [(3,AH x6 3),(4,Ik (.ar .u16 256 (λj=>o2_0 (x6*256+j))) [(.ar .u16 256 (λj=>o2_0 (x6*256+j)):D)=(.ar .u16 256 (λj=>o2_0 (x6*256+j)))] ⟨rfl,aa⟩),(5,AS (kA (λj=>o2_0 (x6*256+j)))),(6,AH x6 3)] [] 2 V λV=>Ck (Aw [(0,Cu x6)] [6] 2 V λV=>Ae (As Y V (x6+1,Ey o2_0 (x6*256) 256 (Wg (λj=>o2_0 (x6*256+j)))) [(0,0),(1,1)] ⟨Ac,(Bm (st:=LO) hq1 rfl rfl),aa⟩)))
 ·have hT:=V
  obtain rfl:3=x6:=by omega
  obtain rfl:=hq1.symm
  have V:=hT
  exact Dw (Aj [] 2 V λV=>AY (BV (Ab _) V))
end
def LA (g:Nat->Int) (x8:Nat):(Nat->Int)->(Nat->Int):=λo3_0=>Ey o3_0 (x8*256) 256 (kJ (λj=>o3_0 (x8*256+j)) (λj=>g (x8*256+j)))
section
variable (f g:Nat->Int)
def J4 (f g:Nat->Int):Nat->(Nat->Int)
 |0=>f
 |x8+1=>LA g x8 (J4 f g x8)
def E7:(Nat->Int):=AV (J4 f g 3)
def YC (z_:(Nat->Int):=E7 f g):Con:=⟨[.ar .u16 768 f,.ar .u16 768 g,.v (.func (.func 180) #[] #[])],[],.ar .u16 768 z_,[]⟩
theorem Vp:AP 179 (YC f g):=by
 refine cy 0 func179 rfl ntmps179 λY V=>Aj [] 3 V λV=>Ar (Aj [] 3 V λV=>BC (AC (ι:=Nat×(Nat->Int)) Y V (λ(x8,o3_0)=>(3-x8,[(8,vi ((x8:Nat):Int))],[(0,xU o3_0)],(x8<=3)/\(o3_0=J4 f g x8)/\True)) [2,3,4,6] [1,2] 3 (0,f) [(0,0),(1,1),(2,2)] ⟨Ac,rfl,aa⟩ ?_))
 rintro⟨x8,o3_0⟩ ac gs ws ⟨hx8,hq1,_⟩ V
 refine Aj [] 3 V λV=>Ar (AJ ((x8:Int)<3) V (λh1=> ?_) (λh1=> ?_))
 ·exact B3 (Aj [] 3 V λV=>Aw [(3,AH x8 3),(4,Ik (.ar .u16 256 (λj=>o3_0 (x8*256+j))) [(.ar .u16 256 (λj=>o3_0 (x8*256+j)):D)=(.ar .u16 256 (λj=>o3_0 (x8*256+j)))] ⟨rfl,aa⟩),(6,AH x8 3),(7,Ik (.ar .u16 256 (λj=>g (x8*256+j))) [(.ar .u16 256 (λj=>g (x8*256+j)):D)=(.ar .u16 256 (λj=>g (x8*256+j)))] ⟨rfl,aa⟩),(8,J0 (zN (λj=>o3_0 (x8*256+j)) (λj=>g (x8*256+j))) [] [] [.ar .u16 256 (λj=>o3_0 (x8*256+j)),.ar .u16 256 (λj=>g (x8*256+j))] []),(9,AH x8 3)] [] 3 V λV=>Ck (Aw [(0,Cu x8)] [8] 3 V λV=>Ae (As Y V (x8+1,Ey o3_0 (x8*256) 256 (kJ (λj=>o3_0 (x8*256+j)) (λj=>g (x8*256+j)))) [(0,0),(1,1),(2,2)] ⟨Ac,(Bm (st:=LA _) hq1 rfl rfl),aa⟩)))
 ·have hT:=V
  obtain rfl:3=x8:=by omega
  obtain rfl:=hq1.symm
  have V:=hT
  exact Dw (Aj [] 3 V λV=>AY (BV (Ab _) V))
def WV (x10:Nat):(Nat->Int)->(Nat->Int):=λo4_0=>BM o4_0 (λj=>(E7 f g) (x10*256+j))
def Ys (f g:Nat->Int):Nat->(Nat->Int)
 |0=>λ_=>0
 |x10+1=>WV f g x10 (Ys f g x10)
def Cm:(Nat->Int):=AV (Ys f g 3)
def AcW (z_:(Nat->Int):=Cm f g):Con:=⟨[.ar .u16 768 f,.ar .u16 768 g],[],.ar .u16 256 z_,[]⟩
theorem UI:AP 153 (AcW f g):=by
 refine cy 0 func153 rfl ntmps153 λY V=>Aj [] 3 V λV=>Ar (Ay [(0,Ik (.ar .u16 768 f) [(.ar .u16 768 f:D)=(.ar .u16 768 f)] ⟨rfl,aa⟩),(1,Ik (.ar .u16 768 g) [(.ar .u16 768 g:D)=(.ar .u16 768 g)] ⟨rfl,aa⟩),(2,J0 (Vp f g) [] [] [.ar .u16 768 f,.ar .u16 768 g,.v (.func (.func 180) #[] #[])] [])] [] 3 V λV=>BC (AC (ι:=Nat×(Nat->Int)) Y V (λ(x10,o4_0)=>(3-x10,[(10,vi ((x10:Nat):Int))],[(2,N1 o4_0)],(x10<=3)/\(o4_0=Ys f g x10)/\True)) [4,9] [] 3 (0,λ_=>0) [(2,2)] ⟨Ac,rfl,aa⟩ ?_))
 rintro⟨x10,o4_0⟩ ac gs ws ⟨hx10,hq1,_⟩ V
 refine Aj [] 3 V λV=>Ar (AJ ((x10:Int)<3) V (λh1=> ?_) (λh1=> ?_))
 ·exact B3 (Ay [(0,AH x10 3)] [6] 4 V λV=>Aw [(0,Ik (.ar .u16 256 o4_0) [(.ar .u16 256 o4_0:D)=(.ar .u16 256 o4_0)] ⟨rfl,aa⟩),(1,Ik (.ar .u16 256 (λj=>(E7 f g) (x10*256+j))) [(.ar .u16 256 (λj=>(E7 f g) (x10*256+j)):D)=(.ar .u16 256 (λj=>(E7 f g) (x10*256+j)))] ⟨rfl,aa⟩),(2,J0 (JP o4_0 (λj=>(E7 f g) (x10*256+j))) [] [] [.ar .u16 256 o4_0,.ar .u16 256 (λj=>(E7 f g) (x10*256+j))] [])] [] 4 V λV=>Ck (Aw [(0,Cu x10)] [10] 4 V λV=>Ae (As Y V (x10+1,BM o4_0 (λj=>(E7 f g) (x10*256+j))) [(2,2)] ⟨Ac,(Bm (st:=WV _ _) hq1 rfl rfl),aa⟩)))
 ·have hT:=V
  obtain rfl:3=x10:=by omega
  obtain rfl:=hq1.symm
  have V:=hT
  exact Dw (Aj [] 3 V λV=>AY (BV (Ab _) V))
end
section
variable (f:Nat->Int)
def Iu (x8:Nat):Ad->Ad:=λx2=>x2++(CZ (λj=>f (x8*256+j)))
def D4 (f:Nat->Int):Nat->Ad
 |0=>[]
 |x8+1=>Iu f x8 (D4 f x8)
def C_:Ad:=AV (D4 f 3)
def oX (z_:Ad:=C_ f):Con:=⟨[.ar .u16 768 f],[],lb z_,[]⟩
theorem S3:AP 155 (oX f):=by
 refine cy 0 func155 rfl ntmps155 λY V=>Aj [] 1 V λV=>Ar (Aj [] 1 V λV=>BC ?_)
 obtain⟨gs,V⟩:=V.nilk 2 5 Bg
 refine AC (ι:=Nat×Ad) Y V (λ(x8,x2)=>(3-x8,[(8,vi ((x8:Nat):Int))],[(1,.sl 5 Bg x2)],(x8<=3)/\(x2=D4 f x8)/\(x2.length=384*x8)/\True)) [2,7] [] 2 (0,[]) [(1,1)] ⟨Ac,rfl,rfl,aa⟩ ?_
 rintro⟨x8,x2⟩ ac gs ws ⟨hx8,hq1,p1,_⟩ V
 refine Aj [] 2 V λV=>Ar (AJ ((x8:Int)<3) V (λh1=> ?_) (λh1=> ?_))
 ·refine B3 (Ay [(0,AH x8 3)] [4] 3 V λV=>Ar (Aw [(0,Ik (.ar .u16 256 (λj=>f (x8*256+j))) [(.ar .u16 256 (λj=>f (x8*256+j)):D)=(.ar .u16 256 (λj=>f (x8*256+j)))] ⟨rfl,aa⟩),(1,J0 (WS (λj=>f (x8*256+j))) [] [(0,3)] [.ar .u16 256 (λj=>f (x8*256+j)),vi 12] [])] [] 4 V λV=> ?_))
  have hl:=HA (λj=>f (x8*256+j))
  exact Ae (Aw [(2,Gt x2.length ((CZ (λj=>f (x8*256+j))).length) 1 Ac)] [2] 5 V λV=>Ck (Aw [(0,Cu x8)] [8] 5 V λV=>Ae (As Y V (x8+1,x2++(CZ (λj=>f (x8*256+j)))) [(1,4)] ⟨Ac,(Bm (st:=Iu _) hq1 rfl rfl),(by rw[ab,HA,p1];omega),aa⟩)))
 ·have hT:=V
  obtain rfl:3=x8:=by omega
  obtain rfl:=hq1.symm
  have V:=hT
  refine Dw (Aj [2] 2 V λV=>AY ?_)
  obtain⟨gs,V⟩:=V.fz 1
  exact BV (Ab _) V
end
section
variable (xs:Ad)
def QG (x4:Nat):(Nat->Int)->(Nat->Int):=λo2_0=>Ey o2_0 (x4*256) 256 (E8 (xs.drop (384*x4)))
def Kd (xs:Ad):Nat->(Nat->Int)
 |0=>λ_=>0
 |x4+1=>QG xs x4 (Kd xs x4)
def Ba:(Nat->Int):=AV (Kd xs 3)
def u0 (z_:(Nat->Int):=Ba xs):Con:=⟨[lb xs],[],.ar .u16 768 z_,[]⟩
theorem M5 (h:1152<=xs.length):AP 192 (u0 xs):=by
 refine cy 0 func192 rfl ntmps192 λY V=> ?_
 have Bj:xs.length<=9223372036854775807:=V.len 0 rfl
 refine Aj [] 1 V λV=>Ar (Aj [] 1 V λV=>BC (AC (ι:=Nat×(Nat->Int)) Y V (λ(x4,o2_0)=>(3-x4,[(4,vi ((x4:Nat):Int))],[(0,xU o2_0)],(x4<=3)/\(o2_0=Kd xs x4)/\True)) [0,2] [] 1 (0,λ_=>0) [(0,0)] ⟨Ac,rfl,aa⟩ ?_))
 rintro⟨x4,o2_0⟩ ac gs ws ⟨hx4,hq1,_⟩ V
 refine Aj [] 1 V λV=>Ar (AJ ((x4:Int)<3) V (λh1=> ?_) (λh1=> ?_))
 ·exact B3 (Aj [] 1 V λV=>Aw [(3,IC 384 x4 (384*x4)),(4,ON (384*x4) xs.length),(5,AS (Vr (xs.drop (384*x4)) (by first |omega|(simp only[ab,av,ap,aw,au];omega)))),(6,AH x4 3)] [] 1 V λV=>Ck (Aw [(0,Cu x4)] [4] 1 V λV=>Ae (As Y V (x4+1,Ey o2_0 (x4*256) 256 (E8 (xs.drop (384*x4)))) [(0,0)] ⟨Ac,(Bm (st:=QG _) hq1 rfl rfl),aa⟩)))
 ·have hT:=V
  obtain rfl:3=x4:=by omega
  obtain rfl:=hq1.symm
  have V:=hT
  exact Dw (Aj [] 1 V λV=>AY (BV (Ab _) V))
end
section
variable (sd:Ad)
def O4 (n x6:Nat):(Nat->Int)->(Nat->Int):=λo4_0=>Ey o4_0 (x6*256) 256 (Ea sd (IntKind.wrap .u8 ((n+x6:Nat):Int)))
def OA (sd:Ad) (n:Nat):Nat->(Nat->Int)
 |0=>λ_=>0
 |x6+1=>O4 sd n x6 (OA sd n x6)
def AD (n:Nat):(Nat->Int):=AV (OA sd n 3)
def pE (n:Nat) (z_:(Nat->Int):=AD sd n):Con:=⟨[lb sd,vi (n:Int)],[],.ar .u16 768 z_,[]⟩
theorem Lg (n:Nat) (h:sd.length<=100000000000000) (hn:n<=100):AP 148 (pE sd n):=by
 refine cy 0 func148 rfl ntmps148 λY V=> ?_
 have Bj:sd.length<=9223372036854775807:=V.len 0 rfl
 refine Aj [] 1 V λV=>Ar (Aj [] 1 V λV=>BC (AC (ι:=Nat×(Nat->Int)) Y V (λ(x6,o4_0)=>(3-x6,[(6,vi ((x6:Nat):Int))],[(0,xU o4_0)],(x6<=3)/\(o4_0=OA sd n x6)/\True)) [0,1,4] [] 1 (0,λ_=>0) [(0,0)] ⟨Ac,rfl,aa⟩ ?_))
 rintro⟨x6,o4_0⟩ ac gs ws ⟨hx6,hq1,_⟩ V
 refine Aj [] 1 V λV=>Ar (AJ ((x6:Int)<3) V (λh1=> ?_) (λh1=> ?_))
 ·exact B3 (Aj [] 1 V λV=>Aw [(4,FW n x6 (n+x6)),(6,AS (Wl sd (IntKind.wrap .u8 ((n+x6:Nat):Int)) Ax)),(7,AH x6 3)] [] 1 V λV=>Ck (Aw [(0,Cu x6)] [6] 1 V λV=>Ae (As Y V (x6+1,Ey o4_0 (x6*256) 256 (Ea sd (IntKind.wrap .u8 ((n+x6:Nat):Int)))) [(0,0)] ⟨Ac,(Bm (st:=O4 _ _) hq1 rfl rfl),aa⟩)))
 ·have hT:=V
  obtain rfl:3=x6:=by omega
  obtain rfl:=hq1.symm
  have V:=hT
  exact Dw (Aj [] 1 V λV=>AY (BV (Ab _) V))
def I8 (i x10:Nat):(Nat->Int)->(Nat->Int):=λo6_0=>Ey o6_0 (x10*256) 256 (K5 [sd,[(IntKind.wrap .u8 (i:Int)),(IntKind.wrap .u8 (x10:Int))]])
def H5 (sd:Ad) (i:Nat):Nat->(Nat->Int)
 |0=>λ_=>0
 |x10+1=>I8 sd i x10 (H5 sd i x10)
def Bo (i:Nat):(Nat->Int):=AV (H5 sd i 3)
def Sk (i:Nat) (z_:(Nat->Int):=Bo sd i):Con:=⟨[lb sd,vi (i:Int),.v (.bool true)],[],.ar .u16 768 z_,[]⟩
theorem Rf (i:Nat) (h:sd.length=32) (hi:i<=100):AP 152 (Sk sd i):=by
 refine cy 0 func152 rfl ntmps152 λY V=> ?_
 have Bj:sd.length<=9223372036854775807:=V.len 0 rfl
 refine Aj [] 1 V λV=>Ar (Aj [] 1 V λV=>BC (AC (ι:=Nat×(Nat->Int)) Y V (λ(x10,o6_0)=>(3-x10,[(10,vi ((x10:Nat):Int))],[(0,xU o6_0)],(x10<=3)/\(o6_0=H5 sd i x10)/\True)) [0,1,2,6] [] 1 (0,λ_=>0) [(0,0)] ⟨Ac,rfl,aa⟩ ?_))
 rintro⟨x10,o6_0⟩ ac gs ws ⟨hx10,hq1,_⟩ V
 refine Aj [] 1 V λV=>Ar (AJ ((x10:Int)<3) V (λh1=> ?_) (λh1=> ?_))
 ·exact B3 (Aj [] 1 V λV=>Aj [] 1 V λV=>Ar (Aj [] 1 V λV=>AG V (Dl [8,9] 1 V λV=>Ae (Aw [(4,AS (Qk sd (IntKind.wrap .u8 (i:Int)) (IntKind.wrap .u8 ((x10:Nat):Int)) (by first |omega|assumption))),(5,AH x10 3)] [] 1 V λV=>Ck (Aw [(0,Cu x10)] [10] 1 V λV=>Ae (As Y V (x10+1,Ey o6_0 (x10*256) 256 (K5 [sd,[(IntKind.wrap .u8 (i:Int)),(IntKind.wrap .u8 (x10:Int))]])) [(0,0)] ⟨Ac,(Bm (st:=I8 _ _) hq1 rfl rfl),aa⟩))))))
 ·have hT:=V
  obtain rfl:3=x10:=by omega
  obtain rfl:=hq1.symm
  have V:=hT
  exact Dw (Aj [] 1 V λV=>AY (BV (Ab _) V))
def Iv (i x10:Nat):(Nat->Int)->(Nat->Int):=λo6_0=>Ey o6_0 (x10*256) 256 (K5 [sd,[(IntKind.wrap .u8 (x10:Int)),(IntKind.wrap .u8 (i:Int))]])
def Hg (sd:Ad) (i:Nat):Nat->(Nat->Int)
 |0=>λ_=>0
 |x10+1=>Iv sd i x10 (Hg sd i x10)
def DR (i:Nat):(Nat->Int):=AV (Hg sd i 3)
def RP (i:Nat) (z_:(Nat->Int):=DR sd i):Con:=⟨[lb sd,vi (i:Int),.v (.bool false)],[],.ar .u16 768 z_,[]⟩
theorem Pk (i:Nat) (h:sd.length=32) (hi:i<=100):AP 152 (RP sd i):=by
 refine cy 0 func152 rfl ntmps152 λY V=> ?_
 have Bj:sd.length<=9223372036854775807:=V.len 0 rfl
 refine Aj [] 1 V λV=>Ar (Aj [] 1 V λV=>BC (AC (ι:=Nat×(Nat->Int)) Y V (λ(x10,o6_0)=>(3-x10,[(10,vi ((x10:Nat):Int))],[(0,xU o6_0)],(x10<=3)/\(o6_0=Hg sd i x10)/\True)) [0,1,2,6] [] 1 (0,λ_=>0) [(0,0)] ⟨Ac,rfl,aa⟩ ?_))
 rintro⟨x10,o6_0⟩ ac gs ws ⟨hx10,hq1,_⟩ V
 refine Aj [] 1 V λV=>Ar (AJ ((x10:Int)<3) V (λh1=> ?_) (λh1=> ?_))
 ·exact B3 (Aj [] 1 V λV=>Aj [] 1 V λV=>Ar (Aj [] 1 V λV=>Ai V (Cb (Aw [(4,AS (Qk sd (IntKind.wrap .u8 ((x10:Nat):Int)) (IntKind.wrap .u8 (i:Int)) (by first |omega|assumption))),(5,AH x10 3)] [] 1 V λV=>Ck (Aw [(0,Cu x10)] [10] 1 V λV=>Ae (As Y V (x10+1,Ey o6_0 (x10*256) 256 (K5 [sd,[(IntKind.wrap .u8 (x10:Int)),(IntKind.wrap .u8 (i:Int))]])) [(0,0)] ⟨Ac,(Bm (st:=Iv _ _) hq1 rfl rfl),aa⟩))))))
 ·have hT:=V
  obtain rfl:3=x10:=by omega
  obtain rfl:=hq1.symm
  have V:=hT
  exact Dw (Aj [] 1 V λV=>AY (BV (Ab _) V))
end
theorem nD {xs ys:Ad} (h:¬((xs.length:Nat):Int)=((ys.length:Nat):Int)):decide (xs=ys)=false:=decide_eq_false λe=>h (by rw[e])
theorem nC {xs ys:Ad} {i:Nat} (h:¬xs.getD i 0=ys.getD i 0):decide (xs=ys)=false:=decide_eq_false λe=>h (by rw[e])
theorem nB {xs ys:Ad} (hl:((xs.length:Nat):Int)=((ys.length:Nat):Int)) (h:∀j,j<xs.length->xs.getD j 0=ys.getD j 0):decide (xs=ys)=true:=decide_eq_true (by
 refine g_ Ac λi h1 h2=> ?_
 have :=h i h1
 rwa [al,al,am h1,am h2]at this)
def TQ (xs:Ad):Bool:=(List.range 3).all λi=>Lx λj=>Ba xs (i*256+j)
theorem Zr {xs:Ad} {i:Nat} (hi:i<3) (h:Lx (λj=>Ba xs (i*256+j))=false):TQ xs=false:=by
 cases hb:TQ xs with
 |false=>rfl
 |true=>
  have :=ax.1 hb i (eo.2 hi)
  rw[h]at this;cases this
theorem Kf {xs:Ad} (h:∀i,i<3->Lx (λj=>Ba xs (i*256+j))=true):TQ xs=true:=by
 unfold TQ
 rw[ax]
 exact λi hi=>h i (eo.1 hi)
def chk (xs:Ad):Nat:=if xs.length=1184 then(if TQ xs=true then 0 else 2)else 1
theorem AcL {xs:Ad} (h:¬((xs.length:Nat):Int)=1184):chk xs=1:=by unfold chk;rw[aj Ac]
theorem AcK {xs:Ad} (h:((xs.length:Nat):Int)=1184) (h2:TQ xs=false):chk xs=2:=by unfold chk;rw[ah Ac,aj (by rw[h2];decide)]
theorem xG {xs:Ad} (h:((xs.length:Nat):Int)=1184) (h2:TQ xs=true):chk xs=0:=by unfold chk;rw[ah Ac,ah h2]
section
variable (xs:Ad)
def FF:Nat:=if xs.length=2400 then(if TQ xs=true then(if chk ((xs.take 2336).drop 1152)=0 then(if B8 [(xs.take 2336).drop 1152]=(xs.take 2368).drop 2336 then 0 else 2)else 2)else 2)else 1
theorem cA (ys:Ad):AP 67 ⟨[lb xs,lb ys],[],.v (.bool (decide (xs=ys))),[]⟩:=by
 refine cy 0 func67 rfl ntmps67 λY V=> ?_
 have Bj:xs.length<=9223372036854775807:=V.len 0 rfl
 have BJ:ys.length<=9223372036854775807:=V.len 1 rfl
 refine Aj [] 0 V λV=>Ar (Aj [] 0 V λV=>IH (((xs.length:Nat):Int)=((ys.length:Nat):Int)) V (λh1=> ?_) (λh1=> ?_))
 ·exact Aj [] 0 V λV=>AY (Ao (Ec rfl (.inr rfl) V [.v (.bool false)] [] (by show weak _ (.v (.bool (decide (xs=ys))))= .v (.bool (decide (xs=ys)));rw[nD h1];rfl) aa))
 ·refine DG (Aj [] 0 V λV=>BC (AC (ι:=Nat) Y V (λi=>(xs.length-i,[(13,vi ((i:Nat):Int))],[],(i<=xs.length)/\(∀j,j<i->xs.getD j 0=ys.getD j 0)/\True)) [0,1,12] [] 0 0 [] ⟨Ac,(λj h=>absurd h (be j)),aa⟩ ?_))
  rintro i ac gs ws ⟨hi,pm,_⟩ V
  refine Aj [] 0 V λV=>Ar (AJ ((i:Int)<((xs.length:Nat):Int)) V (λh2=> ?_) (λh2=> ?_))
  ·refine B3 (Aj [] 0 V λV=>Ay [(2,AH i xs.length),(6,AH i ys.length)] [] 0 V λV=>IH ((xs.getD i 0)=(ys.getD i 0)) V (λh3=> ?_) (λh3=> ?_))
   ·exact Aj [] 0 V λV=>AY (AN (Ao (Ao (AN (Ao (Ec rfl (.inr rfl) V [.v (.bool false)] [] (by show weak _ (.v (.bool (decide (xs=ys))))= .v (.bool (decide (xs=ys)));rw[nC h3];rfl) aa))))))
   ·exact FN (Aw [(0,Cu i)] [13] 0 V λV=>Ae (As Y V (i+1) [] ⟨Ac,(Br pm A_),aa⟩))
  ·have hT:=V
   obtain rfl:xs.length=i:=by omega
   have V:=hT
   exact Dw (Aj [] 0 V λV=>AY (Ec rfl (.inr rfl) V [.v (.bool true)] [] (by show weak _ (.v (.bool (decide (xs=ys))))= .v (.bool (decide (xs=ys)));rw[nB h1 pm];rfl) aa))
theorem Ew (ys:Ad):AP 37 ⟨[lb xs,lb ys],[],.v (.bool (decide (xs=ys))),[]⟩:=by
 exact cy 0 func37 rfl ntmps37 λY V=>Aj [] 0 V λV=>Ay [(2,AS (cA xs ys))] [] 0 V λV=>AY (BW V)
end
theorem xM {b:Bool} (h:(!b)=true):b=false:=by cases b<;>simp_all
theorem xL {b:Bool} (h:(!b)=false):b=true:=by cases b<;>simp_all
theorem NL (ek:Ad):AP 172 ⟨[lb ek],[],vi ((chk ek:Nat):Int),[]⟩:=by
 refine cy 0 func172 rfl ntmps172 λY V=>Aj [] 0 V λV=>Ar (Aj [] 0 V λV=>IH (((ek.length:Nat):Int)=1184) V (λh1=> ?_) (λh1=> ?_))
 ·exact Aj [] 0 V λV=>AY (Ao (Ec rfl (.inr rfl) V [vi 1] [] (by show weak _ (vi ((chk ek:Nat):Int))=vi ((chk ek:Nat):Int);rw[AcL h1];rfl) aa))
 ·refine DG (Ay [(1,AS (M5 ek Ax))] [] 0 V λV=>BC (AC (ι:=Nat) Y V (λi=>(3-i,[(10,vi ((i:Nat):Int))],[],(i<=3)/\(∀j,j<i->Lx (λt=>Ba ek (j*256+t))=true)/\True)) [9] [] 0 0 [] ⟨Ac,(λj h=>absurd h (be j)),aa⟩ ?_))
  rintro i ac gs ws ⟨hi,pm,_⟩ V
  refine Aj [] 0 V λV=>Ar (AJ ((i:Int)<3) V (λh2=> ?_) (λh2=> ?_))
  ·refine B3 (Ay [(0,AH i 3)] [4] 1 V λV=>Ay [(0,Ik (.ar .u16 256 (λj=>(Ba ek) (i*256+j))) [(.ar .u16 256 (λj=>(Ba ek) (i*256+j)):D)=(.ar .u16 256 (λj=>(Ba ek) (i*256+j)))] ⟨rfl,aa⟩),(1,AS (kK (λj=>(Ba ek) (i*256+j))))] [] 1 V λV=>Sd (!(Lx (λj=>(Ba ek) (i*256+j)))) V (λh3=> ?_) (λh3=> ?_))
   ·exact Aj [] 1 V λV=>AY (AN (Ao (Ao (AN (Ao (Ec rfl (.inr rfl) V [vi 2] [] (by show weak _ (vi ((chk ek:Nat):Int))=vi ((chk ek:Nat):Int);rw[AcK h1 (Zr Ac (xM h3))];rfl) aa))))))
   ·exact FN (Aw [(0,Cu i)] [10] 1 V λV=>Ae (As Y V (i+1) [] ⟨Ac,(Br pm (xL A_)),aa⟩))
  ·have hT:=V
   obtain rfl:3=i:=by omega
   have V:=hT
   exact Dw (Aj [] 0 V λV=>AY (Ec rfl (.inr rfl) V [vi 0] [] (by show weak _ (vi ((chk ek:Nat):Int))=vi ((chk ek:Nat):Int);rw[xG h1 (Kf pm)];rfl) aa))
theorem Yy (dk:Ad):AP 168 ⟨[lb dk],[],vi ((FF dk:Nat):Int),[]⟩:=by
 refine cy 0 func168 rfl ntmps168 λY V=>Aj [] 0 V λV=>Ar (Aj [] 0 V λV=>IH (((dk.length:Nat):Int)=2400) V (λh1=> ?_) (λh1=> ?_))
 ·exact Aj [] 0 V λV=>AY (Ao (Ec rfl (.inr rfl) V [vi 1] [] (by show weak _ (vi ((FF dk:Nat):Int))=vi ((FF dk:Nat):Int);unfold FF;rw[aj Ac];rfl) aa))
 ·refine DG (Ay [(1,AS (M5 dk Ax))] [] 0 V λV=>BC (AC (ι:=Nat) Y V (λi=>(3-i,[(10,vi ((i:Nat):Int))],[],(i<=3)/\(∀j,j<i->Lx (λt=>Ba dk (j*256+t))=true)/\True)) [0,9] [] 0 0 [] ⟨Ac,(λj h=>absurd h (be j)),aa⟩ ?_))
  rintro i ac gs ws ⟨hi,pm,_⟩ V
  refine Aj [] 0 V λV=>Ar (AJ ((i:Int)<3) V (λh2=> ?_) (λh2=> ?_))
  ·refine B3 (Ay [(0,AH i 3)] [4] 1 V λV=>Ay [(0,Ik (.ar .u16 256 (λj=>(Ba dk) (i*256+j))) [(.ar .u16 256 (λj=>(Ba dk) (i*256+j)):D)=(.ar .u16 256 (λj=>(Ba dk) (i*256+j)))] ⟨rfl,aa⟩),(1,AS (kK (λj=>(Ba dk) (i*256+j))))] [] 1 V λV=>Sd (!(Lx (λj=>(Ba dk) (i*256+j)))) V (λh3=> ?_) (λh3=> ?_))
   ·exact Aj [] 1 V λV=>AY (AN (Ao (Ao (AN (Ao (Ec rfl (.inr rfl) V [vi 2] [] (by show weak _ (vi ((FF dk:Nat):Int))=vi ((FF dk:Nat):Int);unfold FF;rw[ah Ac,aj (by rw[Zr Ac (xM h3)];decide)];rfl) aa))))))
   ·exact FN (Aw [(0,Cu i)] [10] 1 V λV=>Ae (As Y V (i+1) [] ⟨Ac,(Br pm (xL A_)),aa⟩))
  ·have hT:=V
   obtain rfl:3=i:=by omega
   have V:=hT
   refine JH (Ar ?_)
   by_cases h4:((chk ((dk.take 2336).drop 1152):Nat):Int)=0
   ·refine Aw [(1,tH 1152 2336 dk.length),(2,AS (NL ((dk.take 2336).drop 1152))),(3,Ha h4),(6,tH 1152 2336 dk.length),(8,AS (K8 [(dk.take 2336).drop 1152] (by first |omega|(simp only[bd,ce,ab,aw,au,ap,av,az]<;>omega)|(simp<;>omega)))),(10,tH 2336 2368 dk.length),(11,AS (Ew (B8 [(dk.take 2336).drop 1152]) ((dk.take 2368).drop 2336)))] [] 0 V λV=>Ae (IH ((B8 [(dk.take 2336).drop 1152])=((dk.take 2368).drop 2336)) V (λh5=> ?_) (λh5=> ?_))
    ·exact Aj [] 0 V λV=>AY (Ao (Ec rfl (.inr rfl) V [vi 2] [] (by show weak _ (vi ((FF dk:Nat):Int))=vi ((FF dk:Nat):Int);unfold FF;rw[ah Ac,ah (Kf pm),ah Ac,aj h5];rfl) aa))
    ·exact Cb (Aj [] 0 V λV=>AY (Ec rfl (.inr rfl) V [vi 0] [] (by show weak _ (vi ((FF dk:Nat):Int))=vi ((FF dk:Nat):Int);unfold FF;rw[ah Ac,ah (Kf pm),ah Ac,ah h5];rfl) aa))
   ·exact Aw [(1,tH 1152 2336 dk.length),(2,AS (NL ((dk.take 2336).drop 1152))),(3,sT h4)] [] 0 V λV=>Ae (AG V (Aj [] 0 V λV=>AY (Ao (Ec rfl (.inr rfl) V [vi 2] [] (by show weak _ (vi ((FF dk:Nat):Int))=vi ((FF dk:Nat):Int);unfold FF;rw[ah Ac,ah (Kf pm),aj Ac];rfl) aa))))
@[simp] theorem HV (f:Nat->Int):(C_ f).length=1152:=by
 have key:∀i,(D4 f i).length=384*i:=by
  intro i
  induction i with
  |zero=>rfl
  |succ i ih=>
   show(Iu f i (D4 f i)).length=_
   unfold Iu
   rw[ab,HA,ih];omega
 unfold C_;rw[Ab]
 exact key 3
theorem aN {xs:Ad} (h:chk xs=0):xs.length=1184:=by
 by_cases e:xs.length=1184
 ·exact e
 ·unfold chk at h;rw[aj e]at h;exact absurd h (by decide)
theorem eA {xs:Ad} (h:FF xs=0):xs.length=2400:=by
 by_cases e:xs.length=2400
 ·exact e
 ·unfold FF at h;rw[aj e]at h;exact absurd h (by decide)
def Tf (d:Ad) (x35:Nat):(Nat->Int)->(Nat->Int):=λo11_0=>Ey o11_0 (x35*256) 256 (BM (λj=>o11_0 (x35*256+j)) (Cm (DR ((AM [d,[3]]).take 32) x35) (AF (AD ((AM [d,[3]]).drop 32) 0))))
def DX (d z:Ad):Nat->(Nat->Int)
 |0=>AF (AD ((AM [d,[3]]).drop 32) 3)
 |x35+1=>Tf d x35 (DX d z x35)
def AO (d z:Ad):Ad×Ad:=AV (([C_ (DX d z 3),(AM [d,[3]]).take 32].flatten,[C_ (AF (AD ((AM [d,[3]]).drop 32) 0)),[C_ (DX d z 3),(AM [d,[3]]).take 32].flatten,B8 [[C_ (DX d z 3),(AM [d,[3]]).take 32].flatten],z].flatten))
theorem H8 (d z:Ad) (hz:z.length=32):(AO d z).1.length=1184/\(AO d z).2.length=2400:=by
 have h1:=E9 [d,[3]]
 unfold AO;rw[Ab]
 simp only[bd,ce,ab,au,HV,L3,ap,h1,hz]
 exact⟨by omega,by omega⟩
section
variable (d z:Ad)
def AaX (z_:Ad×Ad:=AO d z):Con:=⟨[lb d,lb z],[],.tu (Jg [lb (z_.1),.sk 0,vi 0]),[(0,.sl 5 Bg (z_.2))]⟩
theorem Ur (hd:d.length=32) (hz:z.length=32):AP 115 (AaX d z):=by
 refine cy 0 func115 rfl ntmps115 λY V=> ?_
 have Bj:d.length<=9223372036854775807:=V.len 0 rfl
 have BJ:z.length<=9223372036854775807:=V.len 1 rfl
 have hd1:((d.length:Nat):Int)=32:=Ac
 have hz1:((z.length:Nat):Int)=32:=Ac
 refine Aj [] 0 V λV=>Ar (Ay [(2,Ha hd1),(6,Ha hz1)] [] 0 V λV=>Ai V (Cb (Ay [(3,AS (K7 [d,[3]] (by first |omega|(simp only[bd,ce,ab,aw,au,ap,av,az]<;>omega)|(simp<;>omega))))] [] 0 V λV=>Ar ?_)))
 have hl:=E9 [d,[3]]
 refine Aw [(1,fE 32 (AM [d,[3]]).length),(3,ON 32 (AM [d,[3]]).length)] [] 0 V λV=>Ae (Ay [(1,AS (Lg ((AM [d,[3]]).drop 32) 0 Ax Ac)),(2,J0 (KH (AD ((AM [d,[3]]).drop 32) 0)) [] [] [.ar .u16 768 (AD ((AM [d,[3]]).drop 32) 0),.v (.func (.func 150) #[] #[])] [])] [10] 1 V λV=>Ay [(1,AS (Lg ((AM [d,[3]]).drop 32) 3 Ax Ac)),(2,J0 (KH (AD ((AM [d,[3]]).drop 32) 3)) [] [] [.ar .u16 768 (AD ((AM [d,[3]]).drop 32) 3),.v (.func (.func 150) #[] #[])] [])] [11] 2 V λV=>Ar (Aj [] 2 V λV=>BC (AC (ι:=Nat×(Nat->Int)) Y V (λ(x35,o11_0)=>(3-x35,[(35,vi ((x35:Nat):Int))],[(1,xU o11_0)],(x35<=3)/\(o11_0=DX d z x35)/\True)) [1,4,5,6,8,10,11] [0] 2 (0,AF (AD ((AM [d,[3]]).drop 32) 3)) [(0,0),(1,1)] ⟨Ac,rfl,aa⟩ ?_)))
 rintro⟨x35,o11_0⟩ ac gs ws ⟨hx35,hq1,_⟩ V
 refine Aj [] 2 V λV=>Ar (AJ ((x35:Int)<3) V (λh1=> ?_) (λh1=> ?_))
 ·exact B3 (Aj [] 2 V λV=>Aw [(2,AH x35 3),(3,Ik (.ar .u16 256 (λj=>o11_0 (x35*256+j))) [(.ar .u16 256 (λj=>o11_0 (x35*256+j)):D)=(.ar .u16 256 (λj=>o11_0 (x35*256+j)))] ⟨rfl,aa⟩),(6,AS (Pk ((AM [d,[3]]).take 32) x35 Ax Ac)),(7,Ik (.ar .u16 768 (AF (AD ((AM [d,[3]]).drop 32) 0))) [(.ar .u16 768 (AF (AD ((AM [d,[3]]).drop 32) 0)):D)=(.ar .u16 768 (AF (AD ((AM [d,[3]]).drop 32) 0)))] ⟨rfl,aa⟩),(8,J0 (UI (DR ((AM [d,[3]]).take 32) x35) (AF (AD ((AM [d,[3]]).drop 32) 0))) [] [] [.ar .u16 768 (DR ((AM [d,[3]]).take 32) x35),.ar .u16 768 (AF (AD ((AM [d,[3]]).drop 32) 0))] []),(9,J0 (JP (λj=>o11_0 (x35*256+j)) (Cm (DR ((AM [d,[3]]).take 32) x35) (AF (AD ((AM [d,[3]]).drop 32) 0)))) [] [] [.ar .u16 256 (λj=>o11_0 (x35*256+j)),.ar .u16 256 (Cm (DR ((AM [d,[3]]).take 32) x35) (AF (AD ((AM [d,[3]]).drop 32) 0)))] []),(10,AH x35 3)] [] 2 V λV=>Ck (Aw [(0,Cu x35)] [35] 2 V λV=>Ae (As Y V (x35+1,Ey o11_0 (x35*256) 256 (BM (λj=>o11_0 (x35*256+j)) (Cm (DR ((AM [d,[3]]).take 32) x35) (AF (AD ((AM [d,[3]]).drop 32) 0))))) [(0,0),(1,1)] ⟨Ac,(Bm (st:=Tf _) hq1 rfl rfl),aa⟩)))
 ·have hT:=V
  obtain rfl:3=x35:=by omega
  obtain rfl:=hq1.symm
  have V:=hT
  refine JH ?_
  have hb:=HV (DX d z 3)
  refine Aw [(0,Ik (.ar .u16 768 (DX d z 3)) [(.ar .u16 768 (DX d z 3):D)=(.ar .u16 768 (DX d z 3))] ⟨rfl,aa⟩),(1,AS (S3 (DX d z 3))),(4,AA (RJ [C_ (DX d z 3),(AM [d,[3]]).take 32] (by first |omega|(simp only[bd,ce,ab,aw,au,ap,av,az]<;>omega)|(simp<;>omega))) [] [(0,2)])] [] 3 V λV=>CQ ?_
  have hb2:=HV (AF (AD ((AM [d,[3]]).drop 32) 0))
  obtain⟨gs,V⟩:=V.fz 2
  refine Aw [(1,Ik (.ar .u16 768 (AF (AD ((AM [d,[3]]).drop 32) 0))) [(.ar .u16 768 (AF (AD ((AM [d,[3]]).drop 32) 0)):D)=(.ar .u16 768 (AF (AD ((AM [d,[3]]).drop 32) 0)))] ⟨rfl,aa⟩),(2,AS (S3 (AF (AD ((AM [d,[3]]).drop 32) 0)))),(6,AS (K8 [[C_ (DX d z 3),(AM [d,[3]]).take 32].flatten] (by first |omega|(simp only[bd,ce,ab,aw,au,ap,av,az]<;>omega)|(simp<;>omega)))),(9,AA (RJ [C_ (AF (AD ((AM [d,[3]]).drop 32) 0)),[C_ (DX d z 3),(AM [d,[3]]).take 32].flatten,B8 [[C_ (DX d z 3),(AM [d,[3]]).take 32].flatten],z] (by first |omega|(simp only[bd,ce,ab,aw,au,ap,av,az]<;>omega)|(simp<;>omega))) [] [(0,3)])] [4] 4 V λV=>EY ?_
  obtain⟨gs,V⟩:=V.rx [(0,3)] [4,5,6] [0] 1 Y
  exact BV (Ab _) V
end
def Hw (ek r:Ad) (x31:Nat):Ad->Ad:=λx6=>x6++(C3 (C0 (BM (λj=>(AD r 3) (x31*256+j)) (A2 (Cm (Bo (ek.drop 1152) x31) (AF (AD r 0))))) 10) 10)
def GI (ek r:Ad):Nat->Ad
 |0=>[]
 |x31+1=>Hw ek r x31 (GI ek r x31)
def ET (ek m r:Ad):Ad:=AV ((GI ek r 3)++(C3 (C0 (BM (BM (A2 (Cm (Ba ek) (AF (AD r 0)))) (Ea r 6)) (CU (CH 1 m) 1)) 4) 4))
@[simp] theorem WP (ek m r:Ad):(ET ek m r).length=1088:=by
 have key:∀i,(GI ek r i).length=320*i:=by
  intro i
  induction i with
  |zero=>rfl
  |succ i ih=>
   show(Hw ek r i (GI ek r i)).length=_
   unfold Hw
   rw[ab,Dj,ih];omega
 unfold ET;rw[Ab]
 rw[ab,Dj,key]
section
variable (ek m:Ad)
def eQ (r:Ad) (z_:Ad:=ET ek m r):Con:=⟨[lb ek,lb m,lb r],[],.sk 0,[(0,.sl 5 Bg z_)]⟩
theorem Mq (r:Ad) (he:ek.length=1184) (hm:m.length=32) (hr:r.length=32):AP 170 (eQ ek m r):=by
 refine cy 0 func170 rfl ntmps170 λY V=> ?_
 have Bj:ek.length<=9223372036854775807:=V.len 0 rfl
 have BJ:m.length<=9223372036854775807:=V.len 1 rfl
 have Cl:r.length<=9223372036854775807:=V.len 2 rfl
 refine Aj [] 0 V λV=>Ay [(1,AS (M5 ek Ax)),(3,ON 1152 ek.length)] [7] 1 V λV=>Ay [(1,AS (Lg r 0 Ax Ac)),(2,J0 (KH (AD r 0)) [] [] [.ar .u16 768 (AD r 0),.v (.func (.func 150) #[] #[])] [])] [9] 2 V λV=>Ay [(1,AS (Lg r 3 Ax Ac))] [10] 3 V λV=>Ar (Aj [] 3 V λV=>BC ?_)
 obtain⟨gs,V⟩:=V.nilk 6 5 Bg
 refine AC (ι:=Nat×Ad) Y V (λ(x31,x6)=>(3-x31,[(31,vi ((x31:Nat):Int))],[(3,.sl 5 Bg x6)],(x31<=3)/\(x6=GI ek r x31)/\(x6.length=320*x31)/\True)) [1,2,6,7,8,9,30] [0,1] 4 (0,[]) [(0,0),(1,1),(3,3)] ⟨Ac,rfl,rfl,aa⟩ ?_
 rintro⟨x31,x6⟩ ac gs ws ⟨hx31,hq1,p1,_⟩ V
 refine Aj [] 4 V λV=>Ar (AJ ((x31:Int)<3) V (λh1=> ?_) (λh1=> ?_))
 ·refine B3 (Ay [(1,AH x31 3)] [12] 5 V λV=>Ay [(0,Ik (.ar .u16 256 (λj=>(AD r 3) (x31*256+j))) [(.ar .u16 256 (λj=>(AD r 3) (x31*256+j)):D)=(.ar .u16 256 (λj=>(AD r 3) (x31*256+j)))] ⟨rfl,aa⟩),(3,AS (Rf (ek.drop 1152) x31 Ax Ac)),(4,Ik (.ar .u16 768 (AF (AD r 0))) [(.ar .u16 768 (AF (AD r 0)):D)=(.ar .u16 768 (AF (AD r 0)))] ⟨rfl,aa⟩),(5,J0 (UI (Bo (ek.drop 1152) x31) (AF (AD r 0))) [] [] [.ar .u16 768 (Bo (ek.drop 1152) x31),.ar .u16 768 (AF (AD r 0))] []),(6,AS (Ma (Cm (Bo (ek.drop 1152) x31) (AF (AD r 0))))),(7,J0 (JP (λj=>(AD r 3) (x31*256+j)) (A2 (Cm (Bo (ek.drop 1152) x31) (AF (AD r 0))))) [] [] [.ar .u16 256 (λj=>(AD r 3) (x31*256+j)),.ar .u16 256 (A2 (Cm (Bo (ek.drop 1152) x31) (AF (AD r 0))))] [])] [] 5 V λV=>Ay [(0,Ik (.ar .u16 256 (BM (λj=>(AD r 3) (x31*256+j)) (A2 (Cm (Bo (ek.drop 1152) x31) (AF (AD r 0)))))) [(.ar .u16 256 (BM (λj=>(AD r 3) (x31*256+j)) (A2 (Cm (Bo (ek.drop 1152) x31) (AF (AD r 0))))):D)=(.ar .u16 256 (BM (λj=>(AD r 3) (x31*256+j)) (A2 (Cm (Bo (ek.drop 1152) x31) (AF (AD r 0))))))] ⟨rfl,aa⟩),(1,J0 (IA (BM (λj=>(AD r 3) (x31*256+j)) (A2 (Cm (Bo (ek.drop 1152) x31) (AF (AD r 0))))) 10 Ac) [] [] [.ar .u16 256 (BM (λj=>(AD r 3) (x31*256+j)) (A2 (Cm (Bo (ek.drop 1152) x31) (AF (AD r 0))))),vi 10] [])] [] 5 V λV=>Ay [(0,Ik (.ar .u16 256 (C0 (BM (λj=>(AD r 3) (x31*256+j)) (A2 (Cm (Bo (ek.drop 1152) x31) (AF (AD r 0))))) 10)) [(.ar .u16 256 (C0 (BM (λj=>(AD r 3) (x31*256+j)) (A2 (Cm (Bo (ek.drop 1152) x31) (AF (AD r 0))))) 10):D)=(.ar .u16 256 (C0 (BM (λj=>(AD r 3) (x31*256+j)) (A2 (Cm (Bo (ek.drop 1152) x31) (AF (AD r 0))))) 10))] ⟨rfl,aa⟩),(1,J0 (Im (C0 (BM (λj=>(AD r 3) (x31*256+j)) (A2 (Cm (Bo (ek.drop 1152) x31) (AF (AD r 0))))) 10) 10 Ac) [] [(0,5)] [.ar .u16 256 (C0 (BM (λj=>(AD r 3) (x31*256+j)) (A2 (Cm (Bo (ek.drop 1152) x31) (AF (AD r 0))))) 10),vi 10] [])] [] 6 V λV=> ?_)
  have hl:(C3 (C0 (BM (λj=>(AD r 3) (x31*256+j)) (A2 (Cm (Bo (ek.drop 1152) x31) (AF (AD r 0))))) 10) 10).length=320:=Dj _ _
  exact Aw [(2,Gt x6.length ((C3 (C0 (BM (λj=>(AD r 3) (x31*256+j)) (A2 (Cm (Bo (ek.drop 1152) x31) (AF (AD r 0))))) 10) 10).length) 1 Ac)] [6] 7 V λV=>Ck (Aw [(0,Cu x31)] [31] 7 V λV=>Ae (As Y V (x31+1,x6++(C3 (C0 (BM (λj=>(AD r 3) (x31*256+j)) (A2 (Cm (Bo (ek.drop 1152) x31) (AF (AD r 0))))) 10) 10)) [(0,0),(1,1),(3,6)] ⟨Ac,(Bm (st:=Hw _ _) hq1 rfl rfl),(by rw[ab,hl];omega),aa⟩))
 ·have hT:=V
  obtain rfl:3=x31:=by omega
  obtain rfl:=hq1.symm
  have V:=hT
  refine Dw (Ay [(1,AS (GM 1 m Ac (by first |omega|(simp only[ab,av,ap,aw,au];omega)))),(2,J0 (Hy (CH 1 m) 1 Ac) [] [] [.ar .u16 256 (CH 1 m),vi 1] [])] [15] 5 V λV=>Ay [(0,Ik (.ar .u16 768 (Ba ek)) [(.ar .u16 768 (Ba ek):D)=(.ar .u16 768 (Ba ek))] ⟨rfl,aa⟩),(1,Ik (.ar .u16 768 (AF (AD r 0))) [(.ar .u16 768 (AF (AD r 0)):D)=(.ar .u16 768 (AF (AD r 0)))] ⟨rfl,aa⟩),(2,J0 (UI (Ba ek) (AF (AD r 0))) [] [] [.ar .u16 768 (Ba ek),.ar .u16 768 (AF (AD r 0))] []),(3,AS (Ma (Cm (Ba ek) (AF (AD r 0))))),(5,AS (Wl r 6 Ax)),(6,J0 (JP (A2 (Cm (Ba ek) (AF (AD r 0)))) (Ea r 6)) [] [] [.ar .u16 256 (A2 (Cm (Ba ek) (AF (AD r 0)))),.ar .u16 256 (Ea r 6)] []),(7,Ik (.ar .u16 256 (CU (CH 1 m) 1)) [(.ar .u16 256 (CU (CH 1 m) 1):D)=(.ar .u16 256 (CU (CH 1 m) 1))] ⟨rfl,aa⟩),(8,J0 (JP (BM (A2 (Cm (Ba ek) (AF (AD r 0)))) (Ea r 6)) (CU (CH 1 m) 1)) [] [] [.ar .u16 256 (BM (A2 (Cm (Ba ek) (AF (AD r 0)))) (Ea r 6)),.ar .u16 256 (CU (CH 1 m) 1)] []),(9,J0 (IA (BM (BM (A2 (Cm (Ba ek) (AF (AD r 0)))) (Ea r 6)) (CU (CH 1 m) 1)) 4 Ac) [] [] [.ar .u16 256 (BM (BM (A2 (Cm (Ba ek) (AF (AD r 0)))) (Ea r 6)) (CU (CH 1 m) 1)),vi 4] [])] [17] 6 V λV=>Ay [(0,Ik (.ar .u16 256 (C0 (BM (BM (A2 (Cm (Ba ek) (AF (AD r 0)))) (Ea r 6)) (CU (CH 1 m) 1)) 4)) [(.ar .u16 256 (C0 (BM (BM (A2 (Cm (Ba ek) (AF (AD r 0)))) (Ea r 6)) (CU (CH 1 m) 1)) 4):D)=(.ar .u16 256 (C0 (BM (BM (A2 (Cm (Ba ek) (AF (AD r 0)))) (Ea r 6)) (CU (CH 1 m) 1)) 4))] ⟨rfl,aa⟩),(1,J0 (Im (C0 (BM (BM (A2 (Cm (Ba ek) (AF (AD r 0)))) (Ea r 6)) (CU (CH 1 m) 1)) 4) 4 Ac) [] [(0,6)] [.ar .u16 256 (C0 (BM (BM (A2 (Cm (Ba ek) (AF (AD r 0)))) (Ea r 6)) (CU (CH 1 m) 1)) 4),vi 4] [])] [] 7 V λV=>Ar ?_)
  have hl4:(C3 (C0 (BM (BM (A2 (Cm (Ba ek) (AF (AD r 0)))) (Ea r 6)) (CU (CH 1 m) 1)) 4) 4).length=128:=Dj _ _
  refine Aw [(2,Gt ((GI ek r 3).length) ((C3 (C0 (BM (BM (A2 (Cm (Ba ek) (AF (AD r 0)))) (Ea r 6)) (CU (CH 1 m) 1)) 4) 4).length) 1 Ac)] [6] 8 V λV=>EY ?_
  obtain⟨gs,V⟩:=V.rx [(0,7)] [6] [0] 1 Y
  exact BV (Ab _) V
def nE:Ad×Ad×Nat:=AV (if((chk ek:Nat):Int)=0 then(if((m.length:Nat):Int)=32 then((AM [m,B8 [ek]]).take 32,ET ek m ((AM [m,B8 [ek]]).drop 32),0)else([],[],1))else([],[],(chk ek)))
def pH (z_:Ad×Ad×Nat:=nE ek m):Con:=⟨[lb ek,lb m],[],.tu (Jg [lb (z_.1),.sk 0,vi ((z_.2.2:Nat):Int)]),[(0,.sl 5 Bg (z_.2.1))]⟩
theorem Abr:AP 144 (pH ek m):=by
 refine cy 0 func144 rfl ntmps144 λY V=> ?_
 have Bj:ek.length<=9223372036854775807:=V.len 0 rfl
 have BJ:m.length<=9223372036854775807:=V.len 1 rfl
 refine Aj [] 0 V λV=>Ar (Ay [(1,AS (NL ek))] [] 0 V λV=>Aj [] 0 V λV=>IH (((chk ek:Nat):Int)=0) V (λh1=> ?_) (λh1=> ?_))
 ·refine Aj [] 0 V λV=>AY (Ao ?_)
  obtain⟨gs,V⟩:=V.nilk 5 5 Bg
  have V:=V.wk 4 (lb [])
  exact BV (.trans (Ab _) (aj h1)) V
 ·refine DG (Aj [] 0 V λV=>IH (((m.length:Nat):Int)=32) V (λh2=> ?_) (λh2=> ?_))
  ·refine Aj [] 0 V λV=>AY (Ao ?_)
   obtain⟨gs,V⟩:=V.nilk 5 5 Bg
   have V:=V.wk 4 (lb [])
   exact BV (.trans (Ab _) ((ah h1).trans (aj h2))) V
  ·refine DG ?_
   have hc:=aN (xs:=ek) Ac
   have hs:=L3 [ek]
   refine Aw [(3,AS (K8 [ek] (by first |omega|(simp only[bd,ce,ab,aw,au,ap,av,az]<;>omega)|(simp<;>omega)))),(5,AS (K7 [m,B8 [ek]] (by first |omega|(simp only[bd,ce,ab,aw,au,ap,av,az]<;>omega)|(simp<;>omega))))] [] 0 V λV=>CQ ?_
   have hl:=E9 [m,B8 [ek]]
   exact Aw [(1,P8 (FU none (some 32) (some 32) (AM [m,B8 [ek]]).length (AM [m,B8 [ek]]).length) ⟨by simp only[GE]<;>omega,by simp only[GE]<;>omega,by simp only[GE]<;>omega,by simp,by simp only[bl]<;>omega,by simp only[bl]<;>omega,by simp only[bl]<;>omega⟩),(5,ON 32 (AM [m,B8 [ek]]).length),(6,AA (Mq ek m ((AM [m,B8 [ek]]).drop 32) Ax Ax Ax) [] [(0,0)])] [] 1 V λV=>EY (BV (.trans (Ab _) ((ah h1).trans (ah h2))) V)
def EV:Ad×Ad:=AV (((AM [m,B8 [ek]]).take 32,ET ek m ((AM [m,B8 [ek]]).drop 32)))
def eT (z_:Ad×Ad:=EV ek m):Con:=⟨[lb ek,lb m],[],.tu (Jg [lb (z_.1),.sk 0,vi 0]),[(0,.sl 5 Bg (z_.2))]⟩
theorem Yl (hk:chk ek=0) (hm:m.length=32):AP 144 (eT ek m):=by
 refine cy 0 func144 rfl ntmps144 λY V=> ?_
 have Bj:ek.length<=9223372036854775807:=V.len 0 rfl
 have BJ:m.length<=9223372036854775807:=V.len 1 rfl
 have hk1:((chk ek:Nat):Int)=0:=Ac
 have hm1:((m.length:Nat):Int)=32:=Ac
 refine Aj [] 0 V λV=>Ar (Ay [(1,AS (NL ek))] [] 0 V λV=>Ay [(1,Ha hk1)] [] 0 V λV=>Ai V (DG (Ay [(2,Ha hm1)] [] 0 V λV=>Ai V (DG ?_))))
 have hc:=aN (xs:=ek) Ac
 have hs:=L3 [ek]
 refine Aw [(3,AS (K8 [ek] (by first |omega|(simp only[bd,ce,ab,aw,au,ap,av,az]<;>omega)|(simp<;>omega)))),(5,AS (K7 [m,B8 [ek]] (by first |omega|(simp only[bd,ce,ab,aw,au,ap,av,az]<;>omega)|(simp<;>omega))))] [] 0 V λV=>CQ ?_
 have hl:=E9 [m,B8 [ek]]
 exact Aw [(1,P8 (FU none (some 32) (some 32) (AM [m,B8 [ek]]).length (AM [m,B8 [ek]]).length) ⟨by simp only[GE]<;>omega,by simp only[GE]<;>omega,by simp only[GE]<;>omega,by simp,by simp only[bl]<;>omega,by simp only[bl]<;>omega,by simp only[bl]<;>omega⟩),(5,ON 32 (AM [m,B8 [ek]]).length),(6,AA (Mq ek m ((AM [m,B8 [ek]]).drop 32) Ax Ax Ax) [] [(0,0)])] [] 1 V λV=>EY (BV (Ab _) V)
end
end
end Go.Sx.Tryz
namespace Go.Sx
open Go.Mi Go.RowKit
theorem Gw (x:Int):IntKind.wrap .u16 x=x%65536:=by
 simp [IntKind.wrap,IntKind.bits,IntKind.signed]
theorem j7 {a:Int} (ha:0<=a/\a<256):(BitVec.ofInt 8 a).toNat=a.toNat:=by rw[eS];omega
theorem j8 {a:Int} (ha:0<=a/\a<65536):(BitVec.ofInt 16 a).toNat=a.toNat:=by rw[eS];omega
theorem Adp {a b:Int} (ha:0<=a/\a<256) (hb:0<=b/\b<256):Em .u8 a b=((a.toNat|||b.toNat:Nat):Int):=by
 have h:a.toNat|||b.toNat<2^8:=gw (by omega) (by omega)
 unfold Em
 rw[Gb]
 show(((BitVec.ofInt 8 a|||BitVec.ofInt 8 b).toNat:Nat):Int)%256=_
 rw[BitVec.toNat_or,j7 ha,j7 hb]
 omega
theorem Ac2 {a b:Int} (ha:0<=a/\a<65536) (hb:0<=b/\b<65536):Em .u16 a b=((a.toNat|||b.toNat:Nat):Int):=by
 have h:a.toNat|||b.toNat<2^16:=gw (by omega) (by omega)
 unfold Em
 rw[Gw]
 show(((BitVec.ofInt 16 a|||BitVec.ofInt 16 b).toNat:Nat):Int)%65536=_
 rw[BitVec.toNat_or,j8 ha,j8 hb]
 omega
theorem Rt {a:Int} (ha:0<=a) (n:Nat):a.fdiv (2^n)=((a.toNat>>>n:Nat):Int):=by
 obtain⟨m,rfl⟩:=cd ha
 rw[Int.fdiv_eq_ediv_of_nonneg _ (Int.pow_nonneg (by decide)),show(2:Int)^n=((2^n:Nat):Int) by simp,ef]
 rfl
theorem AbA {a:Int} (ha:0<=a) {n:Nat} (hn:n<=8):Bh .u8 a ((n:Nat):Int)=((a.toNat>>>n:Nat):Int):=by
 unfold Bh
 rw[show min ((n:Nat):Int).toNat (IntKind.bits .u8)=n by simp [IntKind.bits];omega,Rt ha]
theorem AbC {a:Int} (ha:0<=a) {n:Nat} (hn:n<=16):Bh .u16 a ((n:Nat):Int)=((a.toNat>>>n:Nat):Int):=by
 unfold Bh
 rw[show min ((n:Nat):Int).toNat (IntKind.bits .u16)=n by simp [IntKind.bits];omega,Rt ha]
theorem pW (x n:Nat):x>>>n%2=(x.testBit n).toNat:=by
 rw[Nat.testBit_eq_decide_div_mod_eq,ef]
 rcases Nat.mod_two_eq_zero_or_one (x/2^n)with h|h<;>simp [h]
theorem Acj {x:Int} (hx:0<=x/\x<65536) {k:Nat} (hk:k<=16):Bz .u16 (Bh .u16 x ((k:Nat):Int)) 1=((x.toNat.testBit k).toNat:Int):=by
 rw[AbC hx.1 hk]
 have h1:x.toNat>>>k<=x.toNat:=by rw[ef];exact Nat.div_le_self _ _
 have h9:(0:Int)<=((x.toNat>>>k:Nat):Int)/\((x.toNat>>>k:Nat):Int)<65536:=by
  generalize x.toNat>>>k=y at h1⊢
  omega
 unfold Bz
 rw[Gw]
 show(((BitVec.ofInt 16 _&&&BitVec.ofInt 16 1).toNat:Nat):Int)%65536=_
 rw[BitVec.toNat_and,j8 h9,show(BitVec.ofInt 16 1).toNat=1 from rfl,Nat.and_one_is_mod,bc,pW]
 cases x.toNat.testBit k<;>rfl
theorem Adl {x:Int} (hx:0<=x/\x<256) {k:Nat} (hk:k<=8):Bz .u8 (Bh .u8 x ((k:Nat):Int)) 1=((x.toNat.testBit k).toNat:Int):=by
 rw[AbA hx.1 hk]
 have h1:x.toNat>>>k<=x.toNat:=by rw[ef];exact Nat.div_le_self _ _
 have h9:(0:Int)<=((x.toNat>>>k:Nat):Int)/\((x.toNat>>>k:Nat):Int)<256:=by
  generalize x.toNat>>>k=y at h1⊢
  omega
 unfold Bz
 rw[Gb]
 show(((BitVec.ofInt 8 _&&&BitVec.ofInt 8 1).toNat:Nat):Int)%256=_
 rw[BitVec.toNat_and,j7 h9,show(BitVec.ofInt 8 1).toNat=1 from rfl,Nat.and_one_is_mod,bc,pW]
 cases x.toNat.testBit k<;>rfl
theorem TD {a b:Nat} (h:a<b):2^a*2<=2^b:=by
 rw[<-Nat.pow_succ];exact gy (by decide) h
theorem Add (b:Bool) {s:Nat} (hs:s<8):BX .u8 (IntKind.wrap .u8 ((b.toNat:Nat):Int)) ((s:Nat):Int)=((b.toNat*2^s:Nat):Int):=by
 have h2:=TD hs
 unfold BX
 rw[Gb,Gb,show min ((s:Nat):Int).toNat (IntKind.bits .u8)=s by simp [IntKind.bits];omega]
 cases b
 ·simp
 ·have e:((2^s:Nat):Int)=(2:Int)^s:=by simp
  simp only[Bool.toNat_true,fu]
  rw[e]
  have :(2:Int)^s<256:=by rw[<-e];omega
  have :(0:Int)<=2^s:=by rw[<-e];omega
  omega
theorem AbD (b:Bool) {s:Nat} (hs:s<16):BX .u16 (IntKind.wrap .u16 ((b.toNat:Nat):Int)) ((s:Nat):Int)=((b.toNat*2^s:Nat):Int):=by
 have h2:=TD hs
 unfold BX
 rw[Gw,Gw,show min ((s:Nat):Int).toNat (IntKind.bits .u16)=s by simp [IntKind.bits];omega]
 cases b
 ·simp
 ·have e:((2^s:Nat):Int)=(2:Int)^s:=by simp
  simp only[Bool.toNat_true,fu]
  rw[e]
  have :(2:Int)^s<65536:=by rw[<-e];omega
  have :(0:Int)<=2^s:=by rw[<-e];omega
  omega
theorem gQ (b:Bool) (s i:Nat):(b.toNat*2^s).testBit i=(b&&decide (i=s)):=by
 cases b
 ·simp
 ·simp only[Bool.toNat_true,fu,iq,Nat.testBit_two_pow]
  by_cases h:s=i
  ·simp [h]
  ·rw[decide_eq_false h,decide_eq_false λe=>h e.symm]
def By (o:Ad):Prop:=∀x∈o,0<=x/\x<256
theorem By.at {o:Ad} (h:By o) (i:Nat):0<=o.getD i 0/\o.getD i 0<256:=by
 rw[al]
 cases e:o[i]? with
 |none=>simp
 |some x=>exact h x (ee e)
def bt (o:Ad) (n:Nat):Bool:=(o.getD (n/8) 0).toNat.testBit (n%8)
def qI (o:Ad) (n:Nat) (v:Int):Ad:=o.set (n/8) (Em .u8 (o.getD (n/8) 0) (BX .u8 (IntKind.wrap .u8 v) ((n%8:Nat):Int)))
theorem qY (o:Ad) (n:Nat) (v:Int):(qI o n v).length=o.length:=da
theorem yD {o:Ad} (ho:By o) {n:Nat} (hn:n<8*o.length) (b:Bool):By (qI o n ((b.toNat:Nat):Int))/\∀m,bt (qI o n ((b.toNat:Nat):Int)) m=(bt o m||(b&&decide (m=n))):=by
 have hm:=di n (show 0<8 by decide)
 have h2:=TD hm
 have hv:b.toNat*2^(n%8)<256:=by cases b<;>simp<;>omega
 have hx:=ho.at (n/8)
 have e:Em .u8 (o.getD (n/8) 0) (BX .u8 (IntKind.wrap .u8 ((b.toNat:Nat):Int)) ((n%8:Nat):Int))=(((o.getD (n/8) 0).toNat|||b.toNat*2^(n%8):Nat):Int):=by
  rw[Add b hm,Adp hx ⟨by omega,by omega⟩,bc]
 have hr:(o.getD (n/8) 0).toNat|||b.toNat*2^(n%8)<2^8:=gw (by omega) (by omega)
 unfold qI
 rw[e]
 refine⟨λx hx'=> ?_,λm=> ?_⟩
 ·rcases List.mem_or_eq_of_mem_set hx' with h|h
  ·exact ho x h
  ·rw[h];omega
 ·unfold bt
  rw[al,List.getElem?_set]
  by_cases h:n/8=m/8
  ·rw[ah h,ah (by omega),el,bc,Nat.testBit_or,gQ,h]
   congr 2
   by_cases e2:m=n
   ·rw[e2,decide_eq_true rfl,decide_eq_true rfl]
   ·rw[decide_eq_false e2,decide_eq_false (by omega)]
  ·rw[aj h,<-al]
   rw[decide_eq_false (by intro e2;rw[e2]at h;exact h rfl)]
   simp
def XQ (o:Ad) (n0:Nat):Nat->Int->Int
 |0,a=>a
 |k+1,a=>Em .u16 (XQ o n0 k a) (BX .u16 (IntKind.wrap .u16 (Bz .u8 (Bh .u8 (o.getD ((n0+k)/8) 0) (((n0+k)%8:Nat):Int)) 1)) ((k:Nat):Int))
theorem jB {o:Ad} (ho:By o) (n0:Nat):∀k,k<=16->(0<=XQ o n0 k 0/\XQ o n0 k 0<65536)/\∀i,(XQ o n0 k 0).toNat.testBit i=(decide (i<k)&&bt o (n0+i))
 |0,_=>⟨by simp [XQ],λi=>by simp [XQ]⟩
 |k+1,hk=>by
  obtain⟨h1,h2⟩:=jB ho n0 k (by omega)
  have hm:=di (n0+k) (show 0<8 by decide)
  have h3:=TD (show k<16 by omega)
  have e:XQ o n0 (k+1) 0=(((XQ o n0 k 0).toNat|||(bt o (n0+k)).toNat*2^k:Nat):Int):=by
   show Em .u16 (XQ o n0 k 0) _=_
   rw[Adl (ho.at _) (by omega),AbD _ (by omega)]
   have hv:(bt o (n0+k)).toNat*2^k<65536:=by cases bt o (n0+k)<;>simp<;>omega
   show Em .u16 (XQ o n0 k 0) (((bt o (n0+k)).toNat*2^k:Nat):Int)=_
   rw[Ac2 h1 ⟨by omega,by omega⟩,bc]
  have hv:(bt o (n0+k)).toNat*2^k<65536:=by cases bt o (n0+k)<;>simp<;>omega
  have hr:(XQ o n0 k 0).toNat|||(bt o (n0+k)).toNat*2^k<2^16:=gw (by omega) (by omega)
  rw[e]
  refine⟨by omega,λi=> ?_⟩
  rw[bc,Nat.testBit_or,h2,gQ]
  by_cases hi:i=k
  ·subst hi
   rw[decide_eq_false (gq _),decide_eq_true rfl,decide_eq_true (dn _)]
   simp
  ·rw[decide_eq_false hi]
   by_cases h4:i<k
   ·rw[decide_eq_true h4,decide_eq_true (by omega)];simp
   ·rw[decide_eq_false h4,decide_eq_false (by omega)];simp
end Go.Sx
namespace Go.Sx.Tryz
open Go.Mi Go.RowKit Go.Sx Go.Proofs Go.Proofs.Tryz
noncomputable section
open List (replicate)
theorem wE (r:Nat) (f:Nat->Int) (a:Nat):∀n,By (Ez r f a n).2.2
 |0=>by rw[<-cI];intro x hx;cases hx
 |n+1=>by
  have ih:=wE r f a n
  rw[SZ]
  generalize Ez r f a n=q at ih
  obtain⟨g,b,o⟩:=q
  simp only at ih⊢
  have hw:∀z:Int,0<=IntKind.wrap .u8 z/\IntKind.wrap .u8 z<256:=λz=>by rw[Gb];omega
  split
  ·intro x hx
   rcases bo.1 hx with h|h
   ·exact ih x h
   ·rw[bn.1 h];exact hw _
  ·intro x hx
   rcases bo.1 hx with h|h
   ·exact ih x h
   ·rw[bn.1 h];exact hw _
theorem bQ (l:AZ):By (AM l):=by unfold AM;rw[Ab];exact wE _ _ _ _
def xr (f:Nat->Int) (i:Nat):Nat:=(Eb (f i) 3329).toNat
theorem Y5 {x:Int} (h:0<=x):0<=Eb x 3329/\Eb x 3329<3329:=by rw[lG h];omega
def Wr (f:Nat->Int) (o:Ad) (m:Nat):Prop:=By o/\o.length=384/\∀n,bt o n=(decide (n<m)&&(xr f (n/12)).testBit (n%12))
theorem Ach {f:Nat->Int} (hf:∀i,i<256->0<=f i) {o:Ad} {i k:Nat} (hi:i<256) (hk:k<12) (h:Wr f o (i*12+k)) (x6:Ad):Wr f (EU f i x6 k o) (i*12+k+1):=by
 obtain⟨h1,h2,h3⟩:=h
 have hx:=Y5 (hf i hi)
 have e:EU f i x6 k o=qI o (i*12+k) (((xr f i).testBit k).toNat:Nat):=by
  show qI o (i*12+k) (Bz .u16 (Bh .u16 (Eb (f i) 3329) (k:Int)) 1)=_
  rw[Acj ⟨hx.1,by omega⟩ Ac]
  rfl
 rw[e]
 obtain⟨k1,k2⟩:=yD h1 (n:=i*12+k) (by rw[h2];omega) ((xr f i).testBit k)
 refine⟨k1,by rw[qY,h2],λn=> ?_⟩
 rw[k2,h3]
 by_cases hn:n=i*12+k
 ·subst hn
  rw[decide_eq_false (gq _),decide_eq_true rfl,decide_eq_true (dn _),show(i*12+k)/12=i by omega,show(i*12+k)%12=k by omega]
  simp
 ·rw[decide_eq_false hn,ei,Bool.or_false]
  by_cases h4:n<i*12+k
  ·rw[decide_eq_true h4,decide_eq_true Ac]
  ·rw[decide_eq_false h4,decide_eq_false Ac]
theorem xC {f:Nat->Int} (hf:∀i,i<256->0<=f i) {o:Ad} {i:Nat} (hi:i<256) (h:Wr f o (i*12)):∀k,k<=12->Wr f (Fe f i o k) (i*12+k)
 |0,_=>h
 |k+1,hk=>Ach hf hi Ac (xC hf hi h k Ac) o
theorem xD {f:Nat->Int} (hf:∀i,i<256->0<=f i):∀i,i<=256->Wr f (F7 f i) (i*12)
 |0,_=>by
  refine⟨λx hx=> ?_,az,λn=> ?_⟩
  ·have :x=0:=List.eq_of_mem_replicate hx
   omega
  ·have e : (F7 f 0).getD (n / 8) 0 = 0 := by
    show(replicate 384 (0:Int)).getD (n/8) 0=0
    rw[al,List.getElem?_replicate]
    split<;>rfl
   unfold bt
   rw[e]
   simp
 |i+1,hi=>by
  have :=xC hf (i:=i) Ac (xD hf i Ac) 12 (an _)
  rw[show(i+1)*12=i*12+12 by omega]
  exact this
theorem nF {f:Nat->Int} (hf:∀i,i<256->0<=f i):By (CZ f)/\∀n,n<3072->bt (CZ f) n=(xr f (n/12)).testBit (n%12):=by
 unfold CZ;rw[Ab]
 obtain⟨h1,_,h3⟩:=xD hf 256 (an _)
 exact⟨h1,λn hn=>by
  have :=h3 n
  rw[decide_eq_true hn,iq]at this
  exact this⟩
theorem v7 (xs:Ad) (i:Nat) (g:Nat->Int):∀k j,EA xs i g k j=if j=i then XQ xs (i*12) k (g i)else g j
 |0,j=>by
  show g j=_
  by_cases h:j=i
  ·rw[ah h,h];rfl
  ·rw[aj h]
 |k+1,j=>by
  have ih:=v7 xs i g k
  show upd (EA xs i g k) i _ j=_
  unfold upd
  by_cases h:j=i
  ·rw[ah h,ah h]
   show Em .u16 (EA xs i g k i) _=Em .u16 (XQ xs (i*12) k (g i)) _
   rw[ih i,ah rfl]
  ·rw[aj h,aj h,ih j,aj h]
theorem v8 (xs:Ad):∀n j,FX xs n j=if j<n then XQ xs (j*12) 12 0 else 0
 |0,j=>by rw[aj (be j)];rfl
 |n+1,j=>by
  have ih:=v8 xs n
  show EA xs n (FX xs n) 12 j=_
  rw[v7]
  by_cases h:j=n
  ·rw[ah h,h,ih n,aj (gq _),ah (dn _)]
  ·rw[aj h,ih j]
   by_cases h2:j<n
   ·rw[ah h2,ah Ac]
   ·rw[aj h2,aj Ac]
theorem xZ {f:Nat->Int} (hf:∀i,i<256->0<=f i) {xs:Ad} (hx:By xs) (h:∀n,n<384->xs.getD n 0=(CZ f).getD n 0) {j:Nat} (hj:j<256):E8 xs j=(xr f j:Nat):=by
 have hb:∀n,n<3072->bt xs n=(xr f (n/12)).testBit (n%12):=λn hn=>by
  rw[<-(nF hf).2 n hn]
  unfold bt
  rw[h (n/8) Ac]
 unfold E8;rw[Ab]
 show FX xs 256 j=_
 rw[v8,ah hj]
 obtain⟨h1,h2⟩:=jB hx (j*12) 12 Ac
 have hlt:xr f j<2^12:=by have :=Y5 (hf j hj);unfold xr;omega
 have e:(XQ xs (j*12) 12 0).toNat=xr f j:=by
  refine Nat.eq_of_testBit_eq λi=> ?_
  rw[h2]
  by_cases hi:i<12
  ·rw[decide_eq_true hi,iq,hb _ Ac,show(j*12+i)/12=j by omega,show(j*12+i)%12=i by omega]
  ·rw[decide_eq_false hi,dz]
   exact(Nat.testBit_lt_two_pow (b_ hlt (gy (by decide) Ac))).symm
 omega
theorem iM (xs:Ad) {i j:Nat} (hi:i<3) (hj:j<256):Ba xs (i*256+j)=E8 (xs.drop (384*i)) j:=by
 have key:∀n,i<n->Kd xs n (i*256+j)=E8 (xs.drop (384*i)) j:=by
  intro n
  induction n with
  |zero=>exact λh=>absurd h (be _)
  |succ n ih=>
   intro h
   show Ey (Kd xs n) (n*256) 256 (E8 (xs.drop (384*n))) (i*256+j)=_
   unfold Ey
   by_cases e:i=n
   ·subst e
    rw[show Nat.ble (i*256) (i*256+j)=true by rw[Nat.ble_eq];omega,show Nat.blt (i*256+j) (i*256+256)=true by rw[ay];omega]
    simp only[Bool.and_self,cond_true]
    rw[show i*256+j-i*256=j by omega]
   ·have : Nat.ble (n * 256) (i * 256 + j) = false := by
     cases hb:Nat.ble (n*256) (i*256+j)with
     |false=>rfl
     |true=>rw[Nat.ble_eq]at hb;omega
    rw[this,dz,cond_false]
    exact ih Ac
 unfold Ba;rw[Ab]
 exact key 3 hi
theorem cM (f:Nat->Int) {i n:Nat} (hi:i<3) (hn:n<384):(C_ f).getD (384*i+n) 0=(CZ λj=>f (i*256+j)).getD n 0:=by
 have key:∀m,(D4 f m).length=384*m/\(i<m->(D4 f m).getD (384*i+n) 0=(CZ λj=>f (i*256+j)).getD n 0):=by
  intro m
  induction m with
  |zero=>exact⟨rfl,λh=>absurd h (be _)⟩
  |succ m ih=>
   have e:D4 f (m+1)=D4 f m++CZ (λj=>f (m*256+j)):=rfl
   rw[e]
   refine⟨by rw[ab,ih.1,HA];omega,λh=> ?_⟩
   rw[al]
   by_cases e2:i=m
   ·subst e2
    rw[df (by rw[ih.1];omega),ih.1,<-al,show 384*i+n-384*i=n by omega]
   ·rw[dj (by rw[ih.1];omega),<-al]
    exact ih.2 Ac
 unfold C_;rw[Ab]
 exact(key 3).2 hi
theorem cL {f:Nat->Int} (hf:∀i,i<768->0<=f i):By (C_ f):=by
 have key:∀m,m<=3->By (D4 f m):=by
  intro m
  induction m with
  |zero=>exact λ_ x hx=>by cases hx
  |succ m ih=>
   intro hm x hx
   have e:D4 f (m+1)=D4 f m++CZ (λj=>f (m*256+j)):=rfl
   rw[e]at hx
   rcases bo.1 hx with h|h
   ·exact ih Ac x h
   ·exact(nF λi hi=>hf _ Ac).1 x h
 unfold C_;rw[Ab]
 exact key 3 (an _)
theorem lQ {f:Nat->Int} (hf:∀i,i<768->0<=f i) {rest:Ad} (hr:By rest):TQ (C_ f++rest)=true:=by
 refine Kf λi hi=>ZT λj hj=> ?_
 rw[iM _ hi hj]
 have hf2:∀j,j<256->0<=f (i*256+j):=λj hj=>hf _ Ac
 rw[xZ (f:=λj=>f (i*256+j)) hf2 (λx hx=> ?_) (λn hn=> ?_) hj]
 ·have :=(Y5 (hf2 j hj)).2
  unfold xr
  have :=(Y5 (hf2 j hj)).1
  simp only
  omega
 ·rcases bo.1 (cx hx)with h|h
  ·exact cL hf x h
  ·exact hr x h
 ·rw[al,dh,dj (by rw[HV];omega),<-al]
  exact cM f hi hn
theorem zO (x:Int):0<=Eu x:=by
 unfold Eu;rw[Ab];show 0<=IntKind.wrap .u16 _;rw[Gw];omega
theorem Abe (f g:Nat->Int) {j:Nat} (hj:j<256):0<=BM f g j:=by
 have key:∀n,j<n->0<=RZ f g n j:=by
  intro n
  induction n with
  |zero=>exact λh=>absurd h (be _)
  |succ n ih=>
   intro h
   show 0<=upd (RZ f g n) n (Eu _) j
   unfold upd
   split
   ·exact zO _
   ·exact ih Ac
 unfold BM;rw[Ab]
 exact key 256 hj
theorem tA (d z:Ad) {k:Nat} (hk:k<768):0<=DX d z 3 k:=by
 have key:∀n,k/256<n->0<=DX d z n k:=by
  intro n
  induction n with
  |zero=>exact λh=>absurd h (be _)
  |succ n ih=>
   intro h
   show 0<=Ey (DX d z n) (n*256) 256 (BM _ _) k
   unfold Ey
   cases hb:Nat.ble (n*256) k&&Nat.blt k (n*256+256)with
   |true=>
    rw[ao,Nat.ble_eq,ay]at hb
    exact Abe _ _ Ac
   |false=>
    rw[cond_false]
    refine ih ?_
    have h1:k/256≠n:=λe=>by
     have h2:Nat.ble (n*256) k=true:=by rw[Nat.ble_eq];omega
     have h3:Nat.blt k (n*256+256)=true:=by rw[ay];omega
     rw[h2,h3]at hb;cases hb
    omega
 exact key 3 Ac
theorem lC (d z:Ad):chk (AO d z).1=0:=by
 have hl:=E9 [d,[3]]
 have e:(AO d z).1=C_ (DX d z 3)++((AM [d,[3]]).take 32++[]):=by unfold AO;rw[Ab];rfl
 rw[e]
 refine xG ?_ (lQ (λi hi=>tA d z hi) λx hx=> ?_)
 ·rw[ab,ab,HV,ap,hl];rfl
 ·rw[ez]at hx
  exact bQ _ x (cv hx)
def C8 (x0:Ad):O:= .ob 188 (Jg [lb x0])
section
variable (xs:Ad)
theorem Ee (h:xs.length<=100000000000000):AP 81 ⟨[lb xs],[],lb xs,[]⟩:=by
 refine cy 0 func81 rfl ntmps81 λY V=>Aj [] 0 V λV=>Ii ?_
 rcases V.nilor 0 Bg xs with⟨hn1,V⟩|V
 ·subst hn1
  exact Dl [] 0 V λV=>Ae (AG V (Aj [] 0 V λV=>AY (Ao (BW V))))
 ·refine Dl [] 0 V λV=>Ae (Ai V (Cb (Ay [(0,Np),(2,Gt 0 xs.length 1)] [] 2 V λV=>AY ?_)))
  obtain⟨gs,V⟩:=V.fz 1
  exact BW V
def CJ (n:Nat):Bool:=AV (if((xs.length:Nat):Int)<(n:Int)then false else true)
def Xa (n:Nat):Con:=⟨[.cp 0 0,vi (n:Int)],[(0,C8 xs)],lb (xs.take n),[(0,C8 (xs.drop n))]⟩
theorem I0 (n:Nat) (h:xs.length<=100000000000000) (hk:CJ xs n=true):AP 91 (Xa xs n):=by
 refine cy 1 func91 rfl ntmps91 λY V=>Aj [] 1 V λV=>Ar (Ay [(1,Vj false [(decide ((n:Int)<0))=false] ⟨decide_eq_false Ac,aa⟩)] [] 1 V λV=>AJ (((xs.length:Nat):Int)<(n:Int)) V (λh1=> ?_) (λh1=> ?_))
 ·have hK:CJ xs n=false:=(Ab _).trans (ah h1)
  rw[hK]at hk
  cases hk
 ·exact DG (Aj [] 1 V λV=>Ai V (Cb (Ay [(5,fE n xs.length),(6,AS (Ee (xs.take n) Ax))] [] 1 V λV=>Ay [(6,ON n xs.length)] [] 1 V λV=>Aj [] 1 V λV=>AY (BW V))))
def Mv (n:Nat):Con:=⟨[.cp 0 0,vi (n:Int)],[(0,C8 xs)],.v (.iface 44 (.int .i64 2)),[]⟩
theorem OY (n:Nat) (h:xs.length<=100000000000000) (hk:CJ xs n=false):EB Tryz.prog 91 (Mv xs n):=by
 refine C4 rfl (nb:=1) func91 rfl rfl ntmps91 rfl rfl rfl λg0 w0 ac gs ws Y V=> ?_
 have V:=V.sp
 refine Aj [] 1 V λV=>Ar (Ay [(1,Vj false [(decide ((n:Int)<0))=false] ⟨decide_eq_false Ac,aa⟩)] [] 1 V λV=>AJ (((xs.length:Nat):Int)<(n:Int)) V (λh1=> ?_) (λh1=> ?_))
 ·exact Bd (E:=E0) mo hZ [] aa none (λr hr=>by cases hr) 1 0 (λ_=>[]) (.v (.iface 44 (.int .i64 2))) (by kernel_rfl) aa V.st λac gs ws pv V hpv=>AE (CN rfl V hpv rfl rfl)
 ·refine DG (Aj [] 1 V λV=>Ai V (Cb (Ay [(5,fE n xs.length),(6,AS (Ee (xs.take n) Ax))] [] 1 V λV=>Ay [(6,ON n xs.length)] [] 1 V λV=>Aj [] 1 V λV=>AY ?_)))
  have hK:CJ xs n=true:=(Ab _).trans (aj h1)
  rw[hK]at hk
  cases hk
end
theorem VQ {xs:Ad} {n:Nat} (h:CJ xs n=true):n<=xs.length:=by
 unfold CJ at h;rw[Ab]at h
 by_cases h2:((xs.length:Nat):Int)<(n:Int)
 ·simp only[h2,if_true]at h
  cases h
 ·omega
theorem I1 {xs:Ad} {n:Nat} (h:¬CJ xs n=true):xs.length<n:=by
 unfold CJ at h;rw[Ab]at h
 by_cases h2:((xs.length:Nat):Int)<(n:Int)
 ·omega
 ·exact absurd (by first |(rw[aj Ac,aj h2])|rw[aj h2]) h
def Q6:Nat->Nat->Int->Ad->Option (Int×Ad)
 |0,_,_,_=>none
 |_+1,_,_,[]=>none
 |k+1,n,v,c::r=>if(128:Int)<=c then Q6 k (n+1) (Em .u64 v (BX .u64 (IntKind.wrap .u64 (Fu .u8 c 128)) ((7*n:Nat):Int))) r
  else if n=9/\(1:Int)<c then none else if 0<n/\c=0 then none else some (Em .u64 v (BX .u64 (IntKind.wrap .u64 (Fu .u8 c 128)) ((7*n:Nat):Int)),r)
section
variable (xs:Ad)
def JV:Option (Int×Ad):=Q6 10 0 0 xs
def Gn:Bool:=(JV xs).isSome
def Af:Int×Ad:=(JV xs).getD (0,[])
end
theorem Kq (k n:Nat) (v:Int) {xs:Ad} (h:xs.length<1):Q6 k n v xs=none:=by
 have :xs=[]:=bm Ac
 subst this
 cases k<;>rfl
theorem D2 {i : Nat} (hi : i < 10) (v : Int) {xs : Ad} (h : 1 <= xs.length) : Q6 (10 - i) i v xs = (if (128 : Int) <= (xs.take 1).getD 0 0 then Q6 (10 - (i + 1)) (i + 1) (Em .u64 v (BX .u64 (IntKind.wrap .u64 (Fu .u8 ((xs.take 1).getD 0 0) 128)) ((7 * i : Nat) : Int))) (xs.drop 1)
  else if i=9/\(1:Int)<(xs.take 1).getD 0 0 then none else if 0<i/\(xs.take 1).getD 0 0=0 then none else some (Em .u64 v (BX .u64 (IntKind.wrap .u64 (Fu .u8 ((xs.take 1).getD 0 0) 128)) ((7*i:Nat):Int)),xs.drop 1)):=by
 obtain⟨k,hk⟩:∃k,10-i=k+1:=⟨9-i,by omega⟩
 rw[hk,show 10-(i+1)=k by omega]
 match xs,h with
 |c::r,_=>rfl
theorem Q4 {xs:Ad} (h:JV xs=none):Gn xs=false:=by unfold Gn;rw[h];rfl
theorem Kn {xs:Ad} {z:Int×Ad} (h:JV xs=some z):Gn xs=true:=by unfold Gn;rw[h];rfl
theorem F2 {xs:Ad} {z:Int×Ad} (h:JV xs=some z):Af xs=z:=by unfold Af;rw[h];rfl
section
variable (xs:Ad)
def xI:Con:=⟨[.cp 0 0],[(0,C8 xs)],.v (.int .u64 (Af xs).1),[(0,C8 (Af xs).2)]⟩
theorem HZ (h:xs.length<=100000000000000) (hk:Gn xs=true):AP 126 (xI xs):=by
 refine cy 1 func126 rfl ntmps126 λY V=>Aj [] 1 V λV=>Ar (Aj [] 1 V λV=>BC (AC (ι:=Nat×Int×Ad) Y V (λ(i,v,ys)=>(10-i,[(2,.v (.int .u64 v)),(5,vi ((i:Nat):Int))],[(0,C8 ys)],(i<=10)/\(ys.length<=100000000000000)/\(Q6 (10-i) i v ys=JV xs)/\True)) [0] [] 1 (0,0,xs) [(0,0)] ⟨Ac,h,rfl,aa⟩ ?_))
 rintro⟨i,v,ys⟩ ac gs ws ⟨hi,hly,hq,_⟩ V
 refine Aj [] 1 V λV=>Ar (AJ ((i:Int)<10) V (λh1=> ?_) (λh1=> ?_))
 ·refine B3 (Aj [] 1 V λV=>Ar ?_)
  by_cases h2:CJ ys 1=true
  ·have hl1:=VQ h2
   have hl2:(ys.take 1).length=1:=by rw[ap];omega
   refine Aw [(1,AA (I0 ys 1 Ax h2) [(0,0)] []),(2,AH 0 ((ys.take 1).length))] [] 1 V λV=>Ae (Ay [(5,IC 7 i (7*i)),(6,F_ (7*i))] [2] 1 V λV=>Ar (BC (Aj [] 1 V λV=>AJ ((128:Int)<=((ys.take 1).getD 0 0)) V (λh3=> ?_) (λh3=> ?_))))
   ·exact dA (LR (by decide) (Fg (GQ (Ae (Aw [(0,Cu i)] [5] 1 V λV=>Ae (As Y V (i+1,(Em .u64 v (BX .u64 (IntKind.wrap .u64 (Fu .u8 ((ys.take 1).getD 0 0) 128)) ((7*i:Nat):Int))),(ys.drop 1)) [(0,0)] ⟨Ac,(by rw[av];omega),(hq▸((D2 Ac v Ac).trans (ah A_)).symm),aa⟩))))))
   ·refine Ii ?_
    by_cases h4:(i:Int)=9
    ·refine Aw [(1,Gv h4)] [] 1 V λV=>Ae (AJ ((1:Int)<((ys.take 1).getD 0 0)) V (λh5=> ?_) (λh5=> ?_))
     ·refine Cb (AJ ((1:Int)<((ys.take 1).getD 0 0)) V (λh6=> ?_) (λh6=> ?_))
      ·have e:JV xs=none:=hq.symm.trans (by first |exact Kq _ _ _ (I1 A_)|exact rfl|exact(D2 Ac v Ac).trans ((aj Ac).trans (ah Ac))|exact(D2 Ac v Ac).trans ((aj Ac).trans ((aj Ac).trans (ah Ac))))
       rw[Q4 e]at hk
       cases hk
      ·refine FN (Aj [2] 1 V λV=>AY (AN (Ao (Ao (AN (Ao ?_))))))
       have e:=hq.symm.trans ((D2 Ac v Ac).trans ((aj Ac).trans ((aj Ac).trans (aj Ac))))
       have hv:=F2 e
       exact Ec rfl (.inr rfl) V [.v (.int .u64 (Em .u64 v (BX .u64 (IntKind.wrap .u64 (Fu .u8 ((ys.take 1).getD 0 0) 128)) ((7*i:Nat):Int))))] [(0,some (C8 (ys.drop 1)))] (by show weak _ (.v (.int .u64 (Af xs).1))= .v (.int .u64 (Af xs).1);rw[hv];rfl) (by show E6 _ [(0,.ob 188 (Jg [lb (Af xs).2]))] true;rw[hv];exact⟨rfl,aa⟩)
     ·by_cases h7:(0:Int)<(i:Int)
      ·refine Aw [(1,Gv h7)] [] 1 V λV=>Ae (AJ (((ys.take 1).getD 0 0)=0) V (λh8=> ?_) (λh8=> ?_))
       ·have e:JV xs=none:=hq.symm.trans (by first |exact Kq _ _ _ (I1 A_)|exact rfl|exact(D2 Ac v Ac).trans ((aj Ac).trans (ah Ac))|exact(D2 Ac v Ac).trans ((aj Ac).trans ((aj Ac).trans (ah Ac))))
        rw[Q4 e]at hk
        cases hk
       ·refine FN (Aj [2] 1 V λV=>AY (AN (Ao (Ao (AN (Ao ?_))))))
        have e:=hq.symm.trans ((D2 Ac v Ac).trans ((aj Ac).trans ((aj Ac).trans (aj Ac))))
        have hv:=F2 e
        exact Ec rfl (.inr rfl) V [.v (.int .u64 (Em .u64 v (BX .u64 (IntKind.wrap .u64 (Fu .u8 ((ys.take 1).getD 0 0) 128)) ((7*i:Nat):Int))))] [(0,some (C8 (ys.drop 1)))] (by show weak _ (.v (.int .u64 (Af xs).1))= .v (.int .u64 (Af xs).1);rw[hv];rfl) (by show E6 _ [(0,.ob 188 (Jg [lb (Af xs).2]))] true;rw[hv];exact⟨rfl,aa⟩)
      ·refine Aw [(1,Do h7)] [] 1 V λV=>Ae (Ai V (FN (Aj [2] 1 V λV=>AY (AN (Ao (Ao (AN (Ao ?_))))))))
       have e:=hq.symm.trans ((D2 Ac v Ac).trans ((aj Ac).trans ((aj Ac).trans (aj Ac))))
       have hv:=F2 e
       exact Ec rfl (.inr rfl) V [.v (.int .u64 (Em .u64 v (BX .u64 (IntKind.wrap .u64 (Fu .u8 ((ys.take 1).getD 0 0) 128)) ((7*i:Nat):Int))))] [(0,some (C8 (ys.drop 1)))] (by show weak _ (.v (.int .u64 (Af xs).1))= .v (.int .u64 (Af xs).1);rw[hv];rfl) (by show E6 _ [(0,.ob 188 (Jg [lb (Af xs).2]))] true;rw[hv];exact⟨rfl,aa⟩)
    ·refine Aw [(1,Do h4)] [] 1 V λV=>Ae (Ai V ?_)
     by_cases h9:(0:Int)<(i:Int)
     ·refine Aw [(1,Gv h9)] [] 1 V λV=>Ae (AJ (((ys.take 1).getD 0 0)=0) V (λh10=> ?_) (λh10=> ?_))
      ·have e:JV xs=none:=hq.symm.trans (by first |exact Kq _ _ _ (I1 A_)|exact rfl|exact(D2 Ac v Ac).trans ((aj Ac).trans (ah Ac))|exact(D2 Ac v Ac).trans ((aj Ac).trans ((aj Ac).trans (ah Ac))))
       rw[Q4 e]at hk
       cases hk
      ·refine FN (Aj [2] 1 V λV=>AY (AN (Ao (Ao (AN (Ao ?_))))))
       have e:=hq.symm.trans ((D2 Ac v Ac).trans ((aj Ac).trans ((aj Ac).trans (aj Ac))))
       have hv:=F2 e
       exact Ec rfl (.inr rfl) V [.v (.int .u64 (Em .u64 v (BX .u64 (IntKind.wrap .u64 (Fu .u8 ((ys.take 1).getD 0 0) 128)) ((7*i:Nat):Int))))] [(0,some (C8 (ys.drop 1)))] (by show weak _ (.v (.int .u64 (Af xs).1))= .v (.int .u64 (Af xs).1);rw[hv];rfl) (by show E6 _ [(0,.ob 188 (Jg [lb (Af xs).2]))] true;rw[hv];exact⟨rfl,aa⟩)
     ·refine Aw [(1,Do h9)] [] 1 V λV=>Ae (Ai V (FN (Aj [2] 1 V λV=>AY (AN (Ao (Ao (AN (Ao ?_))))))))
      have e:=hq.symm.trans ((D2 Ac v Ac).trans ((aj Ac).trans ((aj Ac).trans (aj Ac))))
      have hv:=F2 e
      exact Ec rfl (.inr rfl) V [.v (.int .u64 (Em .u64 v (BX .u64 (IntKind.wrap .u64 (Fu .u8 ((ys.take 1).getD 0 0) 128)) ((7*i:Nat):Int))))] [(0,some (C8 (ys.drop 1)))] (by show weak _ (.v (.int .u64 (Af xs).1))= .v (.int .u64 (Af xs).1);rw[hv];rfl) (by show E6 _ [(0,.ob 188 (Jg [lb (Af xs).2]))] true;rw[hv];exact⟨rfl,aa⟩)
  ·skip
   have e:JV xs=none:=hq.symm.trans (by first |exact Kq _ _ _ (I1 A_)|exact rfl|exact(D2 Ac v Ac).trans ((aj Ac).trans (ah Ac))|exact(D2 Ac v Ac).trans ((aj Ac).trans ((aj Ac).trans (ah Ac))))
   rw[Q4 e]at hk
   cases hk
 ·have hT:=V
  obtain rfl:10=i:=by omega
  have V:=hT
  refine Dw ?_
  have e:JV xs=none:=hq.symm.trans (by first |exact Kq _ _ _ (I1 A_)|exact rfl|exact(D2 Ac v Ac).trans ((aj Ac).trans (ah Ac))|exact(D2 Ac v Ac).trans ((aj Ac).trans ((aj Ac).trans (ah Ac))))
  rw[Q4 e]at hk
  cases hk
def Ls:Con:=⟨[.cp 0 0],[(0,C8 xs)],.v (.iface 44 (.int .i64 2)),[]⟩
theorem Km (h:xs.length<=100000000000000) (hk:Gn xs=false):EB Tryz.prog 126 (Ls xs):=by
 refine C4 rfl (nb:=1) func126 rfl rfl ntmps126 rfl rfl rfl λg0 w0 ac gs ws Y V=> ?_
 have V:=V.sp
 refine Aj [] 1 V λV=>Ar (Aj [] 1 V λV=>BC (AC (ι:=Nat×Int×Ad) Y V (λ(i,v,ys)=>(10-i,[(2,.v (.int .u64 v)),(5,vi ((i:Nat):Int))],[(0,C8 ys)],(i<=10)/\(ys.length<=100000000000000)/\(Q6 (10-i) i v ys=JV xs)/\True)) [0] [] 1 (0,0,xs) [(0,0)] ⟨Ac,h,rfl,aa⟩ ?_))
 rintro⟨i,v,ys⟩ ac gs ws ⟨hi,hly,hq,_⟩ V
 refine Aj [] 1 V λV=>Ar (AJ ((i:Int)<10) V (λh1=> ?_) (λh1=> ?_))
 ·refine B3 (Aj [] 1 V λV=>Ar ?_)
  by_cases h2:CJ ys 1=true
  ·have hl1:=VQ h2
   have hl2:(ys.take 1).length=1:=by rw[ap];omega
   refine Aw [(1,AA (I0 ys 1 Ax h2) [(0,0)] []),(2,AH 0 ((ys.take 1).length))] [] 1 V λV=>Ae (Ay [(5,IC 7 i (7*i)),(6,F_ (7*i))] [2] 1 V λV=>Ar (BC (Aj [] 1 V λV=>AJ ((128:Int)<=((ys.take 1).getD 0 0)) V (λh3=> ?_) (λh3=> ?_))))
   ·exact dA (LR (by decide) (Fg (GQ (Ae (Aw [(0,Cu i)] [5] 1 V λV=>Ae (As Y V (i+1,(Em .u64 v (BX .u64 (IntKind.wrap .u64 (Fu .u8 ((ys.take 1).getD 0 0) 128)) ((7*i:Nat):Int))),(ys.drop 1)) [(0,0)] ⟨Ac,(by rw[av];omega),(hq▸((D2 Ac v Ac).trans (ah A_)).symm),aa⟩))))))
   ·refine Ii ?_
    by_cases h4:(i:Int)=9
    ·refine Aw [(1,Gv h4)] [] 1 V λV=>Ae (AJ ((1:Int)<((ys.take 1).getD 0 0)) V (λh5=> ?_) (λh5=> ?_))
     ·refine Cb (AJ ((1:Int)<((ys.take 1).getD 0 0)) V (λh6=> ?_) (λh6=> ?_))
      ·exact Bd (E:=E0) mo hZ [] aa none (λr hr=>by cases hr) 1 0 (λ_=>[]) (.v (.iface 44 (.int .i64 2))) (by kernel_rfl) aa V.st λac gs ws pv V hpv=>B1 (AE (B1 (AE (AE (B1 (AE (CN rfl V hpv rfl rfl)))))))
      ·refine FN (Aj [2] 1 V λV=>AY (AN (Ao (Ao (AN (Ao ?_))))))
       have e:=hq.symm.trans ((D2 Ac v Ac).trans ((aj Ac).trans ((aj Ac).trans (aj Ac))))
       rw[Kn e]at hk
       cases hk
     ·by_cases h7:(0:Int)<(i:Int)
      ·refine Aw [(1,Gv h7)] [] 1 V λV=>Ae (AJ (((ys.take 1).getD 0 0)=0) V (λh8=> ?_) (λh8=> ?_))
       ·exact Bd (E:=E0) mo hZ [] aa none (λr hr=>by cases hr) 1 0 (λ_=>[]) (.v (.iface 44 (.int .i64 2))) (by kernel_rfl) aa V.st λac gs ws pv V hpv=>B1 (AE (B1 (AE (AE (B1 (AE (CN rfl V hpv rfl rfl)))))))
       ·refine FN (Aj [2] 1 V λV=>AY (AN (Ao (Ao (AN (Ao ?_))))))
        have e:=hq.symm.trans ((D2 Ac v Ac).trans ((aj Ac).trans ((aj Ac).trans (aj Ac))))
        rw[Kn e]at hk
        cases hk
      ·refine Aw [(1,Do h7)] [] 1 V λV=>Ae (Ai V (FN (Aj [2] 1 V λV=>AY (AN (Ao (Ao (AN (Ao ?_))))))))
       have e:=hq.symm.trans ((D2 Ac v Ac).trans ((aj Ac).trans ((aj Ac).trans (aj Ac))))
       rw[Kn e]at hk
       cases hk
    ·refine Aw [(1,Do h4)] [] 1 V λV=>Ae (Ai V ?_)
     by_cases h9:(0:Int)<(i:Int)
     ·refine Aw [(1,Gv h9)] [] 1 V λV=>Ae (AJ (((ys.take 1).getD 0 0)=0) V (λh10=> ?_) (λh10=> ?_))
      ·exact Bd (E:=E0) mo hZ [] aa none (λr hr=>by cases hr) 1 0 (λ_=>[]) (.v (.iface 44 (.int .i64 2))) (by kernel_rfl) aa V.st λac gs ws pv V hpv=>B1 (AE (B1 (AE (AE (B1 (AE (CN rfl V hpv rfl rfl)))))))
      ·refine FN (Aj [2] 1 V λV=>AY (AN (Ao (Ao (AN (Ao ?_))))))
       have e:=hq.symm.trans ((D2 Ac v Ac).trans ((aj Ac).trans ((aj Ac).trans (aj Ac))))
       rw[Kn e]at hk
       cases hk
     ·refine Aw [(1,Do h9)] [] 1 V λV=>Ae (Ai V (FN (Aj [2] 1 V λV=>AY (AN (Ao (Ao (AN (Ao ?_))))))))
      have e:=hq.symm.trans ((D2 Ac v Ac).trans ((aj Ac).trans ((aj Ac).trans (aj Ac))))
      rw[Kn e]at hk
      cases hk
  ·skip
   exact Bd (E:=E0) mo hZ [] aa (some ⟨91,(Mv ys 1),[(0,0)],[]⟩) (λr hr=>by cases hr;exact OY ys 1 Ax (Cj h2)) 1 28 (λ_=>[nd [.cp 0 0,vi 1] [some (C8 ys)]]) (.v (.iface 44 (.int .i64 2))) (by kernel_rfl) ⟨rfl,aa⟩ V.st λac gs ws pv V hpv=>AE (B1 (AE (AE (B1 (AE (CN rfl V hpv rfl rfl))))))
 ·have hT:=V
  obtain rfl:10=i:=by omega
  have V:=hT
  exact Dw (Bd (E:=E0) mo hZ [] aa none (λr hr=>by cases hr) 1 0 (λ_=>[]) (.v (.iface 44 (.int .i64 2))) (by kernel_rfl) aa V.st λac gs ws pv V hpv=>CN rfl V hpv rfl rfl)
end
theorem lJ (p q:Int):0<=Em .u64 p q:=(lI p q).1
theorem ZO:∀(k n:Nat) (v:Int) (xs:Ad) (z:Int×Ad),Q6 k n v xs=some z->0<=z.1/\z.2.length<=xs.length
 |0,_,_,_,_,h=>by cases h
 |_+1,_,_,[],_,h=>by cases h
 |k+1,n,v,c::r,z,h=>by
  unfold Q6 at h
  split at h
  ·have :=ZO k (n+1) _ r z h
   exact⟨this.1,by simp only[aw];omega⟩
  ·split at h
   ·cases h
   ·split at h
    ·cases h
    ·cases h
     exact⟨lJ _ _,by simp⟩
section
variable (xs:Ad)
theorem AU:0<=(Af xs).1/\(Af xs).2.length<=xs.length:=by
 unfold Af
 cases h:JV xs with
 |none=>exact⟨by simp,by simp⟩
 |some z=>exact ZO _ _ _ _ z h
def D9 (m:Nat):Bool:=AV (if Gn xs=true then(if(m:Int)<(Af xs).1 then false else true)else false)
def ER (m:Nat):Nat:=AV (if Gn xs=true then 11 else 2)
def UU (m:Nat):Con:=⟨[.cp 0 0,vi (m:Int)],[(0,C8 xs)],vi ((((Af xs).1.toNat):Nat):Int),[(0,C8 (Af xs).2)]⟩
theorem MY (m:Nat) (h:xs.length<=100000000000000) (hm:m<=100000000000000) (hk:D9 xs m=true):AP 139 (UU xs m):=by
 refine cy 1 func139 rfl ntmps139 λY V=>Aj [] 1 V λV=>Ar (Ay [(1,Vj false [(decide ((m:Int)<0))=false] ⟨decide_eq_false Ac,aa⟩)] [] 1 V λV=>Ai V (DG ?_))
 by_cases h1:Gn xs=true
 ·refine Aw [(1,AA (HZ xs Ax h1) [(0,0)] [])] [] 1 V λV=>CQ (Ay [(2,JZ m)] [] 1 V λV=>AJ ((m:Int)<(Af xs).1) V (λh2=> ?_) (λh2=> ?_))
  ·have hK:D9 xs m=false:=(Ab _).trans ((ah h1).trans (ah h2))
   rw[hK]at hk
   cases hk
  ·refine DG ?_
   have hnn:=AU xs
   exact Aw [(1,Ly (((Af xs).1.toNat:Nat):Int) [IntKind.wrap .i64 (Af xs).1=(((Af xs).1.toNat:Nat):Int)] ⟨(EI Ac Ac).trans Ac,aa⟩)] [] 1 V λV=>EY (BW V)
 ·have hK:D9 xs m=false:=(Ab _).trans (aj h1)
  rw[hK]at hk
  cases hk
def Tu (m:Nat):Con:=⟨[.cp 0 0,vi (m:Int)],[(0,C8 xs)],.v (.iface 44 (.int .i64 ((ER xs m:Nat):Int))),[]⟩
theorem XC (m:Nat) (h:xs.length<=100000000000000) (hm:m<=100000000000000) (hk:D9 xs m=false):EB Tryz.prog 139 (Tu xs m):=by
 refine C4 rfl (nb:=1) func139 rfl rfl ntmps139 rfl rfl rfl λg0 w0 ac gs ws Y V=> ?_
 have V:=V.sp
 refine Aj [] 1 V λV=>Ar (Ay [(1,Vj false [(decide ((m:Int)<0))=false] ⟨decide_eq_false Ac,aa⟩)] [] 1 V λV=>Ai V (DG ?_))
 by_cases h1:Gn xs=true
 ·refine Aw [(1,AA (HZ xs Ax h1) [(0,0)] [])] [] 1 V λV=>CQ (Ay [(2,JZ m)] [] 1 V λV=>AJ ((m:Int)<(Af xs).1) V (λh2=> ?_) (λh2=> ?_))
  ·refine Bd (E:=E0) mo hZ [] aa none (λr hr=>by cases hr) 1 0 (λ_=>[]) (.v (.iface 44 (.int .i64 11))) (by kernel_rfl) aa V.st λac gs ws pv V hpv=>AE ?_
   have hM:ER xs m=11:=(Ab _).trans (ah h1)
   exact CN rfl V hpv (by show _=(.v (.iface 44 (.int .i64 ((ER xs m:Nat):Int))):D);rw[hM]<;>rfl) rfl
  ·refine DG ?_
   have hnn:=AU xs
   refine Aw [(1,Ly (((Af xs).1.toNat:Nat):Int) [IntKind.wrap .i64 (Af xs).1=(((Af xs).1.toNat:Nat):Int)] ⟨(EI Ac Ac).trans Ac,aa⟩)] [] 1 V λV=>EY ?_
   have hK:D9 xs m=true:=(Ab _).trans ((ah h1).trans (aj h2))
   rw[hK]at hk
   cases hk
 ·refine Bd (E:=E0) mo hZ [] aa (some ⟨126,(Ls xs),[(0,0)],[]⟩) (λr hr=>by cases hr;exact Km xs Ax (Cj h1)) 1 4 (λ_=>[nd [.cp 0 0] [some (C8 xs)]]) (.v (.iface 44 (.int .i64 2))) (by kernel_rfl) ⟨rfl,aa⟩ V.st λac gs ws pv V hpv=>AE ?_
  have hM:ER xs m=2:=(Ab _).trans (aj h1)
  exact CN rfl V hpv (by show _=(.v (.iface 44 (.int .i64 ((ER xs m:Nat):Int))):D);rw[hM]<;>rfl) rfl
def Er:Bool:=AV (if(0:Int)<((xs.length:Nat):Int)then false else true)
theorem It (hk:Er xs=true):AP 90 (Cq [.cp 0 0] [(0,C8 xs)] (.tu (Jg []))):=by
 refine cy 1 func90 rfl ntmps90 λY V=>Aj [] 1 V λV=>AJ ((0:Int)<((xs.length:Nat):Int)) V (λh1=> ?_) (λh1=> ?_)
 ·have hK:Er xs=false:=(Ab _).trans (ah h1)
  rw[hK]at hk
  cases hk
 ·exact sR (fQ V)
def NQ:Con:=⟨[.cp 0 0],[(0,C8 xs)],.v (.iface 44 (.int .i64 2)),[]⟩
theorem Oo (hk:Er xs=false):EB Tryz.prog 90 (NQ xs):=by
 refine C4 rfl (nb:=1) func90 rfl rfl ntmps90 rfl rfl rfl λg0 w0 ac gs ws Y V=> ?_
 have V:=V.sp
 refine Aj [] 1 V λV=>AJ ((0:Int)<((xs.length:Nat):Int)) V (λh1=> ?_) (λh1=> ?_)
 ·exact Bd (E:=E0) mo hZ [] aa none (λr hr=>by cases hr) 1 0 (λ_=>[]) (.v (.iface 44 (.int .i64 2))) (by kernel_rfl) aa V.st λac gs ws pv V hpv=>CN rfl V hpv rfl rfl
 ·refine sR ?_
  have hK:Er xs=true:=(Ab _).trans (aj h1)
  rw[hK]at hk
  cases hk
theorem G5 (h:xs.length<=100000000000000):AP 89 ⟨[lb xs],[],.cp 0 0,[(0,C8 xs)]⟩:=by
 exact cy 0 func89 rfl ntmps89 λY V=>Aj [] 0 V λV=>Ay [(1,AS (Ee xs Ax))] [] 1 V λV=>AY (BW V)
end
section
variable (xs:Ad) (m:Nat)
def BA:Bool:=AV (if D9 xs m=true then(if CJ (Af xs).2 ((Af xs).1.toNat)=true then true else false)else false)
def BQ:Nat:=AV (if D9 xs m=true then 2 else(ER xs m))
def OI:Con:=⟨[.cp 0 0,vi (m:Int)],[(0,C8 xs)],lb ((Af xs).2.take ((Af xs).1.toNat)),[(0,C8 ((Af xs).2.drop ((Af xs).1.toNat)))]⟩
theorem Eg (h:xs.length<=100000000000000) (hm:m<=100000000000000) (hk:BA xs m=true):AP 102 (OI xs m):=by
 refine cy 1 func102 rfl ntmps102 λY V=>Aj [] 1 V λV=>Ar ?_
 have hnn:=AU xs
 by_cases h1:D9 xs m=true
 ·have hnn:=AU xs
  by_cases h2:CJ (Af xs).2 ((Af xs).1.toNat)=true
  ·have hnn:=AU xs
   exact Aw [(3,AA (MY xs m Ax Ac h1) [(0,0)] []),(4,AA (I0 (Af xs).2 ((Af xs).1.toNat) Ax h2) [(0,0)] [])] [] 1 V λV=>EY (BW V)
  ·have hnn:=AU xs
   have hK:BA xs m=false:=(Ab _).trans ((ah h1).trans (aj h2))
   rw[hK]at hk
   cases hk
 ·have hnn:=AU xs
  have hK:BA xs m=false:=(Ab _).trans (aj h1)
  rw[hK]at hk
  cases hk
def G_:Con:=⟨[.cp 0 0,vi (m:Int)],[(0,C8 xs)],.v (.iface 44 (.int .i64 ((BQ xs m:Nat):Int))),[]⟩
theorem Hs (h:xs.length<=100000000000000) (hm:m<=100000000000000) (hk:BA xs m=false):EB Tryz.prog 102 (G_ xs m):=by
 refine C4 rfl (nb:=1) func102 rfl rfl ntmps102 rfl rfl rfl λg0 w0 ac gs ws Y V=> ?_
 have V:=V.sp
 refine Aj [] 1 V λV=>Ar ?_
 have hnn:=AU xs
 by_cases h1:D9 xs m=true
 ·have hnn:=AU xs
  by_cases h2:CJ (Af xs).2 ((Af xs).1.toNat)=true
  ·have hnn:=AU xs
   refine Aw [(3,AA (MY xs m Ax Ac h1) [(0,0)] []),(4,AA (I0 (Af xs).2 ((Af xs).1.toNat) Ax h2) [(0,0)] [])] [] 1 V λV=>EY ?_
   have hK:BA xs m=true:=(Ab _).trans ((ah h1).trans (ah h2))
   rw[hK]at hk
   cases hk
  ·have hnn:=AU xs
   refine Bd (E:=E0) mo hZ [(3,.call ⟨139,(UU xs m),[(0,0)],[]⟩)] ⟨MY _ _ Ax Ac h1,aa⟩ (some ⟨91,(Mv (Af xs).2 ((Af xs).1.toNat)),[(0,0)],[]⟩) (λr hr=>by cases hr;exact OY (Af xs).2 ((Af xs).1.toNat) Ax (Cj h2)) 4 32 (λC=>[kF C 3,nd [.cp 0 0,vi ((((Af xs).1.toNat):Nat):Int)] [some (C8 (Af xs).2)]]) (.v (.iface 44 (.int .i64 2))) (by kernel_rfl) ⟨rfl,rfl,aa⟩ V.st λac gs ws pv V hpv=>AE ?_
   have hM:BQ xs m=2:=(Ab _).trans (ah h1)
   exact CN rfl V hpv (by show _=(.v (.iface 44 (.int .i64 ((BQ xs m:Nat):Int))):D);rw[hM]<;>rfl) rfl
 ·have hnn:=AU xs
  refine Bd (E:=E0) mo hZ [] aa (some ⟨139,(Tu xs m),[(0,0)],[]⟩) (λr hr=>by cases hr;exact XC xs m Ax Ac (Cj h1)) 3 48 (λ_=>[nd [.cp 0 0,vi (m:Int)] [some (C8 xs)]]) (.v (.iface 44 (.int .i64 ((ER xs m:Nat):Int)))) (by kernel_rfl) ⟨rfl,aa⟩ V.st λac gs ws pv V hpv=>AE ?_
  have hM:BQ xs m=(ER xs m):=(Ab _).trans (aj h1)
  exact CN rfl V hpv (by show _=(.v (.iface 44 (.int .i64 ((BQ xs m:Nat):Int))):D);rw[hM]<;>rfl) rfl
end
def Pf (x0:Nat):O:= .ob 97 (Jg [.sk x0])
def sB:O:= .ob 97 (Jg [.v (.slice none 0 0)])
theorem EQ (b xs:Ad) (hb:b.length<=100000000000) (hx:xs.length<=10000000000):AP 53 ⟨[.cp 0 0,lb xs],[(0,Pf 1),(1,.sl 5 Bg b)],.cp 0 0,[(0,Pf 2),(2,.sl 5 Bg (b++xs))]⟩:=by
 exact cy 2 func53 rfl ntmps53 λY V=>Aj [] 2 V λV=>Ar (Aj [] 2 V λV=>AG V (Aw [(6,Gt b.length xs.length 1 Ac)] [] 3 V λV=>Ae (Aj [] 3 V λV=>AY (BW V))))
theorem Qg (xs:Ad) (hx:xs.length<=10000000000):AP 53 ⟨[.cp 0 0,lb xs],[(0,sB)],.cp 0 0,[(0,Pf 1),(1,.sl 5 Bg ([]++xs))]⟩:=by
 exact cy 1 func53 rfl ntmps53 λY V=>Aj [] 1 V λV=>Ar (Aj [] 1 V λV=>AG V (Aw [(6,Gt 0 xs.length 1)] [] 2 V λV=>Ae (Aj [] 2 V λV=>AY (BW V))))
def Ah (n:Nat):Ad:=if 128<=n then Em .u8 (IntKind.wrap .u8 (n:Int)) 128::Ah (n/128)else[IntKind.wrap .u8 (n:Int)]
termination_by n
decreasing_by omega
theorem Oz {n:Nat} (h:128<=n):Ah n=Em .u8 (IntKind.wrap .u8 (n:Int)) 128::Ah (n/128):=by rw[Ah,ah h]
theorem Q5 {n:Nat} (h:¬128<=n):Ah n=[IntKind.wrap .u8 (n:Int)]:=by rw[Ah,aj h]
theorem We:∀(k n:Nat),n<128^(k+1)->(Ah n).length<=k+1
 |0,n,h=>by rw[Q5 Ac];simp
 |k+1,n,h=>by
  by_cases h1:128<=n
  ·rw[Oz h1,aw]
   have :=We k (n/128) (by rw[Nat.pow_succ]at h;exact Nat.div_lt_of_lt_mul Ac)
   omega
  ·rw[Q5 h1];simp
theorem Aq {n:Nat} (h:n<18446744073709551616):(Ah n).length<=10:=We 9 n (Nat.lt_trans h (by decide))
theorem AbB {m:Nat}:Bh .u64 (m:Int) 7=((m/128:Nat):Int):=by
 unfold Bh
 rw[show min (7:Int).toNat (IntKind.bits .u64)=7 from rfl,Rt Ac,bc,ef]
theorem BP (b:Ad) (n:Nat) (hb:b.length<=90000000000) (hn:n<18446744073709551616):AP 47 ⟨[.cp 0 0,.v (.int .u64 (n:Int))],[(0,Pf 1),(1,.sl 5 Bg b)],.cp 0 0,[(0,Pf 2),(2,.sl 5 Bg (b++Ah n))]⟩:=by
 refine cy 2 func47 rfl ntmps47 λY V=>Aj [] 2 V λV=>Ar (BC ?_)
 obtain⟨gs,V⟩:=V.alias 1
 refine AC (ι:=Nat×Ad) Y V (λ(m,o)=>(m,[(1,.v (.int .u64 ((m:Nat):Int)))],[(2,.sl 5 Bg o)],(m<18446744073709551616)/\(o.length+(Ah m).length=b.length+(Ah n).length)/\(o++Ah m=b++Ah n)/\True)) [0,4] [0] 3 (n,b) [(0,0),(1,1),(2,2)] ⟨hn,rfl,rfl,aa⟩ ?_
 rintro⟨m,o⟩ ac gs ws ⟨hm,hol,hq,_⟩ V
 refine Ar (Aj [] 3 V λV=>AJ ((128:Int)<=(m:Int)) V (λh1=> ?_) (λh1=> ?_))
 ·refine B3 ?_
  have h10:=Aq hn
  exact Aw [(5,AA (EQ o [(Em .u8 (IntKind.wrap .u8 (m:Int)) 128)] Ax Ax) [(0,0),(1,2)] [(2,3)])] [] 4 V λV=>Ck (Aw [(1,Ly ((m/128:Nat):Int) [Bh .u64 (m:Int) 7=((m/128:Nat):Int),(0:Int)<=7] ⟨AbB,by omega,aa⟩)] [1] 4 V λV=>Ae (As Y V (m/128,(o++[(Em .u8 (IntKind.wrap .u8 (m:Int)) 128)])) [(0,0),(1,1),(2,3)] ⟨Ac,(by rw[ab,<-hol,Oz (n:=m) Ac];simp only[aw,au];omega),(by rw[bu,<-hq,Oz (n:=m) Ac];rfl),aa⟩ (show m/128<m from by omega)))
 ·have hT:=V
  have V:=hT
  refine JH ?_
  have h10:=Aq hn
  have e:o++[IntKind.wrap .u8 (m:Int)]=b++Ah n:=by rw[<-hq,Q5 Ac]
  refine Aw [(4,AA (EQ o [(IntKind.wrap .u8 (m:Int))] Ax Ax) [(0,0),(1,2)] [(2,3)])] [] 4 V λV=>EY ?_
  obtain⟨gs,V⟩:=V.rx [(0,0),(1,1),(2,3)] [4] [0,2] 3 Y
  exact Ec rfl (.inr rfl) V [.cp 0 0] [(0,some (Pf 2)),(2,some (.sl 5 Bg (o++[(IntKind.wrap .u8 (m:Int))])))] rfl (by show E6 _ [(0,Pf 2),(2,.sl 5 Bg (b++Ah n))] true;rw[<-e];exact⟨rfl,rfl,aa⟩)
theorem MK (n:Nat) (hn:n<18446744073709551616):AP 47 ⟨[.cp 0 0,.v (.int .u64 (n:Int))],[(0,sB)],.cp 0 0,[(0,Pf 1),(1,.sl 5 Bg ([]++Ah n))]⟩:=by
 refine cy 1 func47 rfl ntmps47 λY V=>Ar ?_
 obtain⟨gs,V⟩:=V.nilob 0 0 5 Bg
 refine Dl [] 2 V λV=>CQ (BC (AC (ι:=Nat×Ad) Y V (λ(m,o)=>(m,[(1,.v (.int .u64 ((m:Nat):Int)))],[(0,Pf 2),(2,.sl 5 Bg o)],(m<18446744073709551616)/\(o.length+(Ah m).length=0+(Ah n).length)/\(o++Ah m=([]:Ad)++Ah n)/\True)) [0,4] [] 3 (n,[]) [(0,0),(2,1)] ⟨hn,(by simp),rfl,aa⟩ ?_))
 rintro⟨m,o⟩ ac gs ws ⟨hm,hol,hq,_⟩ V
 refine Ar (Aj [] 3 V λV=>AJ ((128:Int)<=(m:Int)) V (λh1=> ?_) (λh1=> ?_))
 ·refine B3 ?_
  have h10:=Aq hn
  exact Aw [(5,AA (EQ o [(Em .u8 (IntKind.wrap .u8 (m:Int)) 128)] Ax Ax) [(0,0),(1,2)] [(2,3)])] [] 4 V λV=>Ck (Aw [(1,Ly ((m/128:Nat):Int) [Bh .u64 (m:Int) 7=((m/128:Nat):Int),(0:Int)<=7] ⟨AbB,by omega,aa⟩)] [1] 4 V λV=>Ae (As Y V (m/128,(o++[(Em .u8 (IntKind.wrap .u8 (m:Int)) 128)])) [(0,0),(2,3)] ⟨Ac,(by rw[ab,<-hol,Oz (n:=m) Ac];simp only[aw,au];omega),(by rw[bu,<-hq,Oz (n:=m) Ac];rfl),aa⟩ (show m/128<m from by omega)))
 ·have hT:=V
  have V:=hT
  refine JH ?_
  have h10:=Aq hn
  have e:o++[IntKind.wrap .u8 (m:Int)]=([]:Ad)++Ah n:=by rw[<-hq,Q5 Ac]
  refine Aw [(4,AA (EQ o [(IntKind.wrap .u8 (m:Int))] Ax Ax) [(0,0),(1,2)] [(2,3)])] [] 4 V λV=>EY ?_
  obtain⟨gs,V⟩:=V.rx [(0,0),(1,3)] [4] [0,1] 2 Y
  exact Ec rfl (.inr rfl) V [.cp 0 0] [(0,some (Pf 1)),(1,some (.sl 5 Bg (o++[(IntKind.wrap .u8 (m:Int))])))] rfl (by show E6 _ [(0,Pf 1),(1,.sl 5 Bg (([]:Ad)++Ah n))] true;rw[<-e];exact⟨rfl,rfl,aa⟩)
theorem Dq (b xs:Ad) (hb:b.length<=80000000000) (hx:xs.length<=10000000000):AP 48 ⟨[.cp 0 0,lb xs],[(0,Pf 1),(1,.sl 5 Bg b)],.cp 0 0,[(0,Pf 2),(2,.sl 5 Bg ((b++Ah xs.length)++xs))]⟩:=by
 refine cy 2 func48 rfl ntmps48 λY V=>Aj [] 2 V λV=>Ar ?_
 have h10:=Aq (n:=xs.length) Ac
 refine Aw [(3,JZ xs.length),(4,AA (BP b xs.length Ax Ac) [(0,0),(1,1)] [(2,2)]),(6,AA (EQ (b++Ah xs.length) xs Ax Ax) [(0,0),(1,2)] [(2,3)])] [] 4 V λV=>EY ?_
 obtain⟨gs,V⟩:=V.rx [(0,0),(1,1),(2,3)] [4] [0,2] 3 Y
 exact BW V
theorem Jj (xs:Ad) (hx:xs.length<=10000000000):AP 48 ⟨[.cp 0 0,lb xs],[(0,sB)],.cp 0 0,[(0,Pf 1),(1,.sl 5 Bg (([]++Ah xs.length)++xs))]⟩:=by
 refine cy 1 func48 rfl ntmps48 λY V=>Aj [] 1 V λV=>Ar ?_
 have h10:=Aq (n:=xs.length) Ac
 refine Aw [(3,JZ xs.length),(4,AA (MK xs.length Ac) [(0,0)] [(1,1)]),(6,AA (EQ ([]++Ah xs.length) xs Ax Ax) [(0,0),(1,1)] [(2,2)])] [] 3 V λV=>EY ?_
 obtain⟨gs,V⟩:=V.rx [(0,0),(1,2)] [4] [0,1] 2 Y
 exact BW V
theorem Gd (b:Ad) (hb:b.length<=90000000000000):AP 49 ⟨[.cp 0 0],[(0,Pf 1),(1,.sl 5 Bg b)],lb b,[(0,.ob 97 (Jg [lb b]))]⟩:=by
 refine cy 2 func49 rfl ntmps49 λY V=>Aj [] 2 V λV=>Ar (Aj [] 2 V λV=>Ai V (DG ?_))
 obtain⟨gs,V⟩:=V.fz 1
 exact Aw [(4,AS (Ee b Ax))] [] 2 V λV=>EY (BW V)
section
variable (x:Int)
def Cy (k:Int):Int:=AV ((Em .u32 (BX .u32 x (Bz .u64 (IntKind.wrap .u64 k) 31)) (Bh .u32 x (FC .u64 32 (Bz .u64 (IntKind.wrap .u64 k) 31)))))
def u3 (k:Int) (z_:Int:=Cy x k):Con:=⟨[.v (.int .u32 x),vi k],[],.v (.int .u32 z_),[]⟩
theorem FA (k:Int):AP 191 (u3 x k):=by
 exact cy 0 func191 rfl ntmps191 λY V=>Aj [] 0 V λV=>Aj [] 0 V λV=>Ay [(2,P8 ((0:Int)<=(Bz .u64 (IntKind.wrap .u64 k) 31)) (KZ rfl)),(6,P8 ((0:Int)<=(FC .u64 32 (Bz .u64 (IntKind.wrap .u64 k) 31))) (KZ rfl))] [] 0 V λV=>AY (BV (Ab _) V)
def LI (x8:Nat):Ad->Ad:=λx3=>x3.set x8 (IntKind.wrap .u8 (Bh .u64 x ((8*x8:Nat):Int)))
def F4 (x:Int):Nat->Ad
 |0=>replicate 8 (0:Int)
 |x8+1=>LI x x8 (F4 x x8)
def FQ:Ad:=AV (F4 x 8)
end
@[simp] theorem Um (x:Int):(FQ x).length=8:=by
 have key:∀i,(F4 x i).length=8:=by
  intro i
  induction i with
  |zero=>rfl
  |succ i ih=>exact(da ..).trans ih
 unfold FQ;rw[Ab]
 exact key 8
def YH (x:Int) (z_:Ad:=FQ x):Con:=⟨[.v (.int .u64 x)],[],.sk 0,[(0,.sl 5 Bg z_)]⟩
theorem Wt (x:Int):AP 185 (YH x):=by
 refine cy 0 func185 rfl ntmps185 λY V=>Aj [] 0 V λV=>Ay [(0,fD 8 1)] [] 1 V λV=>Ar (Ay [(1,Ly 8 [(((replicate 8 (0:Int)).length:Nat):Int)=8] ⟨by rw[az];rfl,aa⟩)] [] 1 V λV=>BC (AC (ι:=Nat×Ad) Y V (λ(x8,x3)=>(8-x8,[(8,vi ((x8:Nat):Int))],[(0,.sl 5 Bg x3)],(x8<=8)/\(x3=F4 x x8)/\(x3.length=8)/\True)) [0,2,3,7] [] 1 (0,replicate 8 (0:Int)) [(0,0)] ⟨Ac,rfl,rfl,aa⟩ ?_))
 rintro⟨x8,x3⟩ ac gs ws ⟨hx8,hq1,p1,_⟩ V
 refine Aj [] 1 V λV=>Ar (AJ ((x8:Int)<8) V (λh1=> ?_) (λh1=> ?_))
 ·exact B3 (Aj [] 1 V λV=>Aw [(4,IC 8 x8 (8*x8)),(5,F_ (8*x8)),(7,AH x8 x3.length)] [] 1 V λV=>Ck (Aw [(0,Cu x8)] [8] 1 V λV=>Ae (As Y V (x8+1,x3.set x8 (IntKind.wrap .u8 (Bh .u64 x ((8*x8:Nat):Int)))) [(0,0)] ⟨Ac,(Bm (st:=LI _) hq1 rfl rfl),(by rw[da];exact p1),aa⟩)))
 ·have hT:=V
  obtain rfl:8=x8:=by omega
  obtain rfl:=hq1.symm
  have V:=hT
  exact Dw (Aj [] 1 V λV=>AY (BV (Ab _) V))
def Sy (k1:Nat):(Nat×Nat×Ad)->(Nat×Nat×Ad):=λ(x2,x3,x0)=>(x2+1,x3-1,(x0.set x2 (x0.getD x3 0)).set x3 (x0.getD x2 0))
def Hl (xs:Ad):Nat->Nat×Nat×Ad
 |0=>(0,xs.length-1,xs)
 |k1+1=>Sy k1 (Hl xs k1)
def Sz:(Nat×Nat×Ad)->Prop:=λ(x2,x3,x0)=>((x2:Nat):Int)<(x3:Int)
section
variable (xs:Ad)
def Od:Ad:=AV ((Hl xs (D3 λj=>Sz (Hl xs j))).2.2)
theorem g6 (h:xs.length=8):(Od xs).length=8:=by
 have key:∀i,(Hl xs i).2.2.length=8:=by
  intro i
  induction i with
  |zero=>exact h
  |succ i ih=>
   show(((Hl xs i).2.2.set _ _).set _ _).length=8
   rw[da,da];exact ih
 unfold Od;rw[Ab]
 exact key _
def AaG (z_:Ad:=Od xs):Con:=⟨[.sk 0],[(0,.sl 5 Bg xs)],.tu (Jg []),[(0,.sl 5 Bg z_)]⟩
theorem q7 (h:xs.length=8):AP 186 (AaG xs):=by
 refine cy 1 func186 rfl ntmps186 λY V=>Ay [(2,IM xs.length 1 (xs.length-1))] [] 1 V λV=>BC (AC (ι:=Nat×Nat×Nat×Ad) Y V (λ(k1,x2,x3,x0)=>(x3-x2,[(2,vi (x2:Int)),(3,vi (x3:Int))],[(0,.sl 5 Bg x0)],((x2,x3,x0)=Hl xs k1)/\(∀j,j<k1->Sz (Hl xs j))/\(x0.length=8)/\(x3<8)/\True)) [0] [] 1 (0,0,xs.length-1,xs) [(0,0)] ⟨rfl,(λj h=>absurd h (be j)),h,Ac,aa⟩ ?_)
 rintro⟨k1,x2,x3,x0⟩ ac gs ws ⟨hq1,hj1,p1,p2,_⟩ V
 refine Ar (Aj [] 1 V λV=>AJ ((x2:Int)<(x3:Int)) V (λh1=> ?_) (λh1=> ?_))
 ·refine B3 ?_
  have hsl:(x0.set x2 (x0.getD x3 0)).length=8:=by rw[da];exact p1
  exact Aw [(6,AH x3 x0.length),(10,AH x2 x0.length),(12,AH x2 x0.length),(14,AH x3 ((x0.set x2 (x0.getD x3 0)).length))] [] 1 V λV=>Ck (Aw [(1,Cu x2),(3,IM x3 1 (x3-1))] [2,3] 1 V λV=>Ae (As Y V (k1+1,x2+1,x3-1,(x0.set x2 (x0.getD x3 0)).set x3 (x0.getD x2 0)) [(0,0)] ⟨(Bm (st:=Sy) hq1 rfl rfl),(Br hj1 (by rw[<-hq1];exact h1)),(by rw[da,da];exact p1),Ac,aa⟩))
 ·have hT:=V
  obtain rfl:=CE (by rw[<-hq1];first |exact h1|exact cq h1) hj1
  obtain⟨rfl,rfl,rfl⟩:=jL hq1
  have V:=hT
  exact dA (Fg (Fg (GQ (l8 (Ab _) V))))
end
def Gk (x:Int):Ad:=AV (Od (FQ x))
@[simp] theorem K_ (x:Int):(Gk x).length=8:=by unfold Gk;rw[Ab];exact g6 _ (Um _)
def u6 (x:Int) (z_:Ad:=Gk x):Con:=⟨[.v (.int .u64 x)],[],lb z_,[]⟩
theorem QU (x:Int):AP 160 (u6 x):=by
 refine cy 0 func160 rfl ntmps160 λY V=>Aj [] 0 V λV=>Ay [(1,AA (Wt x) [] [(0,0)])] [] 1 V λV=>Ay [(1,AA (q7 (FQ x) (by first |omega|simp)) [(0,0)] [])] [] 1 V λV=>Aj [] 1 V λV=>AY ?_
 obtain⟨gs,V⟩:=V.fz 0
 exact BV (Ab _) V
def DV (x:Int):Ad:=AV ((Gk (IntKind.wrap .u64 x)).drop 4)
@[simp] theorem GB (x:Int):(DV x).length=4:=by unfold DV;rw[Ab];rw[av,K_]
def u7 (x:Int) (z_:Ad:=DV x):Con:=⟨[.v (.int .u32 x)],[],lb z_,[]⟩
theorem V6 (x:Int):AP 165 (u7 x):=by
 refine cy 0 func165 rfl ntmps165 λY V=>Aj [] 0 V λV=>Ar ?_
 have hp:=K_ (IntKind.wrap .u64 x)
 exact Aw [(2,AS (QU (IntKind.wrap .u64 x))),(3,ON 4 (Gk (IntKind.wrap .u64 x)).length)] [] 0 V λV=>EY (BV (Ab _) V)
section
variable (xs:Ad)
def Me (x4:Nat):Int->Int:=λx2=>if(x4:Int)<((xs.length:Nat):Int)then(Em .u64 (BX .u64 x2 8) (IntKind.wrap .u64 (xs.getD x4 0)))else(BX .u64 x2 8)
def Rm (xs:Ad):Nat->Int
 |0=>0
 |x4+1=>Me xs x4 (Rm xs x4)
def aA:Int:=AV (Rm xs 8)
def vB (z_:Int:=aA xs):Con:=⟨[lb xs],[],.v (.int .u64 z_),[]⟩
theorem lX:AP 206 (vB xs):=by
 refine cy 0 func206 rfl ntmps206 λY V=>Aj [] 0 V λV=>Ar (Aj [] 0 V λV=>BC (AC (ι:=Nat×Int) Y V (λ(x4,x2)=>(8-x4,[(2,.v (.int .u64 x2)),(4,vi ((x4:Nat):Int))],[],(x4<=8)/\(x2=Rm xs x4)/\True)) [0] [] 0 (0,0) [] ⟨Ac,rfl,aa⟩ ?_))
 rintro⟨x4,x2⟩ ac gs ws ⟨hx4,hq1,_⟩ V
 refine Aj [] 0 V λV=>Ar (AJ ((x4:Int)<8) V (λh1=> ?_) (λh1=> ?_))
 ·refine B3 (Aj [] 0 V λV=>Ay [(1,F_ 8)] [2] 0 V λV=>Aj [] 0 V λV=>AJ ((x4:Int)<((xs.length:Nat):Int)) V (λh2=> ?_) (λh2=> ?_))
  ·exact Aw [(3,AH x4 xs.length)] [2] 0 V λV=>Ck (Aw [(0,Cu x4)] [4] 0 V λV=>Ae (As Y V (x4+1,(Em .u64 (BX .u64 x2 8) (IntKind.wrap .u64 (xs.getD x4 0)))) [] ⟨Ac,(Bm (st:=Me _) hq1 rfl (Eq.symm (ah h2))),aa⟩))
  ·exact FN (Aw [(0,Cu x4)] [4] 0 V λV=>Ae (As Y V (x4+1,(BX .u64 x2 8)) [] ⟨Ac,(Bm (st:=Me _) hq1 rfl (Eq.symm (aj h2))),aa⟩))
 ·have hT:=V
  obtain rfl:8=x4:=by omega
  obtain rfl:=hq1.symm
  have V:=hT
  exact Dw (Aj [2] 0 V λV=>AY (BV (Ab _) V))
def Uw:Int:=AV ((IntKind.wrap .u32 (Bh .u64 (aA xs) 32)))
def vC (z_:Int:=Uw xs):Con:=⟨[lb xs],[],.v (.int .u32 z_),[]⟩
theorem lY:AP 190 (vC xs):=by
 exact cy 0 func190 rfl ntmps190 λY V=>Aj [] 0 V λV=>Ay [(1,AS (lX xs)),(2,F_ 32)] [] 0 V λV=>AY (BV (Ab _) V)
def PU (n:Nat):Ad:=AV (xs.take (replicate n (0:Int)).length++(replicate n (0:Int)).drop xs.length)
def vD (n:Nat) (z_:Ad:=PU xs n):Con:=⟨[lb xs,vi (n:Int)],[],.sk 0,[(0,.sl 5 Bg z_)]⟩
theorem mG (n:Nat) (hn:n<=100000000):AP 184 (vD xs n):=by
 exact cy 0 func184 rfl ntmps184 λY V=>Aj [] 0 V λV=>Ay [(1,fD n 1)] [] 1 V λV=>Aj [] 1 V λV=>Aj [] 1 V λV=>AY (BV (Ab _) V)
def Vl (ys:Ad) (x15:Nat):Ad->Ad:=λx5=>x5.set x15 (A0 .u8 (xs.getD x15 0) (ys.getD x15 0))
def LU (xs ys:Ad):Nat->Ad
 |0=>replicate (min xs.length ys.length) (0:Int)
 |x15+1=>Vl xs ys x15 (LU xs ys x15)
def J2 (ys:Ad):Ad:=AV (LU xs ys (min xs.length ys.length))
def AcN (ys:Ad) (z_:Ad:=J2 xs ys):Con:=⟨[lb xs,lb ys],[],.sk 0,[(0,.sl 5 Bg z_)]⟩
theorem xV (ys:Ad) (hn:xs.length<=100000000):AP 159 (AcN xs ys):=by
 refine cy 0 func159 rfl ntmps159 λY V=>Aj [] 0 V λV=>Ay [(4,Q2 xs.length ys.length),(5,fD (min xs.length ys.length) 1)] [] 1 V λV=>Ar (Ay [(1,Ly ((min xs.length ys.length:Nat):Int) [(((replicate (min xs.length ys.length) (0:Int)).length:Nat):Int)=((min xs.length ys.length:Nat):Int)] ⟨by rw[az],aa⟩)] [] 1 V λV=>BC (AC (ι:=Nat×Ad) Y V (λ(x15,x5)=>(min xs.length ys.length-x15,[(15,vi ((x15:Nat):Int))],[(0,.sl 5 Bg x5)],(x15<=min xs.length ys.length)/\(x5=LU xs ys x15)/\(x5.length=min xs.length ys.length)/\True)) [0,1,4,5,14] [] 1 (0,replicate (min xs.length ys.length) (0:Int)) [(0,0)] ⟨Ac,rfl,(by simp),aa⟩ ?_))
 rintro⟨x15,x5⟩ ac gs ws ⟨hx15,hq1,p1,_⟩ V
 refine Aj [] 1 V λV=>Ar (AJ ((x15:Int)<((min xs.length ys.length:Nat):Int)) V (λh1=> ?_) (λh1=> ?_))
 ·exact B3 (Aj [] 1 V λV=>Aw [(4,AH x15 xs.length),(8,AH x15 ys.length),(11,AH x15 x5.length)] [] 1 V λV=>Ck (Aw [(0,Cu x15)] [15] 1 V λV=>Ae (As Y V (x15+1,x5.set x15 (A0 .u8 (xs.getD x15 0) (ys.getD x15 0))) [(0,0)] ⟨Ac,(Bm (st:=Vl _ _) hq1 rfl rfl),(by rw[da];exact p1),aa⟩)))
 ·have hT:=V
  obtain rfl:min xs.length ys.length=x15:=by omega
  obtain rfl:=hq1.symm
  have V:=hT
  exact Dw (Aj [] 1 V λV=>AY (BV (Ab _) V))
end
def vX (x0:Nat->Int):O:= .ob 177 (Jg [.ar .u32 8 x0])
def Abq (x0:Nat->Int):O:= .ob 201 (Jg [.ar .u32 64 x0])
theorem d7 (xs:Ad) (h:xs.length<=100000000000000):AP 81 ⟨[lb xs],[],.sk 0,[(0,.sl 5 Bg xs)]⟩:=by
 refine cy 0 func81 rfl ntmps81 λY V=>Aj [] 0 V λV=>Ii ?_
 rcases V.nilor 0 Bg xs with⟨hn1,V⟩|V
 ·subst hn1
  refine Dl [] 0 V λV=>Ae (AG V (Aj [] 0 V λV=>AY (Ao ?_)))
  obtain⟨gs,V⟩:=V.nilk 2 5 Bg
  exact BW V
 ·refine Dl [] 0 V λV=>Ae (Ai V (Cb (Ay [(0,Np),(2,Gt 0 xs.length 1)] [] 2 V λV=>AY ?_)))
  obtain⟨gs,V⟩:=V.rx [(0,1)] [2] [0] 1 Y
  exact BW V
def Qs:(Nat->Int):=AV (upd (upd (upd (upd (upd (upd (upd (upd (λ_=>0) 0 7640891576956012808) 1 13503953896175478587) 2 4354685564936845355) 3 11912009170470909681) 4 5840696475078001361) 5 11170449401992604703) 6 2270897969802886507) 7 6620516959819538809)
def oQ (z_:(Nat->Int):=Qs):Con:=⟨[],[],.ar .u64 8 z_,[]⟩
theorem bS:AP 188 (oQ):=by
 exact cy 0 func188 rfl ntmps188 λY V=>Aj [] 1 V λV=>Aj [] 1 V λV=>AY (BV (Ab _) V)
def IS:(Nat->Int):=AV (upd (upd (upd (upd (upd (upd (upd (upd (upd (upd (upd (upd (upd (upd (upd (upd (upd (upd (upd (upd (upd (upd (upd (upd (upd (upd (upd (upd (upd (upd (upd (upd (upd (upd (upd (upd (upd (upd (upd (upd (upd (upd (upd (upd (upd (upd (upd (upd (upd (upd (upd (upd (upd (upd (upd (upd (upd (upd (upd (upd (upd (upd (upd (upd (upd (upd (upd (upd (upd (upd (upd (upd (upd (upd (upd (upd (upd (upd (upd (upd (λ_=>0) 0 4794697086780616226) 1 8158064640168781261) 2 13096744586834688815) 3 16840607885511220156) 4 4131703408338449720) 5 6480981068601479193) 6 10538285296894168987) 7 12329834152419229976) 8 15566598209576043074) 9 1334009975649890238) 10 2608012711638119052) 11 6128411473006802146) 12 8268148722764581231) 13 9286055187155687089) 14 11230858885718282805) 15 13951009754708518548) 16 16472876342353939154) 17 17275323862435702243) 18 1135362057144423861) 19 2597628984639134821) 20 3308224258029322869) 21 5365058923640841347) 22 6679025012923562964) 23 8573033837759648693) 24 10970295158949994411) 25 12119686244451234320) 26 12683024718118986047) 27 13788192230050041572) 28 14330467153632333762) 29 15395433587784984357) 30 489312712824947311) 31 1452737877330783856) 32 2861767655752347644) 33 3322285676063803686) 34 5560940570517711597) 35 5996557281743188959) 36 7280758554555802590) 37 8532644243296465576) 38 9350256976987008742) 39 10552545826968843579) 40 11727347734174303076) 41 12113106623233404929) 42 14000437183269869457) 43 14369950271660146224) 44 15101387698204529176) 45 15463397548674623760) 46 17586052441742319658) 47 1182934255886127544) 48 1847814050463011016) 49 2177327727835720531) 50 2830643537854262169) 51 3796741975233480872) 52 4115178125766777443) 53 5681478168544905931) 54 6601373596472566643) 55 7507060721942968483) 56 8399075790359081724) 57 8693463985226723168) 58 9568029438360202098) 59 10144078919501101548) 60 10430055236837252648) 61 11840083180663258601) 62 13761210420658862357) 63 14299343276471374635) 64 14566680578165727644) 65 15097957966210449927) 66 16922976911328602910) 67 17689382322260857208) 68 500013540394364858) 69 748580250866718886) 70 1242879168328830382) 71 1977374033974150939) 72 2944078676154940804) 73 3659926193048069267) 74 4368137639120453308) 75 4836135668995329356) 76 5532061633213252278) 77 6448918945643986474) 78 6902733635092675308) 79 7801388544844847127)
def eF (z_:(Nat->Int):=IS):Con:=⟨[],[],.ar .u64 80 z_,[]⟩
theorem XA:AP 189 (eF):=by
 exact cy 0 func189 rfl ntmps189 λY V=>Aj [] 1 V λV=>Aj [] 1 V λV=>AY (BV (Ab _) V)
def S7 (x6:Nat):(Nat->Int)->(Nat->Int):=λo1_0=>upd o1_0 x6 (A0 .u32 (o1_0 x6) (IntKind.wrap .u32 (Bh .u64 (Qs x6) 32)))
section
variable (h:Nat->Int)
def T7 (h:Nat->Int):Nat->(Nat->Int)
 |0=>h
 |x6+1=>S7 x6 (T7 h x6)
def Ox:(Nat->Int):=AV (T7 h 8)
def AaT (z_:(Nat->Int):=Ox h):Con:=⟨[.ar .u32 8 h],[],.ar .u32 8 z_,[]⟩
theorem T6:AP 162 (AaT h):=by
 refine cy 0 func162 rfl ntmps162 λY V=>Aj [] 2 V λV=>Ar (Ay [(0,AS (bS))] [] 2 V λV=>BC (AC (ι:=Nat×(Nat->Int)) Y V (λ(x6,o1_0)=>(8-x6,[(6,vi ((x6:Nat):Int))],[(0,vX o1_0)],(x6<=8)/\(o1_0=T7 h x6)/\True)) [1,2,5] [1] 2 (0,h) [(0,0),(1,1)] ⟨Ac,rfl,aa⟩ ?_))
 rintro⟨x6,o1_0⟩ ac gs ws ⟨hx6,hq1,_⟩ V
 refine Aj [] 2 V λV=>Ar (AJ ((x6:Int)<8) V (λh1=> ?_) (λh1=> ?_))
 ·exact B3 (Ay [(1,AH x6 8)] [] 2 V λV=>Aw [(1,AH x6 8),(4,F_ 32),(7,AH x6 8)] [] 2 V λV=>Ck (Aw [(0,Cu x6)] [6] 2 V λV=>Ae (As Y V (x6+1,upd o1_0 x6 (A0 .u32 (o1_0 x6) (IntKind.wrap .u32 (Bh .u64 (Qs x6) 32)))) [(0,0),(1,1)] ⟨Ac,(Bm (st:=S7) hq1 rfl rfl),aa⟩)))
 ·have hT:=V
  obtain rfl:8=x6:=by omega
  obtain rfl:=hq1.symm
  have V:=hT
  exact Dw (Aj [] 2 V λV=>AY (BV (Ab _) V))
end
def Jn (xs:Ad) (x22:Nat):(Nat->Int)->(Nat->Int):=λo5_0=>if(x22:Int)<16 then upd o5_0 x22 (Uw (xs.drop (4*x22)))else upd o5_0 x22 (A9 .u32 (A9 .u32 (A9 .u32 (o5_0 (x22-16)) (A0 .u32 (A0 .u32 (Cy (o5_0 (x22-15)) (-7)) (Cy (o5_0 (x22-15)) (-18))) (Bh .u32 (o5_0 (x22-15)) 3))) (o5_0 (x22-7))) (A0 .u32 (A0 .u32 (Cy (o5_0 (x22-2)) (-17)) (Cy (o5_0 (x22-2)) (-19))) (Bh .u32 (o5_0 (x22-2)) 10)))
def Gy (xs:Ad):Nat->(Nat->Int)
 |0=>λ_=>0
 |x22+1=>Jn xs x22 (Gy xs x22)
def MU (xs:Ad) (x75:Nat):(Nat->Int)->(Nat->Int):=λo12_0=>upd (upd (upd (upd (upd (upd (upd (upd (λ_=>0) 0 (A9 .u32 (A9 .u32 (A9 .u32 (A9 .u32 (A9 .u32 (o12_0 7) (A0 .u32 (A0 .u32 (Cy (o12_0 4) (-6)) (Cy (o12_0 4) (-11))) (Cy (o12_0 4) (-25)))) (A0 .u32 (Bz .u32 (o12_0 4) (o12_0 5)) (Bz .u32 (Mc .u32 (o12_0 4)) (o12_0 6)))) (IntKind.wrap .u32 (Bh .u64 (IS x75) 32))) ((Gy xs 64) x75)) (A9 .u32 (A0 .u32 (A0 .u32 (Cy (o12_0 0) (-2)) (Cy (o12_0 0) (-13))) (Cy (o12_0 0) (-22))) (A0 .u32 (A0 .u32 (Bz .u32 (o12_0 0) (o12_0 1)) (Bz .u32 (o12_0 0) (o12_0 2))) (Bz .u32 (o12_0 1) (o12_0 2)))))) 1 (o12_0 0)) 2 (o12_0 1)) 3 (o12_0 2)) 4 (A9 .u32 (o12_0 3) (A9 .u32 (A9 .u32 (A9 .u32 (A9 .u32 (o12_0 7) (A0 .u32 (A0 .u32 (Cy (o12_0 4) (-6)) (Cy (o12_0 4) (-11))) (Cy (o12_0 4) (-25)))) (A0 .u32 (Bz .u32 (o12_0 4) (o12_0 5)) (Bz .u32 (Mc .u32 (o12_0 4)) (o12_0 6)))) (IntKind.wrap .u32 (Bh .u64 (IS x75) 32))) ((Gy xs 64) x75)))) 5 (o12_0 4)) 6 (o12_0 5)) 7 (o12_0 6)
section
variable (h:Nat->Int) (xs:Ad)
def Jm (h:Nat->Int) (xs:Ad):Nat->(Nat->Int)
 |0=>h
 |x75+1=>MU xs x75 (Jm h xs x75)
def MS (x159:Nat):(Nat->Int)->(Nat->Int):=λo2_0=>upd o2_0 x159 (A9 .u32 (o2_0 x159) ((Jm h xs 64) x159))
def LY (h:Nat->Int) (xs:Ad):Nat->(Nat->Int)
 |0=>h
 |x159+1=>MS h xs x159 (LY h xs x159)
def IQ:(Nat->Int):=AV (LY h xs 8)
def eE (z_:(Nat->Int):=IQ h xs):Con:=⟨[.ar .u32 8 h,lb xs],[],.ar .u32 8 z_,[]⟩
theorem Ql (hx:64<=xs.length):AP 163 (eE h xs):=by
 refine cy 0 func163 rfl ntmps163 λY V=>Aj [] 2 V λV=>Aj [] 3 V λV=>Ay [(0,AS (XA))] [6] 4 V λV=>Ar (Aj [] 4 V λV=>BC (AC (ι:=Nat×(Nat->Int)) Y V (λ(x22,o5_0)=>(64-x22,[(22,vi ((x22:Nat):Int))],[(2,Abq o5_0)],(x22<=64)/\(o5_0=Gy xs x22)/\True)) [1,2,4,5,6] [0,1,3] 4 (0,λ_=>0) [(0,0),(1,1),(2,2),(3,3)] ⟨Ac,rfl,aa⟩ ?_))
 rintro⟨x22,o5_0⟩ ac gs ws ⟨hx22,hq1,_⟩ V
 refine Aj [] 4 V λV=>Ar (AJ ((x22:Int)<64) V (λh1=> ?_) (λh1=> ?_))
 ·refine B3 (Aj [] 4 V λV=>Ar (Aj [] 4 V λV=>AJ ((x22:Int)<16) V (λh2=> ?_) (λh2=> ?_)))
  ·exact Ay [(3,IC 4 x22 (4*x22)),(4,ON (4*x22) xs.length),(5,AS (lY (xs.drop (4*x22)))),(6,AH x22 64)] [] 4 V λV=>dA (Fg (GQ (Ae (Aw [(0,Cu x22)] [22] 4 V λV=>Ae (As Y V (x22+1,upd o5_0 x22 (Uw (xs.drop (4*x22)))) [(0,0),(1,1),(2,2),(3,3)] ⟨Ac,(Bm (st:=Jn _) hq1 rfl (Eq.symm (ah h2))),aa⟩)))))
  ·exact Cb (Ay [(1,IM x22 15 (x22-15)),(2,AH (x22-15) 64),(5,IM x22 2 (x22-2)),(6,AH (x22-2) 64)] [] 4 V λV=>Ay [(1,AS (FA (o5_0 (x22-15)) (-7))),(3,AS (FA (o5_0 (x22-15)) (-18))),(6,F_ 3)] [] 4 V λV=>Ay [(1,AS (FA (o5_0 (x22-2)) (-17))),(3,AS (FA (o5_0 (x22-2)) (-19))),(6,F_ 10)] [] 4 V λV=>Aw [(2,IM x22 16 (x22-16)),(3,AH (x22-16) 64),(8,IM x22 7 (x22-7)),(9,AH (x22-7) 64),(14,AH x22 64)] [] 4 V λV=>Ck (Aw [(0,Cu x22)] [22] 4 V λV=>Ae (As Y V (x22+1,upd o5_0 x22 (A9 .u32 (A9 .u32 (A9 .u32 (o5_0 (x22-16)) (A0 .u32 (A0 .u32 (Cy (o5_0 (x22-15)) (-7)) (Cy (o5_0 (x22-15)) (-18))) (Bh .u32 (o5_0 (x22-15)) 3))) (o5_0 (x22-7))) (A0 .u32 (A0 .u32 (Cy (o5_0 (x22-2)) (-17)) (Cy (o5_0 (x22-2)) (-19))) (Bh .u32 (o5_0 (x22-2)) 10)))) [(0,0),(1,1),(2,2),(3,3)] ⟨Ac,(Bm (st:=Jn _) hq1 rfl (Eq.symm (aj h2))),aa⟩)))
 ·have hT:=V
  obtain rfl:64=x22:=by omega
  obtain rfl:=hq1.symm
  have V:=hT
  refine Dw (Aj [12] 5 V λV=>Ar (Aj [] 5 V λV=>BC (AC (ι:=Nat×(Nat->Int)) Y V (λ(x75,o12_0)=>(64-x75,[(75,vi ((x75:Nat):Int))],[(4,vX o12_0)],(x75<=64)/\(o12_0=Jm h xs x75)/\True)) [2,4,5,6,12] [0,1,2,3] 5 (0,h) [(0,0),(1,1),(2,2),(3,3),(4,4)] ⟨Ac,rfl,aa⟩ ?_)))
  rintro⟨x75,o12_0⟩ ac gs ws ⟨hx75,hq2,_⟩ V
  refine Aj [] 5 V λV=>Ar (AJ ((x75:Int)<64) V (λh3=> ?_) (λh3=> ?_))
  ·exact B3 (Aj [] 5 V λV=>Ay [(0,AH 0 8),(2,AH 4 8)] [] 5 V λV=>Ay [(1,AS (FA (o12_0 4) (-6))),(3,AS (FA (o12_0 4) (-11))),(6,AS (FA (o12_0 4) (-25)))] [] 5 V λV=>Ay [(0,AH 7 8),(5,AH 5 8),(10,AH 6 8),(16,AH x75 80),(18,F_ 32),(22,AH x75 64)] [] 5 V λV=>Ay [(1,AS (FA (o12_0 0) (-2))),(3,AS (FA (o12_0 0) (-13))),(6,AS (FA (o12_0 0) (-22)))] [] 5 V λV=>Ay [(2,AH 1 8),(6,AH 2 8),(10,AH 1 8),(12,AH 2 8)] [] 5 V λV=>Aw [(4,AH 1 8),(6,AH 2 8),(8,AH 3 8),(13,AH 5 8),(15,AH 6 8)] [] 5 V λV=>Ck (Aw [(0,Cu x75)] [75] 5 V λV=>Ae (As Y V (x75+1,upd (upd (upd (upd (upd (upd (upd (upd (λ_=>0) 0 (A9 .u32 (A9 .u32 (A9 .u32 (A9 .u32 (A9 .u32 (o12_0 7) (A0 .u32 (A0 .u32 (Cy (o12_0 4) (-6)) (Cy (o12_0 4) (-11))) (Cy (o12_0 4) (-25)))) (A0 .u32 (Bz .u32 (o12_0 4) (o12_0 5)) (Bz .u32 (Mc .u32 (o12_0 4)) (o12_0 6)))) (IntKind.wrap .u32 (Bh .u64 (IS x75) 32))) ((Gy xs 64) x75)) (A9 .u32 (A0 .u32 (A0 .u32 (Cy (o12_0 0) (-2)) (Cy (o12_0 0) (-13))) (Cy (o12_0 0) (-22))) (A0 .u32 (A0 .u32 (Bz .u32 (o12_0 0) (o12_0 1)) (Bz .u32 (o12_0 0) (o12_0 2))) (Bz .u32 (o12_0 1) (o12_0 2)))))) 1 (o12_0 0)) 2 (o12_0 1)) 3 (o12_0 2)) 4 (A9 .u32 (o12_0 3) (A9 .u32 (A9 .u32 (A9 .u32 (A9 .u32 (o12_0 7) (A0 .u32 (A0 .u32 (Cy (o12_0 4) (-6)) (Cy (o12_0 4) (-11))) (Cy (o12_0 4) (-25)))) (A0 .u32 (Bz .u32 (o12_0 4) (o12_0 5)) (Bz .u32 (Mc .u32 (o12_0 4)) (o12_0 6)))) (IntKind.wrap .u32 (Bh .u64 (IS x75) 32))) ((Gy xs 64) x75)))) 5 (o12_0 4)) 6 (o12_0 5)) 7 (o12_0 6)) [(0,0),(1,1),(2,2),(3,3),(4,4)] ⟨Ac,(Bm (st:=MU _) hq2 rfl rfl),aa⟩)))
  ·have hT:=V
   obtain rfl:64=x75:=by omega
   obtain rfl:=hq2.symm
   have V:=hT
   refine JH (Aj [] 5 V λV=>BC (AC (ι:=Nat×(Nat->Int)) Y V (λ(x159,o2_0)=>(8-x159,[(159,vi ((x159:Nat):Int))],[(0,vX o2_0)],(x159<=8)/\(o2_0=LY h xs x159)/\True)) [2,4,12] [1,4] 5 (0,h) [(0,0),(1,1),(4,4)] ⟨Ac,rfl,aa⟩ ?_))
   rintro⟨x159,o2_0⟩ ac gs ws ⟨hx159,hq3,_⟩ V
   refine Aj [] 5 V λV=>Ar (AJ ((x159:Int)<8) V (λh4=> ?_) (λh4=> ?_))
   ·exact B3 (Aj [] 5 V λV=>Aw [(1,AH x159 8),(4,AH x159 8),(7,AH x159 8)] [] 5 V λV=>Ck (Aw [(0,Cu x159)] [159] 5 V λV=>Ae (As Y V (x159+1,upd o2_0 x159 (A9 .u32 (o2_0 x159) ((Jm h xs 64) x159))) [(0,0),(1,1),(4,4)] ⟨Ac,(Bm (st:=MS _ _) hq3 rfl rfl),aa⟩)))
   ·have hT:=V
    obtain rfl:8=x159:=by omega
    obtain rfl:=hq3.symm
    have V:=hT
    exact Dw (Aj [] 5 V λV=>AY (BV (Ab _) V))
end
section
variable (xs:Ad) (n:Int)
def I6:Ad:=AV ((((xs++([128]:Ad))++replicate ((120-(((xs++([128]:Ad)).length)%64))%64) (0:Int))++replicate 0 (0:Int))++(Gk (BN .u64 8 n)))
def o4 (z_:Ad:=I6 xs n):Con:=⟨[lb xs,.v (.int .u64 n),vi 64],[],lb z_,[]⟩
theorem cS (hx:xs.length<=1000000000000):AP 164 (o4 xs n):=by
 refine cy 0 func164 rfl ntmps164 λY V=>Aj [] 0 V λV=>Ay [(1,AA (d7 xs Ax) [] [(0,0)]),(3,Gt xs.length 1 1)] [] 2 V λV=>Ay [(1,Pe ((8:Int)≠0))] [] 2 V λV=>Ay [(8,MA ((xs++([128]:Ad)).length) 64),(9,IM 120 (((xs++([128]:Ad)).length)%64) (120-(((xs++([128]:Ad)).length)%64))),(11,MA (120-(((xs++([128]:Ad)).length)%64)) 64),(12,qD [(0:Int)<=(((120-(((xs++([128]:Ad)).length)%64))%64:Nat):Int),(xs++([128]:Ad)).length+((120-(((xs++([128]:Ad)).length)%64))%64)<=9223372036854775807,((xs++([128]:Ad)).length+((120-(((xs++([128]:Ad)).length)%64))%64))*1<=140737488355328] ⟨by omega,by simp<;>omega,by simp<;>omega,aa⟩)] [7] 3 V λV=>Ay [(3,qD [(0:Int)<=0,((xs++([128]:Ad))++replicate ((120-(((xs++([128]:Ad)).length)%64))%64) (0:Int)).length+0<=9223372036854775807,(((xs++([128]:Ad))++replicate ((120-(((xs++([128]:Ad)).length)%64))%64) (0:Int)).length+0)*1<=140737488355328] ⟨by omega,by simp<;>omega,by simp<;>omega,aa⟩)] [7] 4 V λV=>Ay [(3,AS (QU (BN .u64 8 n))),(4,Gt ((((xs++([128]:Ad))++replicate ((120-(((xs++([128]:Ad)).length)%64))%64) (0:Int))++replicate 0 (0:Int)).length) ((Gk (BN .u64 8 n)).length) 1)] [] 5 V λV=>AY ?_
 obtain⟨gs,V⟩:=V.fz 4
 exact BV (Ab _) V
end
def U8 (x0:Nat->Int) (x1:Ad) (x2:Int):O:= .ob 179 (Jg [.ar .u32 8 x0,lb x1,.v (.int .u64 x2)])
theorem XW (xs:Ad) (n:Int):(I6 xs n).length%64=0/\(I6 xs n).length<=xs.length+200:=by
 unfold I6;rw[Ab]
 simp only[ab,aw,au,az,K_]
 omega
def Tj (k1:Nat):(Ad×(Nat->Int))->(Ad×(Nat->Int)):=λ(x4,o5_0)=>(x4.drop 64,IQ o5_0 x4)
def DD (h:Nat->Int) (r b:Ad):Nat->Ad×(Nat->Int)
 |0=>([r,b].flatten,Ox h)
 |k1+1=>Tj k1 (DD h r b k1)
def F6:(Ad×(Nat->Int))->Prop:=λ(x4,o5_0)=>(64:Int)<=((x4.length:Nat):Int)
section
variable (h:Nat->Int) (r:Ad) (n:Int) (b:Ad)
def Ei:(Nat->Int)×Ad×Int:=AV ((Ox ((DD h r b (D3 λj=>F6 (DD h r b j))).2),(DD h r b (D3 λj=>F6 (DD h r b j))).1,(A9 .u64 n ((b.length:Nat):Int))))
def AaZ (z_:(Nat->Int)×Ad×Int:=Ei h r n b):Con:=⟨[.cp 0 0,lb b],[(0,U8 h r n)],.tu (Jg []),[(0,U8 (z_.1) (z_.2.1) (z_.2.2))]⟩
theorem PM (hr:r.length<=100000000000) (hb:b.length<=100000000000):AP 122 (AaZ h r n b):=by
 refine cy 1 func122 rfl ntmps122 λY V=>Ar (Aj [] 1 V λV=>Ai V (Cb (Ay [(6,JZ b.length)] [] 1 V λV=>Ay [(6,AA (Tn [r,b] (by first |omega|(simp only[bd,ce,ab,aw,au,ap,av,az]<;>omega)|(simp<;>omega))) [] [(0,1)])] [] 2 V λV=>Ay [(3,Ik (.ar .u32 8 h) [(.ar .u32 8 h:D)=(.ar .u32 8 h)] ⟨rfl,aa⟩),(4,AS (T6 h))] [5] 3 V λV=>Ar (BC ?_))))
 obtain⟨gs,V⟩:=V.fz 1
 refine AC (ι:=Nat×Ad×(Nat->Int)) Y V (λ(k1,x4,o5_0)=>(x4.length,[(4,lb x4)],[(2,vX o5_0)],((x4,o5_0)=DD h r b k1)/\(∀j,j<k1->F6 (DD h r b j))/\(x4.length<=r.length+b.length)/\True)) [0,5] [0] 3 (0,[r,b].flatten,Ox h) [(0,0),(2,2)] ⟨rfl,(λj h=>absurd h (be j)),(by simp),aa⟩ ?_
 rintro⟨k1,x4,o5_0⟩ ac gs ws ⟨hq1,hj1,p1,_⟩ V
 refine Ar (Aj [] 3 V λV=>AJ ((64:Int)<=((x4.length:Nat):Int)) V (λh1=> ?_) (λh1=> ?_))
 ·exact Cb (BC (Ay [(0,Ik (.ar .u32 8 o5_0) [(.ar .u32 8 o5_0:D)=(.ar .u32 8 o5_0)] ⟨rfl,aa⟩),(2,J0 (Ql o5_0 x4 Ax) [] [] [.ar .u32 8 o5_0,lb x4] [])] [] 3 V λV=>Aw [(1,ON 64 x4.length)] [4] 3 V λV=>Ck (As Y V (k1+1,x4.drop 64,IQ o5_0 x4) [(0,0),(2,2)] ⟨(Bm (st:=Tj) hq1 rfl rfl),(Br hj1 (by rw[<-hq1];exact h1)),(by rw[av];omega),aa⟩ (show(x4.drop 64).length<x4.length from by rw[av];omega))))
 ·have hT:=V
  obtain rfl:=CE (by rw[<-hq1];first |exact h1|exact cq h1) hj1
  obtain⟨rfl,rfl⟩:=T1 hq1
  have V:=hT
  exact Dw (Aw [(2,Ik (.ar .u32 8 ((DD h r b (D3 λj=>F6 (DD h r b j))).2)) [(.ar .u32 8 ((DD h r b (D3 λj=>F6 (DD h r b j))).2):D)=(.ar .u32 8 ((DD h r b (D3 λj=>F6 (DD h r b j))).2))] ⟨rfl,aa⟩),(3,AS (T6 ((DD h r b (D3 λj=>F6 (DD h r b j))).2))),(5,AS (Ee ((DD h r b (D3 λj=>F6 (DD h r b j))).1) Ax))] [] 3 V λV=>l8 (Ab _) V)
end
def Ti (k1:Nat):(Ad×(Nat->Int))->(Ad×(Nat->Int)):=λ(x4,o3_0)=>(x4.drop 64,IQ o3_0 x4)
def Gs (h:Nat->Int) (r:Ad) (n:Int):Nat->Ad×(Nat->Int)
 |0=>(I6 r n,Ox h)
 |k1+1=>Ti k1 (Gs h r n k1)
def Ja:(Ad×(Nat->Int))->Prop:=λ(x4,o3_0)=>(0:Int)<((x4.length:Nat):Int)
section
variable (h:Nat->Int) (r:Ad) (n:Int)
def Tg (x32:Nat):Ad->Ad:=λx2=>x2++(DV (((Gs h r n (D3 λj=>Ja (Gs h r n j))).2) x32))
def Lj (h:Nat->Int) (r:Ad) (n:Int):Nat->Ad
 |0=>[]
 |x32+1=>Tg h r n x32 (Lj h r n x32)
def Fy:Ad:=AV (Lj h r n 8)
end
@[simp] theorem Wz (h:Nat->Int) (r:Ad) (n:Int):(Fy h r n).length=32:=by
 have key:∀i,(Lj h r n i).length=4*i:=by
  intro i
  induction i with
  |zero=>rfl
  |succ i ih=>show(Lj h r n i++DV _).length=_;rw[ab,GB,ih];omega
 unfold Fy;rw[Ab]
 exact key 8
section
variable (h:Nat->Int) (r:Ad) (n:Int)
def AaY (z_:Ad:=Fy h r n):Con:=⟨[.cp 0 0],[(0,U8 h r n)],.sk 1,[(0,U8 h r n),(1,.sl 5 Bg z_)]⟩
theorem Z_ (hr:r.length<=100000000000):AP 125 (AaY h r n):=by
 refine cy 1 func125 rfl ntmps125 λY V=>Aj [] 1 V λV=>Ar (Aj [] 1 V λV=>Ai V (Cb (Ay [(3,Ik (.ar .u32 8 h) [(.ar .u32 8 h:D)=(.ar .u32 8 h)] ⟨rfl,aa⟩),(4,AS (T6 h))] [3] 2 V λV=>Ar (Ay [(8,AS (cS r n Ax))] [] 2 V λV=>BC (AC (ι:=Nat×Ad×(Nat->Int)) Y V (λ(k1,x4,o3_0)=>(x4.length,[(4,lb x4)],[(1,vX o3_0)],((x4,o3_0)=Gs h r n k1)/\(∀j,j<k1->Ja (Gs h r n j))/\(x4.length%64=0/\x4.length<=r.length+200)/\True)) [2,3] [0] 2 (0,I6 r n,Ox h) [(0,0),(1,1)] ⟨rfl,(λj h=>absurd h (be j)),(XW r n),aa⟩ ?_)))))
 rintro⟨k1,x4,o3_0⟩ ac gs ws ⟨hq1,hj1,p1,_⟩ V
 refine Ar (Aj [] 2 V λV=>AJ ((0:Int)<((x4.length:Nat):Int)) V (λh1=> ?_) (λh1=> ?_))
 ·exact B3 (Aw [(0,Ik (.ar .u32 8 o3_0) [(.ar .u32 8 o3_0:D)=(.ar .u32 8 o3_0)] ⟨rfl,aa⟩),(2,J0 (Ql o3_0 x4 Ax) [] [] [.ar .u32 8 o3_0,lb x4] [])] [] 2 V λV=>Ck (Aw [(1,ON 64 x4.length)] [4] 2 V λV=>Ae (As Y V (k1+1,x4.drop 64,IQ o3_0 x4) [(0,0),(1,1)] ⟨(Bm (st:=Ti) hq1 rfl rfl),(Br hj1 (by rw[<-hq1];exact h1)),(by rw[av];omega),aa⟩ (show(x4.drop 64).length<x4.length from by rw[av];omega))))
 ·have hT:=V
  obtain rfl:=CE (by rw[<-hq1];first |exact h1|exact cq h1) hj1
  obtain⟨rfl,rfl⟩:=T1 hq1
  have V:=hT
  refine JH (Aj [] 2 V λV=>BC ?_)
  obtain⟨gs,V⟩:=V.nilk 2 5 Bg
  refine AC (ι:=Nat×Ad) Y V (λ(x32,x2)=>(8-x32,[(32,vi ((x32:Nat):Int))],[(2,.sl 5 Bg x2)],(x32<=8)/\(x2=Lj h r n x32)/\(x2.length=4*x32)/\True)) [2,31] [0] 3 (0,[]) [(0,0),(2,2)] ⟨Ac,rfl,rfl,aa⟩ ?_
  rintro⟨x32,x2⟩ ac gs ws ⟨hx32,hq2,p2,_⟩ V
  refine Aj [] 3 V λV=>Ar (AJ ((x32:Int)<8) V (λh2=> ?_) (λh2=> ?_))
  ·exact B3 (Ay [(0,AH x32 8)] [] 3 V λV=>Aw [(2,AS (V6 (((Gs h r n (D3 λj=>Ja (Gs h r n j))).2) x32))),(3,Gt x2.length ((DV (((Gs h r n (D3 λj=>Ja (Gs h r n j))).2) x32)).length) 1 (by(simp only[GB,au];omega)))] [2] 4 V λV=>Ck (Aw [(0,Cu x32)] [32] 4 V λV=>Ae (As Y V (x32+1,x2++(DV (((Gs h r n (D3 λj=>Ja (Gs h r n j))).2) x32))) [(0,0),(2,3)] ⟨Ac,(Bm (st:=Tg _ _ _) hq2 rfl rfl),(by rw[ab,GB];omega),aa⟩)))
  ·have hT:=V
   obtain rfl:8=x32:=by omega
   obtain rfl:=hq2.symm
   have V:=hT
   refine Dw (Aj [2] 3 V λV=>AY ?_)
   obtain⟨gs,V⟩:=V.rx [(0,0),(1,2)] [2] [0,1] 2 Y
   exact BV (Ab _) V
theorem lO (hr:r.length<=100000000000):AP 125 ⟨[.cp 0 0],[(0,U8 h r n)],lb (Fy h r n),[(0,U8 h r n)]⟩:=ConOk.frz [(0,U8 h r n)] 1 5 Bg (Fy h r n) (Z_ h r n hr) (by kernel_rfl)
theorem WA (hr:r.length<=100000000000):AP 124 ⟨[.im (Jg [.ar .u32 8 h,lb r,.v (.int .u64 n)]) 0],[],.cp 0 0,[(0,U8 h r n)]⟩:=by
 exact cy 0 func124 rfl ntmps124 λY V=>Aj [] 0 V λV=>Ar (Aj [] 0 V λV=>Ai V (Cb (Ay [(3,Ik (.ar .u32 8 h) [(.ar .u32 8 h:D)=(.ar .u32 8 h)] ⟨rfl,aa⟩),(8,AS (Ee r Ax))] [] 1 V λV=>AY (BW V))))
end
theorem Nz (h:Nat->Int) (r:Ad) (n:Int) (b:Ad):(Ei h r n b).2.1.length<=r.length+b.length:=by
 have key:∀k,(DD h r b k).1.length<=r.length+b.length:=by
  intro k
  induction k with
  |zero=>show[r,b].flatten.length<=_;simp
  |succ k ih=>show((DD h r b k).1.drop 64).length<=_;rw[av];omega
 unfold Ei;rw[Ab]
 exact key _
def O2 (x22:Nat):((Nat->Int)×(Nat->Int))->((Nat->Int)×(Nat->Int)):=λ(o4_0,o5_0)=>(upd o4_0 x22 (A0 .u8 (o4_0 x22) 54),upd o5_0 x22 (A0 .u8 (o4_0 x22) 92))
section
variable (key:Ad)
def D5 (key:Ad):Nat->(Nat->Int)×(Nat->Int)
 |0=>(Ey (λ_=>0) 0 (min key.length 64) (λj=>key.getD j 0),λ_=>0)
 |x22+1=>O2 x22 (D5 key x22)
def An:(Nat->Int)×Ad×Int×(Nat->Int)×Ad×Int:=AV (((Ei (λ_=>0) ([]:Ad) 0 ((List.range 64).map (D5 key 64).1)).1,(Ei (λ_=>0) ([]:Ad) 0 ((List.range 64).map (D5 key 64).1)).2.1,((Ei (λ_=>0) ([]:Ad) 0 ((List.range 64).map (D5 key 64).1)).2.2),(Ei (λ_=>0) ([]:Ad) 0 ((List.range 64).map (D5 key 64).2)).1,(Ei (λ_=>0) ([]:Ad) 0 ((List.range 64).map (D5 key 64).2)).2.1,((Ei (λ_=>0) ([]:Ad) 0 ((List.range 64).map (D5 key 64).2)).2.2)))
theorem Dt:(An key).2.1.length<=64/\(An key).2.2.2.2.1.length<=64:=by
 unfold An;rw[Ab]
 have h1:=Nz (λ_=>0) [] 0 ((List.range 64).map (D5 key 64).1)
 have h2:=Nz (λ_=>0) [] 0 ((List.range 64).map (D5 key 64).2)
 simp only[au,cg,d_]at h1 h2
 rw[br]at h1 h2
 exact⟨h1,h2⟩
def o5 (z_:(Nat->Int)×Ad×Int×(Nat->Int)×Ad×Int:=An key):Con:=⟨[lb key],[],.im (Jg [.im (Jg [.ar .u32 8 (z_.1),lb (z_.2.1),.v (.int .u64 (z_.2.2.1))]) 0,.im (Jg [.ar .u32 8 (z_.2.2.2.1),lb (z_.2.2.2.2.1),.v (.int .u64 (z_.2.2.2.2.2))]) 0]) 0,[]⟩
theorem I7 (hk:key.length<=64):AP 85 (o5 key):=by
 refine cy 0 func85 rfl ntmps85 λY V=> ?_
 have hf:¬(64:Int)<((key.length:Nat):Int):=Ac
 refine Aj [] 0 V λV=>Ar (Ay [(2,Do hf)] [] 0 V λV=>Ai V (Cb (Aj [] 3 V λV=>Aj [] 5 V λV=>Ay [(0,qD [FU none none none 64 64,64<=9223372036854775807,bl none 0<bl none 64] ⟨⟨by simp only[GE]<;>omega,by simp only[GE]<;>omega,by simp only[GE]<;>omega,by simp,by simp only[bl]<;>omega,by simp only[bl]<;>omega,by simp only[bl]<;>omega⟩,by omega,by decide,aa⟩)] [] 5 V λV=>Ar (Aj [] 5 V λV=>BC (AC (ι:=Nat×(Nat->Int)×(Nat->Int)) Y V (λ(x22,o4_0,o5_0)=>(64-x22,[(22,vi ((x22:Nat):Int))],[(3,.ob 182 (Jg [.ar .u8 64 o4_0])),(4,.ob 182 (Jg [.ar .u8 64 o5_0]))],(x22<=64)/\((o4_0,o5_0)=D5 key x22)/\True)) [2,3,4,5] [0,1,2] 5 (0,Ey (λ_=>0) 0 (min key.length 64) (λj=>key.getD j 0),λ_=>0) [(0,0),(1,1),(2,2),(3,3),(4,4)] ⟨Ac,rfl,aa⟩ ?_)))))
 rintro⟨x22,o4_0,o5_0⟩ ac gs ws ⟨hx22,hq1,_⟩ V
 refine Aj [] 5 V λV=>Ar (AJ ((x22:Int)<64) V (λh1=> ?_) (λh1=> ?_))
 ·exact B3 (Aj [] 5 V λV=>Aw [(3,AH x22 64),(7,AH x22 64),(10,AH x22 64),(12,AH x22 64)] [] 5 V λV=>Ck (Aw [(0,Cu x22)] [22] 5 V λV=>Ae (As Y V (x22+1,upd o4_0 x22 (A0 .u8 (o4_0 x22) 54),upd o5_0 x22 (A0 .u8 (o4_0 x22) 92)) [(0,0),(1,1),(2,2),(3,3),(4,4)] ⟨Ac,(Bm (st:=O2) hq1 rfl rfl),aa⟩)))
 ·have hT:=V
  obtain rfl:64=x22:=by omega
  obtain⟨rfl,rfl⟩:=T1 hq1
  have V:=hT
  refine JH ?_
  have V:=V.wko 0 [.top,lb [],.top]
  refine Aw [(4,R8 .frz [] aa),(5,AA (PM (λ_=>0) ([]:Ad) 0 ((List.range 64).map (D5 key 64).1) Ax Ax) [(0,0)] [])] [] 5 V λV=>CQ ?_
  have V:=V.wko 1 [.top,lb [],.top]
  refine Aw [(4,R8 .frz [] aa),(5,AA (PM (λ_=>0) ([]:Ad) 0 ((List.range 64).map (D5 key 64).2) Ax Ax) [(0,1)] [])] [] 5 V λV=> ?_
  obtain⟨gs,V⟩:=V.im 0
  obtain⟨gs,V⟩:=V.im 1
  obtain⟨gs,V⟩:=V.im 2
  exact Ae (Aj [] 5 V λV=>AY (BV (Ab _) V))
end
def Te (l:AZ) (x30:Nat):((Nat->Int)×Ad×Int)->((Nat->Int)×Ad×Int):=λ(o5_0,o5_1,o5_2)=>((Ei o5_0 o5_1 o5_2 (l.getD x30 AW)).1,(Ei o5_0 o5_1 o5_2 (l.getD x30 AW)).2.1,((Ei o5_0 o5_1 o5_2 (l.getD x30 AW)).2.2))
section
variable (u1:Nat->Int) (r1:Ad) (n1:Int)
def Ci (u1:Nat->Int) (r1:Ad) (n1:Int) (l:AZ):Nat->(Nat->Int)×Ad×Int
 |0=>(u1,r1,n1)
 |x30+1=>Te l x30 (Ci u1 r1 n1 l x30)
def Dn (u2:Nat->Int) (r2:Ad) (n2:Int) (l:AZ):Ad:=AV (Fy ((Ei u2 r2 n2 (Fy (Ci u1 r1 n1 l l.length).1 (Ci u1 r1 n1 l l.length).2.1 (Ci u1 r1 n1 l l.length).2.2)).1) ((Ei u2 r2 n2 (Fy (Ci u1 r1 n1 l l.length).1 (Ci u1 r1 n1 l l.length).2.1 (Ci u1 r1 n1 l l.length).2.2)).2.1) ((Ei u2 r2 n2 (Fy (Ci u1 r1 n1 l l.length).1 (Ci u1 r1 n1 l l.length).2.1 (Ci u1 r1 n1 l l.length).2.2)).2.2))
def AaW (u2:Nat->Int) (r2:Ad) (n2:Int) (l:AZ) (z_:Ad:=Dn u1 r1 n1 u2 r2 n2 l):Con:=⟨[.im (Jg [.im (Jg [.ar .u32 8 u1,lb r1,.v (.int .u64 n1)]) 0,.im (Jg [.ar .u32 8 u2,lb r2,.v (.int .u64 n2)]) 0]) 0,.ls false A8 l],[],.sk 0,[(0,.sl 5 Bg z_)]⟩
theorem ZZ (u2:Nat->Int) (r2:Ad) (n2:Int) (l:AZ) (hr1:r1.length<=64) (hr2:r2.length<=64) (hl:l.flatten.length<=50000000000):AP 86 (AaW u1 r1 n1 u2 r2 n2 l):=by
 refine cy 0 func86 rfl ntmps86 λY V=> ?_
 have BJ:l.length<=9223372036854775807:=V.len 1 rfl
 refine Aj [] 0 V λV=>Ar (Aj [] 0 V λV=>Ai V (DG (Aj [] 0 V λV=>Ai V (Cb (Ay [(4,AA (WA u1 r1 n1 Ax) [] [(0,0)]),(9,AA (WA u2 r2 n2 Ax) [] [(0,1)])] [] 2 V λV=>Ar (Aj [28] 2 V λV=>BC (AC (ι:=Nat×(Nat->Int)×Ad×Int) Y V (λ(x30,o5_0,o5_1,o5_2)=>(l.length-x30,[(30,vi ((x30:Nat):Int))],[(0,U8 o5_0 o5_1 o5_2)],(x30<=l.length)/\((o5_0,o5_1,o5_2)=Ci u1 r1 n1 l x30)/\(o5_1.length<=r1.length+(l.take x30).flatten.length)/\True)) [4,5,6,28,29] [1] 2 (0,u1,r1,n1) [(0,0),(1,1)] ⟨Ac,rfl,(by simp),aa⟩ ?_)))))))
 rintro⟨x30,o5_0,o5_1,o5_2⟩ ac gs ws ⟨hx30,hq1,p1,_⟩ V
 refine Aj [] 2 V λV=>Ar (AJ ((x30:Int)<((l.length:Nat):Int)) V (λh1=> ?_) (λh1=> ?_))
 ·refine B3 (Ay [(0,AH x30 l.length)] [] 2 V λV=> ?_)
  have hb:=Yz (l:=l) (j:=x30) Ac hl
  exact Aw [(2,AA (PM o5_0 o5_1 o5_2 (l.getD x30 AW) Ax Ax) [(0,0)] [])] [] 2 V λV=>Ck (Aw [(0,Cu x30)] [30] 2 V λV=>Ae (As Y V (x30+1,(Ei o5_0 o5_1 o5_2 (l.getD x30 AW)).1,(Ei o5_0 o5_1 o5_2 (l.getD x30 AW)).2.1,((Ei o5_0 o5_1 o5_2 (l.getD x30 AW)).2.2)) [(0,0),(1,1)] ⟨Ac,(Bm (st:=Te _) hq1 rfl rfl),(by have hc:=UT l x30 Ac;have ha:=Nz o5_0 o5_1 o5_2 (l.getD x30 AW);omega),aa⟩))
 ·have hT:=V
  obtain rfl:l.length=x30:=by omega
  obtain⟨rfl,rfl,rfl⟩:=jL hq1
  have V:=hT
  refine JH ?_
  rw[eh]at p1
  refine Aw [(2,AA (lO (Ci u1 r1 n1 l l.length).1 (Ci u1 r1 n1 l l.length).2.1 (Ci u1 r1 n1 l l.length).2.2 Ax) [(0,0)] []),(3,AA (PM u2 r2 n2 (Fy (Ci u1 r1 n1 l l.length).1 (Ci u1 r1 n1 l l.length).2.1 (Ci u1 r1 n1 l l.length).2.2) Ax Ax) [(0,1)] [])] [] 2 V λV=>CQ ?_
  have hx:=Nz u2 r2 n2 (Fy (Ci u1 r1 n1 l l.length).1 (Ci u1 r1 n1 l l.length).2.1 (Ci u1 r1 n1 l l.length).2.2)
  rw[Wz]at hx
  refine Aw [(1,AA (Z_ ((Ei u2 r2 n2 (Fy (Ci u1 r1 n1 l l.length).1 (Ci u1 r1 n1 l l.length).2.1 (Ci u1 r1 n1 l l.length).2.2)).1) ((Ei u2 r2 n2 (Fy (Ci u1 r1 n1 l l.length).1 (Ci u1 r1 n1 l l.length).2.1 (Ci u1 r1 n1 l l.length).2.2)).2.1) ((Ei u2 r2 n2 (Fy (Ci u1 r1 n1 l l.length).1 (Ci u1 r1 n1 l l.length).2.1 (Ci u1 r1 n1 l l.length).2.2)).2.2) Ax) [(0,1)] [(1,2)])] [] 3 V λV=>EY ?_
  obtain⟨gs,V⟩:=V.rx [(0,2)] [4] [0] 1 Y
  exact BV (Ab _) V
theorem Kx (u2:Nat->Int) (r2:Ad) (n2:Int) (l:AZ) (hr1:r1.length<=64) (hr2:r2.length<=64) (hl:l.flatten.length<=50000000000):AP 86 ⟨[.im (Jg [.im (Jg [.ar .u32 8 u1,lb r1,.v (.int .u64 n1)]) 0,.im (Jg [.ar .u32 8 u2,lb r2,.v (.int .u64 n2)]) 0]) 0,.ls false A8 l],[],lb (Dn u1 r1 n1 u2 r2 n2 l),[]⟩:=ConOk.frz [] 0 5 Bg (Dn u1 r1 n1 u2 r2 n2 l) (ZZ u1 r1 n1 u2 r2 n2 l hr1 hr2 hl) (by kernel_rfl)
end
@[simp] theorem CY (u1:Nat->Int) (r1:Ad) (n1:Int) (u2:Nat->Int) (r2:Ad) (n2:Int) (l:AZ):(Dn u1 r1 n1 u2 r2 n2 l).length=32:=by unfold Dn;rw[Ab];exact Wz ..
def Wp (key:Ad) (l:AZ):Ad:=AV (Dn (An key).1 (An key).2.1 (An key).2.2.1 (An key).2.2.2.1 (An key).2.2.2.2.1 (An key).2.2.2.2.2 l)
@[simp] theorem Ug (key:Ad) (l:AZ):(Wp key l).length=32:=by unfold Wp;rw[Ab];exact CY ..
section
variable (key:Ad) (l:AZ)
def AcV (z_:Ad:=Wp key l):Con:=⟨[lb key,.ls false A8 l],[],lb z_,[]⟩
theorem zS (hk:key.length<=64) (hl:l.flatten.length<=50000000000):AP 123 (AcV key l):=by
 exact cy 0 func123 rfl ntmps123 λY V=>Aj [] 0 V λV=>Ay [(1,AS (I7 key Ax)),(3,AS (Kx (An key).1 (An key).2.1 (An key).2.2.1 (An key).2.2.2.1 (An key).2.2.2.2.1 (An key).2.2.2.2.2 l (Dt _).1 (Dt _).2 (by first |assumption|omega|(simp only[bd,ce,ab,aw,au]<;>omega)|(simp<;>omega))))] [] 0 V λV=>AY (BV (Ab _) V)
end
def kM (l:AZ):Ad:=AV (Dn ((An ([]:Ad)).1) ((An ([]:Ad)).2.1) ((An ([]:Ad)).2.2.1) ((An ([]:Ad)).2.2.2.1) ((An ([]:Ad)).2.2.2.2.1) ((An ([]:Ad)).2.2.2.2.2) l)
@[simp] theorem Rh (l:AZ):(kM l).length=32:=by unfold kM;rw[Ab];exact CY ..
def Fp (key ikm:Ad):Ad:=AV (Wp key [ikm])
@[simp] theorem WH (key:Ad) (ikm:Ad):(Fp key ikm).length=32:=by unfold Fp;rw[Ab];exact Ug ..
section
variable (key ikm:Ad)
def eN (z_:Ad:=Fp key ikm):Con:=⟨[lb key,lb ikm],[],lb z_,[]⟩
theorem Mn (hk:key.length<=64) (hi:ikm.length<=1000000000):AP 113 (eN key ikm):=by
 exact cy 0 func113 rfl ntmps113 λY V=>Aj [] 0 V λV=>Ay [(3,AS (zS key [ikm] Ax (by first |assumption|omega|(simp only[bd,ce,ab,aw,au]<;>omega)|(simp<;>omega))))] [] 0 V λV=>AY (BV (Ab _) V)
end
def Ru (ikm:Ad):Ad:=AV (Wp ([]:Ad) [ikm])
@[simp] theorem ND (ikm:Ad):(Ru ikm).length=32:=by unfold Ru;rw[Ab];exact Rh ..
def LK (key info:Ad) (k1:Nat):(Int×Ad×Ad)->(Int×Ad×Ad):=λ(x10,x8,x9)=>((A9 .u8 x10 1),x8++(Dn (An key).1 (An key).2.1 (An key).2.2.1 (An key).2.2.2.1 (An key).2.2.2.2.1 (An key).2.2.2.2.2 [x9,info,[x10]]),Dn (An key).1 (An key).2.1 (An key).2.2.1 (An key).2.2.2.1 (An key).2.2.2.2.1 (An key).2.2.2.2.2 [x9,info,[x10]])
def CF (key info:Ad):Nat->Int×Ad×Ad
 |0=>(1,[],[])
 |k1+1=>LK key info k1 (CF key info k1)
def FE:(Int×Ad×Ad)->Prop:=λ(x10,x8,x9)=>((x8.length:Nat):Int)<32
def H_ (key info:Ad):Ad:=AV ([]++(((CF key info (D3 λj=>FE (CF key info j))).2.1).take 32))
theorem JC (key info:Ad):∀k,(CF key info k).2.1.length=32*k
 |0=>rfl
 |k+1=>by
  show((CF key info k).2.1++Dn _ _ _ _ _ _ _).length=_
  rw[ab,CY,JC key info k];omega
@[simp] theorem UD (key info:Ad):(H_ key info).length=32:=by
 have h:(D3 λj=>FE (CF key info j))=1:=by
  refine(CE ?_ ?_).symm
  ·show¬(((CF key info 1).2.1.length:Nat):Int)<32
   rw[JC];omega
  ·intro j hj
   show(((CF key info j).2.1.length:Nat):Int)<32
   rw[JC];omega
 unfold H_;rw[Ab]
 rw[h,dw,ap,JC]
 omega
section
variable (key info:Ad)
def YJ (z_:Ad:=H_ key info):Con:=⟨[lb key,lb info,vi 32],[],lb z_,[]⟩
theorem O7 (hk:key.length<=64) (hf:info.length<=1000000000):AP 112 (YJ key info):=by
 refine cy 0 func112 rfl ntmps112 λY V=>Aj [] 0 V λV=>Ar (Aj [] 0 V λV=>Ai V (Cb (Ay [(1,AS (I7 key Ax))] [] 0 V λV=>Aj [] 0 V λV=>Ar (Aj [] 0 V λV=>BC ?_))))
 obtain⟨gs,V⟩:=V.nilk 8 5 Bg
 have V:=V.wk 9 (lb [])
 refine AC (ι:=Nat×Int×Ad×Ad) Y V (λ(k1,x10,x8,x9)=>(32-x8.length,[(9,lb x9),(10,.v (.int .u8 x10))],[(0,.sl 5 Bg x8)],((x10,x8,x9)=CF key info k1)/\(∀j,j<k1->FE (CF key info j))/\(x9.length<=32)/\(x8.length=32*k1)/\True)) [1,2,6,7,8] [] 1 (0,1,[],[]) [(0,0)] ⟨rfl,(λj h=>absurd h (be j)),(by simp),rfl,aa⟩ ?_
 rintro⟨k1,x10,x8,x9⟩ ac gs ws ⟨hq1,hj1,p1,p2,_⟩ V
 refine Ar (Aj [] 1 V λV=>AJ (((x8.length:Nat):Int)<32) V (λh1=> ?_) (λh1=> ?_))
 ·exact B3 (Ay [(6,AS (Kx (An key).1 (An key).2.1 (An key).2.2.1 (An key).2.2.2.1 (An key).2.2.2.2.1 (An key).2.2.2.2.2 [x9,info,[x10]] (Dt _).1 (Dt _).2 (by first |assumption|omega|(simp only[bd,ce,ab,aw,au,CY,Ug,Rh]<;>omega)|(simp<;>omega))))] [9] 1 V λV=>Aw [(2,Gt x8.length ((Dn (An key).1 (An key).2.1 (An key).2.2.1 (An key).2.2.2.1 (An key).2.2.2.2.1 (An key).2.2.2.2.2 [x9,info,[x10]]).length) 1 (by(first |omega|(rw[CY];omega)|(simp only[au,ap];omega))))] [8] 2 V λV=>Ck (Dl [10] 2 V λV=>Ae (As Y V (k1+1,(A9 .u8 x10 1),x8++(Dn (An key).1 (An key).2.1 (An key).2.2.1 (An key).2.2.2.1 (An key).2.2.2.2.1 (An key).2.2.2.2.2 [x9,info,[x10]]),Dn (An key).1 (An key).2.1 (An key).2.2.1 (An key).2.2.2.1 (An key).2.2.2.2.1 (An key).2.2.2.2.2 [x9,info,[x10]]) [(0,1)] ⟨(Bm (st:=LK _ _) hq1 rfl rfl),(Br hj1 (by rw[<-hq1];exact h1)),(by rw[CY];omega),(by rw[ab,CY];omega),aa⟩ (show 32-(x8++Dn _ _ _ _ _ _ _).length<32-x8.length from by rw[ab,CY];omega))))
 ·have hT:=V
  obtain rfl:=CE (by rw[<-hq1];first |exact h1|exact cq h1) hj1
  obtain⟨rfl,rfl,rfl⟩:=jL hq1
  have V:=hT
  refine JH ?_
  obtain⟨gs,V⟩:=V.fz 0
  refine Aw [(2,fE 32 ((CF key info (D3 λj=>FE (CF key info j))).2.1).length),(3,Gt 0 ((((CF key info (D3 λj=>FE (CF key info j))).2.1).take 32).length) 1 (by(first |omega|(rw[CY];omega)|(simp only[au,ap];omega))))] [] 2 V λV=>EY ?_
  obtain⟨gs,V⟩:=V.fz 1
  exact BV (Ab _) V
def LJ (k1:Nat):(Int×Ad×Ad)->(Int×Ad×Ad):=λ(x10,x8,x9)=>((A9 .u8 x10 1),x8++(Dn (An key).1 (An key).2.1 (An key).2.2.1 (An key).2.2.2.1 (An key).2.2.2.2.1 (An key).2.2.2.2.2 [x9,info,[x10]]),Dn (An key).1 (An key).2.1 (An key).2.2.1 (An key).2.2.2.1 (An key).2.2.2.2.1 (An key).2.2.2.2.2 [x9,info,[x10]])
end
def Ct (key info:Ad):Nat->Int×Ad×Ad
 |0=>(1,[],[])
 |k1+1=>LJ key info k1 (Ct key info k1)
def FD:(Int×Ad×Ad)->Prop:=λ(x10,x8,x9)=>((x8.length:Nat):Int)<64
def GH (key info:Ad):Ad:=AV ([]++(((Ct key info (D3 λj=>FD (Ct key info j))).2.1).take 64))
theorem JB (key info:Ad):∀k,(Ct key info k).2.1.length=32*k
 |0=>rfl
 |k+1=>by
  show((Ct key info k).2.1++Dn _ _ _ _ _ _ _).length=_
  rw[ab,CY,JB key info k];omega
@[simp] theorem UC (key info:Ad):(GH key info).length=64:=by
 have h:(D3 λj=>FD (Ct key info j))=2:=by
  refine(CE ?_ ?_).symm
  ·show¬(((Ct key info 2).2.1.length:Nat):Int)<64
   rw[JB];omega
  ·intro j hj
   show(((Ct key info j).2.1.length:Nat):Int)<64
   rw[JB];omega
 unfold GH;rw[Ab]
 rw[h,dw,ap,JB]
 omega
section
variable (key info:Ad)
def YI (z_:Ad:=GH key info):Con:=⟨[lb key,lb info,vi 64],[],lb z_,[]⟩
theorem WI (hk:key.length<=64) (hf:info.length<=1000000000):AP 112 (YI key info):=by
 refine cy 0 func112 rfl ntmps112 λY V=>Aj [] 0 V λV=>Ar (Aj [] 0 V λV=>Ai V (Cb (Ay [(1,AS (I7 key Ax))] [] 0 V λV=>Aj [] 0 V λV=>Ar (Aj [] 0 V λV=>BC ?_))))
 obtain⟨gs,V⟩:=V.nilk 8 5 Bg
 have V:=V.wk 9 (lb [])
 refine AC (ι:=Nat×Int×Ad×Ad) Y V (λ(k1,x10,x8,x9)=>(64-x8.length,[(9,lb x9),(10,.v (.int .u8 x10))],[(0,.sl 5 Bg x8)],((x10,x8,x9)=Ct key info k1)/\(∀j,j<k1->FD (Ct key info j))/\(x9.length<=32)/\(x8.length=32*k1)/\True)) [1,2,6,7,8] [] 1 (0,1,[],[]) [(0,0)] ⟨rfl,(λj h=>absurd h (be j)),(by simp),rfl,aa⟩ ?_
 rintro⟨k1,x10,x8,x9⟩ ac gs ws ⟨hq1,hj1,p1,p2,_⟩ V
 refine Ar (Aj [] 1 V λV=>AJ (((x8.length:Nat):Int)<64) V (λh1=> ?_) (λh1=> ?_))
 ·exact B3 (Ay [(6,AS (Kx (An key).1 (An key).2.1 (An key).2.2.1 (An key).2.2.2.1 (An key).2.2.2.2.1 (An key).2.2.2.2.2 [x9,info,[x10]] (Dt _).1 (Dt _).2 (by first |assumption|omega|(simp only[bd,ce,ab,aw,au,CY,Ug,Rh]<;>omega)|(simp<;>omega))))] [9] 1 V λV=>Aw [(2,Gt x8.length ((Dn (An key).1 (An key).2.1 (An key).2.2.1 (An key).2.2.2.1 (An key).2.2.2.2.1 (An key).2.2.2.2.2 [x9,info,[x10]]).length) 1 (by(first |omega|(rw[CY];omega)|(simp only[au,ap];omega))))] [8] 2 V λV=>Ck (Dl [10] 2 V λV=>Ae (As Y V (k1+1,(A9 .u8 x10 1),x8++(Dn (An key).1 (An key).2.1 (An key).2.2.1 (An key).2.2.2.1 (An key).2.2.2.2.1 (An key).2.2.2.2.2 [x9,info,[x10]]),Dn (An key).1 (An key).2.1 (An key).2.2.1 (An key).2.2.2.1 (An key).2.2.2.2.1 (An key).2.2.2.2.2 [x9,info,[x10]]) [(0,1)] ⟨(Bm (st:=LJ _ _) hq1 rfl rfl),(Br hj1 (by rw[<-hq1];exact h1)),(by rw[CY];omega),(by rw[ab,CY];omega),aa⟩ (show 64-(x8++Dn _ _ _ _ _ _ _).length<64-x8.length from by rw[ab,CY];omega))))
 ·have hT:=V
  obtain rfl:=CE (by rw[<-hq1];first |exact h1|exact cq h1) hj1
  obtain⟨rfl,rfl,rfl⟩:=jL hq1
  have V:=hT
  refine JH ?_
  obtain⟨gs,V⟩:=V.fz 0
  refine Aw [(2,fE 64 ((Ct key info (D3 λj=>FD (Ct key info j))).2.1).length),(3,Gt 0 ((((Ct key info (D3 λj=>FD (Ct key info j))).2.1).take 64).length) 1 (by(first |omega|(rw[CY];omega)|(simp only[au,ap];omega))))] [] 2 V λV=>EY ?_
  obtain⟨gs,V⟩:=V.fz 1
  exact BV (Ab _) V
end
def AX (key ikm info:Ad):Ad:=AV (H_ (Fp key ikm) info)
@[simp] theorem Fq (key:Ad) (ikm info:Ad):(AX key ikm info).length=32:=by unfold AX;rw[Ab];exact UD ..
section
variable (key ikm info:Ad)
def YO (z_:Ad:=AX key ikm info):Con:=⟨[lb key,lb ikm,lb info,vi 32],[],lb z_,[]⟩
theorem F9 (hk:key.length<=64) (hi:ikm.length<=1000000000) (hf:info.length<=1000000000):AP 75 (YO key ikm info):=by
 exact cy 0 func75 rfl ntmps75 λY V=>Aj [] 0 V λV=>Ay [(2,AS (Mn key ikm Ax Ax)),(5,AS (O7 (Fp key ikm) info Ax Ax))] [] 0 V λV=>AY (BV (Ab _) V)
end
section
variable (ikm info:Ad)
def UJ:Ad:=AV (H_ (Fp ([]:Ad) ikm) info)
def U0 (z_:Ad:=UJ ikm info):Con:=⟨[.v (.slice none 0 0),lb ikm,lb info,vi 32],[],lb z_,[]⟩
theorem qO (hi:ikm.length<=1000000000) (hf:info.length<=1000000000):AP 75 (U0 ikm info):=by
 exact cy 0 func75 rfl ntmps75 λY V=>Aj [] 0 V λV=>Ay [(2,AS (Mn ([]:Ad) ikm Ax Ax)),(5,AS (O7 (Fp ([]:Ad) ikm) info Ax Ax))] [] 0 V λV=>AY (BV (Ab _) V)
def BY:Ad:=AV (GH (Fp ([]:Ad) ikm) info)
end
@[simp] theorem KM (ikm info:Ad):(BY ikm info).length=64:=by unfold BY;rw[Ab];exact UC ..
section
variable (ikm info:Ad)
def UZ (z_:Ad:=BY ikm info):Con:=⟨[.v (.slice none 0 0),lb ikm,lb info,vi 64],[],lb z_,[]⟩
theorem Se (hi:ikm.length<=1000000000) (hf:info.length<=1000000000):AP 75 (UZ ikm info):=by
 exact cy 0 func75 rfl ntmps75 λY V=>Aj [] 0 V λV=>Ay [(2,AS (Mn ([]:Ad) ikm Ax Ax)),(5,AS (WI (Fp ([]:Ad) ikm) info Ax Ax))] [] 0 V λV=>AY (BV (Ab _) V)
end
end
end Go.Sx.Tryz
