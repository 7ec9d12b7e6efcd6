/- General lemmas, walks. -/
import Derived.Test.YtmkplecnmklbfaaGreatJ4PSpoilt
set_option maxRecDepth 100000
set_option maxHeartbeats 1000000
set_option linter.unusedSimpArgs false
set_option linter.unusedVariables false
set_option linter.unnecessarySimpa false
set_option linter.unusedSectionVars false
namespace Go.Mi.Ke
abbrev Ln:=BitVec 64
abbrev St:=Nat->Ln
def rot (a:Ln) (n:Nat):Ln:=a.rotateLeft n
def Eq25 (a b:St):Prop:=∀i,i<25->a i=b i
theorem TV (a:Ln) (n i:Nat) (hi:i<64):(rot a n).getLsbD i=a.getLsbD ((i+(64-n%64))%64):=by
 unfold rot;simp only[BitVec.getLsbD_rotateLeft];have hn:n%64<64:=di _ (by decide);by_cases h:i<n%64
 ·rw[decide_eq_true h,cond_true];congr 1;omega
 ·rw[decide_eq_false h,cond_false,decide_eq_true hi,iy];congr 1;omega
theorem n8 {a b:Ln} {n:Nat} (h:rot a n=rot b n):a=b:=by apply gq;intro i hi;have hn:n%64<64:=di _ (by decide);have h1:=TV a n ((i+n%64)%64) (di _ (by decide));have h2:=TV b n ((i+n%64)%64) (di _ (by decide));rw[h,h2]at h1;rw[show((i+n%64)%64+(64-n%64))%64=i by omega]at h1;exact h1.symm
def par (a:St) (x:Nat):Ln:=a (x%5)^^^a (x%5+5)^^^a (x%5+10)^^^a (x%5+15)^^^a (x%5+20)
def dif (a:St) (x:Nat):Ln:=par a (x+4)^^^rot (par a (x+1)) 1
def theta (a:St):St:=λi=>a i^^^dif a i
theorem par_mod (a:St) (x:Nat):par a (x%5)=par a x:=by unfold par;rw[Nat.mod_mod]
theorem YS (a:St) (x k:Nat):dif a (x+5*k)=dif a x:=by unfold dif par;rw[show(x+5*k+4)%5=(x+4)%5 by omega,show(x+5*k+1)%5=(x+1)%5 by omega]
theorem AbT (a b c d e u:Ln):(a^^^u)^^^(b^^^u)^^^(c^^^u)^^^(d^^^u)^^^(e^^^u)=(a^^^b^^^c^^^d^^^e)^^^u:=by apply gq;intro i _;simp only[BitVec.getLsbD_xor];generalize a.getLsbD i=a;generalize b.getLsbD i=b;generalize c.getLsbD i=c;generalize d.getLsbD i=d;generalize e.getLsbD i=e;generalize u.getLsbD i=u;revert a b c d e u;decide
theorem RP (a:St) (x:Nat):par (theta a) x=par a x^^^dif a x:=by
 have h:∀k,theta a (x%5+5*k)=a (x%5+5*k)^^^dif a x:=λk=>by unfold theta;rw[YS,<-YS a (x%5) (x/5),show x%5+5*(x/5)=x by omega]
 have h0:=h 0;have h1:=h 1;have h2:=h 2;have h3:=h 3;have h4:=h 4;simp only[Nat.mul_zero,ey,Nat.reduceMul]at h0 h1 h2 h3 h4;unfold par;rw[h0,h1,h2,h3,h4];exact AbT ..
theorem pC {r:Nat->Nat->Bool} (p5:∀x z,r (x+5) z=r x z) (p64:∀x z,r x (z+64)=r x z) (h:∀x z,r x z=(r (x+4) z^^r (x+1) (z+63))) (x z:Nat):r x z=false:=by
 have q5:∀k x z,r (x+5*k) z=r x z:=by
  intro k
  induction k with
  |zero=>intro x z;rfl
  |succ k ih=>intro x z;rw[show x+5*(k+1)=(x+5*k)+5 by omega,p5,ih]
 have q64:∀k x z,r x (z+64*k)=r x z:=by
  intro k
  induction k with
  |zero=>intro x z;rfl
  |succ k ih=>intro x z;rw[show z+64*(k+1)=(z+64*k)+64 by omega,p64,ih]
 have dbl:∀m,(∀x z,r x z=(r (x+4*m) z^^r (x+m) (z+63*m)))->∀x z,r x z=(r (x+4*(2*m)) z^^r (x+2*m) (z+63*(2*m))):=by intro m hm x z;have e1:=hm (x+4*m) z;have e2:=hm (x+m) (z+63*m);rw[hm x z,e1,e2];rw[show x+4*m+4*m=x+4*(2*m) by omega,show x+4*m+m=x+5*m by omega,show x+m+4*m=x+5*m by omega,show x+m+m=x+2*m by omega,show z+63*m+63*m=z+63*(2*m) by omega];cases r (x+4*(2*m)) z<;>cases r (x+5*m) (z+63*m)<;>cases r (x+2*m) (z+63*(2*m))<;>rfl
 have h64:=dbl 32 (dbl 16 (dbl 8 (dbl 4 (dbl 2 (dbl 1 (by simpa using h))))));have key:∀x,r x z=(r (x+1) z^^r (x+4) z):=by intro x;have :=h64 x z;rw[show x+4*(2*32)=(x+1)+5*51 by omega,show x+2*32=(x+4)+5*12 by omega,show z+63*(2*32)=z+64*63 by omega,q5,q5,q64]at this;exact this
 have k0:=key x;have k1:=key (x+1);have k2:=key (x+2);have k3:=key (x+3);have k4:=key (x+4);rw[show x+1+4=x+5 by omega,p5]at k1;rw[show x+2+4=(x+1)+5 by omega,p5]at k2;rw[show x+3+4=(x+2)+5 by omega,p5]at k3;rw[show x+4+1=x+5 by omega,show x+4+4=(x+3)+5 by omega,p5,p5]at k4;simp only[gx,Nat.reduceAdd]at k0 k1 k2 k3 k4;revert k0 k1 k2 k3 k4;cases r x z<;>cases r (x+1) z<;>cases r (x+2) z<;>cases r (x+3) z<;>cases r (x+4) z<;>simp
theorem Zn {a b:St} (h:Eq25 (theta a) (theta b)):Eq25 a b:=by
 have hp:∀x,par (theta a) x=par (theta b) x:=λx=>by have hx:x%5<5:=di _ (by decide);unfold par;rw[h _ (by omega),h _ (by omega),h _ (by omega),h _ (by omega),h _ (by omega)]
 let r:Nat->Nat->Bool:=λx z=>(par a x).getLsbD (z%64)^^(par b x).getLsbD (z%64)
 have hr:∀x z,r x z=false:=by
  refine pC (λx z=> ?_) (λx z=> ?_) (λx z=> ?_)
  ·show(_^^_)=(_^^_);rw[<-par_mod a (x+5),<-par_mod b (x+5),show(x+5)%5=x%5 by omega,par_mod,par_mod]
  ·show(_^^_)=(_^^_);rw[show(z+64)%64=z%64 by omega]
  ·have e:=hp x;rw[RP,RP]at e;have e2:=dn (λu:Ln=>u.getLsbD (z%64)) e;have hz:z%64<64:=di _ (by decide);simp only[dif,BitVec.getLsbD_xor,TV _ _ _ hz]at e2;rw[show(z%64+(64-1%64))%64=(z+63)%64 by omega]at e2;show(_^^_)=((_^^_)^^(_^^_));revert e2;generalize(par a x).getLsbD (z%64)=q1;generalize(par b x).getLsbD (z%64)=q2;generalize(par a (x+4)).getLsbD (z%64)=q3;generalize(par b (x+4)).getLsbD (z%64)=q4;generalize(par a (x+1)).getLsbD ((z+63)%64)=q5;generalize(par b (x+1)).getLsbD ((z+63)%64)=q6;revert q1 q2 q3 q4 q5 q6;decide
 have hab:∀x,par a x=par b x:=λx=>by apply gq;intro i hi;have :=hr x i;simp only[r]at this;rw[Nat.mod_eq_of_lt hi]at this;revert this;cases(par a x).getLsbD i<;>cases(par b x).getLsbD i<;>simp
 intro i hi;have e:=h i hi;have ed:dif a i=dif b i:=by unfold dif;rw[hab,hab]
 unfold theta at e;rw[ed]at e;have :=dn (· ^^^dif b i) e;simpa[BitVec.xor_assoc]using this
def chi (a:St):St:=λi=>a i^^^(~~~a (i-i%5+(i+1)%5)&&&a (i-i%5+(i+2)%5))
theorem Ab8:∀a0 a1 a2 a3 a4 b0 b1 b2 b3 b4:Bool,(a0^^(!a1&&a2))=(b0^^(!b1&&b2))->(a1^^(!a2&&a3))=(b1^^(!b2&&b3))->(a2^^(!a3&&a4))=(b2^^(!b3&&b4))->(a3^^(!a4&&a0))=(b3^^(!b4&&b0))->(a4^^(!a0&&a1))=(b4^^(!b0&&b1))->a0=b0/\a1=b1/\a2=b2/\a3=b3/\a4=b4:=by decide
theorem qZ {a b:St} (h:Eq25 (chi a) (chi b)):Eq25 a b:=by
 intro i hi;apply gq;intro z hz;have hy:i=5*(i/5)+i%5:=by omega
 have row:∀k,k<5->chi a (5*(i/5)+k)=chi b (5*(i/5)+k):=λk hk=>h _ (by omega);have at_:∀(a:St) (k:Nat),k<5->(chi a (5*(i/5)+k)).getLsbD z=((a (5*(i/5)+k)).getLsbD z^^(!(a (5*(i/5)+(k+1)%5)).getLsbD z&&(a (5*(i/5)+(k+2)%5)).getLsbD z)):=by intro a k hk;unfold chi;rw[show 5*(i/5)+k-(5*(i/5)+k)%5=5*(i/5) by omega,show(5*(i/5)+k+1)%5=(k+1)%5 by omega,show(5*(i/5)+k+2)%5=(k+2)%5 by omega];simp only[BitVec.getLsbD_xor,BitVec.getLsbD_and,BitVec.getLsbD_not,hz,decide_true,iy]
 have e:∀k,k<5->_:=λk hk=>dn (λu:Ln=>u.getLsbD z) (row k hk);have e0:=e 0 (by omega);have e1:=e 1 (by omega);have e2:=e 2 (by omega);have e3:=e 3 (by omega);have e4:=e 4 (by omega);simp only[at_ _ 0 (by omega),at_ _ 1 (by omega),at_ _ 2 (by omega),at_ _ 3 (by omega),at_ _ 4 (by omega),Nat.reduceAdd,Nat.reduceMod]at e0 e1 e2 e3 e4;obtain⟨k0,k1,k2,k3,k4⟩:=Ab8 _ _ _ _ _ _ _ _ _ _ e0 e1 e2 e3 e4;have h5:i%5<5:=di _ (by decide);rw[hy];generalize i%5=m at h5
 match m,h5 with
 |0,_=>exact k0
 |1,_=>exact k1
 |2,_=>exact k2
 |3,_=>exact k3
 |4,_=>exact k4
theorem fM:∀(N:Nat) (f:Nat->Nat),(∀i,i<=N->f i<N)->∃i j,i<j/\j<=N/\f i=f j
 |0,f,h=>absurd (h 0 (an _)) (by omega)
 |N+1,f,h=>by
  -- is the last value met ahead?
  by_cases hm:∃i,i<N+1/\f i=f (N+1)
  ·obtain⟨i,h1,h2⟩:=hm;exact⟨i,N+1,h1,an _,h2⟩
  ·-- else swap it with the greatest
   let g:Nat->Nat:=λi=>if f i=N then f (N+1)else f i
   have hg:∀i,i<=N->g i<N:=by intro i hi;have h1:=h i (by omega);have h2:=h (N+1) (by omega);have h3:f i≠f (N+1):=λe=>hm ⟨i,by omega,e⟩;show(if f i=N then f (N+1)else f i)<N;split<;>omega
   obtain⟨i,j,h1,h2,h3⟩:=fM N g hg;refine⟨i,j,h1,by omega,?_⟩;have h4:f i≠f (N+1):=λe=>hm ⟨i,by omega,e⟩;have h5:f j≠f (N+1):=λe=>hm ⟨j,by omega,e⟩;change (if f i=N then f (N+1)else f i)=(if f j=N then f (N+1)else f j)at h3;split at h3<;>split at h3<;>omega
def px:Nat->Nat×Nat
 |0=>(1,0)
 |t+1=>((px t).2,(2*(px t).1+3*(px t).2)%5)
def ps (t:Nat):Nat:=(px t).1+5*(px t).2
def rhoN (a:St):Nat->St
 |0=>a
 |t+1=>λi=>if i=ps (t+1)then rot (a (ps t)) ((t+1)*(t+2)/2)else rhoN a t i
def rho (a:St):St:=rhoN a 24
theorem ps_lt (t:Nat) (h:t<=24):ps t<25:=by
 have :∀t:Fin 25,ps t.1<25:=by decide
 exact this ⟨t,by omega⟩
theorem Aas (t u:Nat) (ht:t<=24) (hu:u<=24) (h0:0<t) (h1:0<u) (h:ps t=ps u):t=u:=by
 have :∀t u:Fin 25,0<t.1->0<u.1->ps t.1=ps u.1->t.1=u.1:=by decide
 exact this ⟨t,by omega⟩ ⟨u,by omega⟩ h0 h1 h
theorem vK (i:Nat) (h:i<25):i=0\/∃t,t<24/\ps t=i:=by
 have :∀i:Fin 25,i.1=0\/∃t:Fin 24,ps t.1=i.1:=by decide
 rcases this ⟨i,h⟩with h|⟨t,h⟩
 ·exact .inl h
 ·exact .inr ⟨t.1,t.2,h⟩
theorem SI (a:St):∀n,n<=24->∀t,t<n->rhoN a n (ps (t+1))=rot (a (ps t)) ((t+1)*(t+2)/2)
 |0,_,t,h=>absurd h (by omega)
 |n+1,hn,t,h=>by
  simp only[rhoN];by_cases e:t=n
  ·subst e;rw[ab rfl]
  ·rw[aj (λh'=>e (by have :=Aas _ _ (by omega) (by omega) (by omega) (by omega) h';omega))];exact SI a n (by omega) t (by omega)
theorem oM (t:Nat) (h:t<=24):ps t≠0:=by
 have :∀t:Fin 25,ps t.1≠0:=by decide
 exact this ⟨t,by omega⟩
theorem Nj (a:St):∀n,n<=24->rhoN a n 0=a 0
 |0,_=>rfl
 |n+1,hn=>by simp only[rhoN];rw[aj (λh=>oM (n+1) hn h.symm)];exact Nj a n (by omega)
theorem oC {a b:St} (h:Eq25 (rho a) (rho b)):Eq25 a b:=by
 intro i hi;rcases vK i hi with rfl|⟨t,ht,rfl⟩
 ·have :=h 0 (by omega);unfold rho at this
  rwa [Nj a 24 (an _),Nj b 24 (an _)]at this
 ·have :=h _ (ps_lt (t+1) (by omega));unfold rho at this;rw[SI a 24 (an _) t ht,SI b 24 (an _) t ht]at this;exact n8 this
theorem rhoN_congr {a b:St} (h:Eq25 a b):∀n,n<=24->Eq25 (rhoN a n) (rhoN b n)
 |0,_=>h
 |n+1,hn=>λi hi=>by
  simp only[rhoN];split
  ·rw[h _ (ps_lt n (by omega))]
  ·exact rhoN_congr h n (by omega) i hi
def iota (c:Ln) (a:St):St:=λi=>if i=0 then a 0^^^c else a i
def round (c:Ln) (a:St):St:=iota c (chi (rho (theta a)))
def rounds:List Ln->St->St
 |[],a=>a
 |c::l,a=>rounds l (round c a)
theorem g9 {c:Ln} {a b:St} (h:Eq25 (iota c a) (iota c b)):Eq25 a b:=by
 intro i hi;have :=h i hi;unfold iota at this;by_cases e:i=0
 ·subst e;rw[ab rfl,ab rfl]at this;have :=dn (· ^^^c) this;simpa[BitVec.xor_assoc]using this
 ·rwa [aj e,aj e]at this
theorem theta_congr {a b:St} (h:Eq25 a b):Eq25 (theta a) (theta b):=by
 have hp:∀x,par a x=par b x:=λx=>by have hx:x%5<5:=di _ (by decide);unfold par;rw[h _ (by omega),h _ (by omega),h _ (by omega),h _ (by omega),h _ (by omega)]
 intro i hi;unfold theta dif;rw[h i hi,hp,hp]
theorem chi_congr {a b:St} (h:Eq25 a b):Eq25 (chi a) (chi b):=by intro i hi;unfold chi;rw[h i hi,h _ (by omega),h _ (by omega)]
theorem ZE {c:Ln} {a b:St} (h:Eq25 (round c a) (round c b)):Eq25 a b:=Zn (oC (qZ (g9 h)))
theorem UI {c:Ln} {a b:St} (h:Eq25 a b):Eq25 (round c a) (round c b):=by
 have h1:=chi_congr (rhoN_congr (theta_congr h) 24 (an _));intro i hi;show(if i=0 then chi (rhoN (theta a) 24) 0^^^c else chi (rhoN (theta a) 24) i)=(if i=0 then chi (rhoN (theta b) 24) 0^^^c else chi (rhoN (theta b) 24) i);split
 ·rw[h1 0 (by omega)]
 ·exact h1 i hi
theorem rounds_inj:∀(l:List Ln) {a b:St},Eq25 (rounds l a) (rounds l b)->Eq25 a b
 |[],_,_,h=>h
 |_::l,_,_,h=>ZE (rounds_inj l h)
theorem rounds_congr:∀(l:List Ln) {a b:St},Eq25 a b->Eq25 (rounds l a) (rounds l b)
 |[],_,_,h=>h
 |_::l,_,_,h=>rounds_congr l (UI h)
def enc (a:St):Nat->Nat
 |0=>0
 |n+1=>enc a n*2^64+(a n).toNat
theorem jY (a:St):∀n,enc a n<(2^64)^n
 |0=>by simp [enc]
 |n+1=>by have h1:=jY a n;have h2:=(a n).isLt;have e:(2^64)^(n+1)=(2^64)^n*2^64:=Nat.pow_succ ..;simp only[enc];rw[e];generalize(2^64)^n=M at h1⊢;omega
theorem YR {a b:St}:∀n,enc a n=enc b n->∀i,i<n->a i=b i
 |0,_,i,h=>absurd h (by omega)
 |n+1,h,i,hi=>by
  simp only[enc]at h;have h1:=(a n).isLt;have h2:=(b n).isLt;have h3:enc a n=enc b n:=by omega
  by_cases e:i=n
  ·subst e;exact g_ (by omega)
  ·exact YR n h3 i (by omega)
def iter (f:St->St):Nat->St->St
 |0,a=>a
 |n+1,a=>f (iter f n a)
theorem Vq {f:St->St} (hf:∀{a b},Eq25 (f a) (f b)->Eq25 a b):∀n {a b},Eq25 (iter f n a) (iter f n b)->Eq25 a b
 |0,_,_,h=>h
 |n+1,_,_,h=>Vq hf n (hf h)
theorem Qc (f:St->St) (m:Nat) (a:St):∀n,iter f (m+n) a=iter f n (iter f m a)
 |0=>rfl
 |n+1=>by show f (iter f (m+n) a)=f (iter f n (iter f m a));rw[Qc f m a n]
theorem uE {f:St->St} (hf:∀{a b},Eq25 (f a) (f b)->Eq25 a b) (s:St):∃n,0<n/\Eq25 (iter f n s) s:=by
 obtain⟨i,j,h1,_,h3⟩:=fM ((2^64)^25) (λi=>enc (iter f i s) 25) (λi _=>jY _ _);have h4:Eq25 (iter f i s) (iter f j s):=YR 25 h3;refine⟨j-i,by omega,?_⟩;have e:iter f j s=iter f i (iter f (j-i) s):=by rw[<-Qc,show j-i+i=j by omega]
 rw[e]at h4;have :=Vq hf i h4;exact λk hk=>(this k hk).symm
theorem Qb {f:St->St} (hc:∀{a b},Eq25 a b->Eq25 (f a) (f b)):∀n {a b},Eq25 a b->Eq25 (iter f n a) (iter f n b)
 |0,_,_,h=>h
 |n+1,_,_,h=>hc (Qb hc n h)
theorem again_late {f:St->St} (hf:∀{a b},Eq25 (f a) (f b)->Eq25 a b) (hc:∀{a b},Eq25 a b->Eq25 (f a) (f b)) (s:St):∀m:Nat,∃n,m<n/\Eq25 (iter f n s) s
 |0=>uE hf s
 |m+1=>by obtain⟨n,h1,h2⟩:=again_late hf hc s m;obtain⟨k,h3,h4⟩:=uE hf s;refine⟨n+k,by omega,λi hi=> ?_⟩;rw[Qc,Qb hc k h2 i hi,h4 i hi]
end Go.Mi.Ke
namespace Go.Sx
open Go.Mi Go.RowKit
def M5 (a:Nat->Int):Nat->Nat->Int
 |0=>λ_=>0
 |i+1=>upd (M5 a i) (i%5) (AV .u64 (M5 a i (i%5)) (a i))
def SF (x k:Int):Int:=Ew .u64 (BW .u64 x (BI .u64 (IntKind.wrap .u64 k) 63)) (Bi .u64 x (EO .u64 64 (BI .u64 (IntKind.wrap .u64 k) 63)))
def uO (a c:Nat->Int):Nat->Nat->Int
 |0=>a
 |i+1=>upd (uO a c i) i (AV .u64 (uO a c i i) (AV .u64 (c ((i%5+4)%5)) (SF (c ((i%5+1)%5)) 1)))
def theta (a:Nat->Int):Nat->Int:=uO a (M5 a 25) 25
def Wp (a:Nat->Int):Nat->Nat->Int
 |0=>a
 |t+1=>upd (Wp a t) ((Ke.px (t+1)).1+5*(Ke.px (t+1)).2) (SF (a ((Ke.px t).1+5*(Ke.px t).2)) (QU .i64 (BE .i64 ((t+1:Nat):Int) ((t+2:Nat):Int)) 2))
def rho (a:Nat->Int):Nat->Int:=Wp a 24
def Xd (a:Nat->Int):Nat->Nat->Int
 |0=>a
 |i+1=>upd (Xd a i) i (AV .u64 (Xd a i i) (BI .u64 (Lm .u64 (a (i-i%5+(i+1)%5))) (a (i-i%5+(i+2)%5))))
def chi (a:Nat->Int):Nat->Int:=Xd a 25
def RC:Nat->Int:=upd (upd (upd (upd (upd (upd (upd (upd (upd (upd (upd (upd (upd (upd (upd (upd (upd (upd (upd (upd (upd (upd (upd (upd (λ_=>0) 0 1) 1 32898) 2 9223372036854808714) 3 9223372039002292224) 4 32907) 5 2147483649) 6 9223372039002292353) 7 9223372036854808585) 8 138) 9 136) 10 2147516425) 11 2147483658) 12 2147516555) 13 9223372036854775947) 14 9223372036854808713) 15 9223372036854808579) 16 9223372036854808578) 17 9223372036854775936) 18 32778) 19 9223372039002259466) 20 9223372039002292353) 21 9223372036854808704) 22 2147483649) 23 9223372039002292232
def wP:Nat->(Nat->Int)->Nat->Int
 |0=>theta
 |1=>rho
 |_=>chi
def Yv (b:Nat->Int):Nat->Nat->Int
 |0=>b
 |j+1=>wP j (Yv b j)
def KP (a:Nat->Int):Nat->Nat->Int
 |0=>a
 |i+1=>upd (Yv (KP a i) 3) 0 (AV .u64 (Yv (KP a i) 3 0) (RC i))
def CX (a:Nat->Int):Nat->Int:=KP a 24
theorem gO (b f:Nat->Int) (j:Nat) (h:f=Yv b j):wP j f=Yv b (j+1):=by rw[h];rfl
theorem Aat (a b f:Nat->Int) (i:Nat) (hb:b=KP a i) (h:f=Yv b 3):upd f 0 (AV .u64 (f 0) (RC i))=KP a (i+1):=by rw[h,hb];rfl
end Go.Sx
namespace Go.Sx.Tryz
open Go.Mi Go.RowKit Go.Sx Go.Proofs Go.Proofs.Tryz
noncomputable section
open List (replicate)
def Ob0 (x0:Nat->Int):O:= .ob 263 (Ag [.ar .u64 25 x0])
theorem UJ (x k:Int):AO 213 ⟨[.v (.int .u64 x),vi k],[],.v (.int .u64 (SF x k)),[]⟩:=by exact cy 0 func213 rfl ntmps213 λY V=>Ak [] 0 V λV=>Ak [] 0 V λV=>Ay [(2,OZ ((0:Int)<=(BI .u64 (IntKind.wrap .u64 k) 63)) (Ki rfl)),(6,OZ ((0:Int)<=(EO .u64 64 (BI .u64 (IntKind.wrap .u64 k) 63))) (Ki rfl))] [] 0 V λV=>AU (BN V)
section
variable (a:Nat->Int)
theorem cP:AO 207 ⟨[.ar .u64 25 a],[],.ar .u64 25 (theta a),[]⟩:=by
 refine cy 0 func207 rfl ntmps207 λY V=>Ak [] 2 V λV=>Ak [] 3 V λV=>Ao (Ak [] 3 V λV=>BK (AD (ι:=Nat) Y V (λi=>(25-i,[(9,vi ((i:Nat):Int))],[(2,.ob 273 (Ag [.ar .u64 5 (M5 a i)]))],(i<=25)/\True)) [1,2,3,8] [0,1] 3 0 [(0,0),(1,1),(2,2)] ⟨Ac,aa⟩ ?_));rintro i ac gs ws ⟨hi,_⟩ V;refine Ak [] 3 V λV=>Ao (AH ((i:Int)<25) V (λh1=> ?_) (λh1=> ?_))
 ·exact B6 (Ay [(1,AN i 25)] [] 3 V λV=>Aw [(1,M6 i 5),(2,AN (i%5) 5),(6,AN (i%5) 5)] [] 3 V λV=>Cn (Aw [(0,CF i)] [9] 3 V λV=>Ae (Av Y V (i+1) [(0,0),(1,1),(2,2)] ⟨Ac,aa⟩)))
 ·have hT:=V;obtain rfl:25=i:=by omega
  have V:=hT;refine I8 (Ak [] 3 V λV=>BK (AD (ι:=Nat) Y V (λi=>(25-i,[(21,vi ((i:Nat):Int))],[(0,Ob0 (uO a (M5 a 25) i))],(i<=25)/\True)) [1,2,3] [1,2] 3 0 [(0,0),(1,1),(2,2)] ⟨Ac,aa⟩ ?_));rintro i ac gs ws ⟨hi,_⟩ V;refine Ak [] 3 V λV=>Ao (AH ((i:Int)<25) V (λh2=> ?_) (λh2=> ?_))
  ·exact B6 (Ak [] 3 V λV=>Ay [(1,M6 i 5)] [] 3 V λV=>Aw [(1,AN i 25),(4,FA (i%5) 5 ((i%5)+5)),(5,Ie ((i%5)+5) 1 ((i%5)+4)),(6,M6 ((i%5)+4) 5),(7,AN (((i%5)+4)%5) 5),(10,FA (i%5) 1 ((i%5)+1)),(11,M6 ((i%5)+1) 5),(12,AN (((i%5)+1)%5) 5),(14,AS (UJ ((M5 a 25) (((i%5)+1)%5)) 1)),(17,AN i 25)] [] 3 V λV=>Cn (Aw [(0,CF i)] [21] 3 V λV=>Ae (Av Y V (i+1) [(0,0),(1,1),(2,2)] ⟨Ac,aa⟩)))
  ·have hT:=V;obtain rfl:25=i:=by omega
   have V:=hT;exact DF (Ak [] 3 V λV=>AU (BN V))
theorem uZ:AO 208 ⟨[.ar .u64 25 a],[],.ar .u64 25 (rho a),[]⟩:=by
 refine cy 0 func208 rfl ntmps208 λY V=>Ak [] 2 V λV=>Ak [3] 3 V λV=>Ak [] 3 V λV=>Ao (Ak [] 3 V λV=>BK (AD (ι:=Nat×Nat×Nat×(Nat->Int)) Y V (λ(t,x,y,f)=>(24-t,[(4,vi (x:Int)),(5,vi (y:Int)),(9,vi ((t:Nat):Int))],[(2,Ob0 f)],(t<=24)/\(x<5)/\(y<5)/\(x=(Ke.px t).1)/\(y=(Ke.px t).2)/\(f=Wp a t)/\True)) [1,2,3] [0,1] 3 (0,1,0,a) [(0,0),(1,1),(2,2)] ⟨Ac,Ac,Ac,rfl,rfl,rfl,aa⟩ ?_));rintro⟨t,x,y,f⟩ ac gs ws ⟨ht,hx5,hy5,hx,hy,hf,_⟩ V;refine Ak [] 3 V λV=>Ao (AH ((t:Int)<24) V (λh1=> ?_) (λh1=> ?_))
 ·exact B6 (Ak [] 3 V λV=>Ay [(2,HV 5 y (5*y)),(3,FA x (5*y) (x+(5*y))),(4,AN (x+(5*y)) 25),(7,CF t),(9,FA t 2 (t+2)),(11,NI ((2:Int)≠0)),(12,AS (UJ (a (x+(5*y))) (QU .i64 (BE .i64 ((t+1:Nat):Int) ((t+2:Nat):Int)) 2)))] [] 3 V λV=>Ay [(2,HV 2 x (2*x)),(4,HV 3 y (3*y)),(5,FA (2*x) (3*y) ((2*x)+(3*y))),(6,M6 ((2*x)+(3*y)) 5)] [4,5] 3 V λV=>Aw [(2,HV 5 (((2*x)+(3*y))%5) (5*(((2*x)+(3*y))%5))),(3,FA y (5*(((2*x)+(3*y))%5)) (y+(5*(((2*x)+(3*y))%5)))),(5,AN (y+(5*(((2*x)+(3*y))%5))) 25)] [] 3 V λV=>Cn (Aw [(0,CF t)] [9] 3 V λV=>Ae (Av Y V (t+1,y,((2*x)+(3*y))%5,upd f (y+(5*(((2*x)+(3*y))%5))) (SF (a (x+(5*y))) (QU .i64 (BE .i64 ((t+1:Nat):Int) ((t+2:Nat):Int)) 2))) [(0,0),(1,1),(2,2)] ⟨Ac,Ac,Ac,hy,(by rw[hx,hy];rfl),(by rw[hf,hx,hy];rfl),aa⟩)))
 ·have hT:=V;obtain rfl:24=t:=by omega
  obtain rfl:rho a=f:=Eq.symm hf;have V:=hT;exact DF (Ak [] 3 V λV=>AU (BN V))
theorem xX:AO 209 ⟨[.ar .u64 25 a],[],.ar .u64 25 (chi a),[]⟩:=by
 refine cy 0 func209 rfl ntmps209 λY V=>Ak [] 2 V λV=>Ak [3] 3 V λV=>Ao (Ak [] 3 V λV=>BK (AD (ι:=Nat) Y V (λi=>(25-i,[(7,vi ((i:Nat):Int))],[(2,Ob0 (Xd a i))],(i<=25)/\True)) [1,2,3] [0,1] 3 0 [(0,0),(1,1),(2,2)] ⟨Ac,aa⟩ ?_));rintro i ac gs ws ⟨hi,_⟩ V;refine Ak [] 3 V λV=>Ao (AH ((i:Int)<25) V (λh1=> ?_) (λh1=> ?_))
 ·exact B6 (Ak [] 3 V λV=>Ay [(2,M6 i 5),(3,Ie i (i%5) (i-(i%5)))] [] 3 V λV=>Aw [(1,AN i 25),(5,CF i),(6,M6 (i+1) 5),(7,FA (i-(i%5)) ((i+1)%5) ((i-(i%5))+((i+1)%5))),(8,AN ((i-(i%5))+((i+1)%5)) 25),(13,FA i 2 (i+2)),(14,M6 (i+2) 5),(15,FA (i-(i%5)) ((i+2)%5) ((i-(i%5))+((i+2)%5))),(16,AN ((i-(i%5))+((i+2)%5)) 25),(20,AN i 25)] [] 3 V λV=>Cn (Aw [(0,CF i)] [7] 3 V λV=>Ae (Av Y V (i+1) [(0,0),(1,1),(2,2)] ⟨Ac,aa⟩)))
 ·have hT:=V;obtain rfl:25=i:=by omega
  have V:=hT;exact DF (Ak [] 3 V λV=>AU (BN V))
end
theorem ZD:AO 210 ⟨[],[],.ar .u64 24 RC,[]⟩:=by exact cy 0 func210 rfl ntmps210 λY V=>Ak [] 1 V λV=>Ak [] 1 V λV=>AU (BN V)
theorem Ye (a:Nat->Int):AO 199 ⟨[.ar .u64 25 a],[],.ar .u64 25 (CX a),[]⟩:=by
 refine cy 0 func199 rfl ntmps199 λY V=>Ak [] 2 V λV=>Ak [3] 3 V λV=>Ak [4] 4 V λV=>Ao (Ay [(0,AS (ZD))] [] 4 V λV=>BK (AD (ι:=Nat×(Nat->Int)) Y V (λ(i,f)=>(24-i,[(12,vi ((i:Nat):Int))],[(2,Ob0 f)],(i<=24)/\(f=KP a i)/\True)) [2,3,4,11] [1,3] 4 (0,a) [(1,1),(2,2),(3,3)] ⟨Ac,rfl,aa⟩ ?_));rintro⟨i,f⟩ ac gs ws ⟨hi,hf,_⟩ V;refine Ak [] 4 V λV=>Ao (AH ((i:Int)<24) V (λh1=> ?_) (λh1=> ?_))
 ·refine B6 (Ay [(0,AN i 24)] [] 4 V λV=>Ao (Ak [] 4 V λV=>BK (AD (ι:=Nat×(Nat->Int)) Y V (λ(j,g)=>(3-j,[(16,vi ((j:Nat):Int))],[(2,Ob0 g)],(j<=3)/\(g=Yv f j)/\True)) [2,3,4,6,11,12,15] [1,3] 4 (0,f) [(1,1),(2,2),(3,3)] ⟨Ac,rfl,aa⟩ ?_)));rintro⟨j,g⟩ ac gs ws ⟨hj,hg,_⟩ V;refine Ak [] 4 V λV=>Ao (AH ((j:Int)<3) V (λh2=> ?_) (λh2=> ?_))
  ·have hT:=V;rcases(by omega:j=0\/j=1\/j=2)with rfl|rfl|rfl
   ·have V:=hT;exact B6 (Ay [(0,AN 0 3)] [] 4 V λV=>Aw [(1,HU (.ar .u64 25 g) [(.ar .u64 25 g:D)=(.ar .u64 25 g)] ⟨rfl,aa⟩),(2,AS (cP g))] [] 4 V λV=>Cn (CW [16] 4 V λV=>Ae (Av Y V (1,theta g) [(1,1),(2,2),(3,3)] ⟨Ac,(gO _ _ _ hg),aa⟩)))
   ·have V:=hT;exact B6 (Ay [(0,AN 1 3)] [] 4 V λV=>Aw [(1,HU (.ar .u64 25 g) [(.ar .u64 25 g:D)=(.ar .u64 25 g)] ⟨rfl,aa⟩),(2,AS (uZ g))] [] 4 V λV=>Cn (CW [16] 4 V λV=>Ae (Av Y V (2,rho g) [(1,1),(2,2),(3,3)] ⟨Ac,(gO _ _ _ hg),aa⟩)))
   ·have V:=hT;exact B6 (Ay [(0,AN 2 3)] [] 4 V λV=>Aw [(1,HU (.ar .u64 25 g) [(.ar .u64 25 g:D)=(.ar .u64 25 g)] ⟨rfl,aa⟩),(2,AS (xX g))] [] 4 V λV=>Cn (CW [16] 4 V λV=>Ae (Av Y V (3,chi g) [(1,1),(2,2),(3,3)] ⟨Ac,(gO _ _ _ hg),aa⟩)))
  ·have hT:=V;obtain rfl:3=j:=by omega
   have V:=hT;exact DF (Aw [(0,AN 0 25),(4,AN 0 25)] [] 4 V λV=>Cn (Aw [(0,CF i)] [12] 4 V λV=>Ae (Av Y V (i+1,upd g 0 (AV .u64 (g 0) (RC i))) [(1,1),(2,2),(3,3)] ⟨Ac,(Aat a _ _ i hf hg),aa⟩)))
 ·have hT:=V;obtain rfl:24=i:=by omega
  obtain rfl:CX a=f:=Eq.symm hf;have V:=hT;exact DF (Ak [] 4 V λV=>AU (BN V))
end
end Go.Sx.Tryz
namespace Go.Sx
open Go.Mi Go.RowKit
theorem VQ (l:AZ) (j:Nat) (h:j<l.length):(l.take (j+1)).flatten=(l.take j).flatten++l.getD j AW:=by
 rw[List.take_add_one,de,am h];simp [List.getD,am h]
 try rfl
theorem TO (l:AZ) (j:Nat) (h:j<l.length):(l.take (j+1)).flatten.length=(l.take j).flatten.length+(l.getD j AW).length:=by rw[VQ l j h,ah]
theorem Tz (l:AZ) (j:Nat):(l.take j).flatten.length<=l.flatten.length:=by
 have h:l.flatten=(l.take j).flatten++(l.drop j).flatten:=by rw[<-de,dg]
 rw[h,ah];omega
theorem Xf {l:AZ} {j c:Nat} (h:j<l.length) (hc:l.flatten.length<=c):(l.take j).flatten.length+(l.getD j AW).length<=c:=by rw[<-TO l j h];exact b_ (Tz l _) hc
def bW (b:Ad) (f:Nat->Int):Nat->Nat->Int
 |0=>f
 |i+1=>upd (bW b f i) (i/8) (AV .u64 (bW b f i (i/8)) (BW .u64 (IntKind.wrap .u64 (b.getD i 0)) ((8*(i%8):Nat):Int)))
def Rc (p:Ad) (r:Nat):Nat->Nat->Int
 |0=>λ_=>0
 |k+1=>CX (bW (p.drop (k*r)) (Rc p r k) r)
def Mr (r:Nat) (e:Int) (l:AZ):Ad:=(l.flatten++[e])++List.replicate ((r-(l.flatten++[e]).length%r)%r) (0:Int)
def fV (r:Nat) (e:Int) (l:AZ):Ad:=(Mr r e l).set ((Mr r e l).length-1) (Ew .u8 ((Mr r e l).getD ((Mr r e l).length-1) 0) 128)
def Pp (r:Nat) (e:Int) (l:AZ):Nat->Int:=Rc (fV r e l) r ((fV r e l).length/r)
theorem fU {r:Nat} (h:0<r) (e:Int) (l:AZ):∃N,0<N/\(Mr r e l).length=N*r:=by
 unfold Mr;generalize hb:l.flatten++[e]=b;have hp:0<b.length:=by rw[<-hb];simp
 rw[ah,az];have h1:=Nat.div_add_mod b.length r;have h2:=di b.length h;by_cases h3:b.length%r=0
 ·rw[h3,Nat.sub_zero,Nat.mod_self];refine⟨b.length/r,?_,?_⟩
  ·rcases fc (b.length/r)with h4|h4
   ·rw[h4,h3]at h1;simp at h1;omega
   ·exact h4
  ·rw[h3]at h1;rw[Nat.mul_comm];omega
 ·rw[Nat.mod_eq_of_lt (a:=r-b.length%r) (by omega)];refine⟨b.length/r+1,Nat.succ_pos _,?_⟩;rw[fb,Nat.mul_comm];omega
theorem Yj {r:Nat} {e:Int} {l:AZ}:(fV r e l).length=(Mr r e l).length:=by simp [fV]
theorem oT {r:Nat} (h:0<r) (e:Int) (l:AZ):(Mr r e l).length<=l.flatten.length+1+r:=by unfold Mr;rw[ah,az,ah];have :=di (r-(l.flatten++[e]).length%r) h;simp only[ah,aw,av]at this⊢;omega
theorem zH {p b:Ad} {r k N:Nat} (hr:0<r) (hN:p.length=N*r) (hb:b=p.drop (k*r)) (hk:k<=N) (h:0<b.length):k<N/\r<=b.length:=by
 rw[hb,au,hN,<-Nat.sub_mul]at h⊢;rcases fc (N-k)with h1|h1
 ·rw[h1]at h;simp at h
 ·exact⟨by omega,Nat.le_mul_of_pos_left r h1⟩
theorem sE {p b:Ad} {r k N:Nat} (hr:0<r) (hN:p.length=N*r) (hb:b=p.drop (k*r)) (hk:k<=N) (h:¬0<b.length):k=p.length/r:=by
 rw[hb,au,hN,<-Nat.sub_mul]at h;rw[hN,Nat.mul_div_cancel _ hr];rcases fc (N-k)with h1|h1
 ·omega
 ·exact absurd (Nat.mul_pos h1 hr) h
theorem mG {p b:Ad} {r k:Nat} (hb:b=p.drop (k*r)):b.drop r=p.drop ((k+1)*r):=by rw[hb,List.drop_drop,fb]
theorem mE {p b:Ad} {r k:Nat} {f g:Nat->Int} (hb:b=p.drop (k*r)) (hf:f=Rc p r k) (hg:g=bW b f r):CX g=Rc p r (k+1):=by rw[hg,hf,hb];rfl
def El (r:Nat) (f:Nat->Int) (a:Nat):Nat->(Nat->Int)×Nat×Ad
 |0=>(f,a,[])
 |j+1=>match El r f a j with
  |(g,b,o)=>if b=r then(CX g,1,o++[IntKind.wrap .u8 (Bi .u64 (CX g 0) 0)])else(g,b+1,o++[IntKind.wrap .u8 (Bi .u64 (g (b/8)) ((8*(b%8):Nat):Int))])
theorem UT {r:Nat} {f0:Nat->Int} {a0:Nat} {f:Nat->Int} {a:Nat} {o:Ad} (hq:(f,a,o)=El r f0 a0 o.length) (ha:a=r):(CX f,1,o++[IntKind.wrap .u8 (Bi .u64 (CX f 0) 0)])=El r f0 a0 (o++[IntKind.wrap .u8 (Bi .u64 (CX f 0) 0)]).length:=by
 rw[ah];show _=(match El r f0 a0 o.length with
  |(g,b,o)=>if b=r then(CX g,1,o++[IntKind.wrap .u8 (Bi .u64 (CX g 0) 0)])else(g,b+1,o++[IntKind.wrap .u8 (Bi .u64 (g (b/8)) ((8*(b%8):Nat):Int))]))
 rw[<-hq];simp only[ab ha]
theorem US {r:Nat} {f0:Nat->Int} {a0:Nat} {f:Nat->Int} {a:Nat} {o:Ad} (hq:(f,a,o)=El r f0 a0 o.length) (ha:¬a=r):(f,a+1,o++[IntKind.wrap .u8 (Bi .u64 (f (a/8)) ((8*(a%8):Nat):Int))])=El r f0 a0 (o++[IntKind.wrap .u8 (Bi .u64 (f (a/8)) ((8*(a%8):Nat):Int))]).length:=by
 rw[ah];show _=(match El r f0 a0 o.length with
  |(g,b,o)=>if b=r then(CX g,1,o++[IntKind.wrap .u8 (Bi .u64 (CX g 0) 0)])else(g,b+1,o++[IntKind.wrap .u8 (Bi .u64 (g (b/8)) ((8*(b%8):Nat):Int))]))
 rw[<-hq];simp only[aj ha]
theorem u7 {r:Nat} {f0:Nat->Int} {a0 n:Nat} {f:Nat->Int} {a:Nat} {o:Ad} (hq:(f,a,o)=El r f0 a0 o.length) (hn:o.length=n):f=(El r f0 a0 n).1/\a=(El r f0 a0 n).2.1/\o=(El r f0 a0 n).2.2:=by rw[<-hn,<-hq];exact⟨rfl,rfl,rfl⟩
theorem Nn (r:Nat) (f0:Nat->Int) (a0:Nat):∀n,(El r f0 a0 n).2.2.length=n
 |0=>rfl
 |n+1=>by
  have ih:=Nn r f0 a0 n;show(match El r f0 a0 n with
   |(g,b,o)=>if b=r then(CX g,1,o++[IntKind.wrap .u8 (Bi .u64 (CX g 0) 0)])else(g,b+1,o++[IntKind.wrap .u8 (Bi .u64 (g (b/8)) ((8*(b%8):Nat):Int))])).2.2.length=n+1
  revert ih;generalize El r f0 a0 n=q;obtain⟨g,b,o⟩:=q;intro ih;simp only at ih⊢;split<;>simp [ih]
theorem ZH (r:Nat) (f0:Nat->Int) (a0:Nat):(f0,a0,[])=El r f0 a0 0:=rfl
theorem RB (r : Nat) (f : Nat -> Int) (a j : Nat) : El r f a (j + 1) = match El r f a j with
  |(g,b,o)=>if b=r then(CX g,1,o++[IntKind.wrap .u8 (Bi .u64 (CX g 0) 0)])else(g,b+1,o++[IntKind.wrap .u8 (Bi .u64 (g (b/8)) ((8*(b%8):Nat):Int))]):=rfl
attribute [irreducible] El
end Go.Sx
namespace Go.Sx.Tryz
open Go.Mi Go.RowKit Go.Sx Go.Proofs Go.Proofs.Tryz
noncomputable section
open List (replicate)
theorem qC (n:Nat) (h:n<=140737488355328):AO 187 ⟨[.v (.slice none 0 0),vi (n:Int)],[],.sk 0,[(0,.sl 5 Bb [])]⟩:=by
 refine cy 0 func187 rfl ntmps187 λY V=>Ak [] 0 V λV=>Ao (Ay [(1,TX false [(decide ((n:Int)<0))=false] ⟨decide_eq_false Ac,aa⟩)] [] 0 V λV=>Ai V (DZ (Ay [(6,Ie n 0 n)] [1] 0 V λV=>Ak [] 0 V λV=>AH ((0:Int)<(n:Int)) V (λh1=> ?_) (λh1=> ?_))))
 ·refine Aw [(3,Zi 0 0),(5,mS [(0:Int)<=(n:Int),([]:List (RT Bb)).length+n<=9223372036854775807,(([]:List (RT Bb)).length+n)*1<=140737488355328] ⟨by omega,by simp<;>omega,by simp<;>omega,aa⟩),(8,OZ ((0:Int)<=0/\(0:Int)<=([]++replicate n (0:Int)).length) (by simp))] [0] 2 V λV=>Ae (Ak [] 2 V λV=>AU ?_);obtain⟨gs,V⟩:=V.rx [(0,1)] [4] [0] 1 Y;exact BN V
 ·refine BR (Ak [] 0 V λV=>AU ?_);obtain⟨gs,V⟩:=V.nilk 4 5 Bb;exact BN V
theorem Sa (l:AZ) (h:l.flatten.length<=140737488355328):AO 161 ⟨[.ls false A0 l],[],.sk 0,[(0,.sl 5 Bb l.flatten)]⟩:=by
 refine cy 0 func161 rfl ntmps161 λY V=> ?_;have Fp:l.length<=9223372036854775807:=V.len 0 rfl;refine Ak [] 0 V λV=>Ak [] 0 V λV=>Ao (Ak [9] 0 V λV=>BK (AD (ι:=Nat×Nat) Y V (λ(i,c)=>(l.length-i,[(3,vi (c:Int)),(11,vi ((i:Nat):Int))],[],(i<=l.length)/\(c=(l.take i).flatten.length)/\True)) [0,2,9,10] [] 0 (0,0) [] ⟨Ac,rfl,aa⟩ ?_));rintro⟨i,c⟩ ac gs ws ⟨hi,hc,_⟩ V;refine Ak [] 0 V λV=>Ao (AH ((i:Int)<((l.length:Nat):Int)) V (λh1=> ?_) (λh1=> ?_))
 ·refine B6 (Ay [(0,AN i l.length)] [] 0 V λV=>Ao ?_);have hb:=Xf (l:=l) (j:=i) Ac h;rw[<-hc]at hb;exact Aw [(3,FA c ((l.getD i AW).length) (c+((l.getD i AW).length)))] [3] 0 V λV=>Ae (Ay [(1,TX false [(decide (((c+((l.getD i AW).length):Nat):Int)<0))=false] ⟨decide_eq_false Ac,aa⟩)] [] 0 V λV=>Ai V (GT (Aw [(0,CF i)] [11] 0 V λV=>Ae (Av Y V (i+1,c+((l.getD i AW).length)) [] ⟨Ac,(by rw[TO l i Ac,<-hc]),aa⟩))))
 ·have hT:=V;obtain rfl:l.length=i:=by omega
  obtain rfl:l.flatten.length=c:=Eq.symm (by rw[hc,e_]);have V:=hT;refine DF (Ay [(1,AC (qC l.flatten.length Ac) [] [(0,0)])] [] 1 V λV=>Ao (Ak [25] 1 V λV=>BK (AD (ι:=Nat×Ad) Y V (λ(j,o)=>(l.length-j,[(27,vi ((j:Nat):Int))],[(0,.sl 5 Bb o)],(j<=l.length)/\(o=(l.take j).flatten)/\True)) [2,6,25,26] [] 1 (0,[]) [(0,0)] ⟨Ac,rfl,aa⟩ ?_)));rintro⟨j,o⟩ ac gs ws ⟨hj,ho,_⟩ V;refine Ak [] 1 V λV=>Ao (AH ((j:Int)<((l.length:Nat):Int)) V (λh2=> ?_) (λh2=> ?_))
  ·refine B6 (Ay [(0,AN j l.length)] [] 1 V λV=> ?_);have hb:=Xf (l:=l) (j:=j) Ac h;rw[<-ho]at hb;exact Aw [(2,GJ o.length ((l.getD j AW).length) 1 Ac)] [6] 2 V λV=>Cn (Aw [(0,CF j)] [27] 2 V λV=>Ae (Av Y V (j+1,o++(l.getD j AW)) [(0,1)] ⟨Ac,(by rw[VQ l j Ac,<-ho]),aa⟩))
  ·have hT:=V;obtain rfl:l.length=j:=by omega
   obtain rfl:l.flatten=o:=Eq.symm (by rw[ho,e_]);have V:=hT;exact DF (Ak [] 1 V λV=>AU (BN V))
theorem Qv (l:AZ) (h:l.flatten.length<=140737488355328):AO 154 ⟨[.ls false A0 l],[],.sk 0,[(0,.sl 5 Bb l.flatten)]⟩:=by exact cy 0 func154 rfl ntmps154 λY V=>Ak [] 0 V λV=>Ay [(1,AC (Sa l (by first |omega|(simp only[bc,cd,ah,aw,av,ao,au,az]<;>omega)|(simp<;>omega))) [] [(0,0)])] [] 1 V λV=>AU (BN V)
section
variable (x0:Nat->Int) (x1:Nat)
def Ob1:O:= .ob 250 (Ag [.ar .u64 25 x0,vi ((x1:Nat):Int),vi 0])
def Ob2 (x2:Nat):O:= .ob 250 (Ag [.ar .u64 25 x0,vi ((x1:Nat):Int),vi ((x2:Nat):Int)])
end
theorem Is (r:Nat) (e:Int) (l:AZ) (hr:0<r) (hr2:r<=200) (h:l.flatten.length<=140000000000000):AO 173 ⟨[vi (r:Int),.v (.int .u8 e),.ls false A0 l],[],.cp 0 0,[(0,Ob1 (Pp r e l) r)]⟩:=by
 refine cy 0 func173 rfl ntmps173 λY V=>Ak [] 0 V λV=>Ay [(1,AC (Qv l (by first |omega|(simp only[bc,cd,ah,aw,av,ao,au,az]<;>omega)|(simp<;>omega))) [] [(0,0)]),(4,GJ l.flatten.length 1 1 (by first |omega|(simp only[ah,aw,av];omega)))] [] 2 V λV=>Ao ?_;have hm:=di (l.flatten++[e]).length hr;have hm2:=di (r-(l.flatten++[e]).length%r) hr;have hl1:(l.flatten++[e]).length=l.flatten.length+1:=by simp
 refine Aw [(5,M6 ((l.flatten++[e]).length) r),(6,Ie r (((l.flatten++[e]).length)%r) (r-(((l.flatten++[e]).length)%r))),(8,M6 (r-(((l.flatten++[e]).length)%r)) r),(9,mS [(0:Int)<=(((r-(((l.flatten++[e]).length)%r))%r:Nat):Int),(l.flatten++[e]).length+((r-(((l.flatten++[e]).length)%r))%r)<=9223372036854775807,((l.flatten++[e]).length+((r-(((l.flatten++[e]).length)%r))%r))*1<=140737488355328] ⟨by omega,by first |omega|(simp only[ah,aw,av];omega),by first |omega|(simp only[ah,aw,av];omega),aa⟩)] [7] 3 V λV=> ?_;obtain⟨p,hp⟩:∃p,p=Mr r e l:=⟨_,rfl⟩;have V:=(V.rv [(0,vi (r:Int)),(6,.v (.pointer none)),(7,.sk 2)] [(2,some (.sl 5 Bb p))] (by subst hp;kernel_rfl) (by subst hp;kernel_rfl)).sp;obtain⟨N,hN0,hN⟩:=fU hr e l;have hp1:1<=(Mr r e l).length:=by rw[hN];exact Nat.mul_pos hN0 hr
 have hpl:=oT hr e l;rw[<-hp]at hN hp1 hpl;refine CV (Aw [(3,Ie p.length 1 (p.length-1)),(4,AN (p.length-1) p.length),(7,AN (p.length-1) p.length)] [] 3 V λV=> ?_);obtain⟨q,hq⟩:∃q,q=fV r e l:=⟨_,rfl⟩;have V:=(V.rv [(0,vi (r:Int)),(6,.v (.pointer none)),(7,.sk 2)] [(2,some (.sl 5 Bb q))] (by subst hq;subst hp;kernel_rfl) (by subst hq;subst hp;kernel_rfl)).sp;have hNq:q.length=N*r:=by rw[hq,Yj,<-hp,hN]
 refine Ae (Ak [] 4 V λV=>Ao (BK ?_));obtain⟨gs,V⟩:=V.fz 2;refine AD (ι:=Nat×Ad×(Nat->Int)) Y V (λ(k,b,f)=>(N-k,[(7,lb b)],[(3,Ob1 f r)],(k<=N)/\(b=q.drop (k*r))/\(f=Rc q r k)/\True)) [0,6,8] [] 4 (0,q,λ_=>0) [(3,3)] ⟨Ac,(by rw[iw];rfl),rfl,aa⟩ ?_;rintro⟨k,b,f⟩ ac gs ws ⟨hk,hb,hf,_⟩ V;refine Ao (Ak [] 4 V λV=>AH ((0:Int)<((b.length:Nat):Int)) V (λh1=> ?_) (λh1=> ?_))
 ·refine B6 (He ?_);obtain⟨hkN,hrb⟩:=zH hr hNq hb hk Ac;refine CW [] 4 V λV=>Ae (BK (AD (ι:=Nat×(Nat->Int)) Y V (λ(i,g)=>(r-i,[(43,vi ((i:Nat):Int))],[(3,Ob1 g r)],(i<=r)/\(g=bW b f i)/\True)) [0,6,7,8,42] [] 4 (0,f) [(3,3)] ⟨Ac,rfl,aa⟩ ?_));rintro⟨i,g⟩ ac gs ws ⟨hi,hg,_⟩ V;refine Ak [] 4 V λV=>Ao (AH ((i:Int)<(r:Int)) V (λh2=> ?_) (λh2=> ?_))
  ·exact B6 (Ak [] 4 V λV=>Aw [(2,V9 i 8),(5,AN (i/8) 25),(9,AN i b.length),(13,M6 i 8),(14,HV 8 (i%8) (8*(i%8))),(15,If (8*(i%8))),(19,AN (i/8) 25)] [] 4 V λV=>Cn (Aw [(0,CF i)] [43] 4 V λV=>Ae (Av Y V (i+1,upd g (i/8) (AV .u64 (g (i/8)) (BW .u64 (IntKind.wrap .u64 (b.getD i 0)) ((8*(i%8):Nat):Int)))) [(3,3)] ⟨Ac,(by rw[hg];rfl),aa⟩)))
  ·have hT:=V;obtain rfl:r=i:=by omega
   have V:=hT;exact DF (Aw [(4,HU (.ar .u64 25 g) [(.ar .u64 25 g:D)=(.ar .u64 25 g)] ⟨rfl,aa⟩),(5,AS (Ye g))] [] 4 V λV=>Cn (Aw [(2,NJ r b.length)] [7] 4 V λV=>Ae (Av Y V (k+1,b.drop r,CX g) [(3,3)] ⟨Ac,(mG hb),(mE hb hf hg),aa⟩)))
 ·have hT:=V;obtain rfl:q.length/r=k:=Eq.symm (sE hr hNq hb hk Ac);obtain rfl:Pp r e l=f:=Eq.symm (by rw[hf,hq];rfl);have V:=hT;refine DF (Ak [] 4 V λV=>AU ?_);obtain⟨gs,V⟩:=V.rx [(0,3)] [6] [0] 1 Y;exact BN V
theorem Mh (r:Nat) (f:Nat->Int) (a n:Nat) (hr:0<r) (hr2:r<=200) (har:a<=r) (h:n<=140737488355328):AO 174 ⟨[.cp 0 0,vi (n:Int)],[(0,Ob2 f r a)],lb (El r f a n).2.2,[(0,Ob2 (El r f a n).1 r (El r f a n).2.1)]⟩:=by
 refine cy 1 func174 rfl ntmps174 λY V=>Ak [] 1 V λV=>Ao (BK ?_);obtain⟨gs,V⟩:=V.nilk 4 5 Bb;refine AD (ι:=(Nat->Int)×Nat×Ad) Y V (λ(g,b,o)=>(n-o.length,[],[(0,Ob2 g r b),(1,.sl 5 Bb o)],(b<=r)/\(o.length<=n)/\((g,b,o)=El r f a o.length)/\True)) [0,1,4] [] 2 (f,a,[]) [(0,0),(1,1)] ⟨Ac,(by simp),(ZH r f a),aa⟩ ?_;rintro⟨g,b,o⟩ ac gs ws ⟨hb,ho,hq,_⟩ V;refine Ao (Ak [] 2 V λV=>AH (((o.length:Nat):Int)<(n:Int)) V (λh1=> ?_) (λh1=> ?_))
 ·refine BR (BK (Ao (Ak [] 2 V λV=>AH ((b:Int)=(r:Int)) V (λh2=> ?_) (λh2=> ?_))))
  ·exact Aw [(5,HU (.ar .u64 25 g) [(.ar .u64 25 g:D)=(.ar .u64 25 g)] ⟨rfl,aa⟩),(6,AS (Ye g))] [] 2 V λV=>Ae (Ay [(6,NI ((8:Int)≠0)),(9,AN 0 25),(15,NI ((8:Int)≠0)),(17,If 0),(20,GJ o.length 1 1)] [4] 3 V λV=>CW [] 3 V λV=>Cn (Av Y V (CX g,1,o++[(IntKind.wrap .u8 (Bi .u64 ((CX g) 0) 0))]) [(0,0),(1,2)] ⟨Ac,(by simp<;>omega),(by first |exact UT hq Ac|exact US hq Ac),aa⟩ (by simp<;>omega)))
  ·exact BR (Ay [(6,V9 b 8),(9,AN (b/8) 25),(15,M6 b 8),(16,HV 8 (b%8) (8*(b%8))),(17,If (8*(b%8))),(20,GJ o.length 1 1)] [4] 3 V λV=>Aw [(4,CF b)] [] 3 V λV=>Cn (Av Y V (g,b+1,o++[(IntKind.wrap .u8 (Bi .u64 (g (b/8)) ((8*(b%8):Nat):Int)))]) [(0,0),(1,2)] ⟨Ac,(by simp<;>omega),(by first |exact UT hq Ac|exact US hq Ac),aa⟩ (by simp<;>omega)))
 ·have hT:=V;have hn:o.length=n:=by omega
  obtain⟨e1,e2,e3⟩:=u7 hq hn;obtain rfl:(El r f a n).1=g:=Eq.symm e1;obtain rfl:(El r f a n).2.1=b:=Eq.symm e2;obtain rfl:(El r f a n).2.2=o:=Eq.symm e3;have V:=hT;refine DF (Ak [4] 2 V λV=>AU ?_);obtain⟨gs,V⟩:=V.fz 1;exact BN V
def Q3 (x0:Nat->Int):O:= .ob 212 (Ag [.ar .u16 256 x0])
def Eg (x:Int):Int:=AR ((IntKind.wrap .u16 (DY x 3329)))
def AbC (x:Int) (z_:Int:=Eg x):Con:=⟨[.v (.int .u32 x)],[],.v (.int .u16 z_),[]⟩
theorem Ij (x:Int):AO 177 (AbC x):=by exact cy 0 func177 rfl ntmps177 λY V=>Ak [] 0 V λV=>Ay [(1,NI ((3329:Int)≠0))] [] 0 V λV=>AU (BX (Ab _) V)
def V2 (g:Nat->Int) (x6:Nat):(Nat->Int)->(Nat->Int):=λo2_0=>upd o2_0 x6 (Eg (A6 .u32 (IntKind.wrap .u32 (o2_0 x6)) (IntKind.wrap .u32 (g x6))))
section
variable (f g:Nat->Int)
def QI (f g:Nat->Int):Nat->(Nat->Int)
 |0=>f
 |x6+1=>V2 g x6 (QI f g x6)
def BD:(Nat->Int):=AR (QI f g 256)
def AbH (z_:(Nat->Int):=BD f g):Con:=⟨[.ar .u16 256 f,.ar .u16 256 g],[],.ar .u16 256 z_,[]⟩
theorem Jg:AO 151 (AbH f g):=by
 refine cy 0 func151 rfl ntmps151 λY V=>Ak [] 3 V λV=>Ao (Ak [] 3 V λV=>BK (AD (ι:=Nat×(Nat->Int)) Y V (λ(x6,o2_0)=>(256-x6,[(6,vi ((x6:Nat):Int))],[(0,Q3 o2_0)],(x6<=256)/\(o2_0=QI f g x6)/\True)) [2,3,4] [1,2] 3 (0,f) [(0,0),(1,1),(2,2)] ⟨Ac,rfl,aa⟩ ?_));rintro⟨x6,o2_0⟩ ac gs ws ⟨hx6,hq1,_⟩ V;refine Ak [] 3 V λV=>Ao (AH ((x6:Int)<256) V (λh1=> ?_) (λh1=> ?_))
 ·exact B6 (Ak [] 3 V λV=>Aw [(2,AN x6 256),(6,AN x6 256),(10,AS (Ij (A6 .u32 (IntKind.wrap .u32 (o2_0 x6)) (IntKind.wrap .u32 (g x6))))),(11,AN x6 256)] [] 3 V λV=>Cn (Aw [(0,CF x6)] [6] 3 V λV=>Ae (Av Y V (x6+1,upd o2_0 x6 (Eg (A6 .u32 (IntKind.wrap .u32 (o2_0 x6)) (IntKind.wrap .u32 (g x6))))) [(0,0),(1,1),(2,2)] ⟨Ac,(Bp (st:=V2 _) hq1 rfl rfl),aa⟩)))
 ·have hT:=V;obtain rfl:256=x6:=by omega
  obtain rfl:=hq1.symm;have V:=hT;exact DF (Ak [] 3 V λV=>AU (BX (Ab _) V))
end
def Uq (g:Nat->Int) (x6:Nat):(Nat->Int)->(Nat->Int):=λo2_0=>upd o2_0 x6 (Eg (EO .u32 (A6 .u32 (IntKind.wrap .u32 (o2_0 x6)) 3329) (IntKind.wrap .u32 (DY (g x6) 3329))))
section
variable (f g:Nat->Int)
def Wh (f g:Nat->Int):Nat->(Nat->Int)
 |0=>f
 |x6+1=>Uq g x6 (Wh f g x6)
def L3:(Nat->Int):=AR (Wh f g 256)
def Abw (z_:(Nat->Int):=L3 f g):Con:=⟨[.ar .u16 256 f,.ar .u16 256 g],[],.ar .u16 256 z_,[]⟩
theorem uP:AO 196 (Abw f g):=by
 refine cy 0 func196 rfl ntmps196 λY V=>Ak [] 3 V λV=>Ao (Ak [] 3 V λV=>BK (AD (ι:=Nat×(Nat->Int)) Y V (λ(x6,o2_0)=>(256-x6,[(6,vi ((x6:Nat):Int))],[(0,Q3 o2_0)],(x6<=256)/\(o2_0=Wh f g x6)/\True)) [2,3,4] [1,2] 3 (0,f) [(0,0),(1,1),(2,2)] ⟨Ac,rfl,aa⟩ ?_));rintro⟨x6,o2_0⟩ ac gs ws ⟨hx6,hq1,_⟩ V;refine Ak [] 3 V λV=>Ao (AH ((x6:Int)<256) V (λh1=> ?_) (λh1=> ?_))
 ·exact B6 (Ak [] 3 V λV=>Aw [(2,AN x6 256),(7,AN x6 256),(9,NI ((3329:Int)≠0)),(12,AS (Ij (EO .u32 (A6 .u32 (IntKind.wrap .u32 (o2_0 x6)) 3329) (IntKind.wrap .u32 (DY (g x6) 3329))))),(13,AN x6 256)] [] 3 V λV=>Cn (Aw [(0,CF x6)] [6] 3 V λV=>Ae (Av Y V (x6+1,upd o2_0 x6 (Eg (EO .u32 (A6 .u32 (IntKind.wrap .u32 (o2_0 x6)) 3329) (IntKind.wrap .u32 (DY (g x6) 3329))))) [(0,0),(1,1),(2,2)] ⟨Ac,(Bp (st:=Uq _) hq1 rfl rfl),aa⟩)))
 ·have hT:=V;obtain rfl:256=x6:=by omega
  obtain rfl:=hq1.symm;have V:=hT;exact DF (Ak [] 3 V λV=>AU (BX (Ab _) V))
end
def NN (x3:Nat):(Int×Int)->(Int×Int):=λ(x0,x2)=>((Bi .i64 x0 1),(Ew .i64 (BW .i64 x2 1) (BI .i64 x0 1)))
section
variable (i:Nat)
def M_ (i:Nat):Nat->Int×Int
 |0=>((i:Int),0)
 |x3+1=>NN x3 (M_ i x3)
def LX:Int:=(M_ i 7).2
def Hv:Int:=AR (LX i)
theorem Ul:Hv i=LX i:=Ab _
theorem Zm (h:i<128):0<=Hv i/\Hv i<128:=by
 have key:((List.range 128).all λi=>decide (0<=LX i)&&decide (LX i<128))=true:=by kernel_rfl
 have :=ax.1 key i (el.2 h);rw[ap,decide_eq_true_iff,decide_eq_true_iff]at this;rw[Ul];exact this
def kV (z_:Int:=Hv i):Con:=⟨[vi (i:Int)],[],vi z_,[]⟩
theorem Zl (h:i<128):AO 200 (kV i):=by
 refine cy 0 func200 rfl ntmps200 λY V=>Ak [] 0 V λV=>Ao (Ak [] 0 V λV=>BK (AD (ι:=Nat×Int×Int) Y V (λ(x3,x0,x2)=>(7-x3,[(0,vi x0),(2,vi x2),(3,vi ((x3:Nat):Int))],[],(x3<=7)/\((x0,x2)=M_ i x3)/\True)) [] [] 0 (0,(i:Int),0) [] ⟨Ac,rfl,aa⟩ ?_));rintro⟨x3,x0,x2⟩ ac gs ws ⟨hx3,hq1,_⟩ V;refine Ak [] 0 V λV=>Ao (AH ((x3:Int)<7) V (λh1=> ?_) (λh1=> ?_))
 ·exact B6 (Ay [(1,If 1)] [2] 0 V λV=>Aw [(1,If 1)] [0] 0 V λV=>Cn (Aw [(0,CF x3)] [3] 0 V λV=>Ae (Av Y V (x3+1,(Bi .i64 x0 1),(Ew .i64 (BW .i64 x2 1) (BI .i64 x0 1))) [] ⟨Ac,(Bp (st:=NN) hq1 rfl rfl),aa⟩)))
 ·have hT:=V;obtain rfl:7=x3:=by omega
  obtain⟨rfl,rfl⟩:=SU hq1;have V:=hT;exact DF (Ak [2] 0 V λV=>AU (BX (Ul ..) V))
end
def O3 (k1:Nat):(Nat×(Nat->Int))->(Nat×(Nat->Int)):=λ(x2,o1_0)=>(x2+1,upd o1_0 x2 (DY (BE .u32 (o1_0 (Int.toNat (((x2:Nat):Int)-1))) 17) 3329))
def Hu:Nat->Nat×(Nat->Int)
 |0=>(1,upd (λ_=>0) 0 1)
 |k1+1=>O3 k1 (Hu k1)
def K_:(Nat×(Nat->Int))->Prop:=λ(x2,o1_0)=>((x2:Nat):Int)<128
def O1 (x17:Nat):(Nat->Int)->(Nat->Int):=λo0_0=>upd o0_0 x17 (((Hu (DX λj=>K_ (Hu j))).2) (Int.toNat (Hv x17)))
def O2:Nat->(Nat->Int)
 |0=>λ_=>0
 |x17+1=>O1 x17 (O2 x17)
def D8:(Nat->Int):=AR (O2 128)
def rA (z_:(Nat->Int):=D8):Con:=⟨[],[],.ar .u32 128 z_,[]⟩
theorem O0:AO 176 (rA):=by
 refine cy 0 func176 rfl ntmps176 λY V=>Ak [] 1 V λV=>Ak [] 2 V λV=>Ay [(0,AN 0 128)] [] 2 V λV=>Ao (Ak [] 2 V λV=>BK (AD (ι:=Nat×Nat×(Nat->Int)) Y V (λ(k1,x2,o1_0)=>(128-x2,[(2,vi (x2:Int))],[(1,.ob 233 (Ag [.ar .u32 128 o1_0]))],((x2,o1_0)=Hu k1)/\(∀j,j<k1->K_ (Hu j))/\(x2<=128)/\(1<=x2)/\True)) [0,1] [0] 2 (0,1,upd (λ_=>0) 0 1) [(0,0),(1,1)] ⟨rfl,(λj h=>absurd h (bd j)),Ac,Ac,aa⟩ ?_));rintro⟨k1,x2,o1_0⟩ ac gs ws ⟨hq1,hj1,p1,p2,_⟩ V;refine Ao (Ak [] 2 V λV=>AH ((x2:Int)<128) V (λh1=> ?_) (λh1=> ?_))
 ·exact B6 (Aw [(2,Ub (x2:Int) 1),(3,Sk ((x2:Int)-1) 128),(6,NI ((3329:Int)≠0)),(7,AN x2 128)] [] 2 V λV=>Cn (Aw [(1,CF x2)] [2] 2 V λV=>Ae (Av Y V (k1+1,x2+1,upd o1_0 x2 (DY (BE .u32 (o1_0 (Int.toNat ((x2:Int)-1))) 17) 3329)) [(0,0),(1,1)] ⟨(Bp (st:=O3) hq1 rfl rfl),(Bf hj1 (by rw[<-hq1];exact h1)),Ac,Ac,aa⟩)))
 ·have hT:=V;obtain rfl:=CB (by rw[<-hq1];first |exact h1|exact cq h1) hj1;obtain⟨rfl,rfl⟩:=SU hq1;have V:=hT;refine I8 (Ak [] 2 V λV=>BK (AD (ι:=Nat×(Nat->Int)) Y V (λ(x17,o0_0)=>(128-x17,[(17,vi ((x17:Nat):Int))],[(0,.ob 233 (Ag [.ar .u32 128 o0_0]))],(x17<=128)/\(o0_0=O2 x17)/\True)) [0,1] [1] 2 (0,λ_=>0) [(0,0),(1,1)] ⟨Ac,rfl,aa⟩ ?_));rintro⟨x17,o0_0⟩ ac gs ws ⟨hx17,hq2,_⟩ V;refine Ak [] 2 V λV=>Ao (AH ((x17:Int)<128) V (λh2=> ?_) (λh2=> ?_))
  ·refine B6 (Ak [] 2 V λV=> ?_);have ht:=Zm x17 Ac;exact Aw [(2,AS (Zl x17 Ac)),(3,Sk (Hv x17) 128),(5,AN x17 128)] [] 2 V λV=>Cn (Aw [(0,CF x17)] [17] 2 V λV=>Ae (Av Y V (x17+1,upd o0_0 x17 (((Hu (DX λj=>K_ (Hu j))).2) (Int.toNat (Hv x17)))) [(0,0),(1,1)] ⟨Ac,(Bp (st:=O1) hq2 rfl rfl),aa⟩))
  ·have hT:=V;obtain rfl:128=x17:=by omega
   obtain rfl:=hq2.symm;have V:=hT;exact DF (Ak [] 2 V λV=>AU (BX (Ab _) V))
def PW (h:Nat):Prop:=h=1\/h=2\/h=4\/h=8\/h=16\/h=32\/h=64\/h=128
theorem AaD {h k:Nat} (h2:2<=h) (hh:PW h) (hk:k*h=128):k*(2*h)=256+0/\PW (h/2)/\h<=128:=by
 unfold PW at hh⊢;rcases hh with rfl|rfl|rfl|rfl|rfl|rfl|rfl|rfl<;>omega
theorem AaC {h k f:Nat} (h2:2<=h) (hh:PW h) (hk:k*(2*h)=256+f) (hf:f<256):f+2*h<=256/\k<128/\(k+1)*(2*h)=256+(f+2*h):=by
 unfold PW at hh;rcases hh with rfl|rfl|rfl|rfl|rfl|rfl|rfl|rfl<;>omega
theorem AaB {h k f:Nat} (h2:2<=h) (hh:PW h) (hk:k*(2*h)=256+f) (hf:f=256):k*(h/2)=128:=by
 unfold PW at hh;rcases hh with rfl|rfl|rfl|rfl|rfl|rfl|rfl|rfl<;>omega
def U_ (x5 x4_2 k3:Nat):(Nat×(Nat->Int))->(Nat×(Nat->Int)):=λ(x7,o1_0_3)=>(x7+1,upd (upd o1_0_3 x7 (Eg (A6 .u32 (IntKind.wrap .u32 (o1_0_3 x7)) (DY (BE .u32 (D8 x4_2) (IntKind.wrap .u32 (o1_0_3 (x7+x5)))) 3329)))) (x7+x5) (Eg (EO .u32 (A6 .u32 (IntKind.wrap .u32 (o1_0_3 x7)) 3329) (DY (BE .u32 (D8 x4_2) (IntKind.wrap .u32 (o1_0_3 (x7+x5)))) 3329))))
def Lj (x5 x4_2 x6:Nat) (o1_0_2:Nat->Int):Nat->Nat×(Nat->Int)
 |0=>(x6,o1_0_2)
 |k3+1=>U_ x5 x4_2 k3 (Lj x5 x4_2 x6 o1_0_2 k3)
def P1 (x5 x6:Nat):(Nat×(Nat->Int))->Prop:=λ(x7,o1_0_3)=>((x7:Nat):Int)<((x6+x5:Nat):Int)
def Va (x5 k2:Nat):(Nat×Nat×(Nat->Int))->(Nat×Nat×(Nat->Int)):=λ(x4_2,x6,o1_0_2)=>(x4_2+1,x6+(2*x5),(Lj x5 x4_2 x6 o1_0_2 (DX λj=>P1 x5 x6 (Lj x5 x4_2 x6 o1_0_2 j))).2)
def HH (x4 x5:Nat) (o1_0:Nat->Int):Nat->Nat×Nat×(Nat->Int)
 |0=>(x4,0,o1_0)
 |k2+1=>Va x5 k2 (HH x4 x5 o1_0 k2)
def JQ:(Nat×Nat×(Nat->Int))->Prop:=λ(x4_2,x6,o1_0_2)=>(x6:Int)<256
def Vb (k1:Nat):(Nat×Nat×(Nat->Int))->(Nat×Nat×(Nat->Int)):=λ(x4,x5,o1_0)=>((HH x4 x5 o1_0 (DX λj=>JQ (HH x4 x5 o1_0 j))).1,x5/2,(HH x4 x5 o1_0 (DX λj=>JQ (HH x4 x5 o1_0 j))).2.2)
def P2 (f:Nat->Int):Nat->Nat×Nat×(Nat->Int)
 |0=>(1,128,BD f (λ_=>0))
 |k1+1=>Vb k1 (P2 f k1)
def Vd:(Nat×Nat×(Nat->Int))->Prop:=λ(x4,x5,o1_0)=>(2:Int)<=(x5:Int)
section
variable (f:Nat->Int)
def U9:(Nat->Int):=AR ((P2 f (DX λj=>Vd (P2 f j))).2.2)
def AbA (z_:(Nat->Int):=U9 f):Con:=⟨[.ar .u16 256 f],[],.ar .u16 256 z_,[]⟩
theorem f5:AO 150 (AbA f):=by
 refine cy 0 func150 rfl ntmps150 λY V=>Ak [] 2 V λV=>Ay [(0,HU (.ar .u16 256 f) [(.ar .u16 256 f:D)=(.ar .u16 256 f)] ⟨rfl,aa⟩),(2,Jp (Jg f (λ_=>0)) [] [] [.ar .u16 256 f,.ar .u16 256 (λ_=>0)] [])] [] 2 V λV=>Ay [(0,AS (O0))] [3] 3 V λV=>Ao (Ak [] 3 V λV=>BK (AD (ι:=Nat×Nat×Nat×(Nat->Int)) Y V (λ(k1,x4,x5,o1_0)=>(x5,[(4,vi (x4:Int)),(5,vi (x5:Int))],[(0,Q3 o1_0)],((x4,x5,o1_0)=P2 f k1)/\(∀j,j<k1->Vd (P2 f j))/\(PW x5)/\(x4*x5=128)/\True)) [1,2,3] [1,2] 3 (0,1,128,BD f (λ_=>0)) [(0,0),(1,1),(2,2)] ⟨rfl,(λj h=>absurd h (bd j)),(by unfold PW;omega),rfl,aa⟩ ?_));rintro⟨k1,x4,x5,o1_0⟩ ac gs ws ⟨hq1,hj1,pw,pk,_⟩ V;refine Ao (Ak [] 3 V λV=>AH ((2:Int)<=(x5:Int)) V (λh1=> ?_) (λh1=> ?_))
 ·refine B6 (Ao ?_);have pa:=AaD Ac pw pk;refine CW [] 3 V λV=>Ae (BK (AD (ι:=Nat×Nat×Nat×(Nat->Int)) Y V (λ(k2,x4_2,x6,o1_0_2)=>(256-x6,[(4,vi (x4_2:Int)),(6,vi (x6:Int))],[(0,Q3 o1_0_2)],((x4_2,x6,o1_0_2)=HH x4 x5 o1_0 k2)/\(∀j,j<k2->JQ (HH x4 x5 o1_0 j))/\(x4_2*(2*x5)=256+x6)/\(x6<=256)/\True)) [1,2,3,5] [1,2] 3 (0,x4,0,o1_0) [(0,0),(1,1),(2,2)] ⟨rfl,(λj h=>absurd h (bd j)),pa.1,Ac,aa⟩ ?_));rintro⟨k2,x4_2,x6,o1_0_2⟩ ac gs ws ⟨hq2,hj2,p2,p3,_⟩ V;refine Ao (Ak [] 3 V λV=>AH ((x6:Int)<256) V (λh2=> ?_) (λh2=> ?_))
  ·refine B6 (He ?_);have pb:=AaC Ac pw p2 Ac;refine CW [] 3 V λV=>Ae (BK (AD (ι:=Nat×Nat×(Nat->Int)) Y V (λ(k3,x7,o1_0_3)=>(x6+x5-x7,[(7,vi (x7:Int))],[(0,Q3 o1_0_3)],((x7,o1_0_3)=Lj x5 x4_2 x6 o1_0_2 k3)/\(∀j,j<k3->P1 x5 x6 (Lj x5 x4_2 x6 o1_0_2 j))/\(x6<=x7)/\(x7<=x6+x5)/\True)) [1,2,3,4,5,6] [1,2] 3 (0,x6,o1_0_2) [(0,0),(1,1),(2,2)] ⟨rfl,(λj h=>absurd h (bd j)),Ac,Ac,aa⟩ ?_));rintro⟨k3,x7,o1_0_3⟩ ac gs ws ⟨hq3,hj3,p4,p5,_⟩ V;refine Ao (Ay [(3,FA x6 x5 (x6+x5))] [] 3 V λV=>AH ((x7:Int)<((x6+x5:Nat):Int)) V (λh3=> ?_) (λh3=> ?_))
   ·exact B6 (Ay [(1,AN x4_2 128),(5,FA x7 x5 (x7+x5)),(6,AN (x7+x5) 256),(10,NI ((3329:Int)≠0))] [] 3 V λV=>Aw [(3,FA x7 x5 (x7+x5)),(5,AN x7 256),(10,AS (Ij (A6 .u32 (IntKind.wrap .u32 (o1_0_3 x7)) (DY (BE .u32 (D8 x4_2) (IntKind.wrap .u32 (o1_0_3 (x7+x5)))) 3329)))),(12,AN x7 256),(18,AS (Ij (EO .u32 (A6 .u32 (IntKind.wrap .u32 (o1_0_3 x7)) 3329) (DY (BE .u32 (D8 x4_2) (IntKind.wrap .u32 (o1_0_3 (x7+x5)))) 3329)))),(19,AN x7 256),(21,AN (x7+x5) 256)] [] 3 V λV=>Cn (Aw [(1,CF x7)] [7] 3 V λV=>Ae (Av Y V (k3+1,x7+1,upd (upd o1_0_3 x7 (Eg (A6 .u32 (IntKind.wrap .u32 (o1_0_3 x7)) (DY (BE .u32 (D8 x4_2) (IntKind.wrap .u32 (o1_0_3 (x7+x5)))) 3329)))) (x7+x5) (Eg (EO .u32 (A6 .u32 (IntKind.wrap .u32 (o1_0_3 x7)) 3329) (DY (BE .u32 (D8 x4_2) (IntKind.wrap .u32 (o1_0_3 (x7+x5)))) 3329)))) [(0,0),(1,1),(2,2)] ⟨(Bp (st:=U_ _ _) hq3 rfl rfl),(Bf hj3 (by rw[<-hq3];exact h3)),Ac,Ac,aa⟩)))
   ·have hT:=V;obtain rfl:=CB (by rw[<-hq3];first |exact h3|exact cq h3) hj3;obtain⟨rfl,rfl⟩:=SU hq3;have V:=hT;exact DF (Aw [(1,CF x4_2)] [4] 3 V λV=>Cn (Aw [(2,HV 2 x5 (2*x5)),(3,FA x6 (2*x5) (x6+(2*x5)))] [6] 3 V λV=>Ae (Av Y V (k2+1,x4_2+1,x6+(2*x5),(Lj x5 x4_2 x6 o1_0_2 (DX λj=>P1 x5 x6 (Lj x5 x4_2 x6 o1_0_2 j))).2) [(0,0),(1,1),(2,2)] ⟨(Bp (st:=Va _) hq2 rfl rfl),(Bf hj2 (by rw[<-hq2];exact h2)),pb.2.2,pb.1,aa⟩)))
  ·have hT:=V;have pe:=AaB Ac pw p2 Ac;have pn:=pa.2.1;obtain rfl:=CB (by rw[<-hq2];first |exact h2|exact cq h2) hj2;obtain⟨rfl,rfl,rfl⟩:=fE hq2;have V:=hT;exact V8 (Aw [(1,V9 x5 2)] [5] 3 V λV=>Ae (Av Y V (k1+1,(HH x4 x5 o1_0 (DX λj=>JQ (HH x4 x5 o1_0 j))).1,x5/2,(HH x4 x5 o1_0 (DX λj=>JQ (HH x4 x5 o1_0 j))).2.2) [(0,0),(1,1),(2,2)] ⟨(Bp (st:=Vb) hq1 rfl rfl),(Bf hj1 (by rw[<-hq1];exact h1)),pn,pe,aa⟩))
 ·have hT:=V;obtain rfl:=CB (by rw[<-hq1];first |exact h1|exact cq h1) hj1;obtain⟨rfl,rfl,rfl⟩:=fE hq1;have V:=hT;exact DF (Ak [] 3 V λV=>AU (BX (Ab _) V))
end
def PQ (h:Nat):Prop:=h=2\/h=4\/h=8\/h=16\/h=32\/h=64\/h=128\/h=256
set_option maxRecDepth 10000 in
theorem AaS {h k:Nat} (h2:h<=128) (hh:PQ h) (hk:(k+1)*h=256):(k+1)*(2*h)+0=512/\PQ (h*2)/\1<=h:=by
 unfold PQ at hh⊢;rcases hh with rfl|rfl|rfl|rfl|rfl|rfl|rfl|rfl<;>omega
set_option maxRecDepth 10000 in
theorem AaR {h k f:Nat} (h2:h<=128) (hh:PQ h) (hk:(k+1)*(2*h)+f=512) (hf:f<256):f+2*h<=256/\k<128/\1<=k/\(k-1+1)*(2*h)+(f+2*h)=512/\2<=h:=by
 unfold PQ at hh;rcases hh with rfl|rfl|rfl|rfl|rfl|rfl|rfl|rfl<;>omega
set_option maxRecDepth 10000 in
theorem AaQ {h k f:Nat} (h2:h<=128) (hh:PQ h) (hk:(k+1)*(2*h)+f=512) (hf:f=256):(k+1)*(h*2)=256:=by
 unfold PQ at hh;rcases hh with rfl|rfl|rfl|rfl|rfl|rfl|rfl|rfl<;>omega
def MD (x5 x4_2 k3:Nat):(Nat×(Nat->Int))->(Nat×(Nat->Int)):=λ(x7,o1_0_3)=>(x7+1,upd (upd o1_0_3 x7 (Eg (A6 .u32 (IntKind.wrap .u32 (o1_0_3 x7)) (IntKind.wrap .u32 (o1_0_3 (x7+x5)))))) (x7+x5) (Eg (BE .u32 (D8 x4_2) (EO .u32 (A6 .u32 (IntKind.wrap .u32 ((upd o1_0_3 x7 (Eg (A6 .u32 (IntKind.wrap .u32 (o1_0_3 x7)) (IntKind.wrap .u32 (o1_0_3 (x7+x5)))))) (x7+x5))) 3329) (IntKind.wrap .u32 (o1_0_3 x7))))))
def FE (x5 x4_2 x6:Nat) (o1_0_2:Nat->Int):Nat->Nat×(Nat->Int)
 |0=>(x6,o1_0_2)
 |k3+1=>MD x5 x4_2 k3 (FE x5 x4_2 x6 o1_0_2 k3)
def I1 (x5 x6:Nat):(Nat×(Nat->Int))->Prop:=λ(x7,o1_0_3)=>((x7:Nat):Int)<((x6+x5:Nat):Int)
def ME (x5 k2:Nat):(Nat×Nat×(Nat->Int))->(Nat×Nat×(Nat->Int)):=λ(x4_2,x6,o1_0_2)=>(x4_2-1,x6+(2*x5),(FE x5 x4_2 x6 o1_0_2 (DX λj=>I1 x5 x6 (FE x5 x4_2 x6 o1_0_2 j))).2)
def Dy (x4 x5:Nat) (o1_0:Nat->Int):Nat->Nat×Nat×(Nat->Int)
 |0=>(x4,0,o1_0)
 |k2+1=>ME x5 k2 (Dy x4 x5 o1_0 k2)
def F6:(Nat×Nat×(Nat->Int))->Prop:=λ(x4_2,x6,o1_0_2)=>(x6:Int)<256
def MF (k1:Nat):(Nat×Nat×(Nat->Int))->(Nat×Nat×(Nat->Int)):=λ(x4,x5,o1_0)=>((Dy x4 x5 o1_0 (DX λj=>F6 (Dy x4 x5 o1_0 j))).1,x5*2,(Dy x4 x5 o1_0 (DX λj=>F6 (Dy x4 x5 o1_0 j))).2.2)
def FF (f:Nat->Int):Nat->Nat×Nat×(Nat->Int)
 |0=>(127,2,BD f (λ_=>0))
 |k1+1=>MF k1 (FF f k1)
def I3:(Nat×Nat×(Nat->Int))->Prop:=λ(x4,x5,o1_0)=>(x5:Int)<=128
def MC (x67:Nat):(Nat->Int)->(Nat->Int):=λo1_0=>upd o1_0 x67 (Eg (BE .u32 (IntKind.wrap .u32 (o1_0 x67)) 3303))
section
variable (f:Nat->Int)
def Ll (f:Nat->Int):Nat->(Nat->Int)
 |0=>(FF f (DX λj=>I3 (FF f j))).2.2
 |x67+1=>MC x67 (Ll f x67)
def AY:(Nat->Int):=AR (Ll f 256)
def bC (z_:(Nat->Int):=AY f):Con:=⟨[.ar .u16 256 f],[],.ar .u16 256 z_,[]⟩
theorem Lk:AO 197 (bC f):=by
 refine cy 0 func197 rfl ntmps197 λY V=>Ak [] 2 V λV=>Ay [(0,HU (.ar .u16 256 f) [(.ar .u16 256 f:D)=(.ar .u16 256 f)] ⟨rfl,aa⟩),(2,Jp (Jg f (λ_=>0)) [] [] [.ar .u16 256 f,.ar .u16 256 (λ_=>0)] [])] [] 2 V λV=>Ay [(0,AS (O0))] [3] 3 V λV=>Ao (Ak [] 3 V λV=>BK (AD (ι:=Nat×Nat×Nat×(Nat->Int)) Y V (λ(k1,x4,x5,o1_0)=>(256-x5,[(4,vi (x4:Int)),(5,vi (x5:Int))],[(0,Q3 o1_0)],((x4,x5,o1_0)=FF f k1)/\(∀j,j<k1->I3 (FF f j))/\(PQ x5)/\((x4+1)*x5=256)/\True)) [1,2,3] [1,2] 3 (0,127,2,BD f (λ_=>0)) [(0,0),(1,1),(2,2)] ⟨rfl,(λj h=>absurd h (bd j)),(by unfold PQ;omega),rfl,aa⟩ ?_));rintro⟨k1,x4,x5,o1_0⟩ ac gs ws ⟨hq1,hj1,pw,pk,_⟩ V;refine Ao (Ak [] 3 V λV=>AH ((x5:Int)<=128) V (λh1=> ?_) (λh1=> ?_))
 ·refine B6 (Ao ?_);have pa:=AaS Ac pw pk;refine CW [] 3 V λV=>Ae (BK (AD (ι:=Nat×Nat×Nat×(Nat->Int)) Y V (λ(k2,x4_2,x6,o1_0_2)=>(256-x6,[(4,vi (x4_2:Int)),(6,vi (x6:Int))],[(0,Q3 o1_0_2)],((x4_2,x6,o1_0_2)=Dy x4 x5 o1_0 k2)/\(∀j,j<k2->F6 (Dy x4 x5 o1_0 j))/\((x4_2+1)*(2*x5)+x6=512)/\(x6<=256)/\True)) [1,2,3,5] [1,2] 3 (0,x4,0,o1_0) [(0,0),(1,1),(2,2)] ⟨rfl,(λj h=>absurd h (bd j)),pa.1,Ac,aa⟩ ?_));rintro⟨k2,x4_2,x6,o1_0_2⟩ ac gs ws ⟨hq2,hj2,p2,p3,_⟩ V;refine Ao (Ak [] 3 V λV=>AH ((x6:Int)<256) V (λh2=> ?_) (λh2=> ?_))
  ·refine B6 (He ?_);have pb:=AaR Ac pw p2 Ac;refine CW [] 3 V λV=>Ae (BK (AD (ι:=Nat×Nat×(Nat->Int)) Y V (λ(k3,x7,o1_0_3)=>(x6+x5-x7,[(7,vi (x7:Int))],[(0,Q3 o1_0_3)],((x7,o1_0_3)=FE x5 x4_2 x6 o1_0_2 k3)/\(∀j,j<k3->I1 x5 x6 (FE x5 x4_2 x6 o1_0_2 j))/\(x6<=x7)/\(x7<=x6+x5)/\True)) [1,2,3,4,5,6] [1,2] 3 (0,x6,o1_0_2) [(0,0),(1,1),(2,2)] ⟨rfl,(λj h=>absurd h (bd j)),Ac,Ac,aa⟩ ?_));rintro⟨k3,x7,o1_0_3⟩ ac gs ws ⟨hq3,hj3,p4,p5,_⟩ V;refine Ao (Ay [(3,FA x6 x5 (x6+x5))] [] 3 V λV=>AH ((x7:Int)<((x6+x5:Nat):Int)) V (λh3=> ?_) (λh3=> ?_))
   ·exact B6 (Ay [(1,AN x7 256)] [] 3 V λV=>Ay [(4,FA x7 x5 (x7+x5)),(5,AN (x7+x5) 256),(9,AS (Ij (A6 .u32 (IntKind.wrap .u32 (o1_0_3 x7)) (IntKind.wrap .u32 (o1_0_3 (x7+x5)))))),(10,AN x7 256)] [] 3 V λV=>Aw [(2,FA x7 x5 (x7+x5)),(4,AN x4_2 128),(8,FA x7 x5 (x7+x5)),(9,AN (x7+x5) 256),(16,AS (Ij (BE .u32 (D8 x4_2) (EO .u32 (A6 .u32 (IntKind.wrap .u32 ((upd o1_0_3 x7 (Eg (A6 .u32 (IntKind.wrap .u32 (o1_0_3 x7)) (IntKind.wrap .u32 (o1_0_3 (x7+x5)))))) (x7+x5))) 3329) (IntKind.wrap .u32 (o1_0_3 x7)))))),(17,AN (x7+x5) 256)] [] 3 V λV=>Cn (Aw [(1,CF x7)] [7] 3 V λV=>Ae (Av Y V (k3+1,x7+1,upd (upd o1_0_3 x7 (Eg (A6 .u32 (IntKind.wrap .u32 (o1_0_3 x7)) (IntKind.wrap .u32 (o1_0_3 (x7+x5)))))) (x7+x5) (Eg (BE .u32 (D8 x4_2) (EO .u32 (A6 .u32 (IntKind.wrap .u32 ((upd o1_0_3 x7 (Eg (A6 .u32 (IntKind.wrap .u32 (o1_0_3 x7)) (IntKind.wrap .u32 (o1_0_3 (x7+x5)))))) (x7+x5))) 3329) (IntKind.wrap .u32 (o1_0_3 x7)))))) [(0,0),(1,1),(2,2)] ⟨(Bp (st:=MD _ _) hq3 rfl rfl),(Bf hj3 (by rw[<-hq3];exact h3)),Ac,Ac,aa⟩)))
   ·have hT:=V;obtain rfl:=CB (by rw[<-hq3];first |exact h3|exact cq h3) hj3;obtain⟨rfl,rfl⟩:=SU hq3;have V:=hT;exact DF (Aw [(1,Ie x4_2 1 (x4_2-1))] [4] 3 V λV=>Cn (Aw [(2,HV 2 x5 (2*x5)),(3,FA x6 (2*x5) (x6+(2*x5)))] [6] 3 V λV=>Ae (Av Y V (k2+1,x4_2-1,x6+(2*x5),(FE x5 x4_2 x6 o1_0_2 (DX λj=>I1 x5 x6 (FE x5 x4_2 x6 o1_0_2 j))).2) [(0,0),(1,1),(2,2)] ⟨(Bp (st:=ME _) hq2 rfl rfl),(Bf hj2 (by rw[<-hq2];exact h2)),pb.2.2.2.1,pb.1,aa⟩)))
  ·have hT:=V;have pe:=AaQ Ac pw p2 Ac;have pn:=pa.2.1;have pz:=pa.2.2;obtain rfl:=CB (by rw[<-hq2];first |exact h2|exact cq h2) hj2;obtain⟨rfl,rfl,rfl⟩:=fE hq2;have V:=hT;exact V8 (Aw [(1,HV x5 2 (x5*2))] [5] 3 V λV=>Ae (Av Y V (k1+1,(Dy x4 x5 o1_0 (DX λj=>F6 (Dy x4 x5 o1_0 j))).1,x5*2,(Dy x4 x5 o1_0 (DX λj=>F6 (Dy x4 x5 o1_0 j))).2.2) [(0,0),(1,1),(2,2)] ⟨(Bp (st:=MF) hq1 rfl rfl),(Bf hj1 (by rw[<-hq1];exact h1)),pn,pe,aa⟩))
 ·have hT:=V;obtain rfl:=CB (by rw[<-hq1];first |exact h1|exact cq h1) hj1;obtain⟨rfl,rfl,rfl⟩:=fE hq1;have V:=hT;refine I8 (Ak [] 3 V λV=>BK (AD (ι:=Nat×(Nat->Int)) Y V (λ(x67,o1_0)=>(256-x67,[(67,vi ((x67:Nat):Int))],[(0,Q3 o1_0)],(x67<=256)/\(o1_0=Ll f x67)/\True)) [1,2] [1] 2 (0,(FF f (DX λj=>I3 (FF f j))).2.2) [(0,0),(1,1)] ⟨Ac,rfl,aa⟩ ?_));rintro⟨x67,o1_0⟩ ac gs ws ⟨hx67,hq4,_⟩ V;refine Ak [] 2 V λV=>Ao (AH ((x67:Int)<256) V (λh4=> ?_) (λh4=> ?_))
  ·exact B6 (Ak [] 2 V λV=>Aw [(2,AN x67 256),(6,AS (Ij (BE .u32 (IntKind.wrap .u32 (o1_0 x67)) 3303))),(7,AN x67 256)] [] 2 V λV=>Cn (Aw [(0,CF x67)] [67] 2 V λV=>Ae (Av Y V (x67+1,upd o1_0 x67 (Eg (BE .u32 (IntKind.wrap .u32 (o1_0 x67)) 3303))) [(0,0),(1,1)] ⟨Ac,(Bp (st:=MC) hq4 rfl rfl),aa⟩)))
  ·have hT:=V;obtain rfl:256=x67:=by omega
   obtain rfl:=hq4.symm;have V:=hT;exact DF (Ak [] 2 V λV=>AU (BX (Ab _) V))
end
def Vh (g:Nat->Int) (k1:Nat):(Nat×(Nat->Int))->(Nat×(Nat->Int)):=λ(x6,o2_0)=>(x6+2,upd (upd o2_0 x6 (Eg (A6 .u32 (BE .u32 (IntKind.wrap .u32 (o2_0 x6)) (IntKind.wrap .u32 ((BD g (λ_=>0)) x6))) (BE .u32 (DY (BE .u32 (IntKind.wrap .u32 (o2_0 (x6+1))) (IntKind.wrap .u32 ((BD g (λ_=>0)) (x6+1)))) 3329) (DY (BE .u32 (DY (BE .u32 (D8 (x6/2)) (D8 (x6/2))) 3329) 17) 3329))))) (x6+1) (Eg (A6 .u32 (BE .u32 (IntKind.wrap .u32 (o2_0 x6)) (IntKind.wrap .u32 ((BD g (λ_=>0)) (x6+1)))) (BE .u32 (IntKind.wrap .u32 (o2_0 (x6+1))) (IntKind.wrap .u32 ((BD g (λ_=>0)) x6))))))
def P5 (f g:Nat->Int):Nat->Nat×(Nat->Int)
 |0=>(0,BD f (λ_=>0))
 |k1+1=>Vh g k1 (P5 f g k1)
def Vi:(Nat×(Nat->Int))->Prop:=λ(x6,o2_0)=>((x6:Nat):Int)<256
section
variable (f:Nat->Int)
def gE (g:Nat->Int):(Nat->Int):=AR ((P5 f g (DX λj=>Vi (P5 f g j))).2)
def AbB (g:Nat->Int) (z_:(Nat->Int):=gE f g):Con:=⟨[.ar .u16 256 f,.ar .u16 256 g],[],.ar .u16 256 z_,[]⟩
theorem wA (g:Nat->Int):AO 180 (AbB f g):=by
 refine cy 0 func180 rfl ntmps180 λY V=>Ak [] 3 V λV=>Ay [(0,HU (.ar .u16 256 f) [(.ar .u16 256 f:D)=(.ar .u16 256 f)] ⟨rfl,aa⟩),(2,Jp (Jg f (λ_=>0)) [] [] [.ar .u16 256 f,.ar .u16 256 (λ_=>0)] []),(3,HU (.ar .u16 256 g) [(.ar .u16 256 g:D)=(.ar .u16 256 g)] ⟨rfl,aa⟩),(5,Jp (Jg g (λ_=>0)) [] [] [.ar .u16 256 g,.ar .u16 256 (λ_=>0)] [])] [] 3 V λV=>Ay [(0,AS (O0))] [5] 4 V λV=>Ao (Ak [] 4 V λV=>BK (AD (ι:=Nat×Nat×(Nat->Int)) Y V (λ(k1,x6,o2_0)=>(256-x6,[(6,vi (x6:Int))],[(0,Q3 o2_0)],((x6,o2_0)=P5 f g k1)/\(∀j,j<k1->Vi (P5 f g j))/\(x6<=256)/\(x6%2=0)/\True)) [2,3,4,5] [1,2,3] 4 (0,0,BD f (λ_=>0)) [(0,0),(1,1),(2,2),(3,3)] ⟨rfl,(λj h=>absurd h (bd j)),Ac,rfl,aa⟩ ?_));rintro⟨k1,x6,o2_0⟩ ac gs ws ⟨hq1,hj1,p1,p2,_⟩ V;refine Ao (Ak [] 4 V λV=>AH ((x6:Int)<256) V (λh1=> ?_) (λh1=> ?_))
 ·exact B6 (Ay [(1,V9 x6 2),(2,AN (x6/2) 128),(5,V9 x6 2),(6,AN (x6/2) 128),(9,NI ((3329:Int)≠0)),(11,NI ((3329:Int)≠0))] [] 4 V λV=>Ay [(1,AN x6 256),(5,CF x6),(6,AN (x6+1) 256),(10,AN x6 256),(14,CF x6),(15,AN (x6+1) 256)] [] 4 V λV=>Aw [(2,CF x6),(9,NI ((3329:Int)≠0)),(13,AS (Ij (A6 .u32 (BE .u32 (IntKind.wrap .u32 (o2_0 x6)) (IntKind.wrap .u32 ((BD g (λ_=>0)) x6))) (BE .u32 (DY (BE .u32 (IntKind.wrap .u32 (o2_0 (x6+1))) (IntKind.wrap .u32 ((BD g (λ_=>0)) (x6+1)))) 3329) (DY (BE .u32 (DY (BE .u32 (D8 (x6/2)) (D8 (x6/2))) 3329) 17) 3329))))),(21,AS (Ij (A6 .u32 (BE .u32 (IntKind.wrap .u32 (o2_0 x6)) (IntKind.wrap .u32 ((BD g (λ_=>0)) (x6+1)))) (BE .u32 (IntKind.wrap .u32 (o2_0 (x6+1))) (IntKind.wrap .u32 ((BD g (λ_=>0)) x6)))))),(22,AN x6 256),(24,AN (x6+1) 256)] [] 4 V λV=>Cn (Aw [(1,FA x6 2 (x6+2))] [6] 4 V λV=>Ae (Av Y V (k1+1,x6+2,upd (upd o2_0 x6 (Eg (A6 .u32 (BE .u32 (IntKind.wrap .u32 (o2_0 x6)) (IntKind.wrap .u32 ((BD g (λ_=>0)) x6))) (BE .u32 (DY (BE .u32 (IntKind.wrap .u32 (o2_0 (x6+1))) (IntKind.wrap .u32 ((BD g (λ_=>0)) (x6+1)))) 3329) (DY (BE .u32 (DY (BE .u32 (D8 (x6/2)) (D8 (x6/2))) 3329) 17) 3329))))) (x6+1) (Eg (A6 .u32 (BE .u32 (IntKind.wrap .u32 (o2_0 x6)) (IntKind.wrap .u32 ((BD g (λ_=>0)) (x6+1)))) (BE .u32 (IntKind.wrap .u32 (o2_0 (x6+1))) (IntKind.wrap .u32 ((BD g (λ_=>0)) x6)))))) [(0,0),(1,1),(2,2),(3,3)] ⟨(Bp (st:=Vh _) hq1 rfl rfl),(Bf hj1 (by rw[<-hq1];exact h1)),Ac,Ac,aa⟩)))
 ·have hT:=V;obtain rfl:=CB (by rw[<-hq1];first |exact h1|exact cq h1) hj1;obtain⟨rfl,rfl⟩:=SU hq1;have V:=hT;exact DF (Ak [] 4 V λV=>AU (BX (Ab _) V))
def ED (x21:Nat) (x6:Ad) (x30:Nat):Ad->Ad:=λx6_2=>x6_2.set (((x21*12)+x30)/8) (Ew .u8 (x6_2.getD (((x21*12)+x30)/8) 0) (BW .u8 (IntKind.wrap .u8 (BI .u16 (Bi .u16 (DY (f x21) 3329) (x30:Int)) 1)) ((((x21*12)+x30)%8:Nat):Int)))
def EX (f:Nat->Int) (x21:Nat) (x6:Ad):Nat->Ad
 |0=>x6
 |x30+1=>ED f x21 x6 x30 (EX f x21 x6 x30)
def K5 (x21:Nat):Ad->Ad:=λx6=>EX f x21 x6 12
def FO (f:Nat->Int):Nat->Ad
 |0=>replicate 384 (0:Int)
 |x21+1=>K5 f x21 (FO f x21)
def CP:Ad:=AR (FO f 256)
def Xq (z_:Ad:=CP f):Con:=⟨[.ar .u16 256 f,vi 12],[],.tu (Ag [.sk 0,vi 0]),[(0,.sl 5 Bb z_)]⟩
theorem VG:AO 181 (Xq f):=by
 refine cy 0 func181 rfl ntmps181 λY V=>Ak [] 1 V λV=>Ao (Ak [] 1 V λV=>Ai V (BR (Ay [(2,mT 384 1)] [] 2 V λV=>Ao (Ak [] 2 V λV=>BK (AD (ι:=Nat×Ad) Y V (λ(x21,x6)=>(256-x21,[(21,vi ((x21:Nat):Int))],[(1,.sl 5 Bb x6)],(x21<=256)/\(x6=FO f x21)/\(x6.length=384)/\True)) [1,4,5,6,20] [] 2 (0,replicate 384 (0:Int)) [(1,1)] ⟨Ac,rfl,(by simp),aa⟩ ?_)))));rintro⟨x21,x6⟩ ac gs ws ⟨hx21,hq1,p1,_⟩ V;refine Ak [] 2 V λV=>Ao (AH ((x21:Int)<256) V (λh1=> ?_) (λh1=> ?_))
 ·refine B6 (Ay [(1,AN x21 256)] [] 2 V λV=>Ao (Ak [] 2 V λV=>AE V (Aw [(1,NI ((3329:Int)≠0))] [8] 2 V λV=>Ae (Ak [] 2 V λV=>BK (AD (ι:=Nat×Ad) Y V (λ(x30,x6_2)=>(12-x30,[(30,vi ((x30:Nat):Int))],[(1,.sl 5 Bb x6_2)],(x30<=12)/\(x6_2=EX f x21 x6 x30)/\(x6_2.length=384)/\True)) [1,4,5,6,7,8,20,21,29] [] 2 (0,x6) [(1,1)] ⟨Ac,rfl,p1,aa⟩ ?_)))));rintro⟨x30,x6_2⟩ ac gs ws ⟨hx30,hq2,p2,_⟩ V;refine Ak [] 2 V λV=>Ao (AH ((x30:Int)<12) V (λh2=> ?_) (λh2=> ?_))
  ·exact B6 (Ak [] 2 V λV=>Ay [(2,HV x21 12 (x21*12)),(4,FA (x21*12) x30 ((x21*12)+x30))] [] 2 V λV=>Aw [(2,V9 ((x21*12)+x30) 8),(3,AN (((x21*12)+x30)/8) x6_2.length),(7,If x30),(11,M6 ((x21*12)+x30) 8),(12,If (((x21*12)+x30)%8)),(14,AN (((x21*12)+x30)/8) x6_2.length)] [] 2 V λV=>Cn (Aw [(0,CF x30)] [30] 2 V λV=>Ae (Av Y V (x30+1,x6_2.set (((x21*12)+x30)/8) (Ew .u8 (x6_2.getD (((x21*12)+x30)/8) 0) (BW .u8 (IntKind.wrap .u8 (BI .u16 (Bi .u16 (DY (f x21) 3329) (x30:Int)) 1)) ((((x21*12)+x30)%8:Nat):Int)))) [(1,1)] ⟨Ac,(Bp (st:=ED _ _ _) hq2 rfl rfl),(by simpa using p2),aa⟩)))
  ·have hT:=V;obtain rfl:12=x30:=by omega
   obtain rfl:=hq2.symm;have V:=hT;exact V8 (Aw [(0,CF x21)] [21] 2 V λV=>Ae (Av Y V (x21+1,EX f x21 x6 12) [(1,1)] ⟨Ac,(Bp (st:=K5 _) hq1 rfl rfl),p2,aa⟩))
 ·have hT:=V;obtain rfl:256=x21:=by omega
  obtain rfl:=hq1.symm;have V:=hT;refine DF (Ak [] 2 V λV=>AU ?_);obtain⟨gs,V⟩:=V.rx [(0,1)] [4,5] [0] 1 Y;exact BX (Ab _) V
end
section
variable (xs:Ad)
def KU (x8 x12:Nat):(Nat->Int)->(Nat->Int):=λo4_0_2=>upd o4_0_2 x8 (Ew .u16 (o4_0_2 x8) (BW .u16 (IntKind.wrap .u16 (BI .u8 (Bi .u8 (xs.getD (((x8*12)+x12)/8) 0) ((((x8*12)+x12)%8:Nat):Int)) 1)) (x12:Int)))
def Em (xs:Ad) (x8:Nat) (o4_0:Nat->Int):Nat->(Nat->Int)
 |0=>o4_0
 |x12+1=>KU xs x8 x12 (Em xs x8 o4_0 x12)
def KV (x8:Nat):(Nat->Int)->(Nat->Int):=λo4_0=>Em xs x8 o4_0 12
def FH (xs:Ad):Nat->(Nat->Int)
 |0=>λ_=>0
 |x8+1=>KV xs x8 (FH xs x8)
def ER:(Nat->Int):=AR (FH xs 256)
def Xj (z_:(Nat->Int):=ER xs):Con:=⟨[vi 12,lb xs],[],.ar .u16 256 z_,[]⟩
theorem Uk (h:384<=xs.length):AO 194 (Xj xs):=by
 refine cy 0 func194 rfl ntmps194 λY V=> ?_;have Fo:xs.length<=9223372036854775807:=V.len 1 rfl;refine Ak [] 1 V λV=>Ao (Ak [] 1 V λV=>BK (AD (ι:=Nat×(Nat->Int)) Y V (λ(x8,o4_0)=>(256-x8,[(8,vi ((x8:Nat):Int))],[(0,Q3 o4_0)],(x8<=256)/\(o4_0=FH xs x8)/\True)) [0,1,4] [] 1 (0,λ_=>0) [(0,0)] ⟨Ac,rfl,aa⟩ ?_));rintro⟨x8,o4_0⟩ ac gs ws ⟨hx8,hq1,_⟩ V;refine Ak [] 1 V λV=>Ao (AH ((x8:Int)<256) V (λh1=> ?_) (λh1=> ?_))
 ·refine B6 (Ak [] 1 V λV=>Ak [] 1 V λV=>BK (AD (ι:=Nat×(Nat->Int)) Y V (λ(x12,o4_0_2)=>(12-x12,[(12,vi ((x12:Nat):Int))],[(0,Q3 o4_0_2)],(x12<=12)/\(o4_0_2=Em xs x8 o4_0 x12)/\True)) [0,1,4,5,8,11] [] 1 (0,o4_0) [(0,0)] ⟨Ac,rfl,aa⟩ ?_));rintro⟨x12,o4_0_2⟩ ac gs ws ⟨hx12,hq2,_⟩ V;refine Ak [] 1 V λV=>Ao (AH ((x12:Int)<12) V (λh2=> ?_) (λh2=> ?_))
  ·exact B6 (Ak [] 1 V λV=>Ay [(2,HV x8 12 (x8*12)),(4,FA (x8*12) x12 ((x8*12)+x12))] [] 1 V λV=>Aw [(1,AN x8 256),(5,V9 ((x8*12)+x12) 8),(6,AN (((x8*12)+x12)/8) xs.length),(9,M6 ((x8*12)+x12) 8),(10,If (((x8*12)+x12)%8)),(14,If x12),(16,AN x8 256)] [] 1 V λV=>Cn (Aw [(0,CF x12)] [12] 1 V λV=>Ae (Av Y V (x12+1,upd o4_0_2 x8 (Ew .u16 (o4_0_2 x8) (BW .u16 (IntKind.wrap .u16 (BI .u8 (Bi .u8 (xs.getD (((x8*12)+x12)/8) 0) ((((x8*12)+x12)%8:Nat):Int)) 1)) (x12:Int)))) [(0,0)] ⟨Ac,(Bp (st:=KU _ _) hq2 rfl rfl),aa⟩)))
  ·have hT:=V;obtain rfl:12=x12:=by omega
   obtain rfl:=hq2.symm;have V:=hT;exact V8 (Aw [(0,CF x8)] [8] 1 V λV=>Ae (Av Y V (x8+1,Em xs x8 o4_0 12) [(0,0)] ⟨Ac,(Bp (st:=KV _) hq1 rfl rfl),aa⟩))
 ·have hT:=V;obtain rfl:256=x8:=by omega
  obtain rfl:=hq1.symm;have V:=hT;exact DF (Ak [] 1 V λV=>AU (BX (Ab _) V))
end
theorem imq {a b q:Nat} (hq:q=a*b) (h:q<=1000000000):BE .i64 (↑a) (b:Int)=(q:Int):=by rw[hq,WK (by rw[<-fa,<-hq];omega) (by rw[<-fa,<-hq];omega)];exact(fa _ _).symm
section
variable (d:Nat) (xs:Ad)
def RG (x8 x12:Nat):(Nat->Int)->(Nat->Int):=λo4_0_2=>upd o4_0_2 x8 (Ew .u16 (o4_0_2 x8) (BW .u16 (IntKind.wrap .u16 (BI .u8 (Bi .u8 (xs.getD (((x8*d)+x12)/8) 0) ((((x8*d)+x12)%8:Nat):Int)) 1)) (x12:Int)))
def Oz (d:Nat) (xs:Ad) (x8:Nat) (o4_0:Nat->Int):Nat->(Nat->Int)
 |0=>o4_0
 |x12+1=>RG d xs x8 x12 (Oz d xs x8 o4_0 x12)
def RH (x8:Nat):(Nat->Int)->(Nat->Int):=λo4_0=>Oz d xs x8 o4_0 d
def SR (d:Nat) (xs:Ad):Nat->(Nat->Int)
 |0=>λ_=>0
 |x8+1=>RH d xs x8 (SR d xs x8)
def BP:(Nat->Int):=AR (SR d xs 256)
def yN (z_:(Nat->Int):=BP d xs):Con:=⟨[vi (d:Int),lb xs],[],.ar .u16 256 z_,[]⟩
theorem SQ (hd:1<=d/\d<=12) (h:32*d<=xs.length):AO 194 (yN d xs):=by
 refine cy 0 func194 rfl ntmps194 λY V=> ?_;have Fo:xs.length<=9223372036854775807:=V.len 1 rfl;refine Ak [] 1 V λV=>Ao (Ak [] 1 V λV=>BK (AD (ι:=Nat×(Nat->Int)) Y V (λ(x8,o4_0)=>(256-x8,[(8,vi ((x8:Nat):Int))],[(0,Q3 o4_0)],(x8<=256)/\(o4_0=SR d xs x8)/\True)) [0,1,4] [] 1 (0,λ_=>0) [(0,0)] ⟨Ac,rfl,aa⟩ ?_));rintro⟨x8,o4_0⟩ ac gs ws ⟨hx8,hq1,_⟩ V;refine Ak [] 1 V λV=>Ao (AH ((x8:Int)<256) V (λh1=> ?_) (λh1=> ?_))
 ·refine B6 (Ak [] 1 V λV=>Ak [] 1 V λV=>BK (AD (ι:=Nat×(Nat->Int)) Y V (λ(x12,o4_0_2)=>(d-x12,[(12,vi ((x12:Nat):Int))],[(0,Q3 o4_0_2)],(x12<=d)/\(o4_0_2=Oz d xs x8 o4_0 x12)/\True)) [0,1,4,5,8,11] [] 1 (0,o4_0) [(0,0)] ⟨Ac,rfl,aa⟩ ?_));rintro⟨x12,o4_0_2⟩ ac gs ws ⟨hx12,hq2,_⟩ V;refine Ak [] 1 V λV=>Ao (AH ((x12:Int)<(d:Int)) V (λh2=> ?_) (λh2=> ?_))
  ·refine B6 (Ak [] 1 V λV=>Ao ?_);have hml:x8*d<=255*d:=cx d (show x8<=255 by omega);exact Aw [(2,Jo ((x8*d:Nat):Int) [BE .i64 (x8:Int) (d:Int)=((x8*d:Nat):Int)] ⟨(imq rfl Ac),aa⟩),(4,FA (x8*d) x12 ((x8*d)+x12))] [] 1 V λV=>Ae (Aw [(1,AN x8 256),(5,V9 ((x8*d)+x12) 8),(6,AN (((x8*d)+x12)/8) xs.length),(9,M6 ((x8*d)+x12) 8),(10,If (((x8*d)+x12)%8)),(14,If x12),(16,AN x8 256)] [] 1 V λV=>Cn (Aw [(0,CF x12)] [12] 1 V λV=>Ae (Av Y V (x12+1,upd o4_0_2 x8 (Ew .u16 (o4_0_2 x8) (BW .u16 (IntKind.wrap .u16 (BI .u8 (Bi .u8 (xs.getD (((x8*d)+x12)/8) 0) ((((x8*d)+x12)%8:Nat):Int)) 1)) (x12:Int)))) [(0,0)] ⟨Ac,(Bp (st:=RG _ _ _) hq2 rfl rfl),aa⟩)))
  ·have hT:=V;obtain rfl:d=x12:=by omega
   obtain rfl:=hq2.symm;have V:=hT;exact V8 (Aw [(0,CF x8)] [8] 1 V λV=>Ae (Av Y V (x8+1,Oz d xs x8 o4_0 d) [(0,0)] ⟨Ac,(Bp (st:=RH _ _) hq1 rfl rfl),aa⟩))
 ·have hT:=V;obtain rfl:256=x8:=by omega
  obtain rfl:=hq1.symm;have V:=hT;exact DF (Ak [] 1 V λV=>AU (BX (Ab _) V))
end
section
variable (f:Nat->Int) (d:Nat)
def Kr (x21 x30:Nat):Ad->Ad:=λx6_2=>x6_2.set (((x21*d)+x30)/8) (Ew .u8 (x6_2.getD (((x21*d)+x30)/8) 0) (BW .u8 (IntKind.wrap .u8 (BI .u16 (Bi .u16 (f x21) (x30:Int)) 1)) ((((x21*d)+x30)%8:Nat):Int)))
def Ks (f:Nat->Int) (d x21:Nat) (x6:Ad):Nat->Ad
 |0=>x6
 |x30+1=>Kr f d x21 x30 (Ks f d x21 x6 x30)
def RL (x21:Nat):Ad->Ad:=λx6=>Ks f d x21 x6 d
def OA (f:Nat->Int) (d:Nat):Nat->Ad
 |0=>replicate (32*d) (0:Int)
 |x21+1=>RL f d x21 (OA f d x21)
def HD:Ad:=AR (OA f d 256)
def yP (z_:Ad:=HD f d):Con:=⟨[.ar .u16 256 f,vi (d:Int)],[],.tu (Ag [.sk 0,vi 0]),[(0,.sl 5 Bb z_)]⟩
theorem S2 (hd:1<=d/\d<=11):AO 181 (yP f d):=by
 refine cy 0 func181 rfl ntmps181 λY V=> ?_;have hf1:¬(d:Int)<1:=Ac;have hf2:¬(12:Int)<(d:Int):=Ac;have hf3:¬(d:Int)=12:=Ac;refine Ak [] 1 V λV=>Ao (Ay [(1,CH hf1),(4,CH hf2)] [] 1 V λV=>Ai V (DZ ?_));have h32:32*d<=400:=by omega
 refine Aw [(1,Jo ((32*d:Nat):Int) [BE .i64 ((32:Nat):Int) (d:Int)=((32*d:Nat):Int)] ⟨(imq rfl Ac),aa⟩),(2,mT (32*d) 1)] [] 2 V λV=>CV (Ak [] 2 V λV=>BK (AD (ι:=Nat×Ad) Y V (λ(x21,x6)=>(256-x21,[(21,vi ((x21:Nat):Int))],[(1,.sl 5 Bb x6)],(x21<=256)/\(x6=OA f d x21)/\(x6.length=32*d)/\True)) [1,4,5,6,20] [] 2 (0,replicate (32*d) (0:Int)) [(1,1)] ⟨Ac,rfl,(by simp),aa⟩ ?_));rintro⟨x21,x6⟩ ac gs ws ⟨hx21,hq1,p1,_⟩ V;refine Ak [] 2 V λV=>Ao (AH ((x21:Int)<256) V (λh1=> ?_) (λh1=> ?_))
 ·refine B6 (Ay [(1,AN x21 256)] [] 2 V λV=>Ao (Ay [(1,CH hf3)] [] 2 V λV=>Ai V (BR (Ak [] 2 V λV=>BK (AD (ι:=Nat×Ad) Y V (λ(x30,x6_2)=>(d-x30,[(30,vi ((x30:Nat):Int))],[(1,.sl 5 Bb x6_2)],(x30<=d)/\(x6_2=Ks f d x21 x6 x30)/\(x6_2.length=32*d)/\True)) [1,4,5,6,7,8,20,21,29] [] 2 (0,x6) [(1,1)] ⟨Ac,rfl,p1,aa⟩ ?_)))));rintro⟨x30,x6_2⟩ ac gs ws ⟨hx30,hq2,p2,_⟩ V;refine Ak [] 2 V λV=>Ao (AH ((x30:Int)<(d:Int)) V (λh2=> ?_) (λh2=> ?_))
  ·refine B6 (Ak [] 2 V λV=>Ao ?_);have hml:x21*d<=255*d:=cx d (show x21<=255 by omega);exact Aw [(2,Jo ((x21*d:Nat):Int) [BE .i64 (x21:Int) (d:Int)=((x21*d:Nat):Int)] ⟨(imq rfl Ac),aa⟩),(4,FA (x21*d) x30 ((x21*d)+x30))] [] 2 V λV=>Ae (Aw [(2,V9 ((x21*d)+x30) 8),(3,AN (((x21*d)+x30)/8) x6_2.length),(7,If x30),(11,M6 ((x21*d)+x30) 8),(12,If (((x21*d)+x30)%8)),(14,AN (((x21*d)+x30)/8) x6_2.length)] [] 2 V λV=>Cn (Aw [(0,CF x30)] [30] 2 V λV=>Ae (Av Y V (x30+1,x6_2.set (((x21*d)+x30)/8) (Ew .u8 (x6_2.getD (((x21*d)+x30)/8) 0) (BW .u8 (IntKind.wrap .u8 (BI .u16 (Bi .u16 (f x21) (x30:Int)) 1)) ((((x21*d)+x30)%8:Nat):Int)))) [(1,1)] ⟨Ac,(Bp (st:=Kr _ _ _) hq2 rfl rfl),(by simpa using p2),aa⟩)))
  ·have hT:=V;obtain rfl:d=x30:=by omega
   obtain rfl:=hq2.symm;have V:=hT;exact V8 (Aw [(0,CF x21)] [21] 2 V λV=>Ae (Av Y V (x21+1,Ks f d x21 x6 d) [(1,1)] ⟨Ac,(Bp (st:=RL _ _) hq1 rfl rfl),p2,aa⟩))
 ·have hT:=V;obtain rfl:256=x21:=by omega
  obtain rfl:=hq1.symm;have V:=hT;refine DF (Ak [] 2 V λV=>AU ?_);obtain⟨gs,V⟩:=V.rx [(0,1)] [4,5] [0] 1 Y;exact BX (Ab _) V
def RN (x16:Nat):(Nat->Int)->(Nat->Int):=λo2_0=>upd o2_0 x16 (IntKind.wrap .u16 (BI .u32 (QU .u32 (A6 .u32 (BW .u32 (IntKind.wrap .u32 (DY (f x16) 3329)) ((d+1:Nat):Int)) 3329) 6658) (EO .u32 (BW .u32 1 (d:Int)) 1)))
def S4 (f:Nat->Int) (d:Nat):Nat->(Nat->Int)
 |0=>f
 |x16+1=>RN f d x16 (S4 f d x16)
def Dn:(Nat->Int):=AR (S4 f d 256)
def yQ (z_:(Nat->Int):=Dn f d):Con:=⟨[.ar .u16 256 f,vi (d:Int)],[],.tu (Ag [.ar .u16 256 z_,vi 0]),[]⟩
theorem S3 (hd:1<=d/\d<=11):AO 198 (yQ f d):=by
 refine cy 0 func198 rfl ntmps198 λY V=> ?_;have hf1:¬(d:Int)<1:=Ac;have hf2:¬(12:Int)<=(d:Int):=Ac;refine Ak [] 2 V λV=>Ao (Ay [(1,CH hf1),(4,CH hf2)] [] 2 V λV=>Ai V (DZ (Ak [] 2 V λV=>BK (AD (ι:=Nat×(Nat->Int)) Y V (λ(x16,o2_0)=>(256-x16,[(16,vi ((x16:Nat):Int))],[(0,Q3 o2_0)],(x16<=256)/\(o2_0=S4 f d x16)/\True)) [1,2,4,5,15] [1] 2 (0,f) [(0,0),(1,1)] ⟨Ac,rfl,aa⟩ ?_))));rintro⟨x16,o2_0⟩ ac gs ws ⟨hx16,hq1,_⟩ V;refine Ak [] 2 V λV=>Ao (AH ((x16:Int)<256) V (λh1=> ?_) (λh1=> ?_))
 ·exact B6 (Ay [(1,AN x16 256)] [] 2 V λV=>Aw [(2,NI ((3329:Int)≠0)),(5,CF d),(6,If (d+1)),(8,NI ((6658:Int)≠0)),(10,If d),(14,AN x16 256)] [] 2 V λV=>Cn (Aw [(0,CF x16)] [16] 2 V λV=>Ae (Av Y V (x16+1,upd o2_0 x16 (IntKind.wrap .u16 (BI .u32 (QU .u32 (A6 .u32 (BW .u32 (IntKind.wrap .u32 (DY (f x16) 3329)) ((d+1:Nat):Int)) 3329) 6658) (EO .u32 (BW .u32 1 (d:Int)) 1)))) [(0,0),(1,1)] ⟨Ac,(Bp (st:=RN _ _) hq1 rfl rfl),aa⟩)))
 ·have hT:=V;obtain rfl:256=x16:=by omega
  obtain rfl:=hq1.symm;have V:=hT;exact DF (Ak [] 2 V λV=>AU (BX (Ab _) V))
def RJ (x16:Nat):(Nat->Int)->(Nat->Int):=λo2_0=>upd o2_0 x16 (IntKind.wrap .u16 (Bi .u32 (A6 .u32 (BE .u32 (BI .u32 (IntKind.wrap .u32 (f x16)) (EO .u32 (BW .u32 1 (d:Int)) 1)) 3329) (BW .u32 1 ((d:Int)-1))) (d:Int)))
def SY (f:Nat->Int) (d:Nat):Nat->(Nat->Int)
 |0=>f
 |x16+1=>RJ f d x16 (SY f d x16)
def Ce:(Nat->Int):=AR (SY f d 256)
def yO (z_:(Nat->Int):=Ce f d):Con:=⟨[.ar .u16 256 f,vi (d:Int)],[],.tu (Ag [.ar .u16 256 z_,vi 0]),[]⟩
theorem SX (hd:1<=d/\d<=11):AO 195 (yO f d):=by
 refine cy 0 func195 rfl ntmps195 λY V=> ?_;have hf1:¬(d:Int)<1:=Ac;have hf2:¬(12:Int)<=(d:Int):=Ac;refine Ak [] 2 V λV=>Ao (Ay [(1,CH hf1),(4,CH hf2)] [] 2 V λV=>Ai V (DZ (Ak [] 2 V λV=>BK (AD (ι:=Nat×(Nat->Int)) Y V (λ(x16,o2_0)=>(256-x16,[(16,vi ((x16:Nat):Int))],[(0,Q3 o2_0)],(x16<=256)/\(o2_0=SY f d x16)/\True)) [1,2,4,5,15] [1] 2 (0,f) [(0,0),(1,1)] ⟨Ac,rfl,aa⟩ ?_))));rintro⟨x16,o2_0⟩ ac gs ws ⟨hx16,hq1,_⟩ V;refine Ak [] 2 V λV=>Ao (AH ((x16:Int)<256) V (λh1=> ?_) (λh1=> ?_))
 ·exact B6 (Ay [(1,AN x16 256)] [] 2 V λV=>Aw [(4,If d),(9,Ub (d:Int) 1),(10,NI ((0:Int)<=((d:Int)-1))),(13,If d),(15,AN x16 256)] [] 2 V λV=>Cn (Aw [(0,CF x16)] [16] 2 V λV=>Ae (Av Y V (x16+1,upd o2_0 x16 (IntKind.wrap .u16 (Bi .u32 (A6 .u32 (BE .u32 (BI .u32 (IntKind.wrap .u32 (f x16)) (EO .u32 (BW .u32 1 (d:Int)) 1)) 3329) (BW .u32 1 ((d:Int)-1))) (d:Int)))) [(0,0),(1,1)] ⟨Ac,(Bp (st:=RJ _ _) hq1 rfl rfl),aa⟩)))
 ·have hT:=V;obtain rfl:256=x16:=by omega
  obtain rfl:=hq1.symm;have V:=hT;exact DF (Ak [] 2 V λV=>AU (BX (Ab _) V))
end
def KS (f:Nat->Int):Bool:=(List.range 256).all λi=>decide (f i<3329)
theorem wE {f:Nat->Int} {i:Nat} (hi:i<256) (h:(3329:Int)<=f i):KS f=false:=by
 cases hb:KS f with
 |false=>rfl
 |true=>
  have :=ax.1 hb i (el.2 hi);simp only[decide_eq_true_iff]at this;omega
theorem Ys {f:Nat->Int} (h:∀i,i<256->f i<3329):KS f=true:=by unfold KS;rw[ax];intro i hi;rw[decide_eq_true_iff];exact h i (el.1 hi)
theorem gG (f:Nat->Int):AO 193 ⟨[.ar .u16 256 f],[],.v (.bool (KS f)),[]⟩:=by
 refine cy 0 func193 rfl ntmps193 λY V=>Ak [] 1 V λV=>Ao (Ak [] 1 V λV=>BK (AD (ι:=Nat) Y V (λi=>(256-i,[(6,vi ((i:Nat):Int))],[],(i<=256)/\(∀j,j<i->f j<3329)/\True)) [5] [] 0 0 [] ⟨Ac,(λj h=>absurd h (bd j)),aa⟩ ?_));rintro i ac gs ws ⟨hi,pm,_⟩ V;refine Ak [] 0 V λV=>Ao (AH ((i:Int)<256) V (λh1=> ?_) (λh1=> ?_))
 ·refine B6 (Ay [(0,AN i 256)] [] 0 V λV=>Ak [] 0 V λV=>AH ((3329:Int)<=(f i)) V (λh2=> ?_) (λh2=> ?_))
  ·exact Ak [] 0 V λV=>AU (As (Aj (Aj (As (Aj (Ej rfl (.inr rfl) V [.v (.bool false)] [] (by show weak _ (.v (.bool (KS f)))= .v (.bool (KS f));rw[wE Ac h2];rfl) aa))))))
  ·exact GT (Aw [(0,CF i)] [6] 0 V λV=>Ae (Av Y V (i+1) [] ⟨Ac,(Bf pm Ac),aa⟩))
 ·have hT:=V;obtain rfl:256=i:=by omega
  have V:=hT;exact DF (Ak [] 0 V λV=>AU (Ej rfl (.inr rfl) V [.v (.bool true)] [] (by show weak _ (.v (.bool (KS f)))= .v (.bool (KS f));rw[Ys pm];rfl) aa))
def Ob4 (x0:Nat->Int) (x1:Nat):O:= .ob 250 (Ag [.ar .u64 25 x0,vi 168,vi ((x1:Nat):Int)])
def BZ (l:AZ):Ad:=AR ((El 136 (Pp 136 6 l) 0 32).2.2)
@[simp] theorem Le (l:AZ):(BZ l).length=32:=by unfold BZ;rw[Ab];exact Nn ..
section
variable (l:AZ)
def kX (z_:Ad:=BZ l):Con:=⟨[.ls false A0 l],[],lb z_,[]⟩
theorem Ko (h:l.flatten.length<=140000000000000):AO 156 (kX l):=by exact cy 0 func156 rfl ntmps156 λY V=>Ak [] 0 V λV=>Ay [(1,AC (Is 136 6 l Ac Ac (by first |omega|(simp only[bc,cd,ah,aw,av,ao,au,az]<;>omega)|(simp<;>omega))) [] [(0,0)]),(2,AC (Mh 136 (Pp 136 6 l) 0 32 Ac Ac Ac Ac) [(0,0)] [])] [] 1 V λV=>AU (BX (Ab _) V)
def AJ:Ad:=AR ((El 72 (Pp 72 6 l) 0 64).2.2)
end
@[simp] theorem ES (l:AZ):(AJ l).length=64:=by unfold AJ;rw[Ab];exact Nn ..
section
variable (l:AZ)
def kW (z_:Ad:=AJ l):Con:=⟨[.ls false A0 l],[],lb z_,[]⟩
theorem Kn (h:l.flatten.length<=140000000000000):AO 147 (kW l):=by exact cy 0 func147 rfl ntmps147 λY V=>Ak [] 0 V λV=>Ay [(1,AC (Is 72 6 l Ac Ac (by first |omega|(simp only[bc,cd,ah,aw,av,ao,au,az]<;>omega)|(simp<;>omega))) [] [(0,0)]),(2,AC (Mh 72 (Pp 72 6 l) 0 64 Ac Ac Ac Ac) [(0,0)] [])] [] 1 V λV=>AU (BX (Ab _) V)
def Co:Ad:=AR ((El 136 (Pp 136 31 l) 0 128).2.2)
end
@[simp] theorem SB (l:AZ):(Co l).length=128:=by unfold Co;rw[Ab];exact Nn ..
section
variable (l:AZ)
def Xk (z_:Ad:=Co l):Con:=⟨[vi 128,.ls false A0 l],[],lb z_,[]⟩
theorem Uz (h:l.flatten.length<=140000000000000):AO 171 (Xk l):=by exact cy 0 func171 rfl ntmps171 λY V=>Ak [] 0 V λV=>Ay [(1,AC (Is 136 31 l Ac Ac (by first |omega|(simp only[bc,cd,ah,aw,av,ao,au,az]<;>omega)|(simp<;>omega))) [] [(0,0)]),(4,AC (Mh 136 (Pp 136 31 l) 0 128 Ac Ac Ac Ac) [(0,0)] [])] [] 1 V λV=>AU (BX (Ab _) V)
def It:Ad:=AR ((El 136 (Pp 136 31 l) 0 32).2.2)
end
@[simp] theorem Uy (l:AZ):(It l).length=32:=by unfold It;rw[Ab];exact Nn ..
def aY (l:AZ) (z_:Ad:=It l):Con:=⟨[vi 32,.ls false A0 l],[],lb z_,[]⟩
theorem Wl (l:AZ) (h:l.flatten.length<=140000000000000):AO 171 (aY l):=by exact cy 0 func171 rfl ntmps171 λY V=>Ak [] 0 V λV=>Ay [(1,AC (Is 136 31 l Ac Ac (by first |omega|(simp only[bc,cd,ah,aw,av,ao,au,az]<;>omega)|(simp<;>omega))) [] [(0,0)]),(4,AC (Mh 136 (Pp 136 31 l) 0 32 Ac Ac Ac Ac) [(0,0)] [])] [] 1 V λV=>AU (BX (Ab _) V)
section
variable (sd:Ad) (k:Int)
def P3 (x13:Nat):(Nat->Int)->(Nat->Int):=λo4_0=>upd o4_0 x13 (Eg (EO .u32 (EO .u32 (A6 .u32 (A6 .u32 (BI .u32 (Bi .u32 (IntKind.wrap .u32 ((Co [sd,[k]]).getD (x13/2) 0)) (((x13%2)*4:Nat):Int)) 1) (BI .u32 (Bi .u32 (Bi .u32 (IntKind.wrap .u32 ((Co [sd,[k]]).getD (x13/2) 0)) (((x13%2)*4:Nat):Int)) 1) 1)) 3329) (BI .u32 (Bi .u32 (Bi .u32 (IntKind.wrap .u32 ((Co [sd,[k]]).getD (x13/2) 0)) (((x13%2)*4:Nat):Int)) 2) 1)) (BI .u32 (Bi .u32 (Bi .u32 (IntKind.wrap .u32 ((Co [sd,[k]]).getD (x13/2) 0)) (((x13%2)*4:Nat):Int)) 3) 1)))
def P4 (sd:Ad) (k:Int):Nat->(Nat->Int)
 |0=>λ_=>0
 |x13+1=>P3 sd k x13 (P4 sd k x13)
def DV:(Nat->Int):=AR (P4 sd k 256)
def rU (z_:(Nat->Int):=DV sd k):Con:=⟨[lb sd,.v (.int .u8 k)],[],.ar .u16 256 z_,[]⟩
theorem Ve (h:sd.length<=100000000000000):AO 175 (rU sd k):=by
 refine cy 0 func175 rfl ntmps175 λY V=>Ak [] 1 V λV=>Ao (Aw [(4,AS (Uz [sd,[k]] (by first |omega|(simp only[bc,cd,ah,aw,av,ao,au,az]<;>omega)|(simp<;>omega))))] [] 1 V λV=> ?_);have hl:=SB [sd,[k]];refine CV (Ak [] 1 V λV=>BK (AD (ι:=Nat×(Nat->Int)) Y V (λ(x13,o4_0)=>(256-x13,[(13,vi ((x13:Nat):Int))],[(0,Q3 o4_0)],(x13<=256)/\(o4_0=P4 sd k x13)/\True)) [4,5] [] 1 (0,λ_=>0) [(0,0)] ⟨Ac,rfl,aa⟩ ?_));rintro⟨x13,o4_0⟩ ac gs ws ⟨hx13,hq1,_⟩ V;refine Ak [] 1 V λV=>Ao (AH ((x13:Int)<256) V (λh1=> ?_) (λh1=> ?_))
 ·exact B6 (Ak [] 1 V λV=>Ay [(2,V9 x13 2),(3,AN (x13/2) ((Co [sd,[k]]).length)),(7,M6 x13 2),(8,HV (x13%2) 4 ((x13%2)*4)),(9,If ((x13%2)*4))] [] 1 V λV=>Aw [(4,If 1),(9,If 2),(13,If 3),(16,AS (Ij (EO .u32 (EO .u32 (A6 .u32 (A6 .u32 (BI .u32 (Bi .u32 (IntKind.wrap .u32 ((Co [sd,[k]]).getD (x13/2) 0)) (((x13%2)*4:Nat):Int)) 1) (BI .u32 (Bi .u32 (Bi .u32 (IntKind.wrap .u32 ((Co [sd,[k]]).getD (x13/2) 0)) (((x13%2)*4:Nat):Int)) 1) 1)) 3329) (BI .u32 (Bi .u32 (Bi .u32 (IntKind.wrap .u32 ((Co [sd,[k]]).getD (x13/2) 0)) (((x13%2)*4:Nat):Int)) 2) 1)) (BI .u32 (Bi .u32 (Bi .u32 (IntKind.wrap .u32 ((Co [sd,[k]]).getD (x13/2) 0)) (((x13%2)*4:Nat):Int)) 3) 1)))),(17,AN x13 256)] [] 1 V λV=>Cn (Aw [(0,CF x13)] [13] 1 V λV=>Ae (Av Y V (x13+1,upd o4_0 x13 (Eg (EO .u32 (EO .u32 (A6 .u32 (A6 .u32 (BI .u32 (Bi .u32 (IntKind.wrap .u32 ((Co [sd,[k]]).getD (x13/2) 0)) (((x13%2)*4:Nat):Int)) 1) (BI .u32 (Bi .u32 (Bi .u32 (IntKind.wrap .u32 ((Co [sd,[k]]).getD (x13/2) 0)) (((x13%2)*4:Nat):Int)) 1) 1)) 3329) (BI .u32 (Bi .u32 (Bi .u32 (IntKind.wrap .u32 ((Co [sd,[k]]).getD (x13/2) 0)) (((x13%2)*4:Nat):Int)) 2) 1)) (BI .u32 (Bi .u32 (Bi .u32 (IntKind.wrap .u32 ((Co [sd,[k]]).getD (x13/2) 0)) (((x13%2)*4:Nat):Int)) 3) 1)))) [(0,0)] ⟨Ac,(Bp (st:=P3 _ _) hq1 rfl rfl),aa⟩)))
 ·have hT:=V;obtain rfl:256=x13:=by omega
  obtain rfl:=hq1.symm;have V:=hT;exact DF (Ak [] 1 V λV=>AU (BX (Ab _) V))
end
theorem Ta (l:AZ) (h:l.flatten.length<=140000000000000):AO 201 ⟨[.ls false A0 l],[],.cp 0 0,[(0,.ob 270 (Ag [.cp 1 0])),(1,.ob 250 (Ag [.ar .u64 25 (Pp 168 31 l),vi 168,vi 0]))]⟩:=by refine cy 0 func201 rfl ntmps201 λY V=>Ak [] 0 V λV=>Ay [(1,AC (Is 168 31 l Ac Ac (by first |omega|(simp only[bc,cd,ah,aw,av,ao,au,az]<;>omega)|(simp<;>omega))) [] [(0,0)])] [] 2 V λV=>AU ?_;obtain⟨gs,V⟩:=V.rx [(0,1),(1,0)] [2] [0,1] 2 Y;exact BN V
theorem dX (f:Nat->Int) (a:Nat) (h:a<=168):AO 202 ⟨[.cp 0 0,vi 504],[(0,.ob 270 (Ag [.cp 1 0])),(1,Ob4 f a)],lb (El 168 f a 504).2.2,[(0,.ob 270 (Ag [.cp 1 0])),(1,Ob4 (El 168 f a 504).1 (El 168 f a 504).2.1)]⟩:=by exact cy 2 func202 rfl ntmps202 λY V=>Ak [] 2 V λV=>Ao (Ak [] 2 V λV=>Ai V (DZ (Ak [] 2 V λV=>Ai V (BR (Ay [(5,AC (Mh 168 f a 504 Ac Ac Ac Ac) [(0,1)] [])] [] 2 V λV=>AU (BN V))))))
end
end Go.Sx.Tryz
namespace Go.Sx
open Go.Mi Go.RowKit
def bv (f:Nat->Int):Ke.St:=λi=>BitVec.ofInt 64 (f i)
def Rg (f:Nat->Int):Prop:=∀i,i<25->0<=f i/\f i<18446744073709551616
theorem O5 (x:Int):IntKind.wrap .u64 x=x%18446744073709551616:=by simp [IntKind.wrap,IntKind.bits,IntKind.signed]
theorem Q5 (x:Int):0<=IntKind.wrap .u64 x/\IntKind.wrap .u64 x<18446744073709551616:=by rw[O5];omega
theorem OV (x:Int):BitVec.ofInt 64 (IntKind.wrap .u64 x)=BitVec.ofInt 64 x:=by apply BitVec.eq_of_toInt_eq;simp only[BitVec.toInt_ofInt,O5];unfold Int.bmod;simp
theorem Xt (x:BitVec 64):BitVec.ofInt 64 (x.toNat:Int)=x:=by simp
theorem NG (p q:Int):BitVec.ofInt 64 (AV .u64 p q)=BitVec.ofInt 64 p^^^BitVec.ofInt 64 q:=by unfold AV;rw[OV];exact Xt _
theorem zE (p q:Int):BitVec.ofInt 64 (BI .u64 p q)=BitVec.ofInt 64 p&&&BitVec.ofInt 64 q:=by unfold BI;rw[OV];exact Xt _
theorem AbI (p q:Int):BitVec.ofInt 64 (Ew .u64 p q)=BitVec.ofInt 64 p|||BitVec.ofInt 64 q:=by unfold Ew;rw[OV];exact Xt _
theorem zD (p:Int):BitVec.ofInt 64 (Lm .u64 p)= ~~~BitVec.ofInt 64 p:=by unfold Lm;rw[NG];rw[show BitVec.ofInt 64 (if IntKind.signed .u64 then -1 else IntKind.max .u64)=BitVec.allOnes 64 from rfl,BitVec.allOnes_xor]
theorem MB (p q:Int):0<=AV .u64 p q/\AV .u64 p q<18446744073709551616:=Q5 _
theorem hO (p q:Int):0<=Ew .u64 p q/\Ew .u64 p q<18446744073709551616:=Q5 _
theorem GL {x:Int} (h:0<=x/\x<18446744073709551616):(BitVec.ofInt 64 x).toNat=x.toNat:=by rw[fe];omega
theorem zC (p:Int) (k:Nat) (hk:k<=64):BitVec.ofInt 64 (BW .u64 p (k:Int))=BitVec.ofInt 64 p<<<k:=by
 unfold BW;rw[OV,show min (k:Int).toNat (IntKind.bits .u64)=k by simp [IntKind.bits];omega];apply g_;rw[BitVec.toNat_shiftLeft,Nat.shiftLeft_eq,fe,fe];have h1:(p*2^k)%((2^64:Nat):Int)=((p%((2^64:Nat):Int))*((2^k:Nat):Int))%((2^64:Nat):Int):=by rw[show((2^k:Nat):Int)=(2:Int)^k by simp];have e1:=Int.mul_emod p (2^k) ((2^64:Nat):Int);have e2:=Int.mul_emod (p%((2^64:Nat):Int)) (2^k) ((2^64:Nat):Int);rw[Int.emod_emod_of_dvd _ (Int.dvd_refl _)]at e2;rw[e1,e2]
 rw[h1];have h2:0<=p%((2^64:Nat):Int):=Int.emod_nonneg _ (by decide);obtain⟨n,hn⟩:=cb h2;rw[hn];have h3:(((n:Int)*((2^k:Nat):Int))%((2^64:Nat):Int)).toNat=n*2^k%2^64:=by rw[<-fa,<-Int.natCast_emod,bh]
 rw[h3];rfl
theorem zB {p:Int} (h:0<=p/\p<18446744073709551616) (k:Nat) (hk:k<=64):BitVec.ofInt 64 (Bi .u64 p (k:Int))=BitVec.ofInt 64 p>>>k:=by
 unfold Bi;rw[show min (k:Int).toNat (IntKind.bits .u64)=k by simp [IntKind.bits];omega];obtain⟨n,rfl⟩:=cb h.1;apply g_;rw[BitVec.toNat_ushiftRight,ef,GL h];rw[Int.fdiv_eq_ediv_of_nonneg _ (Int.pow_nonneg (by decide)),show(2:Int)^k=((2^k:Nat):Int) by simp];rw[show(((n:Nat):Int)/((2^k:Nat):Int))=((n/2^k:Nat):Int)from rfl];have h3:n/2^k<=n:=Nat.div_le_self _ _;have h4:n<18446744073709551616:=by have :=h.2;omega
 rw[GL ⟨dt _,by omega⟩,bh,bh]
theorem X3 {x:Int} (h:0<=x/\x<18446744073709551616) (k:Nat) (hk:k<1000):BitVec.ofInt 64 (SF x (k:Int))=Ke.rot (BitVec.ofInt 64 x) k:=by
 have hm:BI .u64 (IntKind.wrap .u64 (k:Int)) 63=((k%64:Nat):Int):=by
  unfold BI;rw[O5,BitVec.toNat_and,show(BitVec.ofInt (IntKind.bits .u64) 63).toNat=2^6-1 from rfl,Nat.and_two_pow_sub_one_eq_mod];have e:(BitVec.ofInt (IntKind.bits .u64) (IntKind.wrap .u64 (k:Int))).toNat=k:=by rw[O5];show(BitVec.ofInt 64 _).toNat=k;rw[GL ⟨by omega,by omega⟩];omega
  rw[e];omega
 have hs:EO .u64 64 (BI .u64 (IntKind.wrap .u64 (k:Int)) 63)=((64-k%64:Nat):Int):=by rw[hm];unfold EO;rw[O5];omega
 unfold SF;rw[AbI,hs,hm,zC _ _ (by omega),zB h _ (by omega)];unfold Ke.rot;rw[BitVec.rotateLeft_def]
theorem nZ (x k:Int):0<=SF x k/\SF x k<18446744073709551616:=hO _ _
theorem Un (a:Nat->Int) (n x:Nat):M5 a (n+1) x=if x=n%5 then AV .u64 (M5 a n x) (a n)else M5 a n x:=by
 simp only[M5,upd];split
 ·rename_i h;rw[h]
 ·rfl
theorem Uo (a:Nat->Int) (k x:Nat) (hx:x<5):M5 a (5*k+5) x=AV .u64 (M5 a (5*k) x) (a (5*k+x)):=by
 have h5:x=0\/x=1\/x=2\/x=3\/x=4:=by omega
 rw[show 5*k+5=5*k+4+1 from rfl,Un,show 5*k+4=5*k+3+1 from rfl,Un,show 5*k+3=5*k+2+1 from rfl,Un,show 5*k+2=5*k+1+1 from rfl,Un,Un];rcases h5 with rfl|rfl|rfl|rfl|rfl<;>repeat (first |rw[ab (by omega)]|rw[aj (by omega)]|rfl)
theorem cS (a:Nat->Int) (x:Nat) (hx:x<5):BitVec.ofInt 64 (M5 a 25 x)=Ke.par (bv a) x:=by have h1:=Uo a 4 x hx;have h2:=Uo a 3 x hx;have h3:=Uo a 2 x hx;have h4:=Uo a 1 x hx;have h5:=Uo a 0 x hx;have h6:M5 a 0 x=0:=rfl;show BitVec.ofInt 64 (M5 a (5*4+5) x)=_;rw[h1,show M5 a (5*4) x=M5 a (5*3+5) x from rfl,h2,show M5 a (5*3) x=M5 a (5*2+5) x from rfl,h3,show M5 a (5*2) x=M5 a (5*1+5) x from rfl,h4,show M5 a (5*1) x=M5 a (5*0+5) x from rfl,h5,show M5 a (5*0) x=0 from rfl];simp only[NG];unfold Ke.par bv;rw[Nat.mod_eq_of_lt hx];simp [Nat.add_comm]
theorem Su (a c:Nat->Int):∀n i,uO a c n i=if i<n then AV .u64 (a i) (AV .u64 (c ((i%5+4)%5)) (SF (c ((i%5+1)%5)) 1))else a i
 |0,i=>by simp [uO]
 |n+1,i=>by
  simp only[uO,upd];by_cases h:i=n
  ·subst h;rw[ab rfl,Su a c i i,aj (gy _),ab (dp _)]
  ·rw[aj h,Su a c n i];by_cases h2:i<n
   ·rw[ab h2,ab (by omega)]
   ·rw[aj h2,aj (by omega)]
theorem cR (a:Nat->Int):∀n i,0<=M5 a n i/\M5 a n i<18446744073709551616
 |0,i=>by simp [M5]
 |n+1,i=>by
  simp only[M5,upd];split
  ·exact MB _ _
  ·exact cR a n i
theorem cQ (a:Nat->Int):Ke.Eq25 (bv (theta a)) (Ke.theta (bv a)):=by intro i hi;unfold bv theta Ke.theta Ke.dif;rw[Su,ab hi,NG,NG,cS _ _ (by omega),show(1:Int)=((1:Nat):Int)from rfl,X3 (cR _ _ _) 1 (by omega),cS _ _ (by omega)];rw[show(i%5+4)%5=(i+4)%5 by omega,show(i%5+1)%5=(i+1)%5 by omega,Ke.par_mod,Ke.par_mod];rfl
theorem cO (a:Nat->Int):Rg (theta a):=λi hi=>by unfold theta;rw[Su,ab hi];exact MB _ _
theorem X7 {a:Nat->Int} (ha:Rg a):∀n,n<=24->Rg (Wp a n)/\Ke.Eq25 (bv (Wp a n)) (Ke.rhoN (bv a) n)
 |0,_=>⟨ha,λi _=>rfl⟩
 |n+1,hn=>by
  obtain⟨h1,h2⟩:=X7 ha n (by omega);have hk:QU .i64 (BE .i64 ((n+1:Nat):Int) ((n+2:Nat):Int)) 2=(((n+1)*(n+2)/2:Nat):Int):=by
   have key:((List.range 24).all λn=>decide (QU .i64 (BE .i64 ((n+1:Nat):Int) ((n+2:Nat):Int)) 2=(((n+1)*(n+2)/2:Nat):Int)))=true:=by kernel_rfl
   exact cj (ax.1 key n (el.2 (by omega)))
  have hk2:(n+1)*(n+2)/2<1000:=by have :(n+1)*(n+2)<=24*25:=Nat.mul_le_mul (by omega) (by omega);omega
  have hp:=Ke.ps_lt n (by omega);refine⟨λi hi=> ?_,λi hi=> ?_⟩
  ·simp only[Wp,upd];split
   ·exact nZ _ _
   ·exact h1 i hi
  ·simp only[Wp,upd,bv,Ke.rhoN];show BitVec.ofInt 64 (if i=Ke.ps (n+1)then _ else _)=_;split
   ·rw[hk];exact X3 (ha _ hp) _ hk2
   ·exact h2 i hi
theorem u0 {a:Nat->Int} (ha:Rg a):Ke.Eq25 (bv (rho a)) (Ke.rho (bv a)):=(X7 ha 24 (an _)).2
theorem OR (a:Nat->Int):∀n i,Xd a n i=if i<n then AV .u64 (a i) (BI .u64 (Lm .u64 (a (i-i%5+(i+1)%5))) (a (i-i%5+(i+2)%5)))else a i
 |0,i=>by simp [Xd]
 |n+1,i=>by
  simp only[Xd,upd];by_cases h:i=n
  ·subst h;rw[ab rfl,OR a i i,aj (gy _),ab (dp _)]
  ·rw[aj h,OR a n i];by_cases h2:i<n
   ·rw[ab h2,ab (by omega)]
   ·rw[aj h2,aj (by omega)]
theorem xY (a:Nat->Int):Ke.Eq25 (bv (chi a)) (Ke.chi (bv a)):=by intro i hi;unfold bv chi Ke.chi;rw[OR,ab hi,NG,zE,zD]
theorem xW (a:Nat->Int):Rg (chi a):=λi hi=>by unfold chi;rw[OR,ab hi];exact MB _ _
theorem AaN (b:Nat->Int):Yv b 3=chi (rho (theta b)):=by simp only[Yv,wP]
def RCl (n:Nat):List Ke.Ln:=(List.range n).map λi=>BitVec.ofInt 64 (RC i)
theorem Pw:∀(l m:List Ke.Ln) (a:Ke.St),Ke.rounds (l++m) a=Ke.rounds m (Ke.rounds l a)
 |[],m,a=>rfl
 |c::l,m,a=>Pw l m (Ke.round c a)
theorem SZ {a:Nat->Int} (ha:Rg a):∀n,Rg (KP a n)/\Ke.Eq25 (bv (KP a n)) (Ke.rounds (RCl n) (bv a))
 |0=>⟨ha,λi _=>rfl⟩
 |n+1=>by
  obtain⟨h1,h2⟩:=SZ ha n;generalize hK:Ke.rounds (RCl n) (bv a)=K at h2;have e:Ke.rounds (RCl (n+1)) (bv a)=Ke.round (BitVec.ofInt 64 (RC n)) K:=by rw[<-hK];unfold RCl;rw[List.range_succ,ce,Pw];rfl
  have k1:Rg (Yv (KP a n) 3):=by rw[AaN];exact xW _
  have k2:Ke.Eq25 (bv (Yv (KP a n) 3)) (Ke.chi (Ke.rho (Ke.theta K))):=by
   have t1:Ke.Eq25 (bv (theta (KP a n))) (Ke.theta K):=λi hi=>by rw[cQ _ i hi,Ke.theta_congr h2 i hi]
   have t2:Ke.Eq25 (bv (rho (theta (KP a n)))) (Ke.rho (Ke.theta K)):=λi hi=>by rw[u0 (cO _) i hi];exact Ke.rhoN_congr t1 24 (an _) i hi
   intro i hi;rw[AaN,xY _ i hi,Ke.chi_congr t2 i hi]
  have pe:KP a (n+1)=upd (Yv (KP a n) 3) 0 (AV .u64 (Yv (KP a n) 3 0) (RC n)):=rfl;generalize Yv (KP a n) 3=q at k1 k2 pe;rw[pe];refine⟨λi hi=> ?_,λi hi=> ?_⟩
  ·unfold upd;split
   ·exact MB _ _
   ·exact k1 i hi
  ·rw[e];unfold Ke.round Ke.iota bv upd;split
   ·rw[NG];have :=k2 0 (by omega);unfold bv at this;rw[this]
   ·exact k2 i hi
def U5 (a:Ke.St):Ke.St:=Ke.rounds (RCl 24) a
theorem oP {a:Nat->Int} (ha:Rg a):Ke.Eq25 (bv (CX a)) (U5 (bv a)):=(SZ ha 24).2
theorem oO {a:Nat->Int} (ha:Rg a):Rg (CX a):=(SZ ha 24).1
def Ef (a:Nat->Int):Nat->Nat->Int
 |0=>a
 |n+1=>CX (Ef a n)
theorem U4 {a:Nat->Int} (ha:Rg a):∀n,Rg (Ef a n)/\Ke.Eq25 (bv (Ef a n)) (Ke.iter U5 n (bv a))
 |0=>⟨ha,λ_ _=>rfl⟩
 |n+1=>by obtain⟨h1,h2⟩:=U4 ha n;refine⟨oO h1,λi hi=> ?_⟩;show bv (CX (Ef a n)) i=U5 (Ke.iter U5 n (bv a)) i;rw[oP h1 i hi];exact Ke.rounds_congr (RCl 24) h2 i hi
theorem Wz {a:Nat->Int} (ha:Rg a) (m:Nat):∃n,m<n/\∀i,i<25->Ef a n i=a i:=by obtain⟨n,h1,h2⟩:=Ke.again_late (f:=U5) (λh=>Ke.rounds_inj _ h) (λh=>Ke.rounds_congr _ h) (bv a) m;refine⟨n,h1,λi hi=> ?_⟩;obtain⟨h3,h4⟩:=U4 ha n;have h5:=(h4 i hi).trans (h2 i hi);unfold bv at h5;have h6:=dn BitVec.toNat h5;rw[GL (h3 i hi),GL (ha i hi)]at h6;have :=h3 i hi;have :=ha i hi;omega
end Go.Sx
namespace Go.Sx
open Go.Mi Go.RowKit
def Bt (f:Nat->Int) (i:Nat):Int:=IntKind.wrap .u8 (Bi .u64 (f (i/8)) ((8*(i%8):Nat):Int))
def bH (f:Nat->Int) (a n:Nat):Ad:=(List.range n).map λi=>Bt f (a+i)
theorem AbJ (f:Nat->Int) (a n:Nat):bH f a (n+1)=bH f a n++[Bt f (a+n)]:=by unfold bH;rw[List.range_succ,ce];rfl
theorem sC (f:Nat->Int) (a n:Nat):(bH f a n).length=n:=by simp [bH]
theorem eQ {r:Nat} (f:Nat->Int) (a:Nat):∀n,a+n<=r->El r f a n=(f,a+n,bH f a n)
 |0,_=>(ZH r f a).symm
 |n+1,h=>by rw[RB,eQ f a n (by omega),AbJ];simp only;rw[aj (by omega)];rfl
theorem Mj (r:Nat) (f:Nat->Int) (a m:Nat):∀n,El r f a (m+n)=((El r (El r f a m).1 (El r f a m).2.1 n).1,(El r (El r f a m).1 (El r f a m).2.1 n).2.1,(El r f a m).2.2++(El r (El r f a m).1 (El r f a m).2.1 n).2.2)
 |0=>by
  rw[<-ZH];simp
 |n+1=>by have ih:=Mj r f a m n;rw[show m+(n+1)=(m+n)+1 from rfl,RB,ih,RB];generalize El r (El r f a m).1 (El r f a m).2.1 n=q;obtain⟨g,b,o⟩:=q;simp only;split<;>simp
theorem UU {r:Nat} (hr:0<r) (f:Nat->Int) (n:Nat):El r f r (n+1)=El r (CX f) 0 (n+1):=by
 rw[Nat.add_comm n 1,Mj r f r 1,Mj r (CX f) 0 1];have h1:El r f r 1=(CX f,1,[Bt (CX f) 0]):=by rw[RB,<-ZH];simp only[if_true];rfl
 have h2:El r (CX f) 0 1=(CX f,1,[Bt (CX f) 0]):=by rw[RB,<-ZH];simp only;rw[aj (by omega)];rfl
 rw[h1,h2]
def blk (f:Nat->Int):Ad:=bH f 0 168
theorem OX (f:Nat->Int):(blk f).length=168:=sC ..
theorem Aap {r:Nat} (hr:0<r) (h:Nat->Int):El r h 0 (r+(r+r))=(CX (CX h),r,bH h 0 r++bH (CX h) 0 r++bH (CX (CX h)) 0 r):=by
 have e:∀h,El r h 0 r=(h,r,bH h 0 r):=λh=>by rw[eQ h 0 r (by omega),bu]
 have e2:∀h,El r h r r=(CX h,r,bH (CX h) 0 r):=λh=>by obtain⟨n,rfl⟩:∃n,r=n+1:=⟨r-1,by omega⟩;rw[UU hr,e]
 rw[Mj,e,Mj,e2,e2,bw]
theorem sY (h:Nat->Int):El 168 h 0 504=(CX (CX h),168,blk h++blk (CX h)++blk (CX (CX h))):=Aap (by decide) h
theorem Aaq (h:Nat->Int):El 168 h 168 504=(CX (CX (CX h)),168,blk (CX h)++blk (CX (CX h))++blk (CX (CX (CX h)))):=(UU (r:=168) (by decide) h 503).trans (sY (CX h))
def GA (x:Int) (s:(Nat->Int)×Nat):(Nat->Int)×Nat:=if x<3329 then(if s.2<256 then(upd s.1 s.2 x,s.2+1)else s)else s
def sR (a b:Int):Int:=Ew .u16 (IntKind.wrap .u16 a) (BW .u16 (IntKind.wrap .u16 (BI .u8 b 15)) 8)
def uL (b c:Int):Int:=Ew .u16 (IntKind.wrap .u16 (Bi .u8 b 4)) (BW .u16 (IntKind.wrap .u16 c) 4)
def acc:Ad->(Nat->Int)×Nat->(Nat->Int)×Nat
 |a::b::c::r,s=>acc r (GA (uL b c) (GA (sR a b) s))
 |_,s=>s
theorem mQ {b:Ad} (h:3<=b.length) (s:(Nat->Int)×Nat):acc b s=acc (b.drop 3) (GA (uL (b.getD 1 0) (b.getD 2 0)) (GA (sR (b.getD 0 0) (b.getD 1 0)) s)):=by
 match b,h with
 |x::y::z::r,_=>rfl
theorem Zg (s:(Nat->Int)×Nat):acc [] s=s:=rfl
theorem KN (x:Int) (s:(Nat->Int)×Nat):s.2<=(GA x s).2/\((GA x s).2<=s.2+1)/\(s.2<=256->(GA x s).2<=256):=by
 unfold GA;split
 ·split
  ·simp only;omega
  ·omega
 ·omega
theorem MY:∀(l:Ad) (s:(Nat->Int)×Nat),s.2<=(acc l s).2/\(s.2<=256->(acc l s).2<=256):=by
 intro l
 induction h:l.length using Nat.strongRecOn generalizing l with
 |_ n ih=>
  intro s
  match l,h with
  |[],_=>exact⟨an _,id⟩
  |[_],_=>exact⟨an _,id⟩
  |[_,_],_=>exact⟨an _,id⟩
  |a::b::c::r,h=>
   have h1:=KN (sR a b) s;have h2:=KN (uL b c) (GA (sR a b) s);have h3:=ih r.length (by rw[<-h];simp only[aw];omega) r rfl (GA (uL b c) (GA (sR a b) s));exact⟨by show s.2<=(acc r _).2;omega,λh4=>h3.2 (h2.2.2 (h1.2.2 h4))⟩
theorem sK:∀(p r:Ad) (s:(Nat->Int)×Nat),p.length%3=0->acc (p++r) s=acc r (acc p s):=by
 intro p
 induction h:p.length using Nat.strongRecOn generalizing p with
 |_ n ih=>
  intro r s hm
  match p,h with
  |[],_=>rfl
  |[_],h=>simp only[aw,av]at h;omega
  |[_,_],h=>simp only[aw,av]at h;omega
  |a::b::c::q,h=>
   simp only[aw]at h;exact ih q.length (by omega) q rfl r _ (by omega)
theorem QJ {p r:Ad} (hp:p.length%3=0) {s:(Nat->Int)×Nat} (hs:s.2<256):s.2<(acc (p++0::0::0::r) s).2:=by
 rw[sK _ _ _ hp];have h1:=(MY p s).1;show s.2<(acc r (GA (uL 0 0) (GA (sR 0 0) (acc p s)))).2;rw[show sR 0 0=0 from rfl,show uL 0 0=0 from rfl];generalize acc p s=t at h1;have h2:=KN 0 (GA 0 t);have h3:=(MY r (GA 0 (GA 0 t))).1;have h4:t.2<256->(GA 0 t).2=t.2+1:=λh=>by unfold GA;rw[ab (by decide),ab h]
 have h5:=KN 0 t;omega
def uR (g0:Nat->Int):Nat->(Nat->Int)×Nat×(Nat->Int)×Nat
 |0=>(g0,0,λ_=>0,0)
 |k+1=>((El 168 (uR g0 k).1 (uR g0 k).2.1 504).1,(El 168 (uR g0 k).1 (uR g0 k).2.1 504).2.1,acc (El 168 (uR g0 k).1 (uR g0 k).2.1 504).2.2 (uR g0 k).2.2)
theorem Yf (a:Nat->Int):∀n,Ef (CX a) n=Ef a (n+1)
 |0=>rfl
 |n+1=>dn CX (Yf a n)
theorem cL (g0:Nat->Int):∀k,El 168 (uR g0 k).1 (uR g0 k).2.1 504=(Ef g0 (3*k+2),168,blk (Ef g0 (3*k))++blk (Ef g0 (3*k+1))++blk (Ef g0 (3*k+2)))
 |0=>sY g0
 |k+1=>by
  have ih:=cL g0 k;have e:uR g0 (k+1)=(Ef g0 (3*k+2),168,acc (blk (Ef g0 (3*k))++blk (Ef g0 (3*k+1))++blk (Ef g0 (3*k+2))) (uR g0 k).2.2):=by show((El 168 (uR g0 k).1 (uR g0 k).2.1 504).1,(El 168 (uR g0 k).1 (uR g0 k).2.1 504).2.1,acc (El 168 (uR g0 k).1 (uR g0 k).2.1 504).2.2 (uR g0 k).2.2)=_;rw[ih]
  rw[e];simp only;rw[Aaq];rfl
theorem Sr (g0:Nat->Int) (k:Nat):(uR g0 (k+1)).2.2=acc (blk (Ef g0 (3*k))++blk (Ef g0 (3*k+1))++blk (Ef g0 (3*k+2))) (uR g0 k).2.2:=by show acc (El 168 (uR g0 k).1 (uR g0 k).2.1 504).2.2 (uR g0 k).2.2=_;rw[cL]
theorem T3 {f:Nat->Int} {i:Nat} (h:f (i/8)=0):Bt f i=0:=by unfold Bt;rw[h];unfold Bi;rw[Int.zero_fdiv];rfl
theorem mD {f:Nat->Int} (h:f 5=0):∃p r,blk f=p++0::0::0::r/\p.length=42:=by
 have hb:∀i,i<168->(blk f)[i]? =some (Bt f i):=λi hi=>by simp [blk,bH,hi]
 have hl:=OX f;refine⟨(blk f).take 42,(blk f).drop 45,?_,by simp [hl]⟩;have e:(blk f).drop 42=0::0::0::(blk f).drop 45:=by
  have at':∀i,i<168->(blk f).drop i=Bt f i::(blk f).drop (i+1):=λi hi=>by rw[List.drop_eq_getElem_cons (by rw[hl];exact hi)];have :=hb i hi;rw[am (by rw[hl];exact hi)]at this;rw[Option.some.inj this]
  rw[at' 42 (by omega),at' 43 (by omega),at' 44 (by omega),T3 h,T3 h,T3 h]
 rw[<-e,dg]
theorem XP (g0:Nat->Int):∀k,(uR g0 k).2.2.2<=(uR g0 (k+1)).2.2.2/\(uR g0 k).2.2.2<=256
 |0=>⟨br _,br _⟩
 |k+1=>by
  have ih:=XP g0 k;refine⟨?_,?_⟩
  ·rw[Sr g0 (k+1)];exact(MY _ _).1
  ·rw[Sr g0 k];exact(MY _ _).2 ih.2
theorem cK (g0:Nat->Int) (k:Nat):∀d,(uR g0 k).2.2.2<=(uR g0 (k+d)).2.2.2
 |0=>an _
 |d+1=>b_ (cK g0 k d) (XP g0 (k+d)).1
theorem nB {g0:Nat->Int} {t:Nat} (h:Ef g0 t 5=0) (hk:(uR g0 (t/3)).2.2.2<256):(uR g0 (t/3)).2.2.2<(uR g0 (t/3+1)).2.2.2:=by
 rw[Sr];have h3:t%3=0\/t%3=1\/t%3=2:=by omega
 obtain⟨p,r,e,hp⟩:=mD h;rcases h3 with h3|h3|h3
 ·rw[show 3*(t/3)=t by omega,e];have :=QJ (p:=p) (r:=r++blk (Ef g0 (t+1))++blk (Ef g0 (t+2))) (by rw[hp]) hk;simpa using this
 ·rw[show 3*(t/3)+1=t by omega,e];have :=QJ (p:=blk (Ef g0 (3*(t/3)))++p) (r:=r++blk (Ef g0 (3*(t/3)+2))) (by rw[ah,hp,OX]) hk;simpa using this
 ·rw[show 3*(t/3)+2=t by omega,e];have :=QJ (p:=blk (Ef g0 (3*(t/3)))++blk (Ef g0 (3*(t/3)+1))++p) (r:=r) (by rw[ah,ah,hp,OX,OX]) hk;simpa using this
theorem nC {g0:Nat->Int} (h:∀m,∃t,m<=t/\Ef g0 t 5=0):∃K,∀k,(uR g0 k).2.2.2<256->k<K:=by
 have key:∀c,c<=256->∃K,∀k,K<=k->c<=(uR g0 k).2.2.2:=by
  intro c
  induction c with
  |zero=>exact λ_=>⟨0,λ_ _=>br _⟩
  |succ c ih=>
   intro hc;obtain⟨K,hK⟩:=ih (by omega);obtain⟨t,h1,h2⟩:=h (3*K);refine⟨t/3+1,λk hk=> ?_⟩;have h3:=hK (t/3) (by omega);have h4:=cK g0 (t/3+1) (k-(t/3+1));rw[show t/3+1+(k-(t/3+1))=k by omega]at h4;have h6:=cK g0 (t/3) 1;by_cases h5:(uR g0 (t/3)).2.2.2<256
   ·have :=nB h2 h5;omega
   ·omega
 obtain⟨K,hK⟩:=key 256 (an _);refine⟨K,λk hk=> ?_⟩;rcases ci k K with h1|h1
 ·exact h1
 ·have :=hK k h1;omega
theorem cA (b:Ad):∀n,Rg (bW b (λ_=>0) n)
 |0=>λi _=>by simp [bW]
 |n+1=>λi hi=>by
  simp only[bW,upd];split
  ·exact MB _ _
  ·exact cA b n i hi
theorem O4 {b:Ad} {l:Nat} (h:∀i,i/8=l->b.getD i 0=0):∀n,bW b (λ_=>0) n l=0
 |0=>rfl
 |n+1=>by
  simp only[bW,upd];split
  ·rename_i e;rw[<-e,O4 h n,h n e.symm];have e2:∀m:Nat,m<8->AV .u64 0 (BW .u64 (IntKind.wrap .u64 0) ((8*m:Nat):Int))=0:=by
    intro m hm;have :m=0\/m=1\/m=2\/m=3\/m=4\/m=5\/m=6\/m=7:=by omega
    rcases this with rfl|rfl|rfl|rfl|rfl|rfl|rfl|rfl<;>rfl
   exact e2 (n%8) (di _ (by decide))
  ·exact O4 h n
theorem oS {l:AZ} (h:l.flatten.length<40):(fV 168 31 l).length=168/\∀i,i/8=5->(fV 168 31 l).getD i 0=0:=by
 have hl:(l.flatten++[(31:Int)]).length=l.flatten.length+1:=by simp
 have hz:(Mr 168 31 l).length=168:=by unfold Mr;rw[ah,az,hl];omega
 refine⟨by rw[Yj,hz],λi hi=> ?_⟩;unfold fV;rw[hz,al,List.getElem?_set_ne (by omega)];unfold Mr;rw[df (by rw[hl];omega)];rw[List.getElem?_replicate];split<;>rfl
theorem nL {l:AZ} (h:l.flatten.length<40):∃x0,Rg x0/\x0 5=0/\Pp 168 31 l=CX x0:=by obtain⟨h1,h2⟩:=oS h;refine⟨bW (fV 168 31 l) (λ_=>0) 168,cA _ _,O4 h2 _,?_⟩;unfold Pp;rw[h1];show CX (bW ((fV 168 31 l).drop (0*168)) (Rc (fV 168 31 l) 168 0) 168)=_;rw[iw,ig];rfl
theorem Zx {l:AZ} (h:l.flatten.length<40) (m:Nat):∃t,m<=t/\Ef (Pp 168 31 l) t 5=0:=by obtain⟨x0,h1,h2,h3⟩:=nL h;obtain⟨n,h4,h5⟩:=Wz h1 m;refine⟨n-1,by omega,?_⟩;rw[h3,Yf,show n-1+1=n by omega,h5 5 (by omega),h2]
noncomputable def uK (l:AZ):Nat:=Classical.epsilon λK=>∀k,(uR (Pp 168 31 l) k).2.2.2<256->k<K
theorem Aag {l:AZ} (h:l.flatten.length<40) {k:Nat} (hk:(uR (Pp 168 31 l) k).2.2.2<256):k<uK l:=
 Classical.epsilon_spec (nC (Zx h)) k hk
noncomputable def Kl (l:AZ):Nat->Int:=(uR (Pp 168 31 l) (DX λk=>(uR (Pp 168 31 l) k).2.2.2<256)).2.2.1
def Q2 (xs:Ad) (s:(Nat->Int)×Nat):Nat->(Nat->Int)×Nat
 |0=>s
 |i+1=>GA (xs.getD i 0) (Q2 xs s i)
theorem Xy {x:Int} {f:Nat->Int} {n:Nat} (h:x<3329) (h2:((n:Nat):Int)<256):GA x (f,n)=(upd f n x,n+1):=by unfold GA;rw[ab h,ab (by simp only;omega)]
theorem Xz {x:Int} {f:Nat->Int} {n:Nat} (h:x<3329) (h2:¬((n:Nat):Int)<256):GA x (f,n)=(f,n):=by unfold GA;rw[ab h,aj (by simp only;omega)]
theorem Xx {x:Int} {f:Nat->Int} {n:Nat} (h:¬x<3329):GA x (f,n)=(f,n):=by unfold GA;rw[aj h]
theorem NH {xs:Ad} {s s':(Nat->Int)×Nat} {t:Nat} {f:Nat->Int} {n:Nat} (h:(f,n)=Q2 xs s t) (h2:s'=GA (xs.getD t 0) (f,n)):s'=Q2 xs s (t+1):=by show _=GA _ (Q2 xs s t);rw[<-h];exact h2
theorem zM {b:Ad} {s r:(Nat->Int)×Nat} (h:3<=b.length) (hc:acc b s=r):acc (b.drop 3) (Q2 [sR (b.getD 0 0) (b.getD 1 0),uL (b.getD 1 0) (b.getD 2 0)] s 2)=r:=(mQ h s).symm.trans hc
theorem Aaf {g0 g f:Nat->Int} {k a n:Nat} (hq:(g,a,f,n)=uR g0 k):((El 168 g a 504).1,(El 168 g a 504).2.1,acc (El 168 g a 504).2.2 (f,n))=uR g0 (k+1):=by show _=((El 168 (uR g0 k).1 (uR g0 k).2.1 504).1,(El 168 (uR g0 k).1 (uR g0 k).2.1 504).2.1,acc (El 168 (uR g0 k).1 (uR g0 k).2.1 504).2.2 (uR g0 k).2.2);rw[<-hq]
theorem AbU {g0 g f:Nat->Int} {k a n:Nat} (hq:(g,a,f,n)=uR g0 k):a<=168:=by
 cases k with
 |zero=>have :=dn (·.2.1) hq;simp only[uR]at this;omega
 |succ k=>
  have :=dn (·.2.1) hq;have e:(uR g0 (k+1)).2.1=(El 168 (uR g0 k).1 (uR g0 k).2.1 504).2.1:=rfl;simp only[e,cL]at this;omega
end Go.Sx
namespace Go.Sx.Tryz
open Go.Mi Go.RowKit Go.Sx Go.Proofs Go.Proofs.Tryz
noncomputable section
open List (replicate)
theorem Pb (sd:Ad) (bi bj:Int) (h:sd.length=32):AO 178 ⟨[lb sd,.v (.int .u8 bi),.v (.int .u8 bj)],[],.ar .u16 256 (Kl [sd,[bi,bj]]),[]⟩:=by
 refine cy 0 func178 rfl ntmps178 λY V=>Ak [] 1 V λV=>Ay [(5,AC (Ta [sd,[bi,bj]] (by first |omega|(simp only[bc,cd,ah,aw,av,ao,au,az]<;>omega)|(simp<;>omega))) [] [(0,1),(1,2)])] [] 3 V λV=>Ak [] 3 V λV=>Ao (BK (AD (ι:=Nat×(Nat->Int)×Nat×(Nat->Int)×Nat) Y V (λ(k,g,a,f,n)=>(uK [sd,[bi,bj]]-k,[(8,vi (n:Int))],[(0,Q3 f),(2,Ob4 g a)],((g,a,f,n)=uR (Pp 168 31 [sd,[bi,bj]]) k)/\(∀j,j<k->(uR (Pp 168 31 [sd,[bi,bj]]) j).2.2.2<256)/\True)) [6,7] [1] 3 (0,(Pp 168 31 [sd,[bi,bj]]),0,λ_=>0,0) [(0,0),(1,1),(2,2)] ⟨rfl,(λj h=>absurd h (bd j)),aa⟩ ?_));rintro⟨k,g,a,f,n⟩ ac gs ws ⟨hq,hj,_⟩ V;refine Ao (Ak [] 3 V λV=>AH ((n:Int)<256) V (λh1=> ?_) (λh1=> ?_))
 ·refine BR (BK (Ao ?_));have ha:=AbU hq;have hnk:(uR (Pp 168 31 [sd,[bi,bj]]) k).2.2.2<256:=by rw[<-hq];simp only;omega
  have hk:=Aag (l:=[sd,[bi,bj]]) (by simp only[bc,cd,ah,aw,av];omega) hnk;refine Aw [(1,AC (dX g a Ac) [(0,1),(1,2)] [])] [] 3 V λV=>Ae (BK (AD (ι:=Ad×(Nat->Int)×Nat) Y V (λ(b,f2,n2)=>(b.length,[(8,vi (n2:Int)),(9,lb b)],[(0,Q3 f2)],(b.length%3=0)/\(acc b (f2,n2)=acc (El 168 g a 504).2.2 (f,n))/\True)) [6,7] [1,2] 3 ((El 168 g a 504).2.2,f,n) [(0,0),(1,1),(2,2)] ⟨(by rw[Nn]),rfl,aa⟩ ?_));rintro⟨b,f2,n2⟩ ac gs ws ⟨hb,hc,_⟩ V;refine Ao (Ak [] 3 V λV=>AH ((0:Int)<((b.length:Nat):Int)) V (λh2=> ?_) (λh2=> ?_))
  ·refine B6 (Ay [(1,AN 0 b.length),(5,AN 1 b.length),(9,If 8),(12,AN 1 b.length),(14,If 4),(17,AN 2 b.length),(20,If 4)] [49] 3 V λV=>BK (AD (ι:=Nat×(Nat->Int)×Nat) Y V (λ(t,f3,n3)=>(2-t,[(8,vi (n3:Int)),(51,vi ((t:Nat):Int))],[(0,Q3 f3)],(t<=2)/\((f3,n3)=Q2 [(Ew .u16 (IntKind.wrap .u16 (b.getD 0 0)) (BW .u16 (IntKind.wrap .u16 (BI .u8 (b.getD 1 0) 15)) 8)),(Ew .u16 (IntKind.wrap .u16 (Bi .u8 (b.getD 1 0) 4)) (BW .u16 (IntKind.wrap .u16 (b.getD 2 0)) 4))] (f2,n2) t)/\True)) [6,7,9,49,50] [1,2] 3 (0,f2,n2) [(0,0),(1,1),(2,2)] ⟨Ac,rfl,aa⟩ ?_));rintro⟨t,f3,n3⟩ ac gs ws ⟨ht,hs,_⟩ V;refine Ak [] 3 V λV=>Ao (AH ((t:Int)<2) V (λh3=> ?_) (λh3=> ?_))
   ·refine B6 (Ay [(0,AN t 2)] [] 3 V λV=>Ao ?_);by_cases h4:([(Ew .u16 (IntKind.wrap .u16 (b.getD 0 0)) (BW .u16 (IntKind.wrap .u16 (BI .u8 (b.getD 1 0) 15)) 8)),(Ew .u16 (IntKind.wrap .u16 (Bi .u8 (b.getD 1 0) 4)) (BW .u16 (IntKind.wrap .u16 (b.getD 2 0)) 4))].getD t 0)<3329
    ·refine Aw [(1,Ga h4)] [] 3 V λV=>Ae (AH ((n3:Int)<256) V (λh5=> ?_) (λh5=> ?_))
     ·exact Ay [(2,AN n3 256)] [] 3 V λV=>Aw [(1,CF n3)] [8] 3 V λV=>Cn (Aw [(0,CF t)] [51] 3 V λV=>Ae (Av Y V (t+1,upd f3 n3 ([(Ew .u16 (IntKind.wrap .u16 (b.getD 0 0)) (BW .u16 (IntKind.wrap .u16 (BI .u8 (b.getD 1 0) 15)) 8)),(Ew .u16 (IntKind.wrap .u16 (Bi .u8 (b.getD 1 0) 4)) (BW .u16 (IntKind.wrap .u16 (b.getD 2 0)) 4))].getD t 0),n3+1) [(0,0),(1,1),(2,2)] ⟨Ac,(NH hs (by first |exact(Xy A3 A3).symm|exact(Xz A3 A3).symm|exact(Xx A3).symm)),aa⟩))
     ·exact GT (Aw [(0,CF t)] [51] 3 V λV=>Ae (Av Y V (t+1,f3,n3) [(0,0),(1,1),(2,2)] ⟨Ac,(NH hs (by first |exact(Xy A3 A3).symm|exact(Xz A3 A3).symm|exact(Xx A3).symm)),aa⟩))
    ·exact Aw [(1,CH h4)] [] 3 V λV=>Ae (Ai V (GT (Aw [(0,CF t)] [51] 3 V λV=>Ae (Av Y V (t+1,f3,n3) [(0,0),(1,1),(2,2)] ⟨Ac,(NH hs (by first |exact(Xy A3 A3).symm|exact(Xz A3 A3).symm|exact(Xx A3).symm)),aa⟩))))
   ·have hT:=V;obtain rfl:2=t:=by omega
    obtain rfl:(Q2 [(Ew .u16 (IntKind.wrap .u16 (b.getD 0 0)) (BW .u16 (IntKind.wrap .u16 (BI .u8 (b.getD 1 0) 15)) 8)),(Ew .u16 (IntKind.wrap .u16 (Bi .u8 (b.getD 1 0) 4)) (BW .u16 (IntKind.wrap .u16 (b.getD 2 0)) 4))] (f2,n2) 2).1=f3:=Eq.symm (dn (λz=>z.1) hs);obtain rfl:(Q2 [(Ew .u16 (IntKind.wrap .u16 (b.getD 0 0)) (BW .u16 (IntKind.wrap .u16 (BI .u8 (b.getD 1 0) 15)) 8)),(Ew .u16 (IntKind.wrap .u16 (Bi .u8 (b.getD 1 0) 4)) (BW .u16 (IntKind.wrap .u16 (b.getD 2 0)) 4))] (f2,n2) 2).2=n3:=Eq.symm (dn (λz=>z.2) hs);have V:=hT;exact V8 (Aw [(1,NJ 3 b.length)] [9] 3 V λV=>Ae (Av Y V (b.drop 3,(Q2 [(Ew .u16 (IntKind.wrap .u16 (b.getD 0 0)) (BW .u16 (IntKind.wrap .u16 (BI .u8 (b.getD 1 0) 15)) 8)),(Ew .u16 (IntKind.wrap .u16 (Bi .u8 (b.getD 1 0) 4)) (BW .u16 (IntKind.wrap .u16 (b.getD 2 0)) 4))] (f2,n2) 2).1,(Q2 [(Ew .u16 (IntKind.wrap .u16 (b.getD 0 0)) (BW .u16 (IntKind.wrap .u16 (BI .u8 (b.getD 1 0) 15)) 8)),(Ew .u16 (IntKind.wrap .u16 (Bi .u8 (b.getD 1 0) 4)) (BW .u16 (IntKind.wrap .u16 (b.getD 2 0)) 4))] (f2,n2) 2).2) [(0,0),(1,1),(2,2)] ⟨(by rw[au];omega),(zM Ac hc),aa⟩ (show(b.drop 3).length<b.length from by rw[au];omega)))
  ·have hT:=V;have hn:b=[]:=bm Ac;obtain rfl:[]=b:=Eq.symm hn;obtain rfl:(acc (El 168 g a 504).2.2 (f,n)).1=f2:=Eq.symm (dn (λz=>z.1) ((Zg _).symm.trans hc));obtain rfl:(acc (El 168 g a 504).2.2 (f,n)).2=n2:=Eq.symm (dn (λz=>z.2) ((Zg _).symm.trans hc));have V:=hT;exact V8 (Av Y V (k+1,(El 168 g a 504).1,(El 168 g a 504).2.1,(acc (El 168 g a 504).2.2 (f,n)).1,(acc (El 168 g a 504).2.2 (f,n)).2) [(0,0),(1,1),(2,2)] ⟨(Aaf hq),(Bf hj hnk),aa⟩)
 ·have hT:=V;obtain rfl:=CB (P:=λk=>(uR (Pp 168 31 [sd,[bi,bj]]) k).2.2.2<256) (by rw[<-hq];simp only;omega) hj;obtain rfl:Kl [sd,[bi,bj]]=f:=Eq.symm (dn (λz=>z.2.2.1) hq);have V:=hT;exact DF (Ak [] 3 V λV=>AU (BN V))
def uF (x0:Nat->Int):O:= .ob 214 (Ag [.ar .u16 768 x0])
theorem Jj (f:Nat->Int) (i:Nat) (o:Ad):∀k,(EX f i o k).length=o.length
 |0=>rfl
 |k+1=>by show(ED f i o k (EX f i o k)).length=o.length;unfold ED;rw[c_,Jj f i o k]
@[simp] theorem Hd (f:Nat->Int):(CP f).length=384:=by
 have key:∀i,(FO f i).length=384:=by
  intro i
  induction i with
  |zero=>exact az
  |succ i ih=>exact(Jj f i _ 12).trans ih
 unfold CP;rw[Ab];exact key 256
theorem NV (f:Nat->Int) (d i:Nat) (o:Ad):∀k,(Ks f d i o k).length=o.length
 |0=>rfl
 |k+1=>by show(Kr f d i k (Ks f d i o k)).length=o.length;unfold Kr;rw[c_,NV f d i o k]
theorem JG (f:Nat->Int) (d:Nat):(HD f d).length=32*d:=by
 have key:∀i,(OA f d i).length=32*d:=by
  intro i
  induction i with
  |zero=>exact az
  |succ i ih=>exact(NV f d i _ d).trans ih
 unfold HD;rw[Ab];exact key 256
def K6 (x6:Nat):(Nat->Int)->(Nat->Int):=λo2_0=>Ek o2_0 (x6*256) 256 (U9 (λj=>o2_0 (x6*256+j)))
section
variable (f:Nat->Int)
def J4 (f:Nat->Int):Nat->(Nat->Int)
 |0=>f
 |x6+1=>K6 x6 (J4 f x6)
def AF:(Nat->Int):=AR (J4 f 3)
def Xr (z_:(Nat->Int):=AF f):Con:=⟨[.ar .u16 768 f,.v (.func (.func 150) #[] #[])],[],.ar .u16 768 z_,[]⟩
theorem J3:AO 149 (Xr f):=by
 refine cy 0 func149 rfl ntmps149 λY V=>Ak [] 2 V λV=>Ao (Ak [] 2 V λV=>BK (AD (ι:=Nat×(Nat->Int)) Y V (λ(x6,o2_0)=>(3-x6,[(6,vi ((x6:Nat):Int))],[(0,uF o2_0)],(x6<=3)/\(o2_0=J4 f x6)/\True)) [1,2,4] [1] 2 (0,f) [(0,0),(1,1)] ⟨Ac,rfl,aa⟩ ?_));rintro⟨x6,o2_0⟩ ac gs ws ⟨hx6,hq1,_⟩ V;refine Ak [] 2 V λV=>Ao (AH ((x6:Int)<3) V (λh1=> ?_) (λh1=> ?_))
 ·exact B6 (Ak [] 2 V λV=>Aw [(3,AN x6 3),(4,HU (.ar .u16 256 (λj=>o2_0 (x6*256+j))) [(.ar .u16 256 (λj=>o2_0 (x6*256+j)):D)=(.ar .u16 256 (λj=>o2_0 (x6*256+j)))] ⟨rfl,aa⟩),(5,AS (f5 (λj=>o2_0 (x6*256+j)))),(6,AN x6 3)] [] 2 V λV=>Cn (Aw [(0,CF x6)] [6] 2 V λV=>Ae (Av Y V (x6+1,Ek o2_0 (x6*256) 256 (U9 (λj=>o2_0 (x6*256+j)))) [(0,0),(1,1)] ⟨Ac,(Bp (st:=K6) hq1 rfl rfl),aa⟩)))
 ·have hT:=V;obtain rfl:3=x6:=by omega
  obtain rfl:=hq1.symm;have V:=hT;exact DF (Ak [] 2 V λV=>AU (BX (Ab _) V))
end
def KT (g:Nat->Int) (x8:Nat):(Nat->Int)->(Nat->Int):=λo3_0=>Ek o3_0 (x8*256) 256 (gE (λj=>o3_0 (x8*256+j)) (λj=>g (x8*256+j)))
section
variable (f g:Nat->Int)
def Js (f g:Nat->Int):Nat->(Nat->Int)
 |0=>f
 |x8+1=>KT g x8 (Js f g x8)
def EQ:(Nat->Int):=AR (Js f g 3)
def Xi (z_:(Nat->Int):=EQ f g):Con:=⟨[.ar .u16 768 f,.ar .u16 768 g,.v (.func (.func 180) #[] #[])],[],.ar .u16 768 z_,[]⟩
theorem Ui:AO 179 (Xi f g):=by
 refine cy 0 func179 rfl ntmps179 λY V=>Ak [] 3 V λV=>Ao (Ak [] 3 V λV=>BK (AD (ι:=Nat×(Nat->Int)) Y V (λ(x8,o3_0)=>(3-x8,[(8,vi ((x8:Nat):Int))],[(0,uF o3_0)],(x8<=3)/\(o3_0=Js f g x8)/\True)) [2,3,4,6] [1,2] 3 (0,f) [(0,0),(1,1),(2,2)] ⟨Ac,rfl,aa⟩ ?_));rintro⟨x8,o3_0⟩ ac gs ws ⟨hx8,hq1,_⟩ V;refine Ak [] 3 V λV=>Ao (AH ((x8:Int)<3) V (λh1=> ?_) (λh1=> ?_))
 ·exact B6 (Ak [] 3 V λV=>Aw [(3,AN x8 3),(4,HU (.ar .u16 256 (λj=>o3_0 (x8*256+j))) [(.ar .u16 256 (λj=>o3_0 (x8*256+j)):D)=(.ar .u16 256 (λj=>o3_0 (x8*256+j)))] ⟨rfl,aa⟩),(6,AN x8 3),(7,HU (.ar .u16 256 (λj=>g (x8*256+j))) [(.ar .u16 256 (λj=>g (x8*256+j)):D)=(.ar .u16 256 (λj=>g (x8*256+j)))] ⟨rfl,aa⟩),(8,Jp (wA (λj=>o3_0 (x8*256+j)) (λj=>g (x8*256+j))) [] [] [.ar .u16 256 (λj=>o3_0 (x8*256+j)),.ar .u16 256 (λj=>g (x8*256+j))] []),(9,AN x8 3)] [] 3 V λV=>Cn (Aw [(0,CF x8)] [8] 3 V λV=>Ae (Av Y V (x8+1,Ek o3_0 (x8*256) 256 (gE (λj=>o3_0 (x8*256+j)) (λj=>g (x8*256+j)))) [(0,0),(1,1),(2,2)] ⟨Ac,(Bp (st:=KT _) hq1 rfl rfl),aa⟩)))
 ·have hT:=V;obtain rfl:3=x8:=by omega
  obtain rfl:=hq1.symm;have V:=hT;exact DF (Ak [] 3 V λV=>AU (BX (Ab _) V))
def VI (x10:Nat):(Nat->Int)->(Nat->Int):=λo4_0=>BD o4_0 (λj=>(EQ f g) (x10*256+j))
def W8 (f g:Nat->Int):Nat->(Nat->Int)
 |0=>λ_=>0
 |x10+1=>VI f g x10 (W8 f g x10)
def Cb:(Nat->Int):=AR (W8 f g 3)
def AbE (z_:(Nat->Int):=Cb f g):Con:=⟨[.ar .u16 768 f,.ar .u16 768 g],[],.ar .u16 256 z_,[]⟩
theorem TH:AO 153 (AbE f g):=by
 refine cy 0 func153 rfl ntmps153 λY V=>Ak [] 3 V λV=>Ao (Ay [(0,HU (.ar .u16 768 f) [(.ar .u16 768 f:D)=(.ar .u16 768 f)] ⟨rfl,aa⟩),(1,HU (.ar .u16 768 g) [(.ar .u16 768 g:D)=(.ar .u16 768 g)] ⟨rfl,aa⟩),(2,Jp (Ui f g) [] [] [.ar .u16 768 f,.ar .u16 768 g,.v (.func (.func 180) #[] #[])] [])] [] 3 V λV=>BK (AD (ι:=Nat×(Nat->Int)) Y V (λ(x10,o4_0)=>(3-x10,[(10,vi ((x10:Nat):Int))],[(2,Q3 o4_0)],(x10<=3)/\(o4_0=W8 f g x10)/\True)) [4,9] [] 3 (0,λ_=>0) [(2,2)] ⟨Ac,rfl,aa⟩ ?_));rintro⟨x10,o4_0⟩ ac gs ws ⟨hx10,hq1,_⟩ V;refine Ak [] 3 V λV=>Ao (AH ((x10:Int)<3) V (λh1=> ?_) (λh1=> ?_))
 ·exact B6 (Ay [(0,AN x10 3)] [6] 4 V λV=>Aw [(0,HU (.ar .u16 256 o4_0) [(.ar .u16 256 o4_0:D)=(.ar .u16 256 o4_0)] ⟨rfl,aa⟩),(1,HU (.ar .u16 256 (λj=>(EQ f g) (x10*256+j))) [(.ar .u16 256 (λj=>(EQ f g) (x10*256+j)):D)=(.ar .u16 256 (λj=>(EQ f g) (x10*256+j)))] ⟨rfl,aa⟩),(2,Jp (Jg o4_0 (λj=>(EQ f g) (x10*256+j))) [] [] [.ar .u16 256 o4_0,.ar .u16 256 (λj=>(EQ f g) (x10*256+j))] [])] [] 4 V λV=>Cn (Aw [(0,CF x10)] [10] 4 V λV=>Ae (Av Y V (x10+1,BD o4_0 (λj=>(EQ f g) (x10*256+j))) [(2,2)] ⟨Ac,(Bp (st:=VI _ _) hq1 rfl rfl),aa⟩)))
 ·have hT:=V;obtain rfl:3=x10:=by omega
  obtain rfl:=hq1.symm;have V:=hT;exact DF (Ak [] 3 V λV=>AU (BX (Ab _) V))
end
section
variable (f:Nat->Int)
def H7 (x8:Nat):Ad->Ad:=λx2=>x2++(CP (λj=>f (x8*256+j)))
def DK (f:Nat->Int):Nat->Ad
 |0=>[]
 |x8+1=>H7 f x8 (DK f x8)
def C1:Ad:=AR (DK f 3)
def lH (z_:Ad:=C1 f):Con:=⟨[.ar .u16 768 f],[],lb z_,[]⟩
theorem RE:AO 155 (lH f):=by
 refine cy 0 func155 rfl ntmps155 λY V=>Ak [] 1 V λV=>Ao (Ak [] 1 V λV=>BK ?_);obtain⟨gs,V⟩:=V.nilk 2 5 Bb;refine AD (ι:=Nat×Ad) Y V (λ(x8,x2)=>(3-x8,[(8,vi ((x8:Nat):Int))],[(1,.sl 5 Bb x2)],(x8<=3)/\(x2=DK f x8)/\(x2.length=384*x8)/\True)) [2,7] [] 2 (0,[]) [(1,1)] ⟨Ac,rfl,rfl,aa⟩ ?_;rintro⟨x8,x2⟩ ac gs ws ⟨hx8,hq1,p1,_⟩ V;refine Ak [] 2 V λV=>Ao (AH ((x8:Int)<3) V (λh1=> ?_) (λh1=> ?_))
 ·refine B6 (Ay [(0,AN x8 3)] [4] 3 V λV=>Ao (Aw [(0,HU (.ar .u16 256 (λj=>f (x8*256+j))) [(.ar .u16 256 (λj=>f (x8*256+j)):D)=(.ar .u16 256 (λj=>f (x8*256+j)))] ⟨rfl,aa⟩),(1,Jp (VG (λj=>f (x8*256+j))) [] [(0,3)] [.ar .u16 256 (λj=>f (x8*256+j)),vi 12] [])] [] 4 V λV=> ?_));have hl:=Hd (λj=>f (x8*256+j));exact Ae (Aw [(2,GJ x2.length ((CP (λj=>f (x8*256+j))).length) 1 Ac)] [2] 5 V λV=>Cn (Aw [(0,CF x8)] [8] 5 V λV=>Ae (Av Y V (x8+1,x2++(CP (λj=>f (x8*256+j)))) [(1,4)] ⟨Ac,(Bp (st:=H7 _) hq1 rfl rfl),(by rw[ah,Hd,p1];omega),aa⟩)))
 ·have hT:=V;obtain rfl:3=x8:=by omega
  obtain rfl:=hq1.symm;have V:=hT;refine DF (Ak [2] 2 V λV=>AU ?_);obtain⟨gs,V⟩:=V.fz 1;exact BX (Ab _) V
end
section
variable (xs:Ad)
def Pv (x4:Nat):(Nat->Int)->(Nat->Int):=λo2_0=>Ek o2_0 (x4*256) 256 (ER (xs.drop (384*x4)))
def Jy (xs:Ad):Nat->(Nat->Int)
 |0=>λ_=>0
 |x4+1=>Pv xs x4 (Jy xs x4)
def A9:(Nat->Int):=AR (Jy xs 3)
def rK (z_:(Nat->Int):=A9 xs):Con:=⟨[lb xs],[],.ar .u16 768 z_,[]⟩
theorem Mc (h:1152<=xs.length):AO 192 (rK xs):=by
 refine cy 0 func192 rfl ntmps192 λY V=> ?_;have Fp:xs.length<=9223372036854775807:=V.len 0 rfl;refine Ak [] 1 V λV=>Ao (Ak [] 1 V λV=>BK (AD (ι:=Nat×(Nat->Int)) Y V (λ(x4,o2_0)=>(3-x4,[(4,vi ((x4:Nat):Int))],[(0,uF o2_0)],(x4<=3)/\(o2_0=Jy xs x4)/\True)) [0,2] [] 1 (0,λ_=>0) [(0,0)] ⟨Ac,rfl,aa⟩ ?_));rintro⟨x4,o2_0⟩ ac gs ws ⟨hx4,hq1,_⟩ V;refine Ak [] 1 V λV=>Ao (AH ((x4:Int)<3) V (λh1=> ?_) (λh1=> ?_))
 ·exact B6 (Ak [] 1 V λV=>Aw [(3,HV 384 x4 (384*x4)),(4,NJ (384*x4) xs.length),(5,AS (Uk (xs.drop (384*x4)) (by first |omega|(simp only[ah,au,ao,aw,av];omega)))),(6,AN x4 3)] [] 1 V λV=>Cn (Aw [(0,CF x4)] [4] 1 V λV=>Ae (Av Y V (x4+1,Ek o2_0 (x4*256) 256 (ER (xs.drop (384*x4)))) [(0,0)] ⟨Ac,(Bp (st:=Pv _) hq1 rfl rfl),aa⟩)))
 ·have hT:=V;obtain rfl:3=x4:=by omega
  obtain rfl:=hq1.symm;have V:=hT;exact DF (Ak [] 1 V λV=>AU (BX (Ab _) V))
end
section
variable (sd:Ad)
def N0 (n x6:Nat):(Nat->Int)->(Nat->Int):=λo4_0=>Ek o4_0 (x6*256) 256 (DV sd (IntKind.wrap .u8 ((n+x6:Nat):Int)))
def Nv (sd:Ad) (n:Nat):Nat->(Nat->Int)
 |0=>λ_=>0
 |x6+1=>N0 sd n x6 (Nv sd n x6)
def AB (n:Nat):(Nat->Int):=AR (Nv sd n 3)
def lP (n:Nat) (z_:(Nat->Int):=AB sd n):Con:=⟨[lb sd,vi (n:Int)],[],.ar .u16 768 z_,[]⟩
theorem KA (n:Nat) (h:sd.length<=100000000000000) (hn:n<=100):AO 148 (lP sd n):=by
 refine cy 0 func148 rfl ntmps148 λY V=> ?_;have Fp:sd.length<=9223372036854775807:=V.len 0 rfl;refine Ak [] 1 V λV=>Ao (Ak [] 1 V λV=>BK (AD (ι:=Nat×(Nat->Int)) Y V (λ(x6,o4_0)=>(3-x6,[(6,vi ((x6:Nat):Int))],[(0,uF o4_0)],(x6<=3)/\(o4_0=Nv sd n x6)/\True)) [0,1,4] [] 1 (0,λ_=>0) [(0,0)] ⟨Ac,rfl,aa⟩ ?_));rintro⟨x6,o4_0⟩ ac gs ws ⟨hx6,hq1,_⟩ V;refine Ak [] 1 V λV=>Ao (AH ((x6:Int)<3) V (λh1=> ?_) (λh1=> ?_))
 ·exact B6 (Ak [] 1 V λV=>Aw [(4,FA n x6 (n+x6)),(6,AS (Ve sd (IntKind.wrap .u8 ((n+x6:Nat):Int)) Au)),(7,AN x6 3)] [] 1 V λV=>Cn (Aw [(0,CF x6)] [6] 1 V λV=>Ae (Av Y V (x6+1,Ek o4_0 (x6*256) 256 (DV sd (IntKind.wrap .u8 ((n+x6:Nat):Int)))) [(0,0)] ⟨Ac,(Bp (st:=N0 _ _) hq1 rfl rfl),aa⟩)))
 ·have hT:=V;obtain rfl:3=x6:=by omega
  obtain rfl:=hq1.symm;have V:=hT;exact DF (Ak [] 1 V λV=>AU (BX (Ab _) V))
def IE (i x10:Nat):(Nat->Int)->(Nat->Int):=λo6_0=>Ek o6_0 (x10*256) 256 (Kl [sd,[(IntKind.wrap .u8 (i:Int)),(IntKind.wrap .u8 (x10:Int))]])
def HK (sd:Ad) (i:Nat):Nat->(Nat->Int)
 |0=>λ_=>0
 |x10+1=>IE sd i x10 (HK sd i x10)
def Be (i:Nat):(Nat->Int):=AR (HK sd i 3)
def Q1 (i:Nat) (z_:(Nat->Int):=Be sd i):Con:=⟨[lb sd,vi (i:Int),.v (.bool true)],[],.ar .u16 768 z_,[]⟩
theorem P7 (i:Nat) (h:sd.length=32) (hi:i<=100):AO 152 (Q1 sd i):=by
 refine cy 0 func152 rfl ntmps152 λY V=> ?_;have Fp:sd.length<=9223372036854775807:=V.len 0 rfl;refine Ak [] 1 V λV=>Ao (Ak [] 1 V λV=>BK (AD (ι:=Nat×(Nat->Int)) Y V (λ(x10,o6_0)=>(3-x10,[(10,vi ((x10:Nat):Int))],[(0,uF o6_0)],(x10<=3)/\(o6_0=HK sd i x10)/\True)) [0,1,2,6] [] 1 (0,λ_=>0) [(0,0)] ⟨Ac,rfl,aa⟩ ?_));rintro⟨x10,o6_0⟩ ac gs ws ⟨hx10,hq1,_⟩ V;refine Ak [] 1 V λV=>Ao (AH ((x10:Int)<3) V (λh1=> ?_) (λh1=> ?_))
 ·exact B6 (Ak [] 1 V λV=>Ak [] 1 V λV=>Ao (Ak [] 1 V λV=>AE V (CW [8,9] 1 V λV=>Ae (Aw [(4,AS (Pb sd (IntKind.wrap .u8 (i:Int)) (IntKind.wrap .u8 ((x10:Nat):Int)) (by first |omega|assumption))),(5,AN x10 3)] [] 1 V λV=>Cn (Aw [(0,CF x10)] [10] 1 V λV=>Ae (Av Y V (x10+1,Ek o6_0 (x10*256) 256 (Kl [sd,[(IntKind.wrap .u8 (i:Int)),(IntKind.wrap .u8 (x10:Int))]])) [(0,0)] ⟨Ac,(Bp (st:=IE _ _) hq1 rfl rfl),aa⟩))))))
 ·have hT:=V;obtain rfl:3=x10:=by omega
  obtain rfl:=hq1.symm;have V:=hT;exact DF (Ak [] 1 V λV=>AU (BX (Ab _) V))
def H_ (i x10:Nat):(Nat->Int)->(Nat->Int):=λo6_0=>Ek o6_0 (x10*256) 256 (Kl [sd,[(IntKind.wrap .u8 (x10:Int)),(IntKind.wrap .u8 (i:Int))]])
def G1 (sd:Ad) (i:Nat):Nat->(Nat->Int)
 |0=>λ_=>0
 |x10+1=>H_ sd i x10 (G1 sd i x10)
def Dw (i:Nat):(Nat->Int):=AR (G1 sd i 3)
def Qz (i:Nat) (z_:(Nat->Int):=Dw sd i):Con:=⟨[lb sd,vi (i:Int),.v (.bool false)],[],.ar .u16 768 z_,[]⟩
theorem N_ (i:Nat) (h:sd.length=32) (hi:i<=100):AO 152 (Qz sd i):=by
 refine cy 0 func152 rfl ntmps152 λY V=> ?_;have Fp:sd.length<=9223372036854775807:=V.len 0 rfl;refine Ak [] 1 V λV=>Ao (Ak [] 1 V λV=>BK (AD (ι:=Nat×(Nat->Int)) Y V (λ(x10,o6_0)=>(3-x10,[(10,vi ((x10:Nat):Int))],[(0,uF o6_0)],(x10<=3)/\(o6_0=G1 sd i x10)/\True)) [0,1,2,6] [] 1 (0,λ_=>0) [(0,0)] ⟨Ac,rfl,aa⟩ ?_));rintro⟨x10,o6_0⟩ ac gs ws ⟨hx10,hq1,_⟩ V;refine Ak [] 1 V λV=>Ao (AH ((x10:Int)<3) V (λh1=> ?_) (λh1=> ?_))
 ·exact B6 (Ak [] 1 V λV=>Ak [] 1 V λV=>Ao (Ak [] 1 V λV=>Ai V (BR (Aw [(4,AS (Pb sd (IntKind.wrap .u8 ((x10:Nat):Int)) (IntKind.wrap .u8 (i:Int)) (by first |omega|assumption))),(5,AN x10 3)] [] 1 V λV=>Cn (Aw [(0,CF x10)] [10] 1 V λV=>Ae (Av Y V (x10+1,Ek o6_0 (x10*256) 256 (Kl [sd,[(IntKind.wrap .u8 (x10:Int)),(IntKind.wrap .u8 (i:Int))]])) [(0,0)] ⟨Ac,(Bp (st:=H_ _ _) hq1 rfl rfl),aa⟩))))))
 ·have hT:=V;obtain rfl:3=x10:=by omega
  obtain rfl:=hq1.symm;have V:=hT;exact DF (Ak [] 1 V λV=>AU (BX (Ab _) V))
end
theorem jU {xs ys:Ad} (h:¬((xs.length:Nat):Int)=((ys.length:Nat):Int)):decide (xs=ys)=false:=decide_eq_false λe=>h (by rw[e])
theorem jT {xs ys:Ad} {i:Nat} (h:¬xs.getD i 0=ys.getD i 0):decide (xs=ys)=false:=decide_eq_false λe=>h (by rw[e])
theorem jS {xs ys:Ad} (hl:((xs.length:Nat):Int)=((ys.length:Nat):Int)) (h:∀j,j<xs.length->xs.getD j 0=ys.getD j 0):decide (xs=ys)=true:=decide_eq_true (by
 refine io Ac λi h1 h2=> ?_;have :=h i h1
 rwa [al,al,am h1,am h2]at this)
def SH (xs:Ad):Bool:=(List.range 3).all λi=>KS λj=>A9 xs (i*256+j)
theorem X4 {xs:Ad} {i:Nat} (hi:i<3) (h:KS (λj=>A9 xs (i*256+j))=false):SH xs=false:=by
 cases hb:SH xs with
 |false=>rfl
 |true=>
  have :=ax.1 hb i (el.2 hi);rw[h]at this;cases this
theorem JA {xs:Ad} (h:∀i,i<3->KS (λj=>A9 xs (i*256+j))=true):SH xs=true:=by unfold SH;rw[ax];exact λi hi=>h i (el.1 hi)
def chk (xs:Ad):Nat:=if xs.length=1184 then(if SH xs=true then 0 else 2)else 1
theorem Abu {xs:Ad} (h:¬((xs.length:Nat):Int)=1184):chk xs=1:=by unfold chk;rw[aj Ac]
theorem Abt {xs:Ad} (h:((xs.length:Nat):Int)=1184) (h2:SH xs=false):chk xs=2:=by unfold chk;rw[ab Ac,aj (by rw[h2];decide)]
theorem tZ {xs:Ad} (h:((xs.length:Nat):Int)=1184) (h2:SH xs=true):chk xs=0:=by unfold chk;rw[ab Ac,ab h2]
section
variable (xs:Ad)
def Fu:Nat:=if xs.length=2400 then(if SH xs=true then(if chk ((xs.take 2336).drop 1152)=0 then(if BZ [(xs.take 2336).drop 1152]=(xs.take 2368).drop 2336 then 0 else 2)else 2)else 2)else 1
theorem Zz (ys:Ad):AO 67 ⟨[lb xs,lb ys],[],.v (.bool (decide (xs=ys))),[]⟩:=by
 refine cy 0 func67 rfl ntmps67 λY V=> ?_;have Fp:xs.length<=9223372036854775807:=V.len 0 rfl;have Fo:ys.length<=9223372036854775807:=V.len 1 rfl;refine Ak [] 0 V λV=>Ao (Ak [] 0 V λV=>Ik (((xs.length:Nat):Int)=((ys.length:Nat):Int)) V (λh1=> ?_) (λh1=> ?_))
 ·exact Ak [] 0 V λV=>AU (Aj (Ej rfl (.inr rfl) V [.v (.bool false)] [] (by show weak _ (.v (.bool (decide (xs=ys))))= .v (.bool (decide (xs=ys)));rw[jU h1];rfl) aa))
 ·refine DZ (Ak [] 0 V λV=>BK (AD (ι:=Nat) Y V (λi=>(xs.length-i,[(13,vi ((i:Nat):Int))],[],(i<=xs.length)/\(∀j,j<i->xs.getD j 0=ys.getD j 0)/\True)) [0,1,12] [] 0 0 [] ⟨Ac,(λj h=>absurd h (bd j)),aa⟩ ?_));rintro i ac gs ws ⟨hi,pm,_⟩ V;refine Ak [] 0 V λV=>Ao (AH ((i:Int)<((xs.length:Nat):Int)) V (λh2=> ?_) (λh2=> ?_))
  ·refine B6 (Ak [] 0 V λV=>Ay [(2,AN i xs.length),(6,AN i ys.length)] [] 0 V λV=>Ik ((xs.getD i 0)=(ys.getD i 0)) V (λh3=> ?_) (λh3=> ?_))
   ·exact Ak [] 0 V λV=>AU (As (Aj (Aj (As (Aj (Ej rfl (.inr rfl) V [.v (.bool false)] [] (by show weak _ (.v (.bool (decide (xs=ys))))= .v (.bool (decide (xs=ys)));rw[jT h3];rfl) aa))))))
   ·exact GT (Aw [(0,CF i)] [13] 0 V λV=>Ae (Av Y V (i+1) [] ⟨Ac,(Bf pm A3),aa⟩))
  ·have hT:=V;obtain rfl:xs.length=i:=by omega
   have V:=hT;exact DF (Ak [] 0 V λV=>AU (Ej rfl (.inr rfl) V [.v (.bool true)] [] (by show weak _ (.v (.bool (decide (xs=ys))))= .v (.bool (decide (xs=ys)));rw[jS h1 pm];rfl) aa))
theorem EW (ys:Ad):AO 37 ⟨[lb xs,lb ys],[],.v (.bool (decide (xs=ys))),[]⟩:=by exact cy 0 func37 rfl ntmps37 λY V=>Ak [] 0 V λV=>Ay [(2,AS (Zz xs ys))] [] 0 V λV=>AU (BN V)
end
theorem uC {b:Bool} (h:(!b)=true):b=false:=by cases b<;>simp_all
theorem uB {b:Bool} (h:(!b)=false):b=true:=by cases b<;>simp_all
theorem J7 (ek:Ad):AO 172 ⟨[lb ek],[],vi ((chk ek:Nat):Int),[]⟩:=by
 refine cy 0 func172 rfl ntmps172 λY V=>Ak [] 0 V λV=>Ao (Ak [] 0 V λV=>Ik (((ek.length:Nat):Int)=1184) V (λh1=> ?_) (λh1=> ?_))
 ·exact Ak [] 0 V λV=>AU (Aj (Ej rfl (.inr rfl) V [vi 1] [] (by show weak _ (vi ((chk ek:Nat):Int))=vi ((chk ek:Nat):Int);rw[Abu h1];rfl) aa))
 ·refine DZ (Ay [(1,AS (Mc ek Au))] [] 0 V λV=>BK (AD (ι:=Nat) Y V (λi=>(3-i,[(10,vi ((i:Nat):Int))],[],(i<=3)/\(∀j,j<i->KS (λt=>A9 ek (j*256+t))=true)/\True)) [9] [] 0 0 [] ⟨Ac,(λj h=>absurd h (bd j)),aa⟩ ?_));rintro i ac gs ws ⟨hi,pm,_⟩ V;refine Ak [] 0 V λV=>Ao (AH ((i:Int)<3) V (λh2=> ?_) (λh2=> ?_))
  ·refine B6 (Ay [(0,AN i 3)] [4] 1 V λV=>Ay [(0,HU (.ar .u16 256 (λj=>(A9 ek) (i*256+j))) [(.ar .u16 256 (λj=>(A9 ek) (i*256+j)):D)=(.ar .u16 256 (λj=>(A9 ek) (i*256+j)))] ⟨rfl,aa⟩),(1,AS (gG (λj=>(A9 ek) (i*256+j))))] [] 1 V λV=>Qe (!(KS (λj=>(A9 ek) (i*256+j)))) V (λh3=> ?_) (λh3=> ?_))
   ·exact Ak [] 1 V λV=>AU (As (Aj (Aj (As (Aj (Ej rfl (.inr rfl) V [vi 2] [] (by show weak _ (vi ((chk ek:Nat):Int))=vi ((chk ek:Nat):Int);rw[Abt h1 (X4 Ac (uC h3))];rfl) aa))))))
   ·exact GT (Aw [(0,CF i)] [10] 1 V λV=>Ae (Av Y V (i+1) [] ⟨Ac,(Bf pm (uB A3)),aa⟩))
  ·have hT:=V;obtain rfl:3=i:=by omega
   have V:=hT;exact DF (Ak [] 0 V λV=>AU (Ej rfl (.inr rfl) V [vi 0] [] (by show weak _ (vi ((chk ek:Nat):Int))=vi ((chk ek:Nat):Int);rw[tZ h1 (JA pm)];rfl) aa))
theorem Xe (dk:Ad):AO 168 ⟨[lb dk],[],vi ((Fu dk:Nat):Int),[]⟩:=by
 refine cy 0 func168 rfl ntmps168 λY V=>Ak [] 0 V λV=>Ao (Ak [] 0 V λV=>Ik (((dk.length:Nat):Int)=2400) V (λh1=> ?_) (λh1=> ?_))
 ·exact Ak [] 0 V λV=>AU (Aj (Ej rfl (.inr rfl) V [vi 1] [] (by show weak _ (vi ((Fu dk:Nat):Int))=vi ((Fu dk:Nat):Int);unfold Fu;rw[aj Ac];rfl) aa))
 ·refine DZ (Ay [(1,AS (Mc dk Au))] [] 0 V λV=>BK (AD (ι:=Nat) Y V (λi=>(3-i,[(10,vi ((i:Nat):Int))],[],(i<=3)/\(∀j,j<i->KS (λt=>A9 dk (j*256+t))=true)/\True)) [0,9] [] 0 0 [] ⟨Ac,(λj h=>absurd h (bd j)),aa⟩ ?_));rintro i ac gs ws ⟨hi,pm,_⟩ V;refine Ak [] 0 V λV=>Ao (AH ((i:Int)<3) V (λh2=> ?_) (λh2=> ?_))
  ·refine B6 (Ay [(0,AN i 3)] [4] 1 V λV=>Ay [(0,HU (.ar .u16 256 (λj=>(A9 dk) (i*256+j))) [(.ar .u16 256 (λj=>(A9 dk) (i*256+j)):D)=(.ar .u16 256 (λj=>(A9 dk) (i*256+j)))] ⟨rfl,aa⟩),(1,AS (gG (λj=>(A9 dk) (i*256+j))))] [] 1 V λV=>Qe (!(KS (λj=>(A9 dk) (i*256+j)))) V (λh3=> ?_) (λh3=> ?_))
   ·exact Ak [] 1 V λV=>AU (As (Aj (Aj (As (Aj (Ej rfl (.inr rfl) V [vi 2] [] (by show weak _ (vi ((Fu dk:Nat):Int))=vi ((Fu dk:Nat):Int);unfold Fu;rw[ab Ac,aj (by rw[X4 Ac (uC h3)];decide)];rfl) aa))))))
   ·exact GT (Aw [(0,CF i)] [10] 1 V λV=>Ae (Av Y V (i+1) [] ⟨Ac,(Bf pm (uB A3)),aa⟩))
  ·have hT:=V;obtain rfl:3=i:=by omega
   have V:=hT;refine I8 (Ao ?_);by_cases h4:((chk ((dk.take 2336).drop 1152):Nat):Int)=0
   ·refine Aw [(1,zN 1152 2336 dk.length),(2,AS (J7 ((dk.take 2336).drop 1152))),(3,Gd h4),(6,zN 1152 2336 dk.length),(8,AS (Ko [(dk.take 2336).drop 1152] (by first |omega|(simp only[bc,cd,ah,aw,av,ao,au,az]<;>omega)|(simp<;>omega)))),(10,zN 2336 2368 dk.length),(11,AS (EW (BZ [(dk.take 2336).drop 1152]) ((dk.take 2368).drop 2336)))] [] 0 V λV=>Ae (Ik ((BZ [(dk.take 2336).drop 1152])=((dk.take 2368).drop 2336)) V (λh5=> ?_) (λh5=> ?_))
    ·exact Ak [] 0 V λV=>AU (Aj (Ej rfl (.inr rfl) V [vi 2] [] (by show weak _ (vi ((Fu dk:Nat):Int))=vi ((Fu dk:Nat):Int);unfold Fu;rw[ab Ac,ab (JA pm),ab Ac,aj h5];rfl) aa))
    ·exact BR (Ak [] 0 V λV=>AU (Ej rfl (.inr rfl) V [vi 0] [] (by show weak _ (vi ((Fu dk:Nat):Int))=vi ((Fu dk:Nat):Int);unfold Fu;rw[ab Ac,ab (JA pm),ab Ac,ab h5];rfl) aa))
   ·exact Aw [(1,zN 1152 2336 dk.length),(2,AS (J7 ((dk.take 2336).drop 1152))),(3,bN h4)] [] 0 V λV=>Ae (AE V (Ak [] 0 V λV=>AU (Aj (Ej rfl (.inr rfl) V [vi 2] [] (by show weak _ (vi ((Fu dk:Nat):Int))=vi ((Fu dk:Nat):Int);unfold Fu;rw[ab Ac,ab (JA pm),aj Ac];rfl) aa))))
@[simp] theorem HC (f:Nat->Int):(C1 f).length=1152:=by
 have key:∀i,(DK f i).length=384*i:=by
  intro i
  induction i with
  |zero=>rfl
  |succ i ih=>
   show(H7 f i (DK f i)).length=_;unfold H7;rw[ah,Hd,ih];omega
 unfold C1;rw[Ab];exact key 3
theorem YV {xs:Ad} (h:chk xs=0):xs.length=1184:=by
 by_cases e:xs.length=1184
 ·exact e
 ·unfold chk at h;rw[aj e]at h;exact absurd h (by decide)
theorem aU {xs:Ad} (h:Fu xs=0):xs.length=2400:=by
 by_cases e:xs.length=2400
 ·exact e
 ·unfold Fu at h;rw[aj e]at h;exact absurd h (by decide)
def R0 (d:Ad) (x35:Nat):(Nat->Int)->(Nat->Int):=λo11_0=>Ek o11_0 (x35*256) 256 (BD (λj=>o11_0 (x35*256+j)) (Cb (Dw ((AJ [d,[3]]).take 32) x35) (AF (AB ((AJ [d,[3]]).drop 32) 0))))
def DC (d z:Ad):Nat->(Nat->Int)
 |0=>AF (AB ((AJ [d,[3]]).drop 32) 3)
 |x35+1=>R0 d x35 (DC d z x35)
def AK (d z:Ad):Ad×Ad:=AR (([C1 (DC d z 3),(AJ [d,[3]]).take 32].flatten,[C1 (AF (AB ((AJ [d,[3]]).drop 32) 0)),[C1 (DC d z 3),(AJ [d,[3]]).take 32].flatten,BZ [[C1 (DC d z 3),(AJ [d,[3]]).take 32].flatten],z].flatten))
theorem GQ (d z:Ad) (hz:z.length=32):(AK d z).1.length=1184/\(AK d z).2.length=2400:=by have h1:=ES [d,[3]];unfold AK;rw[Ab];simp only[bc,cd,ah,av,HC,Le,ao,h1,hz];exact⟨by omega,by omega⟩
section
variable (d z:Ad)
def yW (z_:Ad×Ad:=AK d z):Con:=⟨[lb d,lb z],[],.tu (Ag [lb (z_.1),.sk 0,vi 0]),[(0,.sl 5 Bb (z_.2))]⟩
theorem Tn (hd:d.length=32) (hz:z.length=32):AO 115 (yW d z):=by
 refine cy 0 func115 rfl ntmps115 λY V=> ?_;have Fp:d.length<=9223372036854775807:=V.len 0 rfl;have Fo:z.length<=9223372036854775807:=V.len 1 rfl;have hd1:((d.length:Nat):Int)=32:=Ac;have hz1:((z.length:Nat):Int)=32:=Ac;refine Ak [] 0 V λV=>Ao (Ay [(2,Gd hd1),(6,Gd hz1)] [] 0 V λV=>Ai V (BR (Ay [(3,AS (Kn [d,[3]] (by first |omega|(simp only[bc,cd,ah,aw,av,ao,au,az]<;>omega)|(simp<;>omega))))] [] 0 V λV=>Ao ?_)));have hl:=ES [d,[3]];refine Aw [(1,Zi 32 (AJ [d,[3]]).length),(3,NJ 32 (AJ [d,[3]]).length)] [] 0 V λV=>Ae (Ay [(1,AS (KA ((AJ [d,[3]]).drop 32) 0 Au Ac)),(2,Jp (J3 (AB ((AJ [d,[3]]).drop 32) 0)) [] [] [.ar .u16 768 (AB ((AJ [d,[3]]).drop 32) 0),.v (.func (.func 150) #[] #[])] [])] [10] 1 V λV=>Ay [(1,AS (KA ((AJ [d,[3]]).drop 32) 3 Au Ac)),(2,Jp (J3 (AB ((AJ [d,[3]]).drop 32) 3)) [] [] [.ar .u16 768 (AB ((AJ [d,[3]]).drop 32) 3),.v (.func (.func 150) #[] #[])] [])] [11] 2 V λV=>Ao (Ak [] 2 V λV=>BK (AD (ι:=Nat×(Nat->Int)) Y V (λ(x35,o11_0)=>(3-x35,[(35,vi ((x35:Nat):Int))],[(1,uF o11_0)],(x35<=3)/\(o11_0=DC d z x35)/\True)) [1,4,5,6,8,10,11] [0] 2 (0,AF (AB ((AJ [d,[3]]).drop 32) 3)) [(0,0),(1,1)] ⟨Ac,rfl,aa⟩ ?_)));rintro⟨x35,o11_0⟩ ac gs ws ⟨hx35,hq1,_⟩ V;refine Ak [] 2 V λV=>Ao (AH ((x35:Int)<3) V (λh1=> ?_) (λh1=> ?_))
 ·exact B6 (Ak [] 2 V λV=>Aw [(2,AN x35 3),(3,HU (.ar .u16 256 (λj=>o11_0 (x35*256+j))) [(.ar .u16 256 (λj=>o11_0 (x35*256+j)):D)=(.ar .u16 256 (λj=>o11_0 (x35*256+j)))] ⟨rfl,aa⟩),(6,AS (N_ ((AJ [d,[3]]).take 32) x35 Au Ac)),(7,HU (.ar .u16 768 (AF (AB ((AJ [d,[3]]).drop 32) 0))) [(.ar .u16 768 (AF (AB ((AJ [d,[3]]).drop 32) 0)):D)=(.ar .u16 768 (AF (AB ((AJ [d,[3]]).drop 32) 0)))] ⟨rfl,aa⟩),(8,Jp (TH (Dw ((AJ [d,[3]]).take 32) x35) (AF (AB ((AJ [d,[3]]).drop 32) 0))) [] [] [.ar .u16 768 (Dw ((AJ [d,[3]]).take 32) x35),.ar .u16 768 (AF (AB ((AJ [d,[3]]).drop 32) 0))] []),(9,Jp (Jg (λj=>o11_0 (x35*256+j)) (Cb (Dw ((AJ [d,[3]]).take 32) x35) (AF (AB ((AJ [d,[3]]).drop 32) 0)))) [] [] [.ar .u16 256 (λj=>o11_0 (x35*256+j)),.ar .u16 256 (Cb (Dw ((AJ [d,[3]]).take 32) x35) (AF (AB ((AJ [d,[3]]).drop 32) 0)))] []),(10,AN x35 3)] [] 2 V λV=>Cn (Aw [(0,CF x35)] [35] 2 V λV=>Ae (Av Y V (x35+1,Ek o11_0 (x35*256) 256 (BD (λj=>o11_0 (x35*256+j)) (Cb (Dw ((AJ [d,[3]]).take 32) x35) (AF (AB ((AJ [d,[3]]).drop 32) 0))))) [(0,0),(1,1)] ⟨Ac,(Bp (st:=R0 _) hq1 rfl rfl),aa⟩)))
 ·have hT:=V;obtain rfl:3=x35:=by omega
  obtain rfl:=hq1.symm;have V:=hT;refine I8 ?_;have hb:=HC (DC d z 3);refine Aw [(0,HU (.ar .u16 768 (DC d z 3)) [(.ar .u16 768 (DC d z 3):D)=(.ar .u16 768 (DC d z 3))] ⟨rfl,aa⟩),(1,AS (RE (DC d z 3))),(4,AC (Qv [C1 (DC d z 3),(AJ [d,[3]]).take 32] (by first |omega|(simp only[bc,cd,ah,aw,av,ao,au,az]<;>omega)|(simp<;>omega))) [] [(0,2)])] [] 3 V λV=>CV ?_;have hb2:=HC (AF (AB ((AJ [d,[3]]).drop 32) 0));obtain⟨gs,V⟩:=V.fz 2;refine Aw [(1,HU (.ar .u16 768 (AF (AB ((AJ [d,[3]]).drop 32) 0))) [(.ar .u16 768 (AF (AB ((AJ [d,[3]]).drop 32) 0)):D)=(.ar .u16 768 (AF (AB ((AJ [d,[3]]).drop 32) 0)))] ⟨rfl,aa⟩),(2,AS (RE (AF (AB ((AJ [d,[3]]).drop 32) 0)))),(6,AS (Ko [[C1 (DC d z 3),(AJ [d,[3]]).take 32].flatten] (by first |omega|(simp only[bc,cd,ah,aw,av,ao,au,az]<;>omega)|(simp<;>omega)))),(9,AC (Qv [C1 (AF (AB ((AJ [d,[3]]).drop 32) 0)),[C1 (DC d z 3),(AJ [d,[3]]).take 32].flatten,BZ [[C1 (DC d z 3),(AJ [d,[3]]).take 32].flatten],z] (by first |omega|(simp only[bc,cd,ah,aw,av,ao,au,az]<;>omega)|(simp<;>omega))) [] [(0,3)])] [4] 4 V λV=>Fa ?_;obtain⟨gs,V⟩:=V.rx [(0,3)] [4,5,6] [0] 1 Y;exact BX (Ab _) V
end
def Hb (ek r:Ad) (x31:Nat):Ad->Ad:=λx6=>x6++(HD (Dn (BD (λj=>(AB r 3) (x31*256+j)) (AY (Cb (Be (ek.drop 1152) x31) (AF (AB r 0))))) 10) 10)
def Gv (ek r:Ad):Nat->Ad
 |0=>[]
 |x31+1=>Hb ek r x31 (Gv ek r x31)
def EC (ek m r:Ad):Ad:=AR ((Gv ek r 3)++(HD (Dn (BD (BD (AY (Cb (A9 ek) (AF (AB r 0)))) (DV r 6)) (Ce (BP 1 m) 1)) 4) 4))
@[simp] theorem VE (ek m r:Ad):(EC ek m r).length=1088:=by
 have key:∀i,(Gv ek r i).length=320*i:=by
  intro i
  induction i with
  |zero=>rfl
  |succ i ih=>
   show(Hb ek r i (Gv ek r i)).length=_;unfold Hb;rw[ah,JG,ih];omega
 unfold EC;rw[Ab];rw[ah,JG,key]
section
variable (ek m:Ad)
def bE (r:Ad) (z_:Ad:=EC ek m r):Con:=⟨[lb ek,lb m,lb r],[],.sk 0,[(0,.sl 5 Bb z_)]⟩
theorem LA (r:Ad) (he:ek.length=1184) (hm:m.length=32) (hr:r.length=32):AO 170 (bE ek m r):=by
 refine cy 0 func170 rfl ntmps170 λY V=> ?_;have Fp:ek.length<=9223372036854775807:=V.len 0 rfl;have Fo:m.length<=9223372036854775807:=V.len 1 rfl;have EK:r.length<=9223372036854775807:=V.len 2 rfl;refine Ak [] 0 V λV=>Ay [(1,AS (Mc ek Au)),(3,NJ 1152 ek.length)] [7] 1 V λV=>Ay [(1,AS (KA r 0 Au Ac)),(2,Jp (J3 (AB r 0)) [] [] [.ar .u16 768 (AB r 0),.v (.func (.func 150) #[] #[])] [])] [9] 2 V λV=>Ay [(1,AS (KA r 3 Au Ac))] [10] 3 V λV=>Ao (Ak [] 3 V λV=>BK ?_);obtain⟨gs,V⟩:=V.nilk 6 5 Bb;refine AD (ι:=Nat×Ad) Y V (λ(x31,x6)=>(3-x31,[(31,vi ((x31:Nat):Int))],[(3,.sl 5 Bb x6)],(x31<=3)/\(x6=Gv ek r x31)/\(x6.length=320*x31)/\True)) [1,2,6,7,8,9,30] [0,1] 4 (0,[]) [(0,0),(1,1),(3,3)] ⟨Ac,rfl,rfl,aa⟩ ?_;rintro⟨x31,x6⟩ ac gs ws ⟨hx31,hq1,p1,_⟩ V;refine Ak [] 4 V λV=>Ao (AH ((x31:Int)<3) V (λh1=> ?_) (λh1=> ?_))
 ·refine B6 (Ay [(1,AN x31 3)] [12] 5 V λV=>Ay [(0,HU (.ar .u16 256 (λj=>(AB r 3) (x31*256+j))) [(.ar .u16 256 (λj=>(AB r 3) (x31*256+j)):D)=(.ar .u16 256 (λj=>(AB r 3) (x31*256+j)))] ⟨rfl,aa⟩),(3,AS (P7 (ek.drop 1152) x31 Au Ac)),(4,HU (.ar .u16 768 (AF (AB r 0))) [(.ar .u16 768 (AF (AB r 0)):D)=(.ar .u16 768 (AF (AB r 0)))] ⟨rfl,aa⟩),(5,Jp (TH (Be (ek.drop 1152) x31) (AF (AB r 0))) [] [] [.ar .u16 768 (Be (ek.drop 1152) x31),.ar .u16 768 (AF (AB r 0))] []),(6,AS (Lk (Cb (Be (ek.drop 1152) x31) (AF (AB r 0))))),(7,Jp (Jg (λj=>(AB r 3) (x31*256+j)) (AY (Cb (Be (ek.drop 1152) x31) (AF (AB r 0))))) [] [] [.ar .u16 256 (λj=>(AB r 3) (x31*256+j)),.ar .u16 256 (AY (Cb (Be (ek.drop 1152) x31) (AF (AB r 0))))] [])] [] 5 V λV=>Ay [(0,HU (.ar .u16 256 (BD (λj=>(AB r 3) (x31*256+j)) (AY (Cb (Be (ek.drop 1152) x31) (AF (AB r 0)))))) [(.ar .u16 256 (BD (λj=>(AB r 3) (x31*256+j)) (AY (Cb (Be (ek.drop 1152) x31) (AF (AB r 0))))):D)=(.ar .u16 256 (BD (λj=>(AB r 3) (x31*256+j)) (AY (Cb (Be (ek.drop 1152) x31) (AF (AB r 0))))))] ⟨rfl,aa⟩),(1,Jp (S3 (BD (λj=>(AB r 3) (x31*256+j)) (AY (Cb (Be (ek.drop 1152) x31) (AF (AB r 0))))) 10 Ac) [] [] [.ar .u16 256 (BD (λj=>(AB r 3) (x31*256+j)) (AY (Cb (Be (ek.drop 1152) x31) (AF (AB r 0))))),vi 10] [])] [] 5 V λV=>Ay [(0,HU (.ar .u16 256 (Dn (BD (λj=>(AB r 3) (x31*256+j)) (AY (Cb (Be (ek.drop 1152) x31) (AF (AB r 0))))) 10)) [(.ar .u16 256 (Dn (BD (λj=>(AB r 3) (x31*256+j)) (AY (Cb (Be (ek.drop 1152) x31) (AF (AB r 0))))) 10):D)=(.ar .u16 256 (Dn (BD (λj=>(AB r 3) (x31*256+j)) (AY (Cb (Be (ek.drop 1152) x31) (AF (AB r 0))))) 10))] ⟨rfl,aa⟩),(1,Jp (S2 (Dn (BD (λj=>(AB r 3) (x31*256+j)) (AY (Cb (Be (ek.drop 1152) x31) (AF (AB r 0))))) 10) 10 Ac) [] [(0,5)] [.ar .u16 256 (Dn (BD (λj=>(AB r 3) (x31*256+j)) (AY (Cb (Be (ek.drop 1152) x31) (AF (AB r 0))))) 10),vi 10] [])] [] 6 V λV=> ?_);have hl:(HD (Dn (BD (λj=>(AB r 3) (x31*256+j)) (AY (Cb (Be (ek.drop 1152) x31) (AF (AB r 0))))) 10) 10).length=320:=JG _ _;exact Aw [(2,GJ x6.length ((HD (Dn (BD (λj=>(AB r 3) (x31*256+j)) (AY (Cb (Be (ek.drop 1152) x31) (AF (AB r 0))))) 10) 10).length) 1 Ac)] [6] 7 V λV=>Cn (Aw [(0,CF x31)] [31] 7 V λV=>Ae (Av Y V (x31+1,x6++(HD (Dn (BD (λj=>(AB r 3) (x31*256+j)) (AY (Cb (Be (ek.drop 1152) x31) (AF (AB r 0))))) 10) 10)) [(0,0),(1,1),(3,6)] ⟨Ac,(Bp (st:=Hb _ _) hq1 rfl rfl),(by rw[ah,hl];omega),aa⟩))
 ·have hT:=V;obtain rfl:3=x31:=by omega
  obtain rfl:=hq1.symm;have V:=hT;refine DF (Ay [(1,AS (SQ 1 m Ac (by first |omega|(simp only[ah,au,ao,aw,av];omega)))),(2,Jp (SX (BP 1 m) 1 Ac) [] [] [.ar .u16 256 (BP 1 m),vi 1] [])] [15] 5 V λV=>Ay [(0,HU (.ar .u16 768 (A9 ek)) [(.ar .u16 768 (A9 ek):D)=(.ar .u16 768 (A9 ek))] ⟨rfl,aa⟩),(1,HU (.ar .u16 768 (AF (AB r 0))) [(.ar .u16 768 (AF (AB r 0)):D)=(.ar .u16 768 (AF (AB r 0)))] ⟨rfl,aa⟩),(2,Jp (TH (A9 ek) (AF (AB r 0))) [] [] [.ar .u16 768 (A9 ek),.ar .u16 768 (AF (AB r 0))] []),(3,AS (Lk (Cb (A9 ek) (AF (AB r 0))))),(5,AS (Ve r 6 Au)),(6,Jp (Jg (AY (Cb (A9 ek) (AF (AB r 0)))) (DV r 6)) [] [] [.ar .u16 256 (AY (Cb (A9 ek) (AF (AB r 0)))),.ar .u16 256 (DV r 6)] []),(7,HU (.ar .u16 256 (Ce (BP 1 m) 1)) [(.ar .u16 256 (Ce (BP 1 m) 1):D)=(.ar .u16 256 (Ce (BP 1 m) 1))] ⟨rfl,aa⟩),(8,Jp (Jg (BD (AY (Cb (A9 ek) (AF (AB r 0)))) (DV r 6)) (Ce (BP 1 m) 1)) [] [] [.ar .u16 256 (BD (AY (Cb (A9 ek) (AF (AB r 0)))) (DV r 6)),.ar .u16 256 (Ce (BP 1 m) 1)] []),(9,Jp (S3 (BD (BD (AY (Cb (A9 ek) (AF (AB r 0)))) (DV r 6)) (Ce (BP 1 m) 1)) 4 Ac) [] [] [.ar .u16 256 (BD (BD (AY (Cb (A9 ek) (AF (AB r 0)))) (DV r 6)) (Ce (BP 1 m) 1)),vi 4] [])] [17] 6 V λV=>Ay [(0,HU (.ar .u16 256 (Dn (BD (BD (AY (Cb (A9 ek) (AF (AB r 0)))) (DV r 6)) (Ce (BP 1 m) 1)) 4)) [(.ar .u16 256 (Dn (BD (BD (AY (Cb (A9 ek) (AF (AB r 0)))) (DV r 6)) (Ce (BP 1 m) 1)) 4):D)=(.ar .u16 256 (Dn (BD (BD (AY (Cb (A9 ek) (AF (AB r 0)))) (DV r 6)) (Ce (BP 1 m) 1)) 4))] ⟨rfl,aa⟩),(1,Jp (S2 (Dn (BD (BD (AY (Cb (A9 ek) (AF (AB r 0)))) (DV r 6)) (Ce (BP 1 m) 1)) 4) 4 Ac) [] [(0,6)] [.ar .u16 256 (Dn (BD (BD (AY (Cb (A9 ek) (AF (AB r 0)))) (DV r 6)) (Ce (BP 1 m) 1)) 4),vi 4] [])] [] 7 V λV=>Ao ?_);have hl4:(HD (Dn (BD (BD (AY (Cb (A9 ek) (AF (AB r 0)))) (DV r 6)) (Ce (BP 1 m) 1)) 4) 4).length=128:=JG _ _;refine Aw [(2,GJ ((Gv ek r 3).length) ((HD (Dn (BD (BD (AY (Cb (A9 ek) (AF (AB r 0)))) (DV r 6)) (Ce (BP 1 m) 1)) 4) 4).length) 1 Ac)] [6] 8 V λV=>Fa ?_;obtain⟨gs,V⟩:=V.rx [(0,7)] [6] [0] 1 Y;exact BX (Ab _) V
def jW:Ad×Ad×Nat:=AR (if((chk ek:Nat):Int)=0 then(if((m.length:Nat):Int)=32 then((AJ [m,BZ [ek]]).take 32,EC ek m ((AJ [m,BZ [ek]]).drop 32),0)else([],[],1))else([],[],(chk ek)))
def lV (z_:Ad×Ad×Nat:=jW ek m):Con:=⟨[lb ek,lb m],[],.tu (Ag [lb (z_.1),.sk 0,vi ((z_.2.2:Nat):Int)]),[(0,.sl 5 Bb (z_.2.1))]⟩
theorem Aaa:AO 144 (lV ek m):=by
 refine cy 0 func144 rfl ntmps144 λY V=> ?_;have Fp:ek.length<=9223372036854775807:=V.len 0 rfl;have Fo:m.length<=9223372036854775807:=V.len 1 rfl;refine Ak [] 0 V λV=>Ao (Ay [(1,AS (J7 ek))] [] 0 V λV=>Ak [] 0 V λV=>Ik (((chk ek:Nat):Int)=0) V (λh1=> ?_) (λh1=> ?_))
 ·refine Ak [] 0 V λV=>AU (Aj ?_);obtain⟨gs,V⟩:=V.nilk 5 5 Bb;have V:=V.wk 4 (lb []);exact BX (.trans (Ab _) (aj h1)) V
 ·refine DZ (Ak [] 0 V λV=>Ik (((m.length:Nat):Int)=32) V (λh2=> ?_) (λh2=> ?_))
  ·refine Ak [] 0 V λV=>AU (Aj ?_);obtain⟨gs,V⟩:=V.nilk 5 5 Bb;have V:=V.wk 4 (lb []);exact BX (.trans (Ab _) ((ab h1).trans (aj h2))) V
  ·refine DZ ?_;have hc:=YV (xs:=ek) Ac;have hs:=Le [ek];refine Aw [(3,AS (Ko [ek] (by first |omega|(simp only[bc,cd,ah,aw,av,ao,au,az]<;>omega)|(simp<;>omega)))),(5,AS (Kn [m,BZ [ek]] (by first |omega|(simp only[bc,cd,ah,aw,av,ao,au,az]<;>omega)|(simp<;>omega))))] [] 0 V λV=>CV ?_;have hl:=ES [m,BZ [ek]];exact Aw [(1,OZ (FG none (some 32) (some 32) (AJ [m,BZ [ek]]).length (AJ [m,BZ [ek]]).length) ⟨by simp only[Gq]<;>omega,by simp only[Gq]<;>omega,by simp only[Gq]<;>omega,by simp,by simp only[bl]<;>omega,by simp only[bl]<;>omega,by simp only[bl]<;>omega⟩),(5,NJ 32 (AJ [m,BZ [ek]]).length),(6,AC (LA ek m ((AJ [m,BZ [ek]]).drop 32) Au Au Au) [] [(0,0)])] [] 1 V λV=>Fa (BX (.trans (Ab _) ((ab h1).trans (ab h2))) V)
def EE:Ad×Ad:=AR (((AJ [m,BZ [ek]]).take 32,EC ek m ((AJ [m,BZ [ek]]).drop 32)))
def bF (z_:Ad×Ad:=EE ek m):Con:=⟨[lb ek,lb m],[],.tu (Ag [lb (z_.1),.sk 0,vi 0]),[(0,.sl 5 Bb (z_.2))]⟩
theorem WZ (hk:chk ek=0) (hm:m.length=32):AO 144 (bF ek m):=by refine cy 0 func144 rfl ntmps144 λY V=> ?_;have Fp:ek.length<=9223372036854775807:=V.len 0 rfl;have Fo:m.length<=9223372036854775807:=V.len 1 rfl;have hk1:((chk ek:Nat):Int)=0:=Ac;have hm1:((m.length:Nat):Int)=32:=Ac;refine Ak [] 0 V λV=>Ao (Ay [(1,AS (J7 ek))] [] 0 V λV=>Ay [(1,Gd hk1)] [] 0 V λV=>Ai V (DZ (Ay [(2,Gd hm1)] [] 0 V λV=>Ai V (DZ ?_))));have hc:=YV (xs:=ek) Ac;have hs:=Le [ek];refine Aw [(3,AS (Ko [ek] (by first |omega|(simp only[bc,cd,ah,aw,av,ao,au,az]<;>omega)|(simp<;>omega)))),(5,AS (Kn [m,BZ [ek]] (by first |omega|(simp only[bc,cd,ah,aw,av,ao,au,az]<;>omega)|(simp<;>omega))))] [] 0 V λV=>CV ?_;have hl:=ES [m,BZ [ek]];exact Aw [(1,OZ (FG none (some 32) (some 32) (AJ [m,BZ [ek]]).length (AJ [m,BZ [ek]]).length) ⟨by simp only[Gq]<;>omega,by simp only[Gq]<;>omega,by simp only[Gq]<;>omega,by simp,by simp only[bl]<;>omega,by simp only[bl]<;>omega,by simp only[bl]<;>omega⟩),(5,NJ 32 (AJ [m,BZ [ek]]).length),(6,AC (LA ek m ((AJ [m,BZ [ek]]).drop 32) Au Au Au) [] [(0,0)])] [] 1 V λV=>Fa (BX (Ab _) V)
end
end
end Go.Sx.Tryz
namespace Go.Sx
open Go.Mi Go.RowKit
theorem Gg (x:Int):IntKind.wrap .u16 x=x%65536:=by simp [IntKind.wrap,IntKind.bits,IntKind.signed]
theorem fY {a:Int} (ha:0<=a/\a<256):(BitVec.ofInt 8 a).toNat=a.toNat:=by rw[fe];omega
theorem fZ {a:Int} (ha:0<=a/\a<65536):(BitVec.ofInt 16 a).toNat=a.toNat:=by rw[fe];omega
theorem Aca {a b:Int} (ha:0<=a/\a<256) (hb:0<=b/\b<256):Ew .u8 a b=((a.toNat|||b.toNat:Nat):Int):=by have h:a.toNat|||b.toNat<2^8:=ic (by omega) (by omega);unfold Ew;rw[FQ];show(((BitVec.ofInt 8 a|||BitVec.ofInt 8 b).toNat:Nat):Int)%256=_;rw[BitVec.toNat_or,fY ha,fY hb];omega
theorem AbK {a b:Int} (ha:0<=a/\a<65536) (hb:0<=b/\b<65536):Ew .u16 a b=((a.toNat|||b.toNat:Nat):Int):=by have h:a.toNat|||b.toNat<2^16:=ic (by omega) (by omega);unfold Ew;rw[Gg];show(((BitVec.ofInt 16 a|||BitVec.ofInt 16 b).toNat:Nat):Int)%65536=_;rw[BitVec.toNat_or,fZ ha,fZ hb];omega
theorem Ql {a:Int} (ha:0<=a) (n:Nat):a.fdiv (2^n)=((a.toNat>>>n:Nat):Int):=by obtain⟨m,rfl⟩:=cb ha;rw[Int.fdiv_eq_ediv_of_nonneg _ (Int.pow_nonneg (by decide)),show(2:Int)^n=((2^n:Nat):Int) by simp,ef];rfl
theorem Aai {a:Int} (ha:0<=a) {n:Nat} (hn:n<=8):Bi .u8 a ((n:Nat):Int)=((a.toNat>>>n:Nat):Int):=by unfold Bi;rw[show min ((n:Nat):Int).toNat (IntKind.bits .u8)=n by simp [IntKind.bits];omega,Ql ha]
theorem Aak {a:Int} (ha:0<=a) {n:Nat} (hn:n<=16):Bi .u16 a ((n:Nat):Int)=((a.toNat>>>n:Nat):Int):=by unfold Bi;rw[show min ((n:Nat):Int).toNat (IntKind.bits .u16)=n by simp [IntKind.bits];omega,Ql ha]
theorem mH (x n:Nat):x>>>n%2=(x.testBit n).toNat:=by
 rw[Nat.testBit_eq_decide_div_mod_eq,ef];rcases Nat.mod_two_eq_zero_or_one (x/2^n)with h|h<;>simp [h]
theorem Aa3 {x:Int} (hx:0<=x/\x<65536) {k:Nat} (hk:k<=16):BI .u16 (Bi .u16 x ((k:Nat):Int)) 1=((x.toNat.testBit k).toNat:Int):=by
 rw[Aak hx.1 hk];have h1:x.toNat>>>k<=x.toNat:=by rw[ef];exact Nat.div_le_self _ _
 have h9:(0:Int)<=((x.toNat>>>k:Nat):Int)/\((x.toNat>>>k:Nat):Int)<65536:=by generalize x.toNat>>>k=y at h1⊢;omega
 unfold BI;rw[Gg];show(((BitVec.ofInt 16 _&&&BitVec.ofInt 16 1).toNat:Nat):Int)%65536=_;rw[BitVec.toNat_and,fZ h9,show(BitVec.ofInt 16 1).toNat=1 from rfl,Nat.and_one_is_mod,bh,mH];cases x.toNat.testBit k<;>rfl
theorem Ab6 {x:Int} (hx:0<=x/\x<256) {k:Nat} (hk:k<=8):BI .u8 (Bi .u8 x ((k:Nat):Int)) 1=((x.toNat.testBit k).toNat:Int):=by
 rw[Aai hx.1 hk];have h1:x.toNat>>>k<=x.toNat:=by rw[ef];exact Nat.div_le_self _ _
 have h9:(0:Int)<=((x.toNat>>>k:Nat):Int)/\((x.toNat>>>k:Nat):Int)<256:=by generalize x.toNat>>>k=y at h1⊢;omega
 unfold BI;rw[FQ];show(((BitVec.ofInt 8 _&&&BitVec.ofInt 8 1).toNat:Nat):Int)%256=_;rw[BitVec.toNat_and,fY h9,show(BitVec.ofInt 8 1).toNat=1 from rfl,Nat.and_one_is_mod,bh,mH];cases x.toNat.testBit k<;>rfl
theorem Ss {a b:Nat} (h:a<b):2^a*2<=2^b:=by rw[<-Nat.pow_succ];exact ij (by decide) h
theorem AbW (b:Bool) {s:Nat} (hs:s<8):BW .u8 (IntKind.wrap .u8 ((b.toNat:Nat):Int)) ((s:Nat):Int)=((b.toNat*2^s:Nat):Int):=by
 have h2:=Ss hs;unfold BW;rw[FQ,FQ,show min ((s:Nat):Int).toNat (IntKind.bits .u8)=s by simp [IntKind.bits];omega];cases b
 ·simp
 ·have e:((2^s:Nat):Int)=(2:Int)^s:=by simp
  simp only[Bool.toNat_true,gj];rw[e];have :(2:Int)^s<256:=by rw[<-e];omega
  have :(0:Int)<=2^s:=by rw[<-e];omega
  omega
theorem Aal (b:Bool) {s:Nat} (hs:s<16):BW .u16 (IntKind.wrap .u16 ((b.toNat:Nat):Int)) ((s:Nat):Int)=((b.toNat*2^s:Nat):Int):=by
 have h2:=Ss hs;unfold BW;rw[Gg,Gg,show min ((s:Nat):Int).toNat (IntKind.bits .u16)=s by simp [IntKind.bits];omega];cases b
 ·simp
 ·have e:((2^s:Nat):Int)=(2:Int)^s:=by simp
  simp only[Bool.toNat_true,gj];rw[e];have :(2:Int)^s<65536:=by rw[<-e];omega
  have :(0:Int)<=2^s:=by rw[<-e];omega
  omega
theorem cU (b:Bool) (s i:Nat):(b.toNat*2^s).testBit i=(b&&decide (i=s)):=by
 cases b
 ·simp
 ·simp only[Bool.toNat_true,gj,iy,Nat.testBit_two_pow];by_cases h:s=i
  ·simp [h]
  ·rw[decide_eq_false h,decide_eq_false λe=>h e.symm]
def By (o:Ad):Prop:=∀x∈o,0<=x/\x<256
theorem By.at {o:Ad} (h:By o) (i:Nat):0<=o.getD i 0/\o.getD i 0<256:=by
 rw[al];cases e:o[i]? with
 |none=>simp
 |some x=>exact h x (ee e)
def bt (o:Ad) (n:Nat):Bool:=(o.getD (n/8) 0).toNat.testBit (n%8)
def z8 (o:Ad) (n:Nat) (v:Int):Ad:=o.set (n/8) (Ew .u8 (o.getD (n/8) 0) (BW .u8 (IntKind.wrap .u8 v) ((n%8:Nat):Int)))
theorem nF (o:Ad) (n:Nat) (v:Int):(z8 o n v).length=o.length:=c_
theorem uQ {o:Ad} (ho:By o) {n:Nat} (hn:n<8*o.length) (b:Bool):By (z8 o n ((b.toNat:Nat):Int))/\∀m,bt (z8 o n ((b.toNat:Nat):Int)) m=(bt o m||(b&&decide (m=n))):=by
 have hm:=di n (show 0<8 by decide);have h2:=Ss hm;have hv:b.toNat*2^(n%8)<256:=by cases b<;>simp<;>omega
 have hx:=ho.at (n/8);have e:Ew .u8 (o.getD (n/8) 0) (BW .u8 (IntKind.wrap .u8 ((b.toNat:Nat):Int)) ((n%8:Nat):Int))=(((o.getD (n/8) 0).toNat|||b.toNat*2^(n%8):Nat):Int):=by rw[AbW b hm,Aca hx ⟨by omega,by omega⟩,bh]
 have hr:(o.getD (n/8) 0).toNat|||b.toNat*2^(n%8)<2^8:=ic (by omega) (by omega);unfold z8;rw[e];refine⟨λx hx'=> ?_,λm=> ?_⟩
 ·rcases List.mem_or_eq_of_mem_set hx' with h|h
  ·exact ho x h
  ·rw[h];omega
 ·unfold bt;rw[al,List.getElem?_set];by_cases h:n/8=m/8
  ·rw[ab h,ab (by omega),ej,bh,Nat.testBit_or,cU,h];congr 2;by_cases e2:m=n
   ·rw[e2,decide_eq_true rfl,decide_eq_true rfl]
   ·rw[decide_eq_false e2,decide_eq_false (by omega)]
  ·rw[aj h,<-al];rw[decide_eq_false (by intro e2;rw[e2]at h;exact h rfl)];simp
def Wv (o:Ad) (n0:Nat):Nat->Int->Int
 |0,a=>a
 |k+1,a=>Ew .u16 (Wv o n0 k a) (BW .u16 (IntKind.wrap .u16 (BI .u8 (Bi .u8 (o.getD ((n0+k)/8) 0) (((n0+k)%8:Nat):Int)) 1)) ((k:Nat):Int))
theorem eP {o:Ad} (ho:By o) (n0:Nat):∀k,k<=16->(0<=Wv o n0 k 0/\Wv o n0 k 0<65536)/\∀i,(Wv o n0 k 0).toNat.testBit i=(decide (i<k)&&bt o (n0+i))
 |0,_=>⟨by simp [Wv],λi=>by simp [Wv]⟩
 |k+1,hk=>by
  obtain⟨h1,h2⟩:=eP ho n0 k (by omega);have hm:=di (n0+k) (show 0<8 by decide);have h3:=Ss (show k<16 by omega);have e:Wv o n0 (k+1) 0=(((Wv o n0 k 0).toNat|||(bt o (n0+k)).toNat*2^k:Nat):Int):=by
   show Ew .u16 (Wv o n0 k 0) _=_;rw[Ab6 (ho.at _) (by omega),Aal _ (by omega)];have hv:(bt o (n0+k)).toNat*2^k<65536:=by cases bt o (n0+k)<;>simp<;>omega
   show Ew .u16 (Wv o n0 k 0) (((bt o (n0+k)).toNat*2^k:Nat):Int)=_;rw[AbK h1 ⟨by omega,by omega⟩,bh]
  have hv:(bt o (n0+k)).toNat*2^k<65536:=by cases bt o (n0+k)<;>simp<;>omega
  have hr:(Wv o n0 k 0).toNat|||(bt o (n0+k)).toNat*2^k<2^16:=ic (by omega) (by omega);rw[e];refine⟨by omega,λi=> ?_⟩;rw[bh,Nat.testBit_or,h2,cU];by_cases hi:i=k
  ·subst hi;rw[decide_eq_false (gy _),decide_eq_true rfl,decide_eq_true (dp _)];simp
  ·rw[decide_eq_false hi];by_cases h4:i<k
   ·rw[decide_eq_true h4,decide_eq_true (by omega)];simp
   ·rw[decide_eq_false h4,decide_eq_false (by omega)];simp
end Go.Sx
namespace Go.Sx.Tryz
open Go.Mi Go.RowKit Go.Sx Go.Proofs Go.Proofs.Tryz
noncomputable section
open List (replicate)
theorem sX (r:Nat) (f:Nat->Int) (a:Nat):∀n,By (El r f a n).2.2
 |0=>by rw[<-ZH];intro x hx;cases hx
 |n+1=>by
  have ih:=sX r f a n;rw[RB];generalize El r f a n=q at ih;obtain⟨g,b,o⟩:=q;simp only at ih⊢;have hw:∀z:Int,0<=IntKind.wrap .u8 z/\IntKind.wrap .u8 z<256:=λz=>by rw[FQ];omega
  split
  ·intro x hx;rcases bn.1 hx with h|h
   ·exact ih x h
   ·rw[bo.1 h];exact hw _
  ·intro x hx;rcases bn.1 hx with h|h
   ·exact ih x h
   ·rw[bo.1 h];exact hw _
theorem Zq (l:AZ):By (AJ l):=by unfold AJ;rw[Ab];exact sX _ _ _ _
def xr (f:Nat->Int) (i:Nat):Nat:=(DY (f i) 3329).toNat
theorem XH {x:Int} (h:0<=x):0<=DY x 3329/\DY x 3329<3329:=by rw[g8 h];omega
def Wr (f:Nat->Int) (o:Ad) (m:Nat):Prop:=By o/\o.length=384/\∀n,bt o n=(decide (n<m)&&(xr f (n/12)).testBit (n%12))
theorem Aa1 {f:Nat->Int} (hf:∀i,i<256->0<=f i) {o:Ad} {i k:Nat} (hi:i<256) (hk:k<12) (h:Wr f o (i*12+k)) (x6:Ad):Wr f (ED f i x6 k o) (i*12+k+1):=by
 obtain⟨h1,h2,h3⟩:=h;have hx:=XH (hf i hi);have e:ED f i x6 k o=z8 o (i*12+k) (((xr f i).testBit k).toNat:Nat):=by show z8 o (i*12+k) (BI .u16 (Bi .u16 (DY (f i) 3329) (k:Int)) 1)=_;rw[Aa3 ⟨hx.1,by omega⟩ Ac];rfl
 rw[e];obtain⟨k1,k2⟩:=uQ h1 (n:=i*12+k) (by rw[h2];omega) ((xr f i).testBit k);refine⟨k1,by rw[nF,h2],λn=> ?_⟩;rw[k2,h3];by_cases hn:n=i*12+k
 ·subst hn;rw[decide_eq_false (gy _),decide_eq_true rfl,decide_eq_true (dp _),show(i*12+k)/12=i by omega,show(i*12+k)%12=k by omega];simp
 ·rw[decide_eq_false hn,eh,Bool.or_false];by_cases h4:n<i*12+k
  ·rw[decide_eq_true h4,decide_eq_true Ac]
  ·rw[decide_eq_false h4,decide_eq_false Ac]
theorem tV {f:Nat->Int} (hf:∀i,i<256->0<=f i) {o:Ad} {i:Nat} (hi:i<256) (h:Wr f o (i*12)):∀k,k<=12->Wr f (EX f i o k) (i*12+k)
 |0,_=>h
 |k+1,hk=>Aa1 hf hi Ac (tV hf hi h k Ac) o
theorem tW {f:Nat->Int} (hf:∀i,i<256->0<=f i):∀i,i<=256->Wr f (FO f i) (i*12)
 |0,_=>by
  refine⟨λx hx=> ?_,az,λn=> ?_⟩
  ·have :x=0:=List.eq_of_mem_replicate hx;omega
  ·have e : (FO f 0).getD (n / 8) 0 = 0 := by show(replicate 384 (0:Int)).getD (n/8) 0=0;rw[al,List.getElem?_replicate];split<;>rfl
   unfold bt;rw[e];simp
 |i+1,hi=>by have :=tV hf (i:=i) Ac (tW hf i Ac) 12 (an _);rw[show(i+1)*12=i*12+12 by omega];exact this
theorem jX {f:Nat->Int} (hf:∀i,i<256->0<=f i):By (CP f)/\∀n,n<3072->bt (CP f) n=(xr f (n/12)).testBit (n%12):=by
 unfold CP;rw[Ab];obtain⟨h1,_,h3⟩:=tW hf 256 (an _);exact⟨h1,λn hn=>by
  have :=h3 n;rw[decide_eq_true hn,iy]at this;exact this⟩
theorem sS (xs:Ad) (i:Nat) (g:Nat->Int):∀k j,Em xs i g k j=if j=i then Wv xs (i*12) k (g i)else g j
 |0,j=>by
  show g j=_;by_cases h:j=i
  ·rw[ab h,h];rfl
  ·rw[aj h]
 |k+1,j=>by
  have ih:=sS xs i g k;show upd (Em xs i g k) i _ j=_;unfold upd;by_cases h:j=i
  ·rw[ab h,ab h];show Ew .u16 (Em xs i g k i) _=Ew .u16 (Wv xs (i*12) k (g i)) _;rw[ih i,ab rfl]
  ·rw[aj h,aj h,ih j,aj h]
theorem sT (xs:Ad):∀n j,FH xs n j=if j<n then Wv xs (j*12) 12 0 else 0
 |0,j=>by rw[aj (bd j)];rfl
 |n+1,j=>by
  have ih:=sT xs n;show Em xs n (FH xs n) 12 j=_;rw[sS];by_cases h:j=n
  ·rw[ab h,h,ih n,aj (gy _),ab (dp _)]
  ·rw[aj h,ih j];by_cases h2:j<n
   ·rw[ab h2,ab Ac]
   ·rw[aj h2,aj Ac]
theorem uM {f:Nat->Int} (hf:∀i,i<256->0<=f i) {xs:Ad} (hx:By xs) (h:∀n,n<384->xs.getD n 0=(CP f).getD n 0) {j:Nat} (hj:j<256):ER xs j=(xr f j:Nat):=by
 have hb:∀n,n<3072->bt xs n=(xr f (n/12)).testBit (n%12):=λn hn=>by rw[<-(jX hf).2 n hn];unfold bt;rw[h (n/8) Ac]
 unfold ER;rw[Ab];show FH xs 256 j=_;rw[sT,ab hj];obtain⟨h1,h2⟩:=eP hx (j*12) 12 Ac;have hlt:xr f j<2^12:=by have :=XH (hf j hj);unfold xr;omega
 have e:(Wv xs (j*12) 12 0).toNat=xr f j:=by
  refine Nat.eq_of_testBit_eq λi=> ?_;rw[h2];by_cases hi:i<12
  ·rw[decide_eq_true hi,iy,hb _ Ac,show(j*12+i)/12=j by omega,show(j*12+i)%12=i by omega]
  ·rw[decide_eq_false hi,dz];exact(Nat.testBit_lt_two_pow (ca hlt (ij (by decide) Ac))).symm
 omega
theorem d5 (xs:Ad) {i j:Nat} (hi:i<3) (hj:j<256):A9 xs (i*256+j)=ER (xs.drop (384*i)) j:=by
 have key:∀n,i<n->Jy xs n (i*256+j)=ER (xs.drop (384*i)) j:=by
  intro n
  induction n with
  |zero=>exact λh=>absurd h (bd _)
  |succ n ih=>
   intro h;show Ek (Jy xs n) (n*256) 256 (ER (xs.drop (384*n))) (i*256+j)=_;unfold Ek;by_cases e:i=n
   ·subst e;rw[show Nat.ble (i*256) (i*256+j)=true by rw[Nat.ble_eq];omega,show Nat.blt (i*256+j) (i*256+256)=true by rw[ay];omega];simp only[Bool.and_self,cond_true];rw[show i*256+j-i*256=j by omega]
   ·have : Nat.ble (n * 256) (i * 256 + j) = false := by
     cases hb:Nat.ble (n*256) (i*256+j)with
     |false=>rfl
     |true=>rw[Nat.ble_eq]at hb;omega
    rw[this,dz,cond_false];exact ih Ac
 unfold A9;rw[Ab];exact key 3 hi
theorem ZL (f:Nat->Int) {i n:Nat} (hi:i<3) (hn:n<384):(C1 f).getD (384*i+n) 0=(CP λj=>f (i*256+j)).getD n 0:=by
 have key:∀m,(DK f m).length=384*m/\(i<m->(DK f m).getD (384*i+n) 0=(CP λj=>f (i*256+j)).getD n 0):=by
  intro m
  induction m with
  |zero=>exact⟨rfl,λh=>absurd h (bd _)⟩
  |succ m ih=>
   have e:DK f (m+1)=DK f m++CP (λj=>f (m*256+j)):=rfl;rw[e];refine⟨by rw[ah,ih.1,Hd];omega,λh=> ?_⟩;rw[al];by_cases e2:i=m
   ·subst e2;rw[df (by rw[ih.1];omega),ih.1,<-al,show 384*i+n-384*i=n by omega]
   ·rw[dj (by rw[ih.1];omega),<-al];exact ih.2 Ac
 unfold C1;rw[Ab];exact(key 3).2 hi
theorem ZK {f:Nat->Int} (hf:∀i,i<768->0<=f i):By (C1 f):=by
 have key:∀m,m<=3->By (DK f m):=by
  intro m
  induction m with
  |zero=>exact λ_ x hx=>by cases hx
  |succ m ih=>
   intro hm x hx;have e:DK f (m+1)=DK f m++CP (λj=>f (m*256+j)):=rfl;rw[e]at hx;rcases bn.1 hx with h|h
   ·exact ih Ac x h
   ·exact(jX λi hi=>hf _ Ac).1 x h
 unfold C1;rw[Ab];exact key 3 (an _)
theorem oA {f:Nat->Int} (hf:∀i,i<768->0<=f i) {rest:Ad} (hr:By rest):SH (C1 f++rest)=true:=by
 refine JA λi hi=>Ys λj hj=> ?_;rw[d5 _ hi hj];have hf2:∀j,j<256->0<=f (i*256+j):=λj hj=>hf _ Ac;rw[uM (f:=λj=>f (i*256+j)) hf2 (λx hx=> ?_) (λn hn=> ?_) hj]
 ·have :=(XH (hf2 j hj)).2;unfold xr;have :=(XH (hf2 j hj)).1;simp only;omega
 ·rcases bn.1 (cw hx)with h|h
  ·exact ZK hf x h
  ·exact hr x h
 ·rw[al,dh,dj (by rw[HC];omega),<-al];exact ZL f hi hn
theorem wC (x:Int):0<=Eg x:=by unfold Eg;rw[Ab];show 0<=IntKind.wrap .u16 _;rw[Gg];omega
theorem zL (f g:Nat->Int) {j:Nat} (hj:j<256):0<=BD f g j:=by
 have key:∀n,j<n->0<=QI f g n j:=by
  intro n
  induction n with
  |zero=>exact λh=>absurd h (bd _)
  |succ n ih=>
   intro h;show 0<=upd (QI f g n) n (Eg _) j;unfold upd;split
   ·exact wC _
   ·exact ih Ac
 unfold BD;rw[Ab];exact key 256 hj
theorem pR (d z:Ad) {k:Nat} (hk:k<768):0<=DC d z 3 k:=by
 have key:∀n,k/256<n->0<=DC d z n k:=by
  intro n
  induction n with
  |zero=>exact λh=>absurd h (bd _)
  |succ n ih=>
   intro h;show 0<=Ek (DC d z n) (n*256) 256 (BD _ _) k;unfold Ek;cases hb:Nat.ble (n*256) k&&Nat.blt k (n*256+256)with
   |true=>
    rw[ap,Nat.ble_eq,ay]at hb;exact zL _ _ Ac
   |false=>
    rw[cond_false];refine ih ?_;have h1:k/256≠n:=λe=>by
     have h2:Nat.ble (n*256) k=true:=by rw[Nat.ble_eq];omega
     have h3:Nat.blt k (n*256+256)=true:=by rw[ay];omega
     rw[h2,h3]at hb;cases hb
    omega
 exact key 3 Ac
theorem gX (d z:Ad):chk (AK d z).1=0:=by
 have hl:=ES [d,[3]];have e:(AK d z).1=C1 (DC d z 3)++((AJ [d,[3]]).take 32++[]):=by unfold AK;rw[Ab];rfl
 rw[e];refine tZ ?_ (oA (λi hi=>pR d z hi) λx hx=> ?_)
 ·rw[ah,ah,HC,ao,hl];rfl
 ·rw[fm]at hx;exact Zq _ x (cv hx)
def C0 (x0:Ad):O:= .ob 188 (Ag [lb x0])
section
variable (xs:Ad)
theorem D1 (h:xs.length<=100000000000000):AO 81 ⟨[lb xs],[],lb xs,[]⟩:=by
 refine cy 0 func81 rfl ntmps81 λY V=>Ak [] 0 V λV=>He ?_;rcases V.nilor 0 Bb xs with⟨hn1,V⟩|V
 ·subst hn1;exact CW [] 0 V λV=>Ae (AE V (Ak [] 0 V λV=>AU (Aj (BN V))))
 ·refine CW [] 0 V λV=>Ae (Ai V (BR (Ay [(0,QQ),(2,GJ 0 xs.length 1)] [] 2 V λV=>AU ?_)));obtain⟨gs,V⟩:=V.fz 1;exact BN V
def Cy (n:Nat):Bool:=AR (if((xs.length:Nat):Int)<(n:Int)then false else true)
def VU (n:Nat):Con:=⟨[.cp 0 0,vi (n:Int)],[(0,C0 xs)],lb (xs.take n),[(0,C0 (xs.drop n))]⟩
theorem Iy (n:Nat) (h:xs.length<=100000000000000) (hk:Cy xs n=true):AO 91 (VU xs n):=by
 refine cy 1 func91 rfl ntmps91 λY V=>Ak [] 1 V λV=>Ao (Ay [(1,TX false [(decide ((n:Int)<0))=false] ⟨decide_eq_false Ac,aa⟩)] [] 1 V λV=>AH (((xs.length:Nat):Int)<(n:Int)) V (λh1=> ?_) (λh1=> ?_))
 ·have hK:Cy xs n=false:=(Ab _).trans (ab h1);rw[hK]at hk;cases hk
 ·exact DZ (Ak [] 1 V λV=>Ai V (BR (Ay [(5,Zi n xs.length),(6,AS (D1 (xs.take n) Au))] [] 1 V λV=>Ay [(6,NJ n xs.length)] [] 1 V λV=>Ak [] 1 V λV=>AU (BN V))))
def LF (n:Nat):Con:=⟨[.cp 0 0,vi (n:Int)],[(0,C0 xs)],.v (.iface 44 (.int .i64 2)),[]⟩
theorem NS (n:Nat) (h:xs.length<=100000000000000) (hk:Cy xs n=false):En Tryz.prog 91 (LF xs n):=by
 refine CU rfl (nb:=1) func91 rfl rfl ntmps91 rfl rfl rfl λg0 w0 ac gs ws Y V=> ?_;have V:=V.sp;refine Ak [] 1 V λV=>Ao (Ay [(1,TX false [(decide ((n:Int)<0))=false] ⟨decide_eq_false Ac,aa⟩)] [] 1 V λV=>AH (((xs.length:Nat):Int)<(n:Int)) V (λh1=> ?_) (λh1=> ?_))
 ·exact A7 (E:=E0) mo hZ [] aa none (λr hr=>by cases hr) 1 0 (λ_=>[]) (.v (.iface 44 (.int .i64 2))) (by kernel_rfl) aa V.st λac gs ws pv V hpv=>AA (CC rfl V hpv rfl rfl)
 ·refine DZ (Ak [] 1 V λV=>Ai V (BR (Ay [(5,Zi n xs.length),(6,AS (D1 (xs.take n) Au))] [] 1 V λV=>Ay [(6,NJ n xs.length)] [] 1 V λV=>Ak [] 1 V λV=>AU ?_)));have hK:Cy xs n=true:=(Ab _).trans (aj h1);rw[hK]at hk;cases hk
end
theorem UK {xs:Ad} {n:Nat} (h:Cy xs n=true):n<=xs.length:=by
 unfold Cy at h;rw[Ab]at h;by_cases h2:((xs.length:Nat):Int)<(n:Int)
 ·simp only[h2,if_true]at h;cases h
 ·omega
theorem Iz {xs:Ad} {n:Nat} (h:¬Cy xs n=true):xs.length<n:=by
 unfold Cy at h;rw[Ab]at h;by_cases h2:((xs.length:Nat):Int)<(n:Int)
 ·omega
 ·exact absurd (by first |(rw[aj Ac,aj h2])|rw[aj h2]) h
def P0:Nat->Nat->Int->Ad->Option (Int×Ad)
 |0,_,_,_=>none
 |_+1,_,_,[]=>none
 |k+1,n,v,c::r=>if(128:Int)<=c then P0 k (n+1) (Ew .u64 v (BW .u64 (IntKind.wrap .u64 (E_ .u8 c 128)) ((7*n:Nat):Int))) r
  else if n=9/\(1:Int)<c then none else if 0<n/\c=0 then none else some (Ew .u64 v (BW .u64 (IntKind.wrap .u64 (E_ .u8 c 128)) ((7*n:Nat):Int)),r)
section
variable (xs:Ad)
def JM:Option (Int×Ad):=P0 10 0 0 xs
def F2:Bool:=(JM xs).isSome
def Af:Int×Ad:=(JM xs).getD (0,[])
end
theorem JP (k n:Nat) (v:Int) {xs:Ad} (h:xs.length<1):P0 k n v xs=none:=by have :xs=[]:=bm Ac;subst this;cases k<;>rfl
theorem DJ {i : Nat} (hi : i < 10) (v : Int) {xs : Ad} (h : 1 <= xs.length) : P0 (10 - i) i v xs = (if (128 : Int) <= (xs.take 1).getD 0 0 then P0 (10 - (i + 1)) (i + 1) (Ew .u64 v (BW .u64 (IntKind.wrap .u64 (E_ .u8 ((xs.take 1).getD 0 0) 128)) ((7 * i : Nat) : Int))) (xs.drop 1)
  else if i=9/\(1:Int)<(xs.take 1).getD 0 0 then none else if 0<i/\(xs.take 1).getD 0 0=0 then none else some (Ew .u64 v (BW .u64 (IntKind.wrap .u64 (E_ .u8 ((xs.take 1).getD 0 0) 128)) ((7*i:Nat):Int)),xs.drop 1)):=by
 obtain⟨k,hk⟩:∃k,10-i=k+1:=⟨9-i,by omega⟩;rw[hk,show 10-(i+1)=k by omega]
 match xs,h with
 |c::r,_=>rfl
theorem PY {xs:Ad} (h:JM xs=none):F2 xs=false:=by unfold F2;rw[h];rfl
theorem JK {xs:Ad} {z:Int×Ad} (h:JM xs=some z):F2 xs=true:=by unfold F2;rw[h];rfl
theorem H9 {xs:Ad} {z:Int×Ad} (h:JM xs=some z):Af xs=z:=by unfold Af;rw[h];rfl
section
variable (xs:Ad)
def t7:Con:=⟨[.cp 0 0],[(0,C0 xs)],.v (.int .u64 (Af xs).1),[(0,C0 (Af xs).2)]⟩
theorem HG (h:xs.length<=100000000000000) (hk:F2 xs=true):AO 126 (t7 xs):=by
 refine cy 1 func126 rfl ntmps126 λY V=>Ak [] 1 V λV=>Ao (Ak [] 1 V λV=>BK (AD (ι:=Nat×Int×Ad) Y V (λ(i,v,ys)=>(10-i,[(2,.v (.int .u64 v)),(5,vi ((i:Nat):Int))],[(0,C0 ys)],(i<=10)/\(ys.length<=100000000000000)/\(P0 (10-i) i v ys=JM xs)/\True)) [0] [] 1 (0,0,xs) [(0,0)] ⟨Ac,h,rfl,aa⟩ ?_));rintro⟨i,v,ys⟩ ac gs ws ⟨hi,hly,hq,_⟩ V;refine Ak [] 1 V λV=>Ao (AH ((i:Int)<10) V (λh1=> ?_) (λh1=> ?_))
 ·refine B6 (Ak [] 1 V λV=>Ao ?_);by_cases h2:Cy ys 1=true
  ·have hl1:=UK h2;have hl2:(ys.take 1).length=1:=by rw[ao];omega
   refine Aw [(1,AC (Iy ys 1 Au h2) [(0,0)] []),(2,AN 0 ((ys.take 1).length))] [] 1 V λV=>Ae (Ay [(5,HV 7 i (7*i)),(6,If (7*i))] [2] 1 V λV=>Ao (BK (Ak [] 1 V λV=>AH ((128:Int)<=((ys.take 1).getD 0 0)) V (λh3=> ?_) (λh3=> ?_))))
   ·exact cnc (K8 (by decide) (EY (Gy (Ae (Aw [(0,CF i)] [5] 1 V λV=>Ae (Av Y V (i+1,(Ew .u64 v (BW .u64 (IntKind.wrap .u64 (E_ .u8 ((ys.take 1).getD 0 0) 128)) ((7*i:Nat):Int))),(ys.drop 1)) [(0,0)] ⟨Ac,(by rw[au];omega),(hq▸((DJ Ac v Ac).trans (ab A3)).symm),aa⟩))))))
   ·refine He ?_;by_cases h4:(i:Int)=9
    ·refine Aw [(1,Ga h4)] [] 1 V λV=>Ae (AH ((1:Int)<((ys.take 1).getD 0 0)) V (λh5=> ?_) (λh5=> ?_))
     ·refine BR (AH ((1:Int)<((ys.take 1).getD 0 0)) V (λh6=> ?_) (λh6=> ?_))
      ·have e:JM xs=none:=hq.symm.trans (by first |exact JP _ _ _ (Iz A3)|exact rfl|exact(DJ Ac v Ac).trans ((aj Ac).trans (ab Ac))|exact(DJ Ac v Ac).trans ((aj Ac).trans ((aj Ac).trans (ab Ac))));rw[PY e]at hk;cases hk
      ·refine GT (Ak [2] 1 V λV=>AU (As (Aj (Aj (As (Aj ?_))))));have e:=hq.symm.trans ((DJ Ac v Ac).trans ((aj Ac).trans ((aj Ac).trans (aj Ac))));have hv:=H9 e;exact Ej rfl (.inr rfl) V [.v (.int .u64 (Ew .u64 v (BW .u64 (IntKind.wrap .u64 (E_ .u8 ((ys.take 1).getD 0 0) 128)) ((7*i:Nat):Int))))] [(0,some (C0 (ys.drop 1)))] (by show weak _ (.v (.int .u64 (Af xs).1))= .v (.int .u64 (Af xs).1);rw[hv];rfl) (by show EP _ [(0,.ob 188 (Ag [lb (Af xs).2]))] true;rw[hv];exact⟨rfl,aa⟩)
     ·by_cases h7:(0:Int)<(i:Int)
      ·refine Aw [(1,Ga h7)] [] 1 V λV=>Ae (AH (((ys.take 1).getD 0 0)=0) V (λh8=> ?_) (λh8=> ?_))
       ·have e:JM xs=none:=hq.symm.trans (by first |exact JP _ _ _ (Iz A3)|exact rfl|exact(DJ Ac v Ac).trans ((aj Ac).trans (ab Ac))|exact(DJ Ac v Ac).trans ((aj Ac).trans ((aj Ac).trans (ab Ac))));rw[PY e]at hk;cases hk
       ·refine GT (Ak [2] 1 V λV=>AU (As (Aj (Aj (As (Aj ?_))))));have e:=hq.symm.trans ((DJ Ac v Ac).trans ((aj Ac).trans ((aj Ac).trans (aj Ac))));have hv:=H9 e;exact Ej rfl (.inr rfl) V [.v (.int .u64 (Ew .u64 v (BW .u64 (IntKind.wrap .u64 (E_ .u8 ((ys.take 1).getD 0 0) 128)) ((7*i:Nat):Int))))] [(0,some (C0 (ys.drop 1)))] (by show weak _ (.v (.int .u64 (Af xs).1))= .v (.int .u64 (Af xs).1);rw[hv];rfl) (by show EP _ [(0,.ob 188 (Ag [lb (Af xs).2]))] true;rw[hv];exact⟨rfl,aa⟩)
      ·refine Aw [(1,CH h7)] [] 1 V λV=>Ae (Ai V (GT (Ak [2] 1 V λV=>AU (As (Aj (Aj (As (Aj ?_))))))));have e:=hq.symm.trans ((DJ Ac v Ac).trans ((aj Ac).trans ((aj Ac).trans (aj Ac))));have hv:=H9 e;exact Ej rfl (.inr rfl) V [.v (.int .u64 (Ew .u64 v (BW .u64 (IntKind.wrap .u64 (E_ .u8 ((ys.take 1).getD 0 0) 128)) ((7*i:Nat):Int))))] [(0,some (C0 (ys.drop 1)))] (by show weak _ (.v (.int .u64 (Af xs).1))= .v (.int .u64 (Af xs).1);rw[hv];rfl) (by show EP _ [(0,.ob 188 (Ag [lb (Af xs).2]))] true;rw[hv];exact⟨rfl,aa⟩)
    ·refine Aw [(1,CH h4)] [] 1 V λV=>Ae (Ai V ?_);by_cases h9:(0:Int)<(i:Int)
     ·refine Aw [(1,Ga h9)] [] 1 V λV=>Ae (AH (((ys.take 1).getD 0 0)=0) V (λh10=> ?_) (λh10=> ?_))
      ·have e:JM xs=none:=hq.symm.trans (by first |exact JP _ _ _ (Iz A3)|exact rfl|exact(DJ Ac v Ac).trans ((aj Ac).trans (ab Ac))|exact(DJ Ac v Ac).trans ((aj Ac).trans ((aj Ac).trans (ab Ac))));rw[PY e]at hk;cases hk
      ·refine GT (Ak [2] 1 V λV=>AU (As (Aj (Aj (As (Aj ?_))))));have e:=hq.symm.trans ((DJ Ac v Ac).trans ((aj Ac).trans ((aj Ac).trans (aj Ac))));have hv:=H9 e;exact Ej rfl (.inr rfl) V [.v (.int .u64 (Ew .u64 v (BW .u64 (IntKind.wrap .u64 (E_ .u8 ((ys.take 1).getD 0 0) 128)) ((7*i:Nat):Int))))] [(0,some (C0 (ys.drop 1)))] (by show weak _ (.v (.int .u64 (Af xs).1))= .v (.int .u64 (Af xs).1);rw[hv];rfl) (by show EP _ [(0,.ob 188 (Ag [lb (Af xs).2]))] true;rw[hv];exact⟨rfl,aa⟩)
     ·refine Aw [(1,CH h9)] [] 1 V λV=>Ae (Ai V (GT (Ak [2] 1 V λV=>AU (As (Aj (Aj (As (Aj ?_))))))));have e:=hq.symm.trans ((DJ Ac v Ac).trans ((aj Ac).trans ((aj Ac).trans (aj Ac))));have hv:=H9 e;exact Ej rfl (.inr rfl) V [.v (.int .u64 (Ew .u64 v (BW .u64 (IntKind.wrap .u64 (E_ .u8 ((ys.take 1).getD 0 0) 128)) ((7*i:Nat):Int))))] [(0,some (C0 (ys.drop 1)))] (by show weak _ (.v (.int .u64 (Af xs).1))= .v (.int .u64 (Af xs).1);rw[hv];rfl) (by show EP _ [(0,.ob 188 (Ag [lb (Af xs).2]))] true;rw[hv];exact⟨rfl,aa⟩)
  ·skip;have e:JM xs=none:=hq.symm.trans (by first |exact JP _ _ _ (Iz A3)|exact rfl|exact(DJ Ac v Ac).trans ((aj Ac).trans (ab Ac))|exact(DJ Ac v Ac).trans ((aj Ac).trans ((aj Ac).trans (ab Ac))));rw[PY e]at hk;cases hk
 ·have hT:=V;obtain rfl:10=i:=by omega
  have V:=hT;refine DF ?_;have e:JM xs=none:=hq.symm.trans (by first |exact JP _ _ _ (Iz A3)|exact rfl|exact(DJ Ac v Ac).trans ((aj Ac).trans (ab Ac))|exact(DJ Ac v Ac).trans ((aj Ac).trans ((aj Ac).trans (ab Ac))));rw[PY e]at hk;cases hk
def KL:Con:=⟨[.cp 0 0],[(0,C0 xs)],.v (.iface 44 (.int .i64 2)),[]⟩
theorem JI (h:xs.length<=100000000000000) (hk:F2 xs=false):En Tryz.prog 126 (KL xs):=by
 refine CU rfl (nb:=1) func126 rfl rfl ntmps126 rfl rfl rfl λg0 w0 ac gs ws Y V=> ?_;have V:=V.sp;refine Ak [] 1 V λV=>Ao (Ak [] 1 V λV=>BK (AD (ι:=Nat×Int×Ad) Y V (λ(i,v,ys)=>(10-i,[(2,.v (.int .u64 v)),(5,vi ((i:Nat):Int))],[(0,C0 ys)],(i<=10)/\(ys.length<=100000000000000)/\(P0 (10-i) i v ys=JM xs)/\True)) [0] [] 1 (0,0,xs) [(0,0)] ⟨Ac,h,rfl,aa⟩ ?_));rintro⟨i,v,ys⟩ ac gs ws ⟨hi,hly,hq,_⟩ V;refine Ak [] 1 V λV=>Ao (AH ((i:Int)<10) V (λh1=> ?_) (λh1=> ?_))
 ·refine B6 (Ak [] 1 V λV=>Ao ?_);by_cases h2:Cy ys 1=true
  ·have hl1:=UK h2;have hl2:(ys.take 1).length=1:=by rw[ao];omega
   refine Aw [(1,AC (Iy ys 1 Au h2) [(0,0)] []),(2,AN 0 ((ys.take 1).length))] [] 1 V λV=>Ae (Ay [(5,HV 7 i (7*i)),(6,If (7*i))] [2] 1 V λV=>Ao (BK (Ak [] 1 V λV=>AH ((128:Int)<=((ys.take 1).getD 0 0)) V (λh3=> ?_) (λh3=> ?_))))
   ·exact cnc (K8 (by decide) (EY (Gy (Ae (Aw [(0,CF i)] [5] 1 V λV=>Ae (Av Y V (i+1,(Ew .u64 v (BW .u64 (IntKind.wrap .u64 (E_ .u8 ((ys.take 1).getD 0 0) 128)) ((7*i:Nat):Int))),(ys.drop 1)) [(0,0)] ⟨Ac,(by rw[au];omega),(hq▸((DJ Ac v Ac).trans (ab A3)).symm),aa⟩))))))
   ·refine He ?_;by_cases h4:(i:Int)=9
    ·refine Aw [(1,Ga h4)] [] 1 V λV=>Ae (AH ((1:Int)<((ys.take 1).getD 0 0)) V (λh5=> ?_) (λh5=> ?_))
     ·refine BR (AH ((1:Int)<((ys.take 1).getD 0 0)) V (λh6=> ?_) (λh6=> ?_))
      ·exact A7 (E:=E0) mo hZ [] aa none (λr hr=>by cases hr) 1 0 (λ_=>[]) (.v (.iface 44 (.int .i64 2))) (by kernel_rfl) aa V.st λac gs ws pv V hpv=>BQ (AA (BQ (AA (AA (BQ (AA (CC rfl V hpv rfl rfl)))))))
      ·refine GT (Ak [2] 1 V λV=>AU (As (Aj (Aj (As (Aj ?_))))));have e:=hq.symm.trans ((DJ Ac v Ac).trans ((aj Ac).trans ((aj Ac).trans (aj Ac))));rw[JK e]at hk;cases hk
     ·by_cases h7:(0:Int)<(i:Int)
      ·refine Aw [(1,Ga h7)] [] 1 V λV=>Ae (AH (((ys.take 1).getD 0 0)=0) V (λh8=> ?_) (λh8=> ?_))
       ·exact A7 (E:=E0) mo hZ [] aa none (λr hr=>by cases hr) 1 0 (λ_=>[]) (.v (.iface 44 (.int .i64 2))) (by kernel_rfl) aa V.st λac gs ws pv V hpv=>BQ (AA (BQ (AA (AA (BQ (AA (CC rfl V hpv rfl rfl)))))))
       ·refine GT (Ak [2] 1 V λV=>AU (As (Aj (Aj (As (Aj ?_))))));have e:=hq.symm.trans ((DJ Ac v Ac).trans ((aj Ac).trans ((aj Ac).trans (aj Ac))));rw[JK e]at hk;cases hk
      ·refine Aw [(1,CH h7)] [] 1 V λV=>Ae (Ai V (GT (Ak [2] 1 V λV=>AU (As (Aj (Aj (As (Aj ?_))))))));have e:=hq.symm.trans ((DJ Ac v Ac).trans ((aj Ac).trans ((aj Ac).trans (aj Ac))));rw[JK e]at hk;cases hk
    ·refine Aw [(1,CH h4)] [] 1 V λV=>Ae (Ai V ?_);by_cases h9:(0:Int)<(i:Int)
     ·refine Aw [(1,Ga h9)] [] 1 V λV=>Ae (AH (((ys.take 1).getD 0 0)=0) V (λh10=> ?_) (λh10=> ?_))
      ·exact A7 (E:=E0) mo hZ [] aa none (λr hr=>by cases hr) 1 0 (λ_=>[]) (.v (.iface 44 (.int .i64 2))) (by kernel_rfl) aa V.st λac gs ws pv V hpv=>BQ (AA (BQ (AA (AA (BQ (AA (CC rfl V hpv rfl rfl)))))))
      ·refine GT (Ak [2] 1 V λV=>AU (As (Aj (Aj (As (Aj ?_))))));have e:=hq.symm.trans ((DJ Ac v Ac).trans ((aj Ac).trans ((aj Ac).trans (aj Ac))));rw[JK e]at hk;cases hk
     ·refine Aw [(1,CH h9)] [] 1 V λV=>Ae (Ai V (GT (Ak [2] 1 V λV=>AU (As (Aj (Aj (As (Aj ?_))))))));have e:=hq.symm.trans ((DJ Ac v Ac).trans ((aj Ac).trans ((aj Ac).trans (aj Ac))));rw[JK e]at hk;cases hk
  ·skip;exact A7 (E:=E0) mo hZ [] aa (some ⟨91,(LF ys 1),[(0,0)],[]⟩) (λr hr=>by cases hr;exact NS ys 1 Au (BH h2)) 1 28 (λ_=>[nd [.cp 0 0,vi 1] [some (C0 ys)]]) (.v (.iface 44 (.int .i64 2))) (by kernel_rfl) ⟨rfl,aa⟩ V.st λac gs ws pv V hpv=>AA (BQ (AA (AA (BQ (AA (CC rfl V hpv rfl rfl))))))
 ·have hT:=V;obtain rfl:10=i:=by omega
  have V:=hT;exact DF (A7 (E:=E0) mo hZ [] aa none (λr hr=>by cases hr) 1 0 (λ_=>[]) (.v (.iface 44 (.int .i64 2))) (by kernel_rfl) aa V.st λac gs ws pv V hpv=>CC rfl V hpv rfl rfl)
end
theorem hS (p q:Int):0<=Ew .u64 p q:=(hO p q).1
theorem Yn:∀(k n:Nat) (v:Int) (xs:Ad) (z:Int×Ad),P0 k n v xs=some z->0<=z.1/\z.2.length<=xs.length
 |0,_,_,_,_,h=>by cases h
 |_+1,_,_,[],_,h=>by cases h
 |k+1,n,v,c::r,z,h=>by
  unfold P0 at h;split at h
  ·have :=Yn k (n+1) _ r z h;exact⟨this.1,by simp only[aw];omega⟩
  ·split at h
   ·cases h
   ·split at h
    ·cases h
    ·cases h;exact⟨hS _ _,by simp⟩
section
variable (xs:Ad)
theorem AP:0<=(Af xs).1/\(Af xs).2.length<=xs.length:=by
 unfold Af;cases h:JM xs with
 |none=>exact⟨by simp,by simp⟩
 |some z=>exact Yn _ _ _ _ z h
def DO (m:Nat):Bool:=AR (if F2 xs=true then(if(m:Int)<(Af xs).1 then false else true)else false)
def D_ (m:Nat):Nat:=AR (if F2 xs=true then 11 else 2)
def TP (m:Nat):Con:=⟨[.cp 0 0,vi (m:Int)],[(0,C0 xs)],vi ((((Af xs).1.toNat):Nat):Int),[(0,C0 (Af xs).2)]⟩
theorem L6 (m:Nat) (h:xs.length<=100000000000000) (hm:m<=100000000000000) (hk:DO xs m=true):AO 139 (TP xs m):=by
 refine cy 1 func139 rfl ntmps139 λY V=>Ak [] 1 V λV=>Ao (Ay [(1,TX false [(decide ((m:Int)<0))=false] ⟨decide_eq_false Ac,aa⟩)] [] 1 V λV=>Ai V (DZ ?_));by_cases h1:F2 xs=true
 ·refine Aw [(1,AC (HG xs Au h1) [(0,0)] [])] [] 1 V λV=>CV (Ay [(2,Jn m)] [] 1 V λV=>AH ((m:Int)<(Af xs).1) V (λh2=> ?_) (λh2=> ?_))
  ·have hK:DO xs m=false:=(Ab _).trans ((ab h1).trans (ab h2));rw[hK]at hk;cases hk
  ·refine DZ ?_;have hnn:=AP xs;exact Aw [(1,Jo (((Af xs).1.toNat:Nat):Int) [IntKind.wrap .i64 (Af xs).1=(((Af xs).1.toNat:Nat):Int)] ⟨(Er Ac Ac).trans Ac,aa⟩)] [] 1 V λV=>Fa (BN V)
 ·have hK:DO xs m=false:=(Ab _).trans (aj h1);rw[hK]at hk;cases hk
def Si (m:Nat):Con:=⟨[.cp 0 0,vi (m:Int)],[(0,C0 xs)],.v (.iface 44 (.int .i64 ((D_ xs m:Nat):Int))),[]⟩
theorem Wk (m:Nat) (h:xs.length<=100000000000000) (hm:m<=100000000000000) (hk:DO xs m=false):En Tryz.prog 139 (Si xs m):=by
 refine CU rfl (nb:=1) func139 rfl rfl ntmps139 rfl rfl rfl λg0 w0 ac gs ws Y V=> ?_;have V:=V.sp;refine Ak [] 1 V λV=>Ao (Ay [(1,TX false [(decide ((m:Int)<0))=false] ⟨decide_eq_false Ac,aa⟩)] [] 1 V λV=>Ai V (DZ ?_));by_cases h1:F2 xs=true
 ·refine Aw [(1,AC (HG xs Au h1) [(0,0)] [])] [] 1 V λV=>CV (Ay [(2,Jn m)] [] 1 V λV=>AH ((m:Int)<(Af xs).1) V (λh2=> ?_) (λh2=> ?_))
  ·refine A7 (E:=E0) mo hZ [] aa none (λr hr=>by cases hr) 1 0 (λ_=>[]) (.v (.iface 44 (.int .i64 11))) (by kernel_rfl) aa V.st λac gs ws pv V hpv=>AA ?_;have hM:D_ xs m=11:=(Ab _).trans (ab h1);exact CC rfl V hpv (by show _=(.v (.iface 44 (.int .i64 ((D_ xs m:Nat):Int))):D);rw[hM]<;>rfl) rfl
  ·refine DZ ?_;have hnn:=AP xs;refine Aw [(1,Jo (((Af xs).1.toNat:Nat):Int) [IntKind.wrap .i64 (Af xs).1=(((Af xs).1.toNat:Nat):Int)] ⟨(Er Ac Ac).trans Ac,aa⟩)] [] 1 V λV=>Fa ?_;have hK:DO xs m=true:=(Ab _).trans ((ab h1).trans (aj h2));rw[hK]at hk;cases hk
 ·refine A7 (E:=E0) mo hZ [] aa (some ⟨126,(KL xs),[(0,0)],[]⟩) (λr hr=>by cases hr;exact JI xs Au (BH h1)) 1 4 (λ_=>[nd [.cp 0 0] [some (C0 xs)]]) (.v (.iface 44 (.int .i64 2))) (by kernel_rfl) ⟨rfl,aa⟩ V.st λac gs ws pv V hpv=>AA ?_;have hM:D_ xs m=2:=(Ab _).trans (aj h1);exact CC rfl V hpv (by show _=(.v (.iface 44 (.int .i64 ((D_ xs m:Nat):Int))):D);rw[hM]<;>rfl) rfl
def Ec:Bool:=AR (if(0:Int)<((xs.length:Nat):Int)then false else true)
theorem H6 (hk:Ec xs=true):AO 90 (Cq [.cp 0 0] [(0,C0 xs)] (.tu (Ag []))):=by
 refine cy 1 func90 rfl ntmps90 λY V=>Ak [] 1 V λV=>AH ((0:Int)<((xs.length:Nat):Int)) V (λh1=> ?_) (λh1=> ?_)
 ·have hK:Ec xs=false:=(Ab _).trans (ab h1);rw[hK]at hk;cases hk
 ·exact xV (bY V)
def MP:Con:=⟨[.cp 0 0],[(0,C0 xs)],.v (.iface 44 (.int .i64 2)),[]⟩
theorem Nm (hk:Ec xs=false):En Tryz.prog 90 (MP xs):=by
 refine CU rfl (nb:=1) func90 rfl rfl ntmps90 rfl rfl rfl λg0 w0 ac gs ws Y V=> ?_;have V:=V.sp;refine Ak [] 1 V λV=>AH ((0:Int)<((xs.length:Nat):Int)) V (λh1=> ?_) (λh1=> ?_)
 ·exact A7 (E:=E0) mo hZ [] aa none (λr hr=>by cases hr) 1 0 (λ_=>[]) (.v (.iface 44 (.int .i64 2))) (by kernel_rfl) aa V.st λac gs ws pv V hpv=>CC rfl V hpv rfl rfl
 ·refine xV ?_;have hK:Ec xs=true:=(Ab _).trans (aj h1);rw[hK]at hk;cases hk
theorem GM (h:xs.length<=100000000000000):AO 89 ⟨[lb xs],[],.cp 0 0,[(0,C0 xs)]⟩:=by exact cy 0 func89 rfl ntmps89 λY V=>Ak [] 0 V λV=>Ay [(1,AS (D1 xs Au))] [] 1 V λV=>AU (BN V)
end
section
variable (xs:Ad) (m:Nat)
def Bw:Bool:=AR (if DO xs m=true then(if Cy (Af xs).2 ((Af xs).1.toNat)=true then true else false)else false)
def Bu:Nat:=AR (if DO xs m=true then 2 else(D_ xs m))
def NE:Con:=⟨[.cp 0 0,vi (m:Int)],[(0,C0 xs)],lb ((Af xs).2.take ((Af xs).1.toNat)),[(0,C0 ((Af xs).2.drop ((Af xs).1.toNat)))]⟩
theorem D2 (h:xs.length<=100000000000000) (hm:m<=100000000000000) (hk:Bw xs m=true):AO 102 (NE xs m):=by
 refine cy 1 func102 rfl ntmps102 λY V=>Ak [] 1 V λV=>Ao ?_;have hnn:=AP xs;by_cases h1:DO xs m=true
 ·have hnn:=AP xs;by_cases h2:Cy (Af xs).2 ((Af xs).1.toNat)=true
  ·have hnn:=AP xs;exact Aw [(3,AC (L6 xs m Au Ac h1) [(0,0)] []),(4,AC (Iy (Af xs).2 ((Af xs).1.toNat) Au h2) [(0,0)] [])] [] 1 V λV=>Fa (BN V)
  ·have hnn:=AP xs;have hK:Bw xs m=false:=(Ab _).trans ((ab h1).trans (aj h2));rw[hK]at hk;cases hk
 ·have hnn:=AP xs;have hK:Bw xs m=false:=(Ab _).trans (aj h1);rw[hK]at hk;cases hk
def GU:Con:=⟨[.cp 0 0,vi (m:Int)],[(0,C0 xs)],.v (.iface 44 (.int .i64 ((Bu xs m:Nat):Int))),[]⟩
theorem G_ (h:xs.length<=100000000000000) (hm:m<=100000000000000) (hk:Bw xs m=false):En Tryz.prog 102 (GU xs m):=by
 refine CU rfl (nb:=1) func102 rfl rfl ntmps102 rfl rfl rfl λg0 w0 ac gs ws Y V=> ?_;have V:=V.sp;refine Ak [] 1 V λV=>Ao ?_;have hnn:=AP xs;by_cases h1:DO xs m=true
 ·have hnn:=AP xs;by_cases h2:Cy (Af xs).2 ((Af xs).1.toNat)=true
  ·have hnn:=AP xs;refine Aw [(3,AC (L6 xs m Au Ac h1) [(0,0)] []),(4,AC (Iy (Af xs).2 ((Af xs).1.toNat) Au h2) [(0,0)] [])] [] 1 V λV=>Fa ?_;have hK:Bw xs m=true:=(Ab _).trans ((ab h1).trans (ab h2));rw[hK]at hk;cases hk
  ·have hnn:=AP xs;refine A7 (E:=E0) mo hZ [(3,.call ⟨139,(TP xs m),[(0,0)],[]⟩)] ⟨L6 _ _ Au Ac h1,aa⟩ (some ⟨91,(LF (Af xs).2 ((Af xs).1.toNat)),[(0,0)],[]⟩) (λr hr=>by cases hr;exact NS (Af xs).2 ((Af xs).1.toNat) Au (BH h2)) 4 32 (λC=>[bX C 3,nd [.cp 0 0,vi ((((Af xs).1.toNat):Nat):Int)] [some (C0 (Af xs).2)]]) (.v (.iface 44 (.int .i64 2))) (by kernel_rfl) ⟨rfl,rfl,aa⟩ V.st λac gs ws pv V hpv=>AA ?_;have hM:Bu xs m=2:=(Ab _).trans (ab h1);exact CC rfl V hpv (by show _=(.v (.iface 44 (.int .i64 ((Bu xs m:Nat):Int))):D);rw[hM]<;>rfl) rfl
 ·have hnn:=AP xs;refine A7 (E:=E0) mo hZ [] aa (some ⟨139,(Si xs m),[(0,0)],[]⟩) (λr hr=>by cases hr;exact Wk xs m Au Ac (BH h1)) 3 48 (λ_=>[nd [.cp 0 0,vi (m:Int)] [some (C0 xs)]]) (.v (.iface 44 (.int .i64 ((D_ xs m:Nat):Int)))) (by kernel_rfl) ⟨rfl,aa⟩ V.st λac gs ws pv V hpv=>AA ?_;have hM:Bu xs m=(D_ xs m):=(Ab _).trans (aj h1);exact CC rfl V hpv (by show _=(.v (.iface 44 (.int .i64 ((Bu xs m:Nat):Int))):D);rw[hM]<;>rfl) rfl
end
def N8 (x0:Nat):O:= .ob 97 (Ag [.sk x0])
def Ob8:O:= .ob 97 (Ag [.v (.slice none 0 0)])
theorem Ez (b xs:Ad) (hb:b.length<=100000000000) (hx:xs.length<=10000000000):AO 53 ⟨[.cp 0 0,lb xs],[(0,N8 1),(1,.sl 5 Bb b)],.cp 0 0,[(0,N8 2),(2,.sl 5 Bb (b++xs))]⟩:=by exact cy 2 func53 rfl ntmps53 λY V=>Ak [] 2 V λV=>Ao (Ak [] 2 V λV=>AE V (Aw [(6,GJ b.length xs.length 1 Ac)] [] 3 V λV=>Ae (Ak [] 3 V λV=>AU (BN V))))
theorem O7 (xs:Ad) (hx:xs.length<=10000000000):AO 53 ⟨[.cp 0 0,lb xs],[(0,Ob8)],.cp 0 0,[(0,N8 1),(1,.sl 5 Bb ([]++xs))]⟩:=by exact cy 1 func53 rfl ntmps53 λY V=>Ak [] 1 V λV=>Ao (Ak [] 1 V λV=>AE V (Aw [(6,GJ 0 xs.length 1)] [] 2 V λV=>Ae (Ak [] 2 V λV=>AU (BN V))))
def Ah (n:Nat):Ad:=if 128<=n then Ew .u8 (IntKind.wrap .u8 (n:Int)) 128::Ah (n/128)else[IntKind.wrap .u8 (n:Int)]
termination_by n
decreasing_by omega
theorem Nu {n:Nat} (h:128<=n):Ah n=Ew .u8 (IntKind.wrap .u8 (n:Int)) 128::Ah (n/128):=by rw[Ah,ab h]
theorem PZ {n:Nat} (h:¬128<=n):Ah n=[IntKind.wrap .u8 (n:Int)]:=by rw[Ah,aj h]
theorem U8:∀(k n:Nat),n<128^(k+1)->(Ah n).length<=k+1
 |0,n,h=>by rw[PZ Ac];simp
 |k+1,n,h=>by
  by_cases h1:128<=n
  ·rw[Nu h1,aw];have :=U8 k (n/128) (by rw[Nat.pow_succ]at h;exact Nat.div_lt_of_lt_mul Ac);omega
  ·rw[PZ h1];simp
theorem An {n:Nat} (h:n<18446744073709551616):(Ah n).length<=10:=U8 9 n (Nat.lt_trans h (by decide))
theorem Aaj {m:Nat}:Bi .u64 (m:Int) 7=((m/128:Nat):Int):=by unfold Bi;rw[show min (7:Int).toNat (IntKind.bits .u64)=7 from rfl,Ql Ac,bh,ef]
theorem BF (b:Ad) (n:Nat) (hb:b.length<=90000000000) (hn:n<18446744073709551616):AO 47 ⟨[.cp 0 0,.v (.int .u64 (n:Int))],[(0,N8 1),(1,.sl 5 Bb b)],.cp 0 0,[(0,N8 2),(2,.sl 5 Bb (b++Ah n))]⟩:=by
 refine cy 2 func47 rfl ntmps47 λY V=>Ak [] 2 V λV=>Ao (BK ?_);obtain⟨gs,V⟩:=V.alias 1;refine AD (ι:=Nat×Ad) Y V (λ(m,o)=>(m,[(1,.v (.int .u64 ((m:Nat):Int)))],[(2,.sl 5 Bb o)],(m<18446744073709551616)/\(o.length+(Ah m).length=b.length+(Ah n).length)/\(o++Ah m=b++Ah n)/\True)) [0,4] [0] 3 (n,b) [(0,0),(1,1),(2,2)] ⟨hn,rfl,rfl,aa⟩ ?_;rintro⟨m,o⟩ ac gs ws ⟨hm,hol,hq,_⟩ V;refine Ao (Ak [] 3 V λV=>AH ((128:Int)<=(m:Int)) V (λh1=> ?_) (λh1=> ?_))
 ·refine B6 ?_;have h10:=An hn;exact Aw [(5,AC (Ez o [(Ew .u8 (IntKind.wrap .u8 (m:Int)) 128)] Au Au) [(0,0),(1,2)] [(2,3)])] [] 4 V λV=>Cn (Aw [(1,Jo ((m/128:Nat):Int) [Bi .u64 (m:Int) 7=((m/128:Nat):Int),(0:Int)<=7] ⟨Aaj,by omega,aa⟩)] [1] 4 V λV=>Ae (Av Y V (m/128,(o++[(Ew .u8 (IntKind.wrap .u8 (m:Int)) 128)])) [(0,0),(1,1),(2,3)] ⟨Ac,(by rw[ah,<-hol,Nu (n:=m) Ac];simp only[aw,av];omega),(by rw[bw,<-hq,Nu (n:=m) Ac];rfl),aa⟩ (show m/128<m from by omega)))
 ·have hT:=V;have V:=hT;refine I8 ?_;have h10:=An hn;have e:o++[IntKind.wrap .u8 (m:Int)]=b++Ah n:=by rw[<-hq,PZ Ac]
  refine Aw [(4,AC (Ez o [(IntKind.wrap .u8 (m:Int))] Au Au) [(0,0),(1,2)] [(2,3)])] [] 4 V λV=>Fa ?_;obtain⟨gs,V⟩:=V.rx [(0,0),(1,1),(2,3)] [4] [0,2] 3 Y;exact Ej rfl (.inr rfl) V [.cp 0 0] [(0,some (N8 2)),(2,some (.sl 5 Bb (o++[(IntKind.wrap .u8 (m:Int))])))] rfl (by show EP _ [(0,N8 2),(2,.sl 5 Bb (b++Ah n))] true;rw[<-e];exact⟨rfl,rfl,aa⟩)
theorem LS (n:Nat) (hn:n<18446744073709551616):AO 47 ⟨[.cp 0 0,.v (.int .u64 (n:Int))],[(0,Ob8)],.cp 0 0,[(0,N8 1),(1,.sl 5 Bb ([]++Ah n))]⟩:=by
 refine cy 1 func47 rfl ntmps47 λY V=>Ao ?_;obtain⟨gs,V⟩:=V.nilob 0 0 5 Bb;refine CW [] 2 V λV=>CV (BK (AD (ι:=Nat×Ad) Y V (λ(m,o)=>(m,[(1,.v (.int .u64 ((m:Nat):Int)))],[(0,N8 2),(2,.sl 5 Bb o)],(m<18446744073709551616)/\(o.length+(Ah m).length=0+(Ah n).length)/\(o++Ah m=([]:Ad)++Ah n)/\True)) [0,4] [] 3 (n,[]) [(0,0),(2,1)] ⟨hn,(by simp),rfl,aa⟩ ?_));rintro⟨m,o⟩ ac gs ws ⟨hm,hol,hq,_⟩ V;refine Ao (Ak [] 3 V λV=>AH ((128:Int)<=(m:Int)) V (λh1=> ?_) (λh1=> ?_))
 ·refine B6 ?_;have h10:=An hn;exact Aw [(5,AC (Ez o [(Ew .u8 (IntKind.wrap .u8 (m:Int)) 128)] Au Au) [(0,0),(1,2)] [(2,3)])] [] 4 V λV=>Cn (Aw [(1,Jo ((m/128:Nat):Int) [Bi .u64 (m:Int) 7=((m/128:Nat):Int),(0:Int)<=7] ⟨Aaj,by omega,aa⟩)] [1] 4 V λV=>Ae (Av Y V (m/128,(o++[(Ew .u8 (IntKind.wrap .u8 (m:Int)) 128)])) [(0,0),(2,3)] ⟨Ac,(by rw[ah,<-hol,Nu (n:=m) Ac];simp only[aw,av];omega),(by rw[bw,<-hq,Nu (n:=m) Ac];rfl),aa⟩ (show m/128<m from by omega)))
 ·have hT:=V;have V:=hT;refine I8 ?_;have h10:=An hn;have e:o++[IntKind.wrap .u8 (m:Int)]=([]:Ad)++Ah n:=by rw[<-hq,PZ Ac]
  refine Aw [(4,AC (Ez o [(IntKind.wrap .u8 (m:Int))] Au Au) [(0,0),(1,2)] [(2,3)])] [] 4 V λV=>Fa ?_;obtain⟨gs,V⟩:=V.rx [(0,0),(1,3)] [4] [0,1] 2 Y;exact Ej rfl (.inr rfl) V [.cp 0 0] [(0,some (N8 1)),(1,some (.sl 5 Bb (o++[(IntKind.wrap .u8 (m:Int))])))] rfl (by show EP _ [(0,N8 1),(1,.sl 5 Bb (([]:Ad)++Ah n))] true;rw[<-e];exact⟨rfl,rfl,aa⟩)
theorem Db (b xs:Ad) (hb:b.length<=80000000000) (hx:xs.length<=10000000000):AO 48 ⟨[.cp 0 0,lb xs],[(0,N8 1),(1,.sl 5 Bb b)],.cp 0 0,[(0,N8 2),(2,.sl 5 Bb ((b++Ah xs.length)++xs))]⟩:=by refine cy 2 func48 rfl ntmps48 λY V=>Ak [] 2 V λV=>Ao ?_;have h10:=An (n:=xs.length) Ac;refine Aw [(3,Jn xs.length),(4,AC (BF b xs.length Au Ac) [(0,0),(1,1)] [(2,2)]),(6,AC (Ez (b++Ah xs.length) xs Au Au) [(0,0),(1,2)] [(2,3)])] [] 4 V λV=>Fa ?_;obtain⟨gs,V⟩:=V.rx [(0,0),(1,1),(2,3)] [4] [0,2] 3 Y;exact BN V
theorem IP (xs:Ad) (hx:xs.length<=10000000000):AO 48 ⟨[.cp 0 0,lb xs],[(0,Ob8)],.cp 0 0,[(0,N8 1),(1,.sl 5 Bb (([]++Ah xs.length)++xs))]⟩:=by refine cy 1 func48 rfl ntmps48 λY V=>Ak [] 1 V λV=>Ao ?_;have h10:=An (n:=xs.length) Ac;refine Aw [(3,Jn xs.length),(4,AC (LS xs.length Ac) [(0,0)] [(1,1)]),(6,AC (Ez ([]++Ah xs.length) xs Au Au) [(0,0),(1,1)] [(2,2)])] [] 3 V λV=>Fa ?_;obtain⟨gs,V⟩:=V.rx [(0,0),(1,2)] [4] [0,1] 2 Y;exact BN V
theorem FS (b:Ad) (hb:b.length<=90000000000000):AO 49 ⟨[.cp 0 0],[(0,N8 1),(1,.sl 5 Bb b)],lb b,[(0,.ob 97 (Ag [lb b]))]⟩:=by refine cy 2 func49 rfl ntmps49 λY V=>Ak [] 2 V λV=>Ao (Ak [] 2 V λV=>Ai V (DZ ?_));obtain⟨gs,V⟩:=V.fz 1;exact Aw [(4,AS (D1 b Au))] [] 2 V λV=>Fa (BN V)
section
variable (x:Int)
def Cl (k:Int):Int:=AR ((Ew .u32 (BW .u32 x (BI .u64 (IntKind.wrap .u64 k) 31)) (Bi .u32 x (EO .u64 32 (BI .u64 (IntKind.wrap .u64 k) 31)))))
def rL (k:Int) (z_:Int:=Cl x k):Con:=⟨[.v (.int .u32 x),vi k],[],.v (.int .u32 z_),[]⟩
theorem Fi (k:Int):AO 191 (rL x k):=by exact cy 0 func191 rfl ntmps191 λY V=>Ak [] 0 V λV=>Ak [] 0 V λV=>Ay [(2,OZ ((0:Int)<=(BI .u64 (IntKind.wrap .u64 k) 31)) (Ki rfl)),(6,OZ ((0:Int)<=(EO .u64 32 (BI .u64 (IntKind.wrap .u64 k) 31))) (Ki rfl))] [] 0 V λV=>AU (BX (Ab _) V)
def KZ (x8:Nat):Ad->Ad:=λx3=>x3.set x8 (IntKind.wrap .u8 (Bi .u64 x ((8*x8:Nat):Int)))
def FM (x:Int):Nat->Ad
 |0=>replicate 8 (0:Int)
 |x8+1=>KZ x x8 (FM x x8)
def FD:Ad:=AR (FM x 8)
end
@[simp] theorem Ti (x:Int):(FD x).length=8:=by
 have key:∀i,(FM x i).length=8:=by
  intro i
  induction i with
  |zero=>rfl
  |succ i ih=>exact(c_ ..).trans ih
 unfold FD;rw[Ab];exact key 8
def Xn (x:Int) (z_:Ad:=FD x):Con:=⟨[.v (.int .u64 x)],[],.sk 0,[(0,.sl 5 Bb z_)]⟩
theorem Vn (x:Int):AO 185 (Xn x):=by
 refine cy 0 func185 rfl ntmps185 λY V=>Ak [] 0 V λV=>Ay [(0,mT 8 1)] [] 1 V λV=>Ao (Ay [(1,Jo 8 [(((replicate 8 (0:Int)).length:Nat):Int)=8] ⟨by rw[az];rfl,aa⟩)] [] 1 V λV=>BK (AD (ι:=Nat×Ad) Y V (λ(x8,x3)=>(8-x8,[(8,vi ((x8:Nat):Int))],[(0,.sl 5 Bb x3)],(x8<=8)/\(x3=FM x x8)/\(x3.length=8)/\True)) [0,2,3,7] [] 1 (0,replicate 8 (0:Int)) [(0,0)] ⟨Ac,rfl,rfl,aa⟩ ?_));rintro⟨x8,x3⟩ ac gs ws ⟨hx8,hq1,p1,_⟩ V;refine Ak [] 1 V λV=>Ao (AH ((x8:Int)<8) V (λh1=> ?_) (λh1=> ?_))
 ·exact B6 (Ak [] 1 V λV=>Aw [(4,HV 8 x8 (8*x8)),(5,If (8*x8)),(7,AN x8 x3.length)] [] 1 V λV=>Cn (Aw [(0,CF x8)] [8] 1 V λV=>Ae (Av Y V (x8+1,x3.set x8 (IntKind.wrap .u8 (Bi .u64 x ((8*x8:Nat):Int)))) [(0,0)] ⟨Ac,(Bp (st:=KZ _) hq1 rfl rfl),(by rw[c_];exact p1),aa⟩)))
 ·have hT:=V;obtain rfl:8=x8:=by omega
  obtain rfl:=hq1.symm;have V:=hT;exact DF (Ak [] 1 V λV=>AU (BX (Ab _) V))
def Q_ (k1:Nat):(Nat×Nat×Ad)->(Nat×Nat×Ad):=λ(x2,x3,x0)=>(x2+1,x3-1,(x0.set x2 (x0.getD x3 0)).set x3 (x0.getD x2 0))
def G7 (xs:Ad):Nat->Nat×Nat×Ad
 |0=>(0,xs.length-1,xs)
 |k1+1=>Q_ k1 (G7 xs k1)
def Ra:(Nat×Nat×Ad)->Prop:=λ(x2,x3,x0)=>((x2:Nat):Int)<(x3:Int)
section
variable (xs:Ad)
def Nb:Ad:=AR ((G7 xs (DX λj=>Ra (G7 xs j))).2.2)
theorem dH (h:xs.length=8):(Nb xs).length=8:=by
 have key:∀i,(G7 xs i).2.2.length=8:=by
  intro i
  induction i with
  |zero=>exact h
  |succ i ih=>
   show(((G7 xs i).2.2.set _ _).set _ _).length=8;rw[c_,c_];exact ih
 unfold Nb;rw[Ab];exact key _
def yB (z_:Ad:=Nb xs):Con:=⟨[.sk 0],[(0,.sl 5 Bb xs)],.tu (Ag []),[(0,.sl 5 Bb z_)]⟩
theorem nH (h:xs.length=8):AO 186 (yB xs):=by
 refine cy 1 func186 rfl ntmps186 λY V=>Ay [(2,Ie xs.length 1 (xs.length-1))] [] 1 V λV=>BK (AD (ι:=Nat×Nat×Nat×Ad) Y V (λ(k1,x2,x3,x0)=>(x3-x2,[(2,vi (x2:Int)),(3,vi (x3:Int))],[(0,.sl 5 Bb x0)],((x2,x3,x0)=G7 xs k1)/\(∀j,j<k1->Ra (G7 xs j))/\(x0.length=8)/\(x3<8)/\True)) [0] [] 1 (0,0,xs.length-1,xs) [(0,0)] ⟨rfl,(λj h=>absurd h (bd j)),h,Ac,aa⟩ ?_);rintro⟨k1,x2,x3,x0⟩ ac gs ws ⟨hq1,hj1,p1,p2,_⟩ V;refine Ao (Ak [] 1 V λV=>AH ((x2:Int)<(x3:Int)) V (λh1=> ?_) (λh1=> ?_))
 ·refine B6 ?_;have hsl:(x0.set x2 (x0.getD x3 0)).length=8:=by rw[c_];exact p1
  exact Aw [(6,AN x3 x0.length),(10,AN x2 x0.length),(12,AN x2 x0.length),(14,AN x3 ((x0.set x2 (x0.getD x3 0)).length))] [] 1 V λV=>Cn (Aw [(1,CF x2),(3,Ie x3 1 (x3-1))] [2,3] 1 V λV=>Ae (Av Y V (k1+1,x2+1,x3-1,(x0.set x2 (x0.getD x3 0)).set x3 (x0.getD x2 0)) [(0,0)] ⟨(Bp (st:=Q_) hq1 rfl rfl),(Bf hj1 (by rw[<-hq1];exact h1)),(by rw[c_,c_];exact p1),Ac,aa⟩))
 ·have hT:=V;obtain rfl:=CB (by rw[<-hq1];first |exact h1|exact cq h1) hj1;obtain⟨rfl,rfl,rfl⟩:=fE hq1;have V:=hT;exact cnc (EY (EY (Gy (iO (Ab _) V))))
end
def FZ (x:Int):Ad:=AR (Nb (FD x))
@[simp] theorem Kq (x:Int):(FZ x).length=8:=by unfold FZ;rw[Ab];exact dH _ (Ti _)
def rO (x:Int) (z_:Ad:=FZ x):Con:=⟨[.v (.int .u64 x)],[],lb z_,[]⟩
theorem PO (x:Int):AO 160 (rO x):=by refine cy 0 func160 rfl ntmps160 λY V=>Ak [] 0 V λV=>Ay [(1,AC (Vn x) [] [(0,0)])] [] 1 V λV=>Ay [(1,AC (nH (FD x) (by first |omega|simp)) [(0,0)] [])] [] 1 V λV=>Ak [] 1 V λV=>AU ?_;obtain⟨gs,V⟩:=V.fz 0;exact BX (Ab _) V
def Dz (x:Int):Ad:=AR ((FZ (IntKind.wrap .u64 x)).drop 4)
@[simp] theorem Gm (x:Int):(Dz x).length=4:=by unfold Dz;rw[Ab];rw[au,Kq]
def rR (x:Int) (z_:Ad:=Dz x):Con:=⟨[.v (.int .u32 x)],[],lb z_,[]⟩
theorem U0 (x:Int):AO 165 (rR x):=by refine cy 0 func165 rfl ntmps165 λY V=>Ak [] 0 V λV=>Ao ?_;have hp:=Kq (IntKind.wrap .u64 x);exact Aw [(2,AS (PO (IntKind.wrap .u64 x))),(3,NJ 4 (FZ (IntKind.wrap .u64 x)).length)] [] 0 V λV=>Fa (BX (Ab _) V)
section
variable (xs:Ad)
def Lp (x4:Nat):Int->Int:=λx2=>if(x4:Int)<((xs.length:Nat):Int)then(Ew .u64 (BW .u64 x2 8) (IntKind.wrap .u64 (xs.getD x4 0)))else(BW .u64 x2 8)
def Qf (xs:Ad):Nat->Int
 |0=>0
 |x4+1=>Lp xs x4 (Qf xs x4)
def YH:Int:=AR (Qf xs 8)
def rW (z_:Int:=YH xs):Con:=⟨[lb xs],[],.v (.int .u64 z_),[]⟩
theorem iI:AO 206 (rW xs):=by
 refine cy 0 func206 rfl ntmps206 λY V=>Ak [] 0 V λV=>Ao (Ak [] 0 V λV=>BK (AD (ι:=Nat×Int) Y V (λ(x4,x2)=>(8-x4,[(2,.v (.int .u64 x2)),(4,vi ((x4:Nat):Int))],[],(x4<=8)/\(x2=Qf xs x4)/\True)) [0] [] 0 (0,0) [] ⟨Ac,rfl,aa⟩ ?_));rintro⟨x4,x2⟩ ac gs ws ⟨hx4,hq1,_⟩ V;refine Ak [] 0 V λV=>Ao (AH ((x4:Int)<8) V (λh1=> ?_) (λh1=> ?_))
 ·refine B6 (Ak [] 0 V λV=>Ay [(1,If 8)] [2] 0 V λV=>Ak [] 0 V λV=>AH ((x4:Int)<((xs.length:Nat):Int)) V (λh2=> ?_) (λh2=> ?_))
  ·exact Aw [(3,AN x4 xs.length)] [2] 0 V λV=>Cn (Aw [(0,CF x4)] [4] 0 V λV=>Ae (Av Y V (x4+1,(Ew .u64 (BW .u64 x2 8) (IntKind.wrap .u64 (xs.getD x4 0)))) [] ⟨Ac,(Bp (st:=Lp _) hq1 rfl (Eq.symm (ab h2))),aa⟩))
  ·exact GT (Aw [(0,CF x4)] [4] 0 V λV=>Ae (Av Y V (x4+1,(BW .u64 x2 8)) [] ⟨Ac,(Bp (st:=Lp _) hq1 rfl (Eq.symm (aj h2))),aa⟩))
 ·have hT:=V;obtain rfl:8=x4:=by omega
  obtain rfl:=hq1.symm;have V:=hT;exact DF (Ak [2] 0 V λV=>AU (BX (Ab _) V))
def Tu:Int:=AR ((IntKind.wrap .u32 (Bi .u64 (YH xs) 32)))
def rY (z_:Int:=Tu xs):Con:=⟨[lb xs],[],.v (.int .u32 z_),[]⟩
theorem iJ:AO 190 (rY xs):=by exact cy 0 func190 rfl ntmps190 λY V=>Ak [] 0 V λV=>Ay [(1,AS (iI xs)),(2,If 32)] [] 0 V λV=>AU (BX (Ab _) V)
def OL (n:Nat):Ad:=AR (xs.take (replicate n (0:Int)).length++(replicate n (0:Int)).drop xs.length)
def rZ (n:Nat) (z_:Ad:=OL xs n):Con:=⟨[lb xs,vi (n:Int)],[],.sk 0,[(0,.sl 5 Bb z_)]⟩
theorem iU (n:Nat) (hn:n<=100000000):AO 184 (rZ xs n):=by exact cy 0 func184 rfl ntmps184 λY V=>Ak [] 0 V λV=>Ay [(1,mT n 1)] [] 1 V λV=>Ak [] 1 V λV=>Ak [] 1 V λV=>AU (BX (Ab _) V)
def Uc (ys:Ad) (x15:Nat):Ad->Ad:=λx5=>x5.set x15 (AV .u8 (xs.getD x15 0) (ys.getD x15 0))
def La (xs ys:Ad):Nat->Ad
 |0=>replicate (min xs.length ys.length) (0:Int)
 |x15+1=>Uc xs ys x15 (La xs ys x15)
def Jr (ys:Ad):Ad:=AR (La xs ys (min xs.length ys.length))
def Abv (ys:Ad) (z_:Ad:=Jr xs ys):Con:=⟨[lb xs,lb ys],[],.sk 0,[(0,.sl 5 Bb z_)]⟩
theorem uG (ys:Ad) (hn:xs.length<=100000000):AO 159 (Abv xs ys):=by
 refine cy 0 func159 rfl ntmps159 λY V=>Ak [] 0 V λV=>Ay [(4,Rmn xs.length ys.length),(5,mT (min xs.length ys.length) 1)] [] 1 V λV=>Ao (Ay [(1,Jo ((min xs.length ys.length:Nat):Int) [(((replicate (min xs.length ys.length) (0:Int)).length:Nat):Int)=((min xs.length ys.length:Nat):Int)] ⟨by rw[az],aa⟩)] [] 1 V λV=>BK (AD (ι:=Nat×Ad) Y V (λ(x15,x5)=>(min xs.length ys.length-x15,[(15,vi ((x15:Nat):Int))],[(0,.sl 5 Bb x5)],(x15<=min xs.length ys.length)/\(x5=La xs ys x15)/\(x5.length=min xs.length ys.length)/\True)) [0,1,4,5,14] [] 1 (0,replicate (min xs.length ys.length) (0:Int)) [(0,0)] ⟨Ac,rfl,(by simp),aa⟩ ?_));rintro⟨x15,x5⟩ ac gs ws ⟨hx15,hq1,p1,_⟩ V;refine Ak [] 1 V λV=>Ao (AH ((x15:Int)<((min xs.length ys.length:Nat):Int)) V (λh1=> ?_) (λh1=> ?_))
 ·exact B6 (Ak [] 1 V λV=>Aw [(4,AN x15 xs.length),(8,AN x15 ys.length),(11,AN x15 x5.length)] [] 1 V λV=>Cn (Aw [(0,CF x15)] [15] 1 V λV=>Ae (Av Y V (x15+1,x5.set x15 (AV .u8 (xs.getD x15 0) (ys.getD x15 0))) [(0,0)] ⟨Ac,(Bp (st:=Uc _ _) hq1 rfl rfl),(by rw[c_];exact p1),aa⟩)))
 ·have hT:=V;obtain rfl:min xs.length ys.length=x15:=by omega
  obtain rfl:=hq1.symm;have V:=hT;exact DF (Ak [] 1 V λV=>AU (BX (Ab _) V))
end
def sN (x0:Nat->Int):O:= .ob 177 (Ag [.ar .u32 8 x0])
def zZ (x0:Nat->Int):O:= .ob 201 (Ag [.ar .u32 64 x0])
theorem aR (xs:Ad) (h:xs.length<=100000000000000):AO 81 ⟨[lb xs],[],.sk 0,[(0,.sl 5 Bb xs)]⟩:=by
 refine cy 0 func81 rfl ntmps81 λY V=>Ak [] 0 V λV=>He ?_;rcases V.nilor 0 Bb xs with⟨hn1,V⟩|V
 ·subst hn1;refine CW [] 0 V λV=>Ae (AE V (Ak [] 0 V λV=>AU (Aj ?_)));obtain⟨gs,V⟩:=V.nilk 2 5 Bb;exact BN V
 ·refine CW [] 0 V λV=>Ae (Ai V (BR (Ay [(0,QQ),(2,GJ 0 xs.length 1)] [] 2 V λV=>AU ?_)));obtain⟨gs,V⟩:=V.rx [(0,1)] [2] [0] 1 Y;exact BN V
def Pm:(Nat->Int):=AR (upd (upd (upd (upd (upd (upd (upd (upd (λ_=>0) 0 7640891576956012808) 1 13503953896175478587) 2 4354685564936845355) 3 11912009170470909681) 4 5840696475078001361) 5 11170449401992604703) 6 2270897969802886507) 7 6620516959819538809)
def kZ (z_:(Nat->Int):=Pm):Con:=⟨[],[],.ar .u64 8 z_,[]⟩
theorem Zs:AO 188 (kZ):=by exact cy 0 func188 rfl ntmps188 λY V=>Ak [] 1 V λV=>Ak [] 1 V λV=>AU (BX (Ab _) V)
def Ir:(Nat->Int):=AR (upd (upd (upd (upd (upd (upd (upd (upd (upd (upd (upd (upd (upd (upd (upd (upd (upd (upd (upd (upd (upd (upd (upd (upd (upd (upd (upd (upd (upd (upd (upd (upd (upd (upd (upd (upd (upd (upd (upd (upd (upd (upd (upd (upd (upd (upd (upd (upd (upd (upd (upd (upd (upd (upd (upd (upd (upd (upd (upd (upd (upd (upd (upd (upd (upd (upd (upd (upd (upd (upd (upd (upd (upd (upd (upd (upd (upd (upd (upd (upd (λ_=>0) 0 4794697086780616226) 1 8158064640168781261) 2 13096744586834688815) 3 16840607885511220156) 4 4131703408338449720) 5 6480981068601479193) 6 10538285296894168987) 7 12329834152419229976) 8 15566598209576043074) 9 1334009975649890238) 10 2608012711638119052) 11 6128411473006802146) 12 8268148722764581231) 13 9286055187155687089) 14 11230858885718282805) 15 13951009754708518548) 16 16472876342353939154) 17 17275323862435702243) 18 1135362057144423861) 19 2597628984639134821) 20 3308224258029322869) 21 5365058923640841347) 22 6679025012923562964) 23 8573033837759648693) 24 10970295158949994411) 25 12119686244451234320) 26 12683024718118986047) 27 13788192230050041572) 28 14330467153632333762) 29 15395433587784984357) 30 489312712824947311) 31 1452737877330783856) 32 2861767655752347644) 33 3322285676063803686) 34 5560940570517711597) 35 5996557281743188959) 36 7280758554555802590) 37 8532644243296465576) 38 9350256976987008742) 39 10552545826968843579) 40 11727347734174303076) 41 12113106623233404929) 42 14000437183269869457) 43 14369950271660146224) 44 15101387698204529176) 45 15463397548674623760) 46 17586052441742319658) 47 1182934255886127544) 48 1847814050463011016) 49 2177327727835720531) 50 2830643537854262169) 51 3796741975233480872) 52 4115178125766777443) 53 5681478168544905931) 54 6601373596472566643) 55 7507060721942968483) 56 8399075790359081724) 57 8693463985226723168) 58 9568029438360202098) 59 10144078919501101548) 60 10430055236837252648) 61 11840083180663258601) 62 13761210420658862357) 63 14299343276471374635) 64 14566680578165727644) 65 15097957966210449927) 66 16922976911328602910) 67 17689382322260857208) 68 500013540394364858) 69 748580250866718886) 70 1242879168328830382) 71 1977374033974150939) 72 2944078676154940804) 73 3659926193048069267) 74 4368137639120453308) 75 4836135668995329356) 76 5532061633213252278) 77 6448918945643986474) 78 6902733635092675308) 79 7801388544844847127)
def aX (z_:(Nat->Int):=Ir):Con:=⟨[],[],.ar .u64 80 z_,[]⟩
theorem Wi:AO 189 (aX):=by exact cy 0 func189 rfl ntmps189 λY V=>Ak [] 1 V λV=>Ak [] 1 V λV=>AU (BX (Ab _) V)
def RQ (x6:Nat):(Nat->Int)->(Nat->Int):=λo1_0=>upd o1_0 x6 (AV .u32 (o1_0 x6) (IntKind.wrap .u32 (Bi .u64 (Pm x6) 32)))
section
variable (h:Nat->Int)
def S6 (h:Nat->Int):Nat->(Nat->Int)
 |0=>h
 |x6+1=>RQ x6 (S6 h x6)
def Ns:(Nat->Int):=AR (S6 h 8)
def yS (z_:(Nat->Int):=Ns h):Con:=⟨[.ar .u32 8 h],[],.ar .u32 8 z_,[]⟩
theorem S5:AO 162 (yS h):=by
 refine cy 0 func162 rfl ntmps162 λY V=>Ak [] 2 V λV=>Ao (Ay [(0,AS (Zs))] [] 2 V λV=>BK (AD (ι:=Nat×(Nat->Int)) Y V (λ(x6,o1_0)=>(8-x6,[(6,vi ((x6:Nat):Int))],[(0,sN o1_0)],(x6<=8)/\(o1_0=S6 h x6)/\True)) [1,2,5] [1] 2 (0,h) [(0,0),(1,1)] ⟨Ac,rfl,aa⟩ ?_));rintro⟨x6,o1_0⟩ ac gs ws ⟨hx6,hq1,_⟩ V;refine Ak [] 2 V λV=>Ao (AH ((x6:Int)<8) V (λh1=> ?_) (λh1=> ?_))
 ·exact B6 (Ay [(1,AN x6 8)] [] 2 V λV=>Aw [(1,AN x6 8),(4,If 32),(7,AN x6 8)] [] 2 V λV=>Cn (Aw [(0,CF x6)] [6] 2 V λV=>Ae (Av Y V (x6+1,upd o1_0 x6 (AV .u32 (o1_0 x6) (IntKind.wrap .u32 (Bi .u64 (Pm x6) 32)))) [(0,0),(1,1)] ⟨Ac,(Bp (st:=RQ) hq1 rfl rfl),aa⟩)))
 ·have hT:=V;obtain rfl:8=x6:=by omega
  obtain rfl:=hq1.symm;have V:=hT;exact DF (Ak [] 2 V λV=>AU (BX (Ab _) V))
end
def IR (xs:Ad) (x22:Nat):(Nat->Int)->(Nat->Int):=λo5_0=>if(x22:Int)<16 then upd o5_0 x22 (Tu (xs.drop (4*x22)))else upd o5_0 x22 (A6 .u32 (A6 .u32 (A6 .u32 (o5_0 (x22-16)) (AV .u32 (AV .u32 (Cl (o5_0 (x22-15)) (-7)) (Cl (o5_0 (x22-15)) (-18))) (Bi .u32 (o5_0 (x22-15)) 3))) (o5_0 (x22-7))) (AV .u32 (AV .u32 (Cl (o5_0 (x22-2)) (-17)) (Cl (o5_0 (x22-2)) (-19))) (Bi .u32 (o5_0 (x22-2)) 10)))
def Gi (xs:Ad):Nat->(Nat->Int)
 |0=>λ_=>0
 |x22+1=>IR xs x22 (Gi xs x22)
def LZ (xs:Ad) (x75:Nat):(Nat->Int)->(Nat->Int):=λo12_0=>upd (upd (upd (upd (upd (upd (upd (upd (λ_=>0) 0 (A6 .u32 (A6 .u32 (A6 .u32 (A6 .u32 (A6 .u32 (o12_0 7) (AV .u32 (AV .u32 (Cl (o12_0 4) (-6)) (Cl (o12_0 4) (-11))) (Cl (o12_0 4) (-25)))) (AV .u32 (BI .u32 (o12_0 4) (o12_0 5)) (BI .u32 (Lm .u32 (o12_0 4)) (o12_0 6)))) (IntKind.wrap .u32 (Bi .u64 (Ir x75) 32))) ((Gi xs 64) x75)) (A6 .u32 (AV .u32 (AV .u32 (Cl (o12_0 0) (-2)) (Cl (o12_0 0) (-13))) (Cl (o12_0 0) (-22))) (AV .u32 (AV .u32 (BI .u32 (o12_0 0) (o12_0 1)) (BI .u32 (o12_0 0) (o12_0 2))) (BI .u32 (o12_0 1) (o12_0 2)))))) 1 (o12_0 0)) 2 (o12_0 1)) 3 (o12_0 2)) 4 (A6 .u32 (o12_0 3) (A6 .u32 (A6 .u32 (A6 .u32 (A6 .u32 (o12_0 7) (AV .u32 (AV .u32 (Cl (o12_0 4) (-6)) (Cl (o12_0 4) (-11))) (Cl (o12_0 4) (-25)))) (AV .u32 (BI .u32 (o12_0 4) (o12_0 5)) (BI .u32 (Lm .u32 (o12_0 4)) (o12_0 6)))) (IntKind.wrap .u32 (Bi .u64 (Ir x75) 32))) ((Gi xs 64) x75)))) 5 (o12_0 4)) 6 (o12_0 5)) 7 (o12_0 6)
section
variable (h:Nat->Int) (xs:Ad)
def IQ (h:Nat->Int) (xs:Ad):Nat->(Nat->Int)
 |0=>h
 |x75+1=>LZ xs x75 (IQ h xs x75)
def LY (x159:Nat):(Nat->Int)->(Nat->Int):=λo2_0=>upd o2_0 x159 (A6 .u32 (o2_0 x159) ((IQ h xs 64) x159))
def Lc (h:Nat->Int) (xs:Ad):Nat->(Nat->Int)
 |0=>h
 |x159+1=>LY h xs x159 (Lc h xs x159)
def Ip:(Nat->Int):=AR (Lc h xs 8)
def aW (z_:(Nat->Int):=Ip h xs):Con:=⟨[.ar .u32 8 h,lb xs],[],.ar .u32 8 z_,[]⟩
theorem Pd (hx:64<=xs.length):AO 163 (aW h xs):=by
 refine cy 0 func163 rfl ntmps163 λY V=>Ak [] 2 V λV=>Ak [] 3 V λV=>Ay [(0,AS (Wi))] [6] 4 V λV=>Ao (Ak [] 4 V λV=>BK (AD (ι:=Nat×(Nat->Int)) Y V (λ(x22,o5_0)=>(64-x22,[(22,vi ((x22:Nat):Int))],[(2,zZ o5_0)],(x22<=64)/\(o5_0=Gi xs x22)/\True)) [1,2,4,5,6] [0,1,3] 4 (0,λ_=>0) [(0,0),(1,1),(2,2),(3,3)] ⟨Ac,rfl,aa⟩ ?_));rintro⟨x22,o5_0⟩ ac gs ws ⟨hx22,hq1,_⟩ V;refine Ak [] 4 V λV=>Ao (AH ((x22:Int)<64) V (λh1=> ?_) (λh1=> ?_))
 ·refine B6 (Ak [] 4 V λV=>Ao (Ak [] 4 V λV=>AH ((x22:Int)<16) V (λh2=> ?_) (λh2=> ?_)))
  ·exact Ay [(3,HV 4 x22 (4*x22)),(4,NJ (4*x22) xs.length),(5,AS (iJ (xs.drop (4*x22)))),(6,AN x22 64)] [] 4 V λV=>cnc (EY (Gy (Ae (Aw [(0,CF x22)] [22] 4 V λV=>Ae (Av Y V (x22+1,upd o5_0 x22 (Tu (xs.drop (4*x22)))) [(0,0),(1,1),(2,2),(3,3)] ⟨Ac,(Bp (st:=IR _) hq1 rfl (Eq.symm (ab h2))),aa⟩)))))
  ·exact BR (Ay [(1,Ie x22 15 (x22-15)),(2,AN (x22-15) 64),(5,Ie x22 2 (x22-2)),(6,AN (x22-2) 64)] [] 4 V λV=>Ay [(1,AS (Fi (o5_0 (x22-15)) (-7))),(3,AS (Fi (o5_0 (x22-15)) (-18))),(6,If 3)] [] 4 V λV=>Ay [(1,AS (Fi (o5_0 (x22-2)) (-17))),(3,AS (Fi (o5_0 (x22-2)) (-19))),(6,If 10)] [] 4 V λV=>Aw [(2,Ie x22 16 (x22-16)),(3,AN (x22-16) 64),(8,Ie x22 7 (x22-7)),(9,AN (x22-7) 64),(14,AN x22 64)] [] 4 V λV=>Cn (Aw [(0,CF x22)] [22] 4 V λV=>Ae (Av Y V (x22+1,upd o5_0 x22 (A6 .u32 (A6 .u32 (A6 .u32 (o5_0 (x22-16)) (AV .u32 (AV .u32 (Cl (o5_0 (x22-15)) (-7)) (Cl (o5_0 (x22-15)) (-18))) (Bi .u32 (o5_0 (x22-15)) 3))) (o5_0 (x22-7))) (AV .u32 (AV .u32 (Cl (o5_0 (x22-2)) (-17)) (Cl (o5_0 (x22-2)) (-19))) (Bi .u32 (o5_0 (x22-2)) 10)))) [(0,0),(1,1),(2,2),(3,3)] ⟨Ac,(Bp (st:=IR _) hq1 rfl (Eq.symm (aj h2))),aa⟩)))
 ·have hT:=V;obtain rfl:64=x22:=by omega
  obtain rfl:=hq1.symm;have V:=hT;refine DF (Ak [12] 5 V λV=>Ao (Ak [] 5 V λV=>BK (AD (ι:=Nat×(Nat->Int)) Y V (λ(x75,o12_0)=>(64-x75,[(75,vi ((x75:Nat):Int))],[(4,sN o12_0)],(x75<=64)/\(o12_0=IQ h xs x75)/\True)) [2,4,5,6,12] [0,1,2,3] 5 (0,h) [(0,0),(1,1),(2,2),(3,3),(4,4)] ⟨Ac,rfl,aa⟩ ?_)));rintro⟨x75,o12_0⟩ ac gs ws ⟨hx75,hq2,_⟩ V;refine Ak [] 5 V λV=>Ao (AH ((x75:Int)<64) V (λh3=> ?_) (λh3=> ?_))
  ·exact B6 (Ak [] 5 V λV=>Ay [(0,AN 0 8),(2,AN 4 8)] [] 5 V λV=>Ay [(1,AS (Fi (o12_0 4) (-6))),(3,AS (Fi (o12_0 4) (-11))),(6,AS (Fi (o12_0 4) (-25)))] [] 5 V λV=>Ay [(0,AN 7 8),(5,AN 5 8),(10,AN 6 8),(16,AN x75 80),(18,If 32),(22,AN x75 64)] [] 5 V λV=>Ay [(1,AS (Fi (o12_0 0) (-2))),(3,AS (Fi (o12_0 0) (-13))),(6,AS (Fi (o12_0 0) (-22)))] [] 5 V λV=>Ay [(2,AN 1 8),(6,AN 2 8),(10,AN 1 8),(12,AN 2 8)] [] 5 V λV=>Aw [(4,AN 1 8),(6,AN 2 8),(8,AN 3 8),(13,AN 5 8),(15,AN 6 8)] [] 5 V λV=>Cn (Aw [(0,CF x75)] [75] 5 V λV=>Ae (Av Y V (x75+1,upd (upd (upd (upd (upd (upd (upd (upd (λ_=>0) 0 (A6 .u32 (A6 .u32 (A6 .u32 (A6 .u32 (A6 .u32 (o12_0 7) (AV .u32 (AV .u32 (Cl (o12_0 4) (-6)) (Cl (o12_0 4) (-11))) (Cl (o12_0 4) (-25)))) (AV .u32 (BI .u32 (o12_0 4) (o12_0 5)) (BI .u32 (Lm .u32 (o12_0 4)) (o12_0 6)))) (IntKind.wrap .u32 (Bi .u64 (Ir x75) 32))) ((Gi xs 64) x75)) (A6 .u32 (AV .u32 (AV .u32 (Cl (o12_0 0) (-2)) (Cl (o12_0 0) (-13))) (Cl (o12_0 0) (-22))) (AV .u32 (AV .u32 (BI .u32 (o12_0 0) (o12_0 1)) (BI .u32 (o12_0 0) (o12_0 2))) (BI .u32 (o12_0 1) (o12_0 2)))))) 1 (o12_0 0)) 2 (o12_0 1)) 3 (o12_0 2)) 4 (A6 .u32 (o12_0 3) (A6 .u32 (A6 .u32 (A6 .u32 (A6 .u32 (o12_0 7) (AV .u32 (AV .u32 (Cl (o12_0 4) (-6)) (Cl (o12_0 4) (-11))) (Cl (o12_0 4) (-25)))) (AV .u32 (BI .u32 (o12_0 4) (o12_0 5)) (BI .u32 (Lm .u32 (o12_0 4)) (o12_0 6)))) (IntKind.wrap .u32 (Bi .u64 (Ir x75) 32))) ((Gi xs 64) x75)))) 5 (o12_0 4)) 6 (o12_0 5)) 7 (o12_0 6)) [(0,0),(1,1),(2,2),(3,3),(4,4)] ⟨Ac,(Bp (st:=LZ _) hq2 rfl rfl),aa⟩)))
  ·have hT:=V;obtain rfl:64=x75:=by omega
   obtain rfl:=hq2.symm;have V:=hT;refine I8 (Ak [] 5 V λV=>BK (AD (ι:=Nat×(Nat->Int)) Y V (λ(x159,o2_0)=>(8-x159,[(159,vi ((x159:Nat):Int))],[(0,sN o2_0)],(x159<=8)/\(o2_0=Lc h xs x159)/\True)) [2,4,12] [1,4] 5 (0,h) [(0,0),(1,1),(4,4)] ⟨Ac,rfl,aa⟩ ?_));rintro⟨x159,o2_0⟩ ac gs ws ⟨hx159,hq3,_⟩ V;refine Ak [] 5 V λV=>Ao (AH ((x159:Int)<8) V (λh4=> ?_) (λh4=> ?_))
   ·exact B6 (Ak [] 5 V λV=>Aw [(1,AN x159 8),(4,AN x159 8),(7,AN x159 8)] [] 5 V λV=>Cn (Aw [(0,CF x159)] [159] 5 V λV=>Ae (Av Y V (x159+1,upd o2_0 x159 (A6 .u32 (o2_0 x159) ((IQ h xs 64) x159))) [(0,0),(1,1),(4,4)] ⟨Ac,(Bp (st:=LY _ _) hq3 rfl rfl),aa⟩)))
   ·have hT:=V;obtain rfl:8=x159:=by omega
    obtain rfl:=hq3.symm;have V:=hT;exact DF (Ak [] 5 V λV=>AU (BX (Ab _) V))
end
section
variable (xs:Ad) (n:Int)
def IC:Ad:=AR ((((xs++([128]:Ad))++replicate ((120-(((xs++([128]:Ad)).length)%64))%64) (0:Int))++replicate 0 (0:Int))++(FZ (BE .u64 8 n)))
def lK (z_:Ad:=IC xs n):Con:=⟨[lb xs,.v (.int .u64 n),vi 64],[],lb z_,[]⟩
theorem ZQ (hx:xs.length<=1000000000000):AO 164 (lK xs n):=by refine cy 0 func164 rfl ntmps164 λY V=>Ak [] 0 V λV=>Ay [(1,AC (aR xs Au) [] [(0,0)]),(3,GJ xs.length 1 1)] [] 2 V λV=>Ay [(1,NI ((8:Int)≠0))] [] 2 V λV=>Ay [(8,M6 ((xs++([128]:Ad)).length) 64),(9,Ie 120 (((xs++([128]:Ad)).length)%64) (120-(((xs++([128]:Ad)).length)%64))),(11,M6 (120-(((xs++([128]:Ad)).length)%64)) 64),(12,mS [(0:Int)<=(((120-(((xs++([128]:Ad)).length)%64))%64:Nat):Int),(xs++([128]:Ad)).length+((120-(((xs++([128]:Ad)).length)%64))%64)<=9223372036854775807,((xs++([128]:Ad)).length+((120-(((xs++([128]:Ad)).length)%64))%64))*1<=140737488355328] ⟨by omega,by simp<;>omega,by simp<;>omega,aa⟩)] [7] 3 V λV=>Ay [(3,mS [(0:Int)<=0,((xs++([128]:Ad))++replicate ((120-(((xs++([128]:Ad)).length)%64))%64) (0:Int)).length+0<=9223372036854775807,(((xs++([128]:Ad))++replicate ((120-(((xs++([128]:Ad)).length)%64))%64) (0:Int)).length+0)*1<=140737488355328] ⟨by omega,by simp<;>omega,by simp<;>omega,aa⟩)] [7] 4 V λV=>Ay [(3,AS (PO (BE .u64 8 n))),(4,GJ ((((xs++([128]:Ad))++replicate ((120-(((xs++([128]:Ad)).length)%64))%64) (0:Int))++replicate 0 (0:Int)).length) ((FZ (BE .u64 8 n)).length) 1)] [] 5 V λV=>AU ?_;obtain⟨gs,V⟩:=V.fz 4;exact BX (Ab _) V
end
def T0 (x0:Nat->Int) (x1:Ad) (x2:Int):O:= .ob 179 (Ag [.ar .u32 8 x0,lb x1,.v (.int .u64 x2)])
theorem WB (xs:Ad) (n:Int):(IC xs n).length%64=0/\(IC xs n).length<=xs.length+200:=by unfold IC;rw[Ab];simp only[ah,aw,av,az,Kq];omega
def R4 (k1:Nat):(Ad×(Nat->Int))->(Ad×(Nat->Int)):=λ(x4,o5_0)=>(x4.drop 64,Ip o5_0 x4)
def Dp (h:Nat->Int) (r b:Ad):Nat->Ad×(Nat->Int)
 |0=>([r,b].flatten,Ns h)
 |k1+1=>R4 k1 (Dp h r b k1)
def FN:(Ad×(Nat->Int))->Prop:=λ(x4,o5_0)=>(64:Int)<=((x4.length:Nat):Int)
section
variable (h:Nat->Int) (r:Ad) (n:Int) (b:Ad)
def D5:(Nat->Int)×Ad×Int:=AR ((Ns ((Dp h r b (DX λj=>FN (Dp h r b j))).2),(Dp h r b (DX λj=>FN (Dp h r b j))).1,(A6 .u64 n ((b.length:Nat):Int))))
def yY (z_:(Nat->Int)×Ad×Int:=D5 h r n b):Con:=⟨[.cp 0 0,lb b],[(0,T0 h r n)],.tu (Ag []),[(0,T0 (z_.1) (z_.2.1) (z_.2.2))]⟩
theorem OG (hr:r.length<=100000000000) (hb:b.length<=100000000000):AO 122 (yY h r n b):=by
 refine cy 1 func122 rfl ntmps122 λY V=>Ao (Ak [] 1 V λV=>Ai V (BR (Ay [(6,Jn b.length)] [] 1 V λV=>Ay [(6,AC (Sa [r,b] (by first |omega|(simp only[bc,cd,ah,aw,av,ao,au,az]<;>omega)|(simp<;>omega))) [] [(0,1)])] [] 2 V λV=>Ay [(3,HU (.ar .u32 8 h) [(.ar .u32 8 h:D)=(.ar .u32 8 h)] ⟨rfl,aa⟩),(4,AS (S5 h))] [5] 3 V λV=>Ao (BK ?_))));obtain⟨gs,V⟩:=V.fz 1;refine AD (ι:=Nat×Ad×(Nat->Int)) Y V (λ(k1,x4,o5_0)=>(x4.length,[(4,lb x4)],[(2,sN o5_0)],((x4,o5_0)=Dp h r b k1)/\(∀j,j<k1->FN (Dp h r b j))/\(x4.length<=r.length+b.length)/\True)) [0,5] [0] 3 (0,[r,b].flatten,Ns h) [(0,0),(2,2)] ⟨rfl,(λj h=>absurd h (bd j)),(by simp),aa⟩ ?_;rintro⟨k1,x4,o5_0⟩ ac gs ws ⟨hq1,hj1,p1,_⟩ V;refine Ao (Ak [] 3 V λV=>AH ((64:Int)<=((x4.length:Nat):Int)) V (λh1=> ?_) (λh1=> ?_))
 ·exact BR (BK (Ay [(0,HU (.ar .u32 8 o5_0) [(.ar .u32 8 o5_0:D)=(.ar .u32 8 o5_0)] ⟨rfl,aa⟩),(2,Jp (Pd o5_0 x4 Au) [] [] [.ar .u32 8 o5_0,lb x4] [])] [] 3 V λV=>Aw [(1,NJ 64 x4.length)] [4] 3 V λV=>Cn (Av Y V (k1+1,x4.drop 64,Ip o5_0 x4) [(0,0),(2,2)] ⟨(Bp (st:=R4) hq1 rfl rfl),(Bf hj1 (by rw[<-hq1];exact h1)),(by rw[au];omega),aa⟩ (show(x4.drop 64).length<x4.length from by rw[au];omega))))
 ·have hT:=V;obtain rfl:=CB (by rw[<-hq1];first |exact h1|exact cq h1) hj1;obtain⟨rfl,rfl⟩:=SU hq1;have V:=hT;exact DF (Aw [(2,HU (.ar .u32 8 ((Dp h r b (DX λj=>FN (Dp h r b j))).2)) [(.ar .u32 8 ((Dp h r b (DX λj=>FN (Dp h r b j))).2):D)=(.ar .u32 8 ((Dp h r b (DX λj=>FN (Dp h r b j))).2))] ⟨rfl,aa⟩),(3,AS (S5 ((Dp h r b (DX λj=>FN (Dp h r b j))).2))),(5,AS (D1 ((Dp h r b (DX λj=>FN (Dp h r b j))).1) Au))] [] 3 V λV=>iO (Ab _) V)
end
def R3 (k1:Nat):(Ad×(Nat->Int))->(Ad×(Nat->Int)):=λ(x4,o3_0)=>(x4.drop 64,Ip o3_0 x4)
def F7 (h:Nat->Int) (r:Ad) (n:Int):Nat->Ad×(Nat->Int)
 |0=>(IC r n,Ns h)
 |k1+1=>R3 k1 (F7 h r n k1)
def IH:(Ad×(Nat->Int))->Prop:=λ(x4,o3_0)=>(0:Int)<((x4.length:Nat):Int)
section
variable (h:Nat->Int) (r:Ad) (n:Int)
def R1 (x32:Nat):Ad->Ad:=λx2=>x2++(Dz (((F7 h r n (DX λj=>IH (F7 h r n j))).2) x32))
def KC (h:Nat->Int) (r:Ad) (n:Int):Nat->Ad
 |0=>[]
 |x32+1=>R1 h r n x32 (KC h r n x32)
def Ff:Ad:=AR (KC h r n 8)
end
@[simp] theorem Vt (h:Nat->Int) (r:Ad) (n:Int):(Ff h r n).length=32:=by
 have key:∀i,(KC h r n i).length=4*i:=by
  intro i
  induction i with
  |zero=>rfl
  |succ i ih=>show(KC h r n i++Dz _).length=_;rw[ah,Gm,ih];omega
 unfold Ff;rw[Ab];exact key 8
section
variable (h:Nat->Int) (r:Ad) (n:Int)
def yX (z_:Ad:=Ff h r n):Con:=⟨[.cp 0 0],[(0,T0 h r n)],.sk 1,[(0,T0 h r n),(1,.sl 5 Bb z_)]⟩
theorem YG (hr:r.length<=100000000000):AO 125 (yX h r n):=by
 refine cy 1 func125 rfl ntmps125 λY V=>Ak [] 1 V λV=>Ao (Ak [] 1 V λV=>Ai V (BR (Ay [(3,HU (.ar .u32 8 h) [(.ar .u32 8 h:D)=(.ar .u32 8 h)] ⟨rfl,aa⟩),(4,AS (S5 h))] [3] 2 V λV=>Ao (Ay [(8,AS (ZQ r n Au))] [] 2 V λV=>BK (AD (ι:=Nat×Ad×(Nat->Int)) Y V (λ(k1,x4,o3_0)=>(x4.length,[(4,lb x4)],[(1,sN o3_0)],((x4,o3_0)=F7 h r n k1)/\(∀j,j<k1->IH (F7 h r n j))/\(x4.length%64=0/\x4.length<=r.length+200)/\True)) [2,3] [0] 2 (0,IC r n,Ns h) [(0,0),(1,1)] ⟨rfl,(λj h=>absurd h (bd j)),(WB r n),aa⟩ ?_)))));rintro⟨k1,x4,o3_0⟩ ac gs ws ⟨hq1,hj1,p1,_⟩ V;refine Ao (Ak [] 2 V λV=>AH ((0:Int)<((x4.length:Nat):Int)) V (λh1=> ?_) (λh1=> ?_))
 ·exact B6 (Aw [(0,HU (.ar .u32 8 o3_0) [(.ar .u32 8 o3_0:D)=(.ar .u32 8 o3_0)] ⟨rfl,aa⟩),(2,Jp (Pd o3_0 x4 Au) [] [] [.ar .u32 8 o3_0,lb x4] [])] [] 2 V λV=>Cn (Aw [(1,NJ 64 x4.length)] [4] 2 V λV=>Ae (Av Y V (k1+1,x4.drop 64,Ip o3_0 x4) [(0,0),(1,1)] ⟨(Bp (st:=R3) hq1 rfl rfl),(Bf hj1 (by rw[<-hq1];exact h1)),(by rw[au];omega),aa⟩ (show(x4.drop 64).length<x4.length from by rw[au];omega))))
 ·have hT:=V;obtain rfl:=CB (by rw[<-hq1];first |exact h1|exact cq h1) hj1;obtain⟨rfl,rfl⟩:=SU hq1;have V:=hT;refine I8 (Ak [] 2 V λV=>BK ?_);obtain⟨gs,V⟩:=V.nilk 2 5 Bb;refine AD (ι:=Nat×Ad) Y V (λ(x32,x2)=>(8-x32,[(32,vi ((x32:Nat):Int))],[(2,.sl 5 Bb x2)],(x32<=8)/\(x2=KC h r n x32)/\(x2.length=4*x32)/\True)) [2,31] [0] 3 (0,[]) [(0,0),(2,2)] ⟨Ac,rfl,rfl,aa⟩ ?_;rintro⟨x32,x2⟩ ac gs ws ⟨hx32,hq2,p2,_⟩ V;refine Ak [] 3 V λV=>Ao (AH ((x32:Int)<8) V (λh2=> ?_) (λh2=> ?_))
  ·exact B6 (Ay [(0,AN x32 8)] [] 3 V λV=>Aw [(2,AS (U0 (((F7 h r n (DX λj=>IH (F7 h r n j))).2) x32))),(3,GJ x2.length ((Dz (((F7 h r n (DX λj=>IH (F7 h r n j))).2) x32)).length) 1 (by(simp only[Gm,av];omega)))] [2] 4 V λV=>Cn (Aw [(0,CF x32)] [32] 4 V λV=>Ae (Av Y V (x32+1,x2++(Dz (((F7 h r n (DX λj=>IH (F7 h r n j))).2) x32))) [(0,0),(2,3)] ⟨Ac,(Bp (st:=R1 _ _ _) hq2 rfl rfl),(by rw[ah,Gm];omega),aa⟩)))
  ·have hT:=V;obtain rfl:8=x32:=by omega
   obtain rfl:=hq2.symm;have V:=hT;refine DF (Ak [2] 3 V λV=>AU ?_);obtain⟨gs,V⟩:=V.rx [(0,0),(1,2)] [2] [0,1] 2 Y;exact BX (Ab _) V
theorem iE (hr:r.length<=100000000000):AO 125 ⟨[.cp 0 0],[(0,T0 h r n)],lb (Ff h r n),[(0,T0 h r n)]⟩:=ConOk.frz [(0,T0 h r n)] 1 5 Bb (Ff h r n) (YG h r n hr) (by kernel_rfl)
theorem Vu (hr:r.length<=100000000000):AO 124 ⟨[.im (Ag [.ar .u32 8 h,lb r,.v (.int .u64 n)]) 0],[],.cp 0 0,[(0,T0 h r n)]⟩:=by exact cy 0 func124 rfl ntmps124 λY V=>Ak [] 0 V λV=>Ao (Ak [] 0 V λV=>Ai V (BR (Ay [(3,HU (.ar .u32 8 h) [(.ar .u32 8 h:D)=(.ar .u32 8 h)] ⟨rfl,aa⟩),(8,AS (D1 r Au))] [] 1 V λV=>AU (BN V))))
end
theorem MG (h:Nat->Int) (r:Ad) (n:Int) (b:Ad):(D5 h r n b).2.1.length<=r.length+b.length:=by
 have key:∀k,(Dp h r b k).1.length<=r.length+b.length:=by
  intro k
  induction k with
  |zero=>show[r,b].flatten.length<=_;simp
  |succ k ih=>show((Dp h r b k).1.drop 64).length<=_;rw[au];omega
 unfold D5;rw[Ab];exact key _
def NY (x22:Nat):((Nat->Int)×(Nat->Int))->((Nat->Int)×(Nat->Int)):=λ(o4_0,o5_0)=>(upd o4_0 x22 (AV .u8 (o4_0 x22) 54),upd o5_0 x22 (AV .u8 (o4_0 x22) 92))
section
variable (key:Ad)
def DN (key:Ad):Nat->(Nat->Int)×(Nat->Int)
 |0=>(Ek (λ_=>0) 0 (min key.length 64) (λj=>key.getD j 0),λ_=>0)
 |x22+1=>NY x22 (DN key x22)
def Am:(Nat->Int)×Ad×Int×(Nat->Int)×Ad×Int:=AR (((D5 (λ_=>0) ([]:Ad) 0 ((List.range 64).map (DN key 64).1)).1,(D5 (λ_=>0) ([]:Ad) 0 ((List.range 64).map (DN key 64).1)).2.1,((D5 (λ_=>0) ([]:Ad) 0 ((List.range 64).map (DN key 64).1)).2.2),(D5 (λ_=>0) ([]:Ad) 0 ((List.range 64).map (DN key 64).2)).1,(D5 (λ_=>0) ([]:Ad) 0 ((List.range 64).map (DN key 64).2)).2.1,((D5 (λ_=>0) ([]:Ad) 0 ((List.range 64).map (DN key 64).2)).2.2)))
theorem Dg:(Am key).2.1.length<=64/\(Am key).2.2.2.2.1.length<=64:=by unfold Am;rw[Ab];have h1:=MG (λ_=>0) [] 0 ((List.range 64).map (DN key 64).1);have h2:=MG (λ_=>0) [] 0 ((List.range 64).map (DN key 64).2);simp only[av,cg,d_]at h1 h2;rw[bu]at h1 h2;exact⟨h1,h2⟩
def lL (z_:(Nat->Int)×Ad×Int×(Nat->Int)×Ad×Int:=Am key):Con:=⟨[lb key],[],.im (Ag [.im (Ag [.ar .u32 8 (z_.1),lb (z_.2.1),.v (.int .u64 (z_.2.2.1))]) 0,.im (Ag [.ar .u32 8 (z_.2.2.2.1),lb (z_.2.2.2.2.1),.v (.int .u64 (z_.2.2.2.2.2))]) 0]) 0,[]⟩
theorem ID (hk:key.length<=64):AO 85 (lL key):=by
 refine cy 0 func85 rfl ntmps85 λY V=> ?_;have hf:¬(64:Int)<((key.length:Nat):Int):=Ac;refine Ak [] 0 V λV=>Ao (Ay [(2,CH hf)] [] 0 V λV=>Ai V (BR (Ak [] 3 V λV=>Ak [] 5 V λV=>Ay [(0,mS [FG none none none 64 64,64<=9223372036854775807,bl none 0<bl none 64] ⟨⟨by simp only[Gq]<;>omega,by simp only[Gq]<;>omega,by simp only[Gq]<;>omega,by simp,by simp only[bl]<;>omega,by simp only[bl]<;>omega,by simp only[bl]<;>omega⟩,by omega,by decide,aa⟩)] [] 5 V λV=>Ao (Ak [] 5 V λV=>BK (AD (ι:=Nat×(Nat->Int)×(Nat->Int)) Y V (λ(x22,o4_0,o5_0)=>(64-x22,[(22,vi ((x22:Nat):Int))],[(3,.ob 182 (Ag [.ar .u8 64 o4_0])),(4,.ob 182 (Ag [.ar .u8 64 o5_0]))],(x22<=64)/\((o4_0,o5_0)=DN key x22)/\True)) [2,3,4,5] [0,1,2] 5 (0,Ek (λ_=>0) 0 (min key.length 64) (λj=>key.getD j 0),λ_=>0) [(0,0),(1,1),(2,2),(3,3),(4,4)] ⟨Ac,rfl,aa⟩ ?_)))));rintro⟨x22,o4_0,o5_0⟩ ac gs ws ⟨hx22,hq1,_⟩ V;refine Ak [] 5 V λV=>Ao (AH ((x22:Int)<64) V (λh1=> ?_) (λh1=> ?_))
 ·exact B6 (Ak [] 5 V λV=>Aw [(3,AN x22 64),(7,AN x22 64),(10,AN x22 64),(12,AN x22 64)] [] 5 V λV=>Cn (Aw [(0,CF x22)] [22] 5 V λV=>Ae (Av Y V (x22+1,upd o4_0 x22 (AV .u8 (o4_0 x22) 54),upd o5_0 x22 (AV .u8 (o4_0 x22) 92)) [(0,0),(1,1),(2,2),(3,3),(4,4)] ⟨Ac,(Bp (st:=NY) hq1 rfl rfl),aa⟩)))
 ·have hT:=V;obtain rfl:64=x22:=by omega
  obtain⟨rfl,rfl⟩:=SU hq1;have V:=hT;refine I8 ?_;have V:=V.wko 0 [.top,lb [],.top];refine Aw [(4,QP .frz [] aa),(5,AC (OG (λ_=>0) ([]:Ad) 0 ((List.range 64).map (DN key 64).1) Au Au) [(0,0)] [])] [] 5 V λV=>CV ?_;have V:=V.wko 1 [.top,lb [],.top];refine Aw [(4,QP .frz [] aa),(5,AC (OG (λ_=>0) ([]:Ad) 0 ((List.range 64).map (DN key 64).2) Au Au) [(0,1)] [])] [] 5 V λV=> ?_;obtain⟨gs,V⟩:=V.im 0;obtain⟨gs,V⟩:=V.im 1;obtain⟨gs,V⟩:=V.im 2;exact Ae (Ak [] 5 V λV=>AU (BX (Ab _) V))
end
def RZ (l:AZ) (x30:Nat):((Nat->Int)×Ad×Int)->((Nat->Int)×Ad×Int):=λ(o5_0,o5_1,o5_2)=>((D5 o5_0 o5_1 o5_2 (l.getD x30 AW)).1,(D5 o5_0 o5_1 o5_2 (l.getD x30 AW)).2.1,((D5 o5_0 o5_1 o5_2 (l.getD x30 AW)).2.2))
section
variable (u1:Nat->Int) (r1:Ad) (n1:Int)
def Ca (u1:Nat->Int) (r1:Ad) (n1:Int) (l:AZ):Nat->(Nat->Int)×Ad×Int
 |0=>(u1,r1,n1)
 |x30+1=>RZ l x30 (Ca u1 r1 n1 l x30)
def C9 (u2:Nat->Int) (r2:Ad) (n2:Int) (l:AZ):Ad:=AR (Ff ((D5 u2 r2 n2 (Ff (Ca u1 r1 n1 l l.length).1 (Ca u1 r1 n1 l l.length).2.1 (Ca u1 r1 n1 l l.length).2.2)).1) ((D5 u2 r2 n2 (Ff (Ca u1 r1 n1 l l.length).1 (Ca u1 r1 n1 l l.length).2.1 (Ca u1 r1 n1 l l.length).2.2)).2.1) ((D5 u2 r2 n2 (Ff (Ca u1 r1 n1 l l.length).1 (Ca u1 r1 n1 l l.length).2.1 (Ca u1 r1 n1 l l.length).2.2)).2.2))
def yV (u2:Nat->Int) (r2:Ad) (n2:Int) (l:AZ) (z_:Ad:=C9 u1 r1 n1 u2 r2 n2 l):Con:=⟨[.im (Ag [.im (Ag [.ar .u32 8 u1,lb r1,.v (.int .u64 n1)]) 0,.im (Ag [.ar .u32 8 u2,lb r2,.v (.int .u64 n2)]) 0]) 0,.ls false A0 l],[],.sk 0,[(0,.sl 5 Bb z_)]⟩
theorem Yx (u2:Nat->Int) (r2:Ad) (n2:Int) (l:AZ) (hr1:r1.length<=64) (hr2:r2.length<=64) (hl:l.flatten.length<=50000000000):AO 86 (yV u1 r1 n1 u2 r2 n2 l):=by
 refine cy 0 func86 rfl ntmps86 λY V=> ?_;have Fo:l.length<=9223372036854775807:=V.len 1 rfl;refine Ak [] 0 V λV=>Ao (Ak [] 0 V λV=>Ai V (DZ (Ak [] 0 V λV=>Ai V (BR (Ay [(4,AC (Vu u1 r1 n1 Au) [] [(0,0)]),(9,AC (Vu u2 r2 n2 Au) [] [(0,1)])] [] 2 V λV=>Ao (Ak [28] 2 V λV=>BK (AD (ι:=Nat×(Nat->Int)×Ad×Int) Y V (λ(x30,o5_0,o5_1,o5_2)=>(l.length-x30,[(30,vi ((x30:Nat):Int))],[(0,T0 o5_0 o5_1 o5_2)],(x30<=l.length)/\((o5_0,o5_1,o5_2)=Ca u1 r1 n1 l x30)/\(o5_1.length<=r1.length+(l.take x30).flatten.length)/\True)) [4,5,6,28,29] [1] 2 (0,u1,r1,n1) [(0,0),(1,1)] ⟨Ac,rfl,(by simp),aa⟩ ?_)))))));rintro⟨x30,o5_0,o5_1,o5_2⟩ ac gs ws ⟨hx30,hq1,p1,_⟩ V;refine Ak [] 2 V λV=>Ao (AH ((x30:Int)<((l.length:Nat):Int)) V (λh1=> ?_) (λh1=> ?_))
 ·refine B6 (Ay [(0,AN x30 l.length)] [] 2 V λV=> ?_);have hb:=Xf (l:=l) (j:=x30) Ac hl;exact Aw [(2,AC (OG o5_0 o5_1 o5_2 (l.getD x30 AW) Au Au) [(0,0)] [])] [] 2 V λV=>Cn (Aw [(0,CF x30)] [30] 2 V λV=>Ae (Av Y V (x30+1,(D5 o5_0 o5_1 o5_2 (l.getD x30 AW)).1,(D5 o5_0 o5_1 o5_2 (l.getD x30 AW)).2.1,((D5 o5_0 o5_1 o5_2 (l.getD x30 AW)).2.2)) [(0,0),(1,1)] ⟨Ac,(Bp (st:=RZ _) hq1 rfl rfl),(by have hc:=TO l x30 Ac;have ha:=MG o5_0 o5_1 o5_2 (l.getD x30 AW);omega),aa⟩))
 ·have hT:=V;obtain rfl:l.length=x30:=by omega
  obtain⟨rfl,rfl,rfl⟩:=fE hq1;have V:=hT;refine I8 ?_;rw[e_]at p1;refine Aw [(2,AC (iE (Ca u1 r1 n1 l l.length).1 (Ca u1 r1 n1 l l.length).2.1 (Ca u1 r1 n1 l l.length).2.2 Au) [(0,0)] []),(3,AC (OG u2 r2 n2 (Ff (Ca u1 r1 n1 l l.length).1 (Ca u1 r1 n1 l l.length).2.1 (Ca u1 r1 n1 l l.length).2.2) Au Au) [(0,1)] [])] [] 2 V λV=>CV ?_;have hx:=MG u2 r2 n2 (Ff (Ca u1 r1 n1 l l.length).1 (Ca u1 r1 n1 l l.length).2.1 (Ca u1 r1 n1 l l.length).2.2);rw[Vt]at hx;refine Aw [(1,AC (YG ((D5 u2 r2 n2 (Ff (Ca u1 r1 n1 l l.length).1 (Ca u1 r1 n1 l l.length).2.1 (Ca u1 r1 n1 l l.length).2.2)).1) ((D5 u2 r2 n2 (Ff (Ca u1 r1 n1 l l.length).1 (Ca u1 r1 n1 l l.length).2.1 (Ca u1 r1 n1 l l.length).2.2)).2.1) ((D5 u2 r2 n2 (Ff (Ca u1 r1 n1 l l.length).1 (Ca u1 r1 n1 l l.length).2.1 (Ca u1 r1 n1 l l.length).2.2)).2.2) Au) [(0,1)] [(1,2)])] [] 3 V λV=>Fa ?_;obtain⟨gs,V⟩:=V.rx [(0,2)] [4] [0] 1 Y;exact BX (Ab _) V
theorem JW (u2:Nat->Int) (r2:Ad) (n2:Int) (l:AZ) (hr1:r1.length<=64) (hr2:r2.length<=64) (hl:l.flatten.length<=50000000000):AO 86 ⟨[.im (Ag [.im (Ag [.ar .u32 8 u1,lb r1,.v (.int .u64 n1)]) 0,.im (Ag [.ar .u32 8 u2,lb r2,.v (.int .u64 n2)]) 0]) 0,.ls false A0 l],[],lb (C9 u1 r1 n1 u2 r2 n2 l),[]⟩:=ConOk.frz [] 0 5 Bb (C9 u1 r1 n1 u2 r2 n2 l) (Yx u1 r1 n1 u2 r2 n2 l hr1 hr2 hl) (by kernel_rfl)
end
@[simp] theorem CO (u1:Nat->Int) (r1:Ad) (n1:Int) (u2:Nat->Int) (r2:Ad) (n2:Int) (l:AZ):(C9 u1 r1 n1 u2 r2 n2 l).length=32:=by unfold C9;rw[Ab];exact Vt ..
def Vj (key:Ad) (l:AZ):Ad:=AR (C9 (Am key).1 (Am key).2.1 (Am key).2.2.1 (Am key).2.2.2.1 (Am key).2.2.2.2.1 (Am key).2.2.2.2.2 l)
@[simp] theorem Td (key:Ad) (l:AZ):(Vj key l).length=32:=by unfold Vj;rw[Ab];exact CO ..
section
variable (key:Ad) (l:AZ)
def AbD (z_:Ad:=Vj key l):Con:=⟨[lb key,.ls false A0 l],[],lb z_,[]⟩
theorem wF (hk:key.length<=64) (hl:l.flatten.length<=50000000000):AO 123 (AbD key l):=by exact cy 0 func123 rfl ntmps123 λY V=>Ak [] 0 V λV=>Ay [(1,AS (ID key Au)),(3,AS (JW (Am key).1 (Am key).2.1 (Am key).2.2.1 (Am key).2.2.2.1 (Am key).2.2.2.2.1 (Am key).2.2.2.2.2 l (Dg _).1 (Dg _).2 (by first |assumption|omega|(simp only[bc,cd,ah,aw,av]<;>omega)|(simp<;>omega))))] [] 0 V λV=>AU (BX (Ab _) V)
end
def gH (l:AZ):Ad:=AR (C9 ((Am ([]:Ad)).1) ((Am ([]:Ad)).2.1) ((Am ([]:Ad)).2.2.1) ((Am ([]:Ad)).2.2.2.1) ((Am ([]:Ad)).2.2.2.2.1) ((Am ([]:Ad)).2.2.2.2.2) l)
@[simp] theorem P8 (l:AZ):(gH l).length=32:=by unfold gH;rw[Ab];exact CO ..
def E7 (key ikm:Ad):Ad:=AR (Vj key [ikm])
@[simp] theorem tP (key:Ad) (ikm:Ad):(E7 key ikm).length=32:=by unfold E7;rw[Ab];exact Td ..
section
variable (key ikm:Ad)
def bD (z_:Ad:=E7 key ikm):Con:=⟨[lb key,lb ikm],[],lb z_,[]⟩
theorem Lz (hk:key.length<=64) (hi:ikm.length<=1000000000):AO 113 (bD key ikm):=by exact cy 0 func113 rfl ntmps113 λY V=>Ak [] 0 V λV=>Ay [(3,AS (wF key [ikm] Au (by first |assumption|omega|(simp only[bc,cd,ah,aw,av]<;>omega)|(simp<;>omega))))] [] 0 V λV=>AU (BX (Ab _) V)
end
def Qm (ikm:Ad):Ad:=AR (Vj ([]:Ad) [ikm])
@[simp] theorem qE (ikm:Ad):(Qm ikm).length=32:=by unfold Qm;rw[Ab];exact P8 ..
def K4 (key info:Ad) (k1:Nat):(Int×Ad×Ad)->(Int×Ad×Ad):=λ(x10,x8,x9)=>((A6 .u8 x10 1),x8++(C9 (Am key).1 (Am key).2.1 (Am key).2.2.1 (Am key).2.2.2.1 (Am key).2.2.2.2.1 (Am key).2.2.2.2.2 [x9,info,[x10]]),C9 (Am key).1 (Am key).2.1 (Am key).2.2.1 (Am key).2.2.2.1 (Am key).2.2.2.2.1 (Am key).2.2.2.2.2 [x9,info,[x10]])
def Cr (key info:Ad):Nat->Int×Ad×Ad
 |0=>(1,[],[])
 |k1+1=>K4 key info k1 (Cr key info k1)
def Fs:(Int×Ad×Ad)->Prop:=λ(x10,x8,x9)=>((x8.length:Nat):Int)<32
def HO (key info:Ad):Ad:=AR ([]++(((Cr key info (DX λj=>Fs (Cr key info j))).2.1).take 32))
theorem I7 (key info:Ad):∀k,(Cr key info k).2.1.length=32*k
 |0=>rfl
 |k+1=>by show((Cr key info k).2.1++C9 _ _ _ _ _ _ _).length=_;rw[ah,CO,I7 key info k];omega
@[simp] theorem TB (key info:Ad):(HO key info).length=32:=by
 have h:(DX λj=>Fs (Cr key info j))=1:=by
  refine(CB ?_ ?_).symm
  ·show¬(((Cr key info 1).2.1.length:Nat):Int)<32;rw[I7];omega
  ·intro j hj;show(((Cr key info j).2.1.length:Nat):Int)<32;rw[I7];omega
 unfold HO;rw[Ab];rw[h,dx,ao,I7];omega
section
variable (key info:Ad)
def Xp (z_:Ad:=HO key info):Con:=⟨[lb key,lb info,vi 32],[],lb z_,[]⟩
theorem N3 (hk:key.length<=64) (hf:info.length<=1000000000):AO 112 (Xp key info):=by
 refine cy 0 func112 rfl ntmps112 λY V=>Ak [] 0 V λV=>Ao (Ak [] 0 V λV=>Ai V (BR (Ay [(1,AS (ID key Au))] [] 0 V λV=>Ak [] 0 V λV=>Ao (Ak [] 0 V λV=>BK ?_))));obtain⟨gs,V⟩:=V.nilk 8 5 Bb;have V:=V.wk 9 (lb []);refine AD (ι:=Nat×Int×Ad×Ad) Y V (λ(k1,x10,x8,x9)=>(32-x8.length,[(9,lb x9),(10,.v (.int .u8 x10))],[(0,.sl 5 Bb x8)],((x10,x8,x9)=Cr key info k1)/\(∀j,j<k1->Fs (Cr key info j))/\(x9.length<=32)/\(x8.length=32*k1)/\True)) [1,2,6,7,8] [] 1 (0,1,[],[]) [(0,0)] ⟨rfl,(λj h=>absurd h (bd j)),(by simp),rfl,aa⟩ ?_;rintro⟨k1,x10,x8,x9⟩ ac gs ws ⟨hq1,hj1,p1,p2,_⟩ V;refine Ao (Ak [] 1 V λV=>AH (((x8.length:Nat):Int)<32) V (λh1=> ?_) (λh1=> ?_))
 ·exact B6 (Ay [(6,AS (JW (Am key).1 (Am key).2.1 (Am key).2.2.1 (Am key).2.2.2.1 (Am key).2.2.2.2.1 (Am key).2.2.2.2.2 [x9,info,[x10]] (Dg _).1 (Dg _).2 (by first |assumption|omega|(simp only[bc,cd,ah,aw,av,CO,Td,P8]<;>omega)|(simp<;>omega))))] [9] 1 V λV=>Aw [(2,GJ x8.length ((C9 (Am key).1 (Am key).2.1 (Am key).2.2.1 (Am key).2.2.2.1 (Am key).2.2.2.2.1 (Am key).2.2.2.2.2 [x9,info,[x10]]).length) 1 (by(first |omega|(rw[CO];omega)|(simp only[av,ao];omega))))] [8] 2 V λV=>Cn (CW [10] 2 V λV=>Ae (Av Y V (k1+1,(A6 .u8 x10 1),x8++(C9 (Am key).1 (Am key).2.1 (Am key).2.2.1 (Am key).2.2.2.1 (Am key).2.2.2.2.1 (Am key).2.2.2.2.2 [x9,info,[x10]]),C9 (Am key).1 (Am key).2.1 (Am key).2.2.1 (Am key).2.2.2.1 (Am key).2.2.2.2.1 (Am key).2.2.2.2.2 [x9,info,[x10]]) [(0,1)] ⟨(Bp (st:=K4 _ _) hq1 rfl rfl),(Bf hj1 (by rw[<-hq1];exact h1)),(by rw[CO];omega),(by rw[ah,CO];omega),aa⟩ (show 32-(x8++C9 _ _ _ _ _ _ _).length<32-x8.length from by rw[ah,CO];omega))))
 ·have hT:=V;obtain rfl:=CB (by rw[<-hq1];first |exact h1|exact cq h1) hj1;obtain⟨rfl,rfl,rfl⟩:=fE hq1;have V:=hT;refine I8 ?_;obtain⟨gs,V⟩:=V.fz 0;refine Aw [(2,Zi 32 ((Cr key info (DX λj=>Fs (Cr key info j))).2.1).length),(3,GJ 0 ((((Cr key info (DX λj=>Fs (Cr key info j))).2.1).take 32).length) 1 (by(first |omega|(rw[CO];omega)|(simp only[av,ao];omega))))] [] 2 V λV=>Fa ?_;obtain⟨gs,V⟩:=V.fz 1;exact BX (Ab _) V
def K3 (k1:Nat):(Int×Ad×Ad)->(Int×Ad×Ad):=λ(x10,x8,x9)=>((A6 .u8 x10 1),x8++(C9 (Am key).1 (Am key).2.1 (Am key).2.2.1 (Am key).2.2.2.1 (Am key).2.2.2.2.1 (Am key).2.2.2.2.2 [x9,info,[x10]]),C9 (Am key).1 (Am key).2.1 (Am key).2.2.1 (Am key).2.2.2.1 (Am key).2.2.2.2.1 (Am key).2.2.2.2.2 [x9,info,[x10]])
end
def Cg (key info:Ad):Nat->Int×Ad×Ad
 |0=>(1,[],[])
 |k1+1=>K3 key info k1 (Cg key info k1)
def Fq:(Int×Ad×Ad)->Prop:=λ(x10,x8,x9)=>((x8.length:Nat):Int)<64
def Gu (key info:Ad):Ad:=AR ([]++(((Cg key info (DX λj=>Fq (Cg key info j))).2.1).take 64))
theorem I6 (key info:Ad):∀k,(Cg key info k).2.1.length=32*k
 |0=>rfl
 |k+1=>by show((Cg key info k).2.1++C9 _ _ _ _ _ _ _).length=_;rw[ah,CO,I6 key info k];omega
@[simp] theorem TA (key info:Ad):(Gu key info).length=64:=by
 have h:(DX λj=>Fq (Cg key info j))=2:=by
  refine(CB ?_ ?_).symm
  ·show¬(((Cg key info 2).2.1.length:Nat):Int)<64;rw[I6];omega
  ·intro j hj;show(((Cg key info j).2.1.length:Nat):Int)<64;rw[I6];omega
 unfold Gu;rw[Ab];rw[h,dx,ao,I6];omega
section
variable (key info:Ad)
def Xo (z_:Ad:=Gu key info):Con:=⟨[lb key,lb info,vi 64],[],lb z_,[]⟩
theorem Vy (hk:key.length<=64) (hf:info.length<=1000000000):AO 112 (Xo key info):=by
 refine cy 0 func112 rfl ntmps112 λY V=>Ak [] 0 V λV=>Ao (Ak [] 0 V λV=>Ai V (BR (Ay [(1,AS (ID key Au))] [] 0 V λV=>Ak [] 0 V λV=>Ao (Ak [] 0 V λV=>BK ?_))));obtain⟨gs,V⟩:=V.nilk 8 5 Bb;have V:=V.wk 9 (lb []);refine AD (ι:=Nat×Int×Ad×Ad) Y V (λ(k1,x10,x8,x9)=>(64-x8.length,[(9,lb x9),(10,.v (.int .u8 x10))],[(0,.sl 5 Bb x8)],((x10,x8,x9)=Cg key info k1)/\(∀j,j<k1->Fq (Cg key info j))/\(x9.length<=32)/\(x8.length=32*k1)/\True)) [1,2,6,7,8] [] 1 (0,1,[],[]) [(0,0)] ⟨rfl,(λj h=>absurd h (bd j)),(by simp),rfl,aa⟩ ?_;rintro⟨k1,x10,x8,x9⟩ ac gs ws ⟨hq1,hj1,p1,p2,_⟩ V;refine Ao (Ak [] 1 V λV=>AH (((x8.length:Nat):Int)<64) V (λh1=> ?_) (λh1=> ?_))
 ·exact B6 (Ay [(6,AS (JW (Am key).1 (Am key).2.1 (Am key).2.2.1 (Am key).2.2.2.1 (Am key).2.2.2.2.1 (Am key).2.2.2.2.2 [x9,info,[x10]] (Dg _).1 (Dg _).2 (by first |assumption|omega|(simp only[bc,cd,ah,aw,av,CO,Td,P8]<;>omega)|(simp<;>omega))))] [9] 1 V λV=>Aw [(2,GJ x8.length ((C9 (Am key).1 (Am key).2.1 (Am key).2.2.1 (Am key).2.2.2.1 (Am key).2.2.2.2.1 (Am key).2.2.2.2.2 [x9,info,[x10]]).length) 1 (by(first |omega|(rw[CO];omega)|(simp only[av,ao];omega))))] [8] 2 V λV=>Cn (CW [10] 2 V λV=>Ae (Av Y V (k1+1,(A6 .u8 x10 1),x8++(C9 (Am key).1 (Am key).2.1 (Am key).2.2.1 (Am key).2.2.2.1 (Am key).2.2.2.2.1 (Am key).2.2.2.2.2 [x9,info,[x10]]),C9 (Am key).1 (Am key).2.1 (Am key).2.2.1 (Am key).2.2.2.1 (Am key).2.2.2.2.1 (Am key).2.2.2.2.2 [x9,info,[x10]]) [(0,1)] ⟨(Bp (st:=K3 _ _) hq1 rfl rfl),(Bf hj1 (by rw[<-hq1];exact h1)),(by rw[CO];omega),(by rw[ah,CO];omega),aa⟩ (show 64-(x8++C9 _ _ _ _ _ _ _).length<64-x8.length from by rw[ah,CO];omega))))
 ·have hT:=V;obtain rfl:=CB (by rw[<-hq1];first |exact h1|exact cq h1) hj1;obtain⟨rfl,rfl,rfl⟩:=fE hq1;have V:=hT;refine I8 ?_;obtain⟨gs,V⟩:=V.fz 0;refine Aw [(2,Zi 64 ((Cg key info (DX λj=>Fq (Cg key info j))).2.1).length),(3,GJ 0 ((((Cg key info (DX λj=>Fq (Cg key info j))).2.1).take 64).length) 1 (by(first |omega|(rw[CO];omega)|(simp only[av,ao];omega))))] [] 2 V λV=>Fa ?_;obtain⟨gs,V⟩:=V.fz 1;exact BX (Ab _) V
end
def AT (key ikm info:Ad):Ad:=AR (HO (E7 key ikm) info)
@[simp] theorem F9 (key:Ad) (ikm info:Ad):(AT key ikm info).length=32:=by unfold AT;rw[Ab];exact TB ..
section
variable (key ikm info:Ad)
def Xs (z_:Ad:=AT key ikm info):Con:=⟨[lb key,lb ikm,lb info,vi 32],[],lb z_,[]⟩
theorem FP (hk:key.length<=64) (hi:ikm.length<=1000000000) (hf:info.length<=1000000000):AO 75 (Xs key ikm info):=by exact cy 0 func75 rfl ntmps75 λY V=>Ak [] 0 V λV=>Ay [(2,AS (Lz key ikm Au Au)),(5,AS (N3 (E7 key ikm) info Au Au))] [] 0 V λV=>AU (BX (Ab _) V)
end
section
variable (ikm info:Ad)
def TI:Ad:=AR (HO (E7 ([]:Ad) ikm) info)
def TT (z_:Ad:=TI ikm info):Con:=⟨[.v (.slice none 0 0),lb ikm,lb info,vi 32],[],lb z_,[]⟩
theorem m6 (hi:ikm.length<=1000000000) (hf:info.length<=1000000000):AO 75 (TT ikm info):=by exact cy 0 func75 rfl ntmps75 λY V=>Ak [] 0 V λV=>Ay [(2,AS (Lz ([]:Ad) ikm Au Au)),(5,AS (N3 (E7 ([]:Ad) ikm) info Au Au))] [] 0 V λV=>AU (BX (Ab _) V)
def BO:Ad:=AR (Gu (E7 ([]:Ad) ikm) info)
end
@[simp] theorem J5 (ikm info:Ad):(BO ikm info).length=64:=by unfold BO;rw[Ab];exact TA ..
section
variable (ikm info:Ad)
def TS (z_:Ad:=BO ikm info):Con:=⟨[.v (.slice none 0 0),lb ikm,lb info,vi 64],[],lb z_,[]⟩
theorem QY (hi:ikm.length<=1000000000) (hf:info.length<=1000000000):AO 75 (TS ikm info):=by exact cy 0 func75 rfl ntmps75 λY V=>Ak [] 0 V λV=>Ay [(2,AS (Lz ([]:Ad) ikm Au Au)),(5,AS (Vy (E7 ([]:Ad) ikm) info Au Au))] [] 0 V λV=>AU (BX (Ab _) V)
end
end
end Go.Sx.Tryz
