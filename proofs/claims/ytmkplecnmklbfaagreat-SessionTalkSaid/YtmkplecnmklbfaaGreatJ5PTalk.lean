/- General lemmas, walks. -/
import Derived.Test.YtmkplecnmklbfaaGreatJ4PTalk
set_option maxRecDepth 100000
set_option maxHeartbeats 1000000
set_option linter.unusedSimpArgs false
set_option linter.unusedVariables false
set_option linter.unnecessarySimpa false
set_option linter.unusedSectionVars false
namespace Go.Mi.Ke
abbrev Ln:=BitVec 64
abbrev St:=Nat→Ln
def rot (a:Ln) (n:Nat):Ln:=a.rotateLeft n
def Eq25 (a b:St):Prop:=∀i,i<25→a i=b i
theorem Vj (a:Ln) (n i:Nat) (hi:i<64):(rot a n).getLsbD i=a.getLsbD ((i+(64-n%64))%64):=by
 unfold rot
 simp only[BitVec.getLsbD_rotateLeft]
 have hn:n%64<64:=Nat.mod_lt _ (by decide)
 by_cases h:i<n%64
 ·rw[decide_eq_true h,cond_true]
  congr 1
  omega
 ·rw[decide_eq_false h,cond_false,decide_eq_true hi,Bool.true_and]
  congr 1
  omega
theorem vQ {a b:Ln} {n:Nat} (h:rot a n=rot b n):a=b:=by
 apply BitVec.eq_of_getLsbD_eq
 intro i hi
 have hn:n%64<64:=Nat.mod_lt _ (by decide)
 have h1:=Vj a n ((i+n%64)%64) (Nat.mod_lt _ (by decide))
 have h2:=Vj b n ((i+n%64)%64) (Nat.mod_lt _ (by decide))
 rw[h,h2]at h1
 rw[show((i+n%64)%64+(64-n%64))%64=i by omega]at h1
 exact h1.symm
def par (a:St) (x:Nat):Ln:=a (x%5)^^^a (x%5+5)^^^a (x%5+10)^^^a (x%5+15)^^^a (x%5+20)
def dif (a:St) (x:Nat):Ln:=par a (x+4)^^^rot (par a (x+1)) 1
def theta (a:St):St:=fun i=>a i^^^dif a i
theorem par_mod (a:St) (x:Nat):par a (x%5)=par a x:=by unfold par;rw[Nat.mod_mod]
theorem cF (a:St) (x k:Nat):dif a (x+5*k)=dif a x:=by
 unfold dif par
 rw[show(x+5*k+4)%5=(x+4)%5 by omega,show(x+5*k+1)%5=(x+1)%5 by omega]
theorem Agh (a b c d e u:Ln):(a^^^u)^^^(b^^^u)^^^(c^^^u)^^^(d^^^u)^^^(e^^^u)=(a^^^b^^^c^^^d^^^e)^^^u:=by
 apply BitVec.eq_of_getLsbD_eq
 intro i _
 simp only[BitVec.getLsbD_xor]
 generalize a.getLsbD i=a
 generalize b.getLsbD i=b
 generalize c.getLsbD i=c
 generalize d.getLsbD i=d
 generalize e.getLsbD i=e
 generalize u.getLsbD i=u
 revert a b c d e u
 decide
theorem SP (a:St) (x:Nat):par (theta a) x=par a x^^^dif a x:=by
 have h:∀k,theta a (x%5+5*k)=a (x%5+5*k)^^^dif a x:=fun k=>by
  unfold theta
  rw[cF,←cF a (x%5) (x/5),show x%5+5*(x/5)=x by omega]
 have h0:=h 0
 have h1:=h 1
 have h2:=h 2
 have h3:=h 3
 have h4:=h 4
 simp only[Nat.mul_zero,Nat.add_zero,Nat.reduceMul]at h0 h1 h2 h3 h4
 unfold par
 rw[h0,h1,h2,h3,h4]
 exact Agh ..
theorem wU {r:Nat→Nat→Bool} (p5:∀x z,r (x+5) z=r x z) (p64:∀x z,r x (z+64)=r x z) (h:∀x z,r x z=(r (x+4) z^^r (x+1) (z+63))) (x z:Nat):r x z=false:=by
 have q5:∀k x z,r (x+5*k) z=r x z:=by
  intro k
  induction k with
  |zero=>intro x z;rfl
  |succ k ih=>intro x z;rw[show x+5*(k+1)=(x+5*k)+5 by omega,p5,ih]
 have q64:∀k x z,r x (z+64*k)=r x z:=by
  intro k
  induction k with
  |zero=>intro x z;rfl
  |succ k ih=>intro x z;rw[show z+64*(k+1)=(z+64*k)+64 by omega,p64,ih]
 have dbl:∀m,(∀x z,r x z=(r (x+4*m) z^^r (x+m) (z+63*m)))→∀x z,r x z=(r (x+4*(2*m)) z^^r (x+2*m) (z+63*(2*m))):=by
  intro m hm x z
  have e1:=hm (x+4*m) z
  have e2:=hm (x+m) (z+63*m)
  rw[hm x z,e1,e2]
  rw[show x+4*m+4*m=x+4*(2*m) by omega,show x+4*m+m=x+5*m by omega,show x+m+4*m=x+5*m by omega,show x+m+m=x+2*m by omega,show z+63*m+63*m=z+63*(2*m) by omega]
  cases r (x+4*(2*m)) z<;>cases r (x+5*m) (z+63*m)<;>cases r (x+2*m) (z+63*(2*m))<;>rfl
 have h64:=dbl 32 (dbl 16 (dbl 8 (dbl 4 (dbl 2 (dbl 1 (by simpa using h))))))
 have key:∀x,r x z=(r (x+1) z^^r (x+4) z):=by
  intro x
  have :=h64 x z
  rw[show x+4*(2*32)=(x+1)+5*51 by omega,show x+2*32=(x+4)+5*12 by omega,show z+63*(2*32)=z+64*63 by omega,q5,q5,q64]at this
  exact this
 have k0:=key x
 have k1:=key (x+1)
 have k2:=key (x+2)
 have k3:=key (x+3)
 have k4:=key (x+4)
 rw[show x+1+4=x+5 by omega,p5]at k1
 rw[show x+2+4=(x+1)+5 by omega,p5]at k2
 rw[show x+3+4=(x+2)+5 by omega,p5]at k3
 rw[show x+4+1=x+5 by omega,show x+4+4=(x+3)+5 by omega,p5,p5]at k4
 simp only[Nat.add_assoc,Nat.reduceAdd]at k0 k1 k2 k3 k4
 revert k0 k1 k2 k3 k4
 cases r x z<;>cases r (x+1) z<;>cases r (x+2) z<;>cases r (x+3) z<;>cases r (x+4) z<;>simp
theorem dM {a b:St} (h:Eq25 (theta a) (theta b)):Eq25 a b:=by
 have hp:∀x,par (theta a) x=par (theta b) x:=fun x=>by
  have hx:x%5<5:=Nat.mod_lt _ (by decide)
  unfold par
  rw[h _ (by omega),h _ (by omega),h _ (by omega),h _ (by omega),h _ (by omega)]
 let r:Nat→Nat→Bool:=fun x z=>(par a x).getLsbD (z%64)^^(par b x).getLsbD (z%64)
 have hr:∀x z,r x z=false:=by
  refine wU (fun x z=> ?_) (fun x z=> ?_) (fun x z=> ?_)
  ·show(_^^_)=(_^^_)
   rw[←par_mod a (x+5),←par_mod b (x+5),show(x+5)%5=x%5 by omega,par_mod,par_mod]
  ·show(_^^_)=(_^^_)
   rw[show(z+64)%64=z%64 by omega]
  ·have e:=hp x
   rw[SP,SP]at e
   have e2:=congrArg (fun u:Ln=>u.getLsbD (z%64)) e
   have hz:z%64<64:=Nat.mod_lt _ (by decide)
   simp only[dif,BitVec.getLsbD_xor,Vj _ _ _ hz]at e2
   rw[show(z%64+(64-1%64))%64=(z+63)%64 by omega]at e2
   show(_^^_)=((_^^_)^^(_^^_))
   revert e2
   generalize(par a x).getLsbD (z%64)=q1
   generalize(par b x).getLsbD (z%64)=q2
   generalize(par a (x+4)).getLsbD (z%64)=q3
   generalize(par b (x+4)).getLsbD (z%64)=q4
   generalize(par a (x+1)).getLsbD ((z+63)%64)=q5
   generalize(par b (x+1)).getLsbD ((z+63)%64)=q6
   revert q1 q2 q3 q4 q5 q6
   decide
 have hab:∀x,par a x=par b x:=fun x=>by
  apply BitVec.eq_of_getLsbD_eq
  intro i hi
  have :=hr x i
  simp only[r]at this
  rw[Nat.mod_eq_of_lt hi]at this
  revert this
  cases(par a x).getLsbD i<;>cases(par b x).getLsbD i<;>simp
 intro i hi
 have e:=h i hi
 have ed:dif a i=dif b i:=by unfold dif;rw[hab,hab]
 unfold theta at e
 rw[ed]at e
 have :=congrArg (· ^^^dif b i) e
 simpa[BitVec.xor_assoc]using this
def chi (a:St):St:=fun i=>a i^^^(~~~a (i-i%5+(i+1)%5)&&&a (i-i%5+(i+2)%5))
theorem Agw:∀a0 a1 a2 a3 a4 b0 b1 b2 b3 b4:Bool,(a0^^(!a1&&a2))=(b0^^(!b1&&b2))→(a1^^(!a2&&a3))=(b1^^(!b2&&b3))→(a2^^(!a3&&a4))=(b2^^(!b3&&b4))→(a3^^(!a4&&a0))=(b3^^(!b4&&b0))→(a4^^(!a0&&a1))=(b4^^(!b0&&b1))→a0=b0∧a1=b1∧a2=b2∧a3=b3∧a4=b4:=by decide
theorem yU {a b:St} (h:Eq25 (chi a) (chi b)):Eq25 a b:=by
 intro i hi
 apply BitVec.eq_of_getLsbD_eq
 intro z hz
 have hy:i=5*(i/5)+i%5:=by omega
 have row:∀k,k<5→chi a (5*(i/5)+k)=chi b (5*(i/5)+k):=fun k hk=>h _ (by omega)
 have at_:∀(a:St) (k:Nat),k<5→(chi a (5*(i/5)+k)).getLsbD z=((a (5*(i/5)+k)).getLsbD z^^(!(a (5*(i/5)+(k+1)%5)).getLsbD z&&(a (5*(i/5)+(k+2)%5)).getLsbD z)):=by
  intro a k hk
  unfold chi
  rw[show 5*(i/5)+k-(5*(i/5)+k)%5=5*(i/5) by omega,show(5*(i/5)+k+1)%5=(k+1)%5 by omega,show(5*(i/5)+k+2)%5=(k+2)%5 by omega]
  simp only[BitVec.getLsbD_xor,BitVec.getLsbD_and,BitVec.getLsbD_not,hz,decide_true,Bool.true_and]
 have e:∀k,k<5→_:=fun k hk=>congrArg (fun u:Ln=>u.getLsbD z) (row k hk)
 have e0:=e 0 (by omega)
 have e1:=e 1 (by omega)
 have e2:=e 2 (by omega)
 have e3:=e 3 (by omega)
 have e4:=e 4 (by omega)
 simp only[at_ _ 0 (by omega),at_ _ 1 (by omega),at_ _ 2 (by omega),at_ _ 3 (by omega),at_ _ 4 (by omega),Nat.reduceAdd,Nat.reduceMod]at e0 e1 e2 e3 e4
 obtain⟨k0,k1,k2,k3,k4⟩:=Agw _ _ _ _ _ _ _ _ _ _ e0 e1 e2 e3 e4
 have h5:i%5<5:=Nat.mod_lt _ (by decide)
 rw[hy]
 generalize i%5=m at h5
 match m,h5 with
 |0,_=>exact k0
 |1,_=>exact k1
 |2,_=>exact k2
 |3,_=>exact k3
 |4,_=>exact k4
theorem mX:∀(N:Nat) (f:Nat→Nat),(∀i,i≤N→f i<N)→∃i j,i<j∧j≤N∧f i=f j
 |0,f,h=>absurd (h 0 (Nat.le_refl _)) (by omega)
 |N+1,f,h=>by
  -- is the last value met ahead?
  by_cases hm:∃i,i<N+1∧f i=f (N+1)
  ·obtain⟨i,h1,h2⟩:=hm
   exact⟨i,N+1,h1,Nat.le_refl _,h2⟩
  ·-- else swap it with the greatest
   let g:Nat→Nat:=fun i=>if f i=N then f (N+1)else f i
   have hg:∀i,i≤N→g i<N:=by
    intro i hi
    have h1:=h i (by omega)
    have h2:=h (N+1) (by omega)
    have h3:f i≠f (N+1):=fun e=>hm ⟨i,by omega,e⟩
    show(if f i=N then f (N+1)else f i)<N
    split<;>omega
   obtain⟨i,j,h1,h2,h3⟩:=mX N g hg
   refine⟨i,j,h1,by omega,?_⟩
   have h4:f i≠f (N+1):=fun e=>hm ⟨i,by omega,e⟩
   have h5:f j≠f (N+1):=fun e=>hm ⟨j,by omega,e⟩
   change (if f i=N then f (N+1)else f i)=(if f j=N then f (N+1)else f j)at h3
   split at h3<;>split at h3<;>omega
def px:Nat→Nat×Nat
 |0=>(1,0)
 |t+1=>((px t).2,(2*(px t).1+3*(px t).2)%5)
def ps (t:Nat):Nat:=(px t).1+5*(px t).2
def rhoN (a:St):Nat→St
 |0=>a
 |t+1=>fun i=>if i=ps (t+1)then rot (a (ps t)) ((t+1)*(t+2)/2)else rhoN a t i
def rho (a:St):St:=rhoN a 24
theorem ps_lt (t:Nat) (h:t≤24):ps t<25:=by
 have :∀t:Fin 25,ps t.1<25:=by decide
 exact this ⟨t,by omega⟩
theorem AeP (t u:Nat) (ht:t≤24) (hu:u≤24) (h0:0<t) (h1:0<u) (h:ps t=ps u):t=u:=by
 have :∀t u:Fin 25,0<t.1→0<u.1→ps t.1=ps u.1→t.1=u.1:=by decide
 exact this ⟨t,by omega⟩ ⟨u,by omega⟩ h0 h1 h
theorem Ace (i:Nat) (h:i<25):i=0∨∃t,t<24∧ps t=i:=by
 have :∀i:Fin 25,i.1=0∨∃t:Fin 24,ps t.1=i.1:=by decide
 rcases this ⟨i,h⟩with h|⟨t,h⟩
 ·exact .inl h
 ·exact .inr ⟨t.1,t.2,h⟩
theorem TZ (a:St):∀n,n≤24→∀t,t<n→rhoN a n (ps (t+1))=rot (a (ps t)) ((t+1)*(t+2)/2)
 |0,_,t,h=>absurd h (by omega)
 |n+1,hn,t,h=>by
  simp only[rhoN]
  by_cases e:t=n
  ·subst e;rw[if_pos rfl]
  ·rw[if_neg (fun h'=>e (by have :=AeP _ _ (by omega) (by omega) (by omega) (by omega) h';omega))]
   exact TZ a n (by omega) t (by omega)
theorem wA (t:Nat) (h:t≤24):ps t≠0:=by
 have :∀t:Fin 25,ps t.1≠0:=by decide
 exact this ⟨t,by omega⟩
theorem Nk (a:St):∀n,n≤24→rhoN a n 0=a 0
 |0,_=>rfl
 |n+1,hn=>by
  simp only[rhoN]
  rw[if_neg (fun h=>wA (n+1) hn h.symm)]
  exact Nk a n (by omega)
theorem vW {a b:St} (h:Eq25 (rho a) (rho b)):Eq25 a b:=by
 intro i hi
 rcases Ace i hi with rfl|⟨t,ht,rfl⟩
 ·have :=h 0 (by omega)
  unfold rho at this
  rwa [Nk a 24 (Nat.le_refl _),Nk b 24 (Nat.le_refl _)]at this
 ·have :=h _ (ps_lt (t+1) (by omega))
  unfold rho at this
  rw[TZ a 24 (Nat.le_refl _) t ht,TZ b 24 (Nat.le_refl _) t ht]at this
  exact vQ this
theorem rhoN_congr {a b:St} (h:Eq25 a b):∀n,n≤24→Eq25 (rhoN a n) (rhoN b n)
 |0,_=>h
 |n+1,hn=>fun i hi=>by
  simp only[rhoN]
  split
  ·rw[h _ (ps_lt n (by omega))]
  ·exact rhoN_congr h n (by omega) i hi
def iota (c:Ln) (a:St):St:=fun i=>if i=0 then a 0^^^c else a i
def round (c:Ln) (a:St):St:=iota c (chi (rho (theta a)))
def rounds:List Ln→St→St
 |[],a=>a
 |c::l,a=>rounds l (round c a)
theorem oA {c:Ln} {a b:St} (h:Eq25 (iota c a) (iota c b)):Eq25 a b:=by
 intro i hi
 have :=h i hi
 unfold iota at this
 by_cases e:i=0
 ·subst e
  rw[if_pos rfl,if_pos rfl]at this
  have :=congrArg (· ^^^c) this
  simpa[BitVec.xor_assoc]using this
 ·rwa [if_neg e,if_neg e]at this
theorem theta_congr {a b:St} (h:Eq25 a b):Eq25 (theta a) (theta b):=by
 have hp:∀x,par a x=par b x:=fun x=>by
  have hx:x%5<5:=Nat.mod_lt _ (by decide)
  unfold par
  rw[h _ (by omega),h _ (by omega),h _ (by omega),h _ (by omega),h _ (by omega)]
 intro i hi
 unfold theta dif
 rw[h i hi,hp,hp]
theorem chi_congr {a b:St} (h:Eq25 a b):Eq25 (chi a) (chi b):=by
 intro i hi
 unfold chi
 rw[h i hi,h _ (by omega),h _ (by omega)]
theorem eA {c:Ln} {a b:St} (h:Eq25 (round c a) (round c b)):Eq25 a b:=dM (vW (yU (oA h)))
theorem V7 {c:Ln} {a b:St} (h:Eq25 a b):Eq25 (round c a) (round c b):=by
 have h1:=chi_congr (rhoN_congr (theta_congr h) 24 (Nat.le_refl _))
 intro i hi
 show(if i=0 then chi (rhoN (theta a) 24) 0^^^c else chi (rhoN (theta a) 24) i)=(if i=0 then chi (rhoN (theta b) 24) 0^^^c else chi (rhoN (theta b) 24) i)
 split
 ·rw[h1 0 (by omega)]
 ·exact h1 i hi
theorem rounds_inj:∀(l:List Ln) {a b:St},Eq25 (rounds l a) (rounds l b)→Eq25 a b
 |[],_,_,h=>h
 |_::l,_,_,h=>eA (rounds_inj l h)
theorem rounds_congr:∀(l:List Ln) {a b:St},Eq25 a b→Eq25 (rounds l a) (rounds l b)
 |[],_,_,h=>h
 |_::l,_,_,h=>rounds_congr l (V7 h)
def enc (a:St):Nat→Nat
 |0=>0
 |n+1=>enc a n*2^64+(a n).toNat
theorem qB (a:St):∀n,enc a n<(2^64)^n
 |0=>by simp [enc]
 |n+1=>by
  have h1:=qB a n
  have h2:=(a n).isLt
  have e:(2^64)^(n+1)=(2^64)^n*2^64:=Nat.pow_succ ..
  simp only[enc]
  rw[e]
  generalize(2^64)^n=M at h1⊢
  omega
theorem cC {a b:St}:∀n,enc a n=enc b n→∀i,i<n→a i=b i
 |0,_,i,h=>absurd h (by omega)
 |n+1,h,i,hi=>by
  simp only[enc]at h
  have h1:=(a n).isLt
  have h2:=(b n).isLt
  have h3:enc a n=enc b n:=by omega
  by_cases e:i=n
  ·subst e
   exact BitVec.eq_of_toNat_eq (by omega)
  ·exact cC n h3 i (by omega)
def iter (f:St→St):Nat→St→St
 |0,a=>a
 |n+1,a=>f (iter f n a)
theorem WV {f:St→St} (hf:∀{a b},Eq25 (f a) (f b)→Eq25 a b):∀n {a b},Eq25 (iter f n a) (iter f n b)→Eq25 a b
 |0,_,_,h=>h
 |n+1,_,_,h=>WV hf n (hf h)
theorem QH (f:St→St) (m:Nat) (a:St):∀n,iter f (m+n) a=iter f n (iter f m a)
 |0=>rfl
 |n+1=>by show f (iter f (m+n) a)=f (iter f n (iter f m a));rw[QH f m a n]
theorem AbH {f:St→St} (hf:∀{a b},Eq25 (f a) (f b)→Eq25 a b) (s:St):∃n,0<n∧Eq25 (iter f n s) s:=by
 obtain⟨i,j,h1,_,h3⟩:=mX ((2^64)^25) (fun i=>enc (iter f i s) 25) (fun i _=>qB _ _)
 have h4:Eq25 (iter f i s) (iter f j s):=cC 25 h3
 refine⟨j-i,by omega,?_⟩
 have e:iter f j s=iter f i (iter f (j-i) s):=by rw[←QH,show j-i+i=j by omega]
 rw[e]at h4
 have :=WV hf i h4
 exact fun k hk=>(this k hk).symm
theorem QG {f:St→St} (hc:∀{a b},Eq25 a b→Eq25 (f a) (f b)):∀n {a b},Eq25 a b→Eq25 (iter f n a) (iter f n b)
 |0,_,_,h=>h
 |n+1,_,_,h=>hc (QG hc n h)
theorem again_late {f:St→St} (hf:∀{a b},Eq25 (f a) (f b)→Eq25 a b) (hc:∀{a b},Eq25 a b→Eq25 (f a) (f b)) (s:St):∀m:Nat,∃n,m<n∧Eq25 (iter f n s) s
 |0=>AbH hf s
 |m+1=>by
  obtain⟨n,h1,h2⟩:=again_late hf hc s m
  obtain⟨k,h3,h4⟩:=AbH hf s
  refine⟨n+k,by omega,fun i hi=> ?_⟩
  rw[QH,QG hc k h2 i hi,h4 i hi]
end Go.Mi.Ke
namespace Go.Sx
open Go.Mi Go.RowKit
def M6 (a:Nat→Int):Nat→Nat→Int
 |0=>fun _=>0
 |i+1=>upd (M6 a i) (i%5) (AK .u64 (M6 a i (i%5)) (a i))
def TV (x k:Int):Int:=C9 .u64 (Bf .u64 x (A6 .u64 (IntKind.wrap .u64 k) 63)) (AY .u64 x (EC .u64 64 (A6 .u64 (IntKind.wrap .u64 k) 63)))
def thA (a c:Nat→Int):Nat→Nat→Int
 |0=>a
 |i+1=>upd (thA a c i) i (AK .u64 (thA a c i i) (AK .u64 (c ((i%5+4)%5)) (TV (c ((i%5+1)%5)) 1)))
def theta (a:Nat→Int):Nat→Int:=thA a (M6 a 25) 25
def Yo (a:Nat→Int):Nat→Nat→Int
 |0=>a
 |t+1=>upd (Yo a t) ((Ke.px (t+1)).1+5*(Ke.px (t+1)).2) (TV (a ((Ke.px t).1+5*(Ke.px t).2)) (Mn .i64 (BL .i64 ((t+1:Nat):Int) ((t+2:Nat):Int)) 2))
def rho (a:Nat→Int):Nat→Int:=Yo a 24
def Zd (a:Nat→Int):Nat→Nat→Int
 |0=>a
 |i+1=>upd (Zd a i) i (AK .u64 (Zd a i i) (A6 .u64 (KW .u64 (a (i-i%5+(i+1)%5))) (a (i-i%5+(i+2)%5))))
def chi (a:Nat→Int):Nat→Int:=Zd a 25
def RC:Nat→Int:=upd (upd (upd (upd (upd (upd (upd (upd (upd (upd (upd (upd (upd (upd (upd (upd (upd (upd (upd (upd (upd (upd (upd (upd (fun _=>0) 0 1) 1 32898) 2 9223372036854808714) 3 9223372039002292224) 4 32907) 5 2147483649) 6 9223372039002292353) 7 9223372036854808585) 8 138) 9 136) 10 2147516425) 11 2147483658) 12 2147516555) 13 9223372036854775947) 14 9223372036854808713) 15 9223372036854808579) 16 9223372036854808578) 17 9223372036854775936) 18 32778) 19 9223372039002259466) 20 9223372039002292353) 21 9223372036854808704) 22 2147483649) 23 9223372039002292232
def AcM:Nat→(Nat→Int)→Nat→Int
 |0=>theta
 |1=>rho
 |_=>chi
def bE (b:Nat→Int):Nat→Nat→Int
 |0=>b
 |j+1=>AcM j (bE b j)
def J1 (a:Nat→Int):Nat→Nat→Int
 |0=>a
 |i+1=>upd (bE (J1 a i) 3) 0 (AK .u64 (bE (J1 a i) 3 0) (RC i))
def Ca (a:Nat→Int):Nat→Int:=J1 a 24
theorem nU (b f:Nat→Int) (j:Nat) (h:f=bE b j):AcM j f=bE b (j+1):=by rw[h];rfl
theorem AeQ (a b f:Nat→Int) (i:Nat) (hb:b=J1 a i) (h:f=bE b 3):upd f 0 (AK .u64 (f 0) (RC i))=J1 a (i+1):=by rw[h,hb];rfl
end Go.Sx
namespace Go.Sx.Tryz
open Go.Mi Go.RowKit Go.Sx Go.Proofs
noncomputable section
def Ob0 (x0:Nat→Int):O:= .ob 263 (chain [.ar .u64 25 x0])
def z4 (x k:Int):Con:=⟨[.v (.int .u64 x),vi k],[],.v (.int .u64 (TV x k)),[]⟩
theorem V8 (x k:Int):ConOk Tryz.prog 213 (z4 x k):=by
 exact cy 0 Tryz.func213 rfl Tryz.ntmps213 fun hg0 hS=>Ae [] 0 hS fun hS=>Ae [] 0 hS fun hS=>Ax [(2,O1 ((0:Int)≤(A6 .u64 (IntKind.wrap .u64 k) 63)) (Jw rfl)),(6,O1 ((0:Int)≤(EC .u64 64 (A6 .u64 (IntKind.wrap .u64 k) 63))) (Jw rfl))] [] 0 hS fun hS=>AR (BW hS)
section
variable (a:Nat→Int)
def zE:Con:=⟨[.ar .u64 25 a],[],.ar .u64 25 (theta a),[]⟩
theorem jR:ConOk Tryz.prog 207 (zE a):=by
 refine cy 0 Tryz.func207 rfl Tryz.ntmps207 fun hg0 hS=>Ae [] 2 hS fun hS=>Ae [] 3 hS fun hS=>Av (Ae [] 3 hS fun hS=>Br (Ar (ι:=Nat) hg0 hS (fun i=>(25-i,[(9,vi ((i:Nat):Int))],[(2,.ob 273 (chain [.ar .u64 5 (M6 a i)]))],(i≤25)∧True)) [1,2,3,8] [0,1] 3 0 [(0,0),(1,1),(2,2)] ⟨Ac,trivial⟩ ?_))
 rintro i ac gs ws ⟨hi,_⟩ hS
 refine Ae [] 3 hS fun hS=>Av (AB ((i:Int)<25) hS (fun h1=> ?_) (fun h1=> ?_))
 ·exact BE (Ax [(1,AD i 25)] [] 3 hS fun hS=>As [(1,Ll i 5),(2,AD (i%5) 5),(6,AD (i%5) 5)] [] 3 hS fun hS=>BV (As [(0,BH i)] [9] 3 hS fun hS=>Ab (Al hg0 hS (i+1) [(0,0),(1,1),(2,2)] ⟨Ac,trivial⟩)))
 ·have hT:=hS
  obtain rfl:25=i:=by omega
  have hS:=hT
  refine ML (Ae [] 3 hS fun hS=>Br (Ar (ι:=Nat) hg0 hS (fun i=>(25-i,[(21,vi ((i:Nat):Int))],[(0,Ob0 (thA a (M6 a 25) i))],(i≤25)∧True)) [1,2,3] [1,2] 3 0 [(0,0),(1,1),(2,2)] ⟨Ac,trivial⟩ ?_))
  rintro i ac gs ws ⟨hi,_⟩ hS
  refine Ae [] 3 hS fun hS=>Av (AB ((i:Int)<25) hS (fun h2=> ?_) (fun h2=> ?_))
  ·exact BE (Ae [] 3 hS fun hS=>Ax [(1,Ll i 5)] [] 3 hS fun hS=>As [(1,AD i 25),(4,Ek (i%5) 5 ((i%5)+5)),(5,G9 ((i%5)+5) 1 ((i%5)+4)),(6,Ll ((i%5)+4) 5),(7,AD (((i%5)+4)%5) 5),(10,Ek (i%5) 1 ((i%5)+1)),(11,Ll ((i%5)+1) 5),(12,AD (((i%5)+1)%5) 5),(14,AP (V8 ((M6 a 25) (((i%5)+1)%5)) 1)),(17,AD i 25)] [] 3 hS fun hS=>BV (As [(0,BH i)] [21] 3 hS fun hS=>Ab (Al hg0 hS (i+1) [(0,0),(1,1),(2,2)] ⟨Ac,trivial⟩)))
  ·have hT:=hS
   obtain rfl:25=i:=by omega
   have hS:=hT
   exact CO (Ae [] 3 hS fun hS=>AR (BW hS))
def AfM:Con:=⟨[.ar .u64 25 a],[],.ar .u64 25 (rho a),[]⟩
theorem Ab0:ConOk Tryz.prog 208 (AfM a):=by
 refine cy 0 Tryz.func208 rfl Tryz.ntmps208 fun hg0 hS=>Ae [] 2 hS fun hS=>Ae [3] 3 hS fun hS=>Ae [] 3 hS fun hS=>Av (Ae [] 3 hS fun hS=>Br (Ar (ι:=Nat×Nat×Nat×(Nat→Int)) hg0 hS (fun(t,x,y,f)=>(24-t,[(4,vi (x:Int)),(5,vi (y:Int)),(9,vi ((t:Nat):Int))],[(2,Ob0 f)],(t≤24)∧(x<5)∧(y<5)∧(x=(Ke.px t).1)∧(y=(Ke.px t).2)∧(f=Yo a t)∧True)) [1,2,3] [0,1] 3 (0,1,0,a) [(0,0),(1,1),(2,2)] ⟨Ac,Ac,Ac,rfl,rfl,rfl,trivial⟩ ?_))
 rintro⟨t,x,y,f⟩ ac gs ws ⟨ht,hx5,hy5,hx,hy,hf,_⟩ hS
 refine Ae [] 3 hS fun hS=>Av (AB ((t:Int)<24) hS (fun h1=> ?_) (fun h1=> ?_))
 ·exact BE (Ae [] 3 hS fun hS=>Ax [(2,HJ 5 y (5*y)),(3,Ek x (5*y) (x+(5*y))),(4,AD (x+(5*y)) 25),(7,BH t),(9,Ek t 2 (t+2)),(11,RE ((2:Int)≠0)),(12,AP (V8 (a (x+(5*y))) (Mn .i64 (BL .i64 ((t+1:Nat):Int) ((t+2:Nat):Int)) 2)))] [] 3 hS fun hS=>Ax [(2,HJ 2 x (2*x)),(4,HJ 3 y (3*y)),(5,Ek (2*x) (3*y) ((2*x)+(3*y))),(6,Ll ((2*x)+(3*y)) 5)] [4,5] 3 hS fun hS=>As [(2,HJ 5 (((2*x)+(3*y))%5) (5*(((2*x)+(3*y))%5))),(3,Ek y (5*(((2*x)+(3*y))%5)) (y+(5*(((2*x)+(3*y))%5)))),(5,AD (y+(5*(((2*x)+(3*y))%5))) 25)] [] 3 hS fun hS=>BV (As [(0,BH t)] [9] 3 hS fun hS=>Ab (Al hg0 hS (t+1,y,((2*x)+(3*y))%5,upd f (y+(5*(((2*x)+(3*y))%5))) (TV (a (x+(5*y))) (Mn .i64 (BL .i64 ((t+1:Nat):Int) ((t+2:Nat):Int)) 2))) [(0,0),(1,1),(2,2)] ⟨Ac,Ac,Ac,hy,(by rw[hx,hy];rfl),(by rw[hf,hx,hy];rfl),trivial⟩)))
 ·have hT:=hS
  obtain rfl:24=t:=by omega
  obtain rfl:rho a=f:=Eq.symm hf
  have hS:=hT
  exact CO (Ae [] 3 hS fun hS=>AR (BW hS))
def Af4:Con:=⟨[.ar .u64 25 a],[],.ar .u64 25 (chi a),[]⟩
theorem Adi:ConOk Tryz.prog 209 (Af4 a):=by
 refine cy 0 Tryz.func209 rfl Tryz.ntmps209 fun hg0 hS=>Ae [] 2 hS fun hS=>Ae [3] 3 hS fun hS=>Av (Ae [] 3 hS fun hS=>Br (Ar (ι:=Nat) hg0 hS (fun i=>(25-i,[(7,vi ((i:Nat):Int))],[(2,Ob0 (Zd a i))],(i≤25)∧True)) [1,2,3] [0,1] 3 0 [(0,0),(1,1),(2,2)] ⟨Ac,trivial⟩ ?_))
 rintro i ac gs ws ⟨hi,_⟩ hS
 refine Ae [] 3 hS fun hS=>Av (AB ((i:Int)<25) hS (fun h1=> ?_) (fun h1=> ?_))
 ·exact BE (Ae [] 3 hS fun hS=>Ax [(2,Ll i 5),(3,G9 i (i%5) (i-(i%5)))] [] 3 hS fun hS=>As [(1,AD i 25),(5,BH i),(6,Ll (i+1) 5),(7,Ek (i-(i%5)) ((i+1)%5) ((i-(i%5))+((i+1)%5))),(8,AD ((i-(i%5))+((i+1)%5)) 25),(13,Ek i 2 (i+2)),(14,Ll (i+2) 5),(15,Ek (i-(i%5)) ((i+2)%5) ((i-(i%5))+((i+2)%5))),(16,AD ((i-(i%5))+((i+2)%5)) 25),(20,AD i 25)] [] 3 hS fun hS=>BV (As [(0,BH i)] [7] 3 hS fun hS=>Ab (Al hg0 hS (i+1) [(0,0),(1,1),(2,2)] ⟨Ac,trivial⟩)))
 ·have hT:=hS
  obtain rfl:25=i:=by omega
  have hS:=hT
  exact CO (Ae [] 3 hS fun hS=>AR (BW hS))
end
def r7:Con:=⟨[],[],.ar .u64 24 RC,[]⟩
theorem d9:ConOk Tryz.prog 210 (r7):=by
 exact cy 0 Tryz.func210 rfl Tryz.ntmps210 fun hg0 hS=>Ae [] 1 hS fun hS=>Ae [] 1 hS fun hS=>AR (BW hS)
def AdL (a:Nat→Int):Con:=⟨[.ar .u64 25 a],[],.ar .u64 25 (Ca a),[]⟩
theorem aS (a:Nat→Int):ConOk Tryz.prog 199 (AdL a):=by
 refine cy 0 Tryz.func199 rfl Tryz.ntmps199 fun hg0 hS=>Ae [] 2 hS fun hS=>Ae [3] 3 hS fun hS=>Ae [4] 4 hS fun hS=>Av (Ax [(0,AP (d9))] [] 4 hS fun hS=>Br (Ar (ι:=Nat×(Nat→Int)) hg0 hS (fun(i,f)=>(24-i,[(12,vi ((i:Nat):Int))],[(2,Ob0 f)],(i≤24)∧(f=J1 a i)∧True)) [2,3,4,11] [1,3] 4 (0,a) [(1,1),(2,2),(3,3)] ⟨Ac,rfl,trivial⟩ ?_))
 rintro⟨i,f⟩ ac gs ws ⟨hi,hf,_⟩ hS
 refine Ae [] 4 hS fun hS=>Av (AB ((i:Int)<24) hS (fun h1=> ?_) (fun h1=> ?_))
 ·refine BE (Ax [(0,AD i 24)] [] 4 hS fun hS=>Av (Ae [] 4 hS fun hS=>Br (Ar (ι:=Nat×(Nat→Int)) hg0 hS (fun(j,g)=>(3-j,[(16,vi ((j:Nat):Int))],[(2,Ob0 g)],(j≤3)∧(g=bE f j)∧True)) [2,3,4,6,11,12,15] [1,3] 4 (0,f) [(1,1),(2,2),(3,3)] ⟨Ac,rfl,trivial⟩ ?_)))
  rintro⟨j,g⟩ ac gs ws ⟨hj,hg,_⟩ hS
  refine Ae [] 4 hS fun hS=>Av (AB ((j:Int)<3) hS (fun h2=> ?_) (fun h2=> ?_))
  ·have hT:=hS
   rcases(by omega:j=0∨j=1∨j=2)with rfl|rfl|rfl
   ·have hS:=hT
    exact BE (Ax [(0,AD 0 3)] [] 4 hS fun hS=>As [(1,GK (.ar .u64 25 g) [(.ar .u64 25 g:D)=(.ar .u64 25 g)] ⟨rfl,trivial⟩),(2,AP (jR g))] [] 4 hS fun hS=>BV (Dj [16] 4 hS fun hS=>Ab (Al hg0 hS (1,theta g) [(1,1),(2,2),(3,3)] ⟨Ac,(nU _ _ _ hg),trivial⟩)))
   ·have hS:=hT
    exact BE (Ax [(0,AD 1 3)] [] 4 hS fun hS=>As [(1,GK (.ar .u64 25 g) [(.ar .u64 25 g:D)=(.ar .u64 25 g)] ⟨rfl,trivial⟩),(2,AP (Ab0 g))] [] 4 hS fun hS=>BV (Dj [16] 4 hS fun hS=>Ab (Al hg0 hS (2,rho g) [(1,1),(2,2),(3,3)] ⟨Ac,(nU _ _ _ hg),trivial⟩)))
   ·have hS:=hT
    exact BE (Ax [(0,AD 2 3)] [] 4 hS fun hS=>As [(1,GK (.ar .u64 25 g) [(.ar .u64 25 g:D)=(.ar .u64 25 g)] ⟨rfl,trivial⟩),(2,AP (Adi g))] [] 4 hS fun hS=>BV (Dj [16] 4 hS fun hS=>Ab (Al hg0 hS (3,chi g) [(1,1),(2,2),(3,3)] ⟨Ac,(nU _ _ _ hg),trivial⟩)))
  ·have hT:=hS
   obtain rfl:3=j:=by omega
   have hS:=hT
   exact CO (As [(0,AD 0 25),(4,AD 0 25)] [] 4 hS fun hS=>BV (As [(0,BH i)] [12] 4 hS fun hS=>Ab (Al hg0 hS (i+1,upd g 0 (AK .u64 (g 0) (RC i))) [(1,1),(2,2),(3,3)] ⟨Ac,(AeQ a _ _ i hf hg),trivial⟩)))
 ·have hT:=hS
  obtain rfl:24=i:=by omega
  obtain rfl:Ca a=f:=Eq.symm hf
  have hS:=hT
  exact CO (Ae [] 4 hS fun hS=>AR (BW hS))
end
end Go.Sx.Tryz
namespace Go.Sx
open Go.Mi Go.RowKit
theorem Xz (l:List (List Int)) (j:Nat) (h:j<l.length):(l.take (j+1)).flatten=(l.take j).flatten++l.getD j (rz [.sl (.int .u8)]):=by
 rw[List.take_add_one,List.flatten_append,List.getElem?_eq_getElem h]
 simp [List.getD,List.getElem?_eq_getElem h]
 rfl
theorem U_ (l:List (List Int)) (j:Nat) (h:j<l.length):(l.take (j+1)).flatten.length=(l.take j).flatten.length+(l.getD j (rz [.sl (.int .u8)])).length:=by
 rw[Xz l j h,List.length_append]
theorem UN (l:List (List Int)) (j:Nat):(l.take j).flatten.length≤l.flatten.length:=by
 have h:l.flatten=(l.take j).flatten++(l.drop j).flatten:=by rw[←List.flatten_append,List.take_append_drop]
 rw[h,List.length_append]
 omega
theorem Zf {l:List (List Int)} {j c:Nat} (h:j<l.length) (hc:l.flatten.length≤c):(l.take j).flatten.length+(l.getD j (rz [.sl (.int .u8)])).length≤c:=by
 rw[←U_ l j h]
 exact Nat.le_trans (UN l _) hc
def iV (b:List Int) (f:Nat→Int):Nat→Nat→Int
 |0=>f
 |i+1=>upd (iV b f i) (i/8) (AK .u64 (iV b f i (i/8)) (Bf .u64 (IntKind.wrap .u64 (b.getD i 0)) ((8*(i%8):Nat):Int)))
def Sb (p:List Int) (r:Nat):Nat→Nat→Int
 |0=>fun _=>0
 |k+1=>Ca (iV (p.drop (k*r)) (Sb p r k) r)
def L8 (r:Nat) (e:Int) (l:List (List Int)):List Int:=(l.flatten++[e])++List.replicate ((r-(l.flatten++[e]).length%r)%r) (0:Int)
def m8 (r:Nat) (e:Int) (l:List (List Int)):List Int:=(L8 r e l).set ((L8 r e l).length-1) (C9 .u8 ((L8 r e l).getD ((L8 r e l).length-1) 0) 128)
def PF (r:Nat) (e:Int) (l:List (List Int)):Nat→Int:=Sb (m8 r e l) r ((m8 r e l).length/r)
theorem m7 {r:Nat} (h:0<r) (e:Int) (l:List (List Int)):∃N,0<N∧(L8 r e l).length=N*r:=by
 unfold L8
 generalize hb:l.flatten++[e]=b
 have hp:0<b.length:=by rw[←hb];simp
 rw[List.length_append,List.length_replicate]
 have h1:=Nat.div_add_mod b.length r
 have h2:=Nat.mod_lt b.length h
 by_cases h3:b.length%r=0
 ·rw[h3,Nat.sub_zero,Nat.mod_self]
  refine⟨b.length/r,?_,?_⟩
  ·rcases Nat.eq_zero_or_pos (b.length/r)with h4|h4
   ·rw[h4,h3]at h1;simp at h1;omega
   ·exact h4
  ·rw[h3]at h1;rw[Nat.mul_comm];omega
 ·rw[Nat.mod_eq_of_lt (a:=r-b.length%r) (by omega)]
  refine⟨b.length/r+1,Nat.succ_pos _,?_⟩
  rw[Nat.succ_mul,Nat.mul_comm]
  omega
theorem Un {r:Nat} {e:Int} {l:List (List Int)}:(m8 r e l).length=(L8 r e l).length:=by simp [m8]
theorem aW {r:Nat} (h:0<r) (e:Int) (l:List (List Int)):(L8 r e l).length≤l.flatten.length+1+r:=by
 unfold L8
 rw[List.length_append,List.length_replicate,List.length_append]
 have :=Nat.mod_lt (r-(l.flatten++[e]).length%r) h
 simp only[List.length_append,List.length_cons,List.length_nil]at this⊢
 omega
theorem Aek {p b:List Int} {r k N:Nat} (hr:0<r) (hN:p.length=N*r) (hb:b=p.drop (k*r)) (hk:k≤N) (h:0<b.length):k<N∧r≤b.length:=by
 rw[hb,List.length_drop,hN,←Nat.sub_mul]at h⊢
 rcases Nat.eq_zero_or_pos (N-k)with h1|h1
 ·rw[h1]at h;simp at h
 ·exact⟨by omega,Nat.le_mul_of_pos_left r h1⟩
theorem AaN {p b:List Int} {r k N:Nat} (hr:0<r) (hN:p.length=N*r) (hb:b=p.drop (k*r)) (hk:k≤N) (h:¬0<b.length):k=p.length/r:=by
 rw[hb,List.length_drop,hN,←Nat.sub_mul]at h
 rw[hN,Nat.mul_div_cancel _ hr]
 rcases Nat.eq_zero_or_pos (N-k)with h1|h1
 ·omega
 ·exact absurd (Nat.mul_pos h1 hr) h
theorem tT {p b:List Int} {r k:Nat} (hb:b=p.drop (k*r)):b.drop r=p.drop ((k+1)*r):=by
 rw[hb,List.drop_drop,Nat.succ_mul]
theorem tS {p b:List Int} {r k:Nat} {f g:Nat→Int} (hb:b=p.drop (k*r)) (hf:f=Sb p r k) (hg:g=iV b f r):Ca g=Sb p r (k+1):=by
 rw[hg,hf,hb];rfl
def Dl (r:Nat) (f:Nat→Int) (a:Nat):Nat→(Nat→Int)×Nat×List Int
 |0=>(f,a,[])
 |j+1=>match Dl r f a j with
  |(g,b,o)=>if b=r then(Ca g,1,o++[IntKind.wrap .u8 (AY .u64 (Ca g 0) 0)])else(g,b+1,o++[IntKind.wrap .u8 (AY .u64 (g (b/8)) ((8*(b%8):Nat):Int))])
theorem Wj {r:Nat} {f0:Nat→Int} {a0:Nat} {f:Nat→Int} {a:Nat} {o:List Int} (hq:(f,a,o)=Dl r f0 a0 o.length) (ha:a=r):(Ca f,1,o++[IntKind.wrap .u8 (AY .u64 (Ca f 0) 0)])=Dl r f0 a0 (o++[IntKind.wrap .u8 (AY .u64 (Ca f 0) 0)]).length:=by
 rw[List.length_append]
 show _=(match Dl r f0 a0 o.length with
  |(g,b,o)=>if b=r then(Ca g,1,o++[IntKind.wrap .u8 (AY .u64 (Ca g 0) 0)])else(g,b+1,o++[IntKind.wrap .u8 (AY .u64 (g (b/8)) ((8*(b%8):Nat):Int))]))
 rw[←hq]
 simp only[if_pos ha]
theorem Wi {r:Nat} {f0:Nat→Int} {a0:Nat} {f:Nat→Int} {a:Nat} {o:List Int} (hq:(f,a,o)=Dl r f0 a0 o.length) (ha:¬a=r):(f,a+1,o++[IntKind.wrap .u8 (AY .u64 (f (a/8)) ((8*(a%8):Nat):Int))])=Dl r f0 a0 (o++[IntKind.wrap .u8 (AY .u64 (f (a/8)) ((8*(a%8):Nat):Int))]).length:=by
 rw[List.length_append]
 show _=(match Dl r f0 a0 o.length with
  |(g,b,o)=>if b=r then(Ca g,1,o++[IntKind.wrap .u8 (AY .u64 (Ca g 0) 0)])else(g,b+1,o++[IntKind.wrap .u8 (AY .u64 (g (b/8)) ((8*(b%8):Nat):Int))]))
 rw[←hq]
 simp only[if_neg ha]
theorem Ab6 {r:Nat} {f0:Nat→Int} {a0 n:Nat} {f:Nat→Int} {a:Nat} {o:List Int} (hq:(f,a,o)=Dl r f0 a0 o.length) (hn:o.length=n):f=(Dl r f0 a0 n).1∧a=(Dl r f0 a0 n).2.1∧o=(Dl r f0 a0 n).2.2:=by
 rw[←hn,←hq];exact⟨rfl,rfl,rfl⟩
theorem Nn (r:Nat) (f0:Nat→Int) (a0:Nat):∀n,(Dl r f0 a0 n).2.2.length=n
 |0=>rfl
 |n+1=>by
  have ih:=Nn r f0 a0 n
  show(match Dl r f0 a0 n with
   |(g,b,o)=>if b=r then(Ca g,1,o++[IntKind.wrap .u8 (AY .u64 (Ca g 0) 0)])else(g,b+1,o++[IntKind.wrap .u8 (AY .u64 (g (b/8)) ((8*(b%8):Nat):Int))])).2.2.length=n+1
  revert ih
  generalize Dl r f0 a0 n=q
  obtain⟨g,b,o⟩:=q
  intro ih
  simp only at ih⊢
  split<;>simp [ih]
theorem eF (r:Nat) (f0:Nat→Int) (a0:Nat):(f0,a0,[])=Dl r f0 a0 0:=rfl
theorem SH (r : Nat) (f : Nat → Int) (a j : Nat) : Dl r f a (j + 1) = match Dl r f a j with
  |(g,b,o)=>if b=r then(Ca g,1,o++[IntKind.wrap .u8 (AY .u64 (Ca g 0) 0)])else(g,b+1,o++[IntKind.wrap .u8 (AY .u64 (g (b/8)) ((8*(b%8):Nat):Int))]):=rfl
attribute [irreducible] Dl
end Go.Sx
namespace Go.Sx.Tryz
open Go.Mi Go.RowKit Go.Sx Go.Proofs
noncomputable section
def Ad3 (n:Nat):Con:=⟨[.v (.slice none 0 0),vi (n:Int)],[],.sk 0,[(0,.sl 5 [.int .u8] [])]⟩
theorem xN (n:Nat) (h:n≤140737488355328):ConOk Tryz.prog 187 (Ad3 n):=by
 refine cy 0 Tryz.func187 rfl Tryz.ntmps187 fun hg0 hS=>Ae [] 0 hS fun hS=>Av (Ax [(1,iX false [(decide ((n:Int)<0))=false] ⟨decide_eq_false Ac,trivial⟩)] [] 0 hS fun hS=>Ai hS (DU (Ax [(6,G9 n 0 n)] [1] 0 hS fun hS=>Ae [] 0 hS fun hS=>AB ((0:Int)<(n:Int)) hS (fun h1=> ?_) (fun h1=> ?_))))
 ·refine As [(3,iZ 0 0),(5,t8 [(0:Int)≤(n:Int),([]:List (RT [.int .u8])).length+n≤9223372036854775807,(([]:List (RT [.int .u8])).length+n)*1≤140737488355328] ⟨by omega,by simp<;>omega,by simp<;>omega,trivial⟩),(8,O1 ((0:Int)≤0∧(0:Int)≤([]++List.replicate n (0:Int)).length) (by simp))] [0] 2 hS fun hS=>Ab (Ae [] 2 hS fun hS=>AR ?_)
  obtain⟨gs,hS⟩:=hS.rx [(0,1)] [4] [0] 1 hg0
  exact BW hS
 ·refine BP (Ae [] 0 hS fun hS=>AR ?_)
  obtain⟨gs,hS⟩:=hS.nilk 4 5 [.int .u8]
  exact BW hS
section
variable (l:List (List Int))
def s7:Con:=⟨[.ls false [.sl (.int .u8)] l],[],.sk 0,[(0,.sl 5 [.int .u8] l.flatten)]⟩
theorem Tm (h:l.flatten.length≤140737488355328):ConOk Tryz.prog 161 (s7 l):=by
 refine cy 0 Tryz.func161 rfl Tryz.ntmps161 fun hg0 hS=> ?_
 have A7:l.length≤9223372036854775807:=hS.len 0 rfl
 refine Ae [] 0 hS fun hS=>Ae [] 0 hS fun hS=>Av (Ae [9] 0 hS fun hS=>Br (Ar (ι:=Nat×Nat) hg0 hS (fun(i,c)=>(l.length-i,[(3,vi (c:Int)),(11,vi ((i:Nat):Int))],[],(i≤l.length)∧(c=(l.take i).flatten.length)∧True)) [0,2,9,10] [] 0 (0,0) [] ⟨Ac,rfl,trivial⟩ ?_))
 rintro⟨i,c⟩ ac gs ws ⟨hi,hc,_⟩ hS
 refine Ae [] 0 hS fun hS=>Av (AB ((i:Int)<((l.length:Nat):Int)) hS (fun h1=> ?_) (fun h1=> ?_))
 ·refine BE (Ax [(0,AD i l.length)] [] 0 hS fun hS=>Av ?_)
  have hb:=Zf (l:=l) (j:=i) Ac h
  rw[←hc]at hb
  exact As [(3,Ek c ((l.getD i (rz [.sl (.int .u8)])).length) (c+((l.getD i (rz [.sl (.int .u8)])).length)))] [3] 0 hS fun hS=>Ab (Ax [(1,iX false [(decide (((c+((l.getD i (rz [.sl (.int .u8)])).length):Nat):Int)<0))=false] ⟨decide_eq_false Ac,trivial⟩)] [] 0 hS fun hS=>Ai hS (G8 (As [(0,BH i)] [11] 0 hS fun hS=>Ab (Al hg0 hS (i+1,c+((l.getD i (rz [.sl (.int .u8)])).length)) [] ⟨Ac,(by rw[U_ l i Ac,←hc]),trivial⟩))))
 ·have hT:=hS
  obtain rfl:l.length=i:=by omega
  obtain rfl:l.flatten.length=c:=Eq.symm (by rw[hc,List.take_length])
  have hS:=hT
  refine CO (Ax [(1,AM (xN l.flatten.length Ac) [] [(0,0)])] [] 1 hS fun hS=>Av (Ae [25] 1 hS fun hS=>Br (Ar (ι:=Nat×(List Int)) hg0 hS (fun(j,o)=>(l.length-j,[(27,vi ((j:Nat):Int))],[(0,.sl 5 [.int .u8] o)],(j≤l.length)∧(o=(l.take j).flatten)∧True)) [2,6,25,26] [] 1 (0,[]) [(0,0)] ⟨Ac,rfl,trivial⟩ ?_)))
  rintro⟨j,o⟩ ac gs ws ⟨hj,ho,_⟩ hS
  refine Ae [] 1 hS fun hS=>Av (AB ((j:Int)<((l.length:Nat):Int)) hS (fun h2=> ?_) (fun h2=> ?_))
  ·refine BE (Ax [(0,AD j l.length)] [] 1 hS fun hS=> ?_)
   have hb:=Zf (l:=l) (j:=j) Ac h
   rw[←ho]at hb
   exact As [(2,FW o.length ((l.getD j (rz [.sl (.int .u8)])).length) 1 Ac)] [6] 2 hS fun hS=>BV (As [(0,BH j)] [27] 2 hS fun hS=>Ab (Al hg0 hS (j+1,o++(l.getD j (rz [.sl (.int .u8)]))) [(0,1)] ⟨Ac,(by rw[Xz l j Ac,←ho]),trivial⟩))
  ·have hT:=hS
   obtain rfl:l.length=j:=by omega
   obtain rfl:l.flatten=o:=Eq.symm (by rw[ho,List.take_length])
   have hS:=hT
   exact CO (Ae [] 1 hS fun hS=>AR (BW hS))
def Af5:Con:=⟨[.ls false [.sl (.int .u8)] l],[],.sk 0,[(0,.sl 5 [.int .u8] l.flatten)]⟩
theorem Rj (h:l.flatten.length≤140737488355328):ConOk Tryz.prog 154 (Af5 l):=by
 refine cy 0 Tryz.func154 rfl Tryz.ntmps154 fun hg0 hS=> ?_
 have A7:l.length≤9223372036854775807:=hS.len 0 rfl
 exact Ae [] 0 hS fun hS=>Ax [(1,AM (Tm l (by first |omega|(simp only[List.flatten_cons,List.flatten_nil,List.length_append,List.length_cons,List.length_nil,List.length_take,List.length_drop,List.length_replicate]<;>omega)|(simp<;>omega))) [] [(0,0)])] [] 1 hS fun hS=>AR (BW hS)
end
end
end Go.Sx.Tryz
namespace Go.Sx.Tryz
open Go.Mi Go.RowKit Go.Sx Go.Proofs
noncomputable section
section
variable (x0:Nat→Int) (x1:Nat)
def Ob1:O:= .ob 250 (chain [.ar .u64 25 x0,vi ((x1:Nat):Int),vi 0])
def Ob2 (x2:Nat):O:= .ob 250 (chain [.ar .u64 25 x0,vi ((x1:Nat):Int),vi ((x2:Nat):Int)])
end
section
variable (r:Nat) (e:Int) (l:List (List Int))
def rO:Con:=⟨[vi (r:Int),.v (.int .u8 e),.ls false [.sl (.int .u8)] l],[],.cp 0 0,[(0,Ob1 (PF r e l) r)]⟩
theorem Hg (hr:0<r) (hr2:r≤200) (h:l.flatten.length≤140000000000000):ConOk Tryz.prog 173 (rO r e l):=by
 refine cy 0 Tryz.func173 rfl Tryz.ntmps173 fun hg0 hS=> ?_
 have B2:l.length≤9223372036854775807:=hS.len 2 rfl
 refine Ae [] 0 hS fun hS=>Ax [(1,AM (Rj l (by first |omega|(simp only[List.flatten_cons,List.flatten_nil,List.length_append,List.length_cons,List.length_nil,List.length_take,List.length_drop,List.length_replicate]<;>omega)|(simp<;>omega))) [] [(0,0)]),(4,FW l.flatten.length 1 1 (by first |omega|(simp only[List.length_append,List.length_cons,List.length_nil];omega)))] [] 2 hS fun hS=>Av ?_
 have hm:=Nat.mod_lt (l.flatten++[e]).length hr
 have hm2:=Nat.mod_lt (r-(l.flatten++[e]).length%r) hr
 have hl1:(l.flatten++[e]).length=l.flatten.length+1:=by simp
 refine As [(5,Ll ((l.flatten++[e]).length) r),(6,G9 r (((l.flatten++[e]).length)%r) (r-(((l.flatten++[e]).length)%r))),(8,Ll (r-(((l.flatten++[e]).length)%r)) r),(9,t8 [(0:Int)≤(((r-(((l.flatten++[e]).length)%r))%r:Nat):Int),(l.flatten++[e]).length+((r-(((l.flatten++[e]).length)%r))%r)≤9223372036854775807,((l.flatten++[e]).length+((r-(((l.flatten++[e]).length)%r))%r))*1≤140737488355328] ⟨by omega,by first |omega|(simp only[List.length_append,List.length_cons,List.length_nil];omega),by first |omega|(simp only[List.length_append,List.length_cons,List.length_nil];omega),trivial⟩)] [7] 3 hS fun hS=> ?_
 obtain⟨p,hp⟩:∃p,p=L8 r e l:=⟨_,rfl⟩
 have hS:=(hS.rv [(0,vi (r:Int)),(6,.v (.pointer none)),(7,.sk 2)] [(2,some (.sl 5 [.int .u8] p))] (by subst hp;kernel_rfl) (by subst hp;kernel_rfl)).sp
 obtain⟨N,hN0,hN⟩:=m7 hr e l
 have hp1:1≤(L8 r e l).length:=by rw[hN];exact Nat.mul_pos hN0 hr
 have hpl:=aW hr e l
 rw[←hp]at hN hp1 hpl
 refine Ej (As [(3,G9 p.length 1 (p.length-1)),(4,AD (p.length-1) p.length),(7,AD (p.length-1) p.length)] [] 3 hS fun hS=> ?_)
 obtain⟨q,hq⟩:∃q,q=m8 r e l:=⟨_,rfl⟩
 have hS:=(hS.rv [(0,vi (r:Int)),(6,.v (.pointer none)),(7,.sk 2)] [(2,some (.sl 5 [.int .u8] q))] (by subst hq;subst hp;kernel_rfl) (by subst hq;subst hp;kernel_rfl)).sp
 have hNq:q.length=N*r:=by rw[hq,Un,←hp,hN]
 have hql:q.length≤140737488355328:=by rw[hq,Un];exact Nat.le_trans (aW hr e l) Ac
 refine Ab (Ae [] 4 hS fun hS=>Av (Br ?_))
 obtain⟨gs,hS⟩:=hS.fz 2
 refine Ar (ι:=Nat×(List Int)×(Nat→Int)) hg0 hS (fun(k,b,f)=>(N-k,[(7,lb b)],[(3,Ob1 f r)],(k≤N)∧(b=q.drop (k*r))∧(f=Sb q r k)∧True)) [0,6,8] [] 4 (0,q,fun _=>0) [(3,3)] ⟨Ac,(by rw[Nat.zero_mul];rfl),rfl,trivial⟩ ?_
 rintro⟨k,b,f⟩ ac gs ws ⟨hk,hb,hf,_⟩ hS
 refine Av (Ae [] 4 hS fun hS=>AB ((0:Int)<((b.length:Nat):Int)) hS (fun h1=> ?_) (fun h1=> ?_))
 ·refine BE (Il ?_)
  obtain⟨hkN,hrb⟩:=Aek hr hNq hb hk Ac
  refine Dj [] 4 hS fun hS=>Ab (Br (Ar (ι:=Nat×(Nat→Int)) hg0 hS (fun(i,g)=>(r-i,[(43,vi ((i:Nat):Int))],[(3,Ob1 g r)],(i≤r)∧(g=iV b f i)∧True)) [0,6,7,8,42] [] 4 (0,f) [(3,3)] ⟨Ac,rfl,trivial⟩ ?_))
  rintro⟨i,g⟩ ac gs ws ⟨hi,hg,_⟩ hS
  refine Ae [] 4 hS fun hS=>Av (AB ((i:Int)<(r:Int)) hS (fun h2=> ?_) (fun h2=> ?_))
  ·exact BE (Ae [] 4 hS fun hS=>As [(2,Vy i 8),(5,AD (i/8) 25),(9,AD i b.length),(13,Ll i 8),(14,HJ 8 (i%8) (8*(i%8))),(15,EQ (8*(i%8))),(19,AD (i/8) 25)] [] 4 hS fun hS=>BV (As [(0,BH i)] [43] 4 hS fun hS=>Ab (Al hg0 hS (i+1,upd g (i/8) (AK .u64 (g (i/8)) (Bf .u64 (IntKind.wrap .u64 (b.getD i 0)) ((8*(i%8):Nat):Int)))) [(3,3)] ⟨Ac,(by rw[hg];rfl),trivial⟩)))
  ·have hT:=hS
   obtain rfl:r=i:=by omega
   have hS:=hT
   exact CO (As [(4,GK (.ar .u64 25 g) [(.ar .u64 25 g:D)=(.ar .u64 25 g)] ⟨rfl,trivial⟩),(5,AP (aS g))] [] 4 hS fun hS=>BV (As [(2,O2 r b.length)] [7] 4 hS fun hS=>Ab (Al hg0 hS (k+1,b.drop r,Ca g) [(3,3)] ⟨Ac,(tT hb),(tS hb hf hg),trivial⟩)))
 ·have hT:=hS
  obtain rfl:q.length/r=k:=Eq.symm (AaN hr hNq hb hk Ac)
  obtain rfl:PF r e l=f:=Eq.symm (by rw[hf,hq];rfl)
  have hS:=hT
  refine CO (Ae [] 4 hS fun hS=>AR ?_)
  obtain⟨gs,hS⟩:=hS.rx [(0,3)] [6] [0] 1 hg0
  exact BW hS
end
section
variable (r:Nat) (f:Nat→Int) (a n:Nat)
def AdC:Con:=⟨[.cp 0 0,vi (n:Int)],[(0,Ob2 f r a)],lb ((Dl r f a n).2.2),[(0,Ob2 ((Dl r f a n).1) r ((Dl r f a n).2.1))]⟩
theorem LO (hr:0<r) (hr2:r≤200) (har:a≤r) (h:n≤140737488355328):ConOk Tryz.prog 174 (AdC r f a n):=by
 refine cy 1 Tryz.func174 rfl Tryz.ntmps174 fun hg0 hS=>Ae [] 1 hS fun hS=>Av (Br ?_)
 obtain⟨gs,hS⟩:=hS.nilk 4 5 [.int .u8]
 refine Ar (ι:=(Nat→Int)×Nat×(List Int)) hg0 hS (fun(g,b,o)=>(n-o.length,[],[(0,Ob2 g r b),(1,.sl 5 [.int .u8] o)],(b≤r)∧(o.length≤n)∧((g,b,o)=Dl r f a o.length)∧True)) [0,1,4] [] 2 (f,a,[]) [(0,0),(1,1)] ⟨Ac,(by simp),(eF r f a),trivial⟩ ?_
 rintro⟨g,b,o⟩ ac gs ws ⟨hb,ho,hq,_⟩ hS
 refine Av (Ae [] 2 hS fun hS=>AB (((o.length:Nat):Int)<(n:Int)) hS (fun h1=> ?_) (fun h1=> ?_))
 ·refine BP (Br (Av (Ae [] 2 hS fun hS=>AB ((b:Int)=(r:Int)) hS (fun h2=> ?_) (fun h2=> ?_))))
  ·exact As [(5,GK (.ar .u64 25 g) [(.ar .u64 25 g:D)=(.ar .u64 25 g)] ⟨rfl,trivial⟩),(6,AP (aS g))] [] 2 hS fun hS=>Ab (Ax [(6,RE ((8:Int)≠0)),(9,AD 0 25),(15,RE ((8:Int)≠0)),(17,EQ 0),(20,FW o.length 1 1)] [4] 3 hS fun hS=>Dj [] 3 hS fun hS=>BV (Al hg0 hS (Ca g,1,o++[(IntKind.wrap .u8 (AY .u64 ((Ca g) 0) 0))]) [(0,0),(1,2)] ⟨Ac,(by simp<;>omega),(by first |exact Wj hq Ac|exact Wi hq Ac),trivial⟩ (by simp<;>omega)))
  ·exact BP (Ax [(6,Vy b 8),(9,AD (b/8) 25),(15,Ll b 8),(16,HJ 8 (b%8) (8*(b%8))),(17,EQ (8*(b%8))),(20,FW o.length 1 1)] [4] 3 hS fun hS=>As [(4,BH b)] [] 3 hS fun hS=>BV (Al hg0 hS (g,b+1,o++[(IntKind.wrap .u8 (AY .u64 (g (b/8)) ((8*(b%8):Nat):Int)))]) [(0,0),(1,2)] ⟨Ac,(by simp<;>omega),(by first |exact Wj hq Ac|exact Wi hq Ac),trivial⟩ (by simp<;>omega)))
 ·have hT:=hS
  have hn:o.length=n:=by omega
  obtain⟨e1,e2,e3⟩:=Ab6 hq hn
  obtain rfl:(Dl r f a n).1=g:=Eq.symm e1
  obtain rfl:(Dl r f a n).2.1=b:=Eq.symm e2
  obtain rfl:(Dl r f a n).2.2=o:=Eq.symm e3
  have hS:=hT
  refine CO (Ae [4] 2 hS fun hS=>AR ?_)
  obtain⟨gs,hS⟩:=hS.fz 1
  exact BW hS
end
end
end Go.Sx.Tryz
namespace Go.Sx.Tryz
open Go.Mi Go.RowKit Go.Sx Go.Proofs
noncomputable section
def M1 (x0:Nat→Int):O:= .ob 212 (chain [.ar .u16 256 x0])
section
variable (x:Int)
def Abi:Int:=(IntKind.wrap .u16 (DV x 3329))
def Df:Int:=AJ (Abi x)
theorem Abj:Df x=Abi x:=Ag _
def AfZ (z_:Int:=Df x):Con:=⟨[.v (.int .u32 x)],[],.v (.int .u16 z_),[]⟩
theorem G2:ConOk Tryz.prog 177 (AfZ x):=by
 exact cy 0 Tryz.func177 rfl Tryz.ntmps177 fun hg0 hS=>Ae [] 0 hS fun hS=>Ax [(1,RE ((3329:Int)≠0))] [] 0 hS fun hS=>AR (Bi (Abj ..) hS)
end
def XQ (g:Nat→Int) (x6:Nat):(Nat→Int)→(Nat→Int):=fun o2_0=>upd o2_0 x6 (Df (AZ .u32 (IntKind.wrap .u32 (o2_0 x6)) (IntKind.wrap .u32 (g x6))))
section
variable (f g:Nat→Int)
def RB (f g:Nat→Int):Nat→(Nat→Int)
 |0=>f
 |x6+1=>XQ g x6 (RB f g x6)
def AbI:(Nat→Int):=RB f g 256
def Bb:(Nat→Int):=AJ (AbI f g)
theorem AbJ:Bb f g=AbI f g:=Ag _
def Af6 (z_:(Nat→Int):=Bb f g):Con:=⟨[.ar .u16 256 f,.ar .u16 256 g],[],.ar .u16 256 z_,[]⟩
theorem Ir:ConOk Tryz.prog 151 (Af6 f g):=by
 refine cy 0 Tryz.func151 rfl Tryz.ntmps151 fun hg0 hS=>Ae [] 3 hS fun hS=>Av (Ae [] 3 hS fun hS=>Br (Ar (ι:=Nat×(Nat→Int)) hg0 hS (fun(x6,o2_0)=>(256-x6,[(6,vi ((x6:Nat):Int))],[(0,M1 o2_0)],(x6≤256)∧(o2_0=RB f g x6)∧True)) [2,3,4] [1,2] 3 (0,f) [(0,0),(1,1),(2,2)] ⟨Ac,rfl,trivial⟩ ?_))
 rintro⟨x6,o2_0⟩ ac gs ws ⟨hx6,hq1,_⟩ hS
 refine Ae [] 3 hS fun hS=>Av (AB ((x6:Int)<256) hS (fun h1=> ?_) (fun h1=> ?_))
 ·exact BE (Ae [] 3 hS fun hS=>As [(2,AD x6 256),(6,AD x6 256),(10,AP (G2 (AZ .u32 (IntKind.wrap .u32 (o2_0 x6)) (IntKind.wrap .u32 (g x6))))),(11,AD x6 256)] [] 3 hS fun hS=>BV (As [(0,BH x6)] [6] 3 hS fun hS=>Ab (Al hg0 hS (x6+1,upd o2_0 x6 (Df (AZ .u32 (IntKind.wrap .u32 (o2_0 x6)) (IntKind.wrap .u32 (g x6))))) [(0,0),(1,1),(2,2)] ⟨Ac,(A3 (st:=XQ _) hq1 rfl rfl),trivial⟩)))
 ·have hT:=hS
  obtain rfl:256=x6:=by omega
  obtain rfl:=hq1.symm
  have hS:=hT
  exact CO (Ae [] 3 hS fun hS=>AR (Bi (AbJ ..) hS))
end
def VN (g:Nat→Int) (x6:Nat):(Nat→Int)→(Nat→Int):=fun o2_0=>upd o2_0 x6 (Df (EC .u32 (AZ .u32 (IntKind.wrap .u32 (o2_0 x6)) 3329) (IntKind.wrap .u32 (DV (g x6) 3329))))
section
variable (f g:Nat→Int)
def Yb (f g:Nat→Int):Nat→(Nat→Int)
 |0=>f
 |x6+1=>VN g x6 (Yb f g x6)
def Aa4:(Nat→Int):=Yb f g 256
def J9:(Nat→Int):=AJ (Aa4 f g)
theorem AeE:J9 f g=Aa4 f g:=Ag _
def AfL (z_:(Nat→Int):=J9 f g):Con:=⟨[.ar .u16 256 f,.ar .u16 256 g],[],.ar .u16 256 z_,[]⟩
theorem AbQ:ConOk Tryz.prog 196 (AfL f g):=by
 refine cy 0 Tryz.func196 rfl Tryz.ntmps196 fun hg0 hS=>Ae [] 3 hS fun hS=>Av (Ae [] 3 hS fun hS=>Br (Ar (ι:=Nat×(Nat→Int)) hg0 hS (fun(x6,o2_0)=>(256-x6,[(6,vi ((x6:Nat):Int))],[(0,M1 o2_0)],(x6≤256)∧(o2_0=Yb f g x6)∧True)) [2,3,4] [1,2] 3 (0,f) [(0,0),(1,1),(2,2)] ⟨Ac,rfl,trivial⟩ ?_))
 rintro⟨x6,o2_0⟩ ac gs ws ⟨hx6,hq1,_⟩ hS
 refine Ae [] 3 hS fun hS=>Av (AB ((x6:Int)<256) hS (fun h1=> ?_) (fun h1=> ?_))
 ·exact BE (Ae [] 3 hS fun hS=>As [(2,AD x6 256),(7,AD x6 256),(9,RE ((3329:Int)≠0)),(12,AP (G2 (EC .u32 (AZ .u32 (IntKind.wrap .u32 (o2_0 x6)) 3329) (IntKind.wrap .u32 (DV (g x6) 3329))))),(13,AD x6 256)] [] 3 hS fun hS=>BV (As [(0,BH x6)] [6] 3 hS fun hS=>Ab (Al hg0 hS (x6+1,upd o2_0 x6 (Df (EC .u32 (AZ .u32 (IntKind.wrap .u32 (o2_0 x6)) 3329) (IntKind.wrap .u32 (DV (g x6) 3329))))) [(0,0),(1,1),(2,2)] ⟨Ac,(A3 (st:=VN _) hq1 rfl rfl),trivial⟩)))
 ·have hT:=hS
  obtain rfl:256=x6:=by omega
  obtain rfl:=hq1.symm
  have hS:=hT
  exact CO (Ae [] 3 hS fun hS=>AR (Bi (AeE ..) hS))
end
def NM (x3:Nat):(Int×Int)→(Int×Int):=fun(x0,x2)=>((AY .i64 x0 1),(C9 .i64 (Bf .i64 x2 1) (A6 .i64 x0 1)))
section
variable (i:Nat)
def Nc (i:Nat):Nat→Int×Int
 |0=>((i:Int),0)
 |x3+1=>NM x3 (Nc i x3)
def Lz:Int:=((Nc i 7).2)
def Gl:Int:=AJ (Lz i)
theorem VF:Gl i=Lz i:=Ag _
theorem dK (h:i<128):0≤Gl i∧Gl i<128:=by
 have key:((List.range 128).all fun i=>decide (0≤Lz i)&&decide (Lz i<128))=true:=by kernel_rfl
 have :=List.all_eq_true.1 key i (List.mem_range.2 h)
 rw[Bool.and_eq_true,decide_eq_true_iff,decide_eq_true_iff]at this
 rw[VF]
 exact this
def rF (z_:Int:=Gl i):Con:=⟨[vi (i:Int)],[],vi z_,[]⟩
theorem dJ (h:i<128):ConOk Tryz.prog 200 (rF i):=by
 refine cy 0 Tryz.func200 rfl Tryz.ntmps200 fun hg0 hS=>Ae [] 0 hS fun hS=>Av (Ae [] 0 hS fun hS=>Br (Ar (ι:=Nat×Int×Int) hg0 hS (fun(x3,x0,x2)=>(7-x3,[(0,vi x0),(2,vi x2),(3,vi ((x3:Nat):Int))],[],(x3≤7)∧((x0,x2)=Nc i x3)∧True)) [] [] 0 (0,(i:Int),0) [] ⟨Ac,rfl,trivial⟩ ?_))
 rintro⟨x3,x0,x2⟩ ac gs ws ⟨hx3,hq1,_⟩ hS
 refine Ae [] 0 hS fun hS=>Av (AB ((x3:Int)<7) hS (fun h1=> ?_) (fun h1=> ?_))
 ·exact BE (Ax [(1,EQ 1)] [2] 0 hS fun hS=>As [(1,EQ 1)] [0] 0 hS fun hS=>BV (As [(0,BH x3)] [3] 0 hS fun hS=>Ab (Al hg0 hS (x3+1,(AY .i64 x0 1),(C9 .i64 (Bf .i64 x2 1) (A6 .i64 x0 1))) [] ⟨Ac,(A3 (st:=NM) hq1 rfl rfl),trivial⟩)))
 ·have hT:=hS
  obtain rfl:7=x3:=by omega
  obtain⟨rfl,rfl⟩:=Ug hq1
  have hS:=hT
  exact CO (Ae [2] 0 hS fun hS=>AR (Bi (VF ..) hS))
end
def O6 (k1:Nat):(Nat×(Nat→Int))→(Nat×(Nat→Int)):=fun(x2,o1_0)=>(x2+1,upd o1_0 x2 (DV (BL .u32 (o1_0 (Int.toNat (((x2:Nat):Int)-1))) 17) 3329))
def Gk:Nat→Nat×(Nat→Int)
 |0=>(1,upd (fun _=>0) 0 1)
 |k1+1=>O6 k1 (Gk k1)
def Kr:(Nat×(Nat→Int))→Prop:=fun(x2,o1_0)=>((x2:Nat):Int)<128
def O4 (x17:Nat):(Nat→Int)→(Nat→Int):=fun o0_0=>upd o0_0 x17 (((Gk (CS fun j=>Kr (Gk j))).2) (Int.toNat (Gl x17)))
def O5:Nat→(Nat→Int)
 |0=>fun _=>0
 |x17+1=>O4 x17 (O5 x17)
def ZO:(Nat→Int):=O5 128
def CV:(Nat→Int):=AJ (ZO)
theorem uN:CV=ZO:=Ag _
def y3 (z_:(Nat→Int):=CV):Con:=⟨[],[],.ar .u32 128 z_,[]⟩
theorem O3:ConOk Tryz.prog 176 (y3):=by
 refine cy 0 Tryz.func176 rfl Tryz.ntmps176 fun hg0 hS=>Ae [] 1 hS fun hS=>Ae [] 2 hS fun hS=>Ax [(0,AD 0 128)] [] 2 hS fun hS=>Av (Ae [] 2 hS fun hS=>Br (Ar (ι:=Nat×Nat×(Nat→Int)) hg0 hS (fun(k1,x2,o1_0)=>(128-x2,[(2,vi (x2:Int))],[(1,.ob 233 (chain [.ar .u32 128 o1_0]))],((x2,o1_0)=Gk k1)∧(∀j,j<k1→Kr (Gk j))∧(x2≤128)∧(1≤x2)∧True)) [0,1] [0] 2 (0,1,upd (fun _=>0) 0 1) [(0,0),(1,1)] ⟨rfl,(fun j h=>absurd h (Nat.not_lt_zero j)),Ac,Ac,trivial⟩ ?_))
 rintro⟨k1,x2,o1_0⟩ ac gs ws ⟨hq1,hj1,p1,p2,_⟩ hS
 refine Av (Ae [] 2 hS fun hS=>AB ((x2:Int)<128) hS (fun h1=> ?_) (fun h1=> ?_))
 ·exact BE (As [(2,ZH (x2:Int) 1),(3,XZ ((x2:Int)-1) 128),(6,RE ((3329:Int)≠0)),(7,AD x2 128)] [] 2 hS fun hS=>BV (As [(1,BH x2)] [2] 2 hS fun hS=>Ab (Al hg0 hS (k1+1,x2+1,upd o1_0 x2 (DV (BL .u32 (o1_0 (Int.toNat ((x2:Int)-1))) 17) 3329)) [(0,0),(1,1)] ⟨(A3 (st:=O6) hq1 rfl rfl),(A0 hj1 (by rw[←hq1];exact h1)),Ac,Ac,trivial⟩)))
 ·have hT:=hS
  obtain rfl:=BK (by rw[←hq1];first |exact h1|exact not_not_intro h1) hj1
  obtain⟨rfl,rfl⟩:=Ug hq1
  have hS:=hT
  refine ML (Ae [] 2 hS fun hS=>Br (Ar (ι:=Nat×(Nat→Int)) hg0 hS (fun(x17,o0_0)=>(128-x17,[(17,vi ((x17:Nat):Int))],[(0,.ob 233 (chain [.ar .u32 128 o0_0]))],(x17≤128)∧(o0_0=O5 x17)∧True)) [0,1] [1] 2 (0,fun _=>0) [(0,0),(1,1)] ⟨Ac,rfl,trivial⟩ ?_))
  rintro⟨x17,o0_0⟩ ac gs ws ⟨hx17,hq2,_⟩ hS
  refine Ae [] 2 hS fun hS=>Av (AB ((x17:Int)<128) hS (fun h2=> ?_) (fun h2=> ?_))
  ·refine BE (Ae [] 2 hS fun hS=> ?_)
   have ht:=dK x17 Ac
   exact As [(2,AP (dJ x17 Ac)),(3,XZ (Gl x17) 128),(5,AD x17 128)] [] 2 hS fun hS=>BV (As [(0,BH x17)] [17] 2 hS fun hS=>Ab (Al hg0 hS (x17+1,upd o0_0 x17 (((Gk (CS fun j=>Kr (Gk j))).2) (Int.toNat (Gl x17)))) [(0,0),(1,1)] ⟨Ac,(A3 (st:=O4) hq2 rfl rfl),trivial⟩))
  ·have hT:=hS
   obtain rfl:128=x17:=by omega
   obtain rfl:=hq2.symm
   have hS:=hT
   exact CO (Ae [] 2 hS fun hS=>AR (Bi (uN ..) hS))
def PW (h:Nat):Prop:=h=1∨h=2∨h=4∨h=8∨h=16∨h=32∨h=64∨h=128
theorem AeW {h k:Nat} (h2:2≤h) (hh:PW h) (hk:k*h=128):k*(2*h)=256+0∧PW (h/2)∧h≤128:=by
 unfold PW at hh⊢
 rcases hh with rfl|rfl|rfl|rfl|rfl|rfl|rfl|rfl<;>omega
theorem AeV {h k f:Nat} (h2:2≤h) (hh:PW h) (hk:k*(2*h)=256+f) (hf:f<256):f+2*h≤256∧k<128∧(k+1)*(2*h)=256+(f+2*h):=by
 unfold PW at hh
 rcases hh with rfl|rfl|rfl|rfl|rfl|rfl|rfl|rfl<;>omega
theorem AeU {h k f:Nat} (h2:2≤h) (hh:PW h) (hk:k*(2*h)=256+f) (hf:f=256):k*(h/2)=128:=by
 unfold PW at hh
 rcases hh with rfl|rfl|rfl|rfl|rfl|rfl|rfl|rfl<;>omega
def WE (x5 x4_2 k3:Nat):(Nat×(Nat→Int))→(Nat×(Nat→Int)):=fun(x7,o1_0_3)=>(x7+1,upd (upd o1_0_3 x7 (Df (AZ .u32 (IntKind.wrap .u32 (o1_0_3 x7)) (DV (BL .u32 (CV x4_2) (IntKind.wrap .u32 (o1_0_3 (x7+x5)))) 3329)))) (x7+x5) (Df (EC .u32 (AZ .u32 (IntKind.wrap .u32 (o1_0_3 x7)) 3329) (DV (BL .u32 (CV x4_2) (IntKind.wrap .u32 (o1_0_3 (x7+x5)))) 3329))))
def KP (x5 x4_2 x6:Nat) (o1_0_2:Nat→Int):Nat→Nat×(Nat→Int)
 |0=>(x6,o1_0_2)
 |k3+1=>WE x5 x4_2 k3 (KP x5 x4_2 x6 o1_0_2 k3)
def Qu (x5 x6:Nat):(Nat×(Nat→Int))→Prop:=fun(x7,o1_0_3)=>((x7:Nat):Int)<((x6+x5:Nat):Int)
def WF (x5 k2:Nat):(Nat×Nat×(Nat→Int))→(Nat×Nat×(Nat→Int)):=fun(x4_2,x6,o1_0_2)=>(x4_2+1,x6+(2*x5),(KP x5 x4_2 x6 o1_0_2 (CS fun j=>Qu x5 x6 (KP x5 x4_2 x6 o1_0_2 j))).2)
def Gw (x4 x5:Nat) (o1_0:Nat→Int):Nat→Nat×Nat×(Nat→Int)
 |0=>(x4,0,o1_0)
 |k2+1=>WF x5 k2 (Gw x4 x5 o1_0 k2)
def I3:(Nat×Nat×(Nat→Int))→Prop:=fun(x4_2,x6,o1_0_2)=>(x6:Int)<256
def WG (k1:Nat):(Nat×Nat×(Nat→Int))→(Nat×Nat×(Nat→Int)):=fun(x4,x5,o1_0)=>((Gw x4 x5 o1_0 (CS fun j=>I3 (Gw x4 x5 o1_0 j))).1,x5/2,(Gw x4 x5 o1_0 (CS fun j=>I3 (Gw x4 x5 o1_0 j))).2.2)
def Qv (f:Nat→Int):Nat→Nat×Nat×(Nat→Int)
 |0=>(1,128,Bb f (fun _=>0))
 |k1+1=>WG k1 (Qv f k1)
def WH:(Nat×Nat×(Nat→Int))→Prop:=fun(x4,x5,o1_0)=>(2:Int)≤(x5:Int)
section
variable (f:Nat→Int)
def Abf:(Nat→Int):=(Qv f (CS fun j=>WH (Qv f j))).2.2
def SU:(Nat→Int):=AJ (Abf f)
theorem AeT:SU f=Abf f:=Ag _
def AfV (z_:(Nat→Int):=SU f):Con:=⟨[.ar .u16 256 f],[],.ar .u16 256 z_,[]⟩
theorem nE:ConOk Tryz.prog 150 (AfV f):=by
 refine cy 0 Tryz.func150 rfl Tryz.ntmps150 fun hg0 hS=>Ae [] 2 hS fun hS=>Ax [(0,GK (.ar .u16 256 f) [(.ar .u16 256 f:D)=(.ar .u16 256 f)] ⟨rfl,trivial⟩),(2,ID (Ir f (fun _=>0)) [] [] [.ar .u16 256 f,.ar .u16 256 (fun _=>0)] [])] [] 2 hS fun hS=>Ax [(0,AP (O3))] [3] 3 hS fun hS=>Av (Ae [] 3 hS fun hS=>Br (Ar (ι:=Nat×Nat×Nat×(Nat→Int)) hg0 hS (fun(k1,x4,x5,o1_0)=>(x5,[(4,vi (x4:Int)),(5,vi (x5:Int))],[(0,M1 o1_0)],((x4,x5,o1_0)=Qv f k1)∧(∀j,j<k1→WH (Qv f j))∧(PW x5)∧(x4*x5=128)∧True)) [1,2,3] [1,2] 3 (0,1,128,Bb f (fun _=>0)) [(0,0),(1,1),(2,2)] ⟨rfl,(fun j h=>absurd h (Nat.not_lt_zero j)),(by unfold PW;omega),rfl,trivial⟩ ?_))
 rintro⟨k1,x4,x5,o1_0⟩ ac gs ws ⟨hq1,hj1,pw,pk,_⟩ hS
 refine Av (Ae [] 3 hS fun hS=>AB ((2:Int)≤(x5:Int)) hS (fun h1=> ?_) (fun h1=> ?_))
 ·refine BE (Av ?_)
  have pa:=AeW Ac pw pk
  refine Dj [] 3 hS fun hS=>Ab (Br (Ar (ι:=Nat×Nat×Nat×(Nat→Int)) hg0 hS (fun(k2,x4_2,x6,o1_0_2)=>(256-x6,[(4,vi (x4_2:Int)),(6,vi (x6:Int))],[(0,M1 o1_0_2)],((x4_2,x6,o1_0_2)=Gw x4 x5 o1_0 k2)∧(∀j,j<k2→I3 (Gw x4 x5 o1_0 j))∧(x4_2*(2*x5)=256+x6)∧(x6≤256)∧True)) [1,2,3,5] [1,2] 3 (0,x4,0,o1_0) [(0,0),(1,1),(2,2)] ⟨rfl,(fun j h=>absurd h (Nat.not_lt_zero j)),pa.1,Ac,trivial⟩ ?_))
  rintro⟨k2,x4_2,x6,o1_0_2⟩ ac gs ws ⟨hq2,hj2,p2,p3,_⟩ hS
  refine Av (Ae [] 3 hS fun hS=>AB ((x6:Int)<256) hS (fun h2=> ?_) (fun h2=> ?_))
  ·refine BE (Il ?_)
   have pb:=AeV Ac pw p2 Ac
   refine Dj [] 3 hS fun hS=>Ab (Br (Ar (ι:=Nat×Nat×(Nat→Int)) hg0 hS (fun(k3,x7,o1_0_3)=>(x6+x5-x7,[(7,vi (x7:Int))],[(0,M1 o1_0_3)],((x7,o1_0_3)=KP x5 x4_2 x6 o1_0_2 k3)∧(∀j,j<k3→Qu x5 x6 (KP x5 x4_2 x6 o1_0_2 j))∧(x6≤x7)∧(x7≤x6+x5)∧True)) [1,2,3,4,5,6] [1,2] 3 (0,x6,o1_0_2) [(0,0),(1,1),(2,2)] ⟨rfl,(fun j h=>absurd h (Nat.not_lt_zero j)),Ac,Ac,trivial⟩ ?_))
   rintro⟨k3,x7,o1_0_3⟩ ac gs ws ⟨hq3,hj3,p4,p5,_⟩ hS
   refine Av (Ax [(3,Ek x6 x5 (x6+x5))] [] 3 hS fun hS=>AB ((x7:Int)<((x6+x5:Nat):Int)) hS (fun h3=> ?_) (fun h3=> ?_))
   ·exact BE (Ax [(1,AD x4_2 128),(5,Ek x7 x5 (x7+x5)),(6,AD (x7+x5) 256),(10,RE ((3329:Int)≠0))] [] 3 hS fun hS=>As [(3,Ek x7 x5 (x7+x5)),(5,AD x7 256),(10,AP (G2 (AZ .u32 (IntKind.wrap .u32 (o1_0_3 x7)) (DV (BL .u32 (CV x4_2) (IntKind.wrap .u32 (o1_0_3 (x7+x5)))) 3329)))),(12,AD x7 256),(18,AP (G2 (EC .u32 (AZ .u32 (IntKind.wrap .u32 (o1_0_3 x7)) 3329) (DV (BL .u32 (CV x4_2) (IntKind.wrap .u32 (o1_0_3 (x7+x5)))) 3329)))),(19,AD x7 256),(21,AD (x7+x5) 256)] [] 3 hS fun hS=>BV (As [(1,BH x7)] [7] 3 hS fun hS=>Ab (Al hg0 hS (k3+1,x7+1,upd (upd o1_0_3 x7 (Df (AZ .u32 (IntKind.wrap .u32 (o1_0_3 x7)) (DV (BL .u32 (CV x4_2) (IntKind.wrap .u32 (o1_0_3 (x7+x5)))) 3329)))) (x7+x5) (Df (EC .u32 (AZ .u32 (IntKind.wrap .u32 (o1_0_3 x7)) 3329) (DV (BL .u32 (CV x4_2) (IntKind.wrap .u32 (o1_0_3 (x7+x5)))) 3329)))) [(0,0),(1,1),(2,2)] ⟨(A3 (st:=WE _ _) hq3 rfl rfl),(A0 hj3 (by rw[←hq3];exact h3)),Ac,Ac,trivial⟩)))
   ·have hT:=hS
    obtain rfl:=BK (by rw[←hq3];first |exact h3|exact not_not_intro h3) hj3
    obtain⟨rfl,rfl⟩:=Ug hq3
    have hS:=hT
    exact CO (As [(1,BH x4_2)] [4] 3 hS fun hS=>BV (As [(2,HJ 2 x5 (2*x5)),(3,Ek x6 (2*x5) (x6+(2*x5)))] [6] 3 hS fun hS=>Ab (Al hg0 hS (k2+1,x4_2+1,x6+(2*x5),(KP x5 x4_2 x6 o1_0_2 (CS fun j=>Qu x5 x6 (KP x5 x4_2 x6 o1_0_2 j))).2) [(0,0),(1,1),(2,2)] ⟨(A3 (st:=WF _) hq2 rfl rfl),(A0 hj2 (by rw[←hq2];exact h2)),pb.2.2,pb.1,trivial⟩)))
  ·have hT:=hS
   have pe:=AeU Ac pw p2 Ac
   have pn:=pa.2.1
   obtain rfl:=BK (by rw[←hq2];first |exact h2|exact not_not_intro h2) hj2
   obtain⟨rfl,rfl,rfl⟩:=mQ hq2
   have hS:=hT
   exact Vx (As [(1,Vy x5 2)] [5] 3 hS fun hS=>Ab (Al hg0 hS (k1+1,(Gw x4 x5 o1_0 (CS fun j=>I3 (Gw x4 x5 o1_0 j))).1,x5/2,(Gw x4 x5 o1_0 (CS fun j=>I3 (Gw x4 x5 o1_0 j))).2.2) [(0,0),(1,1),(2,2)] ⟨(A3 (st:=WG) hq1 rfl rfl),(A0 hj1 (by rw[←hq1];exact h1)),pn,pe,trivial⟩))
 ·have hT:=hS
  obtain rfl:=BK (by rw[←hq1];first |exact h1|exact not_not_intro h1) hj1
  obtain⟨rfl,rfl,rfl⟩:=mQ hq1
  have hS:=hT
  exact CO (Ae [] 3 hS fun hS=>AR (Bi (AeT ..) hS))
end
end
end Go.Sx.Tryz
namespace Go.Sx.Tryz
open Go.Mi Go.RowKit Go.Sx Go.Proofs
noncomputable section
def PQ (h:Nat):Prop:=h=2∨h=4∨h=8∨h=16∨h=32∨h=64∨h=128∨h=256
set_option maxRecDepth 10000 in
theorem Ae8 {h k:Nat} (h2:h≤128) (hh:PQ h) (hk:(k+1)*h=256):(k+1)*(2*h)+0=512∧PQ (h*2)∧1≤h:=by
 unfold PQ at hh⊢
 rcases hh with rfl|rfl|rfl|rfl|rfl|rfl|rfl|rfl<;>omega
set_option maxRecDepth 10000 in
theorem Ae7 {h k f:Nat} (h2:h≤128) (hh:PQ h) (hk:(k+1)*(2*h)+f=512) (hf:f<256):f+2*h≤256∧k<128∧1≤k∧(k-1+1)*(2*h)+(f+2*h)=512∧2≤h:=by
 unfold PQ at hh
 rcases hh with rfl|rfl|rfl|rfl|rfl|rfl|rfl|rfl<;>omega
set_option maxRecDepth 10000 in
theorem Ae6 {h k f:Nat} (h2:h≤128) (hh:PQ h) (hk:(k+1)*(2*h)+f=512) (hf:f=256):(k+1)*(h*2)=256:=by
 unfold PQ at hh
 rcases hh with rfl|rfl|rfl|rfl|rfl|rfl|rfl|rfl<;>omega
def Mp (x5 x4_2 k3:Nat):(Nat×(Nat→Int))→(Nat×(Nat→Int)):=fun(x7,o1_0_3)=>(x7+1,upd (upd o1_0_3 x7 (Df (AZ .u32 (IntKind.wrap .u32 (o1_0_3 x7)) (IntKind.wrap .u32 (o1_0_3 (x7+x5)))))) (x7+x5) (Df (BL .u32 (CV x4_2) (EC .u32 (AZ .u32 (IntKind.wrap .u32 ((upd o1_0_3 x7 (Df (AZ .u32 (IntKind.wrap .u32 (o1_0_3 x7)) (IntKind.wrap .u32 (o1_0_3 (x7+x5)))))) (x7+x5))) 3329) (IntKind.wrap .u32 (o1_0_3 x7))))))
def ED (x5 x4_2 x6:Nat) (o1_0_2:Nat→Int):Nat→Nat×(Nat→Int)
 |0=>(x6,o1_0_2)
 |k3+1=>Mp x5 x4_2 k3 (ED x5 x4_2 x6 o1_0_2 k3)
def H9 (x5 x6:Nat):(Nat×(Nat→Int))→Prop:=fun(x7,o1_0_3)=>((x7:Nat):Int)<((x6+x5:Nat):Int)
def Mq (x5 k2:Nat):(Nat×Nat×(Nat→Int))→(Nat×Nat×(Nat→Int)):=fun(x4_2,x6,o1_0_2)=>(x4_2-1,x6+(2*x5),(ED x5 x4_2 x6 o1_0_2 (CS fun j=>H9 x5 x6 (ED x5 x4_2 x6 o1_0_2 j))).2)
def CI (x4 x5:Nat) (o1_0:Nat→Int):Nat→Nat×Nat×(Nat→Int)
 |0=>(x4,0,o1_0)
 |k2+1=>Mq x5 k2 (CI x4 x5 o1_0 k2)
def E2:(Nat×Nat×(Nat→Int))→Prop:=fun(x4_2,x6,o1_0_2)=>(x6:Int)<256
def Mr (k1:Nat):(Nat×Nat×(Nat→Int))→(Nat×Nat×(Nat→Int)):=fun(x4,x5,o1_0)=>((CI x4 x5 o1_0 (CS fun j=>E2 (CI x4 x5 o1_0 j))).1,x5*2,(CI x4 x5 o1_0 (CS fun j=>E2 (CI x4 x5 o1_0 j))).2.2)
def EE (f:Nat→Int):Nat→Nat×Nat×(Nat→Int)
 |0=>(127,2,Bb f (fun _=>0))
 |k1+1=>Mr k1 (EE f k1)
def H_:(Nat×Nat×(Nat→Int))→Prop:=fun(x4,x5,o1_0)=>(x5:Int)≤128
def Mo (x67:Nat):(Nat→Int)→(Nat→Int):=fun o1_0=>upd o1_0 x67 (Df (BL .u32 (IntKind.wrap .u32 (o1_0 x67)) 3303))
section
variable (f:Nat→Int)
def KV (f:Nat→Int):Nat→(Nat→Int)
 |0=>(EE f (CS fun j=>H_ (EE f j))).2.2
 |x67+1=>Mo x67 (KV f x67)
def S3:(Nat→Int):=KV f 256
def AL:(Nat→Int):=AJ (S3 f)
theorem fC:AL f=S3 f:=Ag _
def gX (z_:(Nat→Int):=AL f):Con:=⟨[.ar .u16 256 f],[],.ar .u16 256 z_,[]⟩
theorem KU:ConOk Tryz.prog 197 (gX f):=by
 refine cy 0 Tryz.func197 rfl Tryz.ntmps197 fun hg0 hS=>Ae [] 2 hS fun hS=>Ax [(0,GK (.ar .u16 256 f) [(.ar .u16 256 f:D)=(.ar .u16 256 f)] ⟨rfl,trivial⟩),(2,ID (Ir f (fun _=>0)) [] [] [.ar .u16 256 f,.ar .u16 256 (fun _=>0)] [])] [] 2 hS fun hS=>Ax [(0,AP (O3))] [3] 3 hS fun hS=>Av (Ae [] 3 hS fun hS=>Br (Ar (ι:=Nat×Nat×Nat×(Nat→Int)) hg0 hS (fun(k1,x4,x5,o1_0)=>(256-x5,[(4,vi (x4:Int)),(5,vi (x5:Int))],[(0,M1 o1_0)],((x4,x5,o1_0)=EE f k1)∧(∀j,j<k1→H_ (EE f j))∧(PQ x5)∧((x4+1)*x5=256)∧True)) [1,2,3] [1,2] 3 (0,127,2,Bb f (fun _=>0)) [(0,0),(1,1),(2,2)] ⟨rfl,(fun j h=>absurd h (Nat.not_lt_zero j)),(by unfold PQ;omega),rfl,trivial⟩ ?_))
 rintro⟨k1,x4,x5,o1_0⟩ ac gs ws ⟨hq1,hj1,pw,pk,_⟩ hS
 refine Av (Ae [] 3 hS fun hS=>AB ((x5:Int)≤128) hS (fun h1=> ?_) (fun h1=> ?_))
 ·refine BE (Av ?_)
  have pa:=Ae8 Ac pw pk
  refine Dj [] 3 hS fun hS=>Ab (Br (Ar (ι:=Nat×Nat×Nat×(Nat→Int)) hg0 hS (fun(k2,x4_2,x6,o1_0_2)=>(256-x6,[(4,vi (x4_2:Int)),(6,vi (x6:Int))],[(0,M1 o1_0_2)],((x4_2,x6,o1_0_2)=CI x4 x5 o1_0 k2)∧(∀j,j<k2→E2 (CI x4 x5 o1_0 j))∧((x4_2+1)*(2*x5)+x6=512)∧(x6≤256)∧True)) [1,2,3,5] [1,2] 3 (0,x4,0,o1_0) [(0,0),(1,1),(2,2)] ⟨rfl,(fun j h=>absurd h (Nat.not_lt_zero j)),pa.1,Ac,trivial⟩ ?_))
  rintro⟨k2,x4_2,x6,o1_0_2⟩ ac gs ws ⟨hq2,hj2,p2,p3,_⟩ hS
  refine Av (Ae [] 3 hS fun hS=>AB ((x6:Int)<256) hS (fun h2=> ?_) (fun h2=> ?_))
  ·refine BE (Il ?_)
   have pb:=Ae7 Ac pw p2 Ac
   refine Dj [] 3 hS fun hS=>Ab (Br (Ar (ι:=Nat×Nat×(Nat→Int)) hg0 hS (fun(k3,x7,o1_0_3)=>(x6+x5-x7,[(7,vi (x7:Int))],[(0,M1 o1_0_3)],((x7,o1_0_3)=ED x5 x4_2 x6 o1_0_2 k3)∧(∀j,j<k3→H9 x5 x6 (ED x5 x4_2 x6 o1_0_2 j))∧(x6≤x7)∧(x7≤x6+x5)∧True)) [1,2,3,4,5,6] [1,2] 3 (0,x6,o1_0_2) [(0,0),(1,1),(2,2)] ⟨rfl,(fun j h=>absurd h (Nat.not_lt_zero j)),Ac,Ac,trivial⟩ ?_))
   rintro⟨k3,x7,o1_0_3⟩ ac gs ws ⟨hq3,hj3,p4,p5,_⟩ hS
   refine Av (Ax [(3,Ek x6 x5 (x6+x5))] [] 3 hS fun hS=>AB ((x7:Int)<((x6+x5:Nat):Int)) hS (fun h3=> ?_) (fun h3=> ?_))
   ·exact BE (Ax [(1,AD x7 256)] [] 3 hS fun hS=>Ax [(4,Ek x7 x5 (x7+x5)),(5,AD (x7+x5) 256),(9,AP (G2 (AZ .u32 (IntKind.wrap .u32 (o1_0_3 x7)) (IntKind.wrap .u32 (o1_0_3 (x7+x5)))))),(10,AD x7 256)] [] 3 hS fun hS=>As [(2,Ek x7 x5 (x7+x5)),(4,AD x4_2 128),(8,Ek x7 x5 (x7+x5)),(9,AD (x7+x5) 256),(16,AP (G2 (BL .u32 (CV x4_2) (EC .u32 (AZ .u32 (IntKind.wrap .u32 ((upd o1_0_3 x7 (Df (AZ .u32 (IntKind.wrap .u32 (o1_0_3 x7)) (IntKind.wrap .u32 (o1_0_3 (x7+x5)))))) (x7+x5))) 3329) (IntKind.wrap .u32 (o1_0_3 x7)))))),(17,AD (x7+x5) 256)] [] 3 hS fun hS=>BV (As [(1,BH x7)] [7] 3 hS fun hS=>Ab (Al hg0 hS (k3+1,x7+1,upd (upd o1_0_3 x7 (Df (AZ .u32 (IntKind.wrap .u32 (o1_0_3 x7)) (IntKind.wrap .u32 (o1_0_3 (x7+x5)))))) (x7+x5) (Df (BL .u32 (CV x4_2) (EC .u32 (AZ .u32 (IntKind.wrap .u32 ((upd o1_0_3 x7 (Df (AZ .u32 (IntKind.wrap .u32 (o1_0_3 x7)) (IntKind.wrap .u32 (o1_0_3 (x7+x5)))))) (x7+x5))) 3329) (IntKind.wrap .u32 (o1_0_3 x7)))))) [(0,0),(1,1),(2,2)] ⟨(A3 (st:=Mp _ _) hq3 rfl rfl),(A0 hj3 (by rw[←hq3];exact h3)),Ac,Ac,trivial⟩)))
   ·have hT:=hS
    obtain rfl:=BK (by rw[←hq3];first |exact h3|exact not_not_intro h3) hj3
    obtain⟨rfl,rfl⟩:=Ug hq3
    have hS:=hT
    exact CO (As [(1,G9 x4_2 1 (x4_2-1))] [4] 3 hS fun hS=>BV (As [(2,HJ 2 x5 (2*x5)),(3,Ek x6 (2*x5) (x6+(2*x5)))] [6] 3 hS fun hS=>Ab (Al hg0 hS (k2+1,x4_2-1,x6+(2*x5),(ED x5 x4_2 x6 o1_0_2 (CS fun j=>H9 x5 x6 (ED x5 x4_2 x6 o1_0_2 j))).2) [(0,0),(1,1),(2,2)] ⟨(A3 (st:=Mq _) hq2 rfl rfl),(A0 hj2 (by rw[←hq2];exact h2)),pb.2.2.2.1,pb.1,trivial⟩)))
  ·have hT:=hS
   have pe:=Ae6 Ac pw p2 Ac
   have pn:=pa.2.1
   have pz:=pa.2.2
   obtain rfl:=BK (by rw[←hq2];first |exact h2|exact not_not_intro h2) hj2
   obtain⟨rfl,rfl,rfl⟩:=mQ hq2
   have hS:=hT
   exact Vx (As [(1,HJ x5 2 (x5*2))] [5] 3 hS fun hS=>Ab (Al hg0 hS (k1+1,(CI x4 x5 o1_0 (CS fun j=>E2 (CI x4 x5 o1_0 j))).1,x5*2,(CI x4 x5 o1_0 (CS fun j=>E2 (CI x4 x5 o1_0 j))).2.2) [(0,0),(1,1),(2,2)] ⟨(A3 (st:=Mr) hq1 rfl rfl),(A0 hj1 (by rw[←hq1];exact h1)),pn,pe,trivial⟩))
 ·have hT:=hS
  obtain rfl:=BK (by rw[←hq1];first |exact h1|exact not_not_intro h1) hj1
  obtain⟨rfl,rfl,rfl⟩:=mQ hq1
  have hS:=hT
  refine ML (Ae [] 3 hS fun hS=>Br (Ar (ι:=Nat×(Nat→Int)) hg0 hS (fun(x67,o1_0)=>(256-x67,[(67,vi ((x67:Nat):Int))],[(0,M1 o1_0)],(x67≤256)∧(o1_0=KV f x67)∧True)) [1,2] [1] 2 (0,(EE f (CS fun j=>H_ (EE f j))).2.2) [(0,0),(1,1)] ⟨Ac,rfl,trivial⟩ ?_))
  rintro⟨x67,o1_0⟩ ac gs ws ⟨hx67,hq4,_⟩ hS
  refine Ae [] 2 hS fun hS=>Av (AB ((x67:Int)<256) hS (fun h4=> ?_) (fun h4=> ?_))
  ·exact BE (Ae [] 2 hS fun hS=>As [(2,AD x67 256),(6,AP (G2 (BL .u32 (IntKind.wrap .u32 (o1_0 x67)) 3303))),(7,AD x67 256)] [] 2 hS fun hS=>BV (As [(0,BH x67)] [67] 2 hS fun hS=>Ab (Al hg0 hS (x67+1,upd o1_0 x67 (Df (BL .u32 (IntKind.wrap .u32 (o1_0 x67)) 3303))) [(0,0),(1,1)] ⟨Ac,(A3 (st:=Mo) hq4 rfl rfl),trivial⟩)))
  ·have hT:=hS
   obtain rfl:256=x67:=by omega
   obtain rfl:=hq4.symm
   have hS:=hT
   exact CO (Ae [] 2 hS fun hS=>AR (Bi (fC ..) hS))
end
def WO (g:Nat→Int) (k1:Nat):(Nat×(Nat→Int))→(Nat×(Nat→Int)):=fun(x6,o2_0)=>(x6+2,upd (upd o2_0 x6 (Df (AZ .u32 (BL .u32 (IntKind.wrap .u32 (o2_0 x6)) (IntKind.wrap .u32 ((Bb g (fun _=>0)) x6))) (BL .u32 (DV (BL .u32 (IntKind.wrap .u32 (o2_0 (x6+1))) (IntKind.wrap .u32 ((Bb g (fun _=>0)) (x6+1)))) 3329) (DV (BL .u32 (DV (BL .u32 (CV (x6/2)) (CV (x6/2))) 3329) 17) 3329))))) (x6+1) (Df (AZ .u32 (BL .u32 (IntKind.wrap .u32 (o2_0 x6)) (IntKind.wrap .u32 ((Bb g (fun _=>0)) (x6+1)))) (BL .u32 (IntKind.wrap .u32 (o2_0 (x6+1))) (IntKind.wrap .u32 ((Bb g (fun _=>0)) x6))))))
def Qz (f g:Nat→Int):Nat→Nat×(Nat→Int)
 |0=>(0,Bb f (fun _=>0))
 |k1+1=>WO g k1 (Qz f g k1)
def WP:(Nat×(Nat→Int))→Prop:=fun(x6,o2_0)=>((x6:Nat):Int)<256
section
variable (f:Nat→Int)
def Abh (g:Nat→Int):(Nat→Int):=(Qz f g (CS fun j=>WP (Qz f g j))).2
def a8 (g:Nat→Int):(Nat→Int):=AJ (Abh f g)
theorem AeX (g:Nat→Int):a8 f g=Abh f g:=Ag _
def AfY (g:Nat→Int) (z_:(Nat→Int):=a8 f g):Con:=⟨[.ar .u16 256 f,.ar .u16 256 g],[],.ar .u16 256 z_,[]⟩
theorem AcA (g:Nat→Int):ConOk Tryz.prog 180 (AfY f g):=by
 refine cy 0 Tryz.func180 rfl Tryz.ntmps180 fun hg0 hS=>Ae [] 3 hS fun hS=>Ax [(0,GK (.ar .u16 256 f) [(.ar .u16 256 f:D)=(.ar .u16 256 f)] ⟨rfl,trivial⟩),(2,ID (Ir f (fun _=>0)) [] [] [.ar .u16 256 f,.ar .u16 256 (fun _=>0)] []),(3,GK (.ar .u16 256 g) [(.ar .u16 256 g:D)=(.ar .u16 256 g)] ⟨rfl,trivial⟩),(5,ID (Ir g (fun _=>0)) [] [] [.ar .u16 256 g,.ar .u16 256 (fun _=>0)] [])] [] 3 hS fun hS=>Ax [(0,AP (O3))] [5] 4 hS fun hS=>Av (Ae [] 4 hS fun hS=>Br (Ar (ι:=Nat×Nat×(Nat→Int)) hg0 hS (fun(k1,x6,o2_0)=>(256-x6,[(6,vi (x6:Int))],[(0,M1 o2_0)],((x6,o2_0)=Qz f g k1)∧(∀j,j<k1→WP (Qz f g j))∧(x6≤256)∧(x6%2=0)∧True)) [2,3,4,5] [1,2,3] 4 (0,0,Bb f (fun _=>0)) [(0,0),(1,1),(2,2),(3,3)] ⟨rfl,(fun j h=>absurd h (Nat.not_lt_zero j)),Ac,rfl,trivial⟩ ?_))
 rintro⟨k1,x6,o2_0⟩ ac gs ws ⟨hq1,hj1,p1,p2,_⟩ hS
 refine Av (Ae [] 4 hS fun hS=>AB ((x6:Int)<256) hS (fun h1=> ?_) (fun h1=> ?_))
 ·exact BE (Ax [(1,Vy x6 2),(2,AD (x6/2) 128),(5,Vy x6 2),(6,AD (x6/2) 128),(9,RE ((3329:Int)≠0)),(11,RE ((3329:Int)≠0))] [] 4 hS fun hS=>Ax [(1,AD x6 256),(5,BH x6),(6,AD (x6+1) 256),(10,AD x6 256),(14,BH x6),(15,AD (x6+1) 256)] [] 4 hS fun hS=>As [(2,BH x6),(9,RE ((3329:Int)≠0)),(13,AP (G2 (AZ .u32 (BL .u32 (IntKind.wrap .u32 (o2_0 x6)) (IntKind.wrap .u32 ((Bb g (fun _=>0)) x6))) (BL .u32 (DV (BL .u32 (IntKind.wrap .u32 (o2_0 (x6+1))) (IntKind.wrap .u32 ((Bb g (fun _=>0)) (x6+1)))) 3329) (DV (BL .u32 (DV (BL .u32 (CV (x6/2)) (CV (x6/2))) 3329) 17) 3329))))),(21,AP (G2 (AZ .u32 (BL .u32 (IntKind.wrap .u32 (o2_0 x6)) (IntKind.wrap .u32 ((Bb g (fun _=>0)) (x6+1)))) (BL .u32 (IntKind.wrap .u32 (o2_0 (x6+1))) (IntKind.wrap .u32 ((Bb g (fun _=>0)) x6)))))),(22,AD x6 256),(24,AD (x6+1) 256)] [] 4 hS fun hS=>BV (As [(1,Ek x6 2 (x6+2))] [6] 4 hS fun hS=>Ab (Al hg0 hS (k1+1,x6+2,upd (upd o2_0 x6 (Df (AZ .u32 (BL .u32 (IntKind.wrap .u32 (o2_0 x6)) (IntKind.wrap .u32 ((Bb g (fun _=>0)) x6))) (BL .u32 (DV (BL .u32 (IntKind.wrap .u32 (o2_0 (x6+1))) (IntKind.wrap .u32 ((Bb g (fun _=>0)) (x6+1)))) 3329) (DV (BL .u32 (DV (BL .u32 (CV (x6/2)) (CV (x6/2))) 3329) 17) 3329))))) (x6+1) (Df (AZ .u32 (BL .u32 (IntKind.wrap .u32 (o2_0 x6)) (IntKind.wrap .u32 ((Bb g (fun _=>0)) (x6+1)))) (BL .u32 (IntKind.wrap .u32 (o2_0 (x6+1))) (IntKind.wrap .u32 ((Bb g (fun _=>0)) x6)))))) [(0,0),(1,1),(2,2),(3,3)] ⟨(A3 (st:=WO _) hq1 rfl rfl),(A0 hj1 (by rw[←hq1];exact h1)),Ac,Ac,trivial⟩)))
 ·have hT:=hS
  obtain rfl:=BK (by rw[←hq1];first |exact h1|exact not_not_intro h1) hj1
  obtain⟨rfl,rfl⟩:=Ug hq1
  have hS:=hT
  exact CO (Ae [] 4 hS fun hS=>AR (Bi (AeX ..) hS))
def Ix (x16:Nat):(Nat→Int)→(Nat→Int):=fun o2_0=>upd o2_0 x16 (IntKind.wrap .u16 (A6 .u32 (Mn .u32 (AZ .u32 (Bf .u32 (IntKind.wrap .u32 (DV (f x16) 3329)) 11) 3329) 6658) 1023))
def G6 (f:Nat→Int):Nat→(Nat→Int)
 |0=>f
 |x16+1=>Ix f x16 (G6 f x16)
def MK:(Nat→Int):=G6 f 256
def B8:(Nat→Int):=AJ (MK f)
theorem U4:B8 f=MK f:=Ag _
def Vg (z_:(Nat→Int):=B8 f):Con:=⟨[.ar .u16 256 f,vi 10],[],.tu (chain [.ar .u16 256 z_,vi 0]),[]⟩
theorem RX:ConOk Tryz.prog 198 (Vg f):=by
 refine cy 0 Tryz.func198 rfl Tryz.ntmps198 fun hg0 hS=>Ae [] 2 hS fun hS=>Av (Ae [] 2 hS fun hS=>Ai hS (DU (Ae [] 2 hS fun hS=>Br (Ar (ι:=Nat×(Nat→Int)) hg0 hS (fun(x16,o2_0)=>(256-x16,[(16,vi ((x16:Nat):Int))],[(0,M1 o2_0)],(x16≤256)∧(o2_0=G6 f x16)∧True)) [1,2,4,5,15] [1] 2 (0,f) [(0,0),(1,1)] ⟨Ac,rfl,trivial⟩ ?_))))
 rintro⟨x16,o2_0⟩ ac gs ws ⟨hx16,hq1,_⟩ hS
 refine Ae [] 2 hS fun hS=>Av (AB ((x16:Int)<256) hS (fun h1=> ?_) (fun h1=> ?_))
 ·exact BE (Ax [(1,AD x16 256)] [] 2 hS fun hS=>As [(2,RE ((3329:Int)≠0)),(6,EQ 11),(8,RE ((6658:Int)≠0)),(10,EQ 10),(14,AD x16 256)] [] 2 hS fun hS=>BV (As [(0,BH x16)] [16] 2 hS fun hS=>Ab (Al hg0 hS (x16+1,upd o2_0 x16 (IntKind.wrap .u16 (A6 .u32 (Mn .u32 (AZ .u32 (Bf .u32 (IntKind.wrap .u32 (DV (f x16) 3329)) 11) 3329) 6658) 1023))) [(0,0),(1,1)] ⟨Ac,(A3 (st:=Ix _) hq1 rfl rfl),trivial⟩)))
 ·have hT:=hS
  obtain rfl:256=x16:=by omega
  obtain rfl:=hq1.symm
  have hS:=hT
  exact CO (Ae [] 2 hS fun hS=>AR (Bi (U4 ..) hS))
def Kk (x16:Nat):(Nat→Int)→(Nat→Int):=fun o2_0=>upd o2_0 x16 (IntKind.wrap .u16 (AY .u32 (AZ .u32 (BL .u32 (A6 .u32 (IntKind.wrap .u32 (f x16)) 1023) 3329) 512) 10))
def Jd (f:Nat→Int):Nat→(Nat→Int)
 |0=>f
 |x16+1=>Kk f x16 (Jd f x16)
def QU:(Nat→Int):=Jd f 256
def D5:(Nat→Int):=AJ (QU f)
theorem YU:D5 f=QU f:=Ag _
def Zq (z_:(Nat→Int):=D5 f):Con:=⟨[.ar .u16 256 f,vi 10],[],.tu (chain [.ar .u16 256 z_,vi 0]),[]⟩
theorem W_:ConOk Tryz.prog 195 (Zq f):=by
 refine cy 0 Tryz.func195 rfl Tryz.ntmps195 fun hg0 hS=>Ae [] 2 hS fun hS=>Av (Ae [] 2 hS fun hS=>Ai hS (DU (Ae [] 2 hS fun hS=>Br (Ar (ι:=Nat×(Nat→Int)) hg0 hS (fun(x16,o2_0)=>(256-x16,[(16,vi ((x16:Nat):Int))],[(0,M1 o2_0)],(x16≤256)∧(o2_0=Jd f x16)∧True)) [1,2,4,5,15] [1] 2 (0,f) [(0,0),(1,1)] ⟨Ac,rfl,trivial⟩ ?_))))
 rintro⟨x16,o2_0⟩ ac gs ws ⟨hx16,hq1,_⟩ hS
 refine Ae [] 2 hS fun hS=>Av (AB ((x16:Int)<256) hS (fun h1=> ?_) (fun h1=> ?_))
 ·exact BE (Ax [(1,AD x16 256)] [] 2 hS fun hS=>As [(4,EQ 10),(10,EQ 9),(13,EQ 10),(15,AD x16 256)] [] 2 hS fun hS=>BV (As [(0,BH x16)] [16] 2 hS fun hS=>Ab (Al hg0 hS (x16+1,upd o2_0 x16 (IntKind.wrap .u16 (AY .u32 (AZ .u32 (BL .u32 (A6 .u32 (IntKind.wrap .u32 (f x16)) 1023) 3329) 512) 10))) [(0,0),(1,1)] ⟨Ac,(A3 (st:=Kk _) hq1 rfl rfl),trivial⟩)))
 ·have hT:=hS
  obtain rfl:256=x16:=by omega
  obtain rfl:=hq1.symm
  have hS:=hT
  exact CO (Ae [] 2 hS fun hS=>AR (Bi (YU ..) hS))
def Jn (x16:Nat):(Nat→Int)→(Nat→Int):=fun o2_0=>upd o2_0 x16 (IntKind.wrap .u16 (A6 .u32 (Mn .u32 (AZ .u32 (Bf .u32 (IntKind.wrap .u32 (DV (f x16) 3329)) 5) 3329) 6658) 15))
def Ij (f:Nat→Int):Nat→(Nat→Int)
 |0=>f
 |x16+1=>Jn f x16 (Ij f x16)
def N2:(Nat→Int):=Ij f 256
def CB:(Nat→Int):=AJ (N2 f)
theorem Xr:CB f=N2 f:=Ag _
def XI (z_:(Nat→Int):=CB f):Con:=⟨[.ar .u16 256 f,vi 4],[],.tu (chain [.ar .u16 256 z_,vi 0]),[]⟩
theorem U2:ConOk Tryz.prog 198 (XI f):=by
 refine cy 0 Tryz.func198 rfl Tryz.ntmps198 fun hg0 hS=>Ae [] 2 hS fun hS=>Av (Ae [] 2 hS fun hS=>Ai hS (DU (Ae [] 2 hS fun hS=>Br (Ar (ι:=Nat×(Nat→Int)) hg0 hS (fun(x16,o2_0)=>(256-x16,[(16,vi ((x16:Nat):Int))],[(0,M1 o2_0)],(x16≤256)∧(o2_0=Ij f x16)∧True)) [1,2,4,5,15] [1] 2 (0,f) [(0,0),(1,1)] ⟨Ac,rfl,trivial⟩ ?_))))
 rintro⟨x16,o2_0⟩ ac gs ws ⟨hx16,hq1,_⟩ hS
 refine Ae [] 2 hS fun hS=>Av (AB ((x16:Int)<256) hS (fun h1=> ?_) (fun h1=> ?_))
 ·exact BE (Ax [(1,AD x16 256)] [] 2 hS fun hS=>As [(2,RE ((3329:Int)≠0)),(6,EQ 5),(8,RE ((6658:Int)≠0)),(10,EQ 4),(14,AD x16 256)] [] 2 hS fun hS=>BV (As [(0,BH x16)] [16] 2 hS fun hS=>Ab (Al hg0 hS (x16+1,upd o2_0 x16 (IntKind.wrap .u16 (A6 .u32 (Mn .u32 (AZ .u32 (Bf .u32 (IntKind.wrap .u32 (DV (f x16) 3329)) 5) 3329) 6658) 15))) [(0,0),(1,1)] ⟨Ac,(A3 (st:=Jn _) hq1 rfl rfl),trivial⟩)))
 ·have hT:=hS
  obtain rfl:256=x16:=by omega
  obtain rfl:=hq1.symm
  have hS:=hT
  exact CO (Ae [] 2 hS fun hS=>AR (Bi (Xr ..) hS))
def Mx (x16:Nat):(Nat→Int)→(Nat→Int):=fun o2_0=>upd o2_0 x16 (IntKind.wrap .u16 (AY .u32 (AZ .u32 (BL .u32 (A6 .u32 (IntKind.wrap .u32 (f x16)) 15) 3329) 8) 4))
def K8 (f:Nat→Int):Nat→(Nat→Int)
 |0=>f
 |x16+1=>Mx f x16 (K8 f x16)
def Ta:(Nat→Int):=K8 f 256
def Ci:(Nat→Int):=AJ (Ta f)
theorem fO:Ci f=Ta f:=Ag _
def hO (z_:(Nat→Int):=Ci f):Con:=⟨[.ar .u16 256 f,vi 4],[],.tu (chain [.ar .u16 256 z_,vi 0]),[]⟩
theorem YS:ConOk Tryz.prog 195 (hO f):=by
 refine cy 0 Tryz.func195 rfl Tryz.ntmps195 fun hg0 hS=>Ae [] 2 hS fun hS=>Av (Ae [] 2 hS fun hS=>Ai hS (DU (Ae [] 2 hS fun hS=>Br (Ar (ι:=Nat×(Nat→Int)) hg0 hS (fun(x16,o2_0)=>(256-x16,[(16,vi ((x16:Nat):Int))],[(0,M1 o2_0)],(x16≤256)∧(o2_0=K8 f x16)∧True)) [1,2,4,5,15] [1] 2 (0,f) [(0,0),(1,1)] ⟨Ac,rfl,trivial⟩ ?_))))
 rintro⟨x16,o2_0⟩ ac gs ws ⟨hx16,hq1,_⟩ hS
 refine Ae [] 2 hS fun hS=>Av (AB ((x16:Int)<256) hS (fun h1=> ?_) (fun h1=> ?_))
 ·exact BE (Ax [(1,AD x16 256)] [] 2 hS fun hS=>As [(4,EQ 4),(10,EQ 3),(13,EQ 4),(15,AD x16 256)] [] 2 hS fun hS=>BV (As [(0,BH x16)] [16] 2 hS fun hS=>Ab (Al hg0 hS (x16+1,upd o2_0 x16 (IntKind.wrap .u16 (AY .u32 (AZ .u32 (BL .u32 (A6 .u32 (IntKind.wrap .u32 (f x16)) 15) 3329) 8) 4))) [(0,0),(1,1)] ⟨Ac,(A3 (st:=Mx _) hq1 rfl rfl),trivial⟩)))
 ·have hT:=hS
  obtain rfl:256=x16:=by omega
  obtain rfl:=hq1.symm
  have hS:=hT
  exact CO (Ae [] 2 hS fun hS=>AR (Bi (fO ..) hS))
def Jo (x16:Nat):(Nat→Int)→(Nat→Int):=fun o2_0=>upd o2_0 x16 (IntKind.wrap .u16 (A6 .u32 (Mn .u32 (AZ .u32 (Bf .u32 (IntKind.wrap .u32 (DV (f x16) 3329)) 2) 3329) 6658) 1))
def Ik (f:Nat→Int):Nat→(Nat→Int)
 |0=>f
 |x16+1=>Jo f x16 (Ik f x16)
def N3:(Nat→Int):=Ik f 256
def Dp:(Nat→Int):=AJ (N3 f)
theorem Xs:Dp f=N3 f:=Ag _
def XJ (z_:(Nat→Int):=Dp f):Con:=⟨[.ar .u16 256 f,vi 1],[],.tu (chain [.ar .u16 256 z_,vi 0]),[]⟩
theorem U3:ConOk Tryz.prog 198 (XJ f):=by
 refine cy 0 Tryz.func198 rfl Tryz.ntmps198 fun hg0 hS=>Ae [] 2 hS fun hS=>Av (Ae [] 2 hS fun hS=>Ai hS (DU (Ae [] 2 hS fun hS=>Br (Ar (ι:=Nat×(Nat→Int)) hg0 hS (fun(x16,o2_0)=>(256-x16,[(16,vi ((x16:Nat):Int))],[(0,M1 o2_0)],(x16≤256)∧(o2_0=Ik f x16)∧True)) [1,2,4,5,15] [1] 2 (0,f) [(0,0),(1,1)] ⟨Ac,rfl,trivial⟩ ?_))))
 rintro⟨x16,o2_0⟩ ac gs ws ⟨hx16,hq1,_⟩ hS
 refine Ae [] 2 hS fun hS=>Av (AB ((x16:Int)<256) hS (fun h1=> ?_) (fun h1=> ?_))
 ·exact BE (Ax [(1,AD x16 256)] [] 2 hS fun hS=>As [(2,RE ((3329:Int)≠0)),(6,EQ 2),(8,RE ((6658:Int)≠0)),(10,EQ 1),(14,AD x16 256)] [] 2 hS fun hS=>BV (As [(0,BH x16)] [16] 2 hS fun hS=>Ab (Al hg0 hS (x16+1,upd o2_0 x16 (IntKind.wrap .u16 (A6 .u32 (Mn .u32 (AZ .u32 (Bf .u32 (IntKind.wrap .u32 (DV (f x16) 3329)) 2) 3329) 6658) 1))) [(0,0),(1,1)] ⟨Ac,(A3 (st:=Jo _) hq1 rfl rfl),trivial⟩)))
 ·have hT:=hS
  obtain rfl:256=x16:=by omega
  obtain rfl:=hq1.symm
  have hS:=hT
  exact CO (Ae [] 2 hS fun hS=>AR (Bi (Xs ..) hS))
def My (x16:Nat):(Nat→Int)→(Nat→Int):=fun o2_0=>upd o2_0 x16 (IntKind.wrap .u16 (AY .u32 (AZ .u32 (BL .u32 (A6 .u32 (IntKind.wrap .u32 (f x16)) 1) 3329) 1) 1))
def K_ (f:Nat→Int):Nat→(Nat→Int)
 |0=>f
 |x16+1=>My f x16 (K_ f x16)
def Tb:(Nat→Int):=K_ f 256
def BZ:(Nat→Int):=AJ (Tb f)
theorem fP:BZ f=Tb f:=Ag _
def hU (z_:(Nat→Int):=BZ f):Con:=⟨[.ar .u16 256 f,vi 1],[],.tu (chain [.ar .u16 256 z_,vi 0]),[]⟩
theorem YT:ConOk Tryz.prog 195 (hU f):=by
 refine cy 0 Tryz.func195 rfl Tryz.ntmps195 fun hg0 hS=>Ae [] 2 hS fun hS=>Av (Ae [] 2 hS fun hS=>Ai hS (DU (Ae [] 2 hS fun hS=>Br (Ar (ι:=Nat×(Nat→Int)) hg0 hS (fun(x16,o2_0)=>(256-x16,[(16,vi ((x16:Nat):Int))],[(0,M1 o2_0)],(x16≤256)∧(o2_0=K_ f x16)∧True)) [1,2,4,5,15] [1] 2 (0,f) [(0,0),(1,1)] ⟨Ac,rfl,trivial⟩ ?_))))
 rintro⟨x16,o2_0⟩ ac gs ws ⟨hx16,hq1,_⟩ hS
 refine Ae [] 2 hS fun hS=>Av (AB ((x16:Int)<256) hS (fun h1=> ?_) (fun h1=> ?_))
 ·exact BE (Ax [(1,AD x16 256)] [] 2 hS fun hS=>As [(4,EQ 1),(10,EQ 0),(13,EQ 1),(15,AD x16 256)] [] 2 hS fun hS=>BV (As [(0,BH x16)] [16] 2 hS fun hS=>Ab (Al hg0 hS (x16+1,upd o2_0 x16 (IntKind.wrap .u16 (AY .u32 (AZ .u32 (BL .u32 (A6 .u32 (IntKind.wrap .u32 (f x16)) 1) 3329) 1) 1))) [(0,0),(1,1)] ⟨Ac,(A3 (st:=My _) hq1 rfl rfl),trivial⟩)))
 ·have hT:=hS
  obtain rfl:256=x16:=by omega
  obtain rfl:=hq1.symm
  have hS:=hT
  exact CO (Ae [] 2 hS fun hS=>AR (Bi (fP ..) hS))
def DI (x21:Nat) (x6:List Int) (x30:Nat):(List Int)→(List Int):=fun x6_2=>x6_2.set (((x21*12)+x30)/8) (C9 .u8 (x6_2.getD (((x21*12)+x30)/8) 0) (Bf .u8 (IntKind.wrap .u8 (A6 .u16 (AY .u16 (DV (f x21) 3329) (x30:Int)) 1)) ((((x21*12)+x30)%8:Nat):Int)))
def D6 (f:Nat→Int) (x21:Nat) (x6:List Int):Nat→(List Int)
 |0=>x6
 |x30+1=>DI f x21 x6 x30 (D6 f x21 x6 x30)
def Kl (x21:Nat):(List Int)→(List Int):=fun x6=>D6 f x21 x6 12
def EN (f:Nat→Int):Nat→(List Int)
 |0=>List.replicate 384 (0:Int)
 |x21+1=>Kl f x21 (EN f x21)
def QX:(List Int):=EN f 256
def Cj:(List Int):=AJ (QX f)
theorem Lb:Cj f=QX f:=Ag _
def Zs (z_:(List Int):=Cj f):Con:=⟨[.ar .u16 256 f,vi 12],[],.tu (chain [.sk 0,vi 0]),[(0,.sl 5 [.int .u8] z_)]⟩
theorem Xh:ConOk Tryz.prog 181 (Zs f):=by
 refine cy 0 Tryz.func181 rfl Tryz.ntmps181 fun hg0 hS=>Ae [] 1 hS fun hS=>Av (Ae [] 1 hS fun hS=>Ai hS (BP (Ax [(2,iY 384 1)] [] 2 hS fun hS=>Av (Ae [] 2 hS fun hS=>Br (Ar (ι:=Nat×(List Int)) hg0 hS (fun(x21,x6)=>(256-x21,[(21,vi ((x21:Nat):Int))],[(1,.sl 5 [.int .u8] x6)],(x21≤256)∧(x6=EN f x21)∧(x6.length=384)∧True)) [1,4,5,6,20] [] 2 (0,List.replicate 384 (0:Int)) [(1,1)] ⟨Ac,rfl,(by simp),trivial⟩ ?_)))))
 rintro⟨x21,x6⟩ ac gs ws ⟨hx21,hq1,p1,_⟩ hS
 refine Ae [] 2 hS fun hS=>Av (AB ((x21:Int)<256) hS (fun h1=> ?_) (fun h1=> ?_))
 ·refine BE (Ax [(1,AD x21 256)] [] 2 hS fun hS=>Av (Ae [] 2 hS fun hS=>AO hS (As [(1,RE ((3329:Int)≠0))] [8] 2 hS fun hS=>Ab (Ae [] 2 hS fun hS=>Br (Ar (ι:=Nat×(List Int)) hg0 hS (fun(x30,x6_2)=>(12-x30,[(30,vi ((x30:Nat):Int))],[(1,.sl 5 [.int .u8] x6_2)],(x30≤12)∧(x6_2=D6 f x21 x6 x30)∧(x6_2.length=384)∧True)) [1,4,5,6,7,8,20,21,29] [] 2 (0,x6) [(1,1)] ⟨Ac,rfl,p1,trivial⟩ ?_)))))
  rintro⟨x30,x6_2⟩ ac gs ws ⟨hx30,hq2,p2,_⟩ hS
  refine Ae [] 2 hS fun hS=>Av (AB ((x30:Int)<12) hS (fun h2=> ?_) (fun h2=> ?_))
  ·exact BE (Ae [] 2 hS fun hS=>Ax [(2,HJ x21 12 (x21*12)),(4,Ek (x21*12) x30 ((x21*12)+x30))] [] 2 hS fun hS=>As [(2,Vy ((x21*12)+x30) 8),(3,AD (((x21*12)+x30)/8) x6_2.length),(7,EQ x30),(11,Ll ((x21*12)+x30) 8),(12,EQ (((x21*12)+x30)%8)),(14,AD (((x21*12)+x30)/8) x6_2.length)] [] 2 hS fun hS=>BV (As [(0,BH x30)] [30] 2 hS fun hS=>Ab (Al hg0 hS (x30+1,x6_2.set (((x21*12)+x30)/8) (C9 .u8 (x6_2.getD (((x21*12)+x30)/8) 0) (Bf .u8 (IntKind.wrap .u8 (A6 .u16 (AY .u16 (DV (f x21) 3329) (x30:Int)) 1)) ((((x21*12)+x30)%8:Nat):Int)))) [(1,1)] ⟨Ac,(A3 (st:=DI _ _ _) hq2 rfl rfl),(by simpa using p2),trivial⟩)))
  ·have hT:=hS
   obtain rfl:12=x30:=by omega
   obtain rfl:=hq2.symm
   have hS:=hT
   exact Vx (As [(0,BH x21)] [21] 2 hS fun hS=>Ab (Al hg0 hS (x21+1,D6 f x21 x6 12) [(1,1)] ⟨Ac,(A3 (st:=Kl _) hq1 rfl rfl),p2,trivial⟩))
 ·have hT:=hS
  obtain rfl:256=x21:=by omega
  obtain rfl:=hq1.symm
  have hS:=hT
  refine CO (Ae [] 2 hS fun hS=>AR ?_)
  obtain⟨gs,hS⟩:=hS.rx [(0,1)] [4,5] [0] 1 hg0
  exact Bi (Lb ..) hS
end
section
variable (xs:List Int)
def J5 (x8 x12:Nat):(Nat→Int)→(Nat→Int):=fun o4_0_2=>upd o4_0_2 x8 (C9 .u16 (o4_0_2 x8) (Bf .u16 (IntKind.wrap .u16 (A6 .u8 (AY .u8 (xs.getD (((x8*12)+x12)/8) 0) ((((x8*12)+x12)%8:Nat):Int)) 1)) (x12:Int)))
def Do (xs:List Int) (x8:Nat) (o4_0:Nat→Int):Nat→(Nat→Int)
 |0=>o4_0
 |x12+1=>J5 xs x8 x12 (Do xs x8 o4_0 x12)
def J6 (x8:Nat):(Nat→Int)→(Nat→Int):=fun o4_0=>Do xs x8 o4_0 12
def EH (xs:List Int):Nat→(Nat→Int)
 |0=>fun _=>0
 |x8+1=>J6 xs x8 (EH xs x8)
def Pk:(Nat→Int):=EH xs 256
def DY:(Nat→Int):=AJ (Pk xs)
theorem Pl:DY xs=Pk xs:=Ag _
def Zj (z_:(Nat→Int):=DY xs):Con:=⟨[vi 12,lb xs],[],.ar .u16 256 z_,[]⟩
theorem VD (h:384≤xs.length):ConOk Tryz.prog 194 (Zj xs):=by
 refine cy 0 Tryz.func194 rfl Tryz.ntmps194 fun hg0 hS=> ?_
 have Be:xs.length≤9223372036854775807:=hS.len 1 rfl
 refine Ae [] 1 hS fun hS=>Av (Ae [] 1 hS fun hS=>Br (Ar (ι:=Nat×(Nat→Int)) hg0 hS (fun(x8,o4_0)=>(256-x8,[(8,vi ((x8:Nat):Int))],[(0,M1 o4_0)],(x8≤256)∧(o4_0=EH xs x8)∧True)) [0,1,4] [] 1 (0,fun _=>0) [(0,0)] ⟨Ac,rfl,trivial⟩ ?_))
 rintro⟨x8,o4_0⟩ ac gs ws ⟨hx8,hq1,_⟩ hS
 refine Ae [] 1 hS fun hS=>Av (AB ((x8:Int)<256) hS (fun h1=> ?_) (fun h1=> ?_))
 ·refine BE (Ae [] 1 hS fun hS=>Ae [] 1 hS fun hS=>Br (Ar (ι:=Nat×(Nat→Int)) hg0 hS (fun(x12,o4_0_2)=>(12-x12,[(12,vi ((x12:Nat):Int))],[(0,M1 o4_0_2)],(x12≤12)∧(o4_0_2=Do xs x8 o4_0 x12)∧True)) [0,1,4,5,8,11] [] 1 (0,o4_0) [(0,0)] ⟨Ac,rfl,trivial⟩ ?_))
  rintro⟨x12,o4_0_2⟩ ac gs ws ⟨hx12,hq2,_⟩ hS
  refine Ae [] 1 hS fun hS=>Av (AB ((x12:Int)<12) hS (fun h2=> ?_) (fun h2=> ?_))
  ·exact BE (Ae [] 1 hS fun hS=>Ax [(2,HJ x8 12 (x8*12)),(4,Ek (x8*12) x12 ((x8*12)+x12))] [] 1 hS fun hS=>As [(1,AD x8 256),(5,Vy ((x8*12)+x12) 8),(6,AD (((x8*12)+x12)/8) xs.length),(9,Ll ((x8*12)+x12) 8),(10,EQ (((x8*12)+x12)%8)),(14,EQ x12),(16,AD x8 256)] [] 1 hS fun hS=>BV (As [(0,BH x12)] [12] 1 hS fun hS=>Ab (Al hg0 hS (x12+1,upd o4_0_2 x8 (C9 .u16 (o4_0_2 x8) (Bf .u16 (IntKind.wrap .u16 (A6 .u8 (AY .u8 (xs.getD (((x8*12)+x12)/8) 0) ((((x8*12)+x12)%8:Nat):Int)) 1)) (x12:Int)))) [(0,0)] ⟨Ac,(A3 (st:=J5 _ _) hq2 rfl rfl),trivial⟩)))
  ·have hT:=hS
   obtain rfl:12=x12:=by omega
   obtain rfl:=hq2.symm
   have hS:=hT
   exact Vx (As [(0,BH x8)] [8] 1 hS fun hS=>Ab (Al hg0 hS (x8+1,Do xs x8 o4_0 12) [(0,0)] ⟨Ac,(A3 (st:=J6 _) hq1 rfl rfl),trivial⟩))
 ·have hT:=hS
  obtain rfl:256=x8:=by omega
  obtain rfl:=hq1.symm
  have hS:=hT
  exact CO (Ae [] 1 hS fun hS=>AR (Bi (Pl ..) hS))
end
section
variable (f:Nat→Int)
def FE (x21 x30:Nat):(List Int)→(List Int):=fun x6_2=>x6_2.set (((x21*10)+x30)/8) (C9 .u8 (x6_2.getD (((x21*10)+x30)/8) 0) (Bf .u8 (IntKind.wrap .u8 (A6 .u16 (AY .u16 (f x21) (x30:Int)) 1)) ((((x21*10)+x30)%8:Nat):Int)))
def EO (f:Nat→Int) (x21:Nat) (x6:List Int):Nat→(List Int)
 |0=>x6
 |x30+1=>FE f x21 x30 (EO f x21 x6 x30)
def Km (x21:Nat):(List Int)→(List Int):=fun x6=>EO f x21 x6 10
def GY (f:Nat→Int):Nat→(List Int)
 |0=>List.replicate 320 (0:Int)
 |x21+1=>Km f x21 (GY f x21)
def QY:(List Int):=GY f 256
def Fl:(List Int):=AJ (QY f)
theorem QZ:Fl f=QY f:=Ag _
def Zu (z_:(List Int):=Fl f):Con:=⟨[.ar .u16 256 f,vi 10],[],.tu (chain [.sk 0,vi 0]),[(0,.sl 5 [.int .u8] z_)]⟩
theorem Xi:ConOk Tryz.prog 181 (Zu f):=by
 refine cy 0 Tryz.func181 rfl Tryz.ntmps181 fun hg0 hS=>Ae [] 1 hS fun hS=>Av (Ae [] 1 hS fun hS=>Ai hS (BP (Ax [(2,iY 320 1)] [] 2 hS fun hS=>Av (Ae [] 2 hS fun hS=>Br (Ar (ι:=Nat×(List Int)) hg0 hS (fun(x21,x6)=>(256-x21,[(21,vi ((x21:Nat):Int))],[(1,.sl 5 [.int .u8] x6)],(x21≤256)∧(x6=GY f x21)∧(x6.length=320)∧True)) [1,4,5,6,20] [] 2 (0,List.replicate 320 (0:Int)) [(1,1)] ⟨Ac,rfl,(by simp),trivial⟩ ?_)))))
 rintro⟨x21,x6⟩ ac gs ws ⟨hx21,hq1,p1,_⟩ hS
 refine Ae [] 2 hS fun hS=>Av (AB ((x21:Int)<256) hS (fun h1=> ?_) (fun h1=> ?_))
 ·refine BE (Ax [(1,AD x21 256)] [] 2 hS fun hS=>Av (Ae [] 2 hS fun hS=>Ai hS (BP (Ae [] 2 hS fun hS=>Br (Ar (ι:=Nat×(List Int)) hg0 hS (fun(x30,x6_2)=>(10-x30,[(30,vi ((x30:Nat):Int))],[(1,.sl 5 [.int .u8] x6_2)],(x30≤10)∧(x6_2=EO f x21 x6 x30)∧(x6_2.length=320)∧True)) [1,4,5,6,7,8,20,21,29] [] 2 (0,x6) [(1,1)] ⟨Ac,rfl,p1,trivial⟩ ?_)))))
  rintro⟨x30,x6_2⟩ ac gs ws ⟨hx30,hq2,p2,_⟩ hS
  refine Ae [] 2 hS fun hS=>Av (AB ((x30:Int)<10) hS (fun h2=> ?_) (fun h2=> ?_))
  ·exact BE (Ae [] 2 hS fun hS=>Ax [(2,HJ x21 10 (x21*10)),(4,Ek (x21*10) x30 ((x21*10)+x30))] [] 2 hS fun hS=>As [(2,Vy ((x21*10)+x30) 8),(3,AD (((x21*10)+x30)/8) x6_2.length),(7,EQ x30),(11,Ll ((x21*10)+x30) 8),(12,EQ (((x21*10)+x30)%8)),(14,AD (((x21*10)+x30)/8) x6_2.length)] [] 2 hS fun hS=>BV (As [(0,BH x30)] [30] 2 hS fun hS=>Ab (Al hg0 hS (x30+1,x6_2.set (((x21*10)+x30)/8) (C9 .u8 (x6_2.getD (((x21*10)+x30)/8) 0) (Bf .u8 (IntKind.wrap .u8 (A6 .u16 (AY .u16 (f x21) (x30:Int)) 1)) ((((x21*10)+x30)%8:Nat):Int)))) [(1,1)] ⟨Ac,(A3 (st:=FE _ _) hq2 rfl rfl),(by simpa using p2),trivial⟩)))
  ·have hT:=hS
   obtain rfl:10=x30:=by omega
   obtain rfl:=hq2.symm
   have hS:=hT
   exact Vx (As [(0,BH x21)] [21] 2 hS fun hS=>Ab (Al hg0 hS (x21+1,EO f x21 x6 10) [(1,1)] ⟨Ac,(A3 (st:=Km _) hq1 rfl rfl),p2,trivial⟩))
 ·have hT:=hS
  obtain rfl:256=x21:=by omega
  obtain rfl:=hq1.symm
  have hS:=hT
  refine CO (Ae [] 2 hS fun hS=>AR ?_)
  obtain⟨gs,hS⟩:=hS.rx [(0,1)] [4,5] [0] 1 hg0
  exact Bi (QZ ..) hS
end
section
variable (xs:List Int)
def J7 (x8 x12:Nat):(Nat→Int)→(Nat→Int):=fun o4_0_2=>upd o4_0_2 x8 (C9 .u16 (o4_0_2 x8) (Bf .u16 (IntKind.wrap .u16 (A6 .u8 (AY .u8 (xs.getD (((x8*10)+x12)/8) 0) ((((x8*10)+x12)%8:Nat):Int)) 1)) (x12:Int)))
def GM (xs:List Int) (x8:Nat) (o4_0:Nat→Int):Nat→(Nat→Int)
 |0=>o4_0
 |x12+1=>J7 xs x8 x12 (GM xs x8 o4_0 x12)
def J8 (x8:Nat):(Nat→Int)→(Nat→Int):=fun o4_0=>GM xs x8 o4_0 10
def IH (xs:List Int):Nat→(Nat→Int)
 |0=>fun _=>0
 |x8+1=>J8 xs x8 (IH xs x8)
def Pn:(Nat→Int):=IH xs 256
def C1:(Nat→Int):=AJ (Pn xs)
theorem X7:C1 xs=Pn xs:=Ag _
def Zk (z_:(Nat→Int):=C1 xs):Con:=⟨[vi 10,lb xs],[],.ar .u16 256 z_,[]⟩
theorem VE (h:320≤xs.length):ConOk Tryz.prog 194 (Zk xs):=by
 refine cy 0 Tryz.func194 rfl Tryz.ntmps194 fun hg0 hS=> ?_
 have Be:xs.length≤9223372036854775807:=hS.len 1 rfl
 refine Ae [] 1 hS fun hS=>Av (Ae [] 1 hS fun hS=>Br (Ar (ι:=Nat×(Nat→Int)) hg0 hS (fun(x8,o4_0)=>(256-x8,[(8,vi ((x8:Nat):Int))],[(0,M1 o4_0)],(x8≤256)∧(o4_0=IH xs x8)∧True)) [0,1,4] [] 1 (0,fun _=>0) [(0,0)] ⟨Ac,rfl,trivial⟩ ?_))
 rintro⟨x8,o4_0⟩ ac gs ws ⟨hx8,hq1,_⟩ hS
 refine Ae [] 1 hS fun hS=>Av (AB ((x8:Int)<256) hS (fun h1=> ?_) (fun h1=> ?_))
 ·refine BE (Ae [] 1 hS fun hS=>Ae [] 1 hS fun hS=>Br (Ar (ι:=Nat×(Nat→Int)) hg0 hS (fun(x12,o4_0_2)=>(10-x12,[(12,vi ((x12:Nat):Int))],[(0,M1 o4_0_2)],(x12≤10)∧(o4_0_2=GM xs x8 o4_0 x12)∧True)) [0,1,4,5,8,11] [] 1 (0,o4_0) [(0,0)] ⟨Ac,rfl,trivial⟩ ?_))
  rintro⟨x12,o4_0_2⟩ ac gs ws ⟨hx12,hq2,_⟩ hS
  refine Ae [] 1 hS fun hS=>Av (AB ((x12:Int)<10) hS (fun h2=> ?_) (fun h2=> ?_))
  ·exact BE (Ae [] 1 hS fun hS=>Ax [(2,HJ x8 10 (x8*10)),(4,Ek (x8*10) x12 ((x8*10)+x12))] [] 1 hS fun hS=>As [(1,AD x8 256),(5,Vy ((x8*10)+x12) 8),(6,AD (((x8*10)+x12)/8) xs.length),(9,Ll ((x8*10)+x12) 8),(10,EQ (((x8*10)+x12)%8)),(14,EQ x12),(16,AD x8 256)] [] 1 hS fun hS=>BV (As [(0,BH x12)] [12] 1 hS fun hS=>Ab (Al hg0 hS (x12+1,upd o4_0_2 x8 (C9 .u16 (o4_0_2 x8) (Bf .u16 (IntKind.wrap .u16 (A6 .u8 (AY .u8 (xs.getD (((x8*10)+x12)/8) 0) ((((x8*10)+x12)%8:Nat):Int)) 1)) (x12:Int)))) [(0,0)] ⟨Ac,(A3 (st:=J7 _ _) hq2 rfl rfl),trivial⟩)))
  ·have hT:=hS
   obtain rfl:10=x12:=by omega
   obtain rfl:=hq2.symm
   have hS:=hT
   exact Vx (As [(0,BH x8)] [8] 1 hS fun hS=>Ab (Al hg0 hS (x8+1,GM xs x8 o4_0 10) [(0,0)] ⟨Ac,(A3 (st:=J8 _) hq1 rfl rfl),trivial⟩))
 ·have hT:=hS
  obtain rfl:256=x8:=by omega
  obtain rfl:=hq1.symm
  have hS:=hT
  exact CO (Ae [] 1 hS fun hS=>AR (Bi (X7 ..) hS))
end
section
variable (f:Nat→Int)
def F6 (x21 x30:Nat):(List Int)→(List Int):=fun x6_2=>x6_2.set (((x21*4)+x30)/8) (C9 .u8 (x6_2.getD (((x21*4)+x30)/8) 0) (Bf .u8 (IntKind.wrap .u8 (A6 .u16 (AY .u16 (f x21) (x30:Int)) 1)) ((((x21*4)+x30)%8:Nat):Int)))
def Fi (f:Nat→Int) (x21:Nat) (x6:List Int):Nat→(List Int)
 |0=>x6
 |x30+1=>F6 f x21 x30 (Fi f x21 x6 x30)
def MA (x21:Nat):(List Int)→(List Int):=fun x6=>Fi f x21 x6 4
def Ig (f:Nat→Int):Nat→(List Int)
 |0=>List.replicate 128 (0:Int)
 |x21+1=>MA f x21 (Ig f x21)
def Td:(List Int):=Ig f 256
def HF:(List Int):=AJ (Td f)
theorem Te:HF f=Td f:=Ag _
def iC (z_:(List Int):=HF f):Con:=⟨[.ar .u16 256 f,vi 4],[],.tu (chain [.sk 0,vi 0]),[(0,.sl 5 [.int .u8] z_)]⟩
theorem Y2:ConOk Tryz.prog 181 (iC f):=by
 refine cy 0 Tryz.func181 rfl Tryz.ntmps181 fun hg0 hS=>Ae [] 1 hS fun hS=>Av (Ae [] 1 hS fun hS=>Ai hS (BP (Ax [(2,iY 128 1)] [] 2 hS fun hS=>Av (Ae [] 2 hS fun hS=>Br (Ar (ι:=Nat×(List Int)) hg0 hS (fun(x21,x6)=>(256-x21,[(21,vi ((x21:Nat):Int))],[(1,.sl 5 [.int .u8] x6)],(x21≤256)∧(x6=Ig f x21)∧(x6.length=128)∧True)) [1,4,5,6,20] [] 2 (0,List.replicate 128 (0:Int)) [(1,1)] ⟨Ac,rfl,(by simp),trivial⟩ ?_)))))
 rintro⟨x21,x6⟩ ac gs ws ⟨hx21,hq1,p1,_⟩ hS
 refine Ae [] 2 hS fun hS=>Av (AB ((x21:Int)<256) hS (fun h1=> ?_) (fun h1=> ?_))
 ·refine BE (Ax [(1,AD x21 256)] [] 2 hS fun hS=>Av (Ae [] 2 hS fun hS=>Ai hS (BP (Ae [] 2 hS fun hS=>Br (Ar (ι:=Nat×(List Int)) hg0 hS (fun(x30,x6_2)=>(4-x30,[(30,vi ((x30:Nat):Int))],[(1,.sl 5 [.int .u8] x6_2)],(x30≤4)∧(x6_2=Fi f x21 x6 x30)∧(x6_2.length=128)∧True)) [1,4,5,6,7,8,20,21,29] [] 2 (0,x6) [(1,1)] ⟨Ac,rfl,p1,trivial⟩ ?_)))))
  rintro⟨x30,x6_2⟩ ac gs ws ⟨hx30,hq2,p2,_⟩ hS
  refine Ae [] 2 hS fun hS=>Av (AB ((x30:Int)<4) hS (fun h2=> ?_) (fun h2=> ?_))
  ·exact BE (Ae [] 2 hS fun hS=>Ax [(2,HJ x21 4 (x21*4)),(4,Ek (x21*4) x30 ((x21*4)+x30))] [] 2 hS fun hS=>As [(2,Vy ((x21*4)+x30) 8),(3,AD (((x21*4)+x30)/8) x6_2.length),(7,EQ x30),(11,Ll ((x21*4)+x30) 8),(12,EQ (((x21*4)+x30)%8)),(14,AD (((x21*4)+x30)/8) x6_2.length)] [] 2 hS fun hS=>BV (As [(0,BH x30)] [30] 2 hS fun hS=>Ab (Al hg0 hS (x30+1,x6_2.set (((x21*4)+x30)/8) (C9 .u8 (x6_2.getD (((x21*4)+x30)/8) 0) (Bf .u8 (IntKind.wrap .u8 (A6 .u16 (AY .u16 (f x21) (x30:Int)) 1)) ((((x21*4)+x30)%8:Nat):Int)))) [(1,1)] ⟨Ac,(A3 (st:=F6 _ _) hq2 rfl rfl),(by simpa using p2),trivial⟩)))
  ·have hT:=hS
   obtain rfl:4=x30:=by omega
   obtain rfl:=hq2.symm
   have hS:=hT
   exact Vx (As [(0,BH x21)] [21] 2 hS fun hS=>Ab (Al hg0 hS (x21+1,Fi f x21 x6 4) [(1,1)] ⟨Ac,(A3 (st:=MA _) hq1 rfl rfl),p2,trivial⟩))
 ·have hT:=hS
  obtain rfl:256=x21:=by omega
  obtain rfl:=hq1.symm
  have hS:=hT
  refine CO (Ae [] 2 hS fun hS=>AR ?_)
  obtain⟨gs,hS⟩:=hS.rx [(0,1)] [4,5] [0] 1 hg0
  exact Bi (Te ..) hS
end
section
variable (xs:List Int)
def Lu (x8 x12:Nat):(Nat→Int)→(Nat→Int):=fun o4_0_2=>upd o4_0_2 x8 (C9 .u16 (o4_0_2 x8) (Bf .u16 (IntKind.wrap .u16 (A6 .u8 (AY .u8 (xs.getD (((x8*4)+x12)/8) 0) ((((x8*4)+x12)%8:Nat):Int)) 1)) (x12:Int)))
def HO (xs:List Int) (x8:Nat) (o4_0:Nat→Int):Nat→(Nat→Int)
 |0=>o4_0
 |x12+1=>Lu xs x8 x12 (HO xs x8 o4_0 x12)
def Lw (x8:Nat):(Nat→Int)→(Nat→Int):=fun o4_0=>HO xs x8 o4_0 4
def Kv (xs:List Int):Nat→(Nat→Int)
 |0=>fun _=>0
 |x8+1=>Lw xs x8 (Kv xs x8)
def R5:(Nat→Int):=Kv xs 256
def BX:(Nat→Int):=AJ (R5 xs)
theorem dH:BX xs=R5 xs:=Ag _
def gI (z_:(Nat→Int):=BX xs):Con:=⟨[vi 4,lb xs],[],.ar .u16 256 z_,[]⟩
theorem X5 (h:128≤xs.length):ConOk Tryz.prog 194 (gI xs):=by
 refine cy 0 Tryz.func194 rfl Tryz.ntmps194 fun hg0 hS=> ?_
 have Be:xs.length≤9223372036854775807:=hS.len 1 rfl
 refine Ae [] 1 hS fun hS=>Av (Ae [] 1 hS fun hS=>Br (Ar (ι:=Nat×(Nat→Int)) hg0 hS (fun(x8,o4_0)=>(256-x8,[(8,vi ((x8:Nat):Int))],[(0,M1 o4_0)],(x8≤256)∧(o4_0=Kv xs x8)∧True)) [0,1,4] [] 1 (0,fun _=>0) [(0,0)] ⟨Ac,rfl,trivial⟩ ?_))
 rintro⟨x8,o4_0⟩ ac gs ws ⟨hx8,hq1,_⟩ hS
 refine Ae [] 1 hS fun hS=>Av (AB ((x8:Int)<256) hS (fun h1=> ?_) (fun h1=> ?_))
 ·refine BE (Ae [] 1 hS fun hS=>Ae [] 1 hS fun hS=>Br (Ar (ι:=Nat×(Nat→Int)) hg0 hS (fun(x12,o4_0_2)=>(4-x12,[(12,vi ((x12:Nat):Int))],[(0,M1 o4_0_2)],(x12≤4)∧(o4_0_2=HO xs x8 o4_0 x12)∧True)) [0,1,4,5,8,11] [] 1 (0,o4_0) [(0,0)] ⟨Ac,rfl,trivial⟩ ?_))
  rintro⟨x12,o4_0_2⟩ ac gs ws ⟨hx12,hq2,_⟩ hS
  refine Ae [] 1 hS fun hS=>Av (AB ((x12:Int)<4) hS (fun h2=> ?_) (fun h2=> ?_))
  ·exact BE (Ae [] 1 hS fun hS=>Ax [(2,HJ x8 4 (x8*4)),(4,Ek (x8*4) x12 ((x8*4)+x12))] [] 1 hS fun hS=>As [(1,AD x8 256),(5,Vy ((x8*4)+x12) 8),(6,AD (((x8*4)+x12)/8) xs.length),(9,Ll ((x8*4)+x12) 8),(10,EQ (((x8*4)+x12)%8)),(14,EQ x12),(16,AD x8 256)] [] 1 hS fun hS=>BV (As [(0,BH x12)] [12] 1 hS fun hS=>Ab (Al hg0 hS (x12+1,upd o4_0_2 x8 (C9 .u16 (o4_0_2 x8) (Bf .u16 (IntKind.wrap .u16 (A6 .u8 (AY .u8 (xs.getD (((x8*4)+x12)/8) 0) ((((x8*4)+x12)%8:Nat):Int)) 1)) (x12:Int)))) [(0,0)] ⟨Ac,(A3 (st:=Lu _ _) hq2 rfl rfl),trivial⟩)))
  ·have hT:=hS
   obtain rfl:4=x12:=by omega
   obtain rfl:=hq2.symm
   have hS:=hT
   exact Vx (As [(0,BH x8)] [8] 1 hS fun hS=>Ab (Al hg0 hS (x8+1,HO xs x8 o4_0 4) [(0,0)] ⟨Ac,(A3 (st:=Lw _) hq1 rfl rfl),trivial⟩))
 ·have hT:=hS
  obtain rfl:256=x8:=by omega
  obtain rfl:=hq1.symm
  have hS:=hT
  exact CO (Ae [] 1 hS fun hS=>AR (Bi (dH ..) hS))
end
section
variable (f:Nat→Int)
def F7 (x21 x30:Nat):(List Int)→(List Int):=fun x6_2=>x6_2.set ((x21+x30)/8) (C9 .u8 (x6_2.getD ((x21+x30)/8) 0) (Bf .u8 (IntKind.wrap .u8 (A6 .u16 (AY .u16 (f x21) (x30:Int)) 1)) (((x21+x30)%8:Nat):Int)))
def Fj (f:Nat→Int) (x21:Nat) (x6:List Int):Nat→(List Int)
 |0=>x6
 |x30+1=>F7 f x21 x30 (Fj f x21 x6 x30)
def MB (x21:Nat):(List Int)→(List Int):=fun x6=>Fj f x21 x6 1
def Ih (f:Nat→Int):Nat→(List Int)
 |0=>List.replicate 32 (0:Int)
 |x21+1=>MB f x21 (Ih f x21)
def Tf:(List Int):=Ih f 256
def JS:(List Int):=AJ (Tf f)
theorem Tg:JS f=Tf f:=Ag _
def iD (z_:(List Int):=JS f):Con:=⟨[.ar .u16 256 f,vi 1],[],.tu (chain [.sk 0,vi 0]),[(0,.sl 5 [.int .u8] z_)]⟩
theorem Y3:ConOk Tryz.prog 181 (iD f):=by
 refine cy 0 Tryz.func181 rfl Tryz.ntmps181 fun hg0 hS=>Ae [] 1 hS fun hS=>Av (Ae [] 1 hS fun hS=>Ai hS (BP (Ax [(2,iY 32 1)] [] 2 hS fun hS=>Av (Ae [] 2 hS fun hS=>Br (Ar (ι:=Nat×(List Int)) hg0 hS (fun(x21,x6)=>(256-x21,[(21,vi ((x21:Nat):Int))],[(1,.sl 5 [.int .u8] x6)],(x21≤256)∧(x6=Ih f x21)∧(x6.length=32)∧True)) [1,4,5,6,20] [] 2 (0,List.replicate 32 (0:Int)) [(1,1)] ⟨Ac,rfl,(by simp),trivial⟩ ?_)))))
 rintro⟨x21,x6⟩ ac gs ws ⟨hx21,hq1,p1,_⟩ hS
 refine Ae [] 2 hS fun hS=>Av (AB ((x21:Int)<256) hS (fun h1=> ?_) (fun h1=> ?_))
 ·refine BE (Ax [(1,AD x21 256)] [] 2 hS fun hS=>Av (Ae [] 2 hS fun hS=>Ai hS (BP (Ae [] 2 hS fun hS=>Br (Ar (ι:=Nat×(List Int)) hg0 hS (fun(x30,x6_2)=>(1-x30,[(30,vi ((x30:Nat):Int))],[(1,.sl 5 [.int .u8] x6_2)],(x30≤1)∧(x6_2=Fj f x21 x6 x30)∧(x6_2.length=32)∧True)) [1,4,5,6,7,8,20,21,29] [] 2 (0,x6) [(1,1)] ⟨Ac,rfl,p1,trivial⟩ ?_)))))
  rintro⟨x30,x6_2⟩ ac gs ws ⟨hx30,hq2,p2,_⟩ hS
  refine Ae [] 2 hS fun hS=>Av (AB ((x30:Int)<1) hS (fun h2=> ?_) (fun h2=> ?_))
  ·exact BE (Ae [] 2 hS fun hS=>Ax [(2,HJ x21 1 x21),(4,Ek x21 x30 (x21+x30))] [] 2 hS fun hS=>As [(2,Vy (x21+x30) 8),(3,AD ((x21+x30)/8) x6_2.length),(7,EQ x30),(11,Ll (x21+x30) 8),(12,EQ ((x21+x30)%8)),(14,AD ((x21+x30)/8) x6_2.length)] [] 2 hS fun hS=>BV (As [(0,BH x30)] [30] 2 hS fun hS=>Ab (Al hg0 hS (x30+1,x6_2.set ((x21+x30)/8) (C9 .u8 (x6_2.getD ((x21+x30)/8) 0) (Bf .u8 (IntKind.wrap .u8 (A6 .u16 (AY .u16 (f x21) (x30:Int)) 1)) (((x21+x30)%8:Nat):Int)))) [(1,1)] ⟨Ac,(A3 (st:=F7 _ _) hq2 rfl rfl),(by simpa using p2),trivial⟩)))
  ·have hT:=hS
   obtain rfl:1=x30:=by omega
   obtain rfl:=hq2.symm
   have hS:=hT
   exact Vx (As [(0,BH x21)] [21] 2 hS fun hS=>Ab (Al hg0 hS (x21+1,Fj f x21 x6 1) [(1,1)] ⟨Ac,(A3 (st:=MB _) hq1 rfl rfl),p2,trivial⟩))
 ·have hT:=hS
  obtain rfl:256=x21:=by omega
  obtain rfl:=hq1.symm
  have hS:=hT
  refine CO (Ae [] 2 hS fun hS=>AR ?_)
  obtain⟨gs,hS⟩:=hS.rx [(0,1)] [4,5] [0] 1 hg0
  exact Bi (Tg ..) hS
end
section
variable (xs:List Int)
def Lx (x8 x12:Nat):(Nat→Int)→(Nat→Int):=fun o4_0_2=>upd o4_0_2 x8 (C9 .u16 (o4_0_2 x8) (Bf .u16 (IntKind.wrap .u16 (A6 .u8 (AY .u8 (xs.getD ((x8+x12)/8) 0) (((x8+x12)%8:Nat):Int)) 1)) (x12:Int)))
def HP (xs:List Int) (x8:Nat) (o4_0:Nat→Int):Nat→(Nat→Int)
 |0=>o4_0
 |x12+1=>Lx xs x8 x12 (HP xs x8 o4_0 x12)
def Ly (x8:Nat):(Nat→Int)→(Nat→Int):=fun o4_0=>HP xs x8 o4_0 1
def Kw (xs:List Int):Nat→(Nat→Int)
 |0=>fun _=>0
 |x8+1=>Ly xs x8 (Kw xs x8)
def R6:(Nat→Int):=Kw xs 256
def BJ:(Nat→Int):=AJ (R6 xs)
theorem dI:BJ xs=R6 xs:=Ag _
def gJ (z_:(Nat→Int):=BJ xs):Con:=⟨[vi 1,lb xs],[],.ar .u16 256 z_,[]⟩
theorem X6 (h:32≤xs.length):ConOk Tryz.prog 194 (gJ xs):=by
 refine cy 0 Tryz.func194 rfl Tryz.ntmps194 fun hg0 hS=> ?_
 have Be:xs.length≤9223372036854775807:=hS.len 1 rfl
 refine Ae [] 1 hS fun hS=>Av (Ae [] 1 hS fun hS=>Br (Ar (ι:=Nat×(Nat→Int)) hg0 hS (fun(x8,o4_0)=>(256-x8,[(8,vi ((x8:Nat):Int))],[(0,M1 o4_0)],(x8≤256)∧(o4_0=Kw xs x8)∧True)) [0,1,4] [] 1 (0,fun _=>0) [(0,0)] ⟨Ac,rfl,trivial⟩ ?_))
 rintro⟨x8,o4_0⟩ ac gs ws ⟨hx8,hq1,_⟩ hS
 refine Ae [] 1 hS fun hS=>Av (AB ((x8:Int)<256) hS (fun h1=> ?_) (fun h1=> ?_))
 ·refine BE (Ae [] 1 hS fun hS=>Ae [] 1 hS fun hS=>Br (Ar (ι:=Nat×(Nat→Int)) hg0 hS (fun(x12,o4_0_2)=>(1-x12,[(12,vi ((x12:Nat):Int))],[(0,M1 o4_0_2)],(x12≤1)∧(o4_0_2=HP xs x8 o4_0 x12)∧True)) [0,1,4,5,8,11] [] 1 (0,o4_0) [(0,0)] ⟨Ac,rfl,trivial⟩ ?_))
  rintro⟨x12,o4_0_2⟩ ac gs ws ⟨hx12,hq2,_⟩ hS
  refine Ae [] 1 hS fun hS=>Av (AB ((x12:Int)<1) hS (fun h2=> ?_) (fun h2=> ?_))
  ·exact BE (Ae [] 1 hS fun hS=>Ax [(2,HJ x8 1 x8),(4,Ek x8 x12 (x8+x12))] [] 1 hS fun hS=>As [(1,AD x8 256),(5,Vy (x8+x12) 8),(6,AD ((x8+x12)/8) xs.length),(9,Ll (x8+x12) 8),(10,EQ ((x8+x12)%8)),(14,EQ x12),(16,AD x8 256)] [] 1 hS fun hS=>BV (As [(0,BH x12)] [12] 1 hS fun hS=>Ab (Al hg0 hS (x12+1,upd o4_0_2 x8 (C9 .u16 (o4_0_2 x8) (Bf .u16 (IntKind.wrap .u16 (A6 .u8 (AY .u8 (xs.getD ((x8+x12)/8) 0) (((x8+x12)%8:Nat):Int)) 1)) (x12:Int)))) [(0,0)] ⟨Ac,(A3 (st:=Lx _ _) hq2 rfl rfl),trivial⟩)))
  ·have hT:=hS
   obtain rfl:1=x12:=by omega
   obtain rfl:=hq2.symm
   have hS:=hT
   exact Vx (As [(0,BH x8)] [8] 1 hS fun hS=>Ab (Al hg0 hS (x8+1,HP xs x8 o4_0 1) [(0,0)] ⟨Ac,(A3 (st:=Ly _) hq1 rfl rfl),trivial⟩))
 ·have hT:=hS
  obtain rfl:256=x8:=by omega
  obtain rfl:=hq1.symm
  have hS:=hT
  exact CO (Ae [] 1 hS fun hS=>AR (Bi (dI ..) hS))
end
def J2 (f:Nat→Int):Bool:=(List.range 256).all fun i=>decide (f i<3329)
theorem AcE {f:Nat→Int} {i:Nat} (hi:i<256) (h:(3329:Int)≤f i):J2 f=false:=by
 cases hb:J2 f with
 |false=>rfl
 |true=>
  have :=List.all_eq_true.1 hb i (List.mem_range.2 hi)
  simp only[decide_eq_true_iff]at this
  omega
theorem bC {f:Nat→Int} (h:∀i,i<256→f i<3329):J2 f=true:=by
 unfold J2
 rw[List.all_eq_true]
 intro i hi
 rw[decide_eq_true_iff]
 exact h i (List.mem_range.1 hi)
def Af0 (f:Nat→Int):Con:=⟨[.ar .u16 256 f],[],.v (.bool (J2 f)),[]⟩
theorem nO (f:Nat→Int):ConOk Tryz.prog 193 (Af0 f):=by
 refine cy 0 Tryz.func193 rfl Tryz.ntmps193 fun hg0 hS=>Ae [] 1 hS fun hS=>Av (Ae [] 1 hS fun hS=>Br (Ar (ι:=Nat) hg0 hS (fun i=>(256-i,[(6,vi ((i:Nat):Int))],[],(i≤256)∧(∀j,j<i→f j<3329)∧True)) [5] [] 0 0 [] ⟨Ac,(fun j h=>absurd h (Nat.not_lt_zero j)),trivial⟩ ?_))
 rintro i ac gs ws ⟨hi,pm,_⟩ hS
 refine Ae [] 0 hS fun hS=>Av (AB ((i:Int)<256) hS (fun h1=> ?_) (fun h1=> ?_))
 ·refine BE (Ax [(0,AD i 256)] [] 0 hS fun hS=>Ae [] 0 hS fun hS=>AB ((3329:Int)≤(f i)) hS (fun h2=> ?_) (fun h2=> ?_))
  ·exact Ae [] 0 hS fun hS=>AR (Aw (Af (Af (Aw (Af (C0 rfl (.inr rfl) hS [.v (.bool false)] [] (by show weak _ (.v (.bool (J2 f)))= .v (.bool (J2 f));rw[AcE Ac h2];rfl) trivial))))))
  ·exact G8 (As [(0,BH i)] [6] 0 hS fun hS=>Ab (Al hg0 hS (i+1) [] ⟨Ac,(A0 pm Ac),trivial⟩))
 ·have hT:=hS
  obtain rfl:256=i:=by omega
  have hS:=hT
  exact CO (Ae [] 0 hS fun hS=>AR (C0 rfl (.inr rfl) hS [.v (.bool true)] [] (by show weak _ (.v (.bool (J2 f)))= .v (.bool (J2 f));rw[bC pm];rfl) trivial))
end
end Go.Sx.Tryz
namespace Go.Sx.Tryz
open Go.Mi Go.RowKit Go.Sx Go.Proofs
noncomputable section
def Ob4 (x0:Nat→Int) (x1:Nat):O:= .ob 250 (chain [.ar .u64 25 x0,vi 168,vi ((x1:Nat):Int)])
section
variable (l:List (List Int))
def VL:(List Int):=(Dl 136 (PF 136 6 l) 0 32).2.2
def Bm:(List Int):=AJ (VL l)
theorem VM:Bm l=VL l:=Ag _
end
@[simp] theorem Kz (l:List (List Int)):(Bm l).length=32:=by rw[VM];exact Nn ..
section
variable (l:List (List Int))
def rH (z_:(List Int):=Bm l):Con:=⟨[.ls false [.sl (.int .u8)] l],[],lb z_,[]⟩
theorem JC (h:l.flatten.length≤140000000000000):ConOk Tryz.prog 156 (rH l):=by
 refine cy 0 Tryz.func156 rfl Tryz.ntmps156 fun hg0 hS=> ?_
 have A7:l.length≤9223372036854775807:=hS.len 0 rfl
 exact Ae [] 0 hS fun hS=>Ax [(1,AM (Hg 136 6 l Ac Ac (by first |omega|(simp only[List.flatten_cons,List.flatten_nil,List.length_append,List.length_cons,List.length_nil,List.length_take,List.length_drop,List.length_replicate]<;>omega)|(simp<;>omega))) [] [(0,0)]),(2,AM (LO 136 (PF 136 6 l) 0 32 Ac Ac Ac Ac) [(0,0)] [])] [] 1 hS fun hS=>AR (Bi (VM ..) hS)
def VK:(List Int):=(Dl 72 (PF 72 6 l) 0 64).2.2
def AC:(List Int):=AJ (VK l)
theorem Py:AC l=VK l:=Ag _
end
@[simp] theorem DZ (l:List (List Int)):(AC l).length=64:=by rw[Py];exact Nn ..
section
variable (l:List (List Int))
def rG (z_:(List Int):=AC l):Con:=⟨[.ls false [.sl (.int .u8)] l],[],lb z_,[]⟩
theorem JB (h:l.flatten.length≤140000000000000):ConOk Tryz.prog 147 (rG l):=by
 refine cy 0 Tryz.func147 rfl Tryz.ntmps147 fun hg0 hS=> ?_
 have A7:l.length≤9223372036854775807:=hS.len 0 rfl
 exact Ae [] 0 hS fun hS=>Ax [(1,AM (Hg 72 6 l Ac Ac (by first |omega|(simp only[List.flatten_cons,List.flatten_nil,List.length_append,List.length_cons,List.length_nil,List.length_take,List.length_drop,List.length_replicate]<;>omega)|(simp<;>omega))) [] [(0,0)]),(2,AM (LO 72 (PF 72 6 l) 0 64 Ac Ac Ac Ac) [(0,0)] [])] [] 1 hS fun hS=>AR (Bi (Py ..) hS)
def PL:(List Int):=(Dl 136 (PF 136 31 l) 0 128).2.2
def BN:(List Int):=AJ (PL l)
theorem PM:BN l=PL l:=Ag _
end
@[simp] theorem TS (l:List (List Int)):(BN l).length=128:=by rw[PM];exact Nn ..
section
variable (l:List (List Int))
def Zl (z_:(List Int):=BN l):Con:=⟨[vi 128,.ls false [.sl (.int .u8)] l],[],lb z_,[]⟩
theorem VZ (h:l.flatten.length≤140000000000000):ConOk Tryz.prog 171 (Zl l):=by
 refine cy 0 Tryz.func171 rfl Tryz.ntmps171 fun hg0 hS=> ?_
 have Be:l.length≤9223372036854775807:=hS.len 1 rfl
 exact Ae [] 0 hS fun hS=>Ax [(1,AM (Hg 136 31 l Ac Ac (by first |omega|(simp only[List.flatten_cons,List.flatten_nil,List.length_append,List.length_cons,List.length_nil,List.length_take,List.length_drop,List.length_replicate]<;>omega)|(simp<;>omega))) [] [(0,0)]),(4,AM (LO 136 (PF 136 31 l) 0 128 Ac Ac Ac Ac) [(0,0)] [])] [] 1 hS fun hS=>AR (Bi (PM ..) hS)
def Si:(List Int):=(Dl 136 (PF 136 31 l) 0 32).2.2
def Hk:(List Int):=AJ (Si l)
theorem Sj:Hk l=Si l:=Ag _
end
@[simp] theorem VY (l:List (List Int)):(Hk l).length=32:=by rw[Sj];exact Nn ..
def gQ (l:List (List Int)) (z_:(List Int):=Hk l):Con:=⟨[vi 32,.ls false [.sl (.int .u8)] l],[],lb z_,[]⟩
theorem Yj (l:List (List Int)) (h:l.flatten.length≤140000000000000):ConOk Tryz.prog 171 (gQ l):=by
 refine cy 0 Tryz.func171 rfl Tryz.ntmps171 fun hg0 hS=> ?_
 have Be:l.length≤9223372036854775807:=hS.len 1 rfl
 exact Ae [] 0 hS fun hS=>Ax [(1,AM (Hg 136 31 l Ac Ac (by first |omega|(simp only[List.flatten_cons,List.flatten_nil,List.length_append,List.length_cons,List.length_nil,List.length_take,List.length_drop,List.length_replicate]<;>omega)|(simp<;>omega))) [] [(0,0)]),(4,AM (LO 136 (PF 136 31 l) 0 32 Ac Ac Ac Ac) [(0,0)] [])] [] 1 hS fun hS=>AR (Bi (Sj ..) hS)
section
variable (sd:List Int) (k:Int)
def Qw (x13:Nat):(Nat→Int)→(Nat→Int):=fun o4_0=>upd o4_0 x13 (Df (EC .u32 (EC .u32 (AZ .u32 (AZ .u32 (A6 .u32 (AY .u32 (IntKind.wrap .u32 ((BN [sd,[k]]).getD (x13/2) 0)) (((x13%2)*4:Nat):Int)) 1) (A6 .u32 (AY .u32 (AY .u32 (IntKind.wrap .u32 ((BN [sd,[k]]).getD (x13/2) 0)) (((x13%2)*4:Nat):Int)) 1) 1)) 3329) (A6 .u32 (AY .u32 (AY .u32 (IntKind.wrap .u32 ((BN [sd,[k]]).getD (x13/2) 0)) (((x13%2)*4:Nat):Int)) 2) 1)) (A6 .u32 (AY .u32 (AY .u32 (IntKind.wrap .u32 ((BN [sd,[k]]).getD (x13/2) 0)) (((x13%2)*4:Nat):Int)) 3) 1)))
def Qx (sd:List Int) (k:Int):Nat→(Nat→Int)
 |0=>fun _=>0
 |x13+1=>Qw sd k x13 (Qx sd k x13)
def a7:(Nat→Int):=Qx sd k 256
def CJ:(Nat→Int):=AJ (a7 sd k)
theorem wV:CJ sd k=a7 sd k:=Ag _
def Aag (z_:(Nat→Int):=CJ sd k):Con:=⟨[lb sd,.v (.int .u8 k)],[],.ar .u16 256 z_,[]⟩
theorem WI (h:sd.length≤100000000000000):ConOk Tryz.prog 175 (Aag sd k):=by
 refine cy 0 Tryz.func175 rfl Tryz.ntmps175 fun hg0 hS=> ?_
 have A7:sd.length≤9223372036854775807:=hS.len 0 rfl
 refine Ae [] 1 hS fun hS=>Av (As [(4,AP (VZ [sd,[k]] (by first |omega|(simp only[List.flatten_cons,List.flatten_nil,List.length_append,List.length_cons,List.length_nil,List.length_take,List.length_drop,List.length_replicate]<;>omega)|(simp<;>omega))))] [] 1 hS fun hS=> ?_)
 have hl:=TS [sd,[k]]
 refine Ej (Ae [] 1 hS fun hS=>Br (Ar (ι:=Nat×(Nat→Int)) hg0 hS (fun(x13,o4_0)=>(256-x13,[(13,vi ((x13:Nat):Int))],[(0,M1 o4_0)],(x13≤256)∧(o4_0=Qx sd k x13)∧True)) [4,5] [] 1 (0,fun _=>0) [(0,0)] ⟨Ac,rfl,trivial⟩ ?_))
 rintro⟨x13,o4_0⟩ ac gs ws ⟨hx13,hq1,_⟩ hS
 refine Ae [] 1 hS fun hS=>Av (AB ((x13:Int)<256) hS (fun h1=> ?_) (fun h1=> ?_))
 ·exact BE (Ae [] 1 hS fun hS=>Ax [(2,Vy x13 2),(3,AD (x13/2) ((BN [sd,[k]]).length)),(7,Ll x13 2),(8,HJ (x13%2) 4 ((x13%2)*4)),(9,EQ ((x13%2)*4))] [] 1 hS fun hS=>As [(4,EQ 1),(9,EQ 2),(13,EQ 3),(16,AP (G2 (EC .u32 (EC .u32 (AZ .u32 (AZ .u32 (A6 .u32 (AY .u32 (IntKind.wrap .u32 ((BN [sd,[k]]).getD (x13/2) 0)) (((x13%2)*4:Nat):Int)) 1) (A6 .u32 (AY .u32 (AY .u32 (IntKind.wrap .u32 ((BN [sd,[k]]).getD (x13/2) 0)) (((x13%2)*4:Nat):Int)) 1) 1)) 3329) (A6 .u32 (AY .u32 (AY .u32 (IntKind.wrap .u32 ((BN [sd,[k]]).getD (x13/2) 0)) (((x13%2)*4:Nat):Int)) 2) 1)) (A6 .u32 (AY .u32 (AY .u32 (IntKind.wrap .u32 ((BN [sd,[k]]).getD (x13/2) 0)) (((x13%2)*4:Nat):Int)) 3) 1)))),(17,AD x13 256)] [] 1 hS fun hS=>BV (As [(0,BH x13)] [13] 1 hS fun hS=>Ab (Al hg0 hS (x13+1,upd o4_0 x13 (Df (EC .u32 (EC .u32 (AZ .u32 (AZ .u32 (A6 .u32 (AY .u32 (IntKind.wrap .u32 ((BN [sd,[k]]).getD (x13/2) 0)) (((x13%2)*4:Nat):Int)) 1) (A6 .u32 (AY .u32 (AY .u32 (IntKind.wrap .u32 ((BN [sd,[k]]).getD (x13/2) 0)) (((x13%2)*4:Nat):Int)) 1) 1)) 3329) (A6 .u32 (AY .u32 (AY .u32 (IntKind.wrap .u32 ((BN [sd,[k]]).getD (x13/2) 0)) (((x13%2)*4:Nat):Int)) 2) 1)) (A6 .u32 (AY .u32 (AY .u32 (IntKind.wrap .u32 ((BN [sd,[k]]).getD (x13/2) 0)) (((x13%2)*4:Nat):Int)) 3) 1)))) [(0,0)] ⟨Ac,(A3 (st:=Qw _ _) hq1 rfl rfl),trivial⟩)))
 ·have hT:=hS
  obtain rfl:256=x13:=by omega
  obtain rfl:=hq1.symm
  have hS:=hT
  exact CO (Ae [] 1 hS fun hS=>AR (Bi (wV ..) hS))
end
def XF (l:List (List Int)):Con:=⟨[.ls false [.sl (.int .u8)] l],[],.cp 0 0,[(0,.ob 270 (chain [.cp 1 0])),(1,.ob 250 (chain [.ar .u64 25 (PF 168 31 l),vi 168,vi 0]))]⟩
theorem Uu (l:List (List Int)) (h:l.flatten.length≤140000000000000):ConOk Tryz.prog 201 (XF l):=by
 refine cy 0 Tryz.func201 rfl Tryz.ntmps201 fun hg0 hS=> ?_
 have A7:l.length≤9223372036854775807:=hS.len 0 rfl
 refine Ae [] 0 hS fun hS=>Ax [(1,AM (Hg 168 31 l Ac Ac (by first |omega|(simp only[List.flatten_cons,List.flatten_nil,List.length_append,List.length_cons,List.length_nil,List.length_take,List.length_drop,List.length_replicate]<;>omega)|(simp<;>omega))) [] [(0,0)])] [] 2 hS fun hS=>AR ?_
 obtain⟨gs,hS⟩:=hS.rx [(0,1),(1,0)] [2] [0,1] 2 hg0
 exact BW hS
section
variable (f:Nat→Int) (a:Nat)
def zZ:Con:=⟨[.cp 0 0,vi 504],[(0,.ob 270 (chain [.cp 1 0])),(1,Ob4 f a)],lb ((Dl 168 f a 504).2.2),[(0,.ob 270 (chain [.cp 1 0])),(1,Ob4 ((Dl 168 f a 504).1) ((Dl 168 f a 504).2.1))]⟩
theorem lI (h:a≤168):ConOk Tryz.prog 202 (zZ f a):=by
 exact cy 2 Tryz.func202 rfl Tryz.ntmps202 fun hg0 hS=>Ae [] 2 hS fun hS=>Av (Ae [] 2 hS fun hS=>Ai hS (DU (Ae [] 2 hS fun hS=>Ai hS (BP (Ax [(5,AM (LO 168 f a 504 Ac Ac Ac Ac) [(0,1)] [])] [] 2 hS fun hS=>AR (BW hS))))))
end
end
end Go.Sx.Tryz
namespace Go.Sx
open Go.Mi Go.RowKit
def bv (f:Nat→Int):Ke.St:=fun i=>BitVec.ofInt 64 (f i)
def Rg (f:Nat→Int):Prop:=∀i,i<25→0≤f i∧f i<18446744073709551616
theorem O8 (x:Int):IntKind.wrap .u64 x=x%18446744073709551616:=by
 simp [IntKind.wrap,IntKind.bits,IntKind.signed]
theorem R3 (x:Int):0≤IntKind.wrap .u64 x∧IntKind.wrap .u64 x<18446744073709551616:=by rw[O8];omega
theorem OW (x:Int):BitVec.ofInt 64 (IntKind.wrap .u64 x)=BitVec.ofInt 64 x:=by
 apply BitVec.eq_of_toInt_eq
 simp only[BitVec.toInt_ofInt,O8]
 unfold Int.bmod
 simp
theorem Zx (x:BitVec 64):BitVec.ofInt 64 (x.toNat:Int)=x:=by simp
theorem NJ (p q:Int):BitVec.ofInt 64 (AK .u64 p q)=BitVec.ofInt 64 p^^^BitVec.ofInt 64 q:=by
 unfold AK;rw[OW];exact Zx _
theorem Aej (p q:Int):BitVec.ofInt 64 (A6 .u64 p q)=BitVec.ofInt 64 p&&&BitVec.ofInt 64 q:=by
 unfold A6;rw[OW];exact Zx _
theorem Af7 (p q:Int):BitVec.ofInt 64 (C9 .u64 p q)=BitVec.ofInt 64 p|||BitVec.ofInt 64 q:=by
 unfold C9;rw[OW];exact Zx _
theorem Aei (p:Int):BitVec.ofInt 64 (KW .u64 p)= ~~~BitVec.ofInt 64 p:=by
 unfold KW;rw[NJ]
 rw[show BitVec.ofInt 64 (if IntKind.signed .u64 then -1 else IntKind.max .u64)=BitVec.allOnes 64 from rfl,BitVec.allOnes_xor]
theorem Mm (p q:Int):0≤AK .u64 p q∧AK .u64 p q<18446744073709551616:=R3 _
theorem oB (p q:Int):0≤C9 .u64 p q∧C9 .u64 p q<18446744073709551616:=R3 _
theorem FG {x:Int} (h:0≤x∧x<18446744073709551616):(BitVec.ofInt 64 x).toNat=x.toNat:=by
 rw[BitVec.toNat_ofInt];omega
theorem Aeh (p:Int) (k:Nat) (hk:k≤64):BitVec.ofInt 64 (Bf .u64 p (k:Int))=BitVec.ofInt 64 p<<<k:=by
 unfold Bf
 rw[OW,show min (k:Int).toNat (IntKind.bits .u64)=k by simp [IntKind.bits];omega]
 apply BitVec.eq_of_toNat_eq
 rw[BitVec.toNat_shiftLeft,Nat.shiftLeft_eq,BitVec.toNat_ofInt,BitVec.toNat_ofInt]
 have h1:(p*2^k)%((2^64:Nat):Int)=((p%((2^64:Nat):Int))*((2^k:Nat):Int))%((2^64:Nat):Int):=by
  rw[show((2^k:Nat):Int)=(2:Int)^k by simp]
  have e1:=Int.mul_emod p (2^k) ((2^64:Nat):Int)
  have e2:=Int.mul_emod (p%((2^64:Nat):Int)) (2^k) ((2^64:Nat):Int)
  rw[Int.emod_emod_of_dvd _ (Int.dvd_refl _)]at e2
  rw[e1,e2]
 rw[h1]
 have h2:0≤p%((2^64:Nat):Int):=Int.emod_nonneg _ (by decide)
 obtain⟨n,hn⟩:=Int.eq_ofNat_of_zero_le h2
 rw[hn]
 have h3:(((n:Int)*((2^k:Nat):Int))%((2^64:Nat):Int)).toNat=n*2^k%2^64:=by
  rw[←Int.natCast_mul,←Int.natCast_emod,Int.toNat_natCast]
 rw[h3]
 rfl
theorem Aeg {p:Int} (h:0≤p∧p<18446744073709551616) (k:Nat) (hk:k≤64):BitVec.ofInt 64 (AY .u64 p (k:Int))=BitVec.ofInt 64 p>>>k:=by
 unfold AY
 rw[show min (k:Int).toNat (IntKind.bits .u64)=k by simp [IntKind.bits];omega]
 obtain⟨n,rfl⟩:=Int.eq_ofNat_of_zero_le h.1
 apply BitVec.eq_of_toNat_eq
 rw[BitVec.toNat_ushiftRight,Nat.shiftRight_eq_div_pow,FG h]
 rw[Int.fdiv_eq_ediv_of_nonneg _ (Int.pow_nonneg (by decide)),show(2:Int)^k=((2^k:Nat):Int) by simp]
 rw[show(((n:Nat):Int)/((2^k:Nat):Int))=((n/2^k:Nat):Int)from rfl]
 have h3:n/2^k≤n:=Nat.div_le_self _ _
 have h4:n<18446744073709551616:=by have :=h.2;omega
 rw[FG ⟨Int.natCast_nonneg _,by omega⟩,Int.toNat_natCast,Int.toNat_natCast]
theorem aB {x:Int} (h:0≤x∧x<18446744073709551616) (k:Nat) (hk:k<1000):BitVec.ofInt 64 (TV x (k:Int))=Ke.rot (BitVec.ofInt 64 x) k:=by
 have hm:A6 .u64 (IntKind.wrap .u64 (k:Int)) 63=((k%64:Nat):Int):=by
  unfold A6
  rw[O8,BitVec.toNat_and,show(BitVec.ofInt (IntKind.bits .u64) 63).toNat=2^6-1 from rfl,Nat.and_two_pow_sub_one_eq_mod]
  have e:(BitVec.ofInt (IntKind.bits .u64) (IntKind.wrap .u64 (k:Int))).toNat=k:=by
   rw[O8]
   show(BitVec.ofInt 64 _).toNat=k
   rw[FG ⟨by omega,by omega⟩];omega
  rw[e]
  omega
 have hs:EC .u64 64 (A6 .u64 (IntKind.wrap .u64 (k:Int)) 63)=((64-k%64:Nat):Int):=by
  rw[hm];unfold EC;rw[O8];omega
 unfold TV
 rw[Af7,hs,hm,Aeh _ _ (by omega),Aeg h _ (by omega)]
 unfold Ke.rot
 rw[BitVec.rotateLeft_def]
theorem vO (x k:Int):0≤TV x k∧TV x k<18446744073709551616:=oB _ _
theorem VH (a:Nat→Int) (n x:Nat):M6 a (n+1) x=if x=n%5 then AK .u64 (M6 a n x) (a n)else M6 a n x:=by
 simp only[M6,upd]
 split
 ·rename_i h;rw[h]
 ·rfl
theorem VI (a:Nat→Int) (k x:Nat) (hx:x<5):M6 a (5*k+5) x=AK .u64 (M6 a (5*k) x) (a (5*k+x)):=by
 have h5:x=0∨x=1∨x=2∨x=3∨x=4:=by omega
 rw[show 5*k+5=5*k+4+1 from rfl,VH,show 5*k+4=5*k+3+1 from rfl,VH,show 5*k+3=5*k+2+1 from rfl,VH,show 5*k+2=5*k+1+1 from rfl,VH,VH]
 rcases h5 with rfl|rfl|rfl|rfl|rfl<;>repeat (first |rw[if_pos (by omega)]|rw[if_neg (by omega)]|rfl)
theorem jU (a:Nat→Int) (x:Nat) (hx:x<5):BitVec.ofInt 64 (M6 a 25 x)=Ke.par (bv a) x:=by
 have h1:=VI a 4 x hx
 have h2:=VI a 3 x hx
 have h3:=VI a 2 x hx
 have h4:=VI a 1 x hx
 have h5:=VI a 0 x hx
 have h6:M6 a 0 x=0:=rfl
 show BitVec.ofInt 64 (M6 a (5*4+5) x)=_
 rw[h1,show M6 a (5*4) x=M6 a (5*3+5) x from rfl,h2,show M6 a (5*3) x=M6 a (5*2+5) x from rfl,h3,show M6 a (5*2) x=M6 a (5*1+5) x from rfl,h4,show M6 a (5*1) x=M6 a (5*0+5) x from rfl,h5,show M6 a (5*0) x=0 from rfl]
 simp only[NJ]
 unfold Ke.par bv
 rw[Nat.mod_eq_of_lt hx]
 simp [Nat.add_comm]
theorem TB (a c:Nat→Int):∀n i,thA a c n i=if i<n then AK .u64 (a i) (AK .u64 (c ((i%5+4)%5)) (TV (c ((i%5+1)%5)) 1))else a i
 |0,i=>by simp [thA]
 |n+1,i=>by
  simp only[thA,upd]
  by_cases h:i=n
  ·subst h;rw[if_pos rfl,TB a c i i,if_neg (Nat.lt_irrefl _),if_pos (Nat.lt_succ_self _)]
  ·rw[if_neg h,TB a c n i]
   by_cases h2:i<n
   ·rw[if_pos h2,if_pos (by omega)]
   ·rw[if_neg h2,if_neg (by omega)]
theorem jT (a:Nat→Int):∀n i,0≤M6 a n i∧M6 a n i<18446744073709551616
 |0,i=>by simp [M6]
 |n+1,i=>by
  simp only[M6,upd]
  split
  ·exact Mm _ _
  ·exact jT a n i
theorem jS (a:Nat→Int):Ke.Eq25 (bv (theta a)) (Ke.theta (bv a)):=by
 intro i hi
 unfold bv theta Ke.theta Ke.dif
 rw[TB,if_pos hi,NJ,NJ,jU _ _ (by omega),show(1:Int)=((1:Nat):Int)from rfl,aB (jT _ _ _) 1 (by omega),jU _ _ (by omega)]
 rw[show(i%5+4)%5=(i+4)%5 by omega,show(i%5+1)%5=(i+1)%5 by omega,Ke.par_mod,Ke.par_mod]
 rfl
theorem jQ (a:Nat→Int):Rg (theta a):=fun i hi=>by
 unfold theta;rw[TB,if_pos hi];exact Mm _ _
theorem aF {a:Nat→Int} (ha:Rg a):∀n,n≤24→Rg (Yo a n)∧Ke.Eq25 (bv (Yo a n)) (Ke.rhoN (bv a) n)
 |0,_=>⟨ha,fun i _=>rfl⟩
 |n+1,hn=>by
  obtain⟨h1,h2⟩:=aF ha n (by omega)
  have hk:Mn .i64 (BL .i64 ((n+1:Nat):Int) ((n+2:Nat):Int)) 2=(((n+1)*(n+2)/2:Nat):Int):=by
   have key:((List.range 24).all fun n=>decide (Mn .i64 (BL .i64 ((n+1:Nat):Int) ((n+2:Nat):Int)) 2=(((n+1)*(n+2)/2:Nat):Int)))=true:=by kernel_rfl
   exact of_decide_eq_true (List.all_eq_true.1 key n (List.mem_range.2 (by omega)))
  have hk2:(n+1)*(n+2)/2<1000:=by
   have :(n+1)*(n+2)≤24*25:=Nat.mul_le_mul (by omega) (by omega)
   omega
  have hp:=Ke.ps_lt n (by omega)
  refine⟨fun i hi=> ?_,fun i hi=> ?_⟩
  ·simp only[Yo,upd]
   split
   ·exact vO _ _
   ·exact h1 i hi
  ·simp only[Yo,upd,bv,Ke.rhoN]
   show BitVec.ofInt 64 (if i=Ke.ps (n+1)then _ else _)=_
   split
   ·rw[hk];exact aB (ha _ hp) _ hk2
   ·exact h2 i hi
theorem Ab1 {a:Nat→Int} (ha:Rg a):Ke.Eq25 (bv (rho a)) (Ke.rho (bv a)):=(aF ha 24 (Nat.le_refl _)).2
theorem OP (a:Nat→Int):∀n i,Zd a n i=if i<n then AK .u64 (a i) (A6 .u64 (KW .u64 (a (i-i%5+(i+1)%5))) (a (i-i%5+(i+2)%5)))else a i
 |0,i=>by simp [Zd]
 |n+1,i=>by
  simp only[Zd,upd]
  by_cases h:i=n
  ·subst h;rw[if_pos rfl,OP a i i,if_neg (Nat.lt_irrefl _),if_pos (Nat.lt_succ_self _)]
  ·rw[if_neg h,OP a n i]
   by_cases h2:i<n
   ·rw[if_pos h2,if_pos (by omega)]
   ·rw[if_neg h2,if_neg (by omega)]
theorem Adj (a:Nat→Int):Ke.Eq25 (bv (chi a)) (Ke.chi (bv a)):=by
 intro i hi
 unfold bv chi Ke.chi
 rw[OP,if_pos hi,NJ,Aej,Aei]
theorem Adh (a:Nat→Int):Rg (chi a):=fun i hi=>by
 unfold chi;rw[OP,if_pos hi];exact Mm _ _
theorem Ae4 (b:Nat→Int):bE b 3=chi (rho (theta b)):=by simp only[bE,AcM]
def RCl (n:Nat):List Ke.Ln:=(List.range n).map fun i=>BitVec.ofInt 64 (RC i)
theorem PX:∀(l m:List Ke.Ln) (a:Ke.St),Ke.rounds (l++m) a=Ke.rounds m (Ke.rounds l a)
 |[],m,a=>rfl
 |c::l,m,a=>PX l m (Ke.round c a)
theorem Uh {a:Nat→Int} (ha:Rg a):∀n,Rg (J1 a n)∧Ke.Eq25 (bv (J1 a n)) (Ke.rounds (RCl n) (bv a))
 |0=>⟨ha,fun i _=>rfl⟩
 |n+1=>by
  obtain⟨h1,h2⟩:=Uh ha n
  generalize hK:Ke.rounds (RCl n) (bv a)=K at h2
  have e:Ke.rounds (RCl (n+1)) (bv a)=Ke.round (BitVec.ofInt 64 (RC n)) K:=by
   rw[←hK];unfold RCl;rw[List.range_succ,List.map_append,PX];rfl
  have k1:Rg (bE (J1 a n) 3):=by rw[Ae4];exact Adh _
  have k2:Ke.Eq25 (bv (bE (J1 a n) 3)) (Ke.chi (Ke.rho (Ke.theta K))):=by
   have t1:Ke.Eq25 (bv (theta (J1 a n))) (Ke.theta K):=fun i hi=>by rw[jS _ i hi,Ke.theta_congr h2 i hi]
   have t2:Ke.Eq25 (bv (rho (theta (J1 a n)))) (Ke.rho (Ke.theta K)):=fun i hi=>by
    rw[Ab1 (jQ _) i hi];exact Ke.rhoN_congr t1 24 (Nat.le_refl _) i hi
   intro i hi
   rw[Ae4,Adj _ i hi,Ke.chi_congr t2 i hi]
  have pe:J1 a (n+1)=upd (bE (J1 a n) 3) 0 (AK .u64 (bE (J1 a n) 3 0) (RC n)):=rfl
  generalize bE (J1 a n) 3=q at k1 k2 pe
  rw[pe]
  refine⟨fun i hi=> ?_,fun i hi=> ?_⟩
  ·unfold upd
   split
   ·exact Mm _ _
   ·exact k1 i hi
  ·rw[e]
   unfold Ke.round Ke.iota bv upd
   split
   ·rw[NJ]
    have :=k2 0 (by omega)
    unfold bv at this
    rw[this]
   ·exact k2 i hi
def Ww (a:Ke.St):Ke.St:=Ke.rounds (RCl 24) a
theorem wD {a:Nat→Int} (ha:Rg a):Ke.Eq25 (bv (Ca a)) (Ww (bv a)):=(Uh ha 24).2
theorem wC {a:Nat→Int} (ha:Rg a):Rg (Ca a):=(Uh ha 24).1
def De (a:Nat→Int):Nat→Nat→Int
 |0=>a
 |n+1=>Ca (De a n)
theorem Wv {a:Nat→Int} (ha:Rg a):∀n,Rg (De a n)∧Ke.Eq25 (bv (De a n)) (Ke.iter Ww n (bv a))
 |0=>⟨ha,fun _ _=>rfl⟩
 |n+1=>by
  obtain⟨h1,h2⟩:=Wv ha n
  refine⟨wC h1,fun i hi=> ?_⟩
  show bv (Ca (De a n)) i=Ww (Ke.iter Ww n (bv a)) i
  rw[wD h1 i hi]
  exact Ke.rounds_congr (RCl 24) h2 i hi
theorem Yy {a:Nat→Int} (ha:Rg a) (m:Nat):∃n,m<n∧∀i,i<25→De a n i=a i:=by
 obtain⟨n,h1,h2⟩:=Ke.again_late (f:=Ww) (fun h=>Ke.rounds_inj _ h) (fun h=>Ke.rounds_congr _ h) (bv a) m
 refine⟨n,h1,fun i hi=> ?_⟩
 obtain⟨h3,h4⟩:=Wv ha n
 have h5:=(h4 i hi).trans (h2 i hi)
 unfold bv at h5
 have h6:=congrArg BitVec.toNat h5
 rw[FG (h3 i hi),FG (ha i hi)]at h6
 have :=h3 i hi
 have :=ha i hi
 omega
end Go.Sx
namespace Go.Sx
open Go.Mi Go.RowKit
def Bt (f:Nat→Int) (i:Nat):Int:=IntKind.wrap .u8 (AY .u64 (f (i/8)) ((8*(i%8):Nat):Int))
def iL (f:Nat→Int) (a n:Nat):List Int:=(List.range n).map fun i=>Bt f (a+i)
theorem Af8 (f:Nat→Int) (a n:Nat):iL f a (n+1)=iL f a n++[Bt f (a+n)]:=by unfold iL;rw[List.range_succ,List.map_append];rfl
theorem AaL (f:Nat→Int) (a n:Nat):(iL f a n).length=n:=by simp [iL]
theorem mF {r:Nat} (f:Nat→Int) (a:Nat):∀n,a+n≤r→Dl r f a n=(f,a+n,iL f a n)
 |0,_=>(eF r f a).symm
 |n+1,h=>by
  rw[SH,mF f a n (by omega),Af8]
  simp only
  rw[if_neg (by omega)]
  rfl
theorem LS (r:Nat) (f:Nat→Int) (a m:Nat):∀n,Dl r f a (m+n)=((Dl r (Dl r f a m).1 (Dl r f a m).2.1 n).1,(Dl r (Dl r f a m).1 (Dl r f a m).2.1 n).2.1,(Dl r f a m).2.2++(Dl r (Dl r f a m).1 (Dl r f a m).2.1 n).2.2)
 |0=>by
  rw[←eF]
  simp
 |n+1=>by
  have ih:=LS r f a m n
  rw[show m+(n+1)=(m+n)+1 from rfl,SH,ih,SH]
  generalize Dl r (Dl r f a m).1 (Dl r f a m).2.1 n=q
  obtain⟨g,b,o⟩:=q
  simp only
  split<;>simp
theorem Wk {r:Nat} (hr:0<r) (f:Nat→Int) (n:Nat):Dl r f r (n+1)=Dl r (Ca f) 0 (n+1):=by
 rw[Nat.add_comm n 1,LS r f r 1,LS r (Ca f) 0 1]
 have h1:Dl r f r 1=(Ca f,1,[Bt (Ca f) 0]):=by rw[SH,←eF];simp only[if_true];rfl
 have h2:Dl r (Ca f) 0 1=(Ca f,1,[Bt (Ca f) 0]):=by rw[SH,←eF];simp only;rw[if_neg (by omega)];rfl
 rw[h1,h2]
def blk (f:Nat→Int):List Int:=iL f 0 168
theorem OZ (f:Nat→Int):(blk f).length=168:=AaL ..
theorem AeM {r:Nat} (hr:0<r) (h:Nat→Int):Dl r h 0 (r+(r+r))=(Ca (Ca h),r,iL h 0 r++iL (Ca h) 0 r++iL (Ca (Ca h)) 0 r):=by
 have e:∀h,Dl r h 0 r=(h,r,iL h 0 r):=fun h=>by rw[mF h 0 r (by omega),Nat.zero_add]
 have e2:∀h,Dl r h r r=(Ca h,r,iL (Ca h) 0 r):=fun h=>by
  obtain⟨n,rfl⟩:∃n,r=n+1:=⟨r-1,by omega⟩
  rw[Wk hr,e]
 rw[LS,e,LS,e2,e2,List.append_assoc]
theorem Aba (h:Nat→Int):Dl 168 h 0 504=(Ca (Ca h),168,blk h++blk (Ca h)++blk (Ca (Ca h))):=AeM (by decide) h
theorem AeN (h:Nat→Int):Dl 168 h 168 504=(Ca (Ca (Ca h)),168,blk (Ca h)++blk (Ca (Ca h))++blk (Ca (Ca (Ca h)))):=(Wk (r:=168) (by decide) h 503).trans (Aba (Ca h))
def Fw (x:Int) (s:(Nat→Int)×Nat):(Nat→Int)×Nat:=if x<3329 then(if s.2<256 then(upd s.1 s.2 x,s.2+1)else s)else s
def ux1 (a b:Int):Int:=C9 .u16 (IntKind.wrap .u16 a) (Bf .u16 (IntKind.wrap .u16 (A6 .u8 b 15)) 8)
def ux2 (b c:Int):Int:=C9 .u16 (IntKind.wrap .u16 (AY .u8 b 4)) (Bf .u16 (IntKind.wrap .u16 c) 4)
def acc:List Int→(Nat→Int)×Nat→(Nat→Int)×Nat
 |a::b::c::r,s=>acc r (Fw (ux2 b c) (Fw (ux1 a b) s))
 |_,s=>s
theorem t6 {b:List Int} (h:3≤b.length) (s:(Nat→Int)×Nat):acc b s=acc (b.drop 3) (Fw (ux2 (b.getD 1 0) (b.getD 2 0)) (Fw (ux1 (b.getD 0 0) (b.getD 1 0)) s)):=by
 match b,h with
 |x::y::z::r,_=>rfl
theorem cZ (s:(Nat→Int)×Nat):acc [] s=s:=rfl
theorem J0 (x:Int) (s:(Nat→Int)×Nat):s.2≤(Fw x s).2∧((Fw x s).2≤s.2+1)∧(s.2≤256→(Fw x s).2≤256):=by
 unfold Fw
 split
 ·split
  ·simp only;omega
  ·omega
 ·omega
theorem MY:∀(l:List Int) (s:(Nat→Int)×Nat),s.2≤(acc l s).2∧(s.2≤256→(acc l s).2≤256):=by
 intro l
 induction h:l.length using Nat.strongRecOn generalizing l with
 |_ n ih=>
  intro s
  match l,h with
  |[],_=>exact⟨Nat.le_refl _,id⟩
  |[_],_=>exact⟨Nat.le_refl _,id⟩
  |[_,_],_=>exact⟨Nat.le_refl _,id⟩
  |a::b::c::r,h=>
   have h1:=J0 (ux1 a b) s
   have h2:=J0 (ux2 b c) (Fw (ux1 a b) s)
   have h3:=ih r.length (by rw[←h];simp only[List.length_cons];omega) r rfl (Fw (ux2 b c) (Fw (ux1 a b) s))
   exact⟨by show s.2≤(acc r _).2;omega,fun h4=>h3.2 (h2.2.2 (h1.2.2 h4))⟩
theorem AaT:∀(p r:List Int) (s:(Nat→Int)×Nat),p.length%3=0→acc (p++r) s=acc r (acc p s):=by
 intro p
 induction h:p.length using Nat.strongRecOn generalizing p with
 |_ n ih=>
  intro r s hm
  match p,h with
  |[],_=>rfl
  |[_],h=>simp only[List.length_cons,List.length_nil]at h;omega
  |[_,_],h=>simp only[List.length_cons,List.length_nil]at h;omega
  |a::b::c::q,h=>
   simp only[List.length_cons]at h
   exact ih q.length (by omega) q rfl r _ (by omega)
theorem RD {p r:List Int} (hp:p.length%3=0) {s:(Nat→Int)×Nat} (hs:s.2<256):s.2<(acc (p++0::0::0::r) s).2:=by
 rw[AaT _ _ _ hp]
 have h1:=(MY p s).1
 show s.2<(acc r (Fw (ux2 0 0) (Fw (ux1 0 0) (acc p s)))).2
 rw[show ux1 0 0=0 from rfl,show ux2 0 0=0 from rfl]
 generalize acc p s=t at h1
 have h2:=J0 0 (Fw 0 t)
 have h3:=(MY r (Fw 0 (Fw 0 t))).1
 have h4:t.2<256→(Fw 0 t).2=t.2+1:=fun h=>by unfold Fw;rw[if_pos (by decide),if_pos h]
 have h5:=J0 0 t
 omega
def uR (g0:Nat→Int):Nat→(Nat→Int)×Nat×(Nat→Int)×Nat
 |0=>(g0,0,fun _=>0,0)
 |k+1=>((Dl 168 (uR g0 k).1 (uR g0 k).2.1 504).1,(Dl 168 (uR g0 k).1 (uR g0 k).2.1 504).2.1,acc (Dl 168 (uR g0 k).1 (uR g0 k).2.1 504).2.2 (uR g0 k).2.2)
theorem aT (a:Nat→Int):∀n,De (Ca a) n=De a (n+1)
 |0=>rfl
 |n+1=>congrArg Ca (aT a n)
theorem jN (g0:Nat→Int):∀k,Dl 168 (uR g0 k).1 (uR g0 k).2.1 504=(De g0 (3*k+2),168,blk (De g0 (3*k))++blk (De g0 (3*k+1))++blk (De g0 (3*k+2)))
 |0=>Aba g0
 |k+1=>by
  have ih:=jN g0 k
  have e:uR g0 (k+1)=(De g0 (3*k+2),168,acc (blk (De g0 (3*k))++blk (De g0 (3*k+1))++blk (De g0 (3*k+2))) (uR g0 k).2.2):=by
   show((Dl 168 (uR g0 k).1 (uR g0 k).2.1 504).1,(Dl 168 (uR g0 k).1 (uR g0 k).2.1 504).2.1,acc (Dl 168 (uR g0 k).1 (uR g0 k).2.1 504).2.2 (uR g0 k).2.2)=_
   rw[ih]
  rw[e]
  simp only
  rw[AeN]
  rfl
theorem Tz (g0:Nat→Int) (k:Nat):(uR g0 (k+1)).2.2=acc (blk (De g0 (3*k))++blk (De g0 (3*k+1))++blk (De g0 (3*k+2))) (uR g0 k).2.2:=by
 show acc (Dl 168 (uR g0 k).1 (uR g0 k).2.1 504).2.2 (uR g0 k).2.2=_
 rw[jN]
theorem Vr {f:Nat→Int} {i:Nat} (h:f (i/8)=0):Bt f i=0:=by
 unfold Bt;rw[h];unfold AY;rw[Int.zero_fdiv];rfl
theorem tR {f:Nat→Int} (h:f 5=0):∃p r,blk f=p++0::0::0::r∧p.length=42:=by
 have hb:∀i,i<168→(blk f)[i]? =some (Bt f i):=fun i hi=>by simp [blk,iL,hi]
 have hl:=OZ f
 refine⟨(blk f).take 42,(blk f).drop 45,?_,by simp [hl]⟩
 have e:(blk f).drop 42=0::0::0::(blk f).drop 45:=by
  have at':∀i,i<168→(blk f).drop i=Bt f i::(blk f).drop (i+1):=fun i hi=>by
   rw[List.drop_eq_getElem_cons (by rw[hl];exact hi)]
   have :=hb i hi
   rw[List.getElem?_eq_getElem (by rw[hl];exact hi)]at this
   rw[Option.some.inj this]
  rw[at' 42 (by omega),at' 43 (by omega),at' 44 (by omega),Vr h,Vr h,Vr h]
 rw[←e,List.take_append_drop]
theorem ZU (g0:Nat→Int):∀k,(uR g0 k).2.2.2≤(uR g0 (k+1)).2.2.2∧(uR g0 k).2.2.2≤256
 |0=>⟨Nat.zero_le _,Nat.zero_le _⟩
 |k+1=>by
  have ih:=ZU g0 k
  refine⟨?_,?_⟩
  ·rw[Tz g0 (k+1)];exact(MY _ _).1
  ·rw[Tz g0 k];exact(MY _ _).2 ih.2
theorem jM (g0:Nat→Int) (k:Nat):∀d,(uR g0 k).2.2.2≤(uR g0 (k+d)).2.2.2
 |0=>Nat.le_refl _
 |d+1=>Nat.le_trans (jM g0 k d) (ZU g0 (k+d)).1
theorem uU {g0:Nat→Int} {t:Nat} (h:De g0 t 5=0) (hk:(uR g0 (t/3)).2.2.2<256):(uR g0 (t/3)).2.2.2<(uR g0 (t/3+1)).2.2.2:=by
 rw[Tz]
 have h3:t%3=0∨t%3=1∨t%3=2:=by omega
 obtain⟨p,r,e,hp⟩:=tR h
 rcases h3 with h3|h3|h3
 ·rw[show 3*(t/3)=t by omega,e]
  have :=RD (p:=p) (r:=r++blk (De g0 (t+1))++blk (De g0 (t+2))) (by rw[hp]) hk
  simpa using this
 ·rw[show 3*(t/3)+1=t by omega,e]
  have :=RD (p:=blk (De g0 (3*(t/3)))++p) (r:=r++blk (De g0 (3*(t/3)+2))) (by rw[List.length_append,hp,OZ]) hk
  simpa using this
 ·rw[show 3*(t/3)+2=t by omega,e]
  have :=RD (p:=blk (De g0 (3*(t/3)))++blk (De g0 (3*(t/3)+1))++p) (r:=r) (by rw[List.length_append,List.length_append,hp,OZ,OZ]) hk
  simpa using this
theorem uV {g0:Nat→Int} (h:∀m,∃t,m≤t∧De g0 t 5=0):∃K,∀k,(uR g0 k).2.2.2<256→k<K:=by
 have key:∀c,c≤256→∃K,∀k,K≤k→c≤(uR g0 k).2.2.2:=by
  intro c
  induction c with
  |zero=>exact fun _=>⟨0,fun _ _=>Nat.zero_le _⟩
  |succ c ih=>
   intro hc
   obtain⟨K,hK⟩:=ih (by omega)
   obtain⟨t,h1,h2⟩:=h (3*K)
   refine⟨t/3+1,fun k hk=> ?_⟩
   have h3:=hK (t/3) (by omega)
   have h4:=jM g0 (t/3+1) (k-(t/3+1))
   rw[show t/3+1+(k-(t/3+1))=k by omega]at h4
   have h6:=jM g0 (t/3) 1
   by_cases h5:(uR g0 (t/3)).2.2.2<256
   ·have :=uU h2 h5
    omega
   ·omega
 obtain⟨K,hK⟩:=key 256 (Nat.le_refl _)
 refine⟨K,fun k hk=> ?_⟩
 rcases Nat.lt_or_ge k K with h1|h1
 ·exact h1
 ·have :=hK k h1;omega
theorem jD (b:List Int):∀n,Rg (iV b (fun _=>0) n)
 |0=>fun i _=>by simp [iV]
 |n+1=>fun i hi=>by
  simp only[iV,upd]
  split
  ·exact Mm _ _
  ·exact jD b n i hi
theorem O7 {b:List Int} {l:Nat} (h:∀i,i/8=l→b.getD i 0=0):∀n,iV b (fun _=>0) n l=0
 |0=>rfl
 |n+1=>by
  simp only[iV,upd]
  split
  ·rename_i e
   rw[←e,O7 h n,h n e.symm]
   have e2:∀m:Nat,m<8→AK .u64 0 (Bf .u64 (IntKind.wrap .u64 0) ((8*m:Nat):Int))=0:=by
    intro m hm
    have :m=0∨m=1∨m=2∨m=3∨m=4∨m=5∨m=6∨m=7:=by omega
    rcases this with rfl|rfl|rfl|rfl|rfl|rfl|rfl|rfl<;>rfl
   exact e2 (n%8) (Nat.mod_lt _ (by decide))
  ·exact O7 h n
theorem wJ {l:List (List Int)} (h:l.flatten.length<40):(m8 168 31 l).length=168∧∀i,i/8=5→(m8 168 31 l).getD i 0=0:=by
 have hl:(l.flatten++[(31:Int)]).length=l.flatten.length+1:=by simp
 have hz:(L8 168 31 l).length=168:=by
  unfold L8
  rw[List.length_append,List.length_replicate,hl]
  omega
 refine⟨by rw[Un,hz],fun i hi=> ?_⟩
 unfold m8
 rw[hz,List.getD_eq_getElem?_getD,List.getElem?_set_ne (by omega)]
 unfold L8
 rw[List.getElem?_append_right (by rw[hl];omega)]
 rw[List.getElem?_replicate]
 split<;>rfl
theorem vC {l:List (List Int)} (h:l.flatten.length<40):∃x0,Rg x0∧x0 5=0∧PF 168 31 l=Ca x0:=by
 obtain⟨h1,h2⟩:=wJ h
 refine⟨iV (m8 168 31 l) (fun _=>0) 168,jD _ _,O7 h2 _,?_⟩
 unfold PF
 rw[h1]
 show Ca (iV ((m8 168 31 l).drop (0*168)) (Sb (m8 168 31 l) 168 0) 168)=_
 rw[Nat.zero_mul,List.drop_zero]
 rfl
theorem dU {l:List (List Int)} (h:l.flatten.length<40) (m:Nat):∃t,m≤t∧De (PF 168 31 l) t 5=0:=by
 obtain⟨x0,h1,h2,h3⟩:=vC h
 obtain⟨n,h4,h5⟩:=Yy h1 m
 refine⟨n-1,by omega,?_⟩
 rw[h3,aT,show n-1+1=n by omega,h5 5 (by omega),h2]
noncomputable def uK (l:List (List Int)):Nat:=Classical.epsilon fun K=>∀k,(uR (PF 168 31 l) k).2.2.2<256→k<K
theorem AeC {l:List (List Int)} (h:l.flatten.length<40) {k:Nat} (hk:(uR (PF 168 31 l) k).2.2.2<256):k<uK l:=
 Classical.epsilon_spec (uV (dU h)) k hk
noncomputable def Jz (l:List (List Int)):Nat→Int:=(uR (PF 168 31 l) (CS fun k=>(uR (PF 168 31 l) k).2.2.2<256)).2.2.1
def R0 (xs:List Int) (s:(Nat→Int)×Nat):Nat→(Nat→Int)×Nat
 |0=>s
 |i+1=>Fw (xs.getD i 0) (R0 xs s i)
theorem ZF {x:Int} {f:Nat→Int} {n:Nat} (h:x<3329) (h2:((n:Nat):Int)<256):Fw x (f,n)=(upd f n x,n+1):=by
 unfold Fw;rw[if_pos h,if_pos (by simp only;omega)]
theorem ZG {x:Int} {f:Nat→Int} {n:Nat} (h:x<3329) (h2:¬((n:Nat):Int)<256):Fw x (f,n)=(f,n):=by
 unfold Fw;rw[if_pos h,if_neg (by simp only;omega)]
theorem ZE {x:Int} {f:Nat→Int} {n:Nat} (h:¬x<3329):Fw x (f,n)=(f,n):=by
 unfold Fw;rw[if_neg h]
theorem NK {xs:List Int} {s s':(Nat→Int)×Nat} {t:Nat} {f:Nat→Int} {n:Nat} (h:(f,n)=R0 xs s t) (h2:s'=Fw (xs.getD t 0) (f,n)):s'=R0 xs s (t+1):=by
 show _=Fw _ (R0 xs s t)
 rw[←h];exact h2
theorem Aep {b:List Int} {s r:(Nat→Int)×Nat} (h:3≤b.length) (hc:acc b s=r):acc (b.drop 3) (R0 [ux1 (b.getD 0 0) (b.getD 1 0),ux2 (b.getD 1 0) (b.getD 2 0)] s 2)=r:=(t6 h s).symm.trans hc
theorem AeB {g0 g f:Nat→Int} {k a n:Nat} (hq:(g,a,f,n)=uR g0 k):((Dl 168 g a 504).1,(Dl 168 g a 504).2.1,acc (Dl 168 g a 504).2.2 (f,n))=uR g0 (k+1):=by
 show _=((Dl 168 (uR g0 k).1 (uR g0 k).2.1 504).1,(Dl 168 (uR g0 k).1 (uR g0 k).2.1 504).2.1,acc (Dl 168 (uR g0 k).1 (uR g0 k).2.1 504).2.2 (uR g0 k).2.2)
 rw[←hq]
theorem Agi {g0 g f:Nat→Int} {k a n:Nat} (hq:(g,a,f,n)=uR g0 k):a≤168:=by
 cases k with
 |zero=>have :=congrArg (·.2.1) hq;simp only[uR]at this;omega
 |succ k=>
  have :=congrArg (·.2.1) hq
  have e:(uR g0 (k+1)).2.1=(Dl 168 (uR g0 k).1 (uR g0 k).2.1 504).2.1:=rfl
  simp only[e,jN]at this
  omega
end Go.Sx
namespace Go.Sx.Tryz
open Go.Mi Go.RowKit Go.Sx Go.Proofs
noncomputable section
section
variable (sd:List Int) (bi bj:Int)
def gK:Con:=⟨[lb sd,.v (.int .u8 bi),.v (.int .u8 bj)],[],.ar .u16 256 (Jz [sd,[bi,bj]]),[]⟩
theorem Po (h:sd.length=32):ConOk Tryz.prog 178 (gK sd bi bj):=by
 refine cy 0 Tryz.func178 rfl Tryz.ntmps178 fun hg0 hS=> ?_
 have A7:sd.length≤9223372036854775807:=hS.len 0 rfl
 refine Ae [] 1 hS fun hS=>Ax [(5,AM (Uu [sd,[bi,bj]] (by first |omega|(simp only[List.flatten_cons,List.flatten_nil,List.length_append,List.length_cons,List.length_nil,List.length_take,List.length_drop,List.length_replicate]<;>omega)|(simp<;>omega))) [] [(0,1),(1,2)])] [] 3 hS fun hS=>Ae [] 3 hS fun hS=>Av (Br (Ar (ι:=Nat×(Nat→Int)×Nat×(Nat→Int)×Nat) hg0 hS (fun(k,g,a,f,n)=>(uK [sd,[bi,bj]]-k,[(8,vi (n:Int))],[(0,M1 f),(2,Ob4 g a)],((g,a,f,n)=uR (PF 168 31 [sd,[bi,bj]]) k)∧(∀j,j<k→(uR (PF 168 31 [sd,[bi,bj]]) j).2.2.2<256)∧True)) [6,7] [1] 3 (0,(PF 168 31 [sd,[bi,bj]]),0,fun _=>0,0) [(0,0),(1,1),(2,2)] ⟨rfl,(fun j h=>absurd h (Nat.not_lt_zero j)),trivial⟩ ?_))
 rintro⟨k,g,a,f,n⟩ ac gs ws ⟨hq,hj,_⟩ hS
 refine Av (Ae [] 3 hS fun hS=>AB ((n:Int)<256) hS (fun h1=> ?_) (fun h1=> ?_))
 ·refine BP (Br (Av ?_))
  have ha:=Agi hq
  have hnk:(uR (PF 168 31 [sd,[bi,bj]]) k).2.2.2<256:=by rw[←hq];simp only;omega
  have hk:=AeC (l:=[sd,[bi,bj]]) (by simp only[List.flatten_cons,List.flatten_nil,List.length_append,List.length_cons,List.length_nil];omega) hnk
  refine As [(1,AM (lI g a Ac) [(0,1),(1,2)] [])] [] 3 hS fun hS=>Ab (Br (Ar (ι:=(List Int)×(Nat→Int)×Nat) hg0 hS (fun(b,f2,n2)=>(b.length,[(8,vi (n2:Int)),(9,lb b)],[(0,M1 f2)],(b.length%3=0)∧(acc b (f2,n2)=acc (Dl 168 g a 504).2.2 (f,n))∧True)) [6,7] [1,2] 3 (((Dl 168 g a 504).2.2),f,n) [(0,0),(1,1),(2,2)] ⟨(by rw[Nn]),rfl,trivial⟩ ?_))
  rintro⟨b,f2,n2⟩ ac gs ws ⟨hb,hc,_⟩ hS
  refine Av (Ae [] 3 hS fun hS=>AB ((0:Int)<((b.length:Nat):Int)) hS (fun h2=> ?_) (fun h2=> ?_))
  ·refine BE (Ax [(1,AD 0 b.length),(5,AD 1 b.length),(9,EQ 8),(12,AD 1 b.length),(14,EQ 4),(17,AD 2 b.length),(20,EQ 4)] [49] 3 hS fun hS=>Br (Ar (ι:=Nat×(Nat→Int)×Nat) hg0 hS (fun(t,f3,n3)=>(2-t,[(8,vi (n3:Int)),(51,vi ((t:Nat):Int))],[(0,M1 f3)],(t≤2)∧((f3,n3)=R0 [(C9 .u16 (IntKind.wrap .u16 (b.getD 0 0)) (Bf .u16 (IntKind.wrap .u16 (A6 .u8 (b.getD 1 0) 15)) 8)),(C9 .u16 (IntKind.wrap .u16 (AY .u8 (b.getD 1 0) 4)) (Bf .u16 (IntKind.wrap .u16 (b.getD 2 0)) 4))] (f2,n2) t)∧True)) [6,7,9,49,50] [1,2] 3 (0,f2,n2) [(0,0),(1,1),(2,2)] ⟨Ac,rfl,trivial⟩ ?_))
   rintro⟨t,f3,n3⟩ ac gs ws ⟨ht,hs,_⟩ hS
   refine Ae [] 3 hS fun hS=>Av (AB ((t:Int)<2) hS (fun h3=> ?_) (fun h3=> ?_))
   ·refine BE (Ax [(0,AD t 2)] [] 3 hS fun hS=>Av ?_)
    by_cases h4:([(C9 .u16 (IntKind.wrap .u16 (b.getD 0 0)) (Bf .u16 (IntKind.wrap .u16 (A6 .u8 (b.getD 1 0) 15)) 8)),(C9 .u16 (IntKind.wrap .u16 (AY .u8 (b.getD 1 0) 4)) (Bf .u16 (IntKind.wrap .u16 (b.getD 2 0)) 4))].getD t 0)<3329
    ·refine As [(1,GG h4)] [] 3 hS fun hS=>Ab (AB ((n3:Int)<256) hS (fun h5=> ?_) (fun h5=> ?_))
     ·exact Ax [(2,AD n3 256)] [] 3 hS fun hS=>As [(1,BH n3)] [8] 3 hS fun hS=>BV (As [(0,BH t)] [51] 3 hS fun hS=>Ab (Al hg0 hS (t+1,upd f3 n3 ([(C9 .u16 (IntKind.wrap .u16 (b.getD 0 0)) (Bf .u16 (IntKind.wrap .u16 (A6 .u8 (b.getD 1 0) 15)) 8)),(C9 .u16 (IntKind.wrap .u16 (AY .u8 (b.getD 1 0) 4)) (Bf .u16 (IntKind.wrap .u16 (b.getD 2 0)) 4))].getD t 0),n3+1) [(0,0),(1,1),(2,2)] ⟨Ac,(NK hs (by first |exact(ZF BF BF).symm|exact(ZG BF BF).symm|exact(ZE BF).symm)),trivial⟩))
     ·exact G8 (As [(0,BH t)] [51] 3 hS fun hS=>Ab (Al hg0 hS (t+1,f3,n3) [(0,0),(1,1),(2,2)] ⟨Ac,(NK hs (by first |exact(ZF BF BF).symm|exact(ZG BF BF).symm|exact(ZE BF).symm)),trivial⟩))
    ·exact As [(1,DC h4)] [] 3 hS fun hS=>Ab (Ai hS (G8 (As [(0,BH t)] [51] 3 hS fun hS=>Ab (Al hg0 hS (t+1,f3,n3) [(0,0),(1,1),(2,2)] ⟨Ac,(NK hs (by first |exact(ZF BF BF).symm|exact(ZG BF BF).symm|exact(ZE BF).symm)),trivial⟩))))
   ·have hT:=hS
    obtain rfl:2=t:=by omega
    obtain rfl:(R0 [(C9 .u16 (IntKind.wrap .u16 (b.getD 0 0)) (Bf .u16 (IntKind.wrap .u16 (A6 .u8 (b.getD 1 0) 15)) 8)),(C9 .u16 (IntKind.wrap .u16 (AY .u8 (b.getD 1 0) 4)) (Bf .u16 (IntKind.wrap .u16 (b.getD 2 0)) 4))] (f2,n2) 2).1=f3:=Eq.symm (congrArg (fun z=>z.1) hs)
    obtain rfl:(R0 [(C9 .u16 (IntKind.wrap .u16 (b.getD 0 0)) (Bf .u16 (IntKind.wrap .u16 (A6 .u8 (b.getD 1 0) 15)) 8)),(C9 .u16 (IntKind.wrap .u16 (AY .u8 (b.getD 1 0) 4)) (Bf .u16 (IntKind.wrap .u16 (b.getD 2 0)) 4))] (f2,n2) 2).2=n3:=Eq.symm (congrArg (fun z=>z.2) hs)
    have hS:=hT
    exact Vx (As [(1,O2 3 b.length)] [9] 3 hS fun hS=>Ab (Al hg0 hS (b.drop 3,(R0 [(C9 .u16 (IntKind.wrap .u16 (b.getD 0 0)) (Bf .u16 (IntKind.wrap .u16 (A6 .u8 (b.getD 1 0) 15)) 8)),(C9 .u16 (IntKind.wrap .u16 (AY .u8 (b.getD 1 0) 4)) (Bf .u16 (IntKind.wrap .u16 (b.getD 2 0)) 4))] (f2,n2) 2).1,(R0 [(C9 .u16 (IntKind.wrap .u16 (b.getD 0 0)) (Bf .u16 (IntKind.wrap .u16 (A6 .u8 (b.getD 1 0) 15)) 8)),(C9 .u16 (IntKind.wrap .u16 (AY .u8 (b.getD 1 0) 4)) (Bf .u16 (IntKind.wrap .u16 (b.getD 2 0)) 4))] (f2,n2) 2).2) [(0,0),(1,1),(2,2)] ⟨(by rw[List.length_drop];omega),(Aep Ac hc),trivial⟩ (show(b.drop 3).length<b.length from by rw[List.length_drop];omega)))
  ·have hT:=hS
   have hn:b=[]:=List.eq_nil_of_length_eq_zero Ac
   obtain rfl:[]=b:=Eq.symm hn
   obtain rfl:(acc (Dl 168 g a 504).2.2 (f,n)).1=f2:=Eq.symm (congrArg (fun z=>z.1) ((cZ _).symm.trans hc))
   obtain rfl:(acc (Dl 168 g a 504).2.2 (f,n)).2=n2:=Eq.symm (congrArg (fun z=>z.2) ((cZ _).symm.trans hc))
   have hS:=hT
   exact Vx (Al hg0 hS (k+1,((Dl 168 g a 504).1),(Dl 168 g a 504).2.1,(acc (Dl 168 g a 504).2.2 (f,n)).1,(acc (Dl 168 g a 504).2.2 (f,n)).2) [(0,0),(1,1),(2,2)] ⟨(AeB hq),(A0 hj hnk),trivial⟩)
 ·have hT:=hS
  obtain rfl:=BK (P:=fun k=>(uR (PF 168 31 [sd,[bi,bj]]) k).2.2.2<256) (by rw[←hq];simp only;omega) hj
  obtain rfl:Jz [sd,[bi,bj]]=f:=Eq.symm (congrArg (fun z=>z.2.2.1) hq)
  have hS:=hT
  exact CO (Ae [] 3 hS fun hS=>AR (BW hS))
end
end
end Go.Sx.Tryz
namespace Go.Sx.Tryz
open Go.Mi Go.RowKit Go.Sx Go.Proofs
noncomputable section
def Ob5 (x0:Nat→Int):O:= .ob 214 (chain [.ar .u16 768 x0])
theorem Iv (f:Nat→Int) (i:Nat) (o:List Int):∀k,(D6 f i o k).length=o.length
 |0=>rfl
 |k+1=>by
  show(DI f i o k (D6 f i o k)).length=o.length
  unfold DI
  rw[List.length_set,Iv f i o k]
@[simp] theorem F8 (f:Nat→Int):(Cj f).length=384:=by
 have key:∀i,(EN f i).length=384:=by
  intro i
  induction i with
  |zero=>exact List.length_replicate
  |succ i ih=>exact(Iv f i _ 12).trans ih
 rw[Lb]
 exact key 256
theorem Iw (f:Nat→Int) (i:Nat) (o:List Int):∀k,(EO f i o k).length=o.length
 |0=>rfl
 |k+1=>by
  show(FE f i k (EO f i o k)).length=o.length
  unfold FE
  rw[List.length_set,Iw f i o k]
@[simp] theorem MC (f:Nat→Int):(Fl f).length=320:=by
 have key:∀i,(GY f i).length=320:=by
  intro i
  induction i with
  |zero=>exact List.length_replicate
  |succ i ih=>exact(Iw f i _ 10).trans ih
 rw[QZ]
 exact key 256
theorem Jg (f:Nat→Int) (i:Nat) (o:List Int):∀k,(Fi f i o k).length=o.length
 |0=>rfl
 |k+1=>by
  show(F6 f i k (Fi f i o k)).length=o.length
  unfold F6
  rw[List.length_set,Jg f i o k]
@[simp] theorem N1 (f:Nat→Int):(HF f).length=128:=by
 have key:∀i,(Ig f i).length=128:=by
  intro i
  induction i with
  |zero=>exact List.length_replicate
  |succ i ih=>exact(Jg f i _ 4).trans ih
 rw[Te]
 exact key 256
theorem Jh (f:Nat→Int) (i:Nat) (o:List Int):∀k,(Fj f i o k).length=o.length
 |0=>rfl
 |k+1=>by
  show(F7 f i k (Fj f i o k)).length=o.length
  unfold F7
  rw[List.length_set,Jh f i o k]
@[simp] theorem Xg (f:Nat→Int):(JS f).length=32:=by
 have key:∀i,(Ih f i).length=32:=by
  intro i
  induction i with
  |zero=>exact List.length_replicate
  |succ i ih=>exact(Jh f i _ 1).trans ih
 rw[Tg]
 exact key 256
def Kn (x6:Nat):(Nat→Int)→(Nat→Int):=fun o2_0=>Di o2_0 (x6*256) 256 (SU (fun j=>o2_0 (x6*256+j)))
section
variable (f:Nat→Int)
def Jj (f:Nat→Int):Nat→(Nat→Int)
 |0=>f
 |x6+1=>Kn x6 (Jj f x6)
def Q4:(Nat→Int):=Jj f 3
def Au:(Nat→Int):=AJ (Q4 f)
theorem Y9:Au f=Q4 f:=Ag _
def Zv (z_:(Nat→Int):=Au f):Con:=⟨[.ar .u16 768 f,.v (.func (.func 150) #[] #[])],[],.ar .u16 768 z_,[]⟩
theorem Ji:ConOk Tryz.prog 149 (Zv f):=by
 refine cy 0 Tryz.func149 rfl Tryz.ntmps149 fun hg0 hS=>Ae [] 2 hS fun hS=>Av (Ae [] 2 hS fun hS=>Br (Ar (ι:=Nat×(Nat→Int)) hg0 hS (fun(x6,o2_0)=>(3-x6,[(6,vi ((x6:Nat):Int))],[(0,Ob5 o2_0)],(x6≤3)∧(o2_0=Jj f x6)∧True)) [1,2,4] [1] 2 (0,f) [(0,0),(1,1)] ⟨Ac,rfl,trivial⟩ ?_))
 rintro⟨x6,o2_0⟩ ac gs ws ⟨hx6,hq1,_⟩ hS
 refine Ae [] 2 hS fun hS=>Av (AB ((x6:Int)<3) hS (fun h1=> ?_) (fun h1=> ?_))
 ·exact BE (Ae [] 2 hS fun hS=>As [(3,AD x6 3),(4,GK (.ar .u16 256 (fun j=>o2_0 (x6*256+j))) [(.ar .u16 256 (fun j=>o2_0 (x6*256+j)):D)=(.ar .u16 256 (fun j=>o2_0 (x6*256+j)))] ⟨rfl,trivial⟩),(5,AP (nE (fun j=>o2_0 (x6*256+j)))),(6,AD x6 3)] [] 2 hS fun hS=>BV (As [(0,BH x6)] [6] 2 hS fun hS=>Ab (Al hg0 hS (x6+1,Di o2_0 (x6*256) 256 (SU (fun j=>o2_0 (x6*256+j)))) [(0,0),(1,1)] ⟨Ac,(A3 (st:=Kn) hq1 rfl rfl),trivial⟩)))
 ·have hT:=hS
  obtain rfl:3=x6:=by omega
  obtain rfl:=hq1.symm
  have hS:=hT
  exact CO (Ae [] 2 hS fun hS=>AR (Bi (Y9 ..) hS))
end
def J4 (g:Nat→Int) (x8:Nat):(Nat→Int)→(Nat→Int):=fun o3_0=>Di o3_0 (x8*256) 256 (a8 (fun j=>o3_0 (x8*256+j)) (fun j=>g (x8*256+j)))
section
variable (f g:Nat→Int)
def IG (f g:Nat→Int):Nat→(Nat→Int)
 |0=>f
 |x8+1=>J4 g x8 (IG f g x8)
def Pe:(Nat→Int):=IG f g 3
def Dq:(Nat→Int):=AJ (Pe f g)
theorem X4:Dq f g=Pe f g:=Ag _
def Zi (z_:(Nat→Int):=Dq f g):Con:=⟨[.ar .u16 768 f,.ar .u16 768 g,.v (.func (.func 180) #[] #[])],[],.ar .u16 768 z_,[]⟩
theorem VB:ConOk Tryz.prog 179 (Zi f g):=by
 refine cy 0 Tryz.func179 rfl Tryz.ntmps179 fun hg0 hS=>Ae [] 3 hS fun hS=>Av (Ae [] 3 hS fun hS=>Br (Ar (ι:=Nat×(Nat→Int)) hg0 hS (fun(x8,o3_0)=>(3-x8,[(8,vi ((x8:Nat):Int))],[(0,Ob5 o3_0)],(x8≤3)∧(o3_0=IG f g x8)∧True)) [2,3,4,6] [1,2] 3 (0,f) [(0,0),(1,1),(2,2)] ⟨Ac,rfl,trivial⟩ ?_))
 rintro⟨x8,o3_0⟩ ac gs ws ⟨hx8,hq1,_⟩ hS
 refine Ae [] 3 hS fun hS=>Av (AB ((x8:Int)<3) hS (fun h1=> ?_) (fun h1=> ?_))
 ·exact BE (Ae [] 3 hS fun hS=>As [(3,AD x8 3),(4,GK (.ar .u16 256 (fun j=>o3_0 (x8*256+j))) [(.ar .u16 256 (fun j=>o3_0 (x8*256+j)):D)=(.ar .u16 256 (fun j=>o3_0 (x8*256+j)))] ⟨rfl,trivial⟩),(6,AD x8 3),(7,GK (.ar .u16 256 (fun j=>g (x8*256+j))) [(.ar .u16 256 (fun j=>g (x8*256+j)):D)=(.ar .u16 256 (fun j=>g (x8*256+j)))] ⟨rfl,trivial⟩),(8,ID (AcA (fun j=>o3_0 (x8*256+j)) (fun j=>g (x8*256+j))) [] [] [.ar .u16 256 (fun j=>o3_0 (x8*256+j)),.ar .u16 256 (fun j=>g (x8*256+j))] []),(9,AD x8 3)] [] 3 hS fun hS=>BV (As [(0,BH x8)] [8] 3 hS fun hS=>Ab (Al hg0 hS (x8+1,Di o3_0 (x8*256) 256 (a8 (fun j=>o3_0 (x8*256+j)) (fun j=>g (x8*256+j)))) [(0,0),(1,1),(2,2)] ⟨Ac,(A3 (st:=J4 _) hq1 rfl rfl),trivial⟩)))
 ·have hT:=hS
  obtain rfl:3=x8:=by omega
  obtain rfl:=hq1.symm
  have hS:=hT
  exact CO (Ae [] 3 hS fun hS=>AR (Bi (X4 ..) hS))
def Xm (x10:Nat):(Nat→Int)→(Nat→Int):=fun o4_0=>Bb o4_0 (fun j=>(Dq f g) (x10*256+j))
def Y_ (f g:Nat→Int):Nat→(Nat→Int)
 |0=>fun _=>0
 |x10+1=>Xm f g x10 (Y_ f g x10)
def Abz:(Nat→Int):=Y_ f g 3
def Bw:(Nat→Int):=AJ (Abz f g)
theorem Afh:Bw f g=Abz f g:=Ag _
def Af2 (z_:(Nat→Int):=Bw f g):Con:=⟨[.ar .u16 768 f,.ar .u16 768 g],[],.ar .u16 256 z_,[]⟩
theorem UV:ConOk Tryz.prog 153 (Af2 f g):=by
 refine cy 0 Tryz.func153 rfl Tryz.ntmps153 fun hg0 hS=>Ae [] 3 hS fun hS=>Av (Ax [(0,GK (.ar .u16 768 f) [(.ar .u16 768 f:D)=(.ar .u16 768 f)] ⟨rfl,trivial⟩),(1,GK (.ar .u16 768 g) [(.ar .u16 768 g:D)=(.ar .u16 768 g)] ⟨rfl,trivial⟩),(2,ID (VB f g) [] [] [.ar .u16 768 f,.ar .u16 768 g,.v (.func (.func 180) #[] #[])] [])] [] 3 hS fun hS=>Br (Ar (ι:=Nat×(Nat→Int)) hg0 hS (fun(x10,o4_0)=>(3-x10,[(10,vi ((x10:Nat):Int))],[(2,M1 o4_0)],(x10≤3)∧(o4_0=Y_ f g x10)∧True)) [4,9] [] 3 (0,fun _=>0) [(2,2)] ⟨Ac,rfl,trivial⟩ ?_))
 rintro⟨x10,o4_0⟩ ac gs ws ⟨hx10,hq1,_⟩ hS
 refine Ae [] 3 hS fun hS=>Av (AB ((x10:Int)<3) hS (fun h1=> ?_) (fun h1=> ?_))
 ·exact BE (Ax [(0,AD x10 3)] [6] 4 hS fun hS=>As [(0,GK (.ar .u16 256 o4_0) [(.ar .u16 256 o4_0:D)=(.ar .u16 256 o4_0)] ⟨rfl,trivial⟩),(1,GK (.ar .u16 256 (fun j=>(Dq f g) (x10*256+j))) [(.ar .u16 256 (fun j=>(Dq f g) (x10*256+j)):D)=(.ar .u16 256 (fun j=>(Dq f g) (x10*256+j)))] ⟨rfl,trivial⟩),(2,ID (Ir o4_0 (fun j=>(Dq f g) (x10*256+j))) [] [] [.ar .u16 256 o4_0,.ar .u16 256 (fun j=>(Dq f g) (x10*256+j))] [])] [] 4 hS fun hS=>BV (As [(0,BH x10)] [10] 4 hS fun hS=>Ab (Al hg0 hS (x10+1,Bb o4_0 (fun j=>(Dq f g) (x10*256+j))) [(2,2)] ⟨Ac,(A3 (st:=Xm _ _) hq1 rfl rfl),trivial⟩)))
 ·have hT:=hS
  obtain rfl:3=x10:=by omega
  obtain rfl:=hq1.symm
  have hS:=hT
  exact CO (Ae [] 3 hS fun hS=>AR (Bi (Afh ..) hS))
end
section
variable (f:Nat→Int)
def GT (x8:Nat):(List Int)→(List Int):=fun x2=>x2++(Cj (fun j=>f (x8*256+j)))
def CP (f:Nat→Int):Nat→(List Int)
 |0=>[]
 |x8+1=>GT f x8 (CP f x8)
def Wm:(List Int):=CP f 3
def Cv:(List Int):=AJ (Wm f)
theorem LW:Cv f=Wm f:=Ag _
def sE (z_:(List Int):=Cv f):Con:=⟨[.ar .u16 768 f],[],lb z_,[]⟩
theorem SJ:ConOk Tryz.prog 155 (sE f):=by
 refine cy 0 Tryz.func155 rfl Tryz.ntmps155 fun hg0 hS=>Ae [] 1 hS fun hS=>Av (Ae [] 1 hS fun hS=>Br ?_)
 obtain⟨gs,hS⟩:=hS.nilk 2 5 [.int .u8]
 refine Ar (ι:=Nat×(List Int)) hg0 hS (fun(x8,x2)=>(3-x8,[(8,vi ((x8:Nat):Int))],[(1,.sl 5 [.int .u8] x2)],(x8≤3)∧(x2=CP f x8)∧(x2.length=384*x8)∧True)) [2,7] [] 2 (0,[]) [(1,1)] ⟨Ac,rfl,rfl,trivial⟩ ?_
 rintro⟨x8,x2⟩ ac gs ws ⟨hx8,hq1,p1,_⟩ hS
 refine Ae [] 2 hS fun hS=>Av (AB ((x8:Int)<3) hS (fun h1=> ?_) (fun h1=> ?_))
 ·refine BE (Ax [(0,AD x8 3)] [4] 3 hS fun hS=>Av (As [(0,GK (.ar .u16 256 (fun j=>f (x8*256+j))) [(.ar .u16 256 (fun j=>f (x8*256+j)):D)=(.ar .u16 256 (fun j=>f (x8*256+j)))] ⟨rfl,trivial⟩),(1,ID (Xh (fun j=>f (x8*256+j))) [] [(0,3)] [.ar .u16 256 (fun j=>f (x8*256+j)),vi 12] [])] [] 4 hS fun hS=> ?_))
  have hl:=F8 (fun j=>f (x8*256+j))
  exact Ab (As [(2,FW x2.length ((Cj (fun j=>f (x8*256+j))).length) 1 Ac)] [2] 5 hS fun hS=>BV (As [(0,BH x8)] [8] 5 hS fun hS=>Ab (Al hg0 hS (x8+1,x2++(Cj (fun j=>f (x8*256+j)))) [(1,4)] ⟨Ac,(A3 (st:=GT _) hq1 rfl rfl),(by rw[List.length_append,F8,p1];omega),trivial⟩)))
 ·have hT:=hS
  obtain rfl:3=x8:=by omega
  obtain rfl:=hq1.symm
  have hS:=hT
  refine CO (Ae [2] 2 hS fun hS=>AR ?_)
  obtain⟨gs,hS⟩:=hS.fz 1
  exact Bi (LW ..) hS
end
section
variable (xs:List Int)
def PU (x4:Nat):(Nat→Int)→(Nat→Int):=fun o2_0=>Di o2_0 (x4*256) 256 (DY (xs.drop (384*x4)))
def IT (xs:List Int):Nat→(Nat→Int)
 |0=>fun _=>0
 |x4+1=>PU xs x4 (IT xs x4)
def Z_:(Nat→Int):=IT xs 3
def AS:(Nat→Int):=AJ (Z_ xs)
theorem aA:AS xs=Z_ xs:=Ag _
def z3 (z_:(Nat→Int):=AS xs):Con:=⟨[lb xs],[],.ar .u16 768 z_,[]⟩
theorem LJ (h:1152≤xs.length):ConOk Tryz.prog 192 (z3 xs):=by
 refine cy 0 Tryz.func192 rfl Tryz.ntmps192 fun hg0 hS=> ?_
 have A7:xs.length≤9223372036854775807:=hS.len 0 rfl
 refine Ae [] 1 hS fun hS=>Av (Ae [] 1 hS fun hS=>Br (Ar (ι:=Nat×(Nat→Int)) hg0 hS (fun(x4,o2_0)=>(3-x4,[(4,vi ((x4:Nat):Int))],[(0,Ob5 o2_0)],(x4≤3)∧(o2_0=IT xs x4)∧True)) [0,2] [] 1 (0,fun _=>0) [(0,0)] ⟨Ac,rfl,trivial⟩ ?_))
 rintro⟨x4,o2_0⟩ ac gs ws ⟨hx4,hq1,_⟩ hS
 refine Ae [] 1 hS fun hS=>Av (AB ((x4:Int)<3) hS (fun h1=> ?_) (fun h1=> ?_))
 ·exact BE (Ae [] 1 hS fun hS=>As [(3,HJ 384 x4 (384*x4)),(4,O2 (384*x4) xs.length),(5,AP (VD (xs.drop (384*x4)) (by first |omega|(simp only[List.length_append,List.length_drop,List.length_take,List.length_cons,List.length_nil];omega)))),(6,AD x4 3)] [] 1 hS fun hS=>BV (As [(0,BH x4)] [4] 1 hS fun hS=>Ab (Al hg0 hS (x4+1,Di o2_0 (x4*256) 256 (DY (xs.drop (384*x4)))) [(0,0)] ⟨Ac,(A3 (st:=PU _) hq1 rfl rfl),trivial⟩)))
 ·have hT:=hS
  obtain rfl:3=x4:=by omega
  obtain rfl:=hq1.symm
  have hS:=hT
  exact CO (Ae [] 1 hS fun hS=>AR (Bi (aA ..) hS))
end
section
variable (sd:List Int)
def NZ (n x6:Nat):(Nat→Int)→(Nat→Int):=fun o4_0=>Di o4_0 (x6*256) 256 (CJ sd (IntKind.wrap .u8 ((n+x6:Nat):Int)))
def NA (sd:List Int) (n:Nat):Nat→(Nat→Int)
 |0=>fun _=>0
 |x6+1=>NZ sd n x6 (NA sd n x6)
def WU (n:Nat):(Nat→Int):=NA sd n 3
def Aq (n:Nat):(Nat→Int):=AJ (WU sd n)
theorem nV (n:Nat):Aq sd n=WU sd n:=Ag _
def sN (n:Nat) (z_:(Nat→Int):=Aq sd n):Con:=⟨[lb sd,vi (n:Int)],[],.ar .u16 768 z_,[]⟩
theorem JP (n:Nat) (h:sd.length≤100000000000000) (hn:n≤100):ConOk Tryz.prog 148 (sN sd n):=by
 refine cy 0 Tryz.func148 rfl Tryz.ntmps148 fun hg0 hS=> ?_
 have A7:sd.length≤9223372036854775807:=hS.len 0 rfl
 refine Ae [] 1 hS fun hS=>Av (Ae [] 1 hS fun hS=>Br (Ar (ι:=Nat×(Nat→Int)) hg0 hS (fun(x6,o4_0)=>(3-x6,[(6,vi ((x6:Nat):Int))],[(0,Ob5 o4_0)],(x6≤3)∧(o4_0=NA sd n x6)∧True)) [0,1,4] [] 1 (0,fun _=>0) [(0,0)] ⟨Ac,rfl,trivial⟩ ?_))
 rintro⟨x6,o4_0⟩ ac gs ws ⟨hx6,hq1,_⟩ hS
 refine Ae [] 1 hS fun hS=>Av (AB ((x6:Int)<3) hS (fun h1=> ?_) (fun h1=> ?_))
 ·exact BE (Ae [] 1 hS fun hS=>As [(4,Ek n x6 (n+x6)),(6,AP (WI sd (IntKind.wrap .u8 ((n+x6:Nat):Int)) AE)),(7,AD x6 3)] [] 1 hS fun hS=>BV (As [(0,BH x6)] [6] 1 hS fun hS=>Ab (Al hg0 hS (x6+1,Di o4_0 (x6*256) 256 (CJ sd (IntKind.wrap .u8 ((n+x6:Nat):Int)))) [(0,0)] ⟨Ac,(A3 (st:=NZ _ _) hq1 rfl rfl),trivial⟩)))
 ·have hT:=hS
  obtain rfl:3=x6:=by omega
  obtain rfl:=hq1.symm
  have hS:=hT
  exact CO (Ae [] 1 hS fun hS=>AR (Bi (nV ..) hS))
def Hy (i x10:Nat):(Nat→Int)→(Nat→Int):=fun o6_0=>Di o6_0 (x10*256) 256 (Jz [sd,[(IntKind.wrap .u8 (i:Int)),(IntKind.wrap .u8 (x10:Int))]])
def Gy (sd:List Int) (i:Nat):Nat→(Nat→Int)
 |0=>fun _=>0
 |x10+1=>Hy sd i x10 (Gy sd i x10)
def Kg (i:Nat):(Nat→Int):=Gy sd i 3
def AX (i:Nat):(Nat→Int):=AJ (Kg sd i)
theorem RR (i:Nat):AX sd i=Kg sd i:=Ag _
def RY (i:Nat) (z_:(Nat→Int):=AX sd i):Con:=⟨[lb sd,vi (i:Int),.v (.bool true)],[],.ar .u16 768 z_,[]⟩
theorem QB (i:Nat) (h:sd.length=32) (hi:i≤100):ConOk Tryz.prog 152 (RY sd i):=by
 refine cy 0 Tryz.func152 rfl Tryz.ntmps152 fun hg0 hS=> ?_
 have A7:sd.length≤9223372036854775807:=hS.len 0 rfl
 refine Ae [] 1 hS fun hS=>Av (Ae [] 1 hS fun hS=>Br (Ar (ι:=Nat×(Nat→Int)) hg0 hS (fun(x10,o6_0)=>(3-x10,[(10,vi ((x10:Nat):Int))],[(0,Ob5 o6_0)],(x10≤3)∧(o6_0=Gy sd i x10)∧True)) [0,1,2,6] [] 1 (0,fun _=>0) [(0,0)] ⟨Ac,rfl,trivial⟩ ?_))
 rintro⟨x10,o6_0⟩ ac gs ws ⟨hx10,hq1,_⟩ hS
 refine Ae [] 1 hS fun hS=>Av (AB ((x10:Int)<3) hS (fun h1=> ?_) (fun h1=> ?_))
 ·exact BE (Ae [] 1 hS fun hS=>Ae [] 1 hS fun hS=>Av (Ae [] 1 hS fun hS=>AO hS (Dj [8,9] 1 hS fun hS=>Ab (As [(4,AP (Po sd (IntKind.wrap .u8 (i:Int)) (IntKind.wrap .u8 ((x10:Nat):Int)) (by first |omega|assumption))),(5,AD x10 3)] [] 1 hS fun hS=>BV (As [(0,BH x10)] [10] 1 hS fun hS=>Ab (Al hg0 hS (x10+1,Di o6_0 (x10*256) 256 (Jz [sd,[(IntKind.wrap .u8 (i:Int)),(IntKind.wrap .u8 (x10:Int))]])) [(0,0)] ⟨Ac,(A3 (st:=Hy _ _) hq1 rfl rfl),trivial⟩))))))
 ·have hT:=hS
  obtain rfl:3=x10:=by omega
  obtain rfl:=hq1.symm
  have hS:=hT
  exact CO (Ae [] 1 hS fun hS=>AR (Bi (RR ..) hS))
def GW (i x10:Nat):(Nat→Int)→(Nat→Int):=fun o6_0=>Di o6_0 (x10*256) 256 (Jz [sd,[(IntKind.wrap .u8 (x10:Int)),(IntKind.wrap .u8 (i:Int))]])
def FR (sd:List Int) (i:Nat):Nat→(Nat→Int)
 |0=>fun _=>0
 |x10+1=>GW sd i x10 (FR sd i x10)
def I6 (i:Nat):(Nat→Int):=FR sd i 3
def Co (i:Nat):(Nat→Int):=AJ (I6 sd i)
theorem QC (i:Nat):Co sd i=I6 sd i:=Ag _
def Rq (i:Nat) (z_:(Nat→Int):=Co sd i):Con:=⟨[lb sd,vi (i:Int),.v (.bool false)],[],.ar .u16 768 z_,[]⟩
theorem Oc (i:Nat) (h:sd.length=32) (hi:i≤100):ConOk Tryz.prog 152 (Rq sd i):=by
 refine cy 0 Tryz.func152 rfl Tryz.ntmps152 fun hg0 hS=> ?_
 have A7:sd.length≤9223372036854775807:=hS.len 0 rfl
 refine Ae [] 1 hS fun hS=>Av (Ae [] 1 hS fun hS=>Br (Ar (ι:=Nat×(Nat→Int)) hg0 hS (fun(x10,o6_0)=>(3-x10,[(10,vi ((x10:Nat):Int))],[(0,Ob5 o6_0)],(x10≤3)∧(o6_0=FR sd i x10)∧True)) [0,1,2,6] [] 1 (0,fun _=>0) [(0,0)] ⟨Ac,rfl,trivial⟩ ?_))
 rintro⟨x10,o6_0⟩ ac gs ws ⟨hx10,hq1,_⟩ hS
 refine Ae [] 1 hS fun hS=>Av (AB ((x10:Int)<3) hS (fun h1=> ?_) (fun h1=> ?_))
 ·exact BE (Ae [] 1 hS fun hS=>Ae [] 1 hS fun hS=>Av (Ae [] 1 hS fun hS=>Ai hS (BP (As [(4,AP (Po sd (IntKind.wrap .u8 ((x10:Nat):Int)) (IntKind.wrap .u8 (i:Int)) (by first |omega|assumption))),(5,AD x10 3)] [] 1 hS fun hS=>BV (As [(0,BH x10)] [10] 1 hS fun hS=>Ab (Al hg0 hS (x10+1,Di o6_0 (x10*256) 256 (Jz [sd,[(IntKind.wrap .u8 (x10:Int)),(IntKind.wrap .u8 (i:Int))]])) [(0,0)] ⟨Ac,(A3 (st:=GW _ _) hq1 rfl rfl),trivial⟩))))))
 ·have hT:=hS
  obtain rfl:3=x10:=by omega
  obtain rfl:=hq1.symm
  have hS:=hT
  exact CO (Ae [] 1 hS fun hS=>AR (Bi (QC ..) hS))
end
end
end Go.Sx.Tryz
namespace Go.Sx.Tryz
open Go.Mi Go.RowKit Go.Sx Go.Proofs
noncomputable section
theorem p9 {xs ys:List Int} (h:¬((xs.length:Nat):Int)=((ys.length:Nat):Int)):decide (xs=ys)=false:=decide_eq_false fun e=>h (by rw[e])
theorem p8 {xs ys:List Int} {i:Nat} (h:¬xs.getD i 0=ys.getD i 0):decide (xs=ys)=false:=decide_eq_false fun e=>h (by rw[e])
theorem p7 {xs ys:List Int} (hl:((xs.length:Nat):Int)=((ys.length:Nat):Int)) (h:∀j,j<xs.length→xs.getD j 0=ys.getD j 0):decide (xs=ys)=true:=decide_eq_true (by
 refine List.ext_getElem Ac fun i h1 h2=> ?_
 have :=h i h1
 rwa [List.getD_eq_getElem?_getD,List.getD_eq_getElem?_getD,List.getElem?_eq_getElem h1,List.getElem?_eq_getElem h2]at this)
def TY (xs:List Int):Bool:=(List.range 3).all fun i=>J2 fun j=>AS xs (i*256+j)
theorem aD {xs:List Int} {i:Nat} (hi:i<3) (h:J2 (fun j=>AS xs (i*256+j))=false):TY xs=false:=by
 cases hb:TY xs with
 |false=>rfl
 |true=>
  have :=List.all_eq_true.1 hb i (List.mem_range.2 hi)
  rw[h]at this;cases this
theorem IU {xs:List Int} (h:∀i,i<3→J2 (fun j=>AS xs (i*256+j))=true):TY xs=true:=by
 unfold TY
 rw[List.all_eq_true]
 exact fun i hi=>h i (List.mem_range.1 hi)
def chk (xs:List Int):Nat:=if xs.length=1184 then(if TY xs=true then 0 else 2)else 1
theorem AfJ {xs:List Int} (h:¬((xs.length:Nat):Int)=1184):chk xs=1:=by unfold chk;rw[if_neg Ac]
theorem AfI {xs:List Int} (h:((xs.length:Nat):Int)=1184) (h2:TY xs=false):chk xs=2:=by unfold chk;rw[if_pos Ac,if_neg (by rw[h2];decide)]
theorem AbC {xs:List Int} (h:((xs.length:Nat):Int)=1184) (h2:TY xs=true):chk xs=0:=by unfold chk;rw[if_pos Ac,if_pos h2]
section
variable (xs:List Int)
def Es:Nat:=if xs.length=2400 then(if TY xs=true then(if chk ((xs.take 2336).drop 1152)=0 then(if Bm [(xs.take 2336).drop 1152]=(xs.take 2368).drop 2336 then 0 else 2)else 2)else 2)else 1
def rX (ys:List Int):Con:=⟨[lb xs,lb ys],[],.v (.bool (decide (xs=ys))),[]⟩
theorem dZ (ys:List Int):ConOk Tryz.prog 67 (rX xs ys):=by
 refine cy 0 Tryz.func67 rfl Tryz.ntmps67 fun hg0 hS=> ?_
 have A7:xs.length≤9223372036854775807:=hS.len 0 rfl
 have Be:ys.length≤9223372036854775807:=hS.len 1 rfl
 refine Ae [] 0 hS fun hS=>Av (Ae [] 0 hS fun hS=>Iz (((xs.length:Nat):Int)=((ys.length:Nat):Int)) hS (fun h1=> ?_) (fun h1=> ?_))
 ·exact Ae [] 0 hS fun hS=>AR (Af (C0 rfl (.inr rfl) hS [.v (.bool false)] [] (by show weak _ (.v (.bool (decide (xs=ys))))= .v (.bool (decide (xs=ys)));rw[p9 h1];rfl) trivial))
 ·refine DU (Ae [] 0 hS fun hS=>Br (Ar (ι:=Nat) hg0 hS (fun i=>(xs.length-i,[(13,vi ((i:Nat):Int))],[],(i≤xs.length)∧(∀j,j<i→xs.getD j 0=ys.getD j 0)∧True)) [0,1,12] [] 0 0 [] ⟨Ac,(fun j h=>absurd h (Nat.not_lt_zero j)),trivial⟩ ?_))
  rintro i ac gs ws ⟨hi,pm,_⟩ hS
  refine Ae [] 0 hS fun hS=>Av (AB ((i:Int)<((xs.length:Nat):Int)) hS (fun h2=> ?_) (fun h2=> ?_))
  ·refine BE (Ae [] 0 hS fun hS=>Ax [(2,AD i xs.length),(6,AD i ys.length)] [] 0 hS fun hS=>Iz ((xs.getD i 0)=(ys.getD i 0)) hS (fun h3=> ?_) (fun h3=> ?_))
   ·exact Ae [] 0 hS fun hS=>AR (Aw (Af (Af (Aw (Af (C0 rfl (.inr rfl) hS [.v (.bool false)] [] (by show weak _ (.v (.bool (decide (xs=ys))))= .v (.bool (decide (xs=ys)));rw[p8 h3];rfl) trivial))))))
   ·exact G8 (As [(0,BH i)] [13] 0 hS fun hS=>Ab (Al hg0 hS (i+1) [] ⟨Ac,(A0 pm BF),trivial⟩))
  ·have hT:=hS
   obtain rfl:xs.length=i:=by omega
   have hS:=hT
   exact CO (Ae [] 0 hS fun hS=>AR (C0 rfl (.inr rfl) hS [.v (.bool true)] [] (by show weak _ (.v (.bool (decide (xs=ys))))= .v (.bool (decide (xs=ys)));rw[p7 h1 pm];rfl) trivial))
def Aar (ys:List Int):Con:=⟨[lb xs,lb ys],[],.v (.bool (decide (xs=ys))),[]⟩
theorem Er (ys:List Int):ConOk Tryz.prog 37 (Aar xs ys):=by
 refine cy 0 Tryz.func37 rfl Tryz.ntmps37 fun hg0 hS=> ?_
 have A7:xs.length≤9223372036854775807:=hS.len 0 rfl
 have Be:ys.length≤9223372036854775807:=hS.len 1 rfl
 exact Ae [] 0 hS fun hS=>Ax [(2,AP (dZ xs ys))] [] 0 hS fun hS=>AR (BW hS)
end
theorem AbG {b:Bool} (h:(!b)=true):b=false:=by cases b<;>simp_all
theorem AbF {b:Bool} (h:(!b)=false):b=true:=by cases b<;>simp_all
def Aaz (ek:List Int):Con:=⟨[lb ek],[],vi ((chk ek:Nat):Int),[]⟩
theorem MM (ek:List Int):ConOk Tryz.prog 172 (Aaz ek):=by
 refine cy 0 Tryz.func172 rfl Tryz.ntmps172 fun hg0 hS=> ?_
 have A7:ek.length≤9223372036854775807:=hS.len 0 rfl
 refine Ae [] 0 hS fun hS=>Av (Ae [] 0 hS fun hS=>Iz (((ek.length:Nat):Int)=1184) hS (fun h1=> ?_) (fun h1=> ?_))
 ·exact Ae [] 0 hS fun hS=>AR (Af (C0 rfl (.inr rfl) hS [vi 1] [] (by show weak _ (vi ((chk ek:Nat):Int))=vi ((chk ek:Nat):Int);rw[AfJ h1];rfl) trivial))
 ·refine DU (Ax [(1,AP (LJ ek AE))] [] 0 hS fun hS=>Br (Ar (ι:=Nat) hg0 hS (fun i=>(3-i,[(10,vi ((i:Nat):Int))],[],(i≤3)∧(∀j,j<i→J2 (fun t=>AS ek (j*256+t))=true)∧True)) [9] [] 0 0 [] ⟨Ac,(fun j h=>absurd h (Nat.not_lt_zero j)),trivial⟩ ?_))
  rintro i ac gs ws ⟨hi,pm,_⟩ hS
  refine Ae [] 0 hS fun hS=>Av (AB ((i:Int)<3) hS (fun h2=> ?_) (fun h2=> ?_))
  ·refine BE (Ax [(0,AD i 3)] [4] 1 hS fun hS=>Ax [(0,GK (.ar .u16 256 (fun j=>(AS ek) (i*256+j))) [(.ar .u16 256 (fun j=>(AS ek) (i*256+j)):D)=(.ar .u16 256 (fun j=>(AS ek) (i*256+j)))] ⟨rfl,trivial⟩),(1,AP (nO (fun j=>(AS ek) (i*256+j))))] [] 1 hS fun hS=>NC (!(J2 (fun j=>(AS ek) (i*256+j)))) hS (fun h3=> ?_) (fun h3=> ?_))
   ·exact Ae [] 1 hS fun hS=>AR (Aw (Af (Af (Aw (Af (C0 rfl (.inr rfl) hS [vi 2] [] (by show weak _ (vi ((chk ek:Nat):Int))=vi ((chk ek:Nat):Int);rw[AfI h1 (aD Ac (AbG h3))];rfl) trivial))))))
   ·exact G8 (As [(0,BH i)] [10] 1 hS fun hS=>Ab (Al hg0 hS (i+1) [] ⟨Ac,(A0 pm (AbF BF)),trivial⟩))
  ·have hT:=hS
   obtain rfl:3=i:=by omega
   have hS:=hT
   exact CO (Ae [] 0 hS fun hS=>AR (C0 rfl (.inr rfl) hS [vi 0] [] (by show weak _ (vi ((chk ek:Nat):Int))=vi ((chk ek:Nat):Int);rw[AbC h1 (IU pm)];rfl) trivial))
def iJ (dk:List Int):Con:=⟨[lb dk],[],vi ((Es dk:Nat):Int),[]⟩
theorem Ze (dk:List Int):ConOk Tryz.prog 168 (iJ dk):=by
 refine cy 0 Tryz.func168 rfl Tryz.ntmps168 fun hg0 hS=> ?_
 have A7:dk.length≤9223372036854775807:=hS.len 0 rfl
 refine Ae [] 0 hS fun hS=>Av (Ae [] 0 hS fun hS=>Iz (((dk.length:Nat):Int)=2400) hS (fun h1=> ?_) (fun h1=> ?_))
 ·exact Ae [] 0 hS fun hS=>AR (Af (C0 rfl (.inr rfl) hS [vi 1] [] (by show weak _ (vi ((Es dk:Nat):Int))=vi ((Es dk:Nat):Int);unfold Es;rw[if_neg Ac];rfl) trivial))
 ·refine DU (Ax [(1,AP (LJ dk AE))] [] 0 hS fun hS=>Br (Ar (ι:=Nat) hg0 hS (fun i=>(3-i,[(10,vi ((i:Nat):Int))],[],(i≤3)∧(∀j,j<i→J2 (fun t=>AS dk (j*256+t))=true)∧True)) [0,9] [] 0 0 [] ⟨Ac,(fun j h=>absurd h (Nat.not_lt_zero j)),trivial⟩ ?_))
  rintro i ac gs ws ⟨hi,pm,_⟩ hS
  refine Ae [] 0 hS fun hS=>Av (AB ((i:Int)<3) hS (fun h2=> ?_) (fun h2=> ?_))
  ·refine BE (Ax [(0,AD i 3)] [4] 1 hS fun hS=>Ax [(0,GK (.ar .u16 256 (fun j=>(AS dk) (i*256+j))) [(.ar .u16 256 (fun j=>(AS dk) (i*256+j)):D)=(.ar .u16 256 (fun j=>(AS dk) (i*256+j)))] ⟨rfl,trivial⟩),(1,AP (nO (fun j=>(AS dk) (i*256+j))))] [] 1 hS fun hS=>NC (!(J2 (fun j=>(AS dk) (i*256+j)))) hS (fun h3=> ?_) (fun h3=> ?_))
   ·exact Ae [] 1 hS fun hS=>AR (Aw (Af (Af (Aw (Af (C0 rfl (.inr rfl) hS [vi 2] [] (by show weak _ (vi ((Es dk:Nat):Int))=vi ((Es dk:Nat):Int);unfold Es;rw[if_pos Ac,if_neg (by rw[aD Ac (AbG h3)];decide)];rfl) trivial))))))
   ·exact G8 (As [(0,BH i)] [10] 1 hS fun hS=>Ab (Al hg0 hS (i+1) [] ⟨Ac,(A0 pm (AbF BF)),trivial⟩))
  ·have hT:=hS
   obtain rfl:3=i:=by omega
   have hS:=hT
   refine ML (Av ?_)
   by_cases h4:((chk ((dk.take 2336).drop 1152):Nat):Int)=0
   ·refine As [(1,Rbk 1152 2336 dk.length),(2,AP (MM ((dk.take 2336).drop 1152))),(3,GH h4),(6,Rbk 1152 2336 dk.length),(8,AP (JC [(dk.take 2336).drop 1152] (by first |omega|(simp only[List.flatten_cons,List.flatten_nil,List.length_append,List.length_cons,List.length_nil,List.length_take,List.length_drop,List.length_replicate]<;>omega)|(simp<;>omega)))),(10,Rbk 2336 2368 dk.length),(11,AP (Er (Bm [(dk.take 2336).drop 1152]) ((dk.take 2368).drop 2336)))] [] 0 hS fun hS=>Ab (Iz ((Bm [(dk.take 2336).drop 1152])=((dk.take 2368).drop 2336)) hS (fun h5=> ?_) (fun h5=> ?_))
    ·exact Ae [] 0 hS fun hS=>AR (Af (C0 rfl (.inr rfl) hS [vi 2] [] (by show weak _ (vi ((Es dk:Nat):Int))=vi ((Es dk:Nat):Int);unfold Es;rw[if_pos Ac,if_pos (IU pm),if_pos Ac,if_neg h5];rfl) trivial))
    ·exact BP (Ae [] 0 hS fun hS=>AR (C0 rfl (.inr rfl) hS [vi 0] [] (by show weak _ (vi ((Es dk:Nat):Int))=vi ((Es dk:Nat):Int);unfold Es;rw[if_pos Ac,if_pos (IU pm),if_pos Ac,if_pos h5];rfl) trivial))
   ·exact As [(1,Rbk 1152 2336 dk.length),(2,AP (MM ((dk.take 2336).drop 1152))),(3,Rnt h4)] [] 0 hS fun hS=>Ab (AO hS (Ae [] 0 hS fun hS=>AR (Af (C0 rfl (.inr rfl) hS [vi 2] [] (by show weak _ (vi ((Es dk:Nat):Int))=vi ((Es dk:Nat):Int);unfold Es;rw[if_pos Ac,if_pos (IU pm),if_neg Ac];rfl) trivial))))
end
end Go.Sx.Tryz
namespace Go.Sx.Tryz
open Go.Mi Go.RowKit Go.Sx Go.Proofs
noncomputable section
@[simp] theorem Gq (f:Nat→Int):(Cv f).length=1152:=by
 have key:∀i,(CP f i).length=384*i:=by
  intro i
  induction i with
  |zero=>rfl
  |succ i ih=>
   show(GT f i (CP f i)).length=_
   unfold GT
   rw[List.length_append,F8,ih];omega
 rw[LW]
 exact key 3
theorem cL {xs:List Int} (h:chk xs=0):xs.length=1184:=by
 by_cases e:xs.length=1184
 ·exact e
 ·unfold chk at h;rw[if_neg e]at h;exact absurd h (by decide)
theorem gE {xs:List Int} (h:Es xs=0):xs.length=2400:=by
 by_cases e:xs.length=2400
 ·exact e
 ·unfold Es at h;rw[if_neg e]at h;exact absurd h (by decide)
section
variable (d:List Int)
def S2 (x35:Nat):(Nat→Int)→(Nat→Int):=fun o11_0=>Di o11_0 (x35*256) 256 (Bb (fun j=>o11_0 (x35*256+j)) (Bw (Co ((AC [d,[3]]).take 32) x35) (Au (Aq ((AC [d,[3]]).drop 32) 0))))
def CL (d z:List Int):Nat→(Nat→Int)
 |0=>Au (Aq ((AC [d,[3]]).drop 32) 3)
 |x35+1=>S2 d x35 (CL d z x35)
def YH (z:List Int):(List Int)×(List Int):=([Cv (CL d z 3),(AC [d,[3]]).take 32].flatten,[Cv (Au (Aq ((AC [d,[3]]).drop 32) 0)),[Cv (CL d z 3),(AC [d,[3]]).take 32].flatten,Bm [[Cv (CL d z 3),(AC [d,[3]]).take 32].flatten],z].flatten)
def AG (z:List Int):(List Int)×(List Int):=AJ (YH d z)
theorem YI (z:List Int):AG d z=YH d z:=Ag _
end
theorem HB (d z:List Int) (hz:z.length=32):(AG d z).1.length=1184∧(AG d z).2.length=2400:=by
 have h1:=DZ [d,[3]]
 rw[YI]
 unfold YH
 simp only[List.flatten_cons,List.flatten_nil,List.length_append,List.length_nil,Gq,Kz,List.length_take,h1,hz]
 exact⟨by omega,by omega⟩
section
variable (d z:List Int)
def Ad0 (z_:(List Int)×(List Int):=AG d z):Con:=⟨[lb d,lb z],[],.tu (chain [lb (z_.1),.sk 0,vi 0]),[(0,.sl 5 [.int .u8] (z_.2))]⟩
theorem bH (hd:d.length=32) (hz:z.length=32):ConOk Tryz.prog 115 (Ad0 d z):=by
 refine cy 0 Tryz.func115 rfl Tryz.ntmps115 fun hg0 hS=> ?_
 have A7:d.length≤9223372036854775807:=hS.len 0 rfl
 have Be:z.length≤9223372036854775807:=hS.len 1 rfl
 have hd1:((d.length:Nat):Int)=32:=Ac
 have hz1:((z.length:Nat):Int)=32:=Ac
 refine Ae [] 0 hS fun hS=>Av (Ax [(2,GH hd1),(6,GH hz1)] [] 0 hS fun hS=>Ai hS (BP (Ax [(3,AP (JB [d,[3]] (by first |omega|(simp only[List.flatten_cons,List.flatten_nil,List.length_append,List.length_cons,List.length_nil,List.length_take,List.length_drop,List.length_replicate]<;>omega)|(simp<;>omega))))] [] 0 hS fun hS=>Av ?_)))
 have hl:=DZ [d,[3]]
 refine As [(1,iZ 32 (AC [d,[3]]).length),(3,O2 32 (AC [d,[3]]).length)] [] 0 hS fun hS=>Ab (Ax [(1,AP (JP ((AC [d,[3]]).drop 32) 0 AE Ac)),(2,ID (Ji (Aq ((AC [d,[3]]).drop 32) 0)) [] [] [.ar .u16 768 (Aq ((AC [d,[3]]).drop 32) 0),.v (.func (.func 150) #[] #[])] [])] [10] 1 hS fun hS=>Ax [(1,AP (JP ((AC [d,[3]]).drop 32) 3 AE Ac)),(2,ID (Ji (Aq ((AC [d,[3]]).drop 32) 3)) [] [] [.ar .u16 768 (Aq ((AC [d,[3]]).drop 32) 3),.v (.func (.func 150) #[] #[])] [])] [11] 2 hS fun hS=>Av (Ae [] 2 hS fun hS=>Br (Ar (ι:=Nat×(Nat→Int)) hg0 hS (fun(x35,o11_0)=>(3-x35,[(35,vi ((x35:Nat):Int))],[(1,Ob5 o11_0)],(x35≤3)∧(o11_0=CL d z x35)∧True)) [1,4,5,6,8,10,11] [0] 2 (0,Au (Aq ((AC [d,[3]]).drop 32) 3)) [(0,0),(1,1)] ⟨Ac,rfl,trivial⟩ ?_)))
 rintro⟨x35,o11_0⟩ ac gs ws ⟨hx35,hq1,_⟩ hS
 refine Ae [] 2 hS fun hS=>Av (AB ((x35:Int)<3) hS (fun h1=> ?_) (fun h1=> ?_))
 ·exact BE (Ae [] 2 hS fun hS=>As [(2,AD x35 3),(3,GK (.ar .u16 256 (fun j=>o11_0 (x35*256+j))) [(.ar .u16 256 (fun j=>o11_0 (x35*256+j)):D)=(.ar .u16 256 (fun j=>o11_0 (x35*256+j)))] ⟨rfl,trivial⟩),(6,AP (Oc ((AC [d,[3]]).take 32) x35 AE Ac)),(7,GK (.ar .u16 768 (Au (Aq ((AC [d,[3]]).drop 32) 0))) [(.ar .u16 768 (Au (Aq ((AC [d,[3]]).drop 32) 0)):D)=(.ar .u16 768 (Au (Aq ((AC [d,[3]]).drop 32) 0)))] ⟨rfl,trivial⟩),(8,ID (UV (Co ((AC [d,[3]]).take 32) x35) (Au (Aq ((AC [d,[3]]).drop 32) 0))) [] [] [.ar .u16 768 (Co ((AC [d,[3]]).take 32) x35),.ar .u16 768 (Au (Aq ((AC [d,[3]]).drop 32) 0))] []),(9,ID (Ir (fun j=>o11_0 (x35*256+j)) (Bw (Co ((AC [d,[3]]).take 32) x35) (Au (Aq ((AC [d,[3]]).drop 32) 0)))) [] [] [.ar .u16 256 (fun j=>o11_0 (x35*256+j)),.ar .u16 256 (Bw (Co ((AC [d,[3]]).take 32) x35) (Au (Aq ((AC [d,[3]]).drop 32) 0)))] []),(10,AD x35 3)] [] 2 hS fun hS=>BV (As [(0,BH x35)] [35] 2 hS fun hS=>Ab (Al hg0 hS (x35+1,Di o11_0 (x35*256) 256 (Bb (fun j=>o11_0 (x35*256+j)) (Bw (Co ((AC [d,[3]]).take 32) x35) (Au (Aq ((AC [d,[3]]).drop 32) 0))))) [(0,0),(1,1)] ⟨Ac,(A3 (st:=S2 _) hq1 rfl rfl),trivial⟩)))
 ·have hT:=hS
  obtain rfl:3=x35:=by omega
  obtain rfl:=hq1.symm
  have hS:=hT
  refine ML ?_
  have hb:=Gq (CL d z 3)
  refine As [(0,GK (.ar .u16 768 (CL d z 3)) [(.ar .u16 768 (CL d z 3):D)=(.ar .u16 768 (CL d z 3))] ⟨rfl,trivial⟩),(1,AP (SJ (CL d z 3))),(4,AM (Rj [Cv (CL d z 3),(AC [d,[3]]).take 32] (by first |omega|(simp only[List.flatten_cons,List.flatten_nil,List.length_append,List.length_cons,List.length_nil,List.length_take,List.length_drop,List.length_replicate]<;>omega)|(simp<;>omega))) [] [(0,2)])] [] 3 hS fun hS=>Ej ?_
  have hb2:=Gq (Au (Aq ((AC [d,[3]]).drop 32) 0))
  obtain⟨gs,hS⟩:=hS.fz 2
  refine As [(1,GK (.ar .u16 768 (Au (Aq ((AC [d,[3]]).drop 32) 0))) [(.ar .u16 768 (Au (Aq ((AC [d,[3]]).drop 32) 0)):D)=(.ar .u16 768 (Au (Aq ((AC [d,[3]]).drop 32) 0)))] ⟨rfl,trivial⟩),(2,AP (SJ (Au (Aq ((AC [d,[3]]).drop 32) 0)))),(6,AP (JC [[Cv (CL d z 3),(AC [d,[3]]).take 32].flatten] (by first |omega|(simp only[List.flatten_cons,List.flatten_nil,List.length_append,List.length_cons,List.length_nil,List.length_take,List.length_drop,List.length_replicate]<;>omega)|(simp<;>omega)))),(9,AM (Rj [Cv (Au (Aq ((AC [d,[3]]).drop 32) 0)),[Cv (CL d z 3),(AC [d,[3]]).take 32].flatten,Bm [[Cv (CL d z 3),(AC [d,[3]]).take 32].flatten],z] (by first |omega|(simp only[List.flatten_cons,List.flatten_nil,List.length_append,List.length_cons,List.length_nil,List.length_take,List.length_drop,List.length_replicate]<;>omega)|(simp<;>omega))) [] [(0,3)])] [4] 4 hS fun hS=>DX ?_
  obtain⟨gs,hS⟩:=hS.rx [(0,3)] [4,5,6] [0] 1 hg0
  exact Bi (YI ..) hS
end
section
variable (ek:List Int)
def F5 (r:List Int) (x31:Nat):(List Int)→(List Int):=fun x6=>x6++(Fl (B8 (Bb (fun j=>(Aq r 3) (x31*256+j)) (AL (Bw (AX (ek.drop 1152) x31) (Au (Aq r 0)))))))
def Fh (ek r:List Int):Nat→(List Int)
 |0=>[]
 |x31+1=>F5 ek r x31 (Fh ek r x31)
def ND (m r:List Int):(List Int):=(Fh ek r 3)++(HF (CB (Bb (Bb (AL (Bw (AS ek) (Au (Aq r 0)))) (CJ r 6)) (BZ (BJ m)))))
def DG (m r:List Int):(List Int):=AJ (ND ek m r)
theorem Tc (m r:List Int):DG ek m r=ND ek m r:=Ag _
end
@[simp] theorem Xe (ek m r:List Int):(DG ek m r).length=1088:=by
 have key:∀i,(Fh ek r i).length=320*i:=by
  intro i
  induction i with
  |zero=>rfl
  |succ i ih=>
   show(F5 ek r i (Fh ek r i)).length=_
   unfold F5
   rw[List.length_append,MC,ih];omega
 rw[Tc]
 unfold ND
 rw[List.length_append,N1,key]
section
variable (ek m:List Int)
def iA (r:List Int) (z_:(List Int):=DG ek m r):Con:=⟨[lb ek,lb m,lb r],[],.sk 0,[(0,.sl 5 [.int .u8] z_)]⟩
theorem La (r:List Int) (he:ek.length=1184) (hm:m.length=32) (hr:r.length=32):ConOk Tryz.prog 170 (iA ek m r):=by
 refine cy 0 Tryz.func170 rfl Tryz.ntmps170 fun hg0 hS=> ?_
 have A7:ek.length≤9223372036854775807:=hS.len 0 rfl
 have Be:m.length≤9223372036854775807:=hS.len 1 rfl
 have B2:r.length≤9223372036854775807:=hS.len 2 rfl
 refine Ae [] 0 hS fun hS=>Ax [(1,AP (LJ ek AE)),(3,O2 1152 ek.length)] [7] 1 hS fun hS=>Ax [(1,AP (JP r 0 AE Ac)),(2,ID (Ji (Aq r 0)) [] [] [.ar .u16 768 (Aq r 0),.v (.func (.func 150) #[] #[])] [])] [9] 2 hS fun hS=>Ax [(1,AP (JP r 3 AE Ac))] [10] 3 hS fun hS=>Av (Ae [] 3 hS fun hS=>Br ?_)
 obtain⟨gs,hS⟩:=hS.nilk 6 5 [.int .u8]
 refine Ar (ι:=Nat×(List Int)) hg0 hS (fun(x31,x6)=>(3-x31,[(31,vi ((x31:Nat):Int))],[(3,.sl 5 [.int .u8] x6)],(x31≤3)∧(x6=Fh ek r x31)∧(x6.length=320*x31)∧True)) [1,2,6,7,8,9,30] [0,1] 4 (0,[]) [(0,0),(1,1),(3,3)] ⟨Ac,rfl,rfl,trivial⟩ ?_
 rintro⟨x31,x6⟩ ac gs ws ⟨hx31,hq1,p1,_⟩ hS
 refine Ae [] 4 hS fun hS=>Av (AB ((x31:Int)<3) hS (fun h1=> ?_) (fun h1=> ?_))
 ·refine BE (Ax [(1,AD x31 3)] [12] 5 hS fun hS=>Ax [(0,GK (.ar .u16 256 (fun j=>(Aq r 3) (x31*256+j))) [(.ar .u16 256 (fun j=>(Aq r 3) (x31*256+j)):D)=(.ar .u16 256 (fun j=>(Aq r 3) (x31*256+j)))] ⟨rfl,trivial⟩),(3,AP (QB (ek.drop 1152) x31 AE Ac)),(4,GK (.ar .u16 768 (Au (Aq r 0))) [(.ar .u16 768 (Au (Aq r 0)):D)=(.ar .u16 768 (Au (Aq r 0)))] ⟨rfl,trivial⟩),(5,ID (UV (AX (ek.drop 1152) x31) (Au (Aq r 0))) [] [] [.ar .u16 768 (AX (ek.drop 1152) x31),.ar .u16 768 (Au (Aq r 0))] []),(6,AP (KU (Bw (AX (ek.drop 1152) x31) (Au (Aq r 0))))),(7,ID (Ir (fun j=>(Aq r 3) (x31*256+j)) (AL (Bw (AX (ek.drop 1152) x31) (Au (Aq r 0))))) [] [] [.ar .u16 256 (fun j=>(Aq r 3) (x31*256+j)),.ar .u16 256 (AL (Bw (AX (ek.drop 1152) x31) (Au (Aq r 0))))] [])] [] 5 hS fun hS=>Ax [(0,GK (.ar .u16 256 (Bb (fun j=>(Aq r 3) (x31*256+j)) (AL (Bw (AX (ek.drop 1152) x31) (Au (Aq r 0)))))) [(.ar .u16 256 (Bb (fun j=>(Aq r 3) (x31*256+j)) (AL (Bw (AX (ek.drop 1152) x31) (Au (Aq r 0))))):D)=(.ar .u16 256 (Bb (fun j=>(Aq r 3) (x31*256+j)) (AL (Bw (AX (ek.drop 1152) x31) (Au (Aq r 0))))))] ⟨rfl,trivial⟩),(1,ID (RX (Bb (fun j=>(Aq r 3) (x31*256+j)) (AL (Bw (AX (ek.drop 1152) x31) (Au (Aq r 0)))))) [] [] [.ar .u16 256 (Bb (fun j=>(Aq r 3) (x31*256+j)) (AL (Bw (AX (ek.drop 1152) x31) (Au (Aq r 0))))),vi 10] [])] [] 5 hS fun hS=>Ax [(0,GK (.ar .u16 256 (B8 (Bb (fun j=>(Aq r 3) (x31*256+j)) (AL (Bw (AX (ek.drop 1152) x31) (Au (Aq r 0))))))) [(.ar .u16 256 (B8 (Bb (fun j=>(Aq r 3) (x31*256+j)) (AL (Bw (AX (ek.drop 1152) x31) (Au (Aq r 0)))))):D)=(.ar .u16 256 (B8 (Bb (fun j=>(Aq r 3) (x31*256+j)) (AL (Bw (AX (ek.drop 1152) x31) (Au (Aq r 0)))))))] ⟨rfl,trivial⟩),(1,ID (Xi (B8 (Bb (fun j=>(Aq r 3) (x31*256+j)) (AL (Bw (AX (ek.drop 1152) x31) (Au (Aq r 0))))))) [] [(0,5)] [.ar .u16 256 (B8 (Bb (fun j=>(Aq r 3) (x31*256+j)) (AL (Bw (AX (ek.drop 1152) x31) (Au (Aq r 0)))))),vi 10] [])] [] 6 hS fun hS=> ?_)
  have hl:=MC (B8 (Bb (fun j=>(Aq r 3) (x31*256+j)) (AL (Bw (AX (ek.drop 1152) x31) (Au (Aq r 0))))))
  exact As [(2,FW x6.length ((Fl (B8 (Bb (fun j=>(Aq r 3) (x31*256+j)) (AL (Bw (AX (ek.drop 1152) x31) (Au (Aq r 0))))))).length) 1 Ac)] [6] 7 hS fun hS=>BV (As [(0,BH x31)] [31] 7 hS fun hS=>Ab (Al hg0 hS (x31+1,x6++(Fl (B8 (Bb (fun j=>(Aq r 3) (x31*256+j)) (AL (Bw (AX (ek.drop 1152) x31) (Au (Aq r 0)))))))) [(0,0),(1,1),(3,6)] ⟨Ac,(A3 (st:=F5 _ _) hq1 rfl rfl),(by rw[List.length_append,hl];omega),trivial⟩))
 ·have hT:=hS
  obtain rfl:3=x31:=by omega
  obtain rfl:=hq1.symm
  have hS:=hT
  refine CO (Ax [(1,AP (X6 m (by first |omega|(simp only[List.length_append,List.length_drop,List.length_take,List.length_cons,List.length_nil];omega)))),(2,ID (YT (BJ m)) [] [] [.ar .u16 256 (BJ m),vi 1] [])] [15] 5 hS fun hS=>Ax [(0,GK (.ar .u16 768 (AS ek)) [(.ar .u16 768 (AS ek):D)=(.ar .u16 768 (AS ek))] ⟨rfl,trivial⟩),(1,GK (.ar .u16 768 (Au (Aq r 0))) [(.ar .u16 768 (Au (Aq r 0)):D)=(.ar .u16 768 (Au (Aq r 0)))] ⟨rfl,trivial⟩),(2,ID (UV (AS ek) (Au (Aq r 0))) [] [] [.ar .u16 768 (AS ek),.ar .u16 768 (Au (Aq r 0))] []),(3,AP (KU (Bw (AS ek) (Au (Aq r 0))))),(5,AP (WI r 6 AE)),(6,ID (Ir (AL (Bw (AS ek) (Au (Aq r 0)))) (CJ r 6)) [] [] [.ar .u16 256 (AL (Bw (AS ek) (Au (Aq r 0)))),.ar .u16 256 (CJ r 6)] []),(7,GK (.ar .u16 256 (BZ (BJ m))) [(.ar .u16 256 (BZ (BJ m)):D)=(.ar .u16 256 (BZ (BJ m)))] ⟨rfl,trivial⟩),(8,ID (Ir (Bb (AL (Bw (AS ek) (Au (Aq r 0)))) (CJ r 6)) (BZ (BJ m))) [] [] [.ar .u16 256 (Bb (AL (Bw (AS ek) (Au (Aq r 0)))) (CJ r 6)),.ar .u16 256 (BZ (BJ m))] []),(9,ID (U2 (Bb (Bb (AL (Bw (AS ek) (Au (Aq r 0)))) (CJ r 6)) (BZ (BJ m)))) [] [] [.ar .u16 256 (Bb (Bb (AL (Bw (AS ek) (Au (Aq r 0)))) (CJ r 6)) (BZ (BJ m))),vi 4] [])] [17] 6 hS fun hS=>Ax [(0,GK (.ar .u16 256 (CB (Bb (Bb (AL (Bw (AS ek) (Au (Aq r 0)))) (CJ r 6)) (BZ (BJ m))))) [(.ar .u16 256 (CB (Bb (Bb (AL (Bw (AS ek) (Au (Aq r 0)))) (CJ r 6)) (BZ (BJ m)))):D)=(.ar .u16 256 (CB (Bb (Bb (AL (Bw (AS ek) (Au (Aq r 0)))) (CJ r 6)) (BZ (BJ m)))))] ⟨rfl,trivial⟩),(1,ID (Y2 (CB (Bb (Bb (AL (Bw (AS ek) (Au (Aq r 0)))) (CJ r 6)) (BZ (BJ m))))) [] [(0,6)] [.ar .u16 256 (CB (Bb (Bb (AL (Bw (AS ek) (Au (Aq r 0)))) (CJ r 6)) (BZ (BJ m)))),vi 4] [])] [] 7 hS fun hS=>Av ?_)
  have hl4:=N1 (CB (Bb (Bb (AL (Bw (AS ek) (Au (Aq r 0)))) (CJ r 6)) (BZ (BJ m))))
  refine As [(2,FW ((Fh ek r 3).length) ((HF (CB (Bb (Bb (AL (Bw (AS ek) (Au (Aq r 0)))) (CJ r 6)) (BZ (BJ m))))).length) 1 Ac)] [6] 8 hS fun hS=>DX ?_
  obtain⟨gs,hS⟩:=hS.rx [(0,7)] [6] [0] 1 hg0
  exact Bi (Tc ..) hS
def Xj:(List Int)×(List Int)×Nat:=if((chk ek:Nat):Int)=0 then(if((m.length:Nat):Int)=32 then((AC [m,Bm [ek]]).take 32,DG ek m ((AC [m,Bm [ek]]).drop 32),0)else([],[],1))else([],[],(chk ek))
def Xk:(List Int)×(List Int)×Nat:=AJ (Xj ek m)
theorem Q0:Xk ek m=Xj ek m:=Ag _
def sZ (z_:(List Int)×(List Int)×Nat:=Xk ek m):Con:=⟨[lb ek,lb m],[],.tu (chain [lb (z_.1),.sk 0,vi ((z_.2.2:Nat):Int)]),[(0,.sl 5 [.int .u8] (z_.2.1))]⟩
theorem Aex:ConOk Tryz.prog 144 (sZ ek m):=by
 refine cy 0 Tryz.func144 rfl Tryz.ntmps144 fun hg0 hS=> ?_
 have A7:ek.length≤9223372036854775807:=hS.len 0 rfl
 have Be:m.length≤9223372036854775807:=hS.len 1 rfl
 refine Ae [] 0 hS fun hS=>Av (Ax [(1,AP (MM ek))] [] 0 hS fun hS=>Ae [] 0 hS fun hS=>Iz (((chk ek:Nat):Int)=0) hS (fun h1=> ?_) (fun h1=> ?_))
 ·refine Ae [] 0 hS fun hS=>AR (Af ?_)
  obtain⟨gs,hS⟩:=hS.nilk 5 5 [.int .u8]
  have hS:=hS.wk 4 (lb [])
  exact Bi (.trans (Q0 ..) (if_neg h1)) hS
 ·refine DU (Ae [] 0 hS fun hS=>Iz (((m.length:Nat):Int)=32) hS (fun h2=> ?_) (fun h2=> ?_))
  ·refine Ae [] 0 hS fun hS=>AR (Af ?_)
   obtain⟨gs,hS⟩:=hS.nilk 5 5 [.int .u8]
   have hS:=hS.wk 4 (lb [])
   exact Bi (.trans (Q0 ..) ((if_pos h1).trans (if_neg h2))) hS
  ·refine DU ?_
   have hc:=cL (xs:=ek) Ac
   have hs:=Kz [ek]
   refine As [(3,AP (JC [ek] (by first |omega|(simp only[List.flatten_cons,List.flatten_nil,List.length_append,List.length_cons,List.length_nil,List.length_take,List.length_drop,List.length_replicate]<;>omega)|(simp<;>omega)))),(5,AP (JB [m,Bm [ek]] (by first |omega|(simp only[List.flatten_cons,List.flatten_nil,List.length_append,List.length_cons,List.length_nil,List.length_take,List.length_drop,List.length_replicate]<;>omega)|(simp<;>omega))))] [] 0 hS fun hS=>Ej ?_
   have hl:=DZ [m,Bm [ek]]
   exact As [(1,O1 (E8 none (some 32) (some 32) (AC [m,Bm [ek]]).length (AC [m,Bm [ek]]).length) ⟨by simp only[F3]<;>omega,by simp only[F3]<;>omega,by simp only[F3]<;>omega,by simp,by simp only[bl]<;>omega,by simp only[bl]<;>omega,by simp only[bl]<;>omega⟩),(5,O2 32 (AC [m,Bm [ek]]).length),(6,AM (La ek m ((AC [m,Bm [ek]]).drop 32) AE AE AE) [] [(0,0)])] [] 1 hS fun hS=>DX (Bi (.trans (Q0 ..) ((if_pos h1).trans (if_pos h2))) hS)
def JU:(List Int)×(List Int):=((AC [m,Bm [ek]]).take 32,DG ek m ((AC [m,Bm [ek]]).drop 32))
def Eb:(List Int)×(List Int):=AJ (JU ek m)
theorem NF:Eb ek m=JU ek m:=Ag _
def iE (z_:(List Int)×(List Int):=Eb ek m):Con:=⟨[lb ek,lb m],[],.tu (chain [lb (z_.1),.sk 0,vi 0]),[(0,.sl 5 [.int .u8] (z_.2))]⟩
theorem Y4 (hk:chk ek=0) (hm:m.length=32):ConOk Tryz.prog 144 (iE ek m):=by
 refine cy 0 Tryz.func144 rfl Tryz.ntmps144 fun hg0 hS=> ?_
 have A7:ek.length≤9223372036854775807:=hS.len 0 rfl
 have Be:m.length≤9223372036854775807:=hS.len 1 rfl
 have hk1:((chk ek:Nat):Int)=0:=Ac
 have hm1:((m.length:Nat):Int)=32:=Ac
 refine Ae [] 0 hS fun hS=>Av (Ax [(1,AP (MM ek))] [] 0 hS fun hS=>Ax [(1,GH hk1)] [] 0 hS fun hS=>Ai hS (DU (Ax [(2,GH hm1)] [] 0 hS fun hS=>Ai hS (DU ?_))))
 have hc:=cL (xs:=ek) Ac
 have hs:=Kz [ek]
 refine As [(3,AP (JC [ek] (by first |omega|(simp only[List.flatten_cons,List.flatten_nil,List.length_append,List.length_cons,List.length_nil,List.length_take,List.length_drop,List.length_replicate]<;>omega)|(simp<;>omega)))),(5,AP (JB [m,Bm [ek]] (by first |omega|(simp only[List.flatten_cons,List.flatten_nil,List.length_append,List.length_cons,List.length_nil,List.length_take,List.length_drop,List.length_replicate]<;>omega)|(simp<;>omega))))] [] 0 hS fun hS=>Ej ?_
 have hl:=DZ [m,Bm [ek]]
 exact As [(1,O1 (E8 none (some 32) (some 32) (AC [m,Bm [ek]]).length (AC [m,Bm [ek]]).length) ⟨by simp only[F3]<;>omega,by simp only[F3]<;>omega,by simp only[F3]<;>omega,by simp,by simp only[bl]<;>omega,by simp only[bl]<;>omega,by simp only[bl]<;>omega⟩),(5,O2 32 (AC [m,Bm [ek]]).length),(6,AM (La ek m ((AC [m,Bm [ek]]).drop 32) AE AE AE) [] [(0,0)])] [] 1 hS fun hS=>DX (Bi (NF ..) hS)
end
end
end Go.Sx.Tryz
namespace Go.Sx
open Go.Mi Go.RowKit
theorem E_ (x:Int):IntKind.wrap .u16 x=x%65536:=by
 simp [IntKind.wrap,IntKind.bits,IntKind.signed]
theorem nB {a:Int} (ha:0≤a∧a<256):(BitVec.ofInt 8 a).toNat=a.toNat:=by rw[BitVec.toNat_ofInt];omega
theorem nC {a:Int} (ha:0≤a∧a<65536):(BitVec.ofInt 16 a).toNat=a.toNat:=by rw[BitVec.toNat_ofInt];omega
theorem Agx {a b:Int} (ha:0≤a∧a<256) (hb:0≤b∧b<256):C9 .u8 a b=((a.toNat|||b.toNat:Nat):Int):=by
 have h:a.toNat|||b.toNat<2^8:=Nat.or_lt_two_pow (by omega) (by omega)
 unfold C9
 rw[ER]
 show(((BitVec.ofInt 8 a|||BitVec.ofInt 8 b).toNat:Nat):Int)%256=_
 rw[BitVec.toNat_or,nB ha,nB hb]
 omega
theorem Af9 {a b:Int} (ha:0≤a∧a<65536) (hb:0≤b∧b<65536):C9 .u16 a b=((a.toNat|||b.toNat:Nat):Int):=by
 have h:a.toNat|||b.toNat<2^16:=Nat.or_lt_two_pow (by omega) (by omega)
 unfold C9
 rw[E_]
 show(((BitVec.ofInt 16 a|||BitVec.ofInt 16 b).toNat:Nat):Int)%65536=_
 rw[BitVec.toNat_or,nC ha,nC hb]
 omega
theorem QQ {a:Int} (ha:0≤a) (n:Nat):a.fdiv (2^n)=((a.toNat>>>n:Nat):Int):=by
 obtain⟨m,rfl⟩:=Int.eq_ofNat_of_zero_le ha
 rw[Int.fdiv_eq_ediv_of_nonneg _ (Int.pow_nonneg (by decide)),show(2:Int)^n=((2^n:Nat):Int) by simp,Nat.shiftRight_eq_div_pow]
 rfl
theorem AeF {a:Int} (ha:0≤a) {n:Nat} (hn:n≤8):AY .u8 a ((n:Nat):Int)=((a.toNat>>>n:Nat):Int):=by
 unfold AY
 rw[show min ((n:Nat):Int).toNat (IntKind.bits .u8)=n by simp [IntKind.bits];omega,QQ ha]
theorem AeH {a:Int} (ha:0≤a) {n:Nat} (hn:n≤16):AY .u16 a ((n:Nat):Int)=((a.toNat>>>n:Nat):Int):=by
 unfold AY
 rw[show min ((n:Nat):Int).toNat (IntKind.bits .u16)=n by simp [IntKind.bits];omega,QQ ha]
theorem tU (x n:Nat):x>>>n%2=(x.testBit n).toNat:=by
 rw[Nat.testBit_eq_decide_div_mod_eq,Nat.shiftRight_eq_div_pow]
 rcases Nat.mod_two_eq_zero_or_one (x/2^n)with h|h<;>simp [h]
theorem Afi {x:Int} (hx:0≤x∧x<65536) {k:Nat} (hk:k≤16):A6 .u16 (AY .u16 x ((k:Nat):Int)) 1=((x.toNat.testBit k).toNat:Int):=by
 rw[AeH hx.1 hk]
 have h1:x.toNat>>>k≤x.toNat:=by rw[Nat.shiftRight_eq_div_pow];exact Nat.div_le_self _ _
 have h9:(0:Int)≤((x.toNat>>>k:Nat):Int)∧((x.toNat>>>k:Nat):Int)<65536:=by
  generalize x.toNat>>>k=y at h1⊢
  omega
 unfold A6
 rw[E_]
 show(((BitVec.ofInt 16 _&&&BitVec.ofInt 16 1).toNat:Nat):Int)%65536=_
 rw[BitVec.toNat_and,nC h9,show(BitVec.ofInt 16 1).toNat=1 from rfl,Nat.and_one_is_mod,Int.toNat_natCast,tU]
 cases x.toNat.testBit k<;>rfl
theorem Agu {x:Int} (hx:0≤x∧x<256) {k:Nat} (hk:k≤8):A6 .u8 (AY .u8 x ((k:Nat):Int)) 1=((x.toNat.testBit k).toNat:Int):=by
 rw[AeF hx.1 hk]
 have h1:x.toNat>>>k≤x.toNat:=by rw[Nat.shiftRight_eq_div_pow];exact Nat.div_le_self _ _
 have h9:(0:Int)≤((x.toNat>>>k:Nat):Int)∧((x.toNat>>>k:Nat):Int)<256:=by
  generalize x.toNat>>>k=y at h1⊢
  omega
 unfold A6
 rw[ER]
 show(((BitVec.ofInt 8 _&&&BitVec.ofInt 8 1).toNat:Nat):Int)%256=_
 rw[BitVec.toNat_and,nB h9,show(BitVec.ofInt 8 1).toNat=1 from rfl,Nat.and_one_is_mod,Int.toNat_natCast,tU]
 cases x.toNat.testBit k<;>rfl
theorem TA {a b:Nat} (h:a<b):2^a*2≤2^b:=by
 rw[←Nat.pow_succ];exact Nat.pow_le_pow_right (by decide) h
theorem Agk (b:Bool) {s:Nat} (hs:s<8):Bf .u8 (IntKind.wrap .u8 ((b.toNat:Nat):Int)) ((s:Nat):Int)=((b.toNat*2^s:Nat):Int):=by
 have h2:=TA hs
 unfold Bf
 rw[ER,ER,show min ((s:Nat):Int).toNat (IntKind.bits .u8)=s by simp [IntKind.bits];omega]
 cases b
 ·simp
 ·have e:((2^s:Nat):Int)=(2:Int)^s:=by simp
  simp only[Bool.toNat_true,Nat.one_mul]
  rw[e]
  have :(2:Int)^s<256:=by rw[←e];omega
  have :(0:Int)≤2^s:=by rw[←e];omega
  omega
theorem AeI (b:Bool) {s:Nat} (hs:s<16):Bf .u16 (IntKind.wrap .u16 ((b.toNat:Nat):Int)) ((s:Nat):Int)=((b.toNat*2^s:Nat):Int):=by
 have h2:=TA hs
 unfold Bf
 rw[E_,E_,show min ((s:Nat):Int).toNat (IntKind.bits .u16)=s by simp [IntKind.bits];omega]
 cases b
 ·simp
 ·have e:((2^s:Nat):Int)=(2:Int)^s:=by simp
  simp only[Bool.toNat_true,Nat.one_mul]
  rw[e]
  have :(2:Int)^s<65536:=by rw[←e];omega
  have :(0:Int)≤2^s:=by rw[←e];omega
  omega
theorem jW (b:Bool) (s i:Nat):(b.toNat*2^s).testBit i=(b&&decide (i=s)):=by
 cases b
 ·simp
 ·simp only[Bool.toNat_true,Nat.one_mul,Bool.true_and,Nat.testBit_two_pow]
  by_cases h:s=i
  ·simp [h]
  ·rw[decide_eq_false h,decide_eq_false fun e=>h e.symm]
def By (o:List Int):Prop:=∀x∈o,0≤x∧x<256
theorem By.at {o:List Int} (h:By o) (i:Nat):0≤o.getD i 0∧o.getD i 0<256:=by
 rw[List.getD_eq_getElem?_getD]
 cases e:o[i]? with
 |none=>simp
 |some x=>exact h x (List.mem_of_getElem? e)
def bt (o:List Int) (n:Nat):Bool:=(o.getD (n/8) 0).toNat.testBit (n%8)
def u7 (o:List Int) (n:Nat) (v:Int):List Int:=o.set (n/8) (C9 .u8 (o.getD (n/8) 0) (Bf .u8 (IntKind.wrap .u8 v) ((n%8:Nat):Int)))
theorem u6 (o:List Int) (n:Nat) (v:Int):(u7 o n v).length=o.length:=List.length_set
theorem AbR {o:List Int} (ho:By o) {n:Nat} (hn:n<8*o.length) (b:Bool):By (u7 o n ((b.toNat:Nat):Int))∧∀m,bt (u7 o n ((b.toNat:Nat):Int)) m=(bt o m||(b&&decide (m=n))):=by
 have hm:=Nat.mod_lt n (show 0<8 by decide)
 have h2:=TA hm
 have hv:b.toNat*2^(n%8)<256:=by cases b<;>simp<;>omega
 have hx:=ho.at (n/8)
 have e:C9 .u8 (o.getD (n/8) 0) (Bf .u8 (IntKind.wrap .u8 ((b.toNat:Nat):Int)) ((n%8:Nat):Int))=(((o.getD (n/8) 0).toNat|||b.toNat*2^(n%8):Nat):Int):=by
  rw[Agk b hm,Agx hx ⟨by omega,by omega⟩,Int.toNat_natCast]
 have hr:(o.getD (n/8) 0).toNat|||b.toNat*2^(n%8)<2^8:=Nat.or_lt_two_pow (by omega) (by omega)
 unfold u7
 rw[e]
 refine⟨fun x hx'=> ?_,fun m=> ?_⟩
 ·rcases List.mem_or_eq_of_mem_set hx' with h|h
  ·exact ho x h
  ·rw[h];omega
 ·unfold bt
  rw[List.getD_eq_getElem?_getD,List.getElem?_set]
  by_cases h:n/8=m/8
  ·rw[if_pos h,if_pos (by omega),Option.getD_some,Int.toNat_natCast,Nat.testBit_or,jW,h]
   congr 2
   by_cases e2:m=n
   ·rw[e2,decide_eq_true rfl,decide_eq_true rfl]
   ·rw[decide_eq_false e2,decide_eq_false (by omega)]
  ·rw[if_neg h,←List.getD_eq_getElem?_getD]
   rw[decide_eq_false (by intro e2;rw[e2]at h;exact h rfl)]
   simp
def Yv (o:List Int) (n0:Nat):Nat→Int→Int
 |0,a=>a
 |k+1,a=>C9 .u16 (Yv o n0 k a) (Bf .u16 (IntKind.wrap .u16 (A6 .u8 (AY .u8 (o.getD ((n0+k)/8) 0) (((n0+k)%8:Nat):Int)) 1)) ((k:Nat):Int))
theorem mE {o:List Int} (ho:By o) (n0:Nat):∀k,k≤16→(0≤Yv o n0 k 0∧Yv o n0 k 0<65536)∧∀i,(Yv o n0 k 0).toNat.testBit i=(decide (i<k)&&bt o (n0+i))
 |0,_=>⟨by simp [Yv],fun i=>by simp [Yv]⟩
 |k+1,hk=>by
  obtain⟨h1,h2⟩:=mE ho n0 k (by omega)
  have hm:=Nat.mod_lt (n0+k) (show 0<8 by decide)
  have h3:=TA (show k<16 by omega)
  have e:Yv o n0 (k+1) 0=(((Yv o n0 k 0).toNat|||(bt o (n0+k)).toNat*2^k:Nat):Int):=by
   show C9 .u16 (Yv o n0 k 0) _=_
   rw[Agu (ho.at _) (by omega),AeI _ (by omega)]
   have hv:(bt o (n0+k)).toNat*2^k<65536:=by cases bt o (n0+k)<;>simp<;>omega
   show C9 .u16 (Yv o n0 k 0) (((bt o (n0+k)).toNat*2^k:Nat):Int)=_
   rw[Af9 h1 ⟨by omega,by omega⟩,Int.toNat_natCast]
  have hv:(bt o (n0+k)).toNat*2^k<65536:=by cases bt o (n0+k)<;>simp<;>omega
  have hr:(Yv o n0 k 0).toNat|||(bt o (n0+k)).toNat*2^k<2^16:=Nat.or_lt_two_pow (by omega) (by omega)
  rw[e]
  refine⟨by omega,fun i=> ?_⟩
  rw[Int.toNat_natCast,Nat.testBit_or,h2,jW]
  by_cases hi:i=k
  ·subst hi
   rw[decide_eq_false (Nat.lt_irrefl _),decide_eq_true rfl,decide_eq_true (Nat.lt_succ_self _)]
   simp
  ·rw[decide_eq_false hi]
   by_cases h4:i<k
   ·rw[decide_eq_true h4,decide_eq_true (by omega)];simp
   ·rw[decide_eq_false h4,decide_eq_false (by omega)];simp
end Go.Sx
namespace Go.Sx.Tryz
open Go.Mi Go.RowKit Go.Sx Go.Proofs
noncomputable section
theorem Aa9 (r:Nat) (f:Nat→Int) (a:Nat):∀n,By (Dl r f a n).2.2
 |0=>by rw[←eF];intro x hx;cases hx
 |n+1=>by
  have ih:=Aa9 r f a n
  rw[SH]
  generalize Dl r f a n=q at ih
  obtain⟨g,b,o⟩:=q
  simp only at ih⊢
  have hw:∀z:Int,0≤IntKind.wrap .u8 z∧IntKind.wrap .u8 z<256:=fun z=>by rw[ER];omega
  split
  ·intro x hx
   rcases List.mem_append.1 hx with h|h
   ·exact ih x h
   ·rw[List.mem_singleton.1 h];exact hw _
  ·intro x hx
   rcases List.mem_append.1 hx with h|h
   ·exact ih x h
   ·rw[List.mem_singleton.1 h];exact hw _
theorem dO (l:List (List Int)):By (AC l):=by rw[Py];exact Aa9 _ _ _ _
def xr (f:Nat→Int) (i:Nat):Nat:=(DV (f i) 3329).toNat
theorem ZQ {x:Int} (h:0≤x):0≤DV x 3329∧DV x 3329<3329:=by rw[n9 h];omega
def Wr (f:Nat→Int) (o:List Int) (m:Nat):Prop:=By o∧o.length=384∧∀n,bt o n=(decide (n<m)&&(xr f (n/12)).testBit (n%12))
theorem Afg {f:Nat→Int} (hf:∀i,i<256→0≤f i) {o:List Int} {i k:Nat} (hi:i<256) (hk:k<12) (h:Wr f o (i*12+k)) (x6:List Int):Wr f (DI f i x6 k o) (i*12+k+1):=by
 obtain⟨h1,h2,h3⟩:=h
 have hx:=ZQ (hf i hi)
 have e:DI f i x6 k o=u7 o (i*12+k) (((xr f i).testBit k).toNat:Nat):=by
  show u7 o (i*12+k) (A6 .u16 (AY .u16 (DV (f i) 3329) (k:Int)) 1)=_
  rw[Afi ⟨hx.1,by omega⟩ Ac]
  rfl
 rw[e]
 obtain⟨k1,k2⟩:=AbR h1 (n:=i*12+k) (by rw[h2];omega) ((xr f i).testBit k)
 refine⟨k1,by rw[u6,h2],fun n=> ?_⟩
 rw[k2,h3]
 by_cases hn:n=i*12+k
 ·subst hn
  rw[decide_eq_false (Nat.lt_irrefl _),decide_eq_true rfl,decide_eq_true (Nat.lt_succ_self _),show(i*12+k)/12=i by omega,show(i*12+k)%12=k by omega]
  simp
 ·rw[decide_eq_false hn,Bool.and_false,Bool.or_false]
  by_cases h4:n<i*12+k
  ·rw[decide_eq_true h4,decide_eq_true Ac]
  ·rw[decide_eq_false h4,decide_eq_false Ac]
theorem Abx {f:Nat→Int} (hf:∀i,i<256→0≤f i) {o:List Int} {i:Nat} (hi:i<256) (h:Wr f o (i*12)):∀k,k≤12→Wr f (D6 f i o k) (i*12+k)
 |0,_=>h
 |k+1,hk=>Afg hf hi Ac (Abx hf hi h k Ac) o
theorem Aby {f:Nat→Int} (hf:∀i,i<256→0≤f i):∀i,i≤256→Wr f (EN f i) (i*12)
 |0,_=>by
  refine⟨fun x hx=> ?_,List.length_replicate,fun n=> ?_⟩
  ·have :x=0:=List.eq_of_mem_replicate hx
   omega
  ·have e : (EN f 0).getD (n / 8) 0 = 0 := by
    show(List.replicate 384 (0:Int)).getD (n/8) 0=0
    rw[List.getD_eq_getElem?_getD,List.getElem?_replicate]
    split<;>rfl
   unfold bt
   rw[e]
   simp
 |i+1,hi=>by
  have :=Abx hf (i:=i) Ac (Aby hf i Ac) 12 (Nat.le_refl _)
  rw[show(i+1)*12=i*12+12 by omega]
  exact this
theorem qA {f:Nat→Int} (hf:∀i,i<256→0≤f i):By (Cj f)∧∀n,n<3072→bt (Cj f) n=(xr f (n/12)).testBit (n%12):=by
 rw[Lb]
 obtain⟨h1,_,h3⟩:=Aby hf 256 (Nat.le_refl _)
 exact⟨h1,fun n hn=>by
  have :=h3 n
  rw[decide_eq_true hn,Bool.true_and]at this
  exact this⟩
theorem Aa2 (xs:List Int) (i:Nat) (g:Nat→Int):∀k j,Do xs i g k j=if j=i then Yv xs (i*12) k (g i)else g j
 |0,j=>by
  show g j=_
  by_cases h:j=i
  ·rw[if_pos h,h];rfl
  ·rw[if_neg h]
 |k+1,j=>by
  have ih:=Aa2 xs i g k
  show upd (Do xs i g k) i _ j=_
  unfold upd
  by_cases h:j=i
  ·rw[if_pos h,if_pos h]
   show C9 .u16 (Do xs i g k i) _=C9 .u16 (Yv xs (i*12) k (g i)) _
   rw[ih i,if_pos rfl]
  ·rw[if_neg h,if_neg h,ih j,if_neg h]
theorem Aa3 (xs:List Int):∀n j,EH xs n j=if j<n then Yv xs (j*12) 12 0 else 0
 |0,j=>by rw[if_neg (Nat.not_lt_zero j)];rfl
 |n+1,j=>by
  have ih:=Aa3 xs n
  show Do xs n (EH xs n) 12 j=_
  rw[Aa2]
  by_cases h:j=n
  ·rw[if_pos h,h,ih n,if_neg (Nat.lt_irrefl _),if_pos (Nat.lt_succ_self _)]
  ·rw[if_neg h,ih j]
   by_cases h2:j<n
   ·rw[if_pos h2,if_pos Ac]
   ·rw[if_neg h2,if_neg Ac]
theorem AbO {f:Nat→Int} (hf:∀i,i<256→0≤f i) {xs:List Int} (hx:By xs) (h:∀n,n<384→xs.getD n 0=(Cj f).getD n 0) {j:Nat} (hj:j<256):DY xs j=(xr f j:Nat):=by
 have hb:∀n,n<3072→bt xs n=(xr f (n/12)).testBit (n%12):=fun n hn=>by
  rw[←(qA hf).2 n hn]
  unfold bt
  rw[h (n/8) Ac]
 rw[Pl]
 show EH xs 256 j=_
 rw[Aa3,if_pos hj]
 obtain⟨h1,h2⟩:=mE hx (j*12) 12 Ac
 have hlt:xr f j<2^12:=by have :=ZQ (hf j hj);unfold xr;omega
 have e:(Yv xs (j*12) 12 0).toNat=xr f j:=by
  refine Nat.eq_of_testBit_eq fun i=> ?_
  rw[h2]
  by_cases hi:i<12
  ·rw[decide_eq_true hi,Bool.true_and,hb _ Ac,show(j*12+i)/12=j by omega,show(j*12+i)%12=i by omega]
  ·rw[decide_eq_false hi,Bool.false_and]
   exact(Nat.testBit_lt_two_pow (Nat.lt_of_lt_of_le hlt (Nat.pow_le_pow_right (by decide) Ac))).symm
 omega
theorem lL (xs:List Int) {i j:Nat} (hi:i<3) (hj:j<256):AS xs (i*256+j)=DY (xs.drop (384*i)) j:=by
 have key:∀n,i<n→IT xs n (i*256+j)=DY (xs.drop (384*i)) j:=by
  intro n
  induction n with
  |zero=>exact fun h=>absurd h (Nat.not_lt_zero _)
  |succ n ih=>
   intro h
   show Di (IT xs n) (n*256) 256 (DY (xs.drop (384*n))) (i*256+j)=_
   unfold Di
   by_cases e:i=n
   ·subst e
    rw[show Nat.ble (i*256) (i*256+j)=true by rw[Nat.ble_eq];omega,show Nat.blt (i*256+j) (i*256+256)=true by rw[Nat.blt_eq];omega]
    simp only[Bool.and_self,cond_true]
    rw[show i*256+j-i*256=j by omega]
   ·have : Nat.ble (n * 256) (i * 256 + j) = false := by
     cases hb:Nat.ble (n*256) (i*256+j)with
     |false=>rfl
     |true=>rw[Nat.ble_eq]at hb;omega
    rw[this,Bool.false_and,cond_false]
    exact ih Ac
 rw[aA]
 exact key 3 hi
theorem eK (f:Nat→Int) {i n:Nat} (hi:i<3) (hn:n<384):(Cv f).getD (384*i+n) 0=(Cj fun j=>f (i*256+j)).getD n 0:=by
 have key:∀m,(CP f m).length=384*m∧(i<m→(CP f m).getD (384*i+n) 0=(Cj fun j=>f (i*256+j)).getD n 0):=by
  intro m
  induction m with
  |zero=>exact⟨rfl,fun h=>absurd h (Nat.not_lt_zero _)⟩
  |succ m ih=>
   have e:CP f (m+1)=CP f m++Cj (fun j=>f (m*256+j)):=rfl
   rw[e]
   refine⟨by rw[List.length_append,ih.1,F8];omega,fun h=> ?_⟩
   rw[List.getD_eq_getElem?_getD]
   by_cases e2:i=m
   ·subst e2
    rw[List.getElem?_append_right (by rw[ih.1];omega),ih.1,←List.getD_eq_getElem?_getD,show 384*i+n-384*i=n by omega]
   ·rw[List.getElem?_append_left (by rw[ih.1];omega),←List.getD_eq_getElem?_getD]
    exact ih.2 Ac
 rw[LW]
 exact(key 3).2 hi
theorem eJ {f:Nat→Int} (hf:∀i,i<768→0≤f i):By (Cv f):=by
 have key:∀m,m≤3→By (CP f m):=by
  intro m
  induction m with
  |zero=>exact fun _ x hx=>by cases hx
  |succ m ih=>
   intro hm x hx
   have e:CP f (m+1)=CP f m++Cj (fun j=>f (m*256+j)):=rfl
   rw[e]at hx
   rcases List.mem_append.1 hx with h|h
   ·exact ih Ac x h
   ·exact(qA fun i hi=>hf _ Ac).1 x h
 rw[LW]
 exact key 3 (Nat.le_refl _)
theorem vU {f:Nat→Int} (hf:∀i,i<768→0≤f i) {rest:List Int} (hr:By rest):TY (Cv f++rest)=true:=by
 refine IU fun i hi=>bC fun j hj=> ?_
 rw[lL _ hi hj]
 have hf2:∀j,j<256→0≤f (i*256+j):=fun j hj=>hf _ Ac
 rw[AbO (f:=fun j=>f (i*256+j)) hf2 (fun x hx=> ?_) (fun n hn=> ?_) hj]
 ·have :=(ZQ (hf2 j hj)).2
  unfold xr
  have :=(ZQ (hf2 j hj)).1
  simp only
  omega
 ·rcases List.mem_append.1 (List.mem_of_mem_drop hx)with h|h
  ·exact eJ hf x h
  ·exact hr x h
 ·rw[List.getD_eq_getElem?_getD,List.getElem?_drop,List.getElem?_append_left (by rw[Gq];omega),←List.getD_eq_getElem?_getD]
  exact eK f hi hn
theorem AcB (x:Int):0≤Df x:=by
 rw[Abj];show 0≤IntKind.wrap .u16 _;rw[E_];omega
theorem Aeo (f g:Nat→Int) {j:Nat} (hj:j<256):0≤Bb f g j:=by
 have key:∀n,j<n→0≤RB f g n j:=by
  intro n
  induction n with
  |zero=>exact fun h=>absurd h (Nat.not_lt_zero _)
  |succ n ih=>
   intro h
   show 0≤upd (RB f g n) n (Df _) j
   unfold upd
   split
   ·exact AcB _
   ·exact ih Ac
 rw[AbJ]
 exact key 256 hj
theorem xF (d z:List Int) {k:Nat} (hk:k<768):0≤CL d z 3 k:=by
 have key:∀n,k/256<n→0≤CL d z n k:=by
  intro n
  induction n with
  |zero=>exact fun h=>absurd h (Nat.not_lt_zero _)
  |succ n ih=>
   intro h
   show 0≤Di (CL d z n) (n*256) 256 (Bb _ _) k
   unfold Di
   cases hb:Nat.ble (n*256) k&&Nat.blt k (n*256+256)with
   |true=>
    rw[Bool.and_eq_true,Nat.ble_eq,Nat.blt_eq]at hb
    exact Aeo _ _ Ac
   |false=>
    rw[cond_false]
    refine ih ?_
    have h1:k/256≠n:=fun e=>by
     have h2:Nat.ble (n*256) k=true:=by rw[Nat.ble_eq];omega
     have h3:Nat.blt k (n*256+256)=true:=by rw[Nat.blt_eq];omega
     rw[h2,h3]at hb;cases hb
    omega
 exact key 3 Ac
theorem nY (d z:List Int):chk (AG d z).1=0:=by
 have hl:=DZ [d,[3]]
 have e:(AG d z).1=Cv (CL d z 3)++((AC [d,[3]]).take 32++[]):=by rw[YI];rfl
 rw[e]
 refine AbC ?_ (vU (fun i hi=>xF d z hi) fun x hx=> ?_)
 ·rw[List.length_append,List.length_append,Gq,List.length_take,hl];rfl
 ·rw[List.append_nil]at hx
  exact dO _ x (List.mem_of_mem_take hx)
end
end Go.Sx.Tryz
namespace Go.Sx.Tryz
open Go.Mi Go.RowKit Go.Sx Go.Proofs
noncomputable section
def HK (x0:List Int):O:= .ob 188 (chain [lb x0])
section
variable (xs:List Int)
def Aay:Con:=⟨[lb xs],[],lb xs,[]⟩
theorem Dy (h:xs.length≤100000000000000):ConOk Tryz.prog 81 (Aay xs):=by
 refine cy 0 Tryz.func81 rfl Tryz.ntmps81 fun hg0 hS=> ?_
 have A7:xs.length≤9223372036854775807:=hS.len 0 rfl
 refine Ae [] 0 hS fun hS=>Il ?_
 rcases hS.nilor 0 [.int .u8] xs with⟨hn1,hS⟩|hS
 ·subst hn1
  exact Dj [] 0 hS fun hS=>Ab (AO hS (Ae [] 0 hS fun hS=>AR (Af (BW hS))))
 ·refine Dj [] 0 hS fun hS=>Ab (Ai hS (BP (Ax [(0,Row),(2,FW 0 xs.length 1)] [] 2 hS fun hS=>AR ?_)))
  obtain⟨gs,hS⟩:=hS.fz 1
  exact BW hS
def Hr (n:Nat):Bool:=if((xs.length:Nat):Int)<(n:Int)then false else true
def Cn (n:Nat):Bool:=AJ (Hr xs n)
theorem Hs (n:Nat):Cn xs n=Hr xs n:=Ag _
def r9 (n:Nat):Con:=⟨[.cp 0 0,vi (n:Int)],[(0,HK xs)],lb (xs.take n),[(0,HK (xs.drop n))]⟩
theorem JG (n:Nat) (h:xs.length≤100000000000000) (hk:Cn xs n=true):ConOk Tryz.prog 91 (r9 xs n):=by
 refine cy 1 Tryz.func91 rfl Tryz.ntmps91 fun hg0 hS=>Ae [] 1 hS fun hS=>Av (Ax [(1,iX false [(decide ((n:Int)<0))=false] ⟨decide_eq_false Ac,trivial⟩)] [] 1 hS fun hS=>AB (((xs.length:Nat):Int)<(n:Int)) hS (fun h1=> ?_) (fun h1=> ?_))
 ·have hK:Cn xs n=false:=(Hs xs n).trans (if_pos h1)
  rw[hK]at hk
  cases hk
 ·exact DU (Ae [] 1 hS fun hS=>Ai hS (BP (Ax [(5,iZ n xs.length),(6,AP (Dy (xs.take n) AE))] [] 1 hS fun hS=>Ax [(6,O2 n xs.length)] [] 1 hS fun hS=>Ae [] 1 hS fun hS=>AR (BW hS))))
def Lg (n:Nat):Con:=⟨[.cp 0 0,vi (n:Int)],[(0,HK xs)],.v (.iface 44 (.int .i64 2)),[]⟩
theorem NQ (n:Nat) (h:xs.length≤100000000000000) (hk:Cn xs n=false):GZ Tryz.prog 91 (Lg xs n):=by
 refine Fq rfl (nb:=1) Tryz.func91 rfl rfl Tryz.ntmps91 rfl rfl rfl fun g0 w0 ac gs ws hg0 hS=> ?_
 have hS:=hS.sp
 refine Ae [] 1 hS fun hS=>Av (Ax [(1,iX false [(decide ((n:Int)<0))=false] ⟨decide_eq_false Ac,trivial⟩)] [] 1 hS fun hS=>AB (((xs.length:Nat):Int)<(n:Int)) hS (fun h1=> ?_) (fun h1=> ?_))
 ·exact D1 (E:=E0) mo hZ [] trivial none (fun r hr=>by cases hr) 1 0 (fun _=>[]) (.v (.iface 44 (.int .i64 2))) (by kernel_rfl) trivial hS.st fun ac gs ws pv hS hpv=>AN (Jc rfl hS hpv rfl rfl)
 ·refine DU (Ae [] 1 hS fun hS=>Ai hS (BP (Ax [(5,iZ n xs.length),(6,AP (Dy (xs.take n) AE))] [] 1 hS fun hS=>Ax [(6,O2 n xs.length)] [] 1 hS fun hS=>Ae [] 1 hS fun hS=>AR ?_)))
  have hK:Cn xs n=true:=(Hs xs n).trans (if_neg h1)
  rw[hK]at hk
  cases hk
end
theorem V9 {xs:List Int} {n:Nat} (h:Cn xs n=true):n≤xs.length:=by
 rw[Hs]at h
 unfold Hr at h
 by_cases h2:((xs.length:Nat):Int)<(n:Int)
 ·simp only[h2,if_true]at h
  cases h
 ·omega
theorem Hq {xs:List Int} {n:Nat} (h:¬Cn xs n=true):xs.length<n:=by
 rw[Hs]at h
 unfold Hr at h
 by_cases h2:((xs.length:Nat):Int)<(n:Int)
 ·omega
 ·exact absurd (by first |(rw[if_neg Ac,if_neg h2])|rw[if_neg h2]) h
end
end Go.Sx.Tryz
namespace Go.Sx.Tryz
open Go.Mi Go.RowKit Go.Sx Go.Proofs
noncomputable section
def Qt:Nat→Nat→Int→List Int→Option (Int×List Int)
 |0,_,_,_=>none
 |_+1,_,_,[]=>none
 |k+1,n,v,c::r=>if(128:Int)≤c then Qt k (n+1) (C9 .u64 v (Bf .u64 (IntKind.wrap .u64 (Ee .u8 c 128)) ((7*n:Nat):Int))) r
  else if n=9∧(1:Int)<c then none else if 0<n∧c=0 then none else some (C9 .u64 v (Bf .u64 (IntKind.wrap .u64 (Ee .u8 c 128)) ((7*n:Nat):Int)),r)
section
variable (xs:List Int)
def Iy:Option (Int×List Int):=Qt 10 0 0 xs
def FQ:Bool:=(Iy xs).isSome
def Ad:Int×List Int:=(Iy xs).getD (0,[])
end
theorem I1 (k n:Nat) (v:Int) {xs:List Int} (h:xs.length<1):Qt k n v xs=none:=by
 have :xs=[]:=List.eq_nil_of_length_eq_zero Ac
 subst this
 cases k<;>rfl
theorem CN {i : Nat} (hi : i < 10) (v : Int) {xs : List Int} (h : 1 ≤ xs.length) : Qt (10 - i) i v xs = (if (128 : Int) ≤ (xs.take 1).getD 0 0 then Qt (10 - (i + 1)) (i + 1) (C9 .u64 v (Bf .u64 (IntKind.wrap .u64 (Ee .u8 ((xs.take 1).getD 0 0) 128)) ((7 * i : Nat) : Int))) (xs.drop 1)
  else if i=9∧(1:Int)<(xs.take 1).getD 0 0 then none else if 0<i∧(xs.take 1).getD 0 0=0 then none else some (C9 .u64 v (Bf .u64 (IntKind.wrap .u64 (Ee .u8 ((xs.take 1).getD 0 0) 128)) ((7*i:Nat):Int)),xs.drop 1)):=by
 obtain⟨k,hk⟩:∃k,10-i=k+1:=⟨9-i,by omega⟩
 rw[hk,show 10-(i+1)=k by omega]
 match xs,h with
 |c::r,_=>rfl
theorem Qr {xs:List Int} (h:Iy xs=none):FQ xs=false:=by unfold FQ;rw[h];rfl
theorem IZ {xs:List Int} {z:Int×List Int} (h:Iy xs=some z):FQ xs=true:=by unfold FQ;rw[h];rfl
theorem EJ {xs:List Int} {z:Int×List Int} (h:Iy xs=some z):Ad xs=z:=by unfold Ad;rw[h];rfl
section
variable (xs:List Int)
def AfU:Con:=⟨[.cp 0 0],[(0,HK xs)],.v (.int .u64 ((Ad xs).1)),[(0,HK ((Ad xs).2))]⟩
theorem H7 (h:xs.length≤100000000000000) (hk:FQ xs=true):ConOk Tryz.prog 126 (AfU xs):=by
 refine cy 1 Tryz.func126 rfl Tryz.ntmps126 fun hg0 hS=>Ae [] 1 hS fun hS=>Av (Ae [] 1 hS fun hS=>Br (Ar (ι:=Nat×Int×(List Int)) hg0 hS (fun(i,v,ys)=>(10-i,[(2,.v (.int .u64 v)),(5,vi ((i:Nat):Int))],[(0,HK ys)],(i≤10)∧(ys.length≤100000000000000)∧(Qt (10-i) i v ys=Iy xs)∧True)) [0] [] 1 (0,0,xs) [(0,0)] ⟨Ac,h,rfl,trivial⟩ ?_))
 rintro⟨i,v,ys⟩ ac gs ws ⟨hi,hly,hq,_⟩ hS
 refine Ae [] 1 hS fun hS=>Av (AB ((i:Int)<10) hS (fun h1=> ?_) (fun h1=> ?_))
 ·refine BE (Ae [] 1 hS fun hS=>Av ?_)
  skip
  skip
  by_cases h2:Cn ys 1=true
  ·have hl1:=V9 h2
   have hl2:(ys.take 1).length=1:=by rw[List.length_take];omega
   refine As [(1,AM (JG ys 1 AE h2) [(0,0)] []),(2,AD 0 ((ys.take 1).length))] [] 1 hS fun hS=>Ab (Ax [(5,HJ 7 i (7*i)),(6,EQ (7*i))] [2] 1 hS fun hS=>Av (Br (Ae [] 1 hS fun hS=>AB ((128:Int)≤((ys.take 1).getD 0 0)) hS (fun h3=> ?_) (fun h3=> ?_))))
   ·exact cnc (Kq (by decide) (D7 (Fv (Ab (As [(0,BH i)] [5] 1 hS fun hS=>Ab (Al hg0 hS (i+1,(C9 .u64 v (Bf .u64 (IntKind.wrap .u64 (Ee .u8 ((ys.take 1).getD 0 0) 128)) ((7*i:Nat):Int))),(ys.drop 1)) [(0,0)] ⟨Ac,(by rw[List.length_drop];omega),(hq▸((CN Ac v Ac).trans (if_pos BF)).symm),trivial⟩))))))
   ·refine Il ?_
    by_cases h4:(i:Int)=9
    ·refine As [(1,GG h4)] [] 1 hS fun hS=>Ab (AB ((1:Int)<((ys.take 1).getD 0 0)) hS (fun h5=> ?_) (fun h5=> ?_))
     ·refine BP (AB ((1:Int)<((ys.take 1).getD 0 0)) hS (fun h6=> ?_) (fun h6=> ?_))
      ·have e:Iy xs=none:=hq.symm.trans (by first |exact I1 _ _ _ (Hq BF)|exact rfl|exact(CN Ac v Ac).trans ((if_neg Ac).trans (if_pos Ac))|exact(CN Ac v Ac).trans ((if_neg Ac).trans ((if_neg Ac).trans (if_pos Ac))))
       rw[Qr e]at hk
       cases hk
      ·refine G8 (Ae [2] 1 hS fun hS=>AR (Aw (Af (Af (Aw (Af ?_))))))
       have e:=hq.symm.trans ((CN Ac v Ac).trans ((if_neg Ac).trans ((if_neg Ac).trans (if_neg Ac))))
       have hv:=EJ e
       exact C0 rfl (.inr rfl) hS [.v (.int .u64 (C9 .u64 v (Bf .u64 (IntKind.wrap .u64 (Ee .u8 ((ys.take 1).getD 0 0) 128)) ((7*i:Nat):Int))))] [(0,some (HK (ys.drop 1)))] (by show weak _ (.v (.int .u64 (Ad xs).1))= .v (.int .u64 (Ad xs).1);rw[hv];rfl) (by show DW _ [(0,.ob 188 (chain [lb (Ad xs).2]))] true;rw[hv];exact⟨rfl,trivial⟩)
     ·by_cases h7:(0:Int)<(i:Int)
      ·refine As [(1,GG h7)] [] 1 hS fun hS=>Ab (AB (((ys.take 1).getD 0 0)=0) hS (fun h8=> ?_) (fun h8=> ?_))
       ·have e:Iy xs=none:=hq.symm.trans (by first |exact I1 _ _ _ (Hq BF)|exact rfl|exact(CN Ac v Ac).trans ((if_neg Ac).trans (if_pos Ac))|exact(CN Ac v Ac).trans ((if_neg Ac).trans ((if_neg Ac).trans (if_pos Ac))))
        rw[Qr e]at hk
        cases hk
       ·refine G8 (Ae [2] 1 hS fun hS=>AR (Aw (Af (Af (Aw (Af ?_))))))
        have e:=hq.symm.trans ((CN Ac v Ac).trans ((if_neg Ac).trans ((if_neg Ac).trans (if_neg Ac))))
        have hv:=EJ e
        exact C0 rfl (.inr rfl) hS [.v (.int .u64 (C9 .u64 v (Bf .u64 (IntKind.wrap .u64 (Ee .u8 ((ys.take 1).getD 0 0) 128)) ((7*i:Nat):Int))))] [(0,some (HK (ys.drop 1)))] (by show weak _ (.v (.int .u64 (Ad xs).1))= .v (.int .u64 (Ad xs).1);rw[hv];rfl) (by show DW _ [(0,.ob 188 (chain [lb (Ad xs).2]))] true;rw[hv];exact⟨rfl,trivial⟩)
      ·refine As [(1,DC h7)] [] 1 hS fun hS=>Ab (Ai hS (G8 (Ae [2] 1 hS fun hS=>AR (Aw (Af (Af (Aw (Af ?_))))))))
       have e:=hq.symm.trans ((CN Ac v Ac).trans ((if_neg Ac).trans ((if_neg Ac).trans (if_neg Ac))))
       have hv:=EJ e
       exact C0 rfl (.inr rfl) hS [.v (.int .u64 (C9 .u64 v (Bf .u64 (IntKind.wrap .u64 (Ee .u8 ((ys.take 1).getD 0 0) 128)) ((7*i:Nat):Int))))] [(0,some (HK (ys.drop 1)))] (by show weak _ (.v (.int .u64 (Ad xs).1))= .v (.int .u64 (Ad xs).1);rw[hv];rfl) (by show DW _ [(0,.ob 188 (chain [lb (Ad xs).2]))] true;rw[hv];exact⟨rfl,trivial⟩)
    ·refine As [(1,DC h4)] [] 1 hS fun hS=>Ab (Ai hS ?_)
     by_cases h9:(0:Int)<(i:Int)
     ·refine As [(1,GG h9)] [] 1 hS fun hS=>Ab (AB (((ys.take 1).getD 0 0)=0) hS (fun h10=> ?_) (fun h10=> ?_))
      ·have e:Iy xs=none:=hq.symm.trans (by first |exact I1 _ _ _ (Hq BF)|exact rfl|exact(CN Ac v Ac).trans ((if_neg Ac).trans (if_pos Ac))|exact(CN Ac v Ac).trans ((if_neg Ac).trans ((if_neg Ac).trans (if_pos Ac))))
       rw[Qr e]at hk
       cases hk
      ·refine G8 (Ae [2] 1 hS fun hS=>AR (Aw (Af (Af (Aw (Af ?_))))))
       have e:=hq.symm.trans ((CN Ac v Ac).trans ((if_neg Ac).trans ((if_neg Ac).trans (if_neg Ac))))
       have hv:=EJ e
       exact C0 rfl (.inr rfl) hS [.v (.int .u64 (C9 .u64 v (Bf .u64 (IntKind.wrap .u64 (Ee .u8 ((ys.take 1).getD 0 0) 128)) ((7*i:Nat):Int))))] [(0,some (HK (ys.drop 1)))] (by show weak _ (.v (.int .u64 (Ad xs).1))= .v (.int .u64 (Ad xs).1);rw[hv];rfl) (by show DW _ [(0,.ob 188 (chain [lb (Ad xs).2]))] true;rw[hv];exact⟨rfl,trivial⟩)
     ·refine As [(1,DC h9)] [] 1 hS fun hS=>Ab (Ai hS (G8 (Ae [2] 1 hS fun hS=>AR (Aw (Af (Af (Aw (Af ?_))))))))
      have e:=hq.symm.trans ((CN Ac v Ac).trans ((if_neg Ac).trans ((if_neg Ac).trans (if_neg Ac))))
      have hv:=EJ e
      exact C0 rfl (.inr rfl) hS [.v (.int .u64 (C9 .u64 v (Bf .u64 (IntKind.wrap .u64 (Ee .u8 ((ys.take 1).getD 0 0) 128)) ((7*i:Nat):Int))))] [(0,some (HK (ys.drop 1)))] (by show weak _ (.v (.int .u64 (Ad xs).1))= .v (.int .u64 (Ad xs).1);rw[hv];rfl) (by show DW _ [(0,.ob 188 (chain [lb (Ad xs).2]))] true;rw[hv];exact⟨rfl,trivial⟩)
  ·skip
   skip
   have e:Iy xs=none:=hq.symm.trans (by first |exact I1 _ _ _ (Hq BF)|exact rfl|exact(CN Ac v Ac).trans ((if_neg Ac).trans (if_pos Ac))|exact(CN Ac v Ac).trans ((if_neg Ac).trans ((if_neg Ac).trans (if_pos Ac))))
   rw[Qr e]at hk
   cases hk
 ·have hT:=hS
  obtain rfl:10=i:=by omega
  have hS:=hT
  refine CO ?_
  have e:Iy xs=none:=hq.symm.trans (by first |exact I1 _ _ _ (Hq BF)|exact rfl|exact(CN Ac v Ac).trans ((if_neg Ac).trans (if_pos Ac))|exact(CN Ac v Ac).trans ((if_neg Ac).trans ((if_neg Ac).trans (if_pos Ac))))
  rw[Qr e]at hk
  cases hk
def MN:Con:=⟨[.cp 0 0],[(0,HK xs)],.v (.iface 44 (.int .i64 2)),[]⟩
theorem Md (h:xs.length≤100000000000000) (hk:FQ xs=false):GZ Tryz.prog 126 (MN xs):=by
 refine Fq rfl (nb:=1) Tryz.func126 rfl rfl Tryz.ntmps126 rfl rfl rfl fun g0 w0 ac gs ws hg0 hS=> ?_
 have hS:=hS.sp
 refine Ae [] 1 hS fun hS=>Av (Ae [] 1 hS fun hS=>Br (Ar (ι:=Nat×Int×(List Int)) hg0 hS (fun(i,v,ys)=>(10-i,[(2,.v (.int .u64 v)),(5,vi ((i:Nat):Int))],[(0,HK ys)],(i≤10)∧(ys.length≤100000000000000)∧(Qt (10-i) i v ys=Iy xs)∧True)) [0] [] 1 (0,0,xs) [(0,0)] ⟨Ac,h,rfl,trivial⟩ ?_))
 rintro⟨i,v,ys⟩ ac gs ws ⟨hi,hly,hq,_⟩ hS
 refine Ae [] 1 hS fun hS=>Av (AB ((i:Int)<10) hS (fun h1=> ?_) (fun h1=> ?_))
 ·refine BE (Ae [] 1 hS fun hS=>Av ?_)
  skip
  skip
  by_cases h2:Cn ys 1=true
  ·have hl1:=V9 h2
   have hl2:(ys.take 1).length=1:=by rw[List.length_take];omega
   refine As [(1,AM (JG ys 1 AE h2) [(0,0)] []),(2,AD 0 ((ys.take 1).length))] [] 1 hS fun hS=>Ab (Ax [(5,HJ 7 i (7*i)),(6,EQ (7*i))] [2] 1 hS fun hS=>Av (Br (Ae [] 1 hS fun hS=>AB ((128:Int)≤((ys.take 1).getD 0 0)) hS (fun h3=> ?_) (fun h3=> ?_))))
   ·exact cnc (Kq (by decide) (D7 (Fv (Ab (As [(0,BH i)] [5] 1 hS fun hS=>Ab (Al hg0 hS (i+1,(C9 .u64 v (Bf .u64 (IntKind.wrap .u64 (Ee .u8 ((ys.take 1).getD 0 0) 128)) ((7*i:Nat):Int))),(ys.drop 1)) [(0,0)] ⟨Ac,(by rw[List.length_drop];omega),(hq▸((CN Ac v Ac).trans (if_pos BF)).symm),trivial⟩))))))
   ·refine Il ?_
    by_cases h4:(i:Int)=9
    ·refine As [(1,GG h4)] [] 1 hS fun hS=>Ab (AB ((1:Int)<((ys.take 1).getD 0 0)) hS (fun h5=> ?_) (fun h5=> ?_))
     ·refine BP (AB ((1:Int)<((ys.take 1).getD 0 0)) hS (fun h6=> ?_) (fun h6=> ?_))
      ·exact D1 (E:=E0) mo hZ [] trivial none (fun r hr=>by cases hr) 1 0 (fun _=>[]) (.v (.iface 44 (.int .i64 2))) (by kernel_rfl) trivial hS.st fun ac gs ws pv hS hpv=>Bh (AN (Bh (AN (AN (Bh (AN (Jc rfl hS hpv rfl rfl)))))))
      ·refine G8 (Ae [2] 1 hS fun hS=>AR (Aw (Af (Af (Aw (Af ?_))))))
       have e:=hq.symm.trans ((CN Ac v Ac).trans ((if_neg Ac).trans ((if_neg Ac).trans (if_neg Ac))))
       rw[IZ e]at hk
       cases hk
     ·by_cases h7:(0:Int)<(i:Int)
      ·refine As [(1,GG h7)] [] 1 hS fun hS=>Ab (AB (((ys.take 1).getD 0 0)=0) hS (fun h8=> ?_) (fun h8=> ?_))
       ·exact D1 (E:=E0) mo hZ [] trivial none (fun r hr=>by cases hr) 1 0 (fun _=>[]) (.v (.iface 44 (.int .i64 2))) (by kernel_rfl) trivial hS.st fun ac gs ws pv hS hpv=>Bh (AN (Bh (AN (AN (Bh (AN (Jc rfl hS hpv rfl rfl)))))))
       ·refine G8 (Ae [2] 1 hS fun hS=>AR (Aw (Af (Af (Aw (Af ?_))))))
        have e:=hq.symm.trans ((CN Ac v Ac).trans ((if_neg Ac).trans ((if_neg Ac).trans (if_neg Ac))))
        rw[IZ e]at hk
        cases hk
      ·refine As [(1,DC h7)] [] 1 hS fun hS=>Ab (Ai hS (G8 (Ae [2] 1 hS fun hS=>AR (Aw (Af (Af (Aw (Af ?_))))))))
       have e:=hq.symm.trans ((CN Ac v Ac).trans ((if_neg Ac).trans ((if_neg Ac).trans (if_neg Ac))))
       rw[IZ e]at hk
       cases hk
    ·refine As [(1,DC h4)] [] 1 hS fun hS=>Ab (Ai hS ?_)
     by_cases h9:(0:Int)<(i:Int)
     ·refine As [(1,GG h9)] [] 1 hS fun hS=>Ab (AB (((ys.take 1).getD 0 0)=0) hS (fun h10=> ?_) (fun h10=> ?_))
      ·exact D1 (E:=E0) mo hZ [] trivial none (fun r hr=>by cases hr) 1 0 (fun _=>[]) (.v (.iface 44 (.int .i64 2))) (by kernel_rfl) trivial hS.st fun ac gs ws pv hS hpv=>Bh (AN (Bh (AN (AN (Bh (AN (Jc rfl hS hpv rfl rfl)))))))
      ·refine G8 (Ae [2] 1 hS fun hS=>AR (Aw (Af (Af (Aw (Af ?_))))))
       have e:=hq.symm.trans ((CN Ac v Ac).trans ((if_neg Ac).trans ((if_neg Ac).trans (if_neg Ac))))
       rw[IZ e]at hk
       cases hk
     ·refine As [(1,DC h9)] [] 1 hS fun hS=>Ab (Ai hS (G8 (Ae [2] 1 hS fun hS=>AR (Aw (Af (Af (Aw (Af ?_))))))))
      have e:=hq.symm.trans ((CN Ac v Ac).trans ((if_neg Ac).trans ((if_neg Ac).trans (if_neg Ac))))
      rw[IZ e]at hk
      cases hk
  ·skip
   skip
   exact D1 (E:=E0) mo hZ [] trivial (some ⟨91,(Lg ys 1),[(0,0)],[]⟩) (fun r hr=>by cases hr;exact NQ ys 1 AE (Eu h2)) 1 28 (fun _=>[nd [.cp 0 0,vi 1] [some (HK ys)]]) (.v (.iface 44 (.int .i64 2))) (by kernel_rfl) ⟨rfl,trivial⟩ hS.st fun ac gs ws pv hS hpv=>AN (Bh (AN (AN (Bh (AN (Jc rfl hS hpv rfl rfl))))))
 ·have hT:=hS
  obtain rfl:10=i:=by omega
  have hS:=hT
  exact CO (D1 (E:=E0) mo hZ [] trivial none (fun r hr=>by cases hr) 1 0 (fun _=>[]) (.v (.iface 44 (.int .i64 2))) (by kernel_rfl) trivial hS.st fun ac gs ws pv hS hpv=>Jc rfl hS hpv rfl rfl)
end
end
end Go.Sx.Tryz
namespace Go.Sx.Tryz
open Go.Mi Go.RowKit Go.Sx Go.Proofs
noncomputable section
theorem oC (p q:Int):0≤C9 .u64 p q:=(oB p q).1
theorem a6:∀(k n:Nat) (v:Int) (xs:List Int) (z:Int×List Int),Qt k n v xs=some z→0≤z.1∧z.2.length≤xs.length
 |0,_,_,_,_,h=>by cases h
 |_+1,_,_,[],_,h=>by cases h
 |k+1,n,v,c::r,z,h=>by
  unfold Qt at h
  split at h
  ·have :=a6 k (n+1) _ r z h
   exact⟨this.1,by simp only[List.length_cons];omega⟩
  ·split at h
   ·cases h
   ·split at h
    ·cases h
    ·cases h
     exact⟨oC _ _,by simp⟩
section
variable (xs:List Int)
theorem AW:0≤(Ad xs).1∧(Ad xs).2.length≤xs.length:=by
 unfold Ad
 cases h:Iy xs with
 |none=>exact⟨by simp,by simp⟩
 |some z=>exact a6 _ _ _ _ z h
def IM (m:Nat):Bool:=if FQ xs=true then(if(m:Int)<((Ad xs).1)then false else true)else false
def Ew (m:Nat):Bool:=AJ (IM xs m)
theorem Hh (m:Nat):Ew xs m=IM xs m:=Ag _
def KB (m:Nat):Nat:=if FQ xs=true then 11 else 2
def DD (m:Nat):Nat:=AJ (KB xs m)
theorem KC (m:Nat):DD xs m=KB xs m:=Ag _
def cO (m:Nat):Con:=⟨[.cp 0 0,vi (m:Int)],[(0,HK xs)],vi (((((Ad xs).1).toNat):Nat):Int),[(0,HK ((Ad xs).2))]⟩
theorem PH (m:Nat) (h:xs.length≤100000000000000) (hm:m≤100000000000000) (hk:Ew xs m=true):ConOk Tryz.prog 139 (cO xs m):=by
 refine cy 1 Tryz.func139 rfl Tryz.ntmps139 fun hg0 hS=>Ae [] 1 hS fun hS=>Av (Ax [(1,iX false [(decide ((m:Int)<0))=false] ⟨decide_eq_false Ac,trivial⟩)] [] 1 hS fun hS=>Ai hS (DU ?_))
 by_cases h1:FQ xs=true
 ·refine As [(1,AM (H7 xs AE h1) [(0,0)] [])] [] 1 hS fun hS=>Ej (Ax [(2,XR m)] [] 1 hS fun hS=>AB ((m:Int)<((Ad xs).1)) hS (fun h2=> ?_) (fun h2=> ?_))
  ·have hK:Ew xs m=false:=(Hh xs m).trans ((if_pos h1).trans (if_pos h2))
   rw[hK]at hk
   cases hk
  ·refine DU ?_
   have hnn:=AW xs
   exact As [(1,RN ((((Ad xs).1).toNat:Nat):Int) [IntKind.wrap .i64 ((Ad xs).1)=((((Ad xs).1).toNat:Nat):Int)] ⟨(El Ac Ac).trans Ac,trivial⟩)] [] 1 hS fun hS=>DX (BW hS)
 ·have hK:Ew xs m=false:=(Hh xs m).trans (if_neg h1)
  rw[hK]at hk
  cases hk
def Tu (m:Nat):Con:=⟨[.cp 0 0,vi (m:Int)],[(0,HK xs)],.v (.iface 44 (.int .i64 ((DD xs m:Nat):Int))),[]⟩
theorem Yg (m:Nat) (h:xs.length≤100000000000000) (hm:m≤100000000000000) (hk:Ew xs m=false):GZ Tryz.prog 139 (Tu xs m):=by
 refine Fq rfl (nb:=1) Tryz.func139 rfl rfl Tryz.ntmps139 rfl rfl rfl fun g0 w0 ac gs ws hg0 hS=> ?_
 have hS:=hS.sp
 refine Ae [] 1 hS fun hS=>Av (Ax [(1,iX false [(decide ((m:Int)<0))=false] ⟨decide_eq_false Ac,trivial⟩)] [] 1 hS fun hS=>Ai hS (DU ?_))
 by_cases h1:FQ xs=true
 ·refine As [(1,AM (H7 xs AE h1) [(0,0)] [])] [] 1 hS fun hS=>Ej (Ax [(2,XR m)] [] 1 hS fun hS=>AB ((m:Int)<((Ad xs).1)) hS (fun h2=> ?_) (fun h2=> ?_))
  ·refine D1 (E:=E0) mo hZ [] trivial none (fun r hr=>by cases hr) 1 0 (fun _=>[]) (.v (.iface 44 (.int .i64 11))) (by kernel_rfl) trivial hS.st fun ac gs ws pv hS hpv=>AN ?_
   have hM:DD xs m=11:=(KC xs m).trans (if_pos h1)
   exact Jc rfl hS hpv (by show _=(.v (.iface 44 (.int .i64 ((DD xs m:Nat):Int))):D);rw[hM]<;>rfl) rfl
  ·refine DU ?_
   have hnn:=AW xs
   refine As [(1,RN ((((Ad xs).1).toNat:Nat):Int) [IntKind.wrap .i64 ((Ad xs).1)=((((Ad xs).1).toNat:Nat):Int)] ⟨(El Ac Ac).trans Ac,trivial⟩)] [] 1 hS fun hS=>DX ?_
   have hK:Ew xs m=true:=(Hh xs m).trans ((if_pos h1).trans (if_neg h2))
   rw[hK]at hk
   cases hk
 ·refine D1 (E:=E0) mo hZ [] trivial (some ⟨126,(MN xs),[(0,0)],[]⟩) (fun r hr=>by cases hr;exact Md xs AE (Eu h1)) 1 4 (fun _=>[nd [.cp 0 0] [some (HK xs)]]) (.v (.iface 44 (.int .i64 2))) (by kernel_rfl) ⟨rfl,trivial⟩ hS.st fun ac gs ws pv hS hpv=>AN ?_
  have hM:DD xs m=2:=(KC xs m).trans (if_neg h1)
  exact Jc rfl hS hpv (by show _=(.v (.iface 44 (.int .i64 ((DD xs m:Nat):Int))):D);rw[hM]<;>rfl) rfl
def T2:Bool:=if(0:Int)<((xs.length:Nat):Int)then false else true
def Fc:Bool:=AJ (T2 xs)
theorem Oy:Fc xs=T2 xs:=Ag _
def AdB:Con:=Cq [.cp 0 0] [(0,HK xs)] (.tu (chain []))
theorem Ox (hk:Fc xs=true):ConOk Tryz.prog 90 (AdB xs):=by
 refine cy 1 Tryz.func90 rfl Tryz.ntmps90 fun hg0 hS=>Ae [] 1 hS fun hS=>AB ((0:Int)<((xs.length:Nat):Int)) hS (fun h1=> ?_) (fun h1=> ?_)
 ·have hK:Fc xs=false:=(Oy xs).trans (if_pos h1)
  rw[hK]at hk
  cases hk
 ·exact cnb (fiN hS)
def XE:Con:=⟨[.cp 0 0],[(0,HK xs)],.v (.iface 44 (.int .i64 2)),[]⟩
theorem eC (hk:Fc xs=false):GZ Tryz.prog 90 (XE xs):=by
 refine Fq rfl (nb:=1) Tryz.func90 rfl rfl Tryz.ntmps90 rfl rfl rfl fun g0 w0 ac gs ws hg0 hS=> ?_
 have hS:=hS.sp
 refine Ae [] 1 hS fun hS=>AB ((0:Int)<((xs.length:Nat):Int)) hS (fun h1=> ?_) (fun h1=> ?_)
 ·exact D1 (E:=E0) mo hZ [] trivial none (fun r hr=>by cases hr) 1 0 (fun _=>[]) (.v (.iface 44 (.int .i64 2))) (by kernel_rfl) trivial hS.st fun ac gs ws pv hS hpv=>Jc rfl hS hpv rfl rfl
 ·refine cnb ?_
  have hK:Fc xs=true:=(Oy xs).trans (if_neg h1)
  rw[hK]at hk
  cases hk
def Aah:Con:=⟨[lb xs],[],.cp 0 0,[(0,HK xs)]⟩
theorem Me (h:xs.length≤100000000000000):ConOk Tryz.prog 89 (Aah xs):=by
 refine cy 0 Tryz.func89 rfl Tryz.ntmps89 fun hg0 hS=> ?_
 have A7:xs.length≤9223372036854775807:=hS.len 0 rfl
 exact Ae [] 0 hS fun hS=>Ax [(1,AP (Dy xs AE))] [] 1 hS fun hS=>AR (BW hS)
end
end
end Go.Sx.Tryz
namespace Go.Sx.Tryz
open Go.Mi Go.RowKit Go.Sx Go.Proofs
noncomputable section
section
variable (xs:List Int) (m:Nat)
def Gt:Bool:=if Ew xs m=true then(if Cn ((Ad xs).2) (((Ad xs).1).toNat)=true then true else false)else false
def Bg:Bool:=AJ (Gt xs m)
theorem Fe:Bg xs m=Gt xs m:=Ag _
def H2:Nat:=if Ew xs m=true then 2 else(DD xs m)
def BY:Nat:=AJ (H2 xs m)
theorem H3:BY xs m=H2 xs m:=Ag _
def gT:Con:=⟨[.cp 0 0,vi (m:Int)],[(0,HK xs)],lb (((Ad xs).2).take (((Ad xs).1).toNat)),[(0,HK (((Ad xs).2).drop (((Ad xs).1).toNat)))]⟩
theorem Gs (h:xs.length≤100000000000000) (hm:m≤100000000000000) (hk:Bg xs m=true):ConOk Tryz.prog 102 (gT xs m):=by
 refine cy 1 Tryz.func102 rfl Tryz.ntmps102 fun hg0 hS=>Ae [] 1 hS fun hS=>Av ?_
 have hnn:=AW xs
 by_cases h1:Ew xs m=true
 ·have hnn:=AW xs
  by_cases h2:Cn ((Ad xs).2) (((Ad xs).1).toNat)=true
  ·have hnn:=AW xs
   exact As [(3,AM (PH xs m AE Ac h1) [(0,0)] []),(4,AM (JG ((Ad xs).2) (((Ad xs).1).toNat) AE h2) [(0,0)] [])] [] 1 hS fun hS=>DX (BW hS)
  ·have hnn:=AW xs
   have hK:Bg xs m=false:=(Fe xs m).trans ((if_pos h1).trans (if_neg h2))
   rw[hK]at hk
   cases hk
 ·have hnn:=AW xs
  have hK:Bg xs m=false:=(Fe xs m).trans (if_neg h1)
  rw[hK]at hk
  cases hk
def N6:Con:=⟨[.cp 0 0,vi (m:Int)],[(0,HK xs)],.v (.iface 44 (.int .i64 ((BY xs m:Nat):Int))),[]⟩
theorem T_ (h:xs.length≤100000000000000) (hm:m≤100000000000000) (hk:Bg xs m=false):GZ Tryz.prog 102 (N6 xs m):=by
 refine Fq rfl (nb:=1) Tryz.func102 rfl rfl Tryz.ntmps102 rfl rfl rfl fun g0 w0 ac gs ws hg0 hS=> ?_
 have hS:=hS.sp
 refine Ae [] 1 hS fun hS=>Av ?_
 have hnn:=AW xs
 by_cases h1:Ew xs m=true
 ·have hnn:=AW xs
  by_cases h2:Cn ((Ad xs).2) (((Ad xs).1).toNat)=true
  ·have hnn:=AW xs
   refine As [(3,AM (PH xs m AE Ac h1) [(0,0)] []),(4,AM (JG ((Ad xs).2) (((Ad xs).1).toNat) AE h2) [(0,0)] [])] [] 1 hS fun hS=>DX ?_
   have hK:Bg xs m=true:=(Fe xs m).trans ((if_pos h1).trans (if_pos h2))
   rw[hK]at hk
   cases hk
  ·have hnn:=AW xs
   refine D1 (E:=E0) mo hZ [(3,.call ⟨139,(cO xs m),[(0,0)],[]⟩)] ⟨PH _ _ AE Ac h1,trivial⟩ (some ⟨91,(Lg ((Ad xs).2) (((Ad xs).1).toNat)),[(0,0)],[]⟩) (fun r hr=>by cases hr;exact NQ ((Ad xs).2) (((Ad xs).1).toNat) AE (Eu h2)) 4 32 (fun C=>[ndC C 3,nd [.cp 0 0,vi (((((Ad xs).1).toNat):Nat):Int)] [some (HK ((Ad xs).2))]]) (.v (.iface 44 (.int .i64 2))) (by kernel_rfl) ⟨rfl,rfl,trivial⟩ hS.st fun ac gs ws pv hS hpv=>AN ?_
   have hM:BY xs m=2:=(H3 xs m).trans (if_pos h1)
   exact Jc rfl hS hpv (by show _=(.v (.iface 44 (.int .i64 ((BY xs m:Nat):Int))):D);rw[hM]<;>rfl) rfl
 ·have hnn:=AW xs
  refine D1 (E:=E0) mo hZ [] trivial (some ⟨139,(Tu xs m),[(0,0)],[]⟩) (fun r hr=>by cases hr;exact Yg xs m AE Ac (Eu h1)) 3 48 (fun _=>[nd [.cp 0 0,vi (m:Int)] [some (HK xs)]]) (.v (.iface 44 (.int .i64 ((DD xs m:Nat):Int)))) (by kernel_rfl) ⟨rfl,trivial⟩ hS.st fun ac gs ws pv hS hpv=>AN ?_
  have hM:BY xs m=(DD xs m):=(H3 xs m).trans (if_neg h1)
  exact Jc rfl hS hpv (by show _=(.v (.iface 44 (.int .i64 ((BY xs m:Nat):Int))):D);rw[hM]<;>rfl) rfl
end
end
end Go.Sx.Tryz
namespace Go.Sx.Tryz
open Go.Mi Go.RowKit Go.Sx Go.Proofs
noncomputable section
def dB (x0:Nat):O:= .ob 97 (chain [.sk x0])
def Ob8:O:= .ob 97 (chain [.v (.slice none 0 0)])
section
variable (b xs:List Int)
def rD:Con:=⟨[.cp 0 0,lb xs],[(0,dB 1),(1,.sl 5 [.int .u8] b)],.cp 0 0,[(0,dB 2),(2,.sl 5 [.int .u8] (b++xs))]⟩
theorem F_ (hb:b.length≤100000000000) (hx:xs.length≤10000000000):ConOk Tryz.prog 53 (rD b xs):=by
 refine cy 2 Tryz.func53 rfl Tryz.ntmps53 fun hg0 hS=> ?_
 have Be:xs.length≤9223372036854775807:=hS.len 1 rfl
 have KX:b.length≤9223372036854775807:=hS.lens 1 rfl
 exact Ae [] 2 hS fun hS=>Av (Ae [] 2 hS fun hS=>AO hS (As [(6,FW b.length xs.length 1 Ac)] [] 3 hS fun hS=>Ab (Ae [] 3 hS fun hS=>AR (BW hS))))
end
def Ak (n:Nat):List Int:=if 128≤n then C9 .u8 (IntKind.wrap .u8 (n:Int)) 128::Ak (n/128)else[IntKind.wrap .u8 (n:Int)]
termination_by n
decreasing_by omega
theorem Nv {n:Nat} (h:128≤n):Ak n=C9 .u8 (IntKind.wrap .u8 (n:Int)) 128::Ak (n/128):=by rw[Ak,if_pos h]
theorem Qs {n:Nat} (h:¬128≤n):Ak n=[IntKind.wrap .u8 (n:Int)]:=by rw[Ak,if_neg h]
theorem WC:∀(k n:Nat),n<128^(k+1)→(Ak n).length≤k+1
 |0,n,h=>by rw[Qs Ac];simp
 |k+1,n,h=>by
  by_cases h1:128≤n
  ·rw[Nv h1,List.length_cons]
   have :=WC k (n/128) (by rw[Nat.pow_succ]at h;exact Nat.div_lt_of_lt_mul Ac)
   omega
  ·rw[Qs h1];simp
theorem AH {n:Nat} (h:n<18446744073709551616):(Ak n).length≤10:=WC 9 n (Nat.lt_trans h (by decide))
theorem AeG {m:Nat}:AY .u64 (m:Int) 7=((m/128:Nat):Int):=by
 unfold AY
 rw[show min (7:Int).toNat (IntKind.bits .u64)=7 from rfl,QQ Ac,Int.toNat_natCast,Nat.shiftRight_eq_div_pow]
section
variable (b:List Int) (n:Nat)
def Adl:Con:=⟨[.cp 0 0,.v (.int .u64 (n:Int))],[(0,dB 1),(1,.sl 5 [.int .u8] b)],.cp 0 0,[(0,dB 2),(2,.sl 5 [.int .u8] (b++Ak n))]⟩
theorem HN (hb:b.length≤90000000000) (hn:n<18446744073709551616):ConOk Tryz.prog 47 (Adl b n):=by
 refine cy 2 Tryz.func47 rfl Tryz.ntmps47 fun hg0 hS=> ?_
 have KX:b.length≤9223372036854775807:=hS.lens 1 rfl
 refine Ae [] 2 hS fun hS=>Av (Br ?_)
 obtain⟨gs,hS⟩:=hS.alias 1
 refine Ar (ι:=Nat×(List Int)) hg0 hS (fun(m,o)=>(m,[(1,.v (.int .u64 ((m:Nat):Int)))],[(2,.sl 5 [.int .u8] o)],(m<18446744073709551616)∧(o.length+(Ak m).length=b.length+(Ak n).length)∧(o++Ak m=b++Ak n)∧True)) [0,4] [0] 3 (n,b) [(0,0),(1,1),(2,2)] ⟨hn,rfl,rfl,trivial⟩ ?_
 rintro⟨m,o⟩ ac gs ws ⟨hm,hol,hq,_⟩ hS
 refine Av (Ae [] 3 hS fun hS=>AB ((128:Int)≤(m:Int)) hS (fun h1=> ?_) (fun h1=> ?_))
 ·refine BE ?_
  have h10:=AH hn
  exact As [(5,AM (F_ o [(C9 .u8 (IntKind.wrap .u8 (m:Int)) 128)] AE AE) [(0,0),(1,2)] [(2,3)])] [] 4 hS fun hS=>BV (As [(1,RN ((m/128:Nat):Int) [AY .u64 (m:Int) 7=((m/128:Nat):Int),(0:Int)≤7] ⟨AeG,by omega,trivial⟩)] [1] 4 hS fun hS=>Ab (Al hg0 hS (m/128,(o++[(C9 .u8 (IntKind.wrap .u8 (m:Int)) 128)])) [(0,0),(1,1),(2,3)] ⟨Ac,(by rw[List.length_append,←hol,Nv (n:=m) Ac];simp only[List.length_cons,List.length_nil];omega),(by rw[List.append_assoc,←hq,Nv (n:=m) Ac];rfl),trivial⟩ (show m/128<m from by omega)))
 ·have hT:=hS
  have hS:=hT
  refine ML ?_
  have h10:=AH hn
  have e:o++[IntKind.wrap .u8 (m:Int)]=b++Ak n:=by rw[←hq,Qs Ac]
  refine As [(4,AM (F_ o [(IntKind.wrap .u8 (m:Int))] AE AE) [(0,0),(1,2)] [(2,3)])] [] 4 hS fun hS=>DX ?_
  obtain⟨gs,hS⟩:=hS.rx [(0,0),(1,1),(2,3)] [4] [0,2] 3 hg0
  exact C0 rfl (.inr rfl) hS [.cp 0 0] [(0,some (dB 2)),(2,some (.sl 5 [.int .u8] (o++[(IntKind.wrap .u8 (m:Int))])))] rfl (by show DW _ [(0,dB 2),(2,.sl 5 [.int .u8] (b++Ak n))] true;rw[←e];exact⟨rfl,rfl,trivial⟩)
end
def y8 (n:Nat):Con:=⟨[.cp 0 0,.v (.int .u64 (n:Int))],[(0,Ob8)],.cp 0 0,[(0,dB 1),(1,.sl 5 [.int .u8] ([]++Ak n))]⟩
theorem Lr (n:Nat) (hn:n<18446744073709551616):ConOk Tryz.prog 47 (y8 n):=by
 refine cy 1 Tryz.func47 rfl Tryz.ntmps47 fun hg0 hS=>Av ?_
 obtain⟨gs,hS⟩:=hS.nilob 0 0 5 [.int .u8]
 refine Dj [] 2 hS fun hS=>Ej (Br (Ar (ι:=Nat×(List Int)) hg0 hS (fun(m,o)=>(m,[(1,.v (.int .u64 ((m:Nat):Int)))],[(0,dB 2),(2,.sl 5 [.int .u8] o)],(m<18446744073709551616)∧(o.length+(Ak m).length=0+(Ak n).length)∧(o++Ak m=([]:List Int)++Ak n)∧True)) [0,4] [] 3 (n,[]) [(0,0),(2,1)] ⟨hn,(by simp),rfl,trivial⟩ ?_))
 rintro⟨m,o⟩ ac gs ws ⟨hm,hol,hq,_⟩ hS
 refine Av (Ae [] 3 hS fun hS=>AB ((128:Int)≤(m:Int)) hS (fun h1=> ?_) (fun h1=> ?_))
 ·refine BE ?_
  have h10:=AH hn
  exact As [(5,AM (F_ o [(C9 .u8 (IntKind.wrap .u8 (m:Int)) 128)] AE AE) [(0,0),(1,2)] [(2,3)])] [] 4 hS fun hS=>BV (As [(1,RN ((m/128:Nat):Int) [AY .u64 (m:Int) 7=((m/128:Nat):Int),(0:Int)≤7] ⟨AeG,by omega,trivial⟩)] [1] 4 hS fun hS=>Ab (Al hg0 hS (m/128,(o++[(C9 .u8 (IntKind.wrap .u8 (m:Int)) 128)])) [(0,0),(2,3)] ⟨Ac,(by rw[List.length_append,←hol,Nv (n:=m) Ac];simp only[List.length_cons,List.length_nil];omega),(by rw[List.append_assoc,←hq,Nv (n:=m) Ac];rfl),trivial⟩ (show m/128<m from by omega)))
 ·have hT:=hS
  have hS:=hT
  refine ML ?_
  have h10:=AH hn
  have e:o++[IntKind.wrap .u8 (m:Int)]=([]:List Int)++Ak n:=by rw[←hq,Qs Ac]
  refine As [(4,AM (F_ o [(IntKind.wrap .u8 (m:Int))] AE AE) [(0,0),(1,2)] [(2,3)])] [] 4 hS fun hS=>DX ?_
  obtain⟨gs,hS⟩:=hS.rx [(0,0),(1,3)] [4] [0,1] 2 hg0
  exact C0 rfl (.inr rfl) hS [.cp 0 0] [(0,some (dB 1)),(1,some (.sl 5 [.int .u8] (o++[(IntKind.wrap .u8 (m:Int))])))] rfl (by show DW _ [(0,dB 1),(1,.sl 5 [.int .u8] (([]:List Int)++Ak n))] true;rw[←e];exact⟨rfl,rfl,trivial⟩)
end
end Go.Sx.Tryz
namespace Go.Sx.Tryz
open Go.Mi Go.RowKit Go.Sx Go.Proofs
noncomputable section
section
variable (b xs:List Int)
def rE:Con:=⟨[.cp 0 0,lb xs],[(0,dB 1),(1,.sl 5 [.int .u8] b)],.cp 0 0,[(0,dB 2),(2,.sl 5 [.int .u8] ((b++Ak xs.length)++xs))]⟩
theorem Ga (hb:b.length≤80000000000) (hx:xs.length≤10000000000):ConOk Tryz.prog 48 (rE b xs):=by
 refine cy 2 Tryz.func48 rfl Tryz.ntmps48 fun hg0 hS=> ?_
 have Be:xs.length≤9223372036854775807:=hS.len 1 rfl
 have KX:b.length≤9223372036854775807:=hS.lens 1 rfl
 refine Ae [] 2 hS fun hS=>Av ?_
 have h10:=AH (n:=xs.length) Ac
 refine As [(3,XR xs.length),(4,AM (HN b xs.length AE Ac) [(0,0),(1,1)] [(2,2)]),(6,AM (F_ (b++Ak xs.length) xs AE AE) [(0,0),(1,2)] [(2,3)])] [] 4 hS fun hS=>DX ?_
 obtain⟨gs,hS⟩:=hS.rx [(0,0),(1,1),(2,3)] [4] [0,2] 3 hg0
 exact BW hS
end
def gH (xs:List Int):Con:=⟨[.cp 0 0,lb xs],[(0,Ob8)],.cp 0 0,[(0,dB 1),(1,.sl 5 [.int .u8] (([]++Ak xs.length)++xs))]⟩
theorem Ku (xs:List Int) (hx:xs.length≤10000000000):ConOk Tryz.prog 48 (gH xs):=by
 refine cy 1 Tryz.func48 rfl Tryz.ntmps48 fun hg0 hS=> ?_
 have Be:xs.length≤9223372036854775807:=hS.len 1 rfl
 refine Ae [] 1 hS fun hS=>Av ?_
 have h10:=AH (n:=xs.length) Ac
 refine As [(3,XR xs.length),(4,AM (Lr xs.length Ac) [(0,0)] [(1,1)]),(6,AM (F_ ([]++Ak xs.length) xs AE AE) [(0,0),(1,1)] [(2,2)])] [] 3 hS fun hS=>DX ?_
 obtain⟨gs,hS⟩:=hS.rx [(0,0),(1,2)] [4] [0,1] 2 hg0
 exact BW hS
def zB (b:List Int):Con:=⟨[.cp 0 0],[(0,dB 1),(1,.sl 5 [.int .u8] b)],lb b,[(0,.ob 97 (chain [lb b]))]⟩
theorem Ha (b:List Int) (hb:b.length≤90000000000000):ConOk Tryz.prog 49 (zB b):=by
 refine cy 2 Tryz.func49 rfl Tryz.ntmps49 fun hg0 hS=> ?_
 have KX:b.length≤9223372036854775807:=hS.lens 1 rfl
 refine Ae [] 2 hS fun hS=>Av (Ae [] 2 hS fun hS=>Ai hS (DU ?_))
 obtain⟨gs,hS⟩:=hS.fz 1
 exact As [(4,AP (Dy b AE))] [] 2 hS fun hS=>DX (BW hS)
end
end Go.Sx.Tryz
namespace Go.Sx.Tryz
open Go.Mi Go.RowKit Go.Sx Go.Proofs
noncomputable section
section
variable (x:Int)
def aC (k:Int):Int:=(C9 .u32 (Bf .u32 x (A6 .u64 (IntKind.wrap .u64 k) 31)) (AY .u32 x (EC .u64 32 (A6 .u64 (IntKind.wrap .u64 k) 31))))
def BB (k:Int):Int:=AJ (aC x k)
theorem vT (k:Int):BB x k=aC x k:=Ag _
def z5 (k:Int) (z_:Int:=BB x k):Con:=⟨[.v (.int .u32 x),vi k],[],.v (.int .u32 z_),[]⟩
theorem Em (k:Int):ConOk Tryz.prog 191 (z5 x k):=by
 exact cy 0 Tryz.func191 rfl Tryz.ntmps191 fun hg0 hS=>Ae [] 0 hS fun hS=>Ae [] 0 hS fun hS=>Ax [(2,O1 ((0:Int)≤(A6 .u64 (IntKind.wrap .u64 k) 31)) (Jw rfl)),(6,O1 ((0:Int)≤(EC .u64 32 (A6 .u64 (IntKind.wrap .u64 k) 31))) (Jw rfl))] [] 0 hS fun hS=>AR (Bi (vT ..) hS)
def Kh (x8:Nat):(List Int)→(List Int):=fun x3=>x3.set x8 (IntKind.wrap .u8 (AY .u64 x ((8*x8:Nat):Int)))
def EL (x:Int):Nat→(List Int)
 |0=>List.replicate 8 (0:Int)
 |x8+1=>Kh x x8 (EL x x8)
def QF:(List Int):=EL x 8
def Fg:(List Int):=AJ (QF x)
theorem KT:Fg x=QF x:=Ag _
end
@[simp] theorem UB (x:Int):(Fg x).length=8:=by
 have key:∀i,(EL x i).length=8:=by
  intro i
  induction i with
  |zero=>rfl
  |succ i ih=>exact(List.length_set ..).trans ih
 rw[KT]
 exact key 8
def Zn (x:Int) (z_:(List Int):=Fg x):Con:=⟨[.v (.int .u64 x)],[],.sk 0,[(0,.sl 5 [.int .u8] z_)]⟩
theorem WR (x:Int):ConOk Tryz.prog 185 (Zn x):=by
 refine cy 0 Tryz.func185 rfl Tryz.ntmps185 fun hg0 hS=>Ae [] 0 hS fun hS=>Ax [(0,iY 8 1)] [] 1 hS fun hS=>Av (Ax [(1,RN 8 [(((List.replicate 8 (0:Int)).length:Nat):Int)=8] ⟨by rw[List.length_replicate];rfl,trivial⟩)] [] 1 hS fun hS=>Br (Ar (ι:=Nat×(List Int)) hg0 hS (fun(x8,x3)=>(8-x8,[(8,vi ((x8:Nat):Int))],[(0,.sl 5 [.int .u8] x3)],(x8≤8)∧(x3=EL x x8)∧(x3.length=8)∧True)) [0,2,3,7] [] 1 (0,List.replicate 8 (0:Int)) [(0,0)] ⟨Ac,rfl,rfl,trivial⟩ ?_))
 rintro⟨x8,x3⟩ ac gs ws ⟨hx8,hq1,p1,_⟩ hS
 refine Ae [] 1 hS fun hS=>Av (AB ((x8:Int)<8) hS (fun h1=> ?_) (fun h1=> ?_))
 ·exact BE (Ae [] 1 hS fun hS=>As [(4,HJ 8 x8 (8*x8)),(5,EQ (8*x8)),(7,AD x8 x3.length)] [] 1 hS fun hS=>BV (As [(0,BH x8)] [8] 1 hS fun hS=>Ab (Al hg0 hS (x8+1,x3.set x8 (IntKind.wrap .u8 (AY .u64 x ((8*x8:Nat):Int)))) [(0,0)] ⟨Ac,(A3 (st:=Kh _) hq1 rfl rfl),(by rw[List.length_set];exact p1),trivial⟩)))
 ·have hT:=hS
  obtain rfl:8=x8:=by omega
  obtain rfl:=hq1.symm
  have hS:=hT
  exact CO (Ae [] 1 hS fun hS=>AR (Bi (KT ..) hS))
def R_ (k1:Nat):(Nat×Nat×(List Int))→(Nat×Nat×(List Int)):=fun(x2,x3,x0)=>(x2+1,x3-1,(x0.set x2 (x0.getD x3 0)).set x3 (x0.getD x2 0))
def FY (xs:List Int):Nat→Nat×Nat×(List Int)
 |0=>(0,xs.length-1,xs)
 |k1+1=>R_ k1 (FY xs k1)
def Sa:(Nat×Nat×(List Int))→Prop:=fun(x2,x3,x0)=>((x2:Nat):Int)<(x3:Int)
section
variable (xs:List Int)
def kG:(List Int):=(FY xs (CS fun j=>Sa (FY xs j))).2.2
def PD:(List Int):=AJ (kG xs)
theorem Yd:PD xs=kG xs:=Ag _
theorem kI (h:xs.length=8):(PD xs).length=8:=by
 have key:∀i,(FY xs i).2.2.length=8:=by
  intro i
  induction i with
  |zero=>exact h
  |succ i ih=>
   show(((FY xs i).2.2.set _ _).set _ _).length=8
   rw[List.length_set,List.length_set];exact ih
 rw[Yd]
 exact key _
def Adp (z_:(List Int):=PD xs):Con:=⟨[.sk 0],[(0,.sl 5 [.int .u8] xs)],.tu (chain []),[(0,.sl 5 [.int .u8] z_)]⟩
theorem u9 (h:xs.length=8):ConOk Tryz.prog 186 (Adp xs):=by
 refine cy 1 Tryz.func186 rfl Tryz.ntmps186 fun hg0 hS=> ?_
 have oI:xs.length≤9223372036854775807:=hS.lens 0 rfl
 refine Ax [(2,G9 xs.length 1 (xs.length-1))] [] 1 hS fun hS=>Br (Ar (ι:=Nat×Nat×Nat×(List Int)) hg0 hS (fun(k1,x2,x3,x0)=>(x3-x2,[(2,vi (x2:Int)),(3,vi (x3:Int))],[(0,.sl 5 [.int .u8] x0)],((x2,x3,x0)=FY xs k1)∧(∀j,j<k1→Sa (FY xs j))∧(x0.length=8)∧(x3<8)∧True)) [0] [] 1 (0,0,xs.length-1,xs) [(0,0)] ⟨rfl,(fun j h=>absurd h (Nat.not_lt_zero j)),h,Ac,trivial⟩ ?_)
 rintro⟨k1,x2,x3,x0⟩ ac gs ws ⟨hq1,hj1,p1,p2,_⟩ hS
 refine Av (Ae [] 1 hS fun hS=>AB ((x2:Int)<(x3:Int)) hS (fun h1=> ?_) (fun h1=> ?_))
 ·refine BE ?_
  have hsl:(x0.set x2 (x0.getD x3 0)).length=8:=by rw[List.length_set];exact p1
  exact As [(6,AD x3 x0.length),(10,AD x2 x0.length),(12,AD x2 x0.length),(14,AD x3 ((x0.set x2 (x0.getD x3 0)).length))] [] 1 hS fun hS=>BV (As [(1,BH x2),(3,G9 x3 1 (x3-1))] [2,3] 1 hS fun hS=>Ab (Al hg0 hS (k1+1,x2+1,x3-1,(x0.set x2 (x0.getD x3 0)).set x3 (x0.getD x2 0)) [(0,0)] ⟨(A3 (st:=R_) hq1 rfl rfl),(A0 hj1 (by rw[←hq1];exact h1)),(by rw[List.length_set,List.length_set];exact p1),Ac,trivial⟩))
 ·have hT:=hS
  obtain rfl:=BK (by rw[←hq1];first |exact h1|exact not_not_intro h1) hj1
  obtain⟨rfl,rfl,rfl⟩:=mQ hq1
  have hS:=hT
  exact cnc (D7 (D7 (Fv (fqN (Yd ..) hS))))
end
def aO (x:Int):(List Int):=PD (Fg x)
def FD (x:Int):(List Int):=AJ (aO x)
theorem Ud (x:Int):FD x=aO x:=Ag _
@[simp] theorem JI (x:Int):(FD x).length=8:=by rw[Ud];exact kI _ (UB _)
section
variable (x:Int)
def Aab (z_:(List Int):=FD x):Con:=⟨[.v (.int .u64 x)],[],lb z_,[]⟩
theorem Qf:ConOk Tryz.prog 160 (Aab x):=by
 refine cy 0 Tryz.func160 rfl Tryz.ntmps160 fun hg0 hS=>Ae [] 0 hS fun hS=>Ax [(1,AM (WR x) [] [(0,0)])] [] 1 hS fun hS=>Ax [(1,AM (u9 (Fg x) (by first |omega|simp)) [(0,0)] [])] [] 1 hS fun hS=>Ae [] 1 hS fun hS=>AR ?_
 obtain⟨gs,hS⟩:=hS.fz 0
 exact Bi (Ud ..) hS
def Ue:(List Int):=(FD (IntKind.wrap .u64 x)).drop 4
def CY:(List Int):=AJ (Ue x)
theorem Uf:CY x=Ue x:=Ag _
end
@[simp] theorem Ff (x:Int):(CY x).length=4:=by rw[Uf];unfold Ue;rw[List.length_drop,JI]
def Aac (x:Int) (z_:(List Int):=CY x):Con:=⟨[.v (.int .u32 x)],[],lb z_,[]⟩
theorem Wp (x:Int):ConOk Tryz.prog 165 (Aac x):=by
 refine cy 0 Tryz.func165 rfl Tryz.ntmps165 fun hg0 hS=>Ae [] 0 hS fun hS=>Av ?_
 have hp:=JI (IntKind.wrap .u64 x)
 exact As [(2,AP (Qf (IntKind.wrap .u64 x))),(3,O2 4 (FD (IntKind.wrap .u64 x)).length)] [] 0 hS fun hS=>DX (Bi (Uf ..) hS)
section
variable (xs:List Int)
def KY (x4:Nat):Int→Int:=fun x2=>if(x4:Int)<((xs.length:Nat):Int)then(C9 .u64 (Bf .u64 x2 8) (IntKind.wrap .u64 (xs.getD x4 0)))else(Bf .u64 x2 8)
def QK (xs:List Int):Nat→Int
 |0=>0
 |x4+1=>KY xs x4 (QK xs x4)
def bR:Int:=(QK xs 8)
def UI:Int:=AJ (bR xs)
theorem xO:UI xs=bR xs:=Ag _
def Aao (z_:Int:=UI xs):Con:=⟨[lb xs],[],.v (.int .u64 z_),[]⟩
theorem oO:ConOk Tryz.prog 206 (Aao xs):=by
 refine cy 0 Tryz.func206 rfl Tryz.ntmps206 fun hg0 hS=> ?_
 have A7:xs.length≤9223372036854775807:=hS.len 0 rfl
 refine Ae [] 0 hS fun hS=>Av (Ae [] 0 hS fun hS=>Br (Ar (ι:=Nat×Int) hg0 hS (fun(x4,x2)=>(8-x4,[(2,.v (.int .u64 x2)),(4,vi ((x4:Nat):Int))],[],(x4≤8)∧(x2=QK xs x4)∧True)) [0] [] 0 (0,0) [] ⟨Ac,rfl,trivial⟩ ?_))
 rintro⟨x4,x2⟩ ac gs ws ⟨hx4,hq1,_⟩ hS
 refine Ae [] 0 hS fun hS=>Av (AB ((x4:Int)<8) hS (fun h1=> ?_) (fun h1=> ?_))
 ·refine BE (Ae [] 0 hS fun hS=>Ax [(1,EQ 8)] [2] 0 hS fun hS=>Ae [] 0 hS fun hS=>AB ((x4:Int)<((xs.length:Nat):Int)) hS (fun h2=> ?_) (fun h2=> ?_))
  ·exact As [(3,AD x4 xs.length)] [2] 0 hS fun hS=>BV (As [(0,BH x4)] [4] 0 hS fun hS=>Ab (Al hg0 hS (x4+1,(C9 .u64 (Bf .u64 x2 8) (IntKind.wrap .u64 (xs.getD x4 0)))) [] ⟨Ac,(A3 (st:=KY _) hq1 rfl (Eq.symm (if_pos h2))),trivial⟩))
  ·exact G8 (As [(0,BH x4)] [4] 0 hS fun hS=>Ab (Al hg0 hS (x4+1,(Bf .u64 x2 8)) [] ⟨Ac,(A3 (st:=KY _) hq1 rfl (Eq.symm (if_neg h2))),trivial⟩))
 ·have hT:=hS
  obtain rfl:8=x4:=by omega
  obtain rfl:=hq1.symm
  have hS:=hT
  exact CO (Ae [2] 0 hS fun hS=>AR (Bi (xO ..) hS))
def bS:Int:=(IntKind.wrap .u32 (AY .u64 (UI xs) 32))
def OH:Int:=AJ (bS xs)
theorem xQ:OH xs=bS xs:=Ag _
def Aap (z_:Int:=OH xs):Con:=⟨[lb xs],[],.v (.int .u32 z_),[]⟩
theorem oP:ConOk Tryz.prog 190 (Aap xs):=by
 refine cy 0 Tryz.func190 rfl Tryz.ntmps190 fun hg0 hS=> ?_
 have A7:xs.length≤9223372036854775807:=hS.len 0 rfl
 exact Ae [] 0 hS fun hS=>Ax [(1,AP (oO xs)),(2,EQ 32)] [] 0 hS fun hS=>AR (Bi (xQ ..) hS)
def UO (n:Nat):(List Int):=xs.take (List.replicate n (0:Int)).length++(List.replicate n (0:Int)).drop xs.length
def OL (n:Nat):(List Int):=AJ (UO xs n)
theorem bW (n:Nat):OL xs n=UO xs n:=Ag _
def Aaq (n:Nat) (z_:(List Int):=OL xs n):Con:=⟨[lb xs,vi (n:Int)],[],.sk 0,[(0,.sl 5 [.int .u8] z_)]⟩
theorem oY (n:Nat) (hn:n≤100000000):ConOk Tryz.prog 184 (Aaq xs n):=by
 refine cy 0 Tryz.func184 rfl Tryz.ntmps184 fun hg0 hS=> ?_
 have A7:xs.length≤9223372036854775807:=hS.len 0 rfl
 exact Ae [] 0 hS fun hS=>Ax [(1,iY n 1)] [] 1 hS fun hS=>Ae [] 1 hS fun hS=>Ae [] 1 hS fun hS=>AR (Bi (bW ..) hS)
def Vz (ys:List Int) (x15:Nat):(List Int)→(List Int):=fun x5=>x5.set x15 (AK .u8 (xs.getD x15 0) (ys.getD x15 0))
def Ks (xs ys:List Int):Nat→(List Int)
 |0=>List.replicate (min xs.length ys.length) (0:Int)
 |x15+1=>Vz xs ys x15 (Ks xs ys x15)
def AaY (ys:List Int):(List Int):=Ks xs ys (min xs.length ys.length)
def J3 (ys:List Int):(List Int):=AJ (AaY xs ys)
theorem jB (ys:List Int):J3 xs ys=AaY xs ys:=Ag _
def AfK (ys:List Int) (z_:(List Int):=J3 xs ys):Con:=⟨[lb xs,lb ys],[],.sk 0,[(0,.sl 5 [.int .u8] z_)]⟩
theorem AbM (ys:List Int) (hn:xs.length≤100000000):ConOk Tryz.prog 159 (AfK xs ys):=by
 refine cy 0 Tryz.func159 rfl Tryz.ntmps159 fun hg0 hS=> ?_
 have A7:xs.length≤9223372036854775807:=hS.len 0 rfl
 have Be:ys.length≤9223372036854775807:=hS.len 1 rfl
 refine Ae [] 0 hS fun hS=>Ax [(4,Rmn xs.length ys.length),(5,iY (min xs.length ys.length) 1)] [] 1 hS fun hS=>Av (Ax [(1,RN ((min xs.length ys.length:Nat):Int) [(((List.replicate (min xs.length ys.length) (0:Int)).length:Nat):Int)=((min xs.length ys.length:Nat):Int)] ⟨by rw[List.length_replicate],trivial⟩)] [] 1 hS fun hS=>Br (Ar (ι:=Nat×(List Int)) hg0 hS (fun(x15,x5)=>(min xs.length ys.length-x15,[(15,vi ((x15:Nat):Int))],[(0,.sl 5 [.int .u8] x5)],(x15≤min xs.length ys.length)∧(x5=Ks xs ys x15)∧(x5.length=min xs.length ys.length)∧True)) [0,1,4,5,14] [] 1 (0,List.replicate (min xs.length ys.length) (0:Int)) [(0,0)] ⟨Ac,rfl,(by simp),trivial⟩ ?_))
 rintro⟨x15,x5⟩ ac gs ws ⟨hx15,hq1,p1,_⟩ hS
 refine Ae [] 1 hS fun hS=>Av (AB ((x15:Int)<((min xs.length ys.length:Nat):Int)) hS (fun h1=> ?_) (fun h1=> ?_))
 ·exact BE (Ae [] 1 hS fun hS=>As [(4,AD x15 xs.length),(8,AD x15 ys.length),(11,AD x15 x5.length)] [] 1 hS fun hS=>BV (As [(0,BH x15)] [15] 1 hS fun hS=>Ab (Al hg0 hS (x15+1,x5.set x15 (AK .u8 (xs.getD x15 0) (ys.getD x15 0))) [(0,0)] ⟨Ac,(A3 (st:=Vz _ _) hq1 rfl rfl),(by rw[List.length_set];exact p1),trivial⟩)))
 ·have hT:=hS
  obtain rfl:min xs.length ys.length=x15:=by omega
  obtain rfl:=hq1.symm
  have hS:=hT
  exact CO (Ae [] 1 hS fun hS=>AR (Bi (jB ..) hS))
end
end
end Go.Sx.Tryz
