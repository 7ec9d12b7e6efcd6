/- General lemmas, walks. -/
import Derived.Test.YtmkplecnmklbfaaGreatJ4PTurn
set_option maxRecDepth 100000
set_option maxHeartbeats 1000000
set_option linter.unusedSimpArgs false
set_option linter.unusedVariables false
set_option linter.unnecessarySimpa false
set_option linter.unusedSectionVars false
namespace Go.Mi.Ke
abbrev Ln:=BitVec 64
abbrev St:=Nat→Ln
def rot (a:Ln) (n:Nat):Ln:=a.rotateLeft n
def Eq25 (a b:St):Prop:=∀i,i<25→a i=b i
theorem U2 (a:Ln) (n i:Nat) (hi:i<64):(rot a n).getLsbD i=a.getLsbD ((i+(64-n%64))%64):=by
 unfold rot
 simp only[BitVec.getLsbD_rotateLeft]
 have hn:n%64<64:=Nat.mod_lt _ (by decide)
 by_cases h:i<n%64
 ·rw[decide_eq_true h,cond_true]
  congr 1
  omega
 ·rw[decide_eq_false h,cond_false,decide_eq_true hi,Bool.true_and]
  congr 1
  omega
theorem uS {a b:Ln} {n:Nat} (h:rot a n=rot b n):a=b:=by
 apply BitVec.eq_of_getLsbD_eq
 intro i hi
 have hn:n%64<64:=Nat.mod_lt _ (by decide)
 have h1:=U2 a n ((i+n%64)%64) (Nat.mod_lt _ (by decide))
 have h2:=U2 b n ((i+n%64)%64) (Nat.mod_lt _ (by decide))
 rw[h,h2]at h1
 rw[show((i+n%64)%64+(64-n%64))%64=i by omega]at h1
 exact h1.symm
def par (a:St) (x:Nat):Ln:=a (x%5)^^^a (x%5+5)^^^a (x%5+10)^^^a (x%5+15)^^^a (x%5+20)
def dif (a:St) (x:Nat):Ln:=par a (x+4)^^^rot (par a (x+1)) 1
def theta (a:St):St:=fun i=>a i^^^dif a i
theorem par_mod (a:St) (x:Nat):par a (x%5)=par a x:=by unfold par;rw[Nat.mod_mod]
theorem bF (a:St) (x k:Nat):dif a (x+5*k)=dif a x:=by
 unfold dif par
 rw[show(x+5*k+4)%5=(x+4)%5 by omega,show(x+5*k+1)%5=(x+1)%5 by omega]
theorem Aft (a b c d e u:Ln):(a^^^u)^^^(b^^^u)^^^(c^^^u)^^^(d^^^u)^^^(e^^^u)=(a^^^b^^^c^^^d^^^e)^^^u:=by
 apply BitVec.eq_of_getLsbD_eq
 intro i _
 simp only[BitVec.getLsbD_xor]
 generalize a.getLsbD i=a
 generalize b.getLsbD i=b
 generalize c.getLsbD i=c
 generalize d.getLsbD i=d
 generalize e.getLsbD i=e
 generalize u.getLsbD i=u
 revert a b c d e u
 decide
theorem Sv (a:St) (x:Nat):par (theta a) x=par a x^^^dif a x:=by
 have h:∀k,theta a (x%5+5*k)=a (x%5+5*k)^^^dif a x:=fun k=>by
  unfold theta
  rw[bF,←bF a (x%5) (x/5),show x%5+5*(x/5)=x by omega]
 have h0:=h 0
 have h1:=h 1
 have h2:=h 2
 have h3:=h 3
 have h4:=h 4
 simp only[Nat.mul_zero,Nat.add_zero,Nat.reduceMul]at h0 h1 h2 h3 h4
 unfold par
 rw[h0,h1,h2,h3,h4]
 exact Aft ..
theorem vR {r:Nat→Nat→Bool} (p5:∀x z,r (x+5) z=r x z) (p64:∀x z,r x (z+64)=r x z) (h:∀x z,r x z=(r (x+4) z^^r (x+1) (z+63))) (x z:Nat):r x z=false:=by
 have q5:∀k x z,r (x+5*k) z=r x z:=by
  intro k
  induction k with
  |zero=>intro x z;rfl
  |succ k ih=>intro x z;rw[show x+5*(k+1)=(x+5*k)+5 by omega,p5,ih]
 have q64:∀k x z,r x (z+64*k)=r x z:=by
  intro k
  induction k with
  |zero=>intro x z;rfl
  |succ k ih=>intro x z;rw[show z+64*(k+1)=(z+64*k)+64 by omega,p64,ih]
 have dbl:∀m,(∀x z,r x z=(r (x+4*m) z^^r (x+m) (z+63*m)))→∀x z,r x z=(r (x+4*(2*m)) z^^r (x+2*m) (z+63*(2*m))):=by
  intro m hm x z
  have e1:=hm (x+4*m) z
  have e2:=hm (x+m) (z+63*m)
  rw[hm x z,e1,e2]
  rw[show x+4*m+4*m=x+4*(2*m) by omega,show x+4*m+m=x+5*m by omega,show x+m+4*m=x+5*m by omega,show x+m+m=x+2*m by omega,show z+63*m+63*m=z+63*(2*m) by omega]
  cases r (x+4*(2*m)) z<;>cases r (x+5*m) (z+63*m)<;>cases r (x+2*m) (z+63*(2*m))<;>rfl
 have h64:=dbl 32 (dbl 16 (dbl 8 (dbl 4 (dbl 2 (dbl 1 (by simpa using h))))))
 have key:∀x,r x z=(r (x+1) z^^r (x+4) z):=by
  intro x
  have :=h64 x z
  rw[show x+4*(2*32)=(x+1)+5*51 by omega,show x+2*32=(x+4)+5*12 by omega,show z+63*(2*32)=z+64*63 by omega,q5,q5,q64]at this
  exact this
 have k0:=key x
 have k1:=key (x+1)
 have k2:=key (x+2)
 have k3:=key (x+3)
 have k4:=key (x+4)
 rw[show x+1+4=x+5 by omega,p5]at k1
 rw[show x+2+4=(x+1)+5 by omega,p5]at k2
 rw[show x+3+4=(x+2)+5 by omega,p5]at k3
 rw[show x+4+1=x+5 by omega,show x+4+4=(x+3)+5 by omega,p5,p5]at k4
 simp only[Nat.add_assoc,Nat.reduceAdd]at k0 k1 k2 k3 k4
 revert k0 k1 k2 k3 k4
 cases r x z<;>cases r (x+1) z<;>cases r (x+2) z<;>cases r (x+3) z<;>cases r (x+4) z<;>simp
theorem cK {a b:St} (h:Eq25 (theta a) (theta b)):Eq25 a b:=by
 have hp:∀x,par (theta a) x=par (theta b) x:=fun x=>by
  have hx:x%5<5:=Nat.mod_lt _ (by decide)
  unfold par
  rw[h _ (by omega),h _ (by omega),h _ (by omega),h _ (by omega),h _ (by omega)]
 let r:Nat→Nat→Bool:=fun x z=>(par a x).getLsbD (z%64)^^(par b x).getLsbD (z%64)
 have hr:∀x z,r x z=false:=by
  refine vR (fun x z=> ?_) (fun x z=> ?_) (fun x z=> ?_)
  ·show(_^^_)=(_^^_)
   rw[←par_mod a (x+5),←par_mod b (x+5),show(x+5)%5=x%5 by omega,par_mod,par_mod]
  ·show(_^^_)=(_^^_)
   rw[show(z+64)%64=z%64 by omega]
  ·have e:=hp x
   rw[Sv,Sv]at e
   have e2:=congrArg (fun u:Ln=>u.getLsbD (z%64)) e
   have hz:z%64<64:=Nat.mod_lt _ (by decide)
   simp only[dif,BitVec.getLsbD_xor,U2 _ _ _ hz]at e2
   rw[show(z%64+(64-1%64))%64=(z+63)%64 by omega]at e2
   show(_^^_)=((_^^_)^^(_^^_))
   revert e2
   generalize(par a x).getLsbD (z%64)=q1
   generalize(par b x).getLsbD (z%64)=q2
   generalize(par a (x+4)).getLsbD (z%64)=q3
   generalize(par b (x+4)).getLsbD (z%64)=q4
   generalize(par a (x+1)).getLsbD ((z+63)%64)=q5
   generalize(par b (x+1)).getLsbD ((z+63)%64)=q6
   revert q1 q2 q3 q4 q5 q6
   decide
 have hab:∀x,par a x=par b x:=fun x=>by
  apply BitVec.eq_of_getLsbD_eq
  intro i hi
  have :=hr x i
  simp only[r]at this
  rw[Nat.mod_eq_of_lt hi]at this
  revert this
  cases(par a x).getLsbD i<;>cases(par b x).getLsbD i<;>simp
 intro i hi
 have e:=h i hi
 have ed:dif a i=dif b i:=by unfold dif;rw[hab,hab]
 unfold theta at e
 rw[ed]at e
 have :=congrArg (· ^^^dif b i) e
 simpa[BitVec.xor_assoc]using this
def chi (a:St):St:=fun i=>a i^^^(~~~a (i-i%5+(i+1)%5)&&&a (i-i%5+(i+2)%5))
theorem AfI:∀a0 a1 a2 a3 a4 b0 b1 b2 b3 b4:Bool,(a0^^(!a1&&a2))=(b0^^(!b1&&b2))→(a1^^(!a2&&a3))=(b1^^(!b2&&b3))→(a2^^(!a3&&a4))=(b2^^(!b3&&b4))→(a3^^(!a4&&a0))=(b3^^(!b4&&b0))→(a4^^(!a0&&a1))=(b4^^(!b0&&b1))→a0=b0∧a1=b1∧a2=b2∧a3=b3∧a4=b4:=by decide
theorem xM {a b:St} (h:Eq25 (chi a) (chi b)):Eq25 a b:=by
 intro i hi
 apply BitVec.eq_of_getLsbD_eq
 intro z hz
 have hy:i=5*(i/5)+i%5:=by omega
 have row:∀k,k<5→chi a (5*(i/5)+k)=chi b (5*(i/5)+k):=fun k hk=>h _ (by omega)
 have at_:∀(a:St) (k:Nat),k<5→(chi a (5*(i/5)+k)).getLsbD z=((a (5*(i/5)+k)).getLsbD z^^(!(a (5*(i/5)+(k+1)%5)).getLsbD z&&(a (5*(i/5)+(k+2)%5)).getLsbD z)):=by
  intro a k hk
  unfold chi
  rw[show 5*(i/5)+k-(5*(i/5)+k)%5=5*(i/5) by omega,show(5*(i/5)+k+1)%5=(k+1)%5 by omega,show(5*(i/5)+k+2)%5=(k+2)%5 by omega]
  simp only[BitVec.getLsbD_xor,BitVec.getLsbD_and,BitVec.getLsbD_not,hz,decide_true,Bool.true_and]
 have e:∀k,k<5→_:=fun k hk=>congrArg (fun u:Ln=>u.getLsbD z) (row k hk)
 have e0:=e 0 (by omega)
 have e1:=e 1 (by omega)
 have e2:=e 2 (by omega)
 have e3:=e 3 (by omega)
 have e4:=e 4 (by omega)
 simp only[at_ _ 0 (by omega),at_ _ 1 (by omega),at_ _ 2 (by omega),at_ _ 3 (by omega),at_ _ 4 (by omega),Nat.reduceAdd,Nat.reduceMod]at e0 e1 e2 e3 e4
 obtain⟨k0,k1,k2,k3,k4⟩:=AfI _ _ _ _ _ _ _ _ _ _ e0 e1 e2 e3 e4
 have h5:i%5<5:=Nat.mod_lt _ (by decide)
 rw[hy]
 generalize i%5=m at h5
 match m,h5 with
 |0,_=>exact k0
 |1,_=>exact k1
 |2,_=>exact k2
 |3,_=>exact k3
 |4,_=>exact k4
theorem mA:∀(N:Nat) (f:Nat→Nat),(∀i,i≤N→f i<N)→∃i j,i<j∧j≤N∧f i=f j
 |0,f,h=>absurd (h 0 (Nat.le_refl _)) (by omega)
 |N+1,f,h=>by
  -- is the last value met ahead?
  by_cases hm:∃i,i<N+1∧f i=f (N+1)
  ·obtain⟨i,h1,h2⟩:=hm
   exact⟨i,N+1,h1,Nat.le_refl _,h2⟩
  ·-- else swap it with the greatest
   let g:Nat→Nat:=fun i=>if f i=N then f (N+1)else f i
   have hg:∀i,i≤N→g i<N:=by
    intro i hi
    have h1:=h i (by omega)
    have h2:=h (N+1) (by omega)
    have h3:f i≠f (N+1):=fun e=>hm ⟨i,by omega,e⟩
    show(if f i=N then f (N+1)else f i)<N
    split<;>omega
   obtain⟨i,j,h1,h2,h3⟩:=mA N g hg
   refine⟨i,j,h1,by omega,?_⟩
   have h4:f i≠f (N+1):=fun e=>hm ⟨i,by omega,e⟩
   have h5:f j≠f (N+1):=fun e=>hm ⟨j,by omega,e⟩
   change (if f i=N then f (N+1)else f i)=(if f j=N then f (N+1)else f j)at h3
   split at h3<;>split at h3<;>omega
def px:Nat→Nat×Nat
 |0=>(1,0)
 |t+1=>((px t).2,(2*(px t).1+3*(px t).2)%5)
def ps (t:Nat):Nat:=(px t).1+5*(px t).2
def rhoN (a:St):Nat→St
 |0=>a
 |t+1=>fun i=>if i=ps (t+1)then rot (a (ps t)) ((t+1)*(t+2)/2)else rhoN a t i
def rho (a:St):St:=rhoN a 24
theorem ps_lt (t:Nat) (h:t≤24):ps t<25:=by
 have :∀t:Fin 25,ps t.1<25:=by decide
 exact this ⟨t,by omega⟩
theorem Ad4 (t u:Nat) (ht:t≤24) (hu:u≤24) (h0:0<t) (h1:0<u) (h:ps t=ps u):t=u:=by
 have :∀t u:Fin 25,0<t.1→0<u.1→ps t.1=ps u.1→t.1=u.1:=by decide
 exact this ⟨t,by omega⟩ ⟨u,by omega⟩ h0 h1 h
theorem AbF (i:Nat) (h:i<25):i=0∨∃t,t<24∧ps t=i:=by
 have :∀i:Fin 25,i.1=0∨∃t:Fin 24,ps t.1=i.1:=by decide
 rcases this ⟨i,h⟩with h|⟨t,h⟩
 ·exact .inl h
 ·exact .inr ⟨t.1,t.2,h⟩
theorem TI (a:St):∀n,n≤24→∀t,t<n→rhoN a n (ps (t+1))=rot (a (ps t)) ((t+1)*(t+2)/2)
 |0,_,t,h=>absurd h (by omega)
 |n+1,hn,t,h=>by
  simp only[rhoN]
  by_cases e:t=n
  ·subst e;rw[if_pos rfl]
  ·rw[if_neg (fun h'=>e (by have :=Ad4 _ _ (by omega) (by omega) (by omega) (by omega) h';omega))]
   exact TI a n (by omega) t (by omega)
theorem vA (t:Nat) (h:t≤24):ps t≠0:=by
 have :∀t:Fin 25,ps t.1≠0:=by decide
 exact this ⟨t,by omega⟩
theorem M9 (a:St):∀n,n≤24→rhoN a n 0=a 0
 |0,_=>rfl
 |n+1,hn=>by
  simp only[rhoN]
  rw[if_neg (fun h=>vA (n+1) hn h.symm)]
  exact M9 a n (by omega)
theorem uX {a b:St} (h:Eq25 (rho a) (rho b)):Eq25 a b:=by
 intro i hi
 rcases AbF i hi with rfl|⟨t,ht,rfl⟩
 ·have :=h 0 (by omega)
  unfold rho at this
  rwa [M9 a 24 (Nat.le_refl _),M9 b 24 (Nat.le_refl _)]at this
 ·have :=h _ (ps_lt (t+1) (by omega))
  unfold rho at this
  rw[TI a 24 (Nat.le_refl _) t ht,TI b 24 (Nat.le_refl _) t ht]at this
  exact uS this
theorem rhoN_congr {a b:St} (h:Eq25 a b):∀n,n≤24→Eq25 (rhoN a n) (rhoN b n)
 |0,_=>h
 |n+1,hn=>fun i hi=>by
  simp only[rhoN]
  split
  ·rw[h _ (ps_lt n (by omega))]
  ·exact rhoN_congr h n (by omega) i hi
def iota (c:Ln) (a:St):St:=fun i=>if i=0 then a 0^^^c else a i
def round (c:Ln) (a:St):St:=iota c (chi (rho (theta a)))
def rounds:List Ln→St→St
 |[],a=>a
 |c::l,a=>rounds l (round c a)
theorem nD {c:Ln} {a b:St} (h:Eq25 (iota c a) (iota c b)):Eq25 a b:=by
 intro i hi
 have :=h i hi
 unfold iota at this
 by_cases e:i=0
 ·subst e
  rw[if_pos rfl,if_pos rfl]at this
  have :=congrArg (· ^^^c) this
  simpa[BitVec.xor_assoc]using this
 ·rwa [if_neg e,if_neg e]at this
theorem theta_congr {a b:St} (h:Eq25 a b):Eq25 (theta a) (theta b):=by
 have hp:∀x,par a x=par b x:=fun x=>by
  have hx:x%5<5:=Nat.mod_lt _ (by decide)
  unfold par
  rw[h _ (by omega),h _ (by omega),h _ (by omega),h _ (by omega),h _ (by omega)]
 intro i hi
 unfold theta dif
 rw[h i hi,hp,hp]
theorem chi_congr {a b:St} (h:Eq25 a b):Eq25 (chi a) (chi b):=by
 intro i hi
 unfold chi
 rw[h i hi,h _ (by omega),h _ (by omega)]
theorem dE {c:Ln} {a b:St} (h:Eq25 (round c a) (round c b)):Eq25 a b:=cK (uX (xM (nD h)))
theorem VQ {c:Ln} {a b:St} (h:Eq25 a b):Eq25 (round c a) (round c b):=by
 have h1:=chi_congr (rhoN_congr (theta_congr h) 24 (Nat.le_refl _))
 intro i hi
 show(if i=0 then chi (rhoN (theta a) 24) 0^^^c else chi (rhoN (theta a) 24) i)=(if i=0 then chi (rhoN (theta b) 24) 0^^^c else chi (rhoN (theta b) 24) i)
 split
 ·rw[h1 0 (by omega)]
 ·exact h1 i hi
theorem rounds_inj:∀(l:List Ln) {a b:St},Eq25 (rounds l a) (rounds l b)→Eq25 a b
 |[],_,_,h=>h
 |_::l,_,_,h=>dE (rounds_inj l h)
theorem rounds_congr:∀(l:List Ln) {a b:St},Eq25 a b→Eq25 (rounds l a) (rounds l b)
 |[],_,_,h=>h
 |_::l,_,_,h=>rounds_congr l (VQ h)
def enc (a:St):Nat→Nat
 |0=>0
 |n+1=>enc a n*2^64+(a n).toNat
theorem pF (a:St):∀n,enc a n<(2^64)^n
 |0=>by simp [enc]
 |n+1=>by
  have h1:=pF a n
  have h2:=(a n).isLt
  have e:(2^64)^(n+1)=(2^64)^n*2^64:=Nat.pow_succ ..
  simp only[enc]
  rw[e]
  generalize(2^64)^n=M at h1⊢
  omega
theorem bC {a b:St}:∀n,enc a n=enc b n→∀i,i<n→a i=b i
 |0,_,i,h=>absurd h (by omega)
 |n+1,h,i,hi=>by
  simp only[enc]at h
  have h1:=(a n).isLt
  have h2:=(b n).isLt
  have h3:enc a n=enc b n:=by omega
  by_cases e:i=n
  ·subst e
   exact BitVec.eq_of_toNat_eq (by omega)
  ·exact bC n h3 i (by omega)
def iter (f:St→St):Nat→St→St
 |0,a=>a
 |n+1,a=>f (iter f n a)
theorem WC {f:St→St} (hf:∀{a b},Eq25 (f a) (f b)→Eq25 a b):∀n {a b},Eq25 (iter f n a) (iter f n b)→Eq25 a b
 |0,_,_,h=>h
 |n+1,_,_,h=>WC hf n (hf h)
theorem Qp (f:St→St) (m:Nat) (a:St):∀n,iter f (m+n) a=iter f n (iter f m a)
 |0=>rfl
 |n+1=>by show f (iter f (m+n) a)=f (iter f n (iter f m a));rw[Qp f m a n]
theorem Abb {f:St→St} (hf:∀{a b},Eq25 (f a) (f b)→Eq25 a b) (s:St):∃n,0<n∧Eq25 (iter f n s) s:=by
 obtain⟨i,j,h1,_,h3⟩:=mA ((2^64)^25) (fun i=>enc (iter f i s) 25) (fun i _=>pF _ _)
 have h4:Eq25 (iter f i s) (iter f j s):=bC 25 h3
 refine⟨j-i,by omega,?_⟩
 have e:iter f j s=iter f i (iter f (j-i) s):=by rw[←Qp,show j-i+i=j by omega]
 rw[e]at h4
 have :=WC hf i h4
 exact fun k hk=>(this k hk).symm
theorem Qo {f:St→St} (hc:∀{a b},Eq25 a b→Eq25 (f a) (f b)):∀n {a b},Eq25 a b→Eq25 (iter f n a) (iter f n b)
 |0,_,_,h=>h
 |n+1,_,_,h=>hc (Qo hc n h)
theorem again_late {f:St→St} (hf:∀{a b},Eq25 (f a) (f b)→Eq25 a b) (hc:∀{a b},Eq25 a b→Eq25 (f a) (f b)) (s:St):∀m:Nat,∃n,m<n∧Eq25 (iter f n s) s
 |0=>Abb hf s
 |m+1=>by
  obtain⟨n,h1,h2⟩:=again_late hf hc s m
  obtain⟨k,h3,h4⟩:=Abb hf s
  refine⟨n+k,by omega,fun i hi=> ?_⟩
  rw[Qp,Qo hc k h2 i hi,h4 i hi]
end Go.Mi.Ke
namespace Go.Sx
open Go.Mi Go.RowKit
def MV (a:Nat→Int):Nat→Nat→Int
 |0=>fun _=>0
 |i+1=>upd (MV a i) (i%5) (AK .u64 (MV a i (i%5)) (a i))
def TE (x k:Int):Int:=C7 .u64 (Bd .u64 x (A5 .u64 (IntKind.wrap .u64 k) 63)) (AY .u64 x (Eu .u64 64 (A5 .u64 (IntKind.wrap .u64 k) 63)))
def thA (a c:Nat→Int):Nat→Nat→Int
 |0=>a
 |i+1=>upd (thA a c i) i (AK .u64 (thA a c i i) (AK .u64 (c ((i%5+4)%5)) (TE (c ((i%5+1)%5)) 1)))
def theta (a:Nat→Int):Nat→Int:=thA a (MV a 25) 25
def X4 (a:Nat→Int):Nat→Nat→Int
 |0=>a
 |t+1=>upd (X4 a t) ((Ke.px (t+1)).1+5*(Ke.px (t+1)).2) (TE (a ((Ke.px t).1+5*(Ke.px t).2)) (Me .i64 (BJ .i64 ((t+1:Nat):Int) ((t+2:Nat):Int)) 2))
def rho (a:Nat→Int):Nat→Int:=X4 a 24
def YR (a:Nat→Int):Nat→Nat→Int
 |0=>a
 |i+1=>upd (YR a i) i (AK .u64 (YR a i i) (A5 .u64 (KM .u64 (a (i-i%5+(i+1)%5))) (a (i-i%5+(i+2)%5))))
def chi (a:Nat→Int):Nat→Int:=YR a 25
def RC:Nat→Int:=upd (upd (upd (upd (upd (upd (upd (upd (upd (upd (upd (upd (upd (upd (upd (upd (upd (upd (upd (upd (upd (upd (upd (upd (fun _=>0) 0 1) 1 32898) 2 9223372036854808714) 3 9223372039002292224) 4 32907) 5 2147483649) 6 9223372039002292353) 7 9223372036854808585) 8 138) 9 136) 10 2147516425) 11 2147483658) 12 2147516555) 13 9223372036854775947) 14 9223372036854808713) 15 9223372036854808579) 16 9223372036854808578) 17 9223372036854775936) 18 32778) 19 9223372039002259466) 20 9223372039002292353) 21 9223372036854808704) 22 2147483649) 23 9223372039002292232
def Ab9:Nat→(Nat→Int)→Nat→Int
 |0=>theta
 |1=>rho
 |_=>chi
def aH (b:Nat→Int):Nat→Nat→Int
 |0=>b
 |j+1=>Ab9 j (aH b j)
def JR (a:Nat→Int):Nat→Nat→Int
 |0=>a
 |i+1=>upd (aH (JR a i) 3) 0 (AK .u64 (aH (JR a i) 3 0) (RC i))
def B7 (a:Nat→Int):Nat→Int:=JR a 24
theorem m5 (b f:Nat→Int) (j:Nat) (h:f=aH b j):Ab9 j f=aH b (j+1):=by rw[h];rfl
theorem Ad5 (a b f:Nat→Int) (i:Nat) (hb:b=JR a i) (h:f=aH b 3):upd f 0 (AK .u64 (f 0) (RC i))=JR a (i+1):=by rw[h,hb];rfl
end Go.Sx
namespace Go.Sx.Tryz
open Go.Mi Go.RowKit Go.Sx Go.Proofs
noncomputable section
def Ob0 (x0:Nat→Int):O:= .ob 263 (chain [.ar .u64 25 x0])
def y0 (x k:Int):Con:=⟨[.v (.int .u64 x),vi k],[],.v (.int .u64 (TE x k)),[]⟩
theorem VR (x k:Int):ConOk Tryz.prog 213 (y0 x k):=by
 exact cy 0 Tryz.func213 rfl Tryz.ntmps213 fun hg0 hS=>Ae [] 0 hS fun hS=>Ae [] 0 hS fun hS=>Ay [(2,OM ((0:Int)≤(A5 .u64 (IntKind.wrap .u64 k) 63)) (Jo rfl)),(6,OM ((0:Int)≤(Eu .u64 64 (A5 .u64 (IntKind.wrap .u64 k) 63))) (Jo rfl))] [] 0 hS fun hS=>AU (Ci hS)
section
variable (a:Nat→Int)
def yE:Con:=⟨[.ar .u64 25 a],[],.ar .u64 25 (theta a),[]⟩
theorem iR:ConOk Tryz.prog 207 (yE a):=by
 refine cy 0 Tryz.func207 rfl Tryz.ntmps207 fun hg0 hS=>Ae [] 2 hS fun hS=>Ae [] 3 hS fun hS=>Au (Ae [] 3 hS fun hS=>Br (Ar (ι:=Nat) hg0 hS (fun i=>(25-i,[(9,vi ((i:Nat):Int))],[(2,.ob 273 (chain [.ar .u64 5 (MV a i)]))],(i≤25)∧True)) [1,2,3,8] [0,1] 3 0 [(0,0),(1,1),(2,2)] ⟨Ac,trivial⟩ ?_))
 rintro i ac gs ws ⟨hi,_⟩ hS
 refine Ae [] 3 hS fun hS=>Au (AB ((i:Int)<25) hS (fun h1=> ?_) (fun h1=> ?_))
 ·exact BG (Ay [(1,AG i 25)] [] 3 hS fun hS=>Av [(1,Lb i 5),(2,AG (i%5) 5),(6,AG (i%5) 5)] [] 3 hS fun hS=>BV (Av [(0,BQ i)] [9] 3 hS fun hS=>Ab (Am hg0 hS (i+1) [(0,0),(1,1),(2,2)] ⟨Ac,trivial⟩)))
 ·have hT:=hS
  obtain rfl:25=i:=by omega
  have hS:=hT
  refine MY (Ae [] 3 hS fun hS=>Br (Ar (ι:=Nat) hg0 hS (fun i=>(25-i,[(21,vi ((i:Nat):Int))],[(0,Ob0 (thA a (MV a 25) i))],(i≤25)∧True)) [1,2,3] [1,2] 3 0 [(0,0),(1,1),(2,2)] ⟨Ac,trivial⟩ ?_))
  rintro i ac gs ws ⟨hi,_⟩ hS
  refine Ae [] 3 hS fun hS=>Au (AB ((i:Int)<25) hS (fun h2=> ?_) (fun h2=> ?_))
  ·exact BG (Ae [] 3 hS fun hS=>Ay [(1,Lb i 5)] [] 3 hS fun hS=>Av [(1,AG i 25),(4,DI (i%5) 5 ((i%5)+5)),(5,GD ((i%5)+5) 1 ((i%5)+4)),(6,Lb ((i%5)+4) 5),(7,AG (((i%5)+4)%5) 5),(10,DI (i%5) 1 ((i%5)+1)),(11,Lb ((i%5)+1) 5),(12,AG (((i%5)+1)%5) 5),(14,AR (VR ((MV a 25) (((i%5)+1)%5)) 1)),(17,AG i 25)] [] 3 hS fun hS=>BV (Av [(0,BQ i)] [21] 3 hS fun hS=>Ab (Am hg0 hS (i+1) [(0,0),(1,1),(2,2)] ⟨Ac,trivial⟩)))
  ·have hT:=hS
   obtain rfl:25=i:=by omega
   have hS:=hT
   exact CX (Ae [] 3 hS fun hS=>AU (Ci hS))
def Ae0:Con:=⟨[.ar .u64 25 a],[],.ar .u64 25 (rho a),[]⟩
theorem Abr:ConOk Tryz.prog 208 (Ae0 a):=by
 refine cy 0 Tryz.func208 rfl Tryz.ntmps208 fun hg0 hS=>Ae [] 2 hS fun hS=>Ae [3] 3 hS fun hS=>Ae [] 3 hS fun hS=>Au (Ae [] 3 hS fun hS=>Br (Ar (ι:=Nat×Nat×Nat×(Nat→Int)) hg0 hS (fun(t,x,y,f)=>(24-t,[(4,vi (x:Int)),(5,vi (y:Int)),(9,vi ((t:Nat):Int))],[(2,Ob0 f)],(t≤24)∧(x<5)∧(y<5)∧(x=(Ke.px t).1)∧(y=(Ke.px t).2)∧(f=X4 a t)∧True)) [1,2,3] [0,1] 3 (0,1,0,a) [(0,0),(1,1),(2,2)] ⟨Ac,Ac,Ac,rfl,rfl,rfl,trivial⟩ ?_))
 rintro⟨t,x,y,f⟩ ac gs ws ⟨ht,hx5,hy5,hx,hy,hf,_⟩ hS
 refine Ae [] 3 hS fun hS=>Au (AB ((t:Int)<24) hS (fun h1=> ?_) (fun h1=> ?_))
 ·exact BG (Ae [] 3 hS fun hS=>Ay [(2,GE 5 y (5*y)),(3,DI x (5*y) (x+(5*y))),(4,AG (x+(5*y)) 25),(7,BQ t),(9,DI t 2 (t+2)),(11,OL ((2:Int)≠0)),(12,AR (VR (a (x+(5*y))) (Me .i64 (BJ .i64 ((t+1:Nat):Int) ((t+2:Nat):Int)) 2)))] [] 3 hS fun hS=>Ay [(2,GE 2 x (2*x)),(4,GE 3 y (3*y)),(5,DI (2*x) (3*y) ((2*x)+(3*y))),(6,Lb ((2*x)+(3*y)) 5)] [4,5] 3 hS fun hS=>Av [(2,GE 5 (((2*x)+(3*y))%5) (5*(((2*x)+(3*y))%5))),(3,DI y (5*(((2*x)+(3*y))%5)) (y+(5*(((2*x)+(3*y))%5)))),(5,AG (y+(5*(((2*x)+(3*y))%5))) 25)] [] 3 hS fun hS=>BV (Av [(0,BQ t)] [9] 3 hS fun hS=>Ab (Am hg0 hS (t+1,y,((2*x)+(3*y))%5,upd f (y+(5*(((2*x)+(3*y))%5))) (TE (a (x+(5*y))) (Me .i64 (BJ .i64 ((t+1:Nat):Int) ((t+2:Nat):Int)) 2))) [(0,0),(1,1),(2,2)] ⟨Ac,Ac,Ac,hy,(by rw[hx,hy];rfl),(by rw[hf,hx,hy];rfl),trivial⟩)))
 ·have hT:=hS
  obtain rfl:24=t:=by omega
  obtain rfl:rho a=f:=Eq.symm hf
  have hS:=hT
  exact CX (Ae [] 3 hS fun hS=>AU (Ci hS))
def Afg:Con:=⟨[.ar .u64 25 a],[],.ar .u64 25 (chi a),[]⟩
theorem AcG:ConOk Tryz.prog 209 (Afg a):=by
 refine cy 0 Tryz.func209 rfl Tryz.ntmps209 fun hg0 hS=>Ae [] 2 hS fun hS=>Ae [3] 3 hS fun hS=>Au (Ae [] 3 hS fun hS=>Br (Ar (ι:=Nat) hg0 hS (fun i=>(25-i,[(7,vi ((i:Nat):Int))],[(2,Ob0 (YR a i))],(i≤25)∧True)) [1,2,3] [0,1] 3 0 [(0,0),(1,1),(2,2)] ⟨Ac,trivial⟩ ?_))
 rintro i ac gs ws ⟨hi,_⟩ hS
 refine Ae [] 3 hS fun hS=>Au (AB ((i:Int)<25) hS (fun h1=> ?_) (fun h1=> ?_))
 ·exact BG (Ae [] 3 hS fun hS=>Ay [(2,Lb i 5),(3,GD i (i%5) (i-(i%5)))] [] 3 hS fun hS=>Av [(1,AG i 25),(5,BQ i),(6,Lb (i+1) 5),(7,DI (i-(i%5)) ((i+1)%5) ((i-(i%5))+((i+1)%5))),(8,AG ((i-(i%5))+((i+1)%5)) 25),(13,DI i 2 (i+2)),(14,Lb (i+2) 5),(15,DI (i-(i%5)) ((i+2)%5) ((i-(i%5))+((i+2)%5))),(16,AG ((i-(i%5))+((i+2)%5)) 25),(20,AG i 25)] [] 3 hS fun hS=>BV (Av [(0,BQ i)] [7] 3 hS fun hS=>Ab (Am hg0 hS (i+1) [(0,0),(1,1),(2,2)] ⟨Ac,trivial⟩)))
 ·have hT:=hS
  obtain rfl:25=i:=by omega
  have hS:=hT
  exact CX (Ae [] 3 hS fun hS=>AU (Ci hS))
end
def q9:Con:=⟨[],[],.ar .u64 24 RC,[]⟩
theorem dC:ConOk Tryz.prog 210 (q9):=by
 exact cy 0 Tryz.func210 rfl Tryz.ntmps210 fun hg0 hS=>Ae [] 1 hS fun hS=>Ae [] 1 hS fun hS=>AU (Ci hS)
def Ac6 (a:Nat→Int):Con:=⟨[.ar .u64 25 a],[],.ar .u64 25 (B7 a),[]⟩
theorem Z1 (a:Nat→Int):ConOk Tryz.prog 199 (Ac6 a):=by
 refine cy 0 Tryz.func199 rfl Tryz.ntmps199 fun hg0 hS=>Ae [] 2 hS fun hS=>Ae [3] 3 hS fun hS=>Ae [4] 4 hS fun hS=>Au (Ay [(0,AR (dC))] [] 4 hS fun hS=>Br (Ar (ι:=Nat×(Nat→Int)) hg0 hS (fun(i,f)=>(24-i,[(12,vi ((i:Nat):Int))],[(2,Ob0 f)],(i≤24)∧(f=JR a i)∧True)) [2,3,4,11] [1,3] 4 (0,a) [(1,1),(2,2),(3,3)] ⟨Ac,rfl,trivial⟩ ?_))
 rintro⟨i,f⟩ ac gs ws ⟨hi,hf,_⟩ hS
 refine Ae [] 4 hS fun hS=>Au (AB ((i:Int)<24) hS (fun h1=> ?_) (fun h1=> ?_))
 ·refine BG (Ay [(0,AG i 24)] [] 4 hS fun hS=>Au (Ae [] 4 hS fun hS=>Br (Ar (ι:=Nat×(Nat→Int)) hg0 hS (fun(j,g)=>(3-j,[(16,vi ((j:Nat):Int))],[(2,Ob0 g)],(j≤3)∧(g=aH f j)∧True)) [2,3,4,6,11,12,15] [1,3] 4 (0,f) [(1,1),(2,2),(3,3)] ⟨Ac,rfl,trivial⟩ ?_)))
  rintro⟨j,g⟩ ac gs ws ⟨hj,hg,_⟩ hS
  refine Ae [] 4 hS fun hS=>Au (AB ((j:Int)<3) hS (fun h2=> ?_) (fun h2=> ?_))
  ·have hT:=hS
   rcases(by omega:j=0∨j=1∨j=2)with rfl|rfl|rfl
   ·have hS:=hT
    exact BG (Ay [(0,AG 0 3)] [] 4 hS fun hS=>Av [(1,GC (.ar .u64 25 g) [(.ar .u64 25 g:D)=(.ar .u64 25 g)] ⟨rfl,trivial⟩),(2,AR (iR g))] [] 4 hS fun hS=>BV (Dn [16] 4 hS fun hS=>Ab (Am hg0 hS (1,theta g) [(1,1),(2,2),(3,3)] ⟨Ac,(m5 _ _ _ hg),trivial⟩)))
   ·have hS:=hT
    exact BG (Ay [(0,AG 1 3)] [] 4 hS fun hS=>Av [(1,GC (.ar .u64 25 g) [(.ar .u64 25 g:D)=(.ar .u64 25 g)] ⟨rfl,trivial⟩),(2,AR (Abr g))] [] 4 hS fun hS=>BV (Dn [16] 4 hS fun hS=>Ab (Am hg0 hS (2,rho g) [(1,1),(2,2),(3,3)] ⟨Ac,(m5 _ _ _ hg),trivial⟩)))
   ·have hS:=hT
    exact BG (Ay [(0,AG 2 3)] [] 4 hS fun hS=>Av [(1,GC (.ar .u64 25 g) [(.ar .u64 25 g:D)=(.ar .u64 25 g)] ⟨rfl,trivial⟩),(2,AR (AcG g))] [] 4 hS fun hS=>BV (Dn [16] 4 hS fun hS=>Ab (Am hg0 hS (3,chi g) [(1,1),(2,2),(3,3)] ⟨Ac,(m5 _ _ _ hg),trivial⟩)))
  ·have hT:=hS
   obtain rfl:3=j:=by omega
   have hS:=hT
   exact CX (Av [(0,AG 0 25),(4,AG 0 25)] [] 4 hS fun hS=>BV (Av [(0,BQ i)] [12] 4 hS fun hS=>Ab (Am hg0 hS (i+1,upd g 0 (AK .u64 (g 0) (RC i))) [(1,1),(2,2),(3,3)] ⟨Ac,(Ad5 a _ _ i hf hg),trivial⟩)))
 ·have hT:=hS
  obtain rfl:24=i:=by omega
  obtain rfl:B7 a=f:=Eq.symm hf
  have hS:=hT
  exact CX (Ae [] 4 hS fun hS=>AU (Ci hS))
end
end Go.Sx.Tryz
namespace Go.Sx
open Go.Mi Go.RowKit
theorem Xg (l:List (List Int)) (j:Nat) (h:j<l.length):(l.take (j+1)).flatten=(l.take j).flatten++l.getD j (rz [.sl (.int .u8)]):=by
 rw[List.take_add_one,List.flatten_append,List.getElem?_eq_getElem h]
 simp [List.getD,List.getElem?_eq_getElem h]
 rfl
theorem UU (l:List (List Int)) (j:Nat) (h:j<l.length):(l.take (j+1)).flatten.length=(l.take j).flatten.length+(l.getD j (rz [.sl (.int .u8)])).length:=by
 rw[Xg l j h,List.length_append]
theorem Ux (l:List (List Int)) (j:Nat):(l.take j).flatten.length≤l.flatten.length:=by
 have h:l.flatten=(l.take j).flatten++(l.drop j).flatten:=by rw[←List.flatten_append,List.take_append_drop]
 rw[h,List.length_append]
 omega
theorem YT {l:List (List Int)} {j c:Nat} (h:j<l.length) (hc:l.flatten.length≤c):(l.take j).flatten.length+(l.getD j (rz [.sl (.int .u8)])).length≤c:=by
 rw[←UU l j h]
 exact Nat.le_trans (Ux l _) hc
def gZ (b:List Int) (f:Nat→Int):Nat→Nat→Int
 |0=>f
 |i+1=>upd (gZ b f i) (i/8) (AK .u64 (gZ b f i (i/8)) (Bd .u64 (IntKind.wrap .u64 (b.getD i 0)) ((8*(i%8):Nat):Int)))
def RP (p:List Int) (r:Nat):Nat→Nat→Int
 |0=>fun _=>0
 |k+1=>B7 (gZ (p.drop (k*r)) (RP p r k) r)
def LW (r:Nat) (e:Int) (l:List (List Int)):List Int:=(l.flatten++[e])++List.replicate ((r-(l.flatten++[e]).length%r)%r) (0:Int)
def mH (r:Nat) (e:Int) (l:List (List Int)):List Int:=(LW r e l).set ((LW r e l).length-1) (C7 .u8 ((LW r e l).getD ((LW r e l).length-1) 0) 128)
def Pn (r:Nat) (e:Int) (l:List (List Int)):Nat→Int:=RP (mH r e l) r ((mH r e l).length/r)
theorem mG {r:Nat} (h:0<r) (e:Int) (l:List (List Int)):∃N,0<N∧(LW r e l).length=N*r:=by
 unfold LW
 generalize hb:l.flatten++[e]=b
 have hp:0<b.length:=by rw[←hb];simp
 rw[List.length_append,List.length_replicate]
 have h1:=Nat.div_add_mod b.length r
 have h2:=Nat.mod_lt b.length h
 by_cases h3:b.length%r=0
 ·rw[h3,Nat.sub_zero,Nat.mod_self]
  refine⟨b.length/r,?_,?_⟩
  ·rcases Nat.eq_zero_or_pos (b.length/r)with h4|h4
   ·rw[h4,h3]at h1;simp at h1;omega
   ·exact h4
  ·rw[h3]at h1;rw[Nat.mul_comm];omega
 ·rw[Nat.mod_eq_of_lt (a:=r-b.length%r) (by omega)]
  refine⟨b.length/r+1,Nat.succ_pos _,?_⟩
  rw[Nat.succ_mul,Nat.mul_comm]
  omega
theorem T6 {r:Nat} {e:Int} {l:List (List Int)}:(mH r e l).length=(LW r e l).length:=by simp [mH]
theorem Z5 {r:Nat} (h:0<r) (e:Int) (l:List (List Int)):(LW r e l).length≤l.flatten.length+1+r:=by
 unfold LW
 rw[List.length_append,List.length_replicate,List.length_append]
 have :=Nat.mod_lt (r-(l.flatten++[e]).length%r) h
 simp only[List.length_append,List.length_cons,List.length_nil]at this⊢
 omega
theorem AdA {p b:List Int} {r k N:Nat} (hr:0<r) (hN:p.length=N*r) (hb:b=p.drop (k*r)) (hk:k≤N) (h:0<b.length):k<N∧r≤b.length:=by
 rw[hb,List.length_drop,hN,←Nat.sub_mul]at h⊢
 rcases Nat.eq_zero_or_pos (N-k)with h1|h1
 ·rw[h1]at h;simp at h
 ·exact⟨by omega,Nat.le_mul_of_pos_left r h1⟩
theorem Aah {p b:List Int} {r k N:Nat} (hr:0<r) (hN:p.length=N*r) (hb:b=p.drop (k*r)) (hk:k≤N) (h:¬0<b.length):k=p.length/r:=by
 rw[hb,List.length_drop,hN,←Nat.sub_mul]at h
 rw[hN,Nat.mul_div_cancel _ hr]
 rcases Nat.eq_zero_or_pos (N-k)with h1|h1
 ·omega
 ·exact absurd (Nat.mul_pos h1 hr) h
theorem sU {p b:List Int} {r k:Nat} (hb:b=p.drop (k*r)):b.drop r=p.drop ((k+1)*r):=by
 rw[hb,List.drop_drop,Nat.succ_mul]
theorem sT {p b:List Int} {r k:Nat} {f g:Nat→Int} (hb:b=p.drop (k*r)) (hf:f=RP p r k) (hg:g=gZ b f r):B7 g=RP p r (k+1):=by
 rw[hg,hf,hb];rfl
def Dh (r:Nat) (f:Nat→Int) (a:Nat):Nat→(Nat→Int)×Nat×List Int
 |0=>(f,a,[])
 |j+1=>match Dh r f a j with
  |(g,b,o)=>if b=r then(B7 g,1,o++[IntKind.wrap .u8 (AY .u64 (B7 g 0) 0)])else(g,b+1,o++[IntKind.wrap .u8 (AY .u64 (g (b/8)) ((8*(b%8):Nat):Int))])
theorem V1 {r:Nat} {f0:Nat→Int} {a0:Nat} {f:Nat→Int} {a:Nat} {o:List Int} (hq:(f,a,o)=Dh r f0 a0 o.length) (ha:a=r):(B7 f,1,o++[IntKind.wrap .u8 (AY .u64 (B7 f 0) 0)])=Dh r f0 a0 (o++[IntKind.wrap .u8 (AY .u64 (B7 f 0) 0)]).length:=by
 rw[List.length_append]
 show _=(match Dh r f0 a0 o.length with
  |(g,b,o)=>if b=r then(B7 g,1,o++[IntKind.wrap .u8 (AY .u64 (B7 g 0) 0)])else(g,b+1,o++[IntKind.wrap .u8 (AY .u64 (g (b/8)) ((8*(b%8):Nat):Int))]))
 rw[←hq]
 simp only[if_pos ha]
theorem V0 {r:Nat} {f0:Nat→Int} {a0:Nat} {f:Nat→Int} {a:Nat} {o:List Int} (hq:(f,a,o)=Dh r f0 a0 o.length) (ha:¬a=r):(f,a+1,o++[IntKind.wrap .u8 (AY .u64 (f (a/8)) ((8*(a%8):Nat):Int))])=Dh r f0 a0 (o++[IntKind.wrap .u8 (AY .u64 (f (a/8)) ((8*(a%8):Nat):Int))]).length:=by
 rw[List.length_append]
 show _=(match Dh r f0 a0 o.length with
  |(g,b,o)=>if b=r then(B7 g,1,o++[IntKind.wrap .u8 (AY .u64 (B7 g 0) 0)])else(g,b+1,o++[IntKind.wrap .u8 (AY .u64 (g (b/8)) ((8*(b%8):Nat):Int))]))
 rw[←hq]
 simp only[if_neg ha]
theorem Abx {r:Nat} {f0:Nat→Int} {a0 n:Nat} {f:Nat→Int} {a:Nat} {o:List Int} (hq:(f,a,o)=Dh r f0 a0 o.length) (hn:o.length=n):f=(Dh r f0 a0 n).1∧a=(Dh r f0 a0 n).2.1∧o=(Dh r f0 a0 n).2.2:=by
 rw[←hn,←hq];exact⟨rfl,rfl,rfl⟩
theorem Nb (r:Nat) (f0:Nat→Int) (a0:Nat):∀n,(Dh r f0 a0 n).2.2.length=n
 |0=>rfl
 |n+1=>by
  have ih:=Nb r f0 a0 n
  show(match Dh r f0 a0 n with
   |(g,b,o)=>if b=r then(B7 g,1,o++[IntKind.wrap .u8 (AY .u64 (B7 g 0) 0)])else(g,b+1,o++[IntKind.wrap .u8 (AY .u64 (g (b/8)) ((8*(b%8):Nat):Int))])).2.2.length=n+1
  revert ih
  generalize Dh r f0 a0 n=q
  obtain⟨g,b,o⟩:=q
  intro ih
  simp only at ih⊢
  split<;>simp [ih]
theorem dK (r:Nat) (f0:Nat→Int) (a0:Nat):(f0,a0,[])=Dh r f0 a0 0:=rfl
theorem Sj (r : Nat) (f : Nat → Int) (a j : Nat) : Dh r f a (j + 1) = match Dh r f a j with
  |(g,b,o)=>if b=r then(B7 g,1,o++[IntKind.wrap .u8 (AY .u64 (B7 g 0) 0)])else(g,b+1,o++[IntKind.wrap .u8 (AY .u64 (g (b/8)) ((8*(b%8):Nat):Int))]):=rfl
attribute [irreducible] Dh
end Go.Sx
namespace Go.Sx.Tryz
open Go.Mi Go.RowKit Go.Sx Go.Proofs
noncomputable section
def Adk (n:Nat):Con:=⟨[.v (.slice none 0 0),vi (n:Int)],[],.sk 0,[(0,.sl 5 [.int .u8] [])]⟩
theorem wK (n:Nat) (h:n≤140737488355328):ConOk Tryz.prog 187 (Adk n):=by
 refine cy 0 Tryz.func187 rfl Tryz.ntmps187 fun hg0 hS=>Ae [] 0 hS fun hS=>Au (Ay [(1,tP false [(decide ((n:Int)<0))=false] ⟨decide_eq_false Ac,trivial⟩)] [] 0 hS fun hS=>Ai hS (EK (Ay [(6,GD n 0 n)] [1] 0 hS fun hS=>Ae [] 0 hS fun hS=>AB ((0:Int)<(n:Int)) hS (fun h1=> ?_) (fun h1=> ?_))))
 ·refine Av [(3,g9 0 0),(5,tA [(0:Int)≤(n:Int),([]:List (RT [.int .u8])).length+n≤9223372036854775807,(([]:List (RT [.int .u8])).length+n)*1≤140737488355328] ⟨by omega,by simp<;>omega,by simp<;>omega,trivial⟩),(8,OM ((0:Int)≤0∧(0:Int)≤([]++List.replicate n (0:Int)).length) (by simp))] [0] 2 hS fun hS=>Ab (Ae [] 2 hS fun hS=>AU ?_)
  obtain⟨gs,hS⟩:=hS.rx [(0,1)] [4] [0] 1 hg0
  exact Ci hS
 ·refine B5 (Ae [] 0 hS fun hS=>AU ?_)
  obtain⟨gs,hS⟩:=hS.nilk 4 5 [.int .u8]
  exact Ci hS
section
variable (l:List (List Int))
def sB:Con:=⟨[.ls false [.sl (.int .u8)] l],[],.sk 0,[(0,.sl 5 [.int .u8] l.flatten)]⟩
theorem S4 (h:l.flatten.length≤140737488355328):ConOk Tryz.prog 161 (sB l):=by
 refine cy 0 Tryz.func161 rfl Tryz.ntmps161 fun hg0 hS=> ?_
 have A6:l.length≤9223372036854775807:=hS.len 0 rfl
 refine Ae [] 0 hS fun hS=>Ae [] 0 hS fun hS=>Au (Ae [9] 0 hS fun hS=>Br (Ar (ι:=Nat×Nat) hg0 hS (fun(i,c)=>(l.length-i,[(3,vi (c:Int)),(11,vi ((i:Nat):Int))],[],(i≤l.length)∧(c=(l.take i).flatten.length)∧True)) [0,2,9,10] [] 0 (0,0) [] ⟨Ac,rfl,trivial⟩ ?_))
 rintro⟨i,c⟩ ac gs ws ⟨hi,hc,_⟩ hS
 refine Ae [] 0 hS fun hS=>Au (AB ((i:Int)<((l.length:Nat):Int)) hS (fun h1=> ?_) (fun h1=> ?_))
 ·refine BG (Ay [(0,AG i l.length)] [] 0 hS fun hS=>Au ?_)
  have hb:=YT (l:=l) (j:=i) Ac h
  rw[←hc]at hb
  exact Av [(3,DI c ((l.getD i (rz [.sl (.int .u8)])).length) (c+((l.getD i (rz [.sl (.int .u8)])).length)))] [3] 0 hS fun hS=>Ab (Ay [(1,tP false [(decide (((c+((l.getD i (rz [.sl (.int .u8)])).length):Nat):Int)<0))=false] ⟨decide_eq_false Ac,trivial⟩)] [] 0 hS fun hS=>Ai hS (Iu (Av [(0,BQ i)] [11] 0 hS fun hS=>Ab (Am hg0 hS (i+1,c+((l.getD i (rz [.sl (.int .u8)])).length)) [] ⟨Ac,(by rw[UU l i Ac,←hc]),trivial⟩))))
 ·have hT:=hS
  obtain rfl:l.length=i:=by omega
  obtain rfl:l.flatten.length=c:=Eq.symm (by rw[hc,List.take_length])
  have hS:=hT
  refine CX (Ay [(1,AO (wK l.flatten.length Ac) [] [(0,0)])] [] 1 hS fun hS=>Au (Ae [25] 1 hS fun hS=>Br (Ar (ι:=Nat×(List Int)) hg0 hS (fun(j,o)=>(l.length-j,[(27,vi ((j:Nat):Int))],[(0,.sl 5 [.int .u8] o)],(j≤l.length)∧(o=(l.take j).flatten)∧True)) [2,6,25,26] [] 1 (0,[]) [(0,0)] ⟨Ac,rfl,trivial⟩ ?_)))
  rintro⟨j,o⟩ ac gs ws ⟨hj,ho,_⟩ hS
  refine Ae [] 1 hS fun hS=>Au (AB ((j:Int)<((l.length:Nat):Int)) hS (fun h2=> ?_) (fun h2=> ?_))
  ·refine BG (Ay [(0,AG j l.length)] [] 1 hS fun hS=> ?_)
   have hb:=YT (l:=l) (j:=j) Ac h
   rw[←ho]at hb
   exact Av [(2,Ge o.length ((l.getD j (rz [.sl (.int .u8)])).length) 1 Ac)] [6] 2 hS fun hS=>BV (Av [(0,BQ j)] [27] 2 hS fun hS=>Ab (Am hg0 hS (j+1,o++(l.getD j (rz [.sl (.int .u8)]))) [(0,1)] ⟨Ac,(by rw[Xg l j Ac,←ho]),trivial⟩))
  ·have hT:=hS
   obtain rfl:l.length=j:=by omega
   obtain rfl:l.flatten=o:=Eq.symm (by rw[ho,List.take_length])
   have hS:=hT
   exact CX (Ae [] 1 hS fun hS=>AU (Ci hS))
def Afh:Con:=⟨[.ls false [.sl (.int .u8)] l],[],.sk 0,[(0,.sl 5 [.int .u8] l.flatten)]⟩
theorem Q0 (h:l.flatten.length≤140737488355328):ConOk Tryz.prog 154 (Afh l):=by
 refine cy 0 Tryz.func154 rfl Tryz.ntmps154 fun hg0 hS=> ?_
 have A6:l.length≤9223372036854775807:=hS.len 0 rfl
 exact Ae [] 0 hS fun hS=>Ay [(1,AO (S4 l (by first |omega|(simp only[List.flatten_cons,List.flatten_nil,List.length_append,List.length_cons,List.length_nil,List.length_take,List.length_drop,List.length_replicate]<;>omega)|(simp<;>omega))) [] [(0,0)])] [] 1 hS fun hS=>AU (Ci hS)
end
end
end Go.Sx.Tryz
namespace Go.Sx.Tryz
open Go.Mi Go.RowKit Go.Sx Go.Proofs
noncomputable section
section
variable (x0:Nat→Int) (x1:Nat)
def Ob1:O:= .ob 250 (chain [.ar .u64 25 x0,vi ((x1:Nat):Int),vi 0])
def Ob2 (x2:Nat):O:= .ob 250 (chain [.ar .u64 25 x0,vi ((x1:Nat):Int),vi ((x2:Nat):Int)])
end
section
variable (r:Nat) (e:Int) (l:List (List Int))
def qP:Con:=⟨[vi (r:Int),.v (.int .u8 e),.ls false [.sl (.int .u8)] l],[],.cp 0 0,[(0,Ob1 (Pn r e l) r)]⟩
theorem G9 (hr:0<r) (hr2:r≤200) (h:l.flatten.length≤140000000000000):ConOk Tryz.prog 173 (qP r e l):=by
 refine cy 0 Tryz.func173 rfl Tryz.ntmps173 fun hg0 hS=> ?_
 have CF:l.length≤9223372036854775807:=hS.len 2 rfl
 refine Ae [] 0 hS fun hS=>Ay [(1,AO (Q0 l (by first |omega|(simp only[List.flatten_cons,List.flatten_nil,List.length_append,List.length_cons,List.length_nil,List.length_take,List.length_drop,List.length_replicate]<;>omega)|(simp<;>omega))) [] [(0,0)]),(4,Ge l.flatten.length 1 1 (by first |omega|(simp only[List.length_append,List.length_cons,List.length_nil];omega)))] [] 2 hS fun hS=>Au ?_
 have hm:=Nat.mod_lt (l.flatten++[e]).length hr
 have hm2:=Nat.mod_lt (r-(l.flatten++[e]).length%r) hr
 have hl1:(l.flatten++[e]).length=l.flatten.length+1:=by simp
 refine Av [(5,Lb ((l.flatten++[e]).length) r),(6,GD r (((l.flatten++[e]).length)%r) (r-(((l.flatten++[e]).length)%r))),(8,Lb (r-(((l.flatten++[e]).length)%r)) r),(9,tA [(0:Int)≤(((r-(((l.flatten++[e]).length)%r))%r:Nat):Int),(l.flatten++[e]).length+((r-(((l.flatten++[e]).length)%r))%r)≤9223372036854775807,((l.flatten++[e]).length+((r-(((l.flatten++[e]).length)%r))%r))*1≤140737488355328] ⟨by omega,by first |omega|(simp only[List.length_append,List.length_cons,List.length_nil];omega),by first |omega|(simp only[List.length_append,List.length_cons,List.length_nil];omega),trivial⟩)] [7] 3 hS fun hS=> ?_
 obtain⟨p,hp⟩:∃p,p=LW r e l:=⟨_,rfl⟩
 have hS:=(hS.rv [(0,vi (r:Int)),(6,.v (.pointer none)),(7,.sk 2)] [(2,some (.sl 5 [.int .u8] p))] (by subst hp;kernel_rfl) (by subst hp;kernel_rfl)).sp
 obtain⟨N,hN0,hN⟩:=mG hr e l
 have hp1:1≤(LW r e l).length:=by rw[hN];exact Nat.mul_pos hN0 hr
 have hpl:=Z5 hr e l
 rw[←hp]at hN hp1 hpl
 refine Ej (Av [(3,GD p.length 1 (p.length-1)),(4,AG (p.length-1) p.length),(7,AG (p.length-1) p.length)] [] 3 hS fun hS=> ?_)
 obtain⟨q,hq⟩:∃q,q=mH r e l:=⟨_,rfl⟩
 have hS:=(hS.rv [(0,vi (r:Int)),(6,.v (.pointer none)),(7,.sk 2)] [(2,some (.sl 5 [.int .u8] q))] (by subst hq;subst hp;kernel_rfl) (by subst hq;subst hp;kernel_rfl)).sp
 have hNq:q.length=N*r:=by rw[hq,T6,←hp,hN]
 have hql:q.length≤140737488355328:=by rw[hq,T6];exact Nat.le_trans (Z5 hr e l) Ac
 refine Ab (Ae [] 4 hS fun hS=>Au (Br ?_))
 obtain⟨gs,hS⟩:=hS.fz 2
 refine Ar (ι:=Nat×(List Int)×(Nat→Int)) hg0 hS (fun(k,b,f)=>(N-k,[(7,lb b)],[(3,Ob1 f r)],(k≤N)∧(b=q.drop (k*r))∧(f=RP q r k)∧True)) [0,6,8] [] 4 (0,q,fun _=>0) [(3,3)] ⟨Ac,(by rw[Nat.zero_mul];rfl),rfl,trivial⟩ ?_
 rintro⟨k,b,f⟩ ac gs ws ⟨hk,hb,hf,_⟩ hS
 refine Au (Ae [] 4 hS fun hS=>AB ((0:Int)<((b.length:Nat):Int)) hS (fun h1=> ?_) (fun h1=> ?_))
 ·refine BG (JN ?_)
  obtain⟨hkN,hrb⟩:=AdA hr hNq hb hk Ac
  refine Dn [] 4 hS fun hS=>Ab (Br (Ar (ι:=Nat×(Nat→Int)) hg0 hS (fun(i,g)=>(r-i,[(43,vi ((i:Nat):Int))],[(3,Ob1 g r)],(i≤r)∧(g=gZ b f i)∧True)) [0,6,7,8,42] [] 4 (0,f) [(3,3)] ⟨Ac,rfl,trivial⟩ ?_))
  rintro⟨i,g⟩ ac gs ws ⟨hi,hg,_⟩ hS
  refine Ae [] 4 hS fun hS=>Au (AB ((i:Int)<(r:Int)) hS (fun h2=> ?_) (fun h2=> ?_))
  ·exact BG (Ae [] 4 hS fun hS=>Av [(2,Td i 8),(5,AG (i/8) 25),(9,AG i b.length),(13,Lb i 8),(14,GE 8 (i%8) (8*(i%8))),(15,EL (8*(i%8))),(19,AG (i/8) 25)] [] 4 hS fun hS=>BV (Av [(0,BQ i)] [43] 4 hS fun hS=>Ab (Am hg0 hS (i+1,upd g (i/8) (AK .u64 (g (i/8)) (Bd .u64 (IntKind.wrap .u64 (b.getD i 0)) ((8*(i%8):Nat):Int)))) [(3,3)] ⟨Ac,(by rw[hg];rfl),trivial⟩)))
  ·have hT:=hS
   obtain rfl:r=i:=by omega
   have hS:=hT
   exact CX (Av [(4,GC (.ar .u64 25 g) [(.ar .u64 25 g:D)=(.ar .u64 25 g)] ⟨rfl,trivial⟩),(5,AR (Z1 g))] [] 4 hS fun hS=>BV (Av [(2,ON r b.length)] [7] 4 hS fun hS=>Ab (Am hg0 hS (k+1,b.drop r,B7 g) [(3,3)] ⟨Ac,(sU hb),(sT hb hf hg),trivial⟩)))
 ·have hT:=hS
  obtain rfl:q.length/r=k:=Eq.symm (Aah hr hNq hb hk Ac)
  obtain rfl:Pn r e l=f:=Eq.symm (by rw[hf,hq];rfl)
  have hS:=hT
  refine CX (Ae [] 4 hS fun hS=>AU ?_)
  obtain⟨gs,hS⟩:=hS.rx [(0,3)] [6] [0] 1 hg0
  exact Ci hS
end
section
variable (r:Nat) (f:Nat→Int) (a n:Nat)
def AcZ:Con:=⟨[.cp 0 0,vi (n:Int)],[(0,Ob2 f r a)],lb ((Dh r f a n).2.2),[(0,Ob2 ((Dh r f a n).1) r ((Dh r f a n).2.1))]⟩
theorem LG (hr:0<r) (hr2:r≤200) (har:a≤r) (h:n≤140737488355328):ConOk Tryz.prog 174 (AcZ r f a n):=by
 refine cy 1 Tryz.func174 rfl Tryz.ntmps174 fun hg0 hS=>Ae [] 1 hS fun hS=>Au (Br ?_)
 obtain⟨gs,hS⟩:=hS.nilk 4 5 [.int .u8]
 refine Ar (ι:=(Nat→Int)×Nat×(List Int)) hg0 hS (fun(g,b,o)=>(n-o.length,[],[(0,Ob2 g r b),(1,.sl 5 [.int .u8] o)],(b≤r)∧(o.length≤n)∧((g,b,o)=Dh r f a o.length)∧True)) [0,1,4] [] 2 (f,a,[]) [(0,0),(1,1)] ⟨Ac,(by simp),(dK r f a),trivial⟩ ?_
 rintro⟨g,b,o⟩ ac gs ws ⟨hb,ho,hq,_⟩ hS
 refine Au (Ae [] 2 hS fun hS=>AB (((o.length:Nat):Int)<(n:Int)) hS (fun h1=> ?_) (fun h1=> ?_))
 ·refine B5 (Br (Au (Ae [] 2 hS fun hS=>AB ((b:Int)=(r:Int)) hS (fun h2=> ?_) (fun h2=> ?_))))
  ·exact Av [(5,GC (.ar .u64 25 g) [(.ar .u64 25 g:D)=(.ar .u64 25 g)] ⟨rfl,trivial⟩),(6,AR (Z1 g))] [] 2 hS fun hS=>Ab (Ay [(6,OL ((8:Int)≠0)),(9,AG 0 25),(15,OL ((8:Int)≠0)),(17,EL 0),(20,Ge o.length 1 1)] [4] 3 hS fun hS=>Dn [] 3 hS fun hS=>BV (Am hg0 hS (B7 g,1,o++[(IntKind.wrap .u8 (AY .u64 ((B7 g) 0) 0))]) [(0,0),(1,2)] ⟨Ac,(by simp<;>omega),(by first |exact V1 hq Ac|exact V0 hq Ac),trivial⟩ (by simp<;>omega)))
  ·exact B5 (Ay [(6,Td b 8),(9,AG (b/8) 25),(15,Lb b 8),(16,GE 8 (b%8) (8*(b%8))),(17,EL (8*(b%8))),(20,Ge o.length 1 1)] [4] 3 hS fun hS=>Av [(4,BQ b)] [] 3 hS fun hS=>BV (Am hg0 hS (g,b+1,o++[(IntKind.wrap .u8 (AY .u64 (g (b/8)) ((8*(b%8):Nat):Int)))]) [(0,0),(1,2)] ⟨Ac,(by simp<;>omega),(by first |exact V1 hq Ac|exact V0 hq Ac),trivial⟩ (by simp<;>omega)))
 ·have hT:=hS
  have hn:o.length=n:=by omega
  obtain⟨e1,e2,e3⟩:=Abx hq hn
  obtain rfl:(Dh r f a n).1=g:=Eq.symm e1
  obtain rfl:(Dh r f a n).2.1=b:=Eq.symm e2
  obtain rfl:(Dh r f a n).2.2=o:=Eq.symm e3
  have hS:=hT
  refine CX (Ae [4] 2 hS fun hS=>AU ?_)
  obtain⟨gs,hS⟩:=hS.fz 1
  exact Ci hS
end
end
end Go.Sx.Tryz
namespace Go.Sx.Tryz
open Go.Mi Go.RowKit Go.Sx Go.Proofs
noncomputable section
def MQ (x0:Nat→Int):O:= .ob 212 (chain [.ar .u16 256 x0])
section
variable (x:Int)
def AaL:Int:=(IntKind.wrap .u16 (CV x 3329))
def Dc:Int:=AJ (AaL x)
theorem AaM:Dc x=AaL x:=Af _
def Afb (z_:Int:=Dc x):Con:=⟨[.v (.int .u32 x)],[],.v (.int .u16 z_),[]⟩
theorem GX:ConOk Tryz.prog 177 (Afb x):=by
 exact cy 0 Tryz.func177 rfl Tryz.ntmps177 fun hg0 hS=>Ae [] 0 hS fun hS=>Ay [(1,OL ((3329:Int)≠0))] [] 0 hS fun hS=>AU (Bh (AaM ..) hS)
end
def Xw (g:Nat→Int) (x6:Nat):(Nat→Int)→(Nat→Int):=fun o2_0=>upd o2_0 x6 (Dc (AZ .u32 (IntKind.wrap .u32 (o2_0 x6)) (IntKind.wrap .u32 (g x6))))
section
variable (f g:Nat→Int)
def Re (f g:Nat→Int):Nat→(Nat→Int)
 |0=>f
 |x6+1=>Xw g x6 (Re f g x6)
def Abc:(Nat→Int):=Re f g 256
def Ba:(Nat→Int):=AJ (Abc f g)
theorem Abd:Ba f g=Abc f g:=Af _
def Afi (z_:(Nat→Int):=Ba f g):Con:=⟨[.ar .u16 256 f,.ar .u16 256 g],[],.ar .u16 256 z_,[]⟩
theorem Ij:ConOk Tryz.prog 151 (Afi f g):=by
 refine cy 0 Tryz.func151 rfl Tryz.ntmps151 fun hg0 hS=>Ae [] 3 hS fun hS=>Au (Ae [] 3 hS fun hS=>Br (Ar (ι:=Nat×(Nat→Int)) hg0 hS (fun(x6,o2_0)=>(256-x6,[(6,vi ((x6:Nat):Int))],[(0,MQ o2_0)],(x6≤256)∧(o2_0=Re f g x6)∧True)) [2,3,4] [1,2] 3 (0,f) [(0,0),(1,1),(2,2)] ⟨Ac,rfl,trivial⟩ ?_))
 rintro⟨x6,o2_0⟩ ac gs ws ⟨hx6,hq1,_⟩ hS
 refine Ae [] 3 hS fun hS=>Au (AB ((x6:Int)<256) hS (fun h1=> ?_) (fun h1=> ?_))
 ·exact BG (Ae [] 3 hS fun hS=>Av [(2,AG x6 256),(6,AG x6 256),(10,AR (GX (AZ .u32 (IntKind.wrap .u32 (o2_0 x6)) (IntKind.wrap .u32 (g x6))))),(11,AG x6 256)] [] 3 hS fun hS=>BV (Av [(0,BQ x6)] [6] 3 hS fun hS=>Ab (Am hg0 hS (x6+1,upd o2_0 x6 (Dc (AZ .u32 (IntKind.wrap .u32 (o2_0 x6)) (IntKind.wrap .u32 (g x6))))) [(0,0),(1,1),(2,2)] ⟨Ac,(A2 (st:=Xw _) hq1 rfl rfl),trivial⟩)))
 ·have hT:=hS
  obtain rfl:256=x6:=by omega
  obtain rfl:=hq1.symm
  have hS:=hT
  exact CX (Ae [] 3 hS fun hS=>AU (Bh (Abd ..) hS))
end
def Vw (g:Nat→Int) (x6:Nat):(Nat→Int)→(Nat→Int):=fun o2_0=>upd o2_0 x6 (Dc (Eu .u32 (AZ .u32 (IntKind.wrap .u32 (o2_0 x6)) 3329) (IntKind.wrap .u32 (CV (g x6) 3329))))
section
variable (f g:Nat→Int)
def XR (f g:Nat→Int):Nat→(Nat→Int)
 |0=>f
 |x6+1=>Vw g x6 (XR f g x6)
def Aax:(Nat→Int):=XR f g 256
def J0:(Nat→Int):=AJ (Aax f g)
theorem AdU:J0 f g=Aax f g:=Af _
def AeZ (z_:(Nat→Int):=J0 f g):Con:=⟨[.ar .u16 256 f,.ar .u16 256 g],[],.ar .u16 256 z_,[]⟩
theorem Abk:ConOk Tryz.prog 196 (AeZ f g):=by
 refine cy 0 Tryz.func196 rfl Tryz.ntmps196 fun hg0 hS=>Ae [] 3 hS fun hS=>Au (Ae [] 3 hS fun hS=>Br (Ar (ι:=Nat×(Nat→Int)) hg0 hS (fun(x6,o2_0)=>(256-x6,[(6,vi ((x6:Nat):Int))],[(0,MQ o2_0)],(x6≤256)∧(o2_0=XR f g x6)∧True)) [2,3,4] [1,2] 3 (0,f) [(0,0),(1,1),(2,2)] ⟨Ac,rfl,trivial⟩ ?_))
 rintro⟨x6,o2_0⟩ ac gs ws ⟨hx6,hq1,_⟩ hS
 refine Ae [] 3 hS fun hS=>Au (AB ((x6:Int)<256) hS (fun h1=> ?_) (fun h1=> ?_))
 ·exact BG (Ae [] 3 hS fun hS=>Av [(2,AG x6 256),(7,AG x6 256),(9,OL ((3329:Int)≠0)),(12,AR (GX (Eu .u32 (AZ .u32 (IntKind.wrap .u32 (o2_0 x6)) 3329) (IntKind.wrap .u32 (CV (g x6) 3329))))),(13,AG x6 256)] [] 3 hS fun hS=>BV (Av [(0,BQ x6)] [6] 3 hS fun hS=>Ab (Am hg0 hS (x6+1,upd o2_0 x6 (Dc (Eu .u32 (AZ .u32 (IntKind.wrap .u32 (o2_0 x6)) 3329) (IntKind.wrap .u32 (CV (g x6) 3329))))) [(0,0),(1,1),(2,2)] ⟨Ac,(A2 (st:=Vw _) hq1 rfl rfl),trivial⟩)))
 ·have hT:=hS
  obtain rfl:256=x6:=by omega
  obtain rfl:=hq1.symm
  have hS:=hT
  exact CX (Ae [] 3 hS fun hS=>AU (Bh (AdU ..) hS))
end
def NA (x3:Nat):(Int×Int)→(Int×Int):=fun(x0,x2)=>((AY .i64 x0 1),(C7 .i64 (Bd .i64 x2 1) (A5 .i64 x0 1)))
section
variable (i:Nat)
def M3 (i:Nat):Nat→Int×Int
 |0=>((i:Int),0)
 |x3+1=>NA x3 (M3 i x3)
def Lq:Int:=((M3 i 7).2)
def Gg:Int:=AJ (Lq i)
theorem Vo:Gg i=Lq i:=Af _
theorem cI (h:i<128):0≤Gg i∧Gg i<128:=by
 have key:((List.range 128).all fun i=>decide (0≤Lq i)&&decide (Lq i<128))=true:=by kernel_rfl
 have :=List.all_eq_true.1 key i (List.mem_range.2 h)
 rw[Bool.and_eq_true,decide_eq_true_iff,decide_eq_true_iff]at this
 rw[Vo]
 exact this
def qJ (z_:Int:=Gg i):Con:=⟨[vi (i:Int)],[],vi z_,[]⟩
theorem cH (h:i<128):ConOk Tryz.prog 200 (qJ i):=by
 refine cy 0 Tryz.func200 rfl Tryz.ntmps200 fun hg0 hS=>Ae [] 0 hS fun hS=>Au (Ae [] 0 hS fun hS=>Br (Ar (ι:=Nat×Int×Int) hg0 hS (fun(x3,x0,x2)=>(7-x3,[(0,vi x0),(2,vi x2),(3,vi ((x3:Nat):Int))],[],(x3≤7)∧((x0,x2)=M3 i x3)∧True)) [] [] 0 (0,(i:Int),0) [] ⟨Ac,rfl,trivial⟩ ?_))
 rintro⟨x3,x0,x2⟩ ac gs ws ⟨hx3,hq1,_⟩ hS
 refine Ae [] 0 hS fun hS=>Au (AB ((x3:Int)<7) hS (fun h1=> ?_) (fun h1=> ?_))
 ·exact BG (Ay [(1,EL 1)] [2] 0 hS fun hS=>Av [(1,EL 1)] [0] 0 hS fun hS=>BV (Av [(0,BQ x3)] [3] 0 hS fun hS=>Ab (Am hg0 hS (x3+1,(AY .i64 x0 1),(C7 .i64 (Bd .i64 x2 1) (A5 .i64 x0 1))) [] ⟨Ac,(A2 (st:=NA) hq1 rfl rfl),trivial⟩)))
 ·have hT:=hS
  obtain rfl:7=x3:=by omega
  obtain⟨rfl,rfl⟩:=TZ hq1
  have hS:=hT
  exact CX (Ae [2] 0 hS fun hS=>AU (Bh (Vo ..) hS))
end
def OR (k1:Nat):(Nat×(Nat→Int))→(Nat×(Nat→Int)):=fun(x2,o1_0)=>(x2+1,upd o1_0 x2 (CV (BJ .u32 (o1_0 (Int.toNat (((x2:Nat):Int)-1))) 17) 3329))
def Gf:Nat→Nat×(Nat→Int)
 |0=>(1,upd (fun _=>0) 0 1)
 |k1+1=>OR k1 (Gf k1)
def Ki:(Nat×(Nat→Int))→Prop:=fun(x2,o1_0)=>((x2:Nat):Int)<128
def OP (x17:Nat):(Nat→Int)→(Nat→Int):=fun o0_0=>upd o0_0 x17 (((Gf (CU fun j=>Ki (Gf j))).2) (Int.toNat (Gg x17)))
def OQ:Nat→(Nat→Int)
 |0=>fun _=>0
 |x17+1=>OP x17 (OQ x17)
def Zm:(Nat→Int):=OQ 128
def CN:(Nat→Int):=AJ (Zm)
theorem tR:CN=Zm:=Af _
def xW (z_:(Nat→Int):=CN):Con:=⟨[],[],.ar .u32 128 z_,[]⟩
theorem OO:ConOk Tryz.prog 176 (xW):=by
 refine cy 0 Tryz.func176 rfl Tryz.ntmps176 fun hg0 hS=>Ae [] 1 hS fun hS=>Ae [] 2 hS fun hS=>Ay [(0,AG 0 128)] [] 2 hS fun hS=>Au (Ae [] 2 hS fun hS=>Br (Ar (ι:=Nat×Nat×(Nat→Int)) hg0 hS (fun(k1,x2,o1_0)=>(128-x2,[(2,vi (x2:Int))],[(1,.ob 233 (chain [.ar .u32 128 o1_0]))],((x2,o1_0)=Gf k1)∧(∀j,j<k1→Ki (Gf j))∧(x2≤128)∧(1≤x2)∧True)) [0,1] [0] 2 (0,1,upd (fun _=>0) 0 1) [(0,0),(1,1)] ⟨rfl,(fun j h=>absurd h (Nat.not_lt_zero j)),Ac,Ac,trivial⟩ ?_))
 rintro⟨k1,x2,o1_0⟩ ac gs ws ⟨hq1,hj1,p1,p2,_⟩ hS
 refine Au (Ae [] 2 hS fun hS=>AB ((x2:Int)<128) hS (fun h1=> ?_) (fun h1=> ?_))
 ·exact BG (Av [(2,gV (x2:Int) 1),(3,XF ((x2:Int)-1) 128),(6,OL ((3329:Int)≠0)),(7,AG x2 128)] [] 2 hS fun hS=>BV (Av [(1,BQ x2)] [2] 2 hS fun hS=>Ab (Am hg0 hS (k1+1,x2+1,upd o1_0 x2 (CV (BJ .u32 (o1_0 (Int.toNat ((x2:Int)-1))) 17) 3329)) [(0,0),(1,1)] ⟨(A2 (st:=OR) hq1 rfl rfl),(A1 hj1 (by rw[←hq1];exact h1)),Ac,Ac,trivial⟩)))
 ·have hT:=hS
  obtain rfl:=BP (by rw[←hq1];first |exact h1|exact not_not_intro h1) hj1
  obtain⟨rfl,rfl⟩:=TZ hq1
  have hS:=hT
  refine MY (Ae [] 2 hS fun hS=>Br (Ar (ι:=Nat×(Nat→Int)) hg0 hS (fun(x17,o0_0)=>(128-x17,[(17,vi ((x17:Nat):Int))],[(0,.ob 233 (chain [.ar .u32 128 o0_0]))],(x17≤128)∧(o0_0=OQ x17)∧True)) [0,1] [1] 2 (0,fun _=>0) [(0,0),(1,1)] ⟨Ac,rfl,trivial⟩ ?_))
  rintro⟨x17,o0_0⟩ ac gs ws ⟨hx17,hq2,_⟩ hS
  refine Ae [] 2 hS fun hS=>Au (AB ((x17:Int)<128) hS (fun h2=> ?_) (fun h2=> ?_))
  ·refine BG (Ae [] 2 hS fun hS=> ?_)
   have ht:=cI x17 Ac
   exact Av [(2,AR (cH x17 Ac)),(3,XF (Gg x17) 128),(5,AG x17 128)] [] 2 hS fun hS=>BV (Av [(0,BQ x17)] [17] 2 hS fun hS=>Ab (Am hg0 hS (x17+1,upd o0_0 x17 (((Gf (CU fun j=>Ki (Gf j))).2) (Int.toNat (Gg x17)))) [(0,0),(1,1)] ⟨Ac,(A2 (st:=OP) hq2 rfl rfl),trivial⟩))
  ·have hT:=hS
   obtain rfl:128=x17:=by omega
   obtain rfl:=hq2.symm
   have hS:=hT
   exact CX (Ae [] 2 hS fun hS=>AU (Bh (tR ..) hS))
def PW (h:Nat):Prop:=h=1∨h=2∨h=4∨h=8∨h=16∨h=32∨h=64∨h=128
theorem Aeb {h k:Nat} (h2:2≤h) (hh:PW h) (hk:k*h=128):k*(2*h)=256+0∧PW (h/2)∧h≤128:=by
 unfold PW at hh⊢
 rcases hh with rfl|rfl|rfl|rfl|rfl|rfl|rfl|rfl<;>omega
theorem Aea {h k f:Nat} (h2:2≤h) (hh:PW h) (hk:k*(2*h)=256+f) (hf:f<256):f+2*h≤256∧k<128∧(k+1)*(2*h)=256+(f+2*h):=by
 unfold PW at hh
 rcases hh with rfl|rfl|rfl|rfl|rfl|rfl|rfl|rfl<;>omega
theorem Ad9 {h k f:Nat} (h2:2≤h) (hh:PW h) (hk:k*(2*h)=256+f) (hf:f=256):k*(h/2)=128:=by
 unfold PW at hh
 rcases hh with rfl|rfl|rfl|rfl|rfl|rfl|rfl|rfl<;>omega
def Wk (x5 x4_2 k3:Nat):(Nat×(Nat→Int))→(Nat×(Nat→Int)):=fun(x7,o1_0_3)=>(x7+1,upd (upd o1_0_3 x7 (Dc (AZ .u32 (IntKind.wrap .u32 (o1_0_3 x7)) (CV (BJ .u32 (CN x4_2) (IntKind.wrap .u32 (o1_0_3 (x7+x5)))) 3329)))) (x7+x5) (Dc (Eu .u32 (AZ .u32 (IntKind.wrap .u32 (o1_0_3 x7)) 3329) (CV (BJ .u32 (CN x4_2) (IntKind.wrap .u32 (o1_0_3 (x7+x5)))) 3329))))
def KE (x5 x4_2 x6:Nat) (o1_0_2:Nat→Int):Nat→Nat×(Nat→Int)
 |0=>(x6,o1_0_2)
 |k3+1=>Wk x5 x4_2 k3 (KE x5 x4_2 x6 o1_0_2 k3)
def Qc (x5 x6:Nat):(Nat×(Nat→Int))→Prop:=fun(x7,o1_0_3)=>((x7:Nat):Int)<((x6+x5:Nat):Int)
def Wl (x5 k2:Nat):(Nat×Nat×(Nat→Int))→(Nat×Nat×(Nat→Int)):=fun(x4_2,x6,o1_0_2)=>(x4_2+1,x6+(2*x5),(KE x5 x4_2 x6 o1_0_2 (CU fun j=>Qc x5 x6 (KE x5 x4_2 x6 o1_0_2 j))).2)
def Gp (x4 x5:Nat) (o1_0:Nat→Int):Nat→Nat×Nat×(Nat→Int)
 |0=>(x4,0,o1_0)
 |k2+1=>Wl x5 k2 (Gp x4 x5 o1_0 k2)
def IU:(Nat×Nat×(Nat→Int))→Prop:=fun(x4_2,x6,o1_0_2)=>(x6:Int)<256
def Wm (k1:Nat):(Nat×Nat×(Nat→Int))→(Nat×Nat×(Nat→Int)):=fun(x4,x5,o1_0)=>((Gp x4 x5 o1_0 (CU fun j=>IU (Gp x4 x5 o1_0 j))).1,x5/2,(Gp x4 x5 o1_0 (CU fun j=>IU (Gp x4 x5 o1_0 j))).2.2)
def Qd (f:Nat→Int):Nat→Nat×Nat×(Nat→Int)
 |0=>(1,128,Ba f (fun _=>0))
 |k1+1=>Wm k1 (Qd f k1)
def Wn:(Nat×Nat×(Nat→Int))→Prop:=fun(x4,x5,o1_0)=>(2:Int)≤(x5:Int)
section
variable (f:Nat→Int)
def AaI:(Nat→Int):=(Qd f (CU fun j=>Wn (Qd f j))).2.2
def Sz:(Nat→Int):=AJ (AaI f)
theorem Ad8:Sz f=AaI f:=Af _
def Ae9 (z_:(Nat→Int):=Sz f):Con:=⟨[.ar .u16 256 f],[],.ar .u16 256 z_,[]⟩
theorem mO:ConOk Tryz.prog 150 (Ae9 f):=by
 refine cy 0 Tryz.func150 rfl Tryz.ntmps150 fun hg0 hS=>Ae [] 2 hS fun hS=>Ay [(0,GC (.ar .u16 256 f) [(.ar .u16 256 f:D)=(.ar .u16 256 f)] ⟨rfl,trivial⟩),(2,Ix (Ij f (fun _=>0)) [] [] [.ar .u16 256 f,.ar .u16 256 (fun _=>0)] [])] [] 2 hS fun hS=>Ay [(0,AR (OO))] [3] 3 hS fun hS=>Au (Ae [] 3 hS fun hS=>Br (Ar (ι:=Nat×Nat×Nat×(Nat→Int)) hg0 hS (fun(k1,x4,x5,o1_0)=>(x5,[(4,vi (x4:Int)),(5,vi (x5:Int))],[(0,MQ o1_0)],((x4,x5,o1_0)=Qd f k1)∧(∀j,j<k1→Wn (Qd f j))∧(PW x5)∧(x4*x5=128)∧True)) [1,2,3] [1,2] 3 (0,1,128,Ba f (fun _=>0)) [(0,0),(1,1),(2,2)] ⟨rfl,(fun j h=>absurd h (Nat.not_lt_zero j)),(by unfold PW;omega),rfl,trivial⟩ ?_))
 rintro⟨k1,x4,x5,o1_0⟩ ac gs ws ⟨hq1,hj1,pw,pk,_⟩ hS
 refine Au (Ae [] 3 hS fun hS=>AB ((2:Int)≤(x5:Int)) hS (fun h1=> ?_) (fun h1=> ?_))
 ·refine BG (Au ?_)
  have pa:=Aeb Ac pw pk
  refine Dn [] 3 hS fun hS=>Ab (Br (Ar (ι:=Nat×Nat×Nat×(Nat→Int)) hg0 hS (fun(k2,x4_2,x6,o1_0_2)=>(256-x6,[(4,vi (x4_2:Int)),(6,vi (x6:Int))],[(0,MQ o1_0_2)],((x4_2,x6,o1_0_2)=Gp x4 x5 o1_0 k2)∧(∀j,j<k2→IU (Gp x4 x5 o1_0 j))∧(x4_2*(2*x5)=256+x6)∧(x6≤256)∧True)) [1,2,3,5] [1,2] 3 (0,x4,0,o1_0) [(0,0),(1,1),(2,2)] ⟨rfl,(fun j h=>absurd h (Nat.not_lt_zero j)),pa.1,Ac,trivial⟩ ?_))
  rintro⟨k2,x4_2,x6,o1_0_2⟩ ac gs ws ⟨hq2,hj2,p2,p3,_⟩ hS
  refine Au (Ae [] 3 hS fun hS=>AB ((x6:Int)<256) hS (fun h2=> ?_) (fun h2=> ?_))
  ·refine BG (JN ?_)
   have pb:=Aea Ac pw p2 Ac
   refine Dn [] 3 hS fun hS=>Ab (Br (Ar (ι:=Nat×Nat×(Nat→Int)) hg0 hS (fun(k3,x7,o1_0_3)=>(x6+x5-x7,[(7,vi (x7:Int))],[(0,MQ o1_0_3)],((x7,o1_0_3)=KE x5 x4_2 x6 o1_0_2 k3)∧(∀j,j<k3→Qc x5 x6 (KE x5 x4_2 x6 o1_0_2 j))∧(x6≤x7)∧(x7≤x6+x5)∧True)) [1,2,3,4,5,6] [1,2] 3 (0,x6,o1_0_2) [(0,0),(1,1),(2,2)] ⟨rfl,(fun j h=>absurd h (Nat.not_lt_zero j)),Ac,Ac,trivial⟩ ?_))
   rintro⟨k3,x7,o1_0_3⟩ ac gs ws ⟨hq3,hj3,p4,p5,_⟩ hS
   refine Au (Ay [(3,DI x6 x5 (x6+x5))] [] 3 hS fun hS=>AB ((x7:Int)<((x6+x5:Nat):Int)) hS (fun h3=> ?_) (fun h3=> ?_))
   ·exact BG (Ay [(1,AG x4_2 128),(5,DI x7 x5 (x7+x5)),(6,AG (x7+x5) 256),(10,OL ((3329:Int)≠0))] [] 3 hS fun hS=>Av [(3,DI x7 x5 (x7+x5)),(5,AG x7 256),(10,AR (GX (AZ .u32 (IntKind.wrap .u32 (o1_0_3 x7)) (CV (BJ .u32 (CN x4_2) (IntKind.wrap .u32 (o1_0_3 (x7+x5)))) 3329)))),(12,AG x7 256),(18,AR (GX (Eu .u32 (AZ .u32 (IntKind.wrap .u32 (o1_0_3 x7)) 3329) (CV (BJ .u32 (CN x4_2) (IntKind.wrap .u32 (o1_0_3 (x7+x5)))) 3329)))),(19,AG x7 256),(21,AG (x7+x5) 256)] [] 3 hS fun hS=>BV (Av [(1,BQ x7)] [7] 3 hS fun hS=>Ab (Am hg0 hS (k3+1,x7+1,upd (upd o1_0_3 x7 (Dc (AZ .u32 (IntKind.wrap .u32 (o1_0_3 x7)) (CV (BJ .u32 (CN x4_2) (IntKind.wrap .u32 (o1_0_3 (x7+x5)))) 3329)))) (x7+x5) (Dc (Eu .u32 (AZ .u32 (IntKind.wrap .u32 (o1_0_3 x7)) 3329) (CV (BJ .u32 (CN x4_2) (IntKind.wrap .u32 (o1_0_3 (x7+x5)))) 3329)))) [(0,0),(1,1),(2,2)] ⟨(A2 (st:=Wk _ _) hq3 rfl rfl),(A1 hj3 (by rw[←hq3];exact h3)),Ac,Ac,trivial⟩)))
   ·have hT:=hS
    obtain rfl:=BP (by rw[←hq3];first |exact h3|exact not_not_intro h3) hj3
    obtain⟨rfl,rfl⟩:=TZ hq3
    have hS:=hT
    exact CX (Av [(1,BQ x4_2)] [4] 3 hS fun hS=>BV (Av [(2,GE 2 x5 (2*x5)),(3,DI x6 (2*x5) (x6+(2*x5)))] [6] 3 hS fun hS=>Ab (Am hg0 hS (k2+1,x4_2+1,x6+(2*x5),(KE x5 x4_2 x6 o1_0_2 (CU fun j=>Qc x5 x6 (KE x5 x4_2 x6 o1_0_2 j))).2) [(0,0),(1,1),(2,2)] ⟨(A2 (st:=Wl _) hq2 rfl rfl),(A1 hj2 (by rw[←hq2];exact h2)),pb.2.2,pb.1,trivial⟩)))
  ·have hT:=hS
   have pe:=Ad9 Ac pw p2 Ac
   have pn:=pa.2.1
   obtain rfl:=BP (by rw[←hq2];first |exact h2|exact not_not_intro h2) hj2
   obtain⟨rfl,rfl,rfl⟩:=lX hq2
   have hS:=hT
   exact Vh (Av [(1,Td x5 2)] [5] 3 hS fun hS=>Ab (Am hg0 hS (k1+1,(Gp x4 x5 o1_0 (CU fun j=>IU (Gp x4 x5 o1_0 j))).1,x5/2,(Gp x4 x5 o1_0 (CU fun j=>IU (Gp x4 x5 o1_0 j))).2.2) [(0,0),(1,1),(2,2)] ⟨(A2 (st:=Wm) hq1 rfl rfl),(A1 hj1 (by rw[←hq1];exact h1)),pn,pe,trivial⟩))
 ·have hT:=hS
  obtain rfl:=BP (by rw[←hq1];first |exact h1|exact not_not_intro h1) hj1
  obtain⟨rfl,rfl,rfl⟩:=lX hq1
  have hS:=hT
  exact CX (Ae [] 3 hS fun hS=>AU (Bh (Ad8 ..) hS))
end
end
end Go.Sx.Tryz
namespace Go.Sx.Tryz
open Go.Mi Go.RowKit Go.Sx Go.Proofs
noncomputable section
def PQ (h:Nat):Prop:=h=2∨h=4∨h=8∨h=16∨h=32∨h=64∨h=128∨h=256
set_option maxRecDepth 10000 in
theorem Aeo {h k:Nat} (h2:h≤128) (hh:PQ h) (hk:(k+1)*h=256):(k+1)*(2*h)+0=512∧PQ (h*2)∧1≤h:=by
 unfold PQ at hh⊢
 rcases hh with rfl|rfl|rfl|rfl|rfl|rfl|rfl|rfl<;>omega
set_option maxRecDepth 10000 in
theorem Aen {h k f:Nat} (h2:h≤128) (hh:PQ h) (hk:(k+1)*(2*h)+f=512) (hf:f<256):f+2*h≤256∧k<128∧1≤k∧(k-1+1)*(2*h)+(f+2*h)=512∧2≤h:=by
 unfold PQ at hh
 rcases hh with rfl|rfl|rfl|rfl|rfl|rfl|rfl|rfl<;>omega
set_option maxRecDepth 10000 in
theorem Aem {h k f:Nat} (h2:h≤128) (hh:PQ h) (hk:(k+1)*(2*h)+f=512) (hf:f=256):(k+1)*(h*2)=256:=by
 unfold PQ at hh
 rcases hh with rfl|rfl|rfl|rfl|rfl|rfl|rfl|rfl<;>omega
def Mg (x5 x4_2 k3:Nat):(Nat×(Nat→Int))→(Nat×(Nat→Int)):=fun(x7,o1_0_3)=>(x7+1,upd (upd o1_0_3 x7 (Dc (AZ .u32 (IntKind.wrap .u32 (o1_0_3 x7)) (IntKind.wrap .u32 (o1_0_3 (x7+x5)))))) (x7+x5) (Dc (BJ .u32 (CN x4_2) (Eu .u32 (AZ .u32 (IntKind.wrap .u32 ((upd o1_0_3 x7 (Dc (AZ .u32 (IntKind.wrap .u32 (o1_0_3 x7)) (IntKind.wrap .u32 (o1_0_3 (x7+x5)))))) (x7+x5))) 3329) (IntKind.wrap .u32 (o1_0_3 x7))))))
def Ev (x5 x4_2 x6:Nat) (o1_0_2:Nat→Int):Nat→Nat×(Nat→Int)
 |0=>(x6,o1_0_2)
 |k3+1=>Mg x5 x4_2 k3 (Ev x5 x4_2 x6 o1_0_2 k3)
def H2 (x5 x6:Nat):(Nat×(Nat→Int))→Prop:=fun(x7,o1_0_3)=>((x7:Nat):Int)<((x6+x5:Nat):Int)
def Mh (x5 k2:Nat):(Nat×Nat×(Nat→Int))→(Nat×Nat×(Nat→Int)):=fun(x4_2,x6,o1_0_2)=>(x4_2-1,x6+(2*x5),(Ev x5 x4_2 x6 o1_0_2 (CU fun j=>H2 x5 x6 (Ev x5 x4_2 x6 o1_0_2 j))).2)
def CE (x4 x5:Nat) (o1_0:Nat→Int):Nat→Nat×Nat×(Nat→Int)
 |0=>(x4,0,o1_0)
 |k2+1=>Mh x5 k2 (CE x4 x5 o1_0 k2)
def EW:(Nat×Nat×(Nat→Int))→Prop:=fun(x4_2,x6,o1_0_2)=>(x6:Int)<256
def Mj (k1:Nat):(Nat×Nat×(Nat→Int))→(Nat×Nat×(Nat→Int)):=fun(x4,x5,o1_0)=>((CE x4 x5 o1_0 (CU fun j=>EW (CE x4 x5 o1_0 j))).1,x5*2,(CE x4 x5 o1_0 (CU fun j=>EW (CE x4 x5 o1_0 j))).2.2)
def Ew (f:Nat→Int):Nat→Nat×Nat×(Nat→Int)
 |0=>(127,2,Ba f (fun _=>0))
 |k1+1=>Mj k1 (Ew f k1)
def H3:(Nat×Nat×(Nat→Int))→Prop:=fun(x4,x5,o1_0)=>(x5:Int)≤128
def Mf (x67:Nat):(Nat→Int)→(Nat→Int):=fun o1_0=>upd o1_0 x67 (Dc (BJ .u32 (IntKind.wrap .u32 (o1_0 x67)) 3303))
section
variable (f:Nat→Int)
def KL (f:Nat→Int):Nat→(Nat→Int)
 |0=>(Ew f (CU fun j=>H3 (Ew f j))).2.2
 |x67+1=>Mf x67 (KL f x67)
def SF:(Nat→Int):=KL f 256
def AL:(Nat→Int):=AJ (SF f)
theorem d6:AL f=SF f:=Af _
def fV (z_:(Nat→Int):=AL f):Con:=⟨[.ar .u16 256 f],[],.ar .u16 256 z_,[]⟩
theorem KJ:ConOk Tryz.prog 197 (fV f):=by
 refine cy 0 Tryz.func197 rfl Tryz.ntmps197 fun hg0 hS=>Ae [] 2 hS fun hS=>Ay [(0,GC (.ar .u16 256 f) [(.ar .u16 256 f:D)=(.ar .u16 256 f)] ⟨rfl,trivial⟩),(2,Ix (Ij f (fun _=>0)) [] [] [.ar .u16 256 f,.ar .u16 256 (fun _=>0)] [])] [] 2 hS fun hS=>Ay [(0,AR (OO))] [3] 3 hS fun hS=>Au (Ae [] 3 hS fun hS=>Br (Ar (ι:=Nat×Nat×Nat×(Nat→Int)) hg0 hS (fun(k1,x4,x5,o1_0)=>(256-x5,[(4,vi (x4:Int)),(5,vi (x5:Int))],[(0,MQ o1_0)],((x4,x5,o1_0)=Ew f k1)∧(∀j,j<k1→H3 (Ew f j))∧(PQ x5)∧((x4+1)*x5=256)∧True)) [1,2,3] [1,2] 3 (0,127,2,Ba f (fun _=>0)) [(0,0),(1,1),(2,2)] ⟨rfl,(fun j h=>absurd h (Nat.not_lt_zero j)),(by unfold PQ;omega),rfl,trivial⟩ ?_))
 rintro⟨k1,x4,x5,o1_0⟩ ac gs ws ⟨hq1,hj1,pw,pk,_⟩ hS
 refine Au (Ae [] 3 hS fun hS=>AB ((x5:Int)≤128) hS (fun h1=> ?_) (fun h1=> ?_))
 ·refine BG (Au ?_)
  have pa:=Aeo Ac pw pk
  refine Dn [] 3 hS fun hS=>Ab (Br (Ar (ι:=Nat×Nat×Nat×(Nat→Int)) hg0 hS (fun(k2,x4_2,x6,o1_0_2)=>(256-x6,[(4,vi (x4_2:Int)),(6,vi (x6:Int))],[(0,MQ o1_0_2)],((x4_2,x6,o1_0_2)=CE x4 x5 o1_0 k2)∧(∀j,j<k2→EW (CE x4 x5 o1_0 j))∧((x4_2+1)*(2*x5)+x6=512)∧(x6≤256)∧True)) [1,2,3,5] [1,2] 3 (0,x4,0,o1_0) [(0,0),(1,1),(2,2)] ⟨rfl,(fun j h=>absurd h (Nat.not_lt_zero j)),pa.1,Ac,trivial⟩ ?_))
  rintro⟨k2,x4_2,x6,o1_0_2⟩ ac gs ws ⟨hq2,hj2,p2,p3,_⟩ hS
  refine Au (Ae [] 3 hS fun hS=>AB ((x6:Int)<256) hS (fun h2=> ?_) (fun h2=> ?_))
  ·refine BG (JN ?_)
   have pb:=Aen Ac pw p2 Ac
   refine Dn [] 3 hS fun hS=>Ab (Br (Ar (ι:=Nat×Nat×(Nat→Int)) hg0 hS (fun(k3,x7,o1_0_3)=>(x6+x5-x7,[(7,vi (x7:Int))],[(0,MQ o1_0_3)],((x7,o1_0_3)=Ev x5 x4_2 x6 o1_0_2 k3)∧(∀j,j<k3→H2 x5 x6 (Ev x5 x4_2 x6 o1_0_2 j))∧(x6≤x7)∧(x7≤x6+x5)∧True)) [1,2,3,4,5,6] [1,2] 3 (0,x6,o1_0_2) [(0,0),(1,1),(2,2)] ⟨rfl,(fun j h=>absurd h (Nat.not_lt_zero j)),Ac,Ac,trivial⟩ ?_))
   rintro⟨k3,x7,o1_0_3⟩ ac gs ws ⟨hq3,hj3,p4,p5,_⟩ hS
   refine Au (Ay [(3,DI x6 x5 (x6+x5))] [] 3 hS fun hS=>AB ((x7:Int)<((x6+x5:Nat):Int)) hS (fun h3=> ?_) (fun h3=> ?_))
   ·exact BG (Ay [(1,AG x7 256)] [] 3 hS fun hS=>Ay [(4,DI x7 x5 (x7+x5)),(5,AG (x7+x5) 256),(9,AR (GX (AZ .u32 (IntKind.wrap .u32 (o1_0_3 x7)) (IntKind.wrap .u32 (o1_0_3 (x7+x5)))))),(10,AG x7 256)] [] 3 hS fun hS=>Av [(2,DI x7 x5 (x7+x5)),(4,AG x4_2 128),(8,DI x7 x5 (x7+x5)),(9,AG (x7+x5) 256),(16,AR (GX (BJ .u32 (CN x4_2) (Eu .u32 (AZ .u32 (IntKind.wrap .u32 ((upd o1_0_3 x7 (Dc (AZ .u32 (IntKind.wrap .u32 (o1_0_3 x7)) (IntKind.wrap .u32 (o1_0_3 (x7+x5)))))) (x7+x5))) 3329) (IntKind.wrap .u32 (o1_0_3 x7)))))),(17,AG (x7+x5) 256)] [] 3 hS fun hS=>BV (Av [(1,BQ x7)] [7] 3 hS fun hS=>Ab (Am hg0 hS (k3+1,x7+1,upd (upd o1_0_3 x7 (Dc (AZ .u32 (IntKind.wrap .u32 (o1_0_3 x7)) (IntKind.wrap .u32 (o1_0_3 (x7+x5)))))) (x7+x5) (Dc (BJ .u32 (CN x4_2) (Eu .u32 (AZ .u32 (IntKind.wrap .u32 ((upd o1_0_3 x7 (Dc (AZ .u32 (IntKind.wrap .u32 (o1_0_3 x7)) (IntKind.wrap .u32 (o1_0_3 (x7+x5)))))) (x7+x5))) 3329) (IntKind.wrap .u32 (o1_0_3 x7)))))) [(0,0),(1,1),(2,2)] ⟨(A2 (st:=Mg _ _) hq3 rfl rfl),(A1 hj3 (by rw[←hq3];exact h3)),Ac,Ac,trivial⟩)))
   ·have hT:=hS
    obtain rfl:=BP (by rw[←hq3];first |exact h3|exact not_not_intro h3) hj3
    obtain⟨rfl,rfl⟩:=TZ hq3
    have hS:=hT
    exact CX (Av [(1,GD x4_2 1 (x4_2-1))] [4] 3 hS fun hS=>BV (Av [(2,GE 2 x5 (2*x5)),(3,DI x6 (2*x5) (x6+(2*x5)))] [6] 3 hS fun hS=>Ab (Am hg0 hS (k2+1,x4_2-1,x6+(2*x5),(Ev x5 x4_2 x6 o1_0_2 (CU fun j=>H2 x5 x6 (Ev x5 x4_2 x6 o1_0_2 j))).2) [(0,0),(1,1),(2,2)] ⟨(A2 (st:=Mh _) hq2 rfl rfl),(A1 hj2 (by rw[←hq2];exact h2)),pb.2.2.2.1,pb.1,trivial⟩)))
  ·have hT:=hS
   have pe:=Aem Ac pw p2 Ac
   have pn:=pa.2.1
   have pz:=pa.2.2
   obtain rfl:=BP (by rw[←hq2];first |exact h2|exact not_not_intro h2) hj2
   obtain⟨rfl,rfl,rfl⟩:=lX hq2
   have hS:=hT
   exact Vh (Av [(1,GE x5 2 (x5*2))] [5] 3 hS fun hS=>Ab (Am hg0 hS (k1+1,(CE x4 x5 o1_0 (CU fun j=>EW (CE x4 x5 o1_0 j))).1,x5*2,(CE x4 x5 o1_0 (CU fun j=>EW (CE x4 x5 o1_0 j))).2.2) [(0,0),(1,1),(2,2)] ⟨(A2 (st:=Mj) hq1 rfl rfl),(A1 hj1 (by rw[←hq1];exact h1)),pn,pe,trivial⟩))
 ·have hT:=hS
  obtain rfl:=BP (by rw[←hq1];first |exact h1|exact not_not_intro h1) hj1
  obtain⟨rfl,rfl,rfl⟩:=lX hq1
  have hS:=hT
  refine MY (Ae [] 3 hS fun hS=>Br (Ar (ι:=Nat×(Nat→Int)) hg0 hS (fun(x67,o1_0)=>(256-x67,[(67,vi ((x67:Nat):Int))],[(0,MQ o1_0)],(x67≤256)∧(o1_0=KL f x67)∧True)) [1,2] [1] 2 (0,(Ew f (CU fun j=>H3 (Ew f j))).2.2) [(0,0),(1,1)] ⟨Ac,rfl,trivial⟩ ?_))
  rintro⟨x67,o1_0⟩ ac gs ws ⟨hx67,hq4,_⟩ hS
  refine Ae [] 2 hS fun hS=>Au (AB ((x67:Int)<256) hS (fun h4=> ?_) (fun h4=> ?_))
  ·exact BG (Ae [] 2 hS fun hS=>Av [(2,AG x67 256),(6,AR (GX (BJ .u32 (IntKind.wrap .u32 (o1_0 x67)) 3303))),(7,AG x67 256)] [] 2 hS fun hS=>BV (Av [(0,BQ x67)] [67] 2 hS fun hS=>Ab (Am hg0 hS (x67+1,upd o1_0 x67 (Dc (BJ .u32 (IntKind.wrap .u32 (o1_0 x67)) 3303))) [(0,0),(1,1)] ⟨Ac,(A2 (st:=Mf) hq4 rfl rfl),trivial⟩)))
  ·have hT:=hS
   obtain rfl:256=x67:=by omega
   obtain rfl:=hq4.symm
   have hS:=hT
   exact CX (Ae [] 2 hS fun hS=>AU (Bh (d6 ..) hS))
end
def Wv (g:Nat→Int) (k1:Nat):(Nat×(Nat→Int))→(Nat×(Nat→Int)):=fun(x6,o2_0)=>(x6+2,upd (upd o2_0 x6 (Dc (AZ .u32 (BJ .u32 (IntKind.wrap .u32 (o2_0 x6)) (IntKind.wrap .u32 ((Ba g (fun _=>0)) x6))) (BJ .u32 (CV (BJ .u32 (IntKind.wrap .u32 (o2_0 (x6+1))) (IntKind.wrap .u32 ((Ba g (fun _=>0)) (x6+1)))) 3329) (CV (BJ .u32 (CV (BJ .u32 (CN (x6/2)) (CN (x6/2))) 3329) 17) 3329))))) (x6+1) (Dc (AZ .u32 (BJ .u32 (IntKind.wrap .u32 (o2_0 x6)) (IntKind.wrap .u32 ((Ba g (fun _=>0)) (x6+1)))) (BJ .u32 (IntKind.wrap .u32 (o2_0 (x6+1))) (IntKind.wrap .u32 ((Ba g (fun _=>0)) x6))))))
def Qh (f g:Nat→Int):Nat→Nat×(Nat→Int)
 |0=>(0,Ba f (fun _=>0))
 |k1+1=>Wv g k1 (Qh f g k1)
def Ww:(Nat×(Nat→Int))→Prop:=fun(x6,o2_0)=>((x6:Nat):Int)<256
section
variable (f:Nat→Int)
def AaK (g:Nat→Int):(Nat→Int):=(Qh f g (CU fun j=>Ww (Qh f g j))).2
def aB (g:Nat→Int):(Nat→Int):=AJ (AaK f g)
theorem Aed (g:Nat→Int):aB f g=AaK f g:=Af _
def Afa (g:Nat→Int) (z_:(Nat→Int):=aB f g):Con:=⟨[.ar .u16 256 f,.ar .u16 256 g],[],.ar .u16 256 z_,[]⟩
theorem AbX (g:Nat→Int):ConOk Tryz.prog 180 (Afa f g):=by
 refine cy 0 Tryz.func180 rfl Tryz.ntmps180 fun hg0 hS=>Ae [] 3 hS fun hS=>Ay [(0,GC (.ar .u16 256 f) [(.ar .u16 256 f:D)=(.ar .u16 256 f)] ⟨rfl,trivial⟩),(2,Ix (Ij f (fun _=>0)) [] [] [.ar .u16 256 f,.ar .u16 256 (fun _=>0)] []),(3,GC (.ar .u16 256 g) [(.ar .u16 256 g:D)=(.ar .u16 256 g)] ⟨rfl,trivial⟩),(5,Ix (Ij g (fun _=>0)) [] [] [.ar .u16 256 g,.ar .u16 256 (fun _=>0)] [])] [] 3 hS fun hS=>Ay [(0,AR (OO))] [5] 4 hS fun hS=>Au (Ae [] 4 hS fun hS=>Br (Ar (ι:=Nat×Nat×(Nat→Int)) hg0 hS (fun(k1,x6,o2_0)=>(256-x6,[(6,vi (x6:Int))],[(0,MQ o2_0)],((x6,o2_0)=Qh f g k1)∧(∀j,j<k1→Ww (Qh f g j))∧(x6≤256)∧(x6%2=0)∧True)) [2,3,4,5] [1,2,3] 4 (0,0,Ba f (fun _=>0)) [(0,0),(1,1),(2,2),(3,3)] ⟨rfl,(fun j h=>absurd h (Nat.not_lt_zero j)),Ac,rfl,trivial⟩ ?_))
 rintro⟨k1,x6,o2_0⟩ ac gs ws ⟨hq1,hj1,p1,p2,_⟩ hS
 refine Au (Ae [] 4 hS fun hS=>AB ((x6:Int)<256) hS (fun h1=> ?_) (fun h1=> ?_))
 ·exact BG (Ay [(1,Td x6 2),(2,AG (x6/2) 128),(5,Td x6 2),(6,AG (x6/2) 128),(9,OL ((3329:Int)≠0)),(11,OL ((3329:Int)≠0))] [] 4 hS fun hS=>Ay [(1,AG x6 256),(5,BQ x6),(6,AG (x6+1) 256),(10,AG x6 256),(14,BQ x6),(15,AG (x6+1) 256)] [] 4 hS fun hS=>Av [(2,BQ x6),(9,OL ((3329:Int)≠0)),(13,AR (GX (AZ .u32 (BJ .u32 (IntKind.wrap .u32 (o2_0 x6)) (IntKind.wrap .u32 ((Ba g (fun _=>0)) x6))) (BJ .u32 (CV (BJ .u32 (IntKind.wrap .u32 (o2_0 (x6+1))) (IntKind.wrap .u32 ((Ba g (fun _=>0)) (x6+1)))) 3329) (CV (BJ .u32 (CV (BJ .u32 (CN (x6/2)) (CN (x6/2))) 3329) 17) 3329))))),(21,AR (GX (AZ .u32 (BJ .u32 (IntKind.wrap .u32 (o2_0 x6)) (IntKind.wrap .u32 ((Ba g (fun _=>0)) (x6+1)))) (BJ .u32 (IntKind.wrap .u32 (o2_0 (x6+1))) (IntKind.wrap .u32 ((Ba g (fun _=>0)) x6)))))),(22,AG x6 256),(24,AG (x6+1) 256)] [] 4 hS fun hS=>BV (Av [(1,DI x6 2 (x6+2))] [6] 4 hS fun hS=>Ab (Am hg0 hS (k1+1,x6+2,upd (upd o2_0 x6 (Dc (AZ .u32 (BJ .u32 (IntKind.wrap .u32 (o2_0 x6)) (IntKind.wrap .u32 ((Ba g (fun _=>0)) x6))) (BJ .u32 (CV (BJ .u32 (IntKind.wrap .u32 (o2_0 (x6+1))) (IntKind.wrap .u32 ((Ba g (fun _=>0)) (x6+1)))) 3329) (CV (BJ .u32 (CV (BJ .u32 (CN (x6/2)) (CN (x6/2))) 3329) 17) 3329))))) (x6+1) (Dc (AZ .u32 (BJ .u32 (IntKind.wrap .u32 (o2_0 x6)) (IntKind.wrap .u32 ((Ba g (fun _=>0)) (x6+1)))) (BJ .u32 (IntKind.wrap .u32 (o2_0 (x6+1))) (IntKind.wrap .u32 ((Ba g (fun _=>0)) x6)))))) [(0,0),(1,1),(2,2),(3,3)] ⟨(A2 (st:=Wv _) hq1 rfl rfl),(A1 hj1 (by rw[←hq1];exact h1)),Ac,Ac,trivial⟩)))
 ·have hT:=hS
  obtain rfl:=BP (by rw[←hq1];first |exact h1|exact not_not_intro h1) hj1
  obtain⟨rfl,rfl⟩:=TZ hq1
  have hS:=hT
  exact CX (Ae [] 4 hS fun hS=>AU (Bh (Aed ..) hS))
def Iq (x16:Nat):(Nat→Int)→(Nat→Int):=fun o2_0=>upd o2_0 x16 (IntKind.wrap .u16 (A5 .u32 (Me .u32 (AZ .u32 (Bd .u32 (IntKind.wrap .u32 (CV (f x16) 3329)) 11) 3329) 6658) 1023))
def G1 (f:Nat→Int):Nat→(Nat→Int)
 |0=>f
 |x16+1=>Iq f x16 (G1 f x16)
def MA:(Nat→Int):=G1 f 256
def B3:(Nat→Int):=AJ (MA f)
theorem UO:B3 f=MA f:=Af _
def UZ (z_:(Nat→Int):=B3 f):Con:=⟨[.ar .u16 256 f,vi 10],[],.tu (chain [.ar .u16 256 z_,vi 0]),[]⟩
theorem Ry:ConOk Tryz.prog 198 (UZ f):=by
 refine cy 0 Tryz.func198 rfl Tryz.ntmps198 fun hg0 hS=>Ae [] 2 hS fun hS=>Au (Ae [] 2 hS fun hS=>Ai hS (EK (Ae [] 2 hS fun hS=>Br (Ar (ι:=Nat×(Nat→Int)) hg0 hS (fun(x16,o2_0)=>(256-x16,[(16,vi ((x16:Nat):Int))],[(0,MQ o2_0)],(x16≤256)∧(o2_0=G1 f x16)∧True)) [1,2,4,5,15] [1] 2 (0,f) [(0,0),(1,1)] ⟨Ac,rfl,trivial⟩ ?_))))
 rintro⟨x16,o2_0⟩ ac gs ws ⟨hx16,hq1,_⟩ hS
 refine Ae [] 2 hS fun hS=>Au (AB ((x16:Int)<256) hS (fun h1=> ?_) (fun h1=> ?_))
 ·exact BG (Ay [(1,AG x16 256)] [] 2 hS fun hS=>Av [(2,OL ((3329:Int)≠0)),(6,EL 11),(8,OL ((6658:Int)≠0)),(10,EL 10),(14,AG x16 256)] [] 2 hS fun hS=>BV (Av [(0,BQ x16)] [16] 2 hS fun hS=>Ab (Am hg0 hS (x16+1,upd o2_0 x16 (IntKind.wrap .u16 (A5 .u32 (Me .u32 (AZ .u32 (Bd .u32 (IntKind.wrap .u32 (CV (f x16) 3329)) 11) 3329) 6658) 1023))) [(0,0),(1,1)] ⟨Ac,(A2 (st:=Iq _) hq1 rfl rfl),trivial⟩)))
 ·have hT:=hS
  obtain rfl:256=x16:=by omega
  obtain rfl:=hq1.symm
  have hS:=hT
  exact CX (Ae [] 2 hS fun hS=>AU (Bh (UO ..) hS))
def Ka (x16:Nat):(Nat→Int)→(Nat→Int):=fun o2_0=>upd o2_0 x16 (IntKind.wrap .u16 (AY .u32 (AZ .u32 (BJ .u32 (A5 .u32 (IntKind.wrap .u32 (f x16)) 1023) 3329) 512) 10))
def I6 (f:Nat→Int):Nat→(Nat→Int)
 |0=>f
 |x16+1=>Ka f x16 (I6 f x16)
def QD:(Nat→Int):=I6 f 256
def DW:(Nat→Int):=AJ (QD f)
theorem Yx:DW f=QD f:=Af _
def Y4 (z_:(Nat→Int):=DW f):Con:=⟨[.ar .u16 256 f,vi 10],[],.tu (chain [.ar .u16 256 z_,vi 0]),[]⟩
theorem WP:ConOk Tryz.prog 195 (Y4 f):=by
 refine cy 0 Tryz.func195 rfl Tryz.ntmps195 fun hg0 hS=>Ae [] 2 hS fun hS=>Au (Ae [] 2 hS fun hS=>Ai hS (EK (Ae [] 2 hS fun hS=>Br (Ar (ι:=Nat×(Nat→Int)) hg0 hS (fun(x16,o2_0)=>(256-x16,[(16,vi ((x16:Nat):Int))],[(0,MQ o2_0)],(x16≤256)∧(o2_0=I6 f x16)∧True)) [1,2,4,5,15] [1] 2 (0,f) [(0,0),(1,1)] ⟨Ac,rfl,trivial⟩ ?_))))
 rintro⟨x16,o2_0⟩ ac gs ws ⟨hx16,hq1,_⟩ hS
 refine Ae [] 2 hS fun hS=>Au (AB ((x16:Int)<256) hS (fun h1=> ?_) (fun h1=> ?_))
 ·exact BG (Ay [(1,AG x16 256)] [] 2 hS fun hS=>Av [(4,EL 10),(10,EL 9),(13,EL 10),(15,AG x16 256)] [] 2 hS fun hS=>BV (Av [(0,BQ x16)] [16] 2 hS fun hS=>Ab (Am hg0 hS (x16+1,upd o2_0 x16 (IntKind.wrap .u16 (AY .u32 (AZ .u32 (BJ .u32 (A5 .u32 (IntKind.wrap .u32 (f x16)) 1023) 3329) 512) 10))) [(0,0),(1,1)] ⟨Ac,(A2 (st:=Ka _) hq1 rfl rfl),trivial⟩)))
 ·have hT:=hS
  obtain rfl:256=x16:=by omega
  obtain rfl:=hq1.symm
  have hS:=hT
  exact CX (Ae [] 2 hS fun hS=>AU (Bh (Yx ..) hS))
def Jf (x16:Nat):(Nat→Int)→(Nat→Int):=fun o2_0=>upd o2_0 x16 (IntKind.wrap .u16 (A5 .u32 (Me .u32 (AZ .u32 (Bd .u32 (IntKind.wrap .u32 (CV (f x16) 3329)) 5) 3329) 6658) 15))
def Ic (f:Nat→Int):Nat→(Nat→Int)
 |0=>f
 |x16+1=>Jf f x16 (Ic f x16)
def NQ:(Nat→Int):=Ic f 256
def Cw:(Nat→Int):=AJ (NQ f)
theorem W9:Cw f=NQ f:=Af _
def Xp (z_:(Nat→Int):=Cw f):Con:=⟨[.ar .u16 256 f,vi 4],[],.tu (chain [.ar .u16 256 z_,vi 0]),[]⟩
theorem UM:ConOk Tryz.prog 198 (Xp f):=by
 refine cy 0 Tryz.func198 rfl Tryz.ntmps198 fun hg0 hS=>Ae [] 2 hS fun hS=>Au (Ae [] 2 hS fun hS=>Ai hS (EK (Ae [] 2 hS fun hS=>Br (Ar (ι:=Nat×(Nat→Int)) hg0 hS (fun(x16,o2_0)=>(256-x16,[(16,vi ((x16:Nat):Int))],[(0,MQ o2_0)],(x16≤256)∧(o2_0=Ic f x16)∧True)) [1,2,4,5,15] [1] 2 (0,f) [(0,0),(1,1)] ⟨Ac,rfl,trivial⟩ ?_))))
 rintro⟨x16,o2_0⟩ ac gs ws ⟨hx16,hq1,_⟩ hS
 refine Ae [] 2 hS fun hS=>Au (AB ((x16:Int)<256) hS (fun h1=> ?_) (fun h1=> ?_))
 ·exact BG (Ay [(1,AG x16 256)] [] 2 hS fun hS=>Av [(2,OL ((3329:Int)≠0)),(6,EL 5),(8,OL ((6658:Int)≠0)),(10,EL 4),(14,AG x16 256)] [] 2 hS fun hS=>BV (Av [(0,BQ x16)] [16] 2 hS fun hS=>Ab (Am hg0 hS (x16+1,upd o2_0 x16 (IntKind.wrap .u16 (A5 .u32 (Me .u32 (AZ .u32 (Bd .u32 (IntKind.wrap .u32 (CV (f x16) 3329)) 5) 3329) 6658) 15))) [(0,0),(1,1)] ⟨Ac,(A2 (st:=Jf _) hq1 rfl rfl),trivial⟩)))
 ·have hT:=hS
  obtain rfl:256=x16:=by omega
  obtain rfl:=hq1.symm
  have hS:=hT
  exact CX (Ae [] 2 hS fun hS=>AU (Bh (W9 ..) hS))
def Mp (x16:Nat):(Nat→Int)→(Nat→Int):=fun o2_0=>upd o2_0 x16 (IntKind.wrap .u16 (AY .u32 (AZ .u32 (BJ .u32 (A5 .u32 (IntKind.wrap .u32 (f x16)) 15) 3329) 8) 4))
def KW (f:Nat→Int):Nat→(Nat→Int)
 |0=>f
 |x16+1=>Mp f x16 (KW f x16)
def SO:(Nat→Int):=KW f 256
def Ce:(Nat→Int):=AJ (SO f)
theorem eE:Ce f=SO f:=Af _
def f7 (z_:(Nat→Int):=Ce f):Con:=⟨[.ar .u16 256 f,vi 4],[],.tu (chain [.ar .u16 256 z_,vi 0]),[]⟩
theorem Yv:ConOk Tryz.prog 195 (f7 f):=by
 refine cy 0 Tryz.func195 rfl Tryz.ntmps195 fun hg0 hS=>Ae [] 2 hS fun hS=>Au (Ae [] 2 hS fun hS=>Ai hS (EK (Ae [] 2 hS fun hS=>Br (Ar (ι:=Nat×(Nat→Int)) hg0 hS (fun(x16,o2_0)=>(256-x16,[(16,vi ((x16:Nat):Int))],[(0,MQ o2_0)],(x16≤256)∧(o2_0=KW f x16)∧True)) [1,2,4,5,15] [1] 2 (0,f) [(0,0),(1,1)] ⟨Ac,rfl,trivial⟩ ?_))))
 rintro⟨x16,o2_0⟩ ac gs ws ⟨hx16,hq1,_⟩ hS
 refine Ae [] 2 hS fun hS=>Au (AB ((x16:Int)<256) hS (fun h1=> ?_) (fun h1=> ?_))
 ·exact BG (Ay [(1,AG x16 256)] [] 2 hS fun hS=>Av [(4,EL 4),(10,EL 3),(13,EL 4),(15,AG x16 256)] [] 2 hS fun hS=>BV (Av [(0,BQ x16)] [16] 2 hS fun hS=>Ab (Am hg0 hS (x16+1,upd o2_0 x16 (IntKind.wrap .u16 (AY .u32 (AZ .u32 (BJ .u32 (A5 .u32 (IntKind.wrap .u32 (f x16)) 15) 3329) 8) 4))) [(0,0),(1,1)] ⟨Ac,(A2 (st:=Mp _) hq1 rfl rfl),trivial⟩)))
 ·have hT:=hS
  obtain rfl:256=x16:=by omega
  obtain rfl:=hq1.symm
  have hS:=hT
  exact CX (Ae [] 2 hS fun hS=>AU (Bh (eE ..) hS))
def Jg (x16:Nat):(Nat→Int)→(Nat→Int):=fun o2_0=>upd o2_0 x16 (IntKind.wrap .u16 (A5 .u32 (Me .u32 (AZ .u32 (Bd .u32 (IntKind.wrap .u32 (CV (f x16) 3329)) 2) 3329) 6658) 1))
def Ie (f:Nat→Int):Nat→(Nat→Int)
 |0=>f
 |x16+1=>Jg f x16 (Ie f x16)
def NR:(Nat→Int):=Ie f 256
def Dl:(Nat→Int):=AJ (NR f)
theorem W_:Dl f=NR f:=Af _
def Xq (z_:(Nat→Int):=Dl f):Con:=⟨[.ar .u16 256 f,vi 1],[],.tu (chain [.ar .u16 256 z_,vi 0]),[]⟩
theorem UN:ConOk Tryz.prog 198 (Xq f):=by
 refine cy 0 Tryz.func198 rfl Tryz.ntmps198 fun hg0 hS=>Ae [] 2 hS fun hS=>Au (Ae [] 2 hS fun hS=>Ai hS (EK (Ae [] 2 hS fun hS=>Br (Ar (ι:=Nat×(Nat→Int)) hg0 hS (fun(x16,o2_0)=>(256-x16,[(16,vi ((x16:Nat):Int))],[(0,MQ o2_0)],(x16≤256)∧(o2_0=Ie f x16)∧True)) [1,2,4,5,15] [1] 2 (0,f) [(0,0),(1,1)] ⟨Ac,rfl,trivial⟩ ?_))))
 rintro⟨x16,o2_0⟩ ac gs ws ⟨hx16,hq1,_⟩ hS
 refine Ae [] 2 hS fun hS=>Au (AB ((x16:Int)<256) hS (fun h1=> ?_) (fun h1=> ?_))
 ·exact BG (Ay [(1,AG x16 256)] [] 2 hS fun hS=>Av [(2,OL ((3329:Int)≠0)),(6,EL 2),(8,OL ((6658:Int)≠0)),(10,EL 1),(14,AG x16 256)] [] 2 hS fun hS=>BV (Av [(0,BQ x16)] [16] 2 hS fun hS=>Ab (Am hg0 hS (x16+1,upd o2_0 x16 (IntKind.wrap .u16 (A5 .u32 (Me .u32 (AZ .u32 (Bd .u32 (IntKind.wrap .u32 (CV (f x16) 3329)) 2) 3329) 6658) 1))) [(0,0),(1,1)] ⟨Ac,(A2 (st:=Jg _) hq1 rfl rfl),trivial⟩)))
 ·have hT:=hS
  obtain rfl:256=x16:=by omega
  obtain rfl:=hq1.symm
  have hS:=hT
  exact CX (Ae [] 2 hS fun hS=>AU (Bh (W_ ..) hS))
def Mq (x16:Nat):(Nat→Int)→(Nat→Int):=fun o2_0=>upd o2_0 x16 (IntKind.wrap .u16 (AY .u32 (AZ .u32 (BJ .u32 (A5 .u32 (IntKind.wrap .u32 (f x16)) 1) 3329) 1) 1))
def KY (f:Nat→Int):Nat→(Nat→Int)
 |0=>f
 |x16+1=>Mq f x16 (KY f x16)
def SP:(Nat→Int):=KY f 256
def BU:(Nat→Int):=AJ (SP f)
theorem eF:BU f=SP f:=Af _
def f8 (z_:(Nat→Int):=BU f):Con:=⟨[.ar .u16 256 f,vi 1],[],.tu (chain [.ar .u16 256 z_,vi 0]),[]⟩
theorem Yw:ConOk Tryz.prog 195 (f8 f):=by
 refine cy 0 Tryz.func195 rfl Tryz.ntmps195 fun hg0 hS=>Ae [] 2 hS fun hS=>Au (Ae [] 2 hS fun hS=>Ai hS (EK (Ae [] 2 hS fun hS=>Br (Ar (ι:=Nat×(Nat→Int)) hg0 hS (fun(x16,o2_0)=>(256-x16,[(16,vi ((x16:Nat):Int))],[(0,MQ o2_0)],(x16≤256)∧(o2_0=KY f x16)∧True)) [1,2,4,5,15] [1] 2 (0,f) [(0,0),(1,1)] ⟨Ac,rfl,trivial⟩ ?_))))
 rintro⟨x16,o2_0⟩ ac gs ws ⟨hx16,hq1,_⟩ hS
 refine Ae [] 2 hS fun hS=>Au (AB ((x16:Int)<256) hS (fun h1=> ?_) (fun h1=> ?_))
 ·exact BG (Ay [(1,AG x16 256)] [] 2 hS fun hS=>Av [(4,EL 1),(10,EL 0),(13,EL 1),(15,AG x16 256)] [] 2 hS fun hS=>BV (Av [(0,BQ x16)] [16] 2 hS fun hS=>Ab (Am hg0 hS (x16+1,upd o2_0 x16 (IntKind.wrap .u16 (AY .u32 (AZ .u32 (BJ .u32 (A5 .u32 (IntKind.wrap .u32 (f x16)) 1) 3329) 1) 1))) [(0,0),(1,1)] ⟨Ac,(A2 (st:=Mq _) hq1 rfl rfl),trivial⟩)))
 ·have hT:=hS
  obtain rfl:256=x16:=by omega
  obtain rfl:=hq1.symm
  have hS:=hT
  exact CX (Ae [] 2 hS fun hS=>AU (Bh (eF ..) hS))
def Dx (x21:Nat) (x6:List Int) (x30:Nat):(List Int)→(List Int):=fun x6_2=>x6_2.set (((x21*12)+x30)/8) (C7 .u8 (x6_2.getD (((x21*12)+x30)/8) 0) (Bd .u8 (IntKind.wrap .u8 (A5 .u16 (AY .u16 (CV (f x21) 3329) (x30:Int)) 1)) ((((x21*12)+x30)%8:Nat):Int)))
def DX (f:Nat→Int) (x21:Nat) (x6:List Int):Nat→(List Int)
 |0=>x6
 |x30+1=>Dx f x21 x6 x30 (DX f x21 x6 x30)
def Kb (x21:Nat):(List Int)→(List Int):=fun x6=>DX f x21 x6 12
def EH (f:Nat→Int):Nat→(List Int)
 |0=>List.replicate 384 (0:Int)
 |x21+1=>Kb f x21 (EH f x21)
def QG:(List Int):=EH f 256
def Cf:(List Int):=AJ (QG f)
theorem K3:Cf f=QG f:=Af _
def Y6 (z_:(List Int):=Cf f):Con:=⟨[.ar .u16 256 f,vi 12],[],.tu (chain [.sk 0,vi 0]),[(0,.sl 5 [.int .u8] z_)]⟩
theorem WX:ConOk Tryz.prog 181 (Y6 f):=by
 refine cy 0 Tryz.func181 rfl Tryz.ntmps181 fun hg0 hS=>Ae [] 1 hS fun hS=>Au (Ae [] 1 hS fun hS=>Ai hS (B5 (Ay [(2,g8 384 1)] [] 2 hS fun hS=>Au (Ae [] 2 hS fun hS=>Br (Ar (ι:=Nat×(List Int)) hg0 hS (fun(x21,x6)=>(256-x21,[(21,vi ((x21:Nat):Int))],[(1,.sl 5 [.int .u8] x6)],(x21≤256)∧(x6=EH f x21)∧(x6.length=384)∧True)) [1,4,5,6,20] [] 2 (0,List.replicate 384 (0:Int)) [(1,1)] ⟨Ac,rfl,(by simp),trivial⟩ ?_)))))
 rintro⟨x21,x6⟩ ac gs ws ⟨hx21,hq1,p1,_⟩ hS
 refine Ae [] 2 hS fun hS=>Au (AB ((x21:Int)<256) hS (fun h1=> ?_) (fun h1=> ?_))
 ·refine BG (Ay [(1,AG x21 256)] [] 2 hS fun hS=>Au (Ae [] 2 hS fun hS=>AQ hS (Av [(1,OL ((3329:Int)≠0))] [8] 2 hS fun hS=>Ab (Ae [] 2 hS fun hS=>Br (Ar (ι:=Nat×(List Int)) hg0 hS (fun(x30,x6_2)=>(12-x30,[(30,vi ((x30:Nat):Int))],[(1,.sl 5 [.int .u8] x6_2)],(x30≤12)∧(x6_2=DX f x21 x6 x30)∧(x6_2.length=384)∧True)) [1,4,5,6,7,8,20,21,29] [] 2 (0,x6) [(1,1)] ⟨Ac,rfl,p1,trivial⟩ ?_)))))
  rintro⟨x30,x6_2⟩ ac gs ws ⟨hx30,hq2,p2,_⟩ hS
  refine Ae [] 2 hS fun hS=>Au (AB ((x30:Int)<12) hS (fun h2=> ?_) (fun h2=> ?_))
  ·exact BG (Ae [] 2 hS fun hS=>Ay [(2,GE x21 12 (x21*12)),(4,DI (x21*12) x30 ((x21*12)+x30))] [] 2 hS fun hS=>Av [(2,Td ((x21*12)+x30) 8),(3,AG (((x21*12)+x30)/8) x6_2.length),(7,EL x30),(11,Lb ((x21*12)+x30) 8),(12,EL (((x21*12)+x30)%8)),(14,AG (((x21*12)+x30)/8) x6_2.length)] [] 2 hS fun hS=>BV (Av [(0,BQ x30)] [30] 2 hS fun hS=>Ab (Am hg0 hS (x30+1,x6_2.set (((x21*12)+x30)/8) (C7 .u8 (x6_2.getD (((x21*12)+x30)/8) 0) (Bd .u8 (IntKind.wrap .u8 (A5 .u16 (AY .u16 (CV (f x21) 3329) (x30:Int)) 1)) ((((x21*12)+x30)%8:Nat):Int)))) [(1,1)] ⟨Ac,(A2 (st:=Dx _ _ _) hq2 rfl rfl),(by simpa using p2),trivial⟩)))
  ·have hT:=hS
   obtain rfl:12=x30:=by omega
   obtain rfl:=hq2.symm
   have hS:=hT
   exact Vh (Av [(0,BQ x21)] [21] 2 hS fun hS=>Ab (Am hg0 hS (x21+1,DX f x21 x6 12) [(1,1)] ⟨Ac,(A2 (st:=Kb _) hq1 rfl rfl),p2,trivial⟩))
 ·have hT:=hS
  obtain rfl:256=x21:=by omega
  obtain rfl:=hq1.symm
  have hS:=hT
  refine CX (Ae [] 2 hS fun hS=>AU ?_)
  obtain⟨gs,hS⟩:=hS.rx [(0,1)] [4,5] [0] 1 hg0
  exact Bh (K3 ..) hS
end
section
variable (xs:List Int)
def JW (x8 x12:Nat):(Nat→Int)→(Nat→Int):=fun o4_0_2=>upd o4_0_2 x8 (C7 .u16 (o4_0_2 x8) (Bd .u16 (IntKind.wrap .u16 (A5 .u8 (AY .u8 (xs.getD (((x8*12)+x12)/8) 0) ((((x8*12)+x12)%8:Nat):Int)) 1)) (x12:Int)))
def Dj (xs:List Int) (x8:Nat) (o4_0:Nat→Int):Nat→(Nat→Int)
 |0=>o4_0
 |x12+1=>JW xs x8 x12 (Dj xs x8 o4_0 x12)
def JX (x8:Nat):(Nat→Int)→(Nat→Int):=fun o4_0=>Dj xs x8 o4_0 12
def EB (xs:List Int):Nat→(Nat→Int)
 |0=>fun _=>0
 |x8+1=>JX xs x8 (EB xs x8)
def O4:(Nat→Int):=EB xs 256
def DN:(Nat→Int):=AJ (O4 xs)
theorem O5:DN xs=O4 xs:=Af _
def YX (z_:(Nat→Int):=DN xs):Con:=⟨[vi 12,lb xs],[],.ar .u16 256 z_,[]⟩
theorem Vm (h:384≤xs.length):ConOk Tryz.prog 194 (YX xs):=by
 refine cy 0 Tryz.func194 rfl Tryz.ntmps194 fun hg0 hS=> ?_
 have Bf:xs.length≤9223372036854775807:=hS.len 1 rfl
 refine Ae [] 1 hS fun hS=>Au (Ae [] 1 hS fun hS=>Br (Ar (ι:=Nat×(Nat→Int)) hg0 hS (fun(x8,o4_0)=>(256-x8,[(8,vi ((x8:Nat):Int))],[(0,MQ o4_0)],(x8≤256)∧(o4_0=EB xs x8)∧True)) [0,1,4] [] 1 (0,fun _=>0) [(0,0)] ⟨Ac,rfl,trivial⟩ ?_))
 rintro⟨x8,o4_0⟩ ac gs ws ⟨hx8,hq1,_⟩ hS
 refine Ae [] 1 hS fun hS=>Au (AB ((x8:Int)<256) hS (fun h1=> ?_) (fun h1=> ?_))
 ·refine BG (Ae [] 1 hS fun hS=>Ae [] 1 hS fun hS=>Br (Ar (ι:=Nat×(Nat→Int)) hg0 hS (fun(x12,o4_0_2)=>(12-x12,[(12,vi ((x12:Nat):Int))],[(0,MQ o4_0_2)],(x12≤12)∧(o4_0_2=Dj xs x8 o4_0 x12)∧True)) [0,1,4,5,8,11] [] 1 (0,o4_0) [(0,0)] ⟨Ac,rfl,trivial⟩ ?_))
  rintro⟨x12,o4_0_2⟩ ac gs ws ⟨hx12,hq2,_⟩ hS
  refine Ae [] 1 hS fun hS=>Au (AB ((x12:Int)<12) hS (fun h2=> ?_) (fun h2=> ?_))
  ·exact BG (Ae [] 1 hS fun hS=>Ay [(2,GE x8 12 (x8*12)),(4,DI (x8*12) x12 ((x8*12)+x12))] [] 1 hS fun hS=>Av [(1,AG x8 256),(5,Td ((x8*12)+x12) 8),(6,AG (((x8*12)+x12)/8) xs.length),(9,Lb ((x8*12)+x12) 8),(10,EL (((x8*12)+x12)%8)),(14,EL x12),(16,AG x8 256)] [] 1 hS fun hS=>BV (Av [(0,BQ x12)] [12] 1 hS fun hS=>Ab (Am hg0 hS (x12+1,upd o4_0_2 x8 (C7 .u16 (o4_0_2 x8) (Bd .u16 (IntKind.wrap .u16 (A5 .u8 (AY .u8 (xs.getD (((x8*12)+x12)/8) 0) ((((x8*12)+x12)%8:Nat):Int)) 1)) (x12:Int)))) [(0,0)] ⟨Ac,(A2 (st:=JW _ _) hq2 rfl rfl),trivial⟩)))
  ·have hT:=hS
   obtain rfl:12=x12:=by omega
   obtain rfl:=hq2.symm
   have hS:=hT
   exact Vh (Av [(0,BQ x8)] [8] 1 hS fun hS=>Ab (Am hg0 hS (x8+1,Dj xs x8 o4_0 12) [(0,0)] ⟨Ac,(A2 (st:=JX _) hq1 rfl rfl),trivial⟩))
 ·have hT:=hS
  obtain rfl:256=x8:=by omega
  obtain rfl:=hq1.symm
  have hS:=hT
  exact CX (Ae [] 1 hS fun hS=>AU (Bh (O5 ..) hS))
end
section
variable (f:Nat→Int)
def Fz (x21 x30:Nat):(List Int)→(List Int):=fun x6_2=>x6_2.set (((x21*10)+x30)/8) (C7 .u8 (x6_2.getD (((x21*10)+x30)/8) 0) (Bd .u8 (IntKind.wrap .u8 (A5 .u16 (AY .u16 (f x21) (x30:Int)) 1)) ((((x21*10)+x30)%8:Nat):Int)))
def EI (f:Nat→Int) (x21:Nat) (x6:List Int):Nat→(List Int)
 |0=>x6
 |x30+1=>Fz f x21 x30 (EI f x21 x6 x30)
def Kd (x21:Nat):(List Int)→(List Int):=fun x6=>EI f x21 x6 10
def GT (f:Nat→Int):Nat→(List Int)
 |0=>List.replicate 320 (0:Int)
 |x21+1=>Kd f x21 (GT f x21)
def QH:(List Int):=GT f 256
def Ff:(List Int):=AJ (QH f)
theorem QI:Ff f=QH f:=Af _
def Y7 (z_:(List Int):=Ff f):Con:=⟨[.ar .u16 256 f,vi 10],[],.tu (chain [.sk 0,vi 0]),[(0,.sl 5 [.int .u8] z_)]⟩
theorem WY:ConOk Tryz.prog 181 (Y7 f):=by
 refine cy 0 Tryz.func181 rfl Tryz.ntmps181 fun hg0 hS=>Ae [] 1 hS fun hS=>Au (Ae [] 1 hS fun hS=>Ai hS (B5 (Ay [(2,g8 320 1)] [] 2 hS fun hS=>Au (Ae [] 2 hS fun hS=>Br (Ar (ι:=Nat×(List Int)) hg0 hS (fun(x21,x6)=>(256-x21,[(21,vi ((x21:Nat):Int))],[(1,.sl 5 [.int .u8] x6)],(x21≤256)∧(x6=GT f x21)∧(x6.length=320)∧True)) [1,4,5,6,20] [] 2 (0,List.replicate 320 (0:Int)) [(1,1)] ⟨Ac,rfl,(by simp),trivial⟩ ?_)))))
 rintro⟨x21,x6⟩ ac gs ws ⟨hx21,hq1,p1,_⟩ hS
 refine Ae [] 2 hS fun hS=>Au (AB ((x21:Int)<256) hS (fun h1=> ?_) (fun h1=> ?_))
 ·refine BG (Ay [(1,AG x21 256)] [] 2 hS fun hS=>Au (Ae [] 2 hS fun hS=>Ai hS (B5 (Ae [] 2 hS fun hS=>Br (Ar (ι:=Nat×(List Int)) hg0 hS (fun(x30,x6_2)=>(10-x30,[(30,vi ((x30:Nat):Int))],[(1,.sl 5 [.int .u8] x6_2)],(x30≤10)∧(x6_2=EI f x21 x6 x30)∧(x6_2.length=320)∧True)) [1,4,5,6,7,8,20,21,29] [] 2 (0,x6) [(1,1)] ⟨Ac,rfl,p1,trivial⟩ ?_)))))
  rintro⟨x30,x6_2⟩ ac gs ws ⟨hx30,hq2,p2,_⟩ hS
  refine Ae [] 2 hS fun hS=>Au (AB ((x30:Int)<10) hS (fun h2=> ?_) (fun h2=> ?_))
  ·exact BG (Ae [] 2 hS fun hS=>Ay [(2,GE x21 10 (x21*10)),(4,DI (x21*10) x30 ((x21*10)+x30))] [] 2 hS fun hS=>Av [(2,Td ((x21*10)+x30) 8),(3,AG (((x21*10)+x30)/8) x6_2.length),(7,EL x30),(11,Lb ((x21*10)+x30) 8),(12,EL (((x21*10)+x30)%8)),(14,AG (((x21*10)+x30)/8) x6_2.length)] [] 2 hS fun hS=>BV (Av [(0,BQ x30)] [30] 2 hS fun hS=>Ab (Am hg0 hS (x30+1,x6_2.set (((x21*10)+x30)/8) (C7 .u8 (x6_2.getD (((x21*10)+x30)/8) 0) (Bd .u8 (IntKind.wrap .u8 (A5 .u16 (AY .u16 (f x21) (x30:Int)) 1)) ((((x21*10)+x30)%8:Nat):Int)))) [(1,1)] ⟨Ac,(A2 (st:=Fz _ _) hq2 rfl rfl),(by simpa using p2),trivial⟩)))
  ·have hT:=hS
   obtain rfl:10=x30:=by omega
   obtain rfl:=hq2.symm
   have hS:=hT
   exact Vh (Av [(0,BQ x21)] [21] 2 hS fun hS=>Ab (Am hg0 hS (x21+1,EI f x21 x6 10) [(1,1)] ⟨Ac,(A2 (st:=Kd _) hq1 rfl rfl),p2,trivial⟩))
 ·have hT:=hS
  obtain rfl:256=x21:=by omega
  obtain rfl:=hq1.symm
  have hS:=hT
  refine CX (Ae [] 2 hS fun hS=>AU ?_)
  obtain⟨gs,hS⟩:=hS.rx [(0,1)] [4,5] [0] 1 hg0
  exact Bh (QI ..) hS
end
section
variable (xs:List Int)
def JY (x8 x12:Nat):(Nat→Int)→(Nat→Int):=fun o4_0_2=>upd o4_0_2 x8 (C7 .u16 (o4_0_2 x8) (Bd .u16 (IntKind.wrap .u16 (A5 .u8 (AY .u8 (xs.getD (((x8*10)+x12)/8) 0) ((((x8*10)+x12)%8:Nat):Int)) 1)) (x12:Int)))
def GH (xs:List Int) (x8:Nat) (o4_0:Nat→Int):Nat→(Nat→Int)
 |0=>o4_0
 |x12+1=>JY xs x8 x12 (GH xs x8 o4_0 x12)
def JZ (x8:Nat):(Nat→Int)→(Nat→Int):=fun o4_0=>GH xs x8 o4_0 10
def IA (xs:List Int):Nat→(Nat→Int)
 |0=>fun _=>0
 |x8+1=>JZ xs x8 (IA xs x8)
def O6:(Nat→Int):=IA xs 256
def CZ:(Nat→Int):=AJ (O6 xs)
theorem XN:CZ xs=O6 xs:=Af _
def YY (z_:(Nat→Int):=CZ xs):Con:=⟨[vi 10,lb xs],[],.ar .u16 256 z_,[]⟩
theorem Vn (h:320≤xs.length):ConOk Tryz.prog 194 (YY xs):=by
 refine cy 0 Tryz.func194 rfl Tryz.ntmps194 fun hg0 hS=> ?_
 have Bf:xs.length≤9223372036854775807:=hS.len 1 rfl
 refine Ae [] 1 hS fun hS=>Au (Ae [] 1 hS fun hS=>Br (Ar (ι:=Nat×(Nat→Int)) hg0 hS (fun(x8,o4_0)=>(256-x8,[(8,vi ((x8:Nat):Int))],[(0,MQ o4_0)],(x8≤256)∧(o4_0=IA xs x8)∧True)) [0,1,4] [] 1 (0,fun _=>0) [(0,0)] ⟨Ac,rfl,trivial⟩ ?_))
 rintro⟨x8,o4_0⟩ ac gs ws ⟨hx8,hq1,_⟩ hS
 refine Ae [] 1 hS fun hS=>Au (AB ((x8:Int)<256) hS (fun h1=> ?_) (fun h1=> ?_))
 ·refine BG (Ae [] 1 hS fun hS=>Ae [] 1 hS fun hS=>Br (Ar (ι:=Nat×(Nat→Int)) hg0 hS (fun(x12,o4_0_2)=>(10-x12,[(12,vi ((x12:Nat):Int))],[(0,MQ o4_0_2)],(x12≤10)∧(o4_0_2=GH xs x8 o4_0 x12)∧True)) [0,1,4,5,8,11] [] 1 (0,o4_0) [(0,0)] ⟨Ac,rfl,trivial⟩ ?_))
  rintro⟨x12,o4_0_2⟩ ac gs ws ⟨hx12,hq2,_⟩ hS
  refine Ae [] 1 hS fun hS=>Au (AB ((x12:Int)<10) hS (fun h2=> ?_) (fun h2=> ?_))
  ·exact BG (Ae [] 1 hS fun hS=>Ay [(2,GE x8 10 (x8*10)),(4,DI (x8*10) x12 ((x8*10)+x12))] [] 1 hS fun hS=>Av [(1,AG x8 256),(5,Td ((x8*10)+x12) 8),(6,AG (((x8*10)+x12)/8) xs.length),(9,Lb ((x8*10)+x12) 8),(10,EL (((x8*10)+x12)%8)),(14,EL x12),(16,AG x8 256)] [] 1 hS fun hS=>BV (Av [(0,BQ x12)] [12] 1 hS fun hS=>Ab (Am hg0 hS (x12+1,upd o4_0_2 x8 (C7 .u16 (o4_0_2 x8) (Bd .u16 (IntKind.wrap .u16 (A5 .u8 (AY .u8 (xs.getD (((x8*10)+x12)/8) 0) ((((x8*10)+x12)%8:Nat):Int)) 1)) (x12:Int)))) [(0,0)] ⟨Ac,(A2 (st:=JY _ _) hq2 rfl rfl),trivial⟩)))
  ·have hT:=hS
   obtain rfl:10=x12:=by omega
   obtain rfl:=hq2.symm
   have hS:=hT
   exact Vh (Av [(0,BQ x8)] [8] 1 hS fun hS=>Ab (Am hg0 hS (x8+1,GH xs x8 o4_0 10) [(0,0)] ⟨Ac,(A2 (st:=JZ _) hq1 rfl rfl),trivial⟩))
 ·have hT:=hS
  obtain rfl:256=x8:=by omega
  obtain rfl:=hq1.symm
  have hS:=hT
  exact CX (Ae [] 1 hS fun hS=>AU (Bh (XN ..) hS))
end
section
variable (f:Nat→Int)
def F1 (x21 x30:Nat):(List Int)→(List Int):=fun x6_2=>x6_2.set (((x21*4)+x30)/8) (C7 .u8 (x6_2.getD (((x21*4)+x30)/8) 0) (Bd .u8 (IntKind.wrap .u8 (A5 .u16 (AY .u16 (f x21) (x30:Int)) 1)) ((((x21*4)+x30)%8:Nat):Int)))
def Fc (f:Nat→Int) (x21:Nat) (x6:List Int):Nat→(List Int)
 |0=>x6
 |x30+1=>F1 f x21 x30 (Fc f x21 x6 x30)
def Mr (x21:Nat):(List Int)→(List Int):=fun x6=>Fc f x21 x6 4
def H9 (f:Nat→Int):Nat→(List Int)
 |0=>List.replicate 128 (0:Int)
 |x21+1=>Mr f x21 (H9 f x21)
def SR:(List Int):=H9 f 256
def Hz:(List Int):=AJ (SR f)
theorem SU:Hz f=SR f:=Af _
def gB (z_:(List Int):=Hz f):Con:=⟨[.ar .u16 256 f,vi 4],[],.tu (chain [.sk 0,vi 0]),[(0,.sl 5 [.int .u8] z_)]⟩
theorem YF:ConOk Tryz.prog 181 (gB f):=by
 refine cy 0 Tryz.func181 rfl Tryz.ntmps181 fun hg0 hS=>Ae [] 1 hS fun hS=>Au (Ae [] 1 hS fun hS=>Ai hS (B5 (Ay [(2,g8 128 1)] [] 2 hS fun hS=>Au (Ae [] 2 hS fun hS=>Br (Ar (ι:=Nat×(List Int)) hg0 hS (fun(x21,x6)=>(256-x21,[(21,vi ((x21:Nat):Int))],[(1,.sl 5 [.int .u8] x6)],(x21≤256)∧(x6=H9 f x21)∧(x6.length=128)∧True)) [1,4,5,6,20] [] 2 (0,List.replicate 128 (0:Int)) [(1,1)] ⟨Ac,rfl,(by simp),trivial⟩ ?_)))))
 rintro⟨x21,x6⟩ ac gs ws ⟨hx21,hq1,p1,_⟩ hS
 refine Ae [] 2 hS fun hS=>Au (AB ((x21:Int)<256) hS (fun h1=> ?_) (fun h1=> ?_))
 ·refine BG (Ay [(1,AG x21 256)] [] 2 hS fun hS=>Au (Ae [] 2 hS fun hS=>Ai hS (B5 (Ae [] 2 hS fun hS=>Br (Ar (ι:=Nat×(List Int)) hg0 hS (fun(x30,x6_2)=>(4-x30,[(30,vi ((x30:Nat):Int))],[(1,.sl 5 [.int .u8] x6_2)],(x30≤4)∧(x6_2=Fc f x21 x6 x30)∧(x6_2.length=128)∧True)) [1,4,5,6,7,8,20,21,29] [] 2 (0,x6) [(1,1)] ⟨Ac,rfl,p1,trivial⟩ ?_)))))
  rintro⟨x30,x6_2⟩ ac gs ws ⟨hx30,hq2,p2,_⟩ hS
  refine Ae [] 2 hS fun hS=>Au (AB ((x30:Int)<4) hS (fun h2=> ?_) (fun h2=> ?_))
  ·exact BG (Ae [] 2 hS fun hS=>Ay [(2,GE x21 4 (x21*4)),(4,DI (x21*4) x30 ((x21*4)+x30))] [] 2 hS fun hS=>Av [(2,Td ((x21*4)+x30) 8),(3,AG (((x21*4)+x30)/8) x6_2.length),(7,EL x30),(11,Lb ((x21*4)+x30) 8),(12,EL (((x21*4)+x30)%8)),(14,AG (((x21*4)+x30)/8) x6_2.length)] [] 2 hS fun hS=>BV (Av [(0,BQ x30)] [30] 2 hS fun hS=>Ab (Am hg0 hS (x30+1,x6_2.set (((x21*4)+x30)/8) (C7 .u8 (x6_2.getD (((x21*4)+x30)/8) 0) (Bd .u8 (IntKind.wrap .u8 (A5 .u16 (AY .u16 (f x21) (x30:Int)) 1)) ((((x21*4)+x30)%8:Nat):Int)))) [(1,1)] ⟨Ac,(A2 (st:=F1 _ _) hq2 rfl rfl),(by simpa using p2),trivial⟩)))
  ·have hT:=hS
   obtain rfl:4=x30:=by omega
   obtain rfl:=hq2.symm
   have hS:=hT
   exact Vh (Av [(0,BQ x21)] [21] 2 hS fun hS=>Ab (Am hg0 hS (x21+1,Fc f x21 x6 4) [(1,1)] ⟨Ac,(A2 (st:=Mr _) hq1 rfl rfl),p2,trivial⟩))
 ·have hT:=hS
  obtain rfl:256=x21:=by omega
  obtain rfl:=hq1.symm
  have hS:=hT
  refine CX (Ae [] 2 hS fun hS=>AU ?_)
  obtain⟨gs,hS⟩:=hS.rx [(0,1)] [4,5] [0] 1 hg0
  exact Bh (SU ..) hS
end
section
variable (xs:List Int)
def Lk (x8 x12:Nat):(Nat→Int)→(Nat→Int):=fun o4_0_2=>upd o4_0_2 x8 (C7 .u16 (o4_0_2 x8) (Bd .u16 (IntKind.wrap .u16 (A5 .u8 (AY .u8 (xs.getD (((x8*4)+x12)/8) 0) ((((x8*4)+x12)%8:Nat):Int)) 1)) (x12:Int)))
def HH (xs:List Int) (x8:Nat) (o4_0:Nat→Int):Nat→(Nat→Int)
 |0=>o4_0
 |x12+1=>Lk xs x8 x12 (HH xs x8 o4_0 x12)
def Ll (x8:Nat):(Nat→Int)→(Nat→Int):=fun o4_0=>HH xs x8 o4_0 4
def Kl (xs:List Int):Nat→(Nat→Int)
 |0=>fun _=>0
 |x8+1=>Ll xs x8 (Kl xs x8)
def RF:(Nat→Int):=Kl xs 256
def BR:(Nat→Int):=AJ (RF xs)
theorem cF:BR xs=RF xs:=Af _
def fD (z_:(Nat→Int):=BR xs):Con:=⟨[vi 4,lb xs],[],.ar .u16 256 z_,[]⟩
theorem XL (h:128≤xs.length):ConOk Tryz.prog 194 (fD xs):=by
 refine cy 0 Tryz.func194 rfl Tryz.ntmps194 fun hg0 hS=> ?_
 have Bf:xs.length≤9223372036854775807:=hS.len 1 rfl
 refine Ae [] 1 hS fun hS=>Au (Ae [] 1 hS fun hS=>Br (Ar (ι:=Nat×(Nat→Int)) hg0 hS (fun(x8,o4_0)=>(256-x8,[(8,vi ((x8:Nat):Int))],[(0,MQ o4_0)],(x8≤256)∧(o4_0=Kl xs x8)∧True)) [0,1,4] [] 1 (0,fun _=>0) [(0,0)] ⟨Ac,rfl,trivial⟩ ?_))
 rintro⟨x8,o4_0⟩ ac gs ws ⟨hx8,hq1,_⟩ hS
 refine Ae [] 1 hS fun hS=>Au (AB ((x8:Int)<256) hS (fun h1=> ?_) (fun h1=> ?_))
 ·refine BG (Ae [] 1 hS fun hS=>Ae [] 1 hS fun hS=>Br (Ar (ι:=Nat×(Nat→Int)) hg0 hS (fun(x12,o4_0_2)=>(4-x12,[(12,vi ((x12:Nat):Int))],[(0,MQ o4_0_2)],(x12≤4)∧(o4_0_2=HH xs x8 o4_0 x12)∧True)) [0,1,4,5,8,11] [] 1 (0,o4_0) [(0,0)] ⟨Ac,rfl,trivial⟩ ?_))
  rintro⟨x12,o4_0_2⟩ ac gs ws ⟨hx12,hq2,_⟩ hS
  refine Ae [] 1 hS fun hS=>Au (AB ((x12:Int)<4) hS (fun h2=> ?_) (fun h2=> ?_))
  ·exact BG (Ae [] 1 hS fun hS=>Ay [(2,GE x8 4 (x8*4)),(4,DI (x8*4) x12 ((x8*4)+x12))] [] 1 hS fun hS=>Av [(1,AG x8 256),(5,Td ((x8*4)+x12) 8),(6,AG (((x8*4)+x12)/8) xs.length),(9,Lb ((x8*4)+x12) 8),(10,EL (((x8*4)+x12)%8)),(14,EL x12),(16,AG x8 256)] [] 1 hS fun hS=>BV (Av [(0,BQ x12)] [12] 1 hS fun hS=>Ab (Am hg0 hS (x12+1,upd o4_0_2 x8 (C7 .u16 (o4_0_2 x8) (Bd .u16 (IntKind.wrap .u16 (A5 .u8 (AY .u8 (xs.getD (((x8*4)+x12)/8) 0) ((((x8*4)+x12)%8:Nat):Int)) 1)) (x12:Int)))) [(0,0)] ⟨Ac,(A2 (st:=Lk _ _) hq2 rfl rfl),trivial⟩)))
  ·have hT:=hS
   obtain rfl:4=x12:=by omega
   obtain rfl:=hq2.symm
   have hS:=hT
   exact Vh (Av [(0,BQ x8)] [8] 1 hS fun hS=>Ab (Am hg0 hS (x8+1,HH xs x8 o4_0 4) [(0,0)] ⟨Ac,(A2 (st:=Ll _) hq1 rfl rfl),trivial⟩))
 ·have hT:=hS
  obtain rfl:256=x8:=by omega
  obtain rfl:=hq1.symm
  have hS:=hT
  exact CX (Ae [] 1 hS fun hS=>AU (Bh (cF ..) hS))
end
section
variable (f:Nat→Int)
def F2 (x21 x30:Nat):(List Int)→(List Int):=fun x6_2=>x6_2.set ((x21+x30)/8) (C7 .u8 (x6_2.getD ((x21+x30)/8) 0) (Bd .u8 (IntKind.wrap .u8 (A5 .u16 (AY .u16 (f x21) (x30:Int)) 1)) (((x21+x30)%8:Nat):Int)))
def Fe (f:Nat→Int) (x21:Nat) (x6:List Int):Nat→(List Int)
 |0=>x6
 |x30+1=>F2 f x21 x30 (Fe f x21 x6 x30)
def Ms (x21:Nat):(List Int)→(List Int):=fun x6=>Fe f x21 x6 1
def H_ (f:Nat→Int):Nat→(List Int)
 |0=>List.replicate 32 (0:Int)
 |x21+1=>Ms f x21 (H_ f x21)
def SV:(List Int):=H_ f 256
def JJ:(List Int):=AJ (SV f)
theorem SX:JJ f=SV f:=Af _
def gC (z_:(List Int):=JJ f):Con:=⟨[.ar .u16 256 f,vi 1],[],.tu (chain [.sk 0,vi 0]),[(0,.sl 5 [.int .u8] z_)]⟩
theorem YG:ConOk Tryz.prog 181 (gC f):=by
 refine cy 0 Tryz.func181 rfl Tryz.ntmps181 fun hg0 hS=>Ae [] 1 hS fun hS=>Au (Ae [] 1 hS fun hS=>Ai hS (B5 (Ay [(2,g8 32 1)] [] 2 hS fun hS=>Au (Ae [] 2 hS fun hS=>Br (Ar (ι:=Nat×(List Int)) hg0 hS (fun(x21,x6)=>(256-x21,[(21,vi ((x21:Nat):Int))],[(1,.sl 5 [.int .u8] x6)],(x21≤256)∧(x6=H_ f x21)∧(x6.length=32)∧True)) [1,4,5,6,20] [] 2 (0,List.replicate 32 (0:Int)) [(1,1)] ⟨Ac,rfl,(by simp),trivial⟩ ?_)))))
 rintro⟨x21,x6⟩ ac gs ws ⟨hx21,hq1,p1,_⟩ hS
 refine Ae [] 2 hS fun hS=>Au (AB ((x21:Int)<256) hS (fun h1=> ?_) (fun h1=> ?_))
 ·refine BG (Ay [(1,AG x21 256)] [] 2 hS fun hS=>Au (Ae [] 2 hS fun hS=>Ai hS (B5 (Ae [] 2 hS fun hS=>Br (Ar (ι:=Nat×(List Int)) hg0 hS (fun(x30,x6_2)=>(1-x30,[(30,vi ((x30:Nat):Int))],[(1,.sl 5 [.int .u8] x6_2)],(x30≤1)∧(x6_2=Fe f x21 x6 x30)∧(x6_2.length=32)∧True)) [1,4,5,6,7,8,20,21,29] [] 2 (0,x6) [(1,1)] ⟨Ac,rfl,p1,trivial⟩ ?_)))))
  rintro⟨x30,x6_2⟩ ac gs ws ⟨hx30,hq2,p2,_⟩ hS
  refine Ae [] 2 hS fun hS=>Au (AB ((x30:Int)<1) hS (fun h2=> ?_) (fun h2=> ?_))
  ·exact BG (Ae [] 2 hS fun hS=>Ay [(2,GE x21 1 x21),(4,DI x21 x30 (x21+x30))] [] 2 hS fun hS=>Av [(2,Td (x21+x30) 8),(3,AG ((x21+x30)/8) x6_2.length),(7,EL x30),(11,Lb (x21+x30) 8),(12,EL ((x21+x30)%8)),(14,AG ((x21+x30)/8) x6_2.length)] [] 2 hS fun hS=>BV (Av [(0,BQ x30)] [30] 2 hS fun hS=>Ab (Am hg0 hS (x30+1,x6_2.set ((x21+x30)/8) (C7 .u8 (x6_2.getD ((x21+x30)/8) 0) (Bd .u8 (IntKind.wrap .u8 (A5 .u16 (AY .u16 (f x21) (x30:Int)) 1)) (((x21+x30)%8:Nat):Int)))) [(1,1)] ⟨Ac,(A2 (st:=F2 _ _) hq2 rfl rfl),(by simpa using p2),trivial⟩)))
  ·have hT:=hS
   obtain rfl:1=x30:=by omega
   obtain rfl:=hq2.symm
   have hS:=hT
   exact Vh (Av [(0,BQ x21)] [21] 2 hS fun hS=>Ab (Am hg0 hS (x21+1,Fe f x21 x6 1) [(1,1)] ⟨Ac,(A2 (st:=Ms _) hq1 rfl rfl),p2,trivial⟩))
 ·have hT:=hS
  obtain rfl:256=x21:=by omega
  obtain rfl:=hq1.symm
  have hS:=hT
  refine CX (Ae [] 2 hS fun hS=>AU ?_)
  obtain⟨gs,hS⟩:=hS.rx [(0,1)] [4,5] [0] 1 hg0
  exact Bh (SX ..) hS
end
section
variable (xs:List Int)
def Lm (x8 x12:Nat):(Nat→Int)→(Nat→Int):=fun o4_0_2=>upd o4_0_2 x8 (C7 .u16 (o4_0_2 x8) (Bd .u16 (IntKind.wrap .u16 (A5 .u8 (AY .u8 (xs.getD ((x8+x12)/8) 0) (((x8+x12)%8:Nat):Int)) 1)) (x12:Int)))
def HI (xs:List Int) (x8:Nat) (o4_0:Nat→Int):Nat→(Nat→Int)
 |0=>o4_0
 |x12+1=>Lm xs x8 x12 (HI xs x8 o4_0 x12)
def Lp (x8:Nat):(Nat→Int)→(Nat→Int):=fun o4_0=>HI xs x8 o4_0 1
def Km (xs:List Int):Nat→(Nat→Int)
 |0=>fun _=>0
 |x8+1=>Lp xs x8 (Km xs x8)
def RG:(Nat→Int):=Km xs 256
def BI:(Nat→Int):=AJ (RG xs)
theorem cG:BI xs=RG xs:=Af _
def fE (z_:(Nat→Int):=BI xs):Con:=⟨[vi 1,lb xs],[],.ar .u16 256 z_,[]⟩
theorem XM (h:32≤xs.length):ConOk Tryz.prog 194 (fE xs):=by
 refine cy 0 Tryz.func194 rfl Tryz.ntmps194 fun hg0 hS=> ?_
 have Bf:xs.length≤9223372036854775807:=hS.len 1 rfl
 refine Ae [] 1 hS fun hS=>Au (Ae [] 1 hS fun hS=>Br (Ar (ι:=Nat×(Nat→Int)) hg0 hS (fun(x8,o4_0)=>(256-x8,[(8,vi ((x8:Nat):Int))],[(0,MQ o4_0)],(x8≤256)∧(o4_0=Km xs x8)∧True)) [0,1,4] [] 1 (0,fun _=>0) [(0,0)] ⟨Ac,rfl,trivial⟩ ?_))
 rintro⟨x8,o4_0⟩ ac gs ws ⟨hx8,hq1,_⟩ hS
 refine Ae [] 1 hS fun hS=>Au (AB ((x8:Int)<256) hS (fun h1=> ?_) (fun h1=> ?_))
 ·refine BG (Ae [] 1 hS fun hS=>Ae [] 1 hS fun hS=>Br (Ar (ι:=Nat×(Nat→Int)) hg0 hS (fun(x12,o4_0_2)=>(1-x12,[(12,vi ((x12:Nat):Int))],[(0,MQ o4_0_2)],(x12≤1)∧(o4_0_2=HI xs x8 o4_0 x12)∧True)) [0,1,4,5,8,11] [] 1 (0,o4_0) [(0,0)] ⟨Ac,rfl,trivial⟩ ?_))
  rintro⟨x12,o4_0_2⟩ ac gs ws ⟨hx12,hq2,_⟩ hS
  refine Ae [] 1 hS fun hS=>Au (AB ((x12:Int)<1) hS (fun h2=> ?_) (fun h2=> ?_))
  ·exact BG (Ae [] 1 hS fun hS=>Ay [(2,GE x8 1 x8),(4,DI x8 x12 (x8+x12))] [] 1 hS fun hS=>Av [(1,AG x8 256),(5,Td (x8+x12) 8),(6,AG ((x8+x12)/8) xs.length),(9,Lb (x8+x12) 8),(10,EL ((x8+x12)%8)),(14,EL x12),(16,AG x8 256)] [] 1 hS fun hS=>BV (Av [(0,BQ x12)] [12] 1 hS fun hS=>Ab (Am hg0 hS (x12+1,upd o4_0_2 x8 (C7 .u16 (o4_0_2 x8) (Bd .u16 (IntKind.wrap .u16 (A5 .u8 (AY .u8 (xs.getD ((x8+x12)/8) 0) (((x8+x12)%8:Nat):Int)) 1)) (x12:Int)))) [(0,0)] ⟨Ac,(A2 (st:=Lm _ _) hq2 rfl rfl),trivial⟩)))
  ·have hT:=hS
   obtain rfl:1=x12:=by omega
   obtain rfl:=hq2.symm
   have hS:=hT
   exact Vh (Av [(0,BQ x8)] [8] 1 hS fun hS=>Ab (Am hg0 hS (x8+1,HI xs x8 o4_0 1) [(0,0)] ⟨Ac,(A2 (st:=Lp _) hq1 rfl rfl),trivial⟩))
 ·have hT:=hS
  obtain rfl:256=x8:=by omega
  obtain rfl:=hq1.symm
  have hS:=hT
  exact CX (Ae [] 1 hS fun hS=>AU (Bh (cG ..) hS))
end
def JS (f:Nat→Int):Bool:=(List.range 256).all fun i=>decide (f i<3329)
theorem Ab1 {f:Nat→Int} {i:Nat} (hi:i<256) (h:(3329:Int)≤f i):JS f=false:=by
 cases hb:JS f with
 |false=>rfl
 |true=>
  have :=List.all_eq_true.1 hb i (List.mem_range.2 hi)
  simp only[decide_eq_true_iff]at this
  omega
theorem aF {f:Nat→Int} (h:∀i,i<256→f i<3329):JS f=true:=by
 unfold JS
 rw[List.all_eq_true]
 intro i hi
 rw[decide_eq_true_iff]
 exact h i (List.mem_range.1 hi)
def Afc (f:Nat→Int):Con:=⟨[.ar .u16 256 f],[],.v (.bool (JS f)),[]⟩
theorem mV (f:Nat→Int):ConOk Tryz.prog 193 (Afc f):=by
 refine cy 0 Tryz.func193 rfl Tryz.ntmps193 fun hg0 hS=>Ae [] 1 hS fun hS=>Au (Ae [] 1 hS fun hS=>Br (Ar (ι:=Nat) hg0 hS (fun i=>(256-i,[(6,vi ((i:Nat):Int))],[],(i≤256)∧(∀j,j<i→f j<3329)∧True)) [5] [] 0 0 [] ⟨Ac,(fun j h=>absurd h (Nat.not_lt_zero j)),trivial⟩ ?_))
 rintro i ac gs ws ⟨hi,pm,_⟩ hS
 refine Ae [] 0 hS fun hS=>Au (AB ((i:Int)<256) hS (fun h1=> ?_) (fun h1=> ?_))
 ·refine BG (Ay [(0,AG i 256)] [] 0 hS fun hS=>Ae [] 0 hS fun hS=>AB ((3329:Int)≤(f i)) hS (fun h2=> ?_) (fun h2=> ?_))
  ·exact Ae [] 0 hS fun hS=>AU (AC (Ah (Ah (AC (Ah (CW rfl (.inr rfl) hS [.v (.bool false)] [] (by show weak _ (.v (.bool (JS f)))= .v (.bool (JS f));rw[Ab1 Ac h2];rfl) trivial))))))
  ·exact Iu (Av [(0,BQ i)] [6] 0 hS fun hS=>Ab (Am hg0 hS (i+1) [] ⟨Ac,(A1 pm Ac),trivial⟩))
 ·have hT:=hS
  obtain rfl:256=i:=by omega
  have hS:=hT
  exact CX (Ae [] 0 hS fun hS=>AU (CW rfl (.inr rfl) hS [.v (.bool true)] [] (by show weak _ (.v (.bool (JS f)))= .v (.bool (JS f));rw[aF pm];rfl) trivial))
end
end Go.Sx.Tryz
namespace Go.Sx.Tryz
open Go.Mi Go.RowKit Go.Sx Go.Proofs
noncomputable section
def Ob4 (x0:Nat→Int) (x1:Nat):O:= .ob 250 (chain [.ar .u64 25 x0,vi 168,vi ((x1:Nat):Int)])
section
variable (l:List (List Int))
def Vu:(List Int):=(Dh 136 (Pn 136 6 l) 0 32).2.2
def Bl:(List Int):=AJ (Vu l)
theorem Vv:Bl l=Vu l:=Af _
end
@[simp] theorem Kq (l:List (List Int)):(Bl l).length=32:=by rw[Vv];exact Nb ..
section
variable (l:List (List Int))
def qL (z_:(List Int):=Bl l):Con:=⟨[.ls false [.sl (.int .u8)] l],[],lb z_,[]⟩
theorem Jt (h:l.flatten.length≤140000000000000):ConOk Tryz.prog 156 (qL l):=by
 refine cy 0 Tryz.func156 rfl Tryz.ntmps156 fun hg0 hS=> ?_
 have A6:l.length≤9223372036854775807:=hS.len 0 rfl
 exact Ae [] 0 hS fun hS=>Ay [(1,AO (G9 136 6 l Ac Ac (by first |omega|(simp only[List.flatten_cons,List.flatten_nil,List.length_append,List.length_cons,List.length_nil,List.length_take,List.length_drop,List.length_replicate]<;>omega)|(simp<;>omega))) [] [(0,0)]),(2,AO (LG 136 (Pn 136 6 l) 0 32 Ac Ac Ac Ac) [(0,0)] [])] [] 1 hS fun hS=>AU (Bh (Vv ..) hS)
def Vt:(List Int):=(Dh 72 (Pn 72 6 l) 0 64).2.2
def AA:(List Int):=AJ (Vt l)
theorem Ph:AA l=Vt l:=Af _
end
@[simp] theorem DO (l:List (List Int)):(AA l).length=64:=by rw[Ph];exact Nb ..
section
variable (l:List (List Int))
def qK (z_:(List Int):=AA l):Con:=⟨[.ls false [.sl (.int .u8)] l],[],lb z_,[]⟩
theorem Js (h:l.flatten.length≤140000000000000):ConOk Tryz.prog 147 (qK l):=by
 refine cy 0 Tryz.func147 rfl Tryz.ntmps147 fun hg0 hS=> ?_
 have A6:l.length≤9223372036854775807:=hS.len 0 rfl
 exact Ae [] 0 hS fun hS=>Ay [(1,AO (G9 72 6 l Ac Ac (by first |omega|(simp only[List.flatten_cons,List.flatten_nil,List.length_append,List.length_cons,List.length_nil,List.length_take,List.length_drop,List.length_replicate]<;>omega)|(simp<;>omega))) [] [(0,0)]),(2,AO (LG 72 (Pn 72 6 l) 0 64 Ac Ac Ac Ac) [(0,0)] [])] [] 1 hS fun hS=>AU (Bh (Ph ..) hS)
def Ps:(List Int):=(Dh 136 (Pn 136 31 l) 0 128).2.2
def BK:(List Int):=AJ (Ps l)
theorem Pt:BK l=Ps l:=Af _
end
@[simp] theorem Ty (l:List (List Int)):(BK l).length=128:=by rw[Pt];exact Nb ..
section
variable (l:List (List Int))
def YZ (z_:(List Int):=BK l):Con:=⟨[vi 128,.ls false [.sl (.int .u8)] l],[],lb z_,[]⟩
theorem VI (h:l.flatten.length≤140000000000000):ConOk Tryz.prog 171 (YZ l):=by
 refine cy 0 Tryz.func171 rfl Tryz.ntmps171 fun hg0 hS=> ?_
 have Bf:l.length≤9223372036854775807:=hS.len 1 rfl
 exact Ae [] 0 hS fun hS=>Ay [(1,AO (G9 136 31 l Ac Ac (by first |omega|(simp only[List.flatten_cons,List.flatten_nil,List.length_append,List.length_cons,List.length_nil,List.length_take,List.length_drop,List.length_replicate]<;>omega)|(simp<;>omega))) [] [(0,0)]),(4,AO (LG 136 (Pn 136 31 l) 0 128 Ac Ac Ac Ac) [(0,0)] [])] [] 1 hS fun hS=>AU (Bh (Pt ..) hS)
def RY:(List Int):=(Dh 136 (Pn 136 31 l) 0 32).2.2
def Hb:(List Int):=AJ (RY l)
theorem RZ:Hb l=RY l:=Af _
end
@[simp] theorem VH (l:List (List Int)):(Hb l).length=32:=by rw[RZ];exact Nb ..
def fM (l:List (List Int)) (z_:(List Int):=Hb l):Con:=⟨[vi 32,.ls false [.sl (.int .u8)] l],[],lb z_,[]⟩
theorem XZ (l:List (List Int)) (h:l.flatten.length≤140000000000000):ConOk Tryz.prog 171 (fM l):=by
 refine cy 0 Tryz.func171 rfl Tryz.ntmps171 fun hg0 hS=> ?_
 have Bf:l.length≤9223372036854775807:=hS.len 1 rfl
 exact Ae [] 0 hS fun hS=>Ay [(1,AO (G9 136 31 l Ac Ac (by first |omega|(simp only[List.flatten_cons,List.flatten_nil,List.length_append,List.length_cons,List.length_nil,List.length_take,List.length_drop,List.length_replicate]<;>omega)|(simp<;>omega))) [] [(0,0)]),(4,AO (LG 136 (Pn 136 31 l) 0 32 Ac Ac Ac Ac) [(0,0)] [])] [] 1 hS fun hS=>AU (Bh (RZ ..) hS)
section
variable (sd:List Int) (k:Int)
def Qe (x13:Nat):(Nat→Int)→(Nat→Int):=fun o4_0=>upd o4_0 x13 (Dc (Eu .u32 (Eu .u32 (AZ .u32 (AZ .u32 (A5 .u32 (AY .u32 (IntKind.wrap .u32 ((BK [sd,[k]]).getD (x13/2) 0)) (((x13%2)*4:Nat):Int)) 1) (A5 .u32 (AY .u32 (AY .u32 (IntKind.wrap .u32 ((BK [sd,[k]]).getD (x13/2) 0)) (((x13%2)*4:Nat):Int)) 1) 1)) 3329) (A5 .u32 (AY .u32 (AY .u32 (IntKind.wrap .u32 ((BK [sd,[k]]).getD (x13/2) 0)) (((x13%2)*4:Nat):Int)) 2) 1)) (A5 .u32 (AY .u32 (AY .u32 (IntKind.wrap .u32 ((BK [sd,[k]]).getD (x13/2) 0)) (((x13%2)*4:Nat):Int)) 3) 1)))
def Qf (sd:List Int) (k:Int):Nat→(Nat→Int)
 |0=>fun _=>0
 |x13+1=>Qe sd k x13 (Qf sd k x13)
def aA:(Nat→Int):=Qf sd k 256
def CG:(Nat→Int):=AJ (aA sd k)
theorem vT:CG sd k=aA sd k:=Af _
def zH (z_:(Nat→Int):=CG sd k):Con:=⟨[lb sd,.v (.int .u8 k)],[],.ar .u16 256 z_,[]⟩
theorem Wo (h:sd.length≤100000000000000):ConOk Tryz.prog 175 (zH sd k):=by
 refine cy 0 Tryz.func175 rfl Tryz.ntmps175 fun hg0 hS=> ?_
 have A6:sd.length≤9223372036854775807:=hS.len 0 rfl
 refine Ae [] 1 hS fun hS=>Au (Av [(4,AR (VI [sd,[k]] (by first |omega|(simp only[List.flatten_cons,List.flatten_nil,List.length_append,List.length_cons,List.length_nil,List.length_take,List.length_drop,List.length_replicate]<;>omega)|(simp<;>omega))))] [] 1 hS fun hS=> ?_)
 have hl:=Ty [sd,[k]]
 refine Ej (Ae [] 1 hS fun hS=>Br (Ar (ι:=Nat×(Nat→Int)) hg0 hS (fun(x13,o4_0)=>(256-x13,[(13,vi ((x13:Nat):Int))],[(0,MQ o4_0)],(x13≤256)∧(o4_0=Qf sd k x13)∧True)) [4,5] [] 1 (0,fun _=>0) [(0,0)] ⟨Ac,rfl,trivial⟩ ?_))
 rintro⟨x13,o4_0⟩ ac gs ws ⟨hx13,hq1,_⟩ hS
 refine Ae [] 1 hS fun hS=>Au (AB ((x13:Int)<256) hS (fun h1=> ?_) (fun h1=> ?_))
 ·exact BG (Ae [] 1 hS fun hS=>Ay [(2,Td x13 2),(3,AG (x13/2) ((BK [sd,[k]]).length)),(7,Lb x13 2),(8,GE (x13%2) 4 ((x13%2)*4)),(9,EL ((x13%2)*4))] [] 1 hS fun hS=>Av [(4,EL 1),(9,EL 2),(13,EL 3),(16,AR (GX (Eu .u32 (Eu .u32 (AZ .u32 (AZ .u32 (A5 .u32 (AY .u32 (IntKind.wrap .u32 ((BK [sd,[k]]).getD (x13/2) 0)) (((x13%2)*4:Nat):Int)) 1) (A5 .u32 (AY .u32 (AY .u32 (IntKind.wrap .u32 ((BK [sd,[k]]).getD (x13/2) 0)) (((x13%2)*4:Nat):Int)) 1) 1)) 3329) (A5 .u32 (AY .u32 (AY .u32 (IntKind.wrap .u32 ((BK [sd,[k]]).getD (x13/2) 0)) (((x13%2)*4:Nat):Int)) 2) 1)) (A5 .u32 (AY .u32 (AY .u32 (IntKind.wrap .u32 ((BK [sd,[k]]).getD (x13/2) 0)) (((x13%2)*4:Nat):Int)) 3) 1)))),(17,AG x13 256)] [] 1 hS fun hS=>BV (Av [(0,BQ x13)] [13] 1 hS fun hS=>Ab (Am hg0 hS (x13+1,upd o4_0 x13 (Dc (Eu .u32 (Eu .u32 (AZ .u32 (AZ .u32 (A5 .u32 (AY .u32 (IntKind.wrap .u32 ((BK [sd,[k]]).getD (x13/2) 0)) (((x13%2)*4:Nat):Int)) 1) (A5 .u32 (AY .u32 (AY .u32 (IntKind.wrap .u32 ((BK [sd,[k]]).getD (x13/2) 0)) (((x13%2)*4:Nat):Int)) 1) 1)) 3329) (A5 .u32 (AY .u32 (AY .u32 (IntKind.wrap .u32 ((BK [sd,[k]]).getD (x13/2) 0)) (((x13%2)*4:Nat):Int)) 2) 1)) (A5 .u32 (AY .u32 (AY .u32 (IntKind.wrap .u32 ((BK [sd,[k]]).getD (x13/2) 0)) (((x13%2)*4:Nat):Int)) 3) 1)))) [(0,0)] ⟨Ac,(A2 (st:=Qe _ _) hq1 rfl rfl),trivial⟩)))
 ·have hT:=hS
  obtain rfl:256=x13:=by omega
  obtain rfl:=hq1.symm
  have hS:=hT
  exact CX (Ae [] 1 hS fun hS=>AU (Bh (vT ..) hS))
end
def Xm (l:List (List Int)):Con:=⟨[.ls false [.sl (.int .u8)] l],[],.cp 0 0,[(0,.ob 270 (chain [.cp 1 0])),(1,.ob 250 (chain [.ar .u64 25 (Pn 168 31 l),vi 168,vi 0]))]⟩
theorem Ue (l:List (List Int)) (h:l.flatten.length≤140000000000000):ConOk Tryz.prog 201 (Xm l):=by
 refine cy 0 Tryz.func201 rfl Tryz.ntmps201 fun hg0 hS=> ?_
 have A6:l.length≤9223372036854775807:=hS.len 0 rfl
 refine Ae [] 0 hS fun hS=>Ay [(1,AO (G9 168 31 l Ac Ac (by first |omega|(simp only[List.flatten_cons,List.flatten_nil,List.length_append,List.length_cons,List.length_nil,List.length_take,List.length_drop,List.length_replicate]<;>omega)|(simp<;>omega))) [] [(0,0)])] [] 2 hS fun hS=>AU ?_
 obtain⟨gs,hS⟩:=hS.rx [(0,1),(1,0)] [2] [0,1] 2 hg0
 exact Ci hS
section
variable (f:Nat→Int) (a:Nat)
def yY:Con:=⟨[.cp 0 0,vi 504],[(0,.ob 270 (chain [.cp 1 0])),(1,Ob4 f a)],lb ((Dh 168 f a 504).2.2),[(0,.ob 270 (chain [.cp 1 0])),(1,Ob4 ((Dh 168 f a 504).1) ((Dh 168 f a 504).2.1))]⟩
theorem kI (h:a≤168):ConOk Tryz.prog 202 (yY f a):=by
 exact cy 2 Tryz.func202 rfl Tryz.ntmps202 fun hg0 hS=>Ae [] 2 hS fun hS=>Au (Ae [] 2 hS fun hS=>Ai hS (EK (Ae [] 2 hS fun hS=>Ai hS (B5 (Ay [(5,AO (LG 168 f a 504 Ac Ac Ac Ac) [(0,1)] [])] [] 2 hS fun hS=>AU (Ci hS))))))
end
end
end Go.Sx.Tryz
namespace Go.Sx
open Go.Mi Go.RowKit
def bv (f:Nat→Int):Ke.St:=fun i=>BitVec.ofInt 64 (f i)
def Rg (f:Nat→Int):Prop:=∀i,i<25→0≤f i∧f i<18446744073709551616
theorem OV (x:Int):IntKind.wrap .u64 x=x%18446744073709551616:=by
 simp [IntKind.wrap,IntKind.bits,IntKind.signed]
theorem RD (x:Int):0≤IntKind.wrap .u64 x∧IntKind.wrap .u64 x<18446744073709551616:=by rw[OV];omega
theorem OH (x:Int):BitVec.ofInt 64 (IntKind.wrap .u64 x)=BitVec.ofInt 64 x:=by
 apply BitVec.eq_of_toInt_eq
 simp only[BitVec.toInt_ofInt,OV]
 unfold Int.bmod
 simp
theorem Y_ (x:BitVec 64):BitVec.ofInt 64 (x.toNat:Int)=x:=by simp
theorem Nv (p q:Int):BitVec.ofInt 64 (AK .u64 p q)=BitVec.ofInt 64 p^^^BitVec.ofInt 64 q:=by
 unfold AK;rw[OH];exact Y_ _
theorem Adz (p q:Int):BitVec.ofInt 64 (A5 .u64 p q)=BitVec.ofInt 64 p&&&BitVec.ofInt 64 q:=by
 unfold A5;rw[OH];exact Y_ _
theorem Afj (p q:Int):BitVec.ofInt 64 (C7 .u64 p q)=BitVec.ofInt 64 p|||BitVec.ofInt 64 q:=by
 unfold C7;rw[OH];exact Y_ _
theorem Ady (p:Int):BitVec.ofInt 64 (KM .u64 p)= ~~~BitVec.ofInt 64 p:=by
 unfold KM;rw[Nv]
 rw[show BitVec.ofInt 64 (if IntKind.signed .u64 then -1 else IntKind.max .u64)=BitVec.allOnes 64 from rfl,BitVec.allOnes_xor]
theorem Md (p q:Int):0≤AK .u64 p q∧AK .u64 p q<18446744073709551616:=RD _
theorem nE (p q:Int):0≤C7 .u64 p q∧C7 .u64 p q<18446744073709551616:=RD _
theorem FC {x:Int} (h:0≤x∧x<18446744073709551616):(BitVec.ofInt 64 x).toNat=x.toNat:=by
 rw[BitVec.toNat_ofInt];omega
theorem Adx (p:Int) (k:Nat) (hk:k≤64):BitVec.ofInt 64 (Bd .u64 p (k:Int))=BitVec.ofInt 64 p<<<k:=by
 unfold Bd
 rw[OH,show min (k:Int).toNat (IntKind.bits .u64)=k by simp [IntKind.bits];omega]
 apply BitVec.eq_of_toNat_eq
 rw[BitVec.toNat_shiftLeft,Nat.shiftLeft_eq,BitVec.toNat_ofInt,BitVec.toNat_ofInt]
 have h1:(p*2^k)%((2^64:Nat):Int)=((p%((2^64:Nat):Int))*((2^k:Nat):Int))%((2^64:Nat):Int):=by
  rw[show((2^k:Nat):Int)=(2:Int)^k by simp]
  have e1:=Int.mul_emod p (2^k) ((2^64:Nat):Int)
  have e2:=Int.mul_emod (p%((2^64:Nat):Int)) (2^k) ((2^64:Nat):Int)
  rw[Int.emod_emod_of_dvd _ (Int.dvd_refl _)]at e2
  rw[e1,e2]
 rw[h1]
 have h2:0≤p%((2^64:Nat):Int):=Int.emod_nonneg _ (by decide)
 obtain⟨n,hn⟩:=Int.eq_ofNat_of_zero_le h2
 rw[hn]
 have h3:(((n:Int)*((2^k:Nat):Int))%((2^64:Nat):Int)).toNat=n*2^k%2^64:=by
  rw[←Int.natCast_mul,←Int.natCast_emod,Int.toNat_natCast]
 rw[h3]
 rfl
theorem Adw {p:Int} (h:0≤p∧p<18446744073709551616) (k:Nat) (hk:k≤64):BitVec.ofInt 64 (AY .u64 p (k:Int))=BitVec.ofInt 64 p>>>k:=by
 unfold AY
 rw[show min (k:Int).toNat (IntKind.bits .u64)=k by simp [IntKind.bits];omega]
 obtain⟨n,rfl⟩:=Int.eq_ofNat_of_zero_le h.1
 apply BitVec.eq_of_toNat_eq
 rw[BitVec.toNat_ushiftRight,Nat.shiftRight_eq_div_pow,FC h]
 rw[Int.fdiv_eq_ediv_of_nonneg _ (Int.pow_nonneg (by decide)),show(2:Int)^k=((2^k:Nat):Int) by simp]
 rw[show(((n:Nat):Int)/((2^k:Nat):Int))=((n/2^k:Nat):Int)from rfl]
 have h3:n/2^k≤n:=Nat.div_le_self _ _
 have h4:n<18446744073709551616:=by have :=h.2;omega
 rw[FC ⟨Int.natCast_nonneg _,by omega⟩,Int.toNat_natCast,Int.toNat_natCast]
theorem ZK {x:Int} (h:0≤x∧x<18446744073709551616) (k:Nat) (hk:k<1000):BitVec.ofInt 64 (TE x (k:Int))=Ke.rot (BitVec.ofInt 64 x) k:=by
 have hm:A5 .u64 (IntKind.wrap .u64 (k:Int)) 63=((k%64:Nat):Int):=by
  unfold A5
  rw[OV,BitVec.toNat_and,show(BitVec.ofInt (IntKind.bits .u64) 63).toNat=2^6-1 from rfl,Nat.and_two_pow_sub_one_eq_mod]
  have e:(BitVec.ofInt (IntKind.bits .u64) (IntKind.wrap .u64 (k:Int))).toNat=k:=by
   rw[OV]
   show(BitVec.ofInt 64 _).toNat=k
   rw[FC ⟨by omega,by omega⟩];omega
  rw[e]
  omega
 have hs:Eu .u64 64 (A5 .u64 (IntKind.wrap .u64 (k:Int)) 63)=((64-k%64:Nat):Int):=by
  rw[hm];unfold Eu;rw[OV];omega
 unfold TE
 rw[Afj,hs,hm,Adx _ _ (by omega),Adw h _ (by omega)]
 unfold Ke.rot
 rw[BitVec.rotateLeft_def]
theorem uQ (x k:Int):0≤TE x k∧TE x k<18446744073709551616:=nE _ _
theorem Vq (a:Nat→Int) (n x:Nat):MV a (n+1) x=if x=n%5 then AK .u64 (MV a n x) (a n)else MV a n x:=by
 simp only[MV,upd]
 split
 ·rename_i h;rw[h]
 ·rfl
theorem Vr (a:Nat→Int) (k x:Nat) (hx:x<5):MV a (5*k+5) x=AK .u64 (MV a (5*k) x) (a (5*k+x)):=by
 have h5:x=0∨x=1∨x=2∨x=3∨x=4:=by omega
 rw[show 5*k+5=5*k+4+1 from rfl,Vq,show 5*k+4=5*k+3+1 from rfl,Vq,show 5*k+3=5*k+2+1 from rfl,Vq,show 5*k+2=5*k+1+1 from rfl,Vq,Vq]
 rcases h5 with rfl|rfl|rfl|rfl|rfl<;>repeat (first |rw[if_pos (by omega)]|rw[if_neg (by omega)]|rfl)
theorem iU (a:Nat→Int) (x:Nat) (hx:x<5):BitVec.ofInt 64 (MV a 25 x)=Ke.par (bv a) x:=by
 have h1:=Vr a 4 x hx
 have h2:=Vr a 3 x hx
 have h3:=Vr a 2 x hx
 have h4:=Vr a 1 x hx
 have h5:=Vr a 0 x hx
 have h6:MV a 0 x=0:=rfl
 show BitVec.ofInt 64 (MV a (5*4+5) x)=_
 rw[h1,show MV a (5*4) x=MV a (5*3+5) x from rfl,h2,show MV a (5*3) x=MV a (5*2+5) x from rfl,h3,show MV a (5*2) x=MV a (5*1+5) x from rfl,h4,show MV a (5*1) x=MV a (5*0+5) x from rfl,h5,show MV a (5*0) x=0 from rfl]
 simp only[Nv]
 unfold Ke.par bv
 rw[Nat.mod_eq_of_lt hx]
 simp [Nat.add_comm]
theorem Ti (a c:Nat→Int):∀n i,thA a c n i=if i<n then AK .u64 (a i) (AK .u64 (c ((i%5+4)%5)) (TE (c ((i%5+1)%5)) 1))else a i
 |0,i=>by simp [thA]
 |n+1,i=>by
  simp only[thA,upd]
  by_cases h:i=n
  ·subst h;rw[if_pos rfl,Ti a c i i,if_neg (Nat.lt_irrefl _),if_pos (Nat.lt_succ_self _)]
  ·rw[if_neg h,Ti a c n i]
   by_cases h2:i<n
   ·rw[if_pos h2,if_pos (by omega)]
   ·rw[if_neg h2,if_neg (by omega)]
theorem iT (a:Nat→Int):∀n i,0≤MV a n i∧MV a n i<18446744073709551616
 |0,i=>by simp [MV]
 |n+1,i=>by
  simp only[MV,upd]
  split
  ·exact Md _ _
  ·exact iT a n i
theorem iS (a:Nat→Int):Ke.Eq25 (bv (theta a)) (Ke.theta (bv a)):=by
 intro i hi
 unfold bv theta Ke.theta Ke.dif
 rw[Ti,if_pos hi,Nv,Nv,iU _ _ (by omega),show(1:Int)=((1:Nat):Int)from rfl,ZK (iT _ _ _) 1 (by omega),iU _ _ (by omega)]
 rw[show(i%5+4)%5=(i+4)%5 by omega,show(i%5+1)%5=(i+1)%5 by omega,Ke.par_mod,Ke.par_mod]
 rfl
theorem iQ (a:Nat→Int):Rg (theta a):=fun i hi=>by
 unfold theta;rw[Ti,if_pos hi];exact Md _ _
theorem ZO {a:Nat→Int} (ha:Rg a):∀n,n≤24→Rg (X4 a n)∧Ke.Eq25 (bv (X4 a n)) (Ke.rhoN (bv a) n)
 |0,_=>⟨ha,fun i _=>rfl⟩
 |n+1,hn=>by
  obtain⟨h1,h2⟩:=ZO ha n (by omega)
  have hk:Me .i64 (BJ .i64 ((n+1:Nat):Int) ((n+2:Nat):Int)) 2=(((n+1)*(n+2)/2:Nat):Int):=by
   have key:((List.range 24).all fun n=>decide (Me .i64 (BJ .i64 ((n+1:Nat):Int) ((n+2:Nat):Int)) 2=(((n+1)*(n+2)/2:Nat):Int)))=true:=by kernel_rfl
   exact of_decide_eq_true (List.all_eq_true.1 key n (List.mem_range.2 (by omega)))
  have hk2:(n+1)*(n+2)/2<1000:=by
   have :(n+1)*(n+2)≤24*25:=Nat.mul_le_mul (by omega) (by omega)
   omega
  have hp:=Ke.ps_lt n (by omega)
  refine⟨fun i hi=> ?_,fun i hi=> ?_⟩
  ·simp only[X4,upd]
   split
   ·exact uQ _ _
   ·exact h1 i hi
  ·simp only[X4,upd,bv,Ke.rhoN]
   show BitVec.ofInt 64 (if i=Ke.ps (n+1)then _ else _)=_
   split
   ·rw[hk];exact ZK (ha _ hp) _ hk2
   ·exact h2 i hi
theorem Abs {a:Nat→Int} (ha:Rg a):Ke.Eq25 (bv (rho a)) (Ke.rho (bv a)):=(ZO ha 24 (Nat.le_refl _)).2
theorem OB (a:Nat→Int):∀n i,YR a n i=if i<n then AK .u64 (a i) (A5 .u64 (KM .u64 (a (i-i%5+(i+1)%5))) (a (i-i%5+(i+2)%5)))else a i
 |0,i=>by simp [YR]
 |n+1,i=>by
  simp only[YR,upd]
  by_cases h:i=n
  ·subst h;rw[if_pos rfl,OB a i i,if_neg (Nat.lt_irrefl _),if_pos (Nat.lt_succ_self _)]
  ·rw[if_neg h,OB a n i]
   by_cases h2:i<n
   ·rw[if_pos h2,if_pos (by omega)]
   ·rw[if_neg h2,if_neg (by omega)]
theorem AcH (a:Nat→Int):Ke.Eq25 (bv (chi a)) (Ke.chi (bv a)):=by
 intro i hi
 unfold bv chi Ke.chi
 rw[OB,if_pos hi,Nv,Adz,Ady]
theorem AcF (a:Nat→Int):Rg (chi a):=fun i hi=>by
 unfold chi;rw[OB,if_pos hi];exact Md _ _
theorem Aek (b:Nat→Int):aH b 3=chi (rho (theta b)):=by simp only[aH,Ab9]
def RCl (n:Nat):List Ke.Ln:=(List.range n).map fun i=>BitVec.ofInt 64 (RC i)
theorem PC:∀(l m:List Ke.Ln) (a:Ke.St),Ke.rounds (l++m) a=Ke.rounds m (Ke.rounds l a)
 |[],m,a=>rfl
 |c::l,m,a=>PC l m (Ke.round c a)
theorem T0 {a:Nat→Int} (ha:Rg a):∀n,Rg (JR a n)∧Ke.Eq25 (bv (JR a n)) (Ke.rounds (RCl n) (bv a))
 |0=>⟨ha,fun i _=>rfl⟩
 |n+1=>by
  obtain⟨h1,h2⟩:=T0 ha n
  generalize hK:Ke.rounds (RCl n) (bv a)=K at h2
  have e:Ke.rounds (RCl (n+1)) (bv a)=Ke.round (BitVec.ofInt 64 (RC n)) K:=by
   rw[←hK];unfold RCl;rw[List.range_succ,List.map_append,PC];rfl
  have k1:Rg (aH (JR a n) 3):=by rw[Aek];exact AcF _
  have k2:Ke.Eq25 (bv (aH (JR a n) 3)) (Ke.chi (Ke.rho (Ke.theta K))):=by
   have t1:Ke.Eq25 (bv (theta (JR a n))) (Ke.theta K):=fun i hi=>by rw[iS _ i hi,Ke.theta_congr h2 i hi]
   have t2:Ke.Eq25 (bv (rho (theta (JR a n)))) (Ke.rho (Ke.theta K)):=fun i hi=>by
    rw[Abs (iQ _) i hi];exact Ke.rhoN_congr t1 24 (Nat.le_refl _) i hi
   intro i hi
   rw[Aek,AcH _ i hi,Ke.chi_congr t2 i hi]
  have pe:JR a (n+1)=upd (aH (JR a n) 3) 0 (AK .u64 (aH (JR a n) 3 0) (RC n)):=rfl
  generalize aH (JR a n) 3=q at k1 k2 pe
  rw[pe]
  refine⟨fun i hi=> ?_,fun i hi=> ?_⟩
  ·unfold upd
   split
   ·exact Md _ _
   ·exact k1 i hi
  ·rw[e]
   unfold Ke.round Ke.iota bv upd
   split
   ·rw[Nv]
    have :=k2 0 (by omega)
    unfold bv at this
    rw[this]
   ·exact k2 i hi
def Wb (a:Ke.St):Ke.St:=Ke.rounds (RCl 24) a
theorem vC {a:Nat→Int} (ha:Rg a):Ke.Eq25 (bv (B7 a)) (Wb (bv a)):=(T0 ha 24).2
theorem vB {a:Nat→Int} (ha:Rg a):Rg (B7 a):=(T0 ha 24).1
def Db (a:Nat→Int):Nat→Nat→Int
 |0=>a
 |n+1=>B7 (Db a n)
theorem Wa {a:Nat→Int} (ha:Rg a):∀n,Rg (Db a n)∧Ke.Eq25 (bv (Db a n)) (Ke.iter Wb n (bv a))
 |0=>⟨ha,fun _ _=>rfl⟩
 |n+1=>by
  obtain⟨h1,h2⟩:=Wa ha n
  refine⟨vB h1,fun i hi=> ?_⟩
  show bv (B7 (Db a n)) i=Wb (Ke.iter Wb n (bv a)) i
  rw[vC h1 i hi]
  exact Ke.rounds_congr (RCl 24) h2 i hi
theorem Yd {a:Nat→Int} (ha:Rg a) (m:Nat):∃n,m<n∧∀i,i<25→Db a n i=a i:=by
 obtain⟨n,h1,h2⟩:=Ke.again_late (f:=Wb) (fun h=>Ke.rounds_inj _ h) (fun h=>Ke.rounds_congr _ h) (bv a) m
 refine⟨n,h1,fun i hi=> ?_⟩
 obtain⟨h3,h4⟩:=Wa ha n
 have h5:=(h4 i hi).trans (h2 i hi)
 unfold bv at h5
 have h6:=congrArg BitVec.toNat h5
 rw[FC (h3 i hi),FC (ha i hi)]at h6
 have :=h3 i hi
 have :=ha i hi
 omega
end Go.Sx
namespace Go.Sx
open Go.Mi Go.RowKit
def Bt (f:Nat→Int) (i:Nat):Int:=IntKind.wrap .u8 (AY .u64 (f (i/8)) ((8*(i%8):Nat):Int))
def gL (f:Nat→Int) (a n:Nat):List Int:=(List.range n).map fun i=>Bt f (a+i)
theorem Afk (f:Nat→Int) (a n:Nat):gL f a (n+1)=gL f a n++[Bt f (a+n)]:=by unfold gL;rw[List.range_succ,List.map_append];rfl
theorem Aaf (f:Nat→Int) (a n:Nat):(gL f a n).length=n:=by simp [gL]
theorem lM {r:Nat} (f:Nat→Int) (a:Nat):∀n,a+n≤r→Dh r f a n=(f,a+n,gL f a n)
 |0,_=>(dK r f a).symm
 |n+1,h=>by
  rw[Sj,lM f a n (by omega),Afk]
  simp only
  rw[if_neg (by omega)]
  rfl
theorem LK (r:Nat) (f:Nat→Int) (a m:Nat):∀n,Dh r f a (m+n)=((Dh r (Dh r f a m).1 (Dh r f a m).2.1 n).1,(Dh r (Dh r f a m).1 (Dh r f a m).2.1 n).2.1,(Dh r f a m).2.2++(Dh r (Dh r f a m).1 (Dh r f a m).2.1 n).2.2)
 |0=>by
  rw[←dK]
  simp
 |n+1=>by
  have ih:=LK r f a m n
  rw[show m+(n+1)=(m+n)+1 from rfl,Sj,ih,Sj]
  generalize Dh r (Dh r f a m).1 (Dh r f a m).2.1 n=q
  obtain⟨g,b,o⟩:=q
  simp only
  split<;>simp
theorem V2 {r:Nat} (hr:0<r) (f:Nat→Int) (n:Nat):Dh r f r (n+1)=Dh r (B7 f) 0 (n+1):=by
 rw[Nat.add_comm n 1,LK r f r 1,LK r (B7 f) 0 1]
 have h1:Dh r f r 1=(B7 f,1,[Bt (B7 f) 0]):=by rw[Sj,←dK];simp only[if_true];rfl
 have h2:Dh r (B7 f) 0 1=(B7 f,1,[Bt (B7 f) 0]):=by rw[Sj,←dK];simp only;rw[if_neg (by omega)];rfl
 rw[h1,h2]
def blk (f:Nat→Int):List Int:=gL f 0 168
theorem OK (f:Nat→Int):(blk f).length=168:=Aaf ..
theorem Ad1 {r:Nat} (hr:0<r) (h:Nat→Int):Dh r h 0 (r+(r+r))=(B7 (B7 h),r,gL h 0 r++gL (B7 h) 0 r++gL (B7 (B7 h)) 0 r):=by
 have e:∀h,Dh r h 0 r=(h,r,gL h 0 r):=fun h=>by rw[lM h 0 r (by omega),Nat.zero_add]
 have e2:∀h,Dh r h r r=(B7 h,r,gL (B7 h) 0 r):=fun h=>by
  obtain⟨n,rfl⟩:∃n,r=n+1:=⟨r-1,by omega⟩
  rw[V2 hr,e]
 rw[LK,e,LK,e2,e2,List.append_assoc]
theorem AaD (h:Nat→Int):Dh 168 h 0 504=(B7 (B7 h),168,blk h++blk (B7 h)++blk (B7 (B7 h))):=Ad1 (by decide) h
theorem Ad2 (h:Nat→Int):Dh 168 h 168 504=(B7 (B7 (B7 h)),168,blk (B7 h)++blk (B7 (B7 h))++blk (B7 (B7 (B7 h)))):=(V2 (r:=168) (by decide) h 503).trans (AaD (B7 h))
def Fq (x:Int) (s:(Nat→Int)×Nat):(Nat→Int)×Nat:=if x<3329 then(if s.2<256 then(upd s.1 s.2 x,s.2+1)else s)else s
def ux1 (a b:Int):Int:=C7 .u16 (IntKind.wrap .u16 a) (Bd .u16 (IntKind.wrap .u16 (A5 .u8 b 15)) 8)
def ux2 (b c:Int):Int:=C7 .u16 (IntKind.wrap .u16 (AY .u8 b 4)) (Bd .u16 (IntKind.wrap .u16 c) 4)
def acc:List Int→(Nat→Int)×Nat→(Nat→Int)×Nat
 |a::b::c::r,s=>acc r (Fq (ux2 b c) (Fq (ux1 a b) s))
 |_,s=>s
theorem s8 {b:List Int} (h:3≤b.length) (s:(Nat→Int)×Nat):acc b s=acc (b.drop 3) (Fq (ux2 (b.getD 1 0) (b.getD 2 0)) (Fq (ux1 (b.getD 0 0) (b.getD 1 0)) s)):=by
 match b,h with
 |x::y::z::r,_=>rfl
theorem b8 (s:(Nat→Int)×Nat):acc [] s=s:=rfl
theorem JQ (x:Int) (s:(Nat→Int)×Nat):s.2≤(Fq x s).2∧((Fq x s).2≤s.2+1)∧(s.2≤256→(Fq x s).2≤256):=by
 unfold Fq
 split
 ·split
  ·simp only;omega
  ·omega
 ·omega
theorem MN:∀(l:List Int) (s:(Nat→Int)×Nat),s.2≤(acc l s).2∧(s.2≤256→(acc l s).2≤256):=by
 intro l
 induction h:l.length using Nat.strongRecOn generalizing l with
 |_ n ih=>
  intro s
  match l,h with
  |[],_=>exact⟨Nat.le_refl _,id⟩
  |[_],_=>exact⟨Nat.le_refl _,id⟩
  |[_,_],_=>exact⟨Nat.le_refl _,id⟩
  |a::b::c::r,h=>
   have h1:=JQ (ux1 a b) s
   have h2:=JQ (ux2 b c) (Fq (ux1 a b) s)
   have h3:=ih r.length (by rw[←h];simp only[List.length_cons];omega) r rfl (Fq (ux2 b c) (Fq (ux1 a b) s))
   exact⟨by show s.2≤(acc r _).2;omega,fun h4=>h3.2 (h2.2.2 (h1.2.2 h4))⟩
theorem Aao:∀(p r:List Int) (s:(Nat→Int)×Nat),p.length%3=0→acc (p++r) s=acc r (acc p s):=by
 intro p
 induction h:p.length using Nat.strongRecOn generalizing p with
 |_ n ih=>
  intro r s hm
  match p,h with
  |[],_=>rfl
  |[_],h=>simp only[List.length_cons,List.length_nil]at h;omega
  |[_,_],h=>simp only[List.length_cons,List.length_nil]at h;omega
  |a::b::c::q,h=>
   simp only[List.length_cons]at h
   exact ih q.length (by omega) q rfl r _ (by omega)
theorem Rf {p r:List Int} (hp:p.length%3=0) {s:(Nat→Int)×Nat} (hs:s.2<256):s.2<(acc (p++0::0::0::r) s).2:=by
 rw[Aao _ _ _ hp]
 have h1:=(MN p s).1
 show s.2<(acc r (Fq (ux2 0 0) (Fq (ux1 0 0) (acc p s)))).2
 rw[show ux1 0 0=0 from rfl,show ux2 0 0=0 from rfl]
 generalize acc p s=t at h1
 have h2:=JQ 0 (Fq 0 t)
 have h3:=(MN r (Fq 0 (Fq 0 t))).1
 have h4:t.2<256→(Fq 0 t).2=t.2+1:=fun h=>by unfold Fq;rw[if_pos (by decide),if_pos h]
 have h5:=JQ 0 t
 omega
def uR (g0:Nat→Int):Nat→(Nat→Int)×Nat×(Nat→Int)×Nat
 |0=>(g0,0,fun _=>0,0)
 |k+1=>((Dh 168 (uR g0 k).1 (uR g0 k).2.1 504).1,(Dh 168 (uR g0 k).1 (uR g0 k).2.1 504).2.1,acc (Dh 168 (uR g0 k).1 (uR g0 k).2.1 504).2.2 (uR g0 k).2.2)
theorem Z2 (a:Nat→Int):∀n,Db (B7 a) n=Db a (n+1)
 |0=>rfl
 |n+1=>congrArg B7 (Z2 a n)
theorem iN (g0:Nat→Int):∀k,Dh 168 (uR g0 k).1 (uR g0 k).2.1 504=(Db g0 (3*k+2),168,blk (Db g0 (3*k))++blk (Db g0 (3*k+1))++blk (Db g0 (3*k+2)))
 |0=>AaD g0
 |k+1=>by
  have ih:=iN g0 k
  have e:uR g0 (k+1)=(Db g0 (3*k+2),168,acc (blk (Db g0 (3*k))++blk (Db g0 (3*k+1))++blk (Db g0 (3*k+2))) (uR g0 k).2.2):=by
   show((Dh 168 (uR g0 k).1 (uR g0 k).2.1 504).1,(Dh 168 (uR g0 k).1 (uR g0 k).2.1 504).2.1,acc (Dh 168 (uR g0 k).1 (uR g0 k).2.1 504).2.2 (uR g0 k).2.2)=_
   rw[ih]
  rw[e]
  simp only
  rw[Ad2]
  rfl
theorem Tf (g0:Nat→Int) (k:Nat):(uR g0 (k+1)).2.2=acc (blk (Db g0 (3*k))++blk (Db g0 (3*k+1))++blk (Db g0 (3*k+2))) (uR g0 k).2.2:=by
 show acc (Dh 168 (uR g0 k).1 (uR g0 k).2.1 504).2.2 (uR g0 k).2.2=_
 rw[iN]
theorem U_ {f:Nat→Int} {i:Nat} (h:f (i/8)=0):Bt f i=0:=by
 unfold Bt;rw[h];unfold AY;rw[Int.zero_fdiv];rfl
theorem sS {f:Nat→Int} (h:f 5=0):∃p r,blk f=p++0::0::0::r∧p.length=42:=by
 have hb:∀i,i<168→(blk f)[i]? =some (Bt f i):=fun i hi=>by simp [blk,gL,hi]
 have hl:=OK f
 refine⟨(blk f).take 42,(blk f).drop 45,?_,by simp [hl]⟩
 have e:(blk f).drop 42=0::0::0::(blk f).drop 45:=by
  have at':∀i,i<168→(blk f).drop i=Bt f i::(blk f).drop (i+1):=fun i hi=>by
   rw[List.drop_eq_getElem_cons (by rw[hl];exact hi)]
   have :=hb i hi
   rw[List.getElem?_eq_getElem (by rw[hl];exact hi)]at this
   rw[Option.some.inj this]
  rw[at' 42 (by omega),at' 43 (by omega),at' 44 (by omega),U_ h,U_ h,U_ h]
 rw[←e,List.take_append_drop]
theorem Zu (g0:Nat→Int):∀k,(uR g0 k).2.2.2≤(uR g0 (k+1)).2.2.2∧(uR g0 k).2.2.2≤256
 |0=>⟨Nat.zero_le _,Nat.zero_le _⟩
 |k+1=>by
  have ih:=Zu g0 k
  refine⟨?_,?_⟩
  ·rw[Tf g0 (k+1)];exact(MN _ _).1
  ·rw[Tf g0 k];exact(MN _ _).2 ih.2
theorem iM (g0:Nat→Int) (k:Nat):∀d,(uR g0 k).2.2.2≤(uR g0 (k+d)).2.2.2
 |0=>Nat.le_refl _
 |d+1=>Nat.le_trans (iM g0 k d) (Zu g0 (k+d)).1
theorem tW {g0:Nat→Int} {t:Nat} (h:Db g0 t 5=0) (hk:(uR g0 (t/3)).2.2.2<256):(uR g0 (t/3)).2.2.2<(uR g0 (t/3+1)).2.2.2:=by
 rw[Tf]
 have h3:t%3=0∨t%3=1∨t%3=2:=by omega
 obtain⟨p,r,e,hp⟩:=sS h
 rcases h3 with h3|h3|h3
 ·rw[show 3*(t/3)=t by omega,e]
  have :=Rf (p:=p) (r:=r++blk (Db g0 (t+1))++blk (Db g0 (t+2))) (by rw[hp]) hk
  simpa using this
 ·rw[show 3*(t/3)+1=t by omega,e]
  have :=Rf (p:=blk (Db g0 (3*(t/3)))++p) (r:=r++blk (Db g0 (3*(t/3)+2))) (by rw[List.length_append,hp,OK]) hk
  simpa using this
 ·rw[show 3*(t/3)+2=t by omega,e]
  have :=Rf (p:=blk (Db g0 (3*(t/3)))++blk (Db g0 (3*(t/3)+1))++p) (r:=r) (by rw[List.length_append,List.length_append,hp,OK,OK]) hk
  simpa using this
theorem tX {g0:Nat→Int} (h:∀m,∃t,m≤t∧Db g0 t 5=0):∃K,∀k,(uR g0 k).2.2.2<256→k<K:=by
 have key:∀c,c≤256→∃K,∀k,K≤k→c≤(uR g0 k).2.2.2:=by
  intro c
  induction c with
  |zero=>exact fun _=>⟨0,fun _ _=>Nat.zero_le _⟩
  |succ c ih=>
   intro hc
   obtain⟨K,hK⟩:=ih (by omega)
   obtain⟨t,h1,h2⟩:=h (3*K)
   refine⟨t/3+1,fun k hk=> ?_⟩
   have h3:=hK (t/3) (by omega)
   have h4:=iM g0 (t/3+1) (k-(t/3+1))
   rw[show t/3+1+(k-(t/3+1))=k by omega]at h4
   have h6:=iM g0 (t/3) 1
   by_cases h5:(uR g0 (t/3)).2.2.2<256
   ·have :=tW h2 h5
    omega
   ·omega
 obtain⟨K,hK⟩:=key 256 (Nat.le_refl _)
 refine⟨K,fun k hk=> ?_⟩
 rcases Nat.lt_or_ge k K with h1|h1
 ·exact h1
 ·have :=hK k h1;omega
theorem iD (b:List Int):∀n,Rg (gZ b (fun _=>0) n)
 |0=>fun i _=>by simp [gZ]
 |n+1=>fun i hi=>by
  simp only[gZ,upd]
  split
  ·exact Md _ _
  ·exact iD b n i hi
theorem OT {b:List Int} {l:Nat} (h:∀i,i/8=l→b.getD i 0=0):∀n,gZ b (fun _=>0) n l=0
 |0=>rfl
 |n+1=>by
  simp only[gZ,upd]
  split
  ·rename_i e
   rw[←e,OT h n,h n e.symm]
   have e2:∀m:Nat,m<8→AK .u64 0 (Bd .u64 (IntKind.wrap .u64 0) ((8*m:Nat):Int))=0:=by
    intro m hm
    have :m=0∨m=1∨m=2∨m=3∨m=4∨m=5∨m=6∨m=7:=by omega
    rcases this with rfl|rfl|rfl|rfl|rfl|rfl|rfl|rfl<;>rfl
   exact e2 (n%8) (Nat.mod_lt _ (by decide))
  ·exact OT h n
theorem vH {l:List (List Int)} (h:l.flatten.length<40):(mH 168 31 l).length=168∧∀i,i/8=5→(mH 168 31 l).getD i 0=0:=by
 have hl:(l.flatten++[(31:Int)]).length=l.flatten.length+1:=by simp
 have hz:(LW 168 31 l).length=168:=by
  unfold LW
  rw[List.length_append,List.length_replicate,hl]
  omega
 refine⟨by rw[T6,hz],fun i hi=> ?_⟩
 unfold mH
 rw[hz,List.getD_eq_getElem?_getD,List.getElem?_set_ne (by omega)]
 unfold LW
 rw[List.getElem?_append_right (by rw[hl];omega)]
 rw[List.getElem?_replicate]
 split<;>rfl
theorem uD {l:List (List Int)} (h:l.flatten.length<40):∃x0,Rg x0∧x0 5=0∧Pn 168 31 l=B7 x0:=by
 obtain⟨h1,h2⟩:=vH h
 refine⟨gZ (mH 168 31 l) (fun _=>0) 168,iD _ _,OT h2 _,?_⟩
 unfold Pn
 rw[h1]
 show B7 (gZ ((mH 168 31 l).drop (0*168)) (RP (mH 168 31 l) 168 0) 168)=_
 rw[Nat.zero_mul,List.drop_zero]
 rfl
theorem cQ {l:List (List Int)} (h:l.flatten.length<40) (m:Nat):∃t,m≤t∧Db (Pn 168 31 l) t 5=0:=by
 obtain⟨x0,h1,h2,h3⟩:=uD h
 obtain⟨n,h4,h5⟩:=Yd h1 m
 refine⟨n-1,by omega,?_⟩
 rw[h3,Z2,show n-1+1=n by omega,h5 5 (by omega),h2]
noncomputable def uK (l:List (List Int)):Nat:=Classical.epsilon fun K=>∀k,(uR (Pn 168 31 l) k).2.2.2<256→k<K
theorem AdS {l:List (List Int)} (h:l.flatten.length<40) {k:Nat} (hk:(uR (Pn 168 31 l) k).2.2.2<256):k<uK l:=
 Classical.epsilon_spec (tX (cQ h)) k hk
noncomputable def Jq (l:List (List Int)):Nat→Int:=(uR (Pn 168 31 l) (CU fun k=>(uR (Pn 168 31 l) k).2.2.2<256)).2.2.1
def RA (xs:List Int) (s:(Nat→Int)×Nat):Nat→(Nat→Int)×Nat
 |0=>s
 |i+1=>Fq (xs.getD i 0) (RA xs s i)
theorem Zg {x:Int} {f:Nat→Int} {n:Nat} (h:x<3329) (h2:((n:Nat):Int)<256):Fq x (f,n)=(upd f n x,n+1):=by
 unfold Fq;rw[if_pos h,if_pos (by simp only;omega)]
theorem Zh {x:Int} {f:Nat→Int} {n:Nat} (h:x<3329) (h2:¬((n:Nat):Int)<256):Fq x (f,n)=(f,n):=by
 unfold Fq;rw[if_pos h,if_neg (by simp only;omega)]
theorem Zf {x:Int} {f:Nat→Int} {n:Nat} (h:¬x<3329):Fq x (f,n)=(f,n):=by
 unfold Fq;rw[if_neg h]
theorem Nw {xs:List Int} {s s':(Nat→Int)×Nat} {t:Nat} {f:Nat→Int} {n:Nat} (h:(f,n)=RA xs s t) (h2:s'=Fq (xs.getD t 0) (f,n)):s'=RA xs s (t+1):=by
 show _=Fq _ (RA xs s t)
 rw[←h];exact h2
theorem AdF {b:List Int} {s r:(Nat→Int)×Nat} (h:3≤b.length) (hc:acc b s=r):acc (b.drop 3) (RA [ux1 (b.getD 0 0) (b.getD 1 0),ux2 (b.getD 1 0) (b.getD 2 0)] s 2)=r:=(s8 h s).symm.trans hc
theorem AdR {g0 g f:Nat→Int} {k a n:Nat} (hq:(g,a,f,n)=uR g0 k):((Dh 168 g a 504).1,(Dh 168 g a 504).2.1,acc (Dh 168 g a 504).2.2 (f,n))=uR g0 (k+1):=by
 show _=((Dh 168 (uR g0 k).1 (uR g0 k).2.1 504).1,(Dh 168 (uR g0 k).1 (uR g0 k).2.1 504).2.1,acc (Dh 168 (uR g0 k).1 (uR g0 k).2.1 504).2.2 (uR g0 k).2.2)
 rw[←hq]
theorem Afu {g0 g f:Nat→Int} {k a n:Nat} (hq:(g,a,f,n)=uR g0 k):a≤168:=by
 cases k with
 |zero=>have :=congrArg (·.2.1) hq;simp only[uR]at this;omega
 |succ k=>
  have :=congrArg (·.2.1) hq
  have e:(uR g0 (k+1)).2.1=(Dh 168 (uR g0 k).1 (uR g0 k).2.1 504).2.1:=rfl
  simp only[e,iN]at this
  omega
end Go.Sx
namespace Go.Sx.Tryz
open Go.Mi Go.RowKit Go.Sx Go.Proofs
noncomputable section
section
variable (sd:List Int) (bi bj:Int)
def fF:Con:=⟨[lb sd,.v (.int .u8 bi),.v (.int .u8 bj)],[],.ar .u16 256 (Jq [sd,[bi,bj]]),[]⟩
theorem O7 (h:sd.length=32):ConOk Tryz.prog 178 (fF sd bi bj):=by
 refine cy 0 Tryz.func178 rfl Tryz.ntmps178 fun hg0 hS=> ?_
 have A6:sd.length≤9223372036854775807:=hS.len 0 rfl
 refine Ae [] 1 hS fun hS=>Ay [(5,AO (Ue [sd,[bi,bj]] (by first |omega|(simp only[List.flatten_cons,List.flatten_nil,List.length_append,List.length_cons,List.length_nil,List.length_take,List.length_drop,List.length_replicate]<;>omega)|(simp<;>omega))) [] [(0,1),(1,2)])] [] 3 hS fun hS=>Ae [] 3 hS fun hS=>Au (Br (Ar (ι:=Nat×(Nat→Int)×Nat×(Nat→Int)×Nat) hg0 hS (fun(k,g,a,f,n)=>(uK [sd,[bi,bj]]-k,[(8,vi (n:Int))],[(0,MQ f),(2,Ob4 g a)],((g,a,f,n)=uR (Pn 168 31 [sd,[bi,bj]]) k)∧(∀j,j<k→(uR (Pn 168 31 [sd,[bi,bj]]) j).2.2.2<256)∧True)) [6,7] [1] 3 (0,(Pn 168 31 [sd,[bi,bj]]),0,fun _=>0,0) [(0,0),(1,1),(2,2)] ⟨rfl,(fun j h=>absurd h (Nat.not_lt_zero j)),trivial⟩ ?_))
 rintro⟨k,g,a,f,n⟩ ac gs ws ⟨hq,hj,_⟩ hS
 refine Au (Ae [] 3 hS fun hS=>AB ((n:Int)<256) hS (fun h1=> ?_) (fun h1=> ?_))
 ·refine B5 (Br (Au ?_))
  have ha:=Afu hq
  have hnk:(uR (Pn 168 31 [sd,[bi,bj]]) k).2.2.2<256:=by rw[←hq];simp only;omega
  have hk:=AdS (l:=[sd,[bi,bj]]) (by simp only[List.flatten_cons,List.flatten_nil,List.length_append,List.length_cons,List.length_nil];omega) hnk
  refine Av [(1,AO (kI g a Ac) [(0,1),(1,2)] [])] [] 3 hS fun hS=>Ab (Br (Ar (ι:=(List Int)×(Nat→Int)×Nat) hg0 hS (fun(b,f2,n2)=>(b.length,[(8,vi (n2:Int)),(9,lb b)],[(0,MQ f2)],(b.length%3=0)∧(acc b (f2,n2)=acc (Dh 168 g a 504).2.2 (f,n))∧True)) [6,7] [1,2] 3 (((Dh 168 g a 504).2.2),f,n) [(0,0),(1,1),(2,2)] ⟨(by rw[Nb]),rfl,trivial⟩ ?_))
  rintro⟨b,f2,n2⟩ ac gs ws ⟨hb,hc,_⟩ hS
  refine Au (Ae [] 3 hS fun hS=>AB ((0:Int)<((b.length:Nat):Int)) hS (fun h2=> ?_) (fun h2=> ?_))
  ·refine BG (Ay [(1,AG 0 b.length),(5,AG 1 b.length),(9,EL 8),(12,AG 1 b.length),(14,EL 4),(17,AG 2 b.length),(20,EL 4)] [49] 3 hS fun hS=>Br (Ar (ι:=Nat×(Nat→Int)×Nat) hg0 hS (fun(t,f3,n3)=>(2-t,[(8,vi (n3:Int)),(51,vi ((t:Nat):Int))],[(0,MQ f3)],(t≤2)∧((f3,n3)=RA [(C7 .u16 (IntKind.wrap .u16 (b.getD 0 0)) (Bd .u16 (IntKind.wrap .u16 (A5 .u8 (b.getD 1 0) 15)) 8)),(C7 .u16 (IntKind.wrap .u16 (AY .u8 (b.getD 1 0) 4)) (Bd .u16 (IntKind.wrap .u16 (b.getD 2 0)) 4))] (f2,n2) t)∧True)) [6,7,9,49,50] [1,2] 3 (0,f2,n2) [(0,0),(1,1),(2,2)] ⟨Ac,rfl,trivial⟩ ?_))
   rintro⟨t,f3,n3⟩ ac gs ws ⟨ht,hs,_⟩ hS
   refine Ae [] 3 hS fun hS=>Au (AB ((t:Int)<2) hS (fun h3=> ?_) (fun h3=> ?_))
   ·refine BG (Ay [(0,AG t 2)] [] 3 hS fun hS=>Au ?_)
    by_cases h4:([(C7 .u16 (IntKind.wrap .u16 (b.getD 0 0)) (Bd .u16 (IntKind.wrap .u16 (A5 .u8 (b.getD 1 0) 15)) 8)),(C7 .u16 (IntKind.wrap .u16 (AY .u8 (b.getD 1 0) 4)) (Bd .u16 (IntKind.wrap .u16 (b.getD 2 0)) 4))].getD t 0)<3329
    ·refine Av [(1,Iw h4)] [] 3 hS fun hS=>Ab (AB ((n3:Int)<256) hS (fun h5=> ?_) (fun h5=> ?_))
     ·exact Ay [(2,AG n3 256)] [] 3 hS fun hS=>Av [(1,BQ n3)] [8] 3 hS fun hS=>BV (Av [(0,BQ t)] [51] 3 hS fun hS=>Ab (Am hg0 hS (t+1,upd f3 n3 ([(C7 .u16 (IntKind.wrap .u16 (b.getD 0 0)) (Bd .u16 (IntKind.wrap .u16 (A5 .u8 (b.getD 1 0) 15)) 8)),(C7 .u16 (IntKind.wrap .u16 (AY .u8 (b.getD 1 0) 4)) (Bd .u16 (IntKind.wrap .u16 (b.getD 2 0)) 4))].getD t 0),n3+1) [(0,0),(1,1),(2,2)] ⟨Ac,(Nw hs (by first |exact(Zg BC BC).symm|exact(Zh BC BC).symm|exact(Zf BC).symm)),trivial⟩))
     ·exact Iu (Av [(0,BQ t)] [51] 3 hS fun hS=>Ab (Am hg0 hS (t+1,f3,n3) [(0,0),(1,1),(2,2)] ⟨Ac,(Nw hs (by first |exact(Zg BC BC).symm|exact(Zh BC BC).symm|exact(Zf BC).symm)),trivial⟩))
    ·exact Av [(1,Ez h4)] [] 3 hS fun hS=>Ab (Ai hS (Iu (Av [(0,BQ t)] [51] 3 hS fun hS=>Ab (Am hg0 hS (t+1,f3,n3) [(0,0),(1,1),(2,2)] ⟨Ac,(Nw hs (by first |exact(Zg BC BC).symm|exact(Zh BC BC).symm|exact(Zf BC).symm)),trivial⟩))))
   ·have hT:=hS
    obtain rfl:2=t:=by omega
    obtain rfl:(RA [(C7 .u16 (IntKind.wrap .u16 (b.getD 0 0)) (Bd .u16 (IntKind.wrap .u16 (A5 .u8 (b.getD 1 0) 15)) 8)),(C7 .u16 (IntKind.wrap .u16 (AY .u8 (b.getD 1 0) 4)) (Bd .u16 (IntKind.wrap .u16 (b.getD 2 0)) 4))] (f2,n2) 2).1=f3:=Eq.symm (congrArg (fun z=>z.1) hs)
    obtain rfl:(RA [(C7 .u16 (IntKind.wrap .u16 (b.getD 0 0)) (Bd .u16 (IntKind.wrap .u16 (A5 .u8 (b.getD 1 0) 15)) 8)),(C7 .u16 (IntKind.wrap .u16 (AY .u8 (b.getD 1 0) 4)) (Bd .u16 (IntKind.wrap .u16 (b.getD 2 0)) 4))] (f2,n2) 2).2=n3:=Eq.symm (congrArg (fun z=>z.2) hs)
    have hS:=hT
    exact Vh (Av [(1,ON 3 b.length)] [9] 3 hS fun hS=>Ab (Am hg0 hS (b.drop 3,(RA [(C7 .u16 (IntKind.wrap .u16 (b.getD 0 0)) (Bd .u16 (IntKind.wrap .u16 (A5 .u8 (b.getD 1 0) 15)) 8)),(C7 .u16 (IntKind.wrap .u16 (AY .u8 (b.getD 1 0) 4)) (Bd .u16 (IntKind.wrap .u16 (b.getD 2 0)) 4))] (f2,n2) 2).1,(RA [(C7 .u16 (IntKind.wrap .u16 (b.getD 0 0)) (Bd .u16 (IntKind.wrap .u16 (A5 .u8 (b.getD 1 0) 15)) 8)),(C7 .u16 (IntKind.wrap .u16 (AY .u8 (b.getD 1 0) 4)) (Bd .u16 (IntKind.wrap .u16 (b.getD 2 0)) 4))] (f2,n2) 2).2) [(0,0),(1,1),(2,2)] ⟨(by rw[List.length_drop];omega),(AdF Ac hc),trivial⟩ (show(b.drop 3).length<b.length from by rw[List.length_drop];omega)))
  ·have hT:=hS
   have hn:b=[]:=List.eq_nil_of_length_eq_zero Ac
   obtain rfl:[]=b:=Eq.symm hn
   obtain rfl:(acc (Dh 168 g a 504).2.2 (f,n)).1=f2:=Eq.symm (congrArg (fun z=>z.1) ((b8 _).symm.trans hc))
   obtain rfl:(acc (Dh 168 g a 504).2.2 (f,n)).2=n2:=Eq.symm (congrArg (fun z=>z.2) ((b8 _).symm.trans hc))
   have hS:=hT
   exact Vh (Am hg0 hS (k+1,((Dh 168 g a 504).1),(Dh 168 g a 504).2.1,(acc (Dh 168 g a 504).2.2 (f,n)).1,(acc (Dh 168 g a 504).2.2 (f,n)).2) [(0,0),(1,1),(2,2)] ⟨(AdR hq),(A1 hj hnk),trivial⟩)
 ·have hT:=hS
  obtain rfl:=BP (P:=fun k=>(uR (Pn 168 31 [sd,[bi,bj]]) k).2.2.2<256) (by rw[←hq];simp only;omega) hj
  obtain rfl:Jq [sd,[bi,bj]]=f:=Eq.symm (congrArg (fun z=>z.2.2.1) hq)
  have hS:=hT
  exact CX (Ae [] 3 hS fun hS=>AU (Ci hS))
end
end
end Go.Sx.Tryz
namespace Go.Sx.Tryz
open Go.Mi Go.RowKit Go.Sx Go.Proofs
noncomputable section
def Ob5 (x0:Nat→Int):O:= .ob 214 (chain [.ar .u16 768 x0])
theorem Io (f:Nat→Int) (i:Nat) (o:List Int):∀k,(DX f i o k).length=o.length
 |0=>rfl
 |k+1=>by
  show(Dx f i o k (DX f i o k)).length=o.length
  unfold Dx
  rw[List.length_set,Io f i o k]
@[simp] theorem F3 (f:Nat→Int):(Cf f).length=384:=by
 have key:∀i,(EH f i).length=384:=by
  intro i
  induction i with
  |zero=>exact List.length_replicate
  |succ i ih=>exact(Io f i _ 12).trans ih
 rw[K3]
 exact key 256
theorem Ip (f:Nat→Int) (i:Nat) (o:List Int):∀k,(EI f i o k).length=o.length
 |0=>rfl
 |k+1=>by
  show(Fz f i k (EI f i o k)).length=o.length
  unfold Fz
  rw[List.length_set,Ip f i o k]
@[simp] theorem Mt (f:Nat→Int):(Ff f).length=320:=by
 have key:∀i,(GT f i).length=320:=by
  intro i
  induction i with
  |zero=>exact List.length_replicate
  |succ i ih=>exact(Ip f i _ 10).trans ih
 rw[QI]
 exact key 256
theorem I9 (f:Nat→Int) (i:Nat) (o:List Int):∀k,(Fc f i o k).length=o.length
 |0=>rfl
 |k+1=>by
  show(F1 f i k (Fc f i o k)).length=o.length
  unfold F1
  rw[List.length_set,I9 f i o k]
@[simp] theorem NP (f:Nat→Int):(Hz f).length=128:=by
 have key:∀i,(H9 f i).length=128:=by
  intro i
  induction i with
  |zero=>exact List.length_replicate
  |succ i ih=>exact(I9 f i _ 4).trans ih
 rw[SU]
 exact key 256
theorem I_ (f:Nat→Int) (i:Nat) (o:List Int):∀k,(Fe f i o k).length=o.length
 |0=>rfl
 |k+1=>by
  show(F2 f i k (Fe f i o k)).length=o.length
  unfold F2
  rw[List.length_set,I_ f i o k]
@[simp] theorem WW (f:Nat→Int):(JJ f).length=32:=by
 have key:∀i,(H_ f i).length=32:=by
  intro i
  induction i with
  |zero=>exact List.length_replicate
  |succ i ih=>exact(I_ f i _ 1).trans ih
 rw[SX]
 exact key 256
def Kf (x6:Nat):(Nat→Int)→(Nat→Int):=fun o2_0=>Dg o2_0 (x6*256) 256 (Sz (fun j=>o2_0 (x6*256+j)))
section
variable (f:Nat→Int)
def Jb (f:Nat→Int):Nat→(Nat→Int)
 |0=>f
 |x6+1=>Kf x6 (Jb f x6)
def QN:(Nat→Int):=Jb f 3
def As:(Nat→Int):=AJ (QN f)
theorem YM:As f=QN f:=Af _
def Y8 (z_:(Nat→Int):=As f):Con:=⟨[.ar .u16 768 f,.v (.func (.func 150) #[] #[])],[],.ar .u16 768 z_,[]⟩
theorem Ja:ConOk Tryz.prog 149 (Y8 f):=by
 refine cy 0 Tryz.func149 rfl Tryz.ntmps149 fun hg0 hS=>Ae [] 2 hS fun hS=>Au (Ae [] 2 hS fun hS=>Br (Ar (ι:=Nat×(Nat→Int)) hg0 hS (fun(x6,o2_0)=>(3-x6,[(6,vi ((x6:Nat):Int))],[(0,Ob5 o2_0)],(x6≤3)∧(o2_0=Jb f x6)∧True)) [1,2,4] [1] 2 (0,f) [(0,0),(1,1)] ⟨Ac,rfl,trivial⟩ ?_))
 rintro⟨x6,o2_0⟩ ac gs ws ⟨hx6,hq1,_⟩ hS
 refine Ae [] 2 hS fun hS=>Au (AB ((x6:Int)<3) hS (fun h1=> ?_) (fun h1=> ?_))
 ·exact BG (Ae [] 2 hS fun hS=>Av [(3,AG x6 3),(4,GC (.ar .u16 256 (fun j=>o2_0 (x6*256+j))) [(.ar .u16 256 (fun j=>o2_0 (x6*256+j)):D)=(.ar .u16 256 (fun j=>o2_0 (x6*256+j)))] ⟨rfl,trivial⟩),(5,AR (mO (fun j=>o2_0 (x6*256+j)))),(6,AG x6 3)] [] 2 hS fun hS=>BV (Av [(0,BQ x6)] [6] 2 hS fun hS=>Ab (Am hg0 hS (x6+1,Dg o2_0 (x6*256) 256 (Sz (fun j=>o2_0 (x6*256+j)))) [(0,0),(1,1)] ⟨Ac,(A2 (st:=Kf) hq1 rfl rfl),trivial⟩)))
 ·have hT:=hS
  obtain rfl:3=x6:=by omega
  obtain rfl:=hq1.symm
  have hS:=hT
  exact CX (Ae [] 2 hS fun hS=>AU (Bh (YM ..) hS))
end
def JV (g:Nat→Int) (x8:Nat):(Nat→Int)→(Nat→Int):=fun o3_0=>Dg o3_0 (x8*256) 256 (aB (fun j=>o3_0 (x8*256+j)) (fun j=>g (x8*256+j)))
section
variable (f g:Nat→Int)
def Iz (f g:Nat→Int):Nat→(Nat→Int)
 |0=>f
 |x8+1=>JV g x8 (Iz f g x8)
def O0:(Nat→Int):=Iz f g 3
def Dm:(Nat→Int):=AJ (O0 f g)
theorem XK:Dm f g=O0 f g:=Af _
def YW (z_:(Nat→Int):=Dm f g):Con:=⟨[.ar .u16 768 f,.ar .u16 768 g,.v (.func (.func 180) #[] #[])],[],.ar .u16 768 z_,[]⟩
theorem Vk:ConOk Tryz.prog 179 (YW f g):=by
 refine cy 0 Tryz.func179 rfl Tryz.ntmps179 fun hg0 hS=>Ae [] 3 hS fun hS=>Au (Ae [] 3 hS fun hS=>Br (Ar (ι:=Nat×(Nat→Int)) hg0 hS (fun(x8,o3_0)=>(3-x8,[(8,vi ((x8:Nat):Int))],[(0,Ob5 o3_0)],(x8≤3)∧(o3_0=Iz f g x8)∧True)) [2,3,4,6] [1,2] 3 (0,f) [(0,0),(1,1),(2,2)] ⟨Ac,rfl,trivial⟩ ?_))
 rintro⟨x8,o3_0⟩ ac gs ws ⟨hx8,hq1,_⟩ hS
 refine Ae [] 3 hS fun hS=>Au (AB ((x8:Int)<3) hS (fun h1=> ?_) (fun h1=> ?_))
 ·exact BG (Ae [] 3 hS fun hS=>Av [(3,AG x8 3),(4,GC (.ar .u16 256 (fun j=>o3_0 (x8*256+j))) [(.ar .u16 256 (fun j=>o3_0 (x8*256+j)):D)=(.ar .u16 256 (fun j=>o3_0 (x8*256+j)))] ⟨rfl,trivial⟩),(6,AG x8 3),(7,GC (.ar .u16 256 (fun j=>g (x8*256+j))) [(.ar .u16 256 (fun j=>g (x8*256+j)):D)=(.ar .u16 256 (fun j=>g (x8*256+j)))] ⟨rfl,trivial⟩),(8,Ix (AbX (fun j=>o3_0 (x8*256+j)) (fun j=>g (x8*256+j))) [] [] [.ar .u16 256 (fun j=>o3_0 (x8*256+j)),.ar .u16 256 (fun j=>g (x8*256+j))] []),(9,AG x8 3)] [] 3 hS fun hS=>BV (Av [(0,BQ x8)] [8] 3 hS fun hS=>Ab (Am hg0 hS (x8+1,Dg o3_0 (x8*256) 256 (aB (fun j=>o3_0 (x8*256+j)) (fun j=>g (x8*256+j)))) [(0,0),(1,1),(2,2)] ⟨Ac,(A2 (st:=JV _) hq1 rfl rfl),trivial⟩)))
 ·have hT:=hS
  obtain rfl:3=x8:=by omega
  obtain rfl:=hq1.symm
  have hS:=hT
  exact CX (Ae [] 3 hS fun hS=>AU (Bh (XK ..) hS))
def W4 (x10:Nat):(Nat→Int)→(Nat→Int):=fun o4_0=>Ba o4_0 (fun j=>(Dm f g) (x10*256+j))
def YN (f g:Nat→Int):Nat→(Nat→Int)
 |0=>fun _=>0
 |x10+1=>W4 f g x10 (YN f g x10)
def Aa3:(Nat→Int):=YN f g 3
def Bv:(Nat→Int):=AJ (Aa3 f g)
theorem Aev:Bv f g=Aa3 f g:=Af _
def Afe (z_:(Nat→Int):=Bv f g):Con:=⟨[.ar .u16 768 f,.ar .u16 768 g],[],.ar .u16 256 z_,[]⟩
theorem UF:ConOk Tryz.prog 153 (Afe f g):=by
 refine cy 0 Tryz.func153 rfl Tryz.ntmps153 fun hg0 hS=>Ae [] 3 hS fun hS=>Au (Ay [(0,GC (.ar .u16 768 f) [(.ar .u16 768 f:D)=(.ar .u16 768 f)] ⟨rfl,trivial⟩),(1,GC (.ar .u16 768 g) [(.ar .u16 768 g:D)=(.ar .u16 768 g)] ⟨rfl,trivial⟩),(2,Ix (Vk f g) [] [] [.ar .u16 768 f,.ar .u16 768 g,.v (.func (.func 180) #[] #[])] [])] [] 3 hS fun hS=>Br (Ar (ι:=Nat×(Nat→Int)) hg0 hS (fun(x10,o4_0)=>(3-x10,[(10,vi ((x10:Nat):Int))],[(2,MQ o4_0)],(x10≤3)∧(o4_0=YN f g x10)∧True)) [4,9] [] 3 (0,fun _=>0) [(2,2)] ⟨Ac,rfl,trivial⟩ ?_))
 rintro⟨x10,o4_0⟩ ac gs ws ⟨hx10,hq1,_⟩ hS
 refine Ae [] 3 hS fun hS=>Au (AB ((x10:Int)<3) hS (fun h1=> ?_) (fun h1=> ?_))
 ·exact BG (Ay [(0,AG x10 3)] [6] 4 hS fun hS=>Av [(0,GC (.ar .u16 256 o4_0) [(.ar .u16 256 o4_0:D)=(.ar .u16 256 o4_0)] ⟨rfl,trivial⟩),(1,GC (.ar .u16 256 (fun j=>(Dm f g) (x10*256+j))) [(.ar .u16 256 (fun j=>(Dm f g) (x10*256+j)):D)=(.ar .u16 256 (fun j=>(Dm f g) (x10*256+j)))] ⟨rfl,trivial⟩),(2,Ix (Ij o4_0 (fun j=>(Dm f g) (x10*256+j))) [] [] [.ar .u16 256 o4_0,.ar .u16 256 (fun j=>(Dm f g) (x10*256+j))] [])] [] 4 hS fun hS=>BV (Av [(0,BQ x10)] [10] 4 hS fun hS=>Ab (Am hg0 hS (x10+1,Ba o4_0 (fun j=>(Dm f g) (x10*256+j))) [(2,2)] ⟨Ac,(A2 (st:=W4 _ _) hq1 rfl rfl),trivial⟩)))
 ·have hT:=hS
  obtain rfl:3=x10:=by omega
  obtain rfl:=hq1.symm
  have hS:=hT
  exact CX (Ae [] 3 hS fun hS=>AU (Bh (Aev ..) hS))
end
section
variable (f:Nat→Int)
def GM (x8:Nat):(List Int)→(List Int):=fun x2=>x2++(Cf (fun j=>f (x8*256+j)))
def CK (f:Nat→Int):Nat→(List Int)
 |0=>[]
 |x8+1=>GM f x8 (CK f x8)
def V4:(List Int):=CK f 3
def Cr:(List Int):=AJ (V4 f)
theorem LN:Cr f=V4 f:=Af _
def rF (z_:(List Int):=Cr f):Con:=⟨[.ar .u16 768 f],[],lb z_,[]⟩
theorem Sn:ConOk Tryz.prog 155 (rF f):=by
 refine cy 0 Tryz.func155 rfl Tryz.ntmps155 fun hg0 hS=>Ae [] 1 hS fun hS=>Au (Ae [] 1 hS fun hS=>Br ?_)
 obtain⟨gs,hS⟩:=hS.nilk 2 5 [.int .u8]
 refine Ar (ι:=Nat×(List Int)) hg0 hS (fun(x8,x2)=>(3-x8,[(8,vi ((x8:Nat):Int))],[(1,.sl 5 [.int .u8] x2)],(x8≤3)∧(x2=CK f x8)∧(x2.length=384*x8)∧True)) [2,7] [] 2 (0,[]) [(1,1)] ⟨Ac,rfl,rfl,trivial⟩ ?_
 rintro⟨x8,x2⟩ ac gs ws ⟨hx8,hq1,p1,_⟩ hS
 refine Ae [] 2 hS fun hS=>Au (AB ((x8:Int)<3) hS (fun h1=> ?_) (fun h1=> ?_))
 ·refine BG (Ay [(0,AG x8 3)] [4] 3 hS fun hS=>Au (Av [(0,GC (.ar .u16 256 (fun j=>f (x8*256+j))) [(.ar .u16 256 (fun j=>f (x8*256+j)):D)=(.ar .u16 256 (fun j=>f (x8*256+j)))] ⟨rfl,trivial⟩),(1,Ix (WX (fun j=>f (x8*256+j))) [] [(0,3)] [.ar .u16 256 (fun j=>f (x8*256+j)),vi 12] [])] [] 4 hS fun hS=> ?_))
  have hl:=F3 (fun j=>f (x8*256+j))
  exact Ab (Av [(2,Ge x2.length ((Cf (fun j=>f (x8*256+j))).length) 1 Ac)] [2] 5 hS fun hS=>BV (Av [(0,BQ x8)] [8] 5 hS fun hS=>Ab (Am hg0 hS (x8+1,x2++(Cf (fun j=>f (x8*256+j)))) [(1,4)] ⟨Ac,(A2 (st:=GM _) hq1 rfl rfl),(by rw[List.length_append,F3,p1];omega),trivial⟩)))
 ·have hT:=hS
  obtain rfl:3=x8:=by omega
  obtain rfl:=hq1.symm
  have hS:=hT
  refine CX (Ae [2] 2 hS fun hS=>AU ?_)
  obtain⟨gs,hS⟩:=hS.fz 1
  exact Bh (LN ..) hS
end
section
variable (xs:List Int)
def Pz (x4:Nat):(Nat→Int)→(Nat→Int):=fun o2_0=>Dg o2_0 (x4*256) 256 (DN (xs.drop (384*x4)))
def IL (xs:List Int):Nat→(Nat→Int)
 |0=>fun _=>0
 |x4+1=>Pz xs x4 (IL xs x4)
def ZI:(Nat→Int):=IL xs 3
def AP:(Nat→Int):=AJ (ZI xs)
theorem ZJ:AP xs=ZI xs:=Af _
def yZ (z_:(Nat→Int):=AP xs):Con:=⟨[lb xs],[],.ar .u16 768 z_,[]⟩
theorem LB (h:1152≤xs.length):ConOk Tryz.prog 192 (yZ xs):=by
 refine cy 0 Tryz.func192 rfl Tryz.ntmps192 fun hg0 hS=> ?_
 have A6:xs.length≤9223372036854775807:=hS.len 0 rfl
 refine Ae [] 1 hS fun hS=>Au (Ae [] 1 hS fun hS=>Br (Ar (ι:=Nat×(Nat→Int)) hg0 hS (fun(x4,o2_0)=>(3-x4,[(4,vi ((x4:Nat):Int))],[(0,Ob5 o2_0)],(x4≤3)∧(o2_0=IL xs x4)∧True)) [0,2] [] 1 (0,fun _=>0) [(0,0)] ⟨Ac,rfl,trivial⟩ ?_))
 rintro⟨x4,o2_0⟩ ac gs ws ⟨hx4,hq1,_⟩ hS
 refine Ae [] 1 hS fun hS=>Au (AB ((x4:Int)<3) hS (fun h1=> ?_) (fun h1=> ?_))
 ·exact BG (Ae [] 1 hS fun hS=>Av [(3,GE 384 x4 (384*x4)),(4,ON (384*x4) xs.length),(5,AR (Vm (xs.drop (384*x4)) (by first |omega|(simp only[List.length_append,List.length_drop,List.length_take,List.length_cons,List.length_nil];omega)))),(6,AG x4 3)] [] 1 hS fun hS=>BV (Av [(0,BQ x4)] [4] 1 hS fun hS=>Ab (Am hg0 hS (x4+1,Dg o2_0 (x4*256) 256 (DN (xs.drop (384*x4)))) [(0,0)] ⟨Ac,(A2 (st:=Pz _) hq1 rfl rfl),trivial⟩)))
 ·have hT:=hS
  obtain rfl:3=x4:=by omega
  obtain rfl:=hq1.symm
  have hS:=hT
  exact CX (Ae [] 1 hS fun hS=>AU (Bh (ZJ ..) hS))
end
section
variable (sd:List Int)
def NN (n x6:Nat):(Nat→Int)→(Nat→Int):=fun o4_0=>Dg o4_0 (x6*256) 256 (CG sd (IntKind.wrap .u8 ((n+x6:Nat):Int)))
def Nn (sd:List Int) (n:Nat):Nat→(Nat→Int)
 |0=>fun _=>0
 |x6+1=>NN sd n x6 (Nn sd n x6)
def WB (n:Nat):(Nat→Int):=Nn sd n 3
def Aq (n:Nat):(Nat→Int):=AJ (WB sd n)
theorem m6 (n:Nat):Aq sd n=WB sd n:=Af _
def rP (n:Nat) (z_:(Nat→Int):=Aq sd n):Con:=⟨[lb sd,vi (n:Int)],[],.ar .u16 768 z_,[]⟩
theorem JG (n:Nat) (h:sd.length≤100000000000000) (hn:n≤100):ConOk Tryz.prog 148 (rP sd n):=by
 refine cy 0 Tryz.func148 rfl Tryz.ntmps148 fun hg0 hS=> ?_
 have A6:sd.length≤9223372036854775807:=hS.len 0 rfl
 refine Ae [] 1 hS fun hS=>Au (Ae [] 1 hS fun hS=>Br (Ar (ι:=Nat×(Nat→Int)) hg0 hS (fun(x6,o4_0)=>(3-x6,[(6,vi ((x6:Nat):Int))],[(0,Ob5 o4_0)],(x6≤3)∧(o4_0=Nn sd n x6)∧True)) [0,1,4] [] 1 (0,fun _=>0) [(0,0)] ⟨Ac,rfl,trivial⟩ ?_))
 rintro⟨x6,o4_0⟩ ac gs ws ⟨hx6,hq1,_⟩ hS
 refine Ae [] 1 hS fun hS=>Au (AB ((x6:Int)<3) hS (fun h1=> ?_) (fun h1=> ?_))
 ·exact BG (Ae [] 1 hS fun hS=>Av [(4,DI n x6 (n+x6)),(6,AR (Wo sd (IntKind.wrap .u8 ((n+x6:Nat):Int)) AD)),(7,AG x6 3)] [] 1 hS fun hS=>BV (Av [(0,BQ x6)] [6] 1 hS fun hS=>Ab (Am hg0 hS (x6+1,Dg o4_0 (x6*256) 256 (CG sd (IntKind.wrap .u8 ((n+x6:Nat):Int)))) [(0,0)] ⟨Ac,(A2 (st:=NN _ _) hq1 rfl rfl),trivial⟩)))
 ·have hT:=hS
  obtain rfl:3=x6:=by omega
  obtain rfl:=hq1.symm
  have hS:=hT
  exact CX (Ae [] 1 hS fun hS=>AU (Bh (m6 ..) hS))
def Hr (i x10:Nat):(Nat→Int)→(Nat→Int):=fun o6_0=>Dg o6_0 (x10*256) 256 (Jq [sd,[(IntKind.wrap .u8 (i:Int)),(IntKind.wrap .u8 (x10:Int))]])
def Gs (sd:List Int) (i:Nat):Nat→(Nat→Int)
 |0=>fun _=>0
 |x10+1=>Hr sd i x10 (Gs sd i x10)
def J7 (i:Nat):(Nat→Int):=Gs sd i 3
def AX (i:Nat):(Nat→Int):=AJ (J7 sd i)
theorem Rt (i:Nat):AX sd i=J7 sd i:=Af _
def Rz (i:Nat) (z_:(Nat→Int):=AX sd i):Con:=⟨[lb sd,vi (i:Int),.v (.bool true)],[],.ar .u16 768 z_,[]⟩
theorem Qj (i:Nat) (h:sd.length=32) (hi:i≤100):ConOk Tryz.prog 152 (Rz sd i):=by
 refine cy 0 Tryz.func152 rfl Tryz.ntmps152 fun hg0 hS=> ?_
 have A6:sd.length≤9223372036854775807:=hS.len 0 rfl
 refine Ae [] 1 hS fun hS=>Au (Ae [] 1 hS fun hS=>Br (Ar (ι:=Nat×(Nat→Int)) hg0 hS (fun(x10,o6_0)=>(3-x10,[(10,vi ((x10:Nat):Int))],[(0,Ob5 o6_0)],(x10≤3)∧(o6_0=Gs sd i x10)∧True)) [0,1,2,6] [] 1 (0,fun _=>0) [(0,0)] ⟨Ac,rfl,trivial⟩ ?_))
 rintro⟨x10,o6_0⟩ ac gs ws ⟨hx10,hq1,_⟩ hS
 refine Ae [] 1 hS fun hS=>Au (AB ((x10:Int)<3) hS (fun h1=> ?_) (fun h1=> ?_))
 ·exact BG (Ae [] 1 hS fun hS=>Ae [] 1 hS fun hS=>Au (Ae [] 1 hS fun hS=>AQ hS (Dn [8,9] 1 hS fun hS=>Ab (Av [(4,AR (O7 sd (IntKind.wrap .u8 (i:Int)) (IntKind.wrap .u8 ((x10:Nat):Int)) (by first |omega|assumption))),(5,AG x10 3)] [] 1 hS fun hS=>BV (Av [(0,BQ x10)] [10] 1 hS fun hS=>Ab (Am hg0 hS (x10+1,Dg o6_0 (x10*256) 256 (Jq [sd,[(IntKind.wrap .u8 (i:Int)),(IntKind.wrap .u8 (x10:Int))]])) [(0,0)] ⟨Ac,(A2 (st:=Hr _ _) hq1 rfl rfl),trivial⟩))))))
 ·have hT:=hS
  obtain rfl:3=x10:=by omega
  obtain rfl:=hq1.symm
  have hS:=hT
  exact CX (Ae [] 1 hS fun hS=>AU (Bh (Rt ..) hS))
def GQ (i x10:Nat):(Nat→Int)→(Nat→Int):=fun o6_0=>Dg o6_0 (x10*256) 256 (Jq [sd,[(IntKind.wrap .u8 (x10:Int)),(IntKind.wrap .u8 (i:Int))]])
def FO (sd:List Int) (i:Nat):Nat→(Nat→Int)
 |0=>fun _=>0
 |x10+1=>GQ sd i x10 (FO sd i x10)
def IW (i:Nat):(Nat→Int):=FO sd i 3
def Cl (i:Nat):(Nat→Int):=AJ (IW sd i)
theorem Qk (i:Nat):Cl sd i=IW sd i:=Af _
def Q5 (i:Nat) (z_:(Nat→Int):=Cl sd i):Con:=⟨[lb sd,vi (i:Int),.v (.bool false)],[],.ar .u16 768 z_,[]⟩
theorem NY (i:Nat) (h:sd.length=32) (hi:i≤100):ConOk Tryz.prog 152 (Q5 sd i):=by
 refine cy 0 Tryz.func152 rfl Tryz.ntmps152 fun hg0 hS=> ?_
 have A6:sd.length≤9223372036854775807:=hS.len 0 rfl
 refine Ae [] 1 hS fun hS=>Au (Ae [] 1 hS fun hS=>Br (Ar (ι:=Nat×(Nat→Int)) hg0 hS (fun(x10,o6_0)=>(3-x10,[(10,vi ((x10:Nat):Int))],[(0,Ob5 o6_0)],(x10≤3)∧(o6_0=FO sd i x10)∧True)) [0,1,2,6] [] 1 (0,fun _=>0) [(0,0)] ⟨Ac,rfl,trivial⟩ ?_))
 rintro⟨x10,o6_0⟩ ac gs ws ⟨hx10,hq1,_⟩ hS
 refine Ae [] 1 hS fun hS=>Au (AB ((x10:Int)<3) hS (fun h1=> ?_) (fun h1=> ?_))
 ·exact BG (Ae [] 1 hS fun hS=>Ae [] 1 hS fun hS=>Au (Ae [] 1 hS fun hS=>Ai hS (B5 (Av [(4,AR (O7 sd (IntKind.wrap .u8 ((x10:Nat):Int)) (IntKind.wrap .u8 (i:Int)) (by first |omega|assumption))),(5,AG x10 3)] [] 1 hS fun hS=>BV (Av [(0,BQ x10)] [10] 1 hS fun hS=>Ab (Am hg0 hS (x10+1,Dg o6_0 (x10*256) 256 (Jq [sd,[(IntKind.wrap .u8 (x10:Int)),(IntKind.wrap .u8 (i:Int))]])) [(0,0)] ⟨Ac,(A2 (st:=GQ _ _) hq1 rfl rfl),trivial⟩))))))
 ·have hT:=hS
  obtain rfl:3=x10:=by omega
  obtain rfl:=hq1.symm
  have hS:=hT
  exact CX (Ae [] 1 hS fun hS=>AU (Bh (Qk ..) hS))
end
end
end Go.Sx.Tryz
namespace Go.Sx.Tryz
open Go.Mi Go.RowKit Go.Sx Go.Proofs
noncomputable section
theorem pD {xs ys:List Int} (h:¬((xs.length:Nat):Int)=((ys.length:Nat):Int)):decide (xs=ys)=false:=decide_eq_false fun e=>h (by rw[e])
theorem pC {xs ys:List Int} {i:Nat} (h:¬xs.getD i 0=ys.getD i 0):decide (xs=ys)=false:=decide_eq_false fun e=>h (by rw[e])
theorem o7 {xs ys:List Int} (hl:((xs.length:Nat):Int)=((ys.length:Nat):Int)) (h:∀j,j<xs.length→xs.getD j 0=ys.getD j 0):decide (xs=ys)=true:=decide_eq_true (by
 refine List.ext_getElem Ac fun i h1 h2=> ?_
 have :=h i h1
 rwa [List.getD_eq_getElem?_getD,List.getD_eq_getElem?_getD,List.getElem?_eq_getElem h1,List.getElem?_eq_getElem h2]at this)
def TH (xs:List Int):Bool:=(List.range 3).all fun i=>JS fun j=>AP xs (i*256+j)
theorem ZM {xs:List Int} {i:Nat} (hi:i<3) (h:JS (fun j=>AP xs (i*256+j))=false):TH xs=false:=by
 cases hb:TH xs with
 |false=>rfl
 |true=>
  have :=List.all_eq_true.1 hb i (List.mem_range.2 hi)
  rw[h]at this;cases this
theorem IM {xs:List Int} (h:∀i,i<3→JS (fun j=>AP xs (i*256+j))=true):TH xs=true:=by
 unfold TH
 rw[List.all_eq_true]
 exact fun i hi=>h i (List.mem_range.1 hi)
def chk (xs:List Int):Nat:=if xs.length=1184 then(if TH xs=true then 0 else 2)else 1
theorem AeX {xs:List Int} (h:¬((xs.length:Nat):Int)=1184):chk xs=1:=by unfold chk;rw[if_neg Ac]
theorem AeW {xs:List Int} (h:((xs.length:Nat):Int)=1184) (h2:TH xs=false):chk xs=2:=by unfold chk;rw[if_pos Ac,if_neg (by rw[h2];decide)]
theorem Aa6 {xs:List Int} (h:((xs.length:Nat):Int)=1184) (h2:TH xs=true):chk xs=0:=by unfold chk;rw[if_pos Ac,if_pos h2]
section
variable (xs:List Int)
def Ek:Nat:=if xs.length=2400 then(if TH xs=true then(if chk ((xs.take 2336).drop 1152)=0 then(if Bl [(xs.take 2336).drop 1152]=(xs.take 2368).drop 2336 then 0 else 2)else 2)else 2)else 1
def qX (ys:List Int):Con:=⟨[lb xs,lb ys],[],.v (.bool (decide (xs=ys))),[]⟩
theorem cV (ys:List Int):ConOk Tryz.prog 67 (qX xs ys):=by
 refine cy 0 Tryz.func67 rfl Tryz.ntmps67 fun hg0 hS=> ?_
 have A6:xs.length≤9223372036854775807:=hS.len 0 rfl
 have Bf:ys.length≤9223372036854775807:=hS.len 1 rfl
 refine Ae [] 0 hS fun hS=>Au (Ae [] 0 hS fun hS=>Is (((xs.length:Nat):Int)=((ys.length:Nat):Int)) hS (fun h1=> ?_) (fun h1=> ?_))
 ·exact Ae [] 0 hS fun hS=>AU (Ah (CW rfl (.inr rfl) hS [.v (.bool false)] [] (by show weak _ (.v (.bool (decide (xs=ys))))= .v (.bool (decide (xs=ys)));rw[pD h1];rfl) trivial))
 ·refine EK (Ae [] 0 hS fun hS=>Br (Ar (ι:=Nat) hg0 hS (fun i=>(xs.length-i,[(13,vi ((i:Nat):Int))],[],(i≤xs.length)∧(∀j,j<i→xs.getD j 0=ys.getD j 0)∧True)) [0,1,12] [] 0 0 [] ⟨Ac,(fun j h=>absurd h (Nat.not_lt_zero j)),trivial⟩ ?_))
  rintro i ac gs ws ⟨hi,pm,_⟩ hS
  refine Ae [] 0 hS fun hS=>Au (AB ((i:Int)<((xs.length:Nat):Int)) hS (fun h2=> ?_) (fun h2=> ?_))
  ·refine BG (Ae [] 0 hS fun hS=>Ay [(2,AG i xs.length),(6,AG i ys.length)] [] 0 hS fun hS=>Is ((xs.getD i 0)=(ys.getD i 0)) hS (fun h3=> ?_) (fun h3=> ?_))
   ·exact Ae [] 0 hS fun hS=>AU (AC (Ah (Ah (AC (Ah (CW rfl (.inr rfl) hS [.v (.bool false)] [] (by show weak _ (.v (.bool (decide (xs=ys))))= .v (.bool (decide (xs=ys)));rw[pC h3];rfl) trivial))))))
   ·exact Iu (Av [(0,BQ i)] [13] 0 hS fun hS=>Ab (Am hg0 hS (i+1) [] ⟨Ac,(A1 pm BC),trivial⟩))
  ·have hT:=hS
   obtain rfl:xs.length=i:=by omega
   have hS:=hT
   exact CX (Ae [] 0 hS fun hS=>AU (CW rfl (.inr rfl) hS [.v (.bool true)] [] (by show weak _ (.v (.bool (decide (xs=ys))))= .v (.bool (decide (xs=ys)));rw[o7 h1 pm];rfl) trivial))
def zS (ys:List Int):Con:=⟨[lb xs,lb ys],[],.v (.bool (decide (xs=ys))),[]⟩
theorem Ei (ys:List Int):ConOk Tryz.prog 37 (zS xs ys):=by
 refine cy 0 Tryz.func37 rfl Tryz.ntmps37 fun hg0 hS=> ?_
 have A6:xs.length≤9223372036854775807:=hS.len 0 rfl
 have Bf:ys.length≤9223372036854775807:=hS.len 1 rfl
 exact Ae [] 0 hS fun hS=>Ay [(2,AR (cV xs ys))] [] 0 hS fun hS=>AU (Ci hS)
end
theorem Aba {b:Bool} (h:(!b)=true):b=false:=by cases b<;>simp_all
theorem Aa9 {b:Bool} (h:(!b)=false):b=true:=by cases b<;>simp_all
def z3 (ek:List Int):Con:=⟨[lb ek],[],vi ((chk ek:Nat):Int),[]⟩
theorem MB (ek:List Int):ConOk Tryz.prog 172 (z3 ek):=by
 refine cy 0 Tryz.func172 rfl Tryz.ntmps172 fun hg0 hS=> ?_
 have A6:ek.length≤9223372036854775807:=hS.len 0 rfl
 refine Ae [] 0 hS fun hS=>Au (Ae [] 0 hS fun hS=>Is (((ek.length:Nat):Int)=1184) hS (fun h1=> ?_) (fun h1=> ?_))
 ·exact Ae [] 0 hS fun hS=>AU (Ah (CW rfl (.inr rfl) hS [vi 1] [] (by show weak _ (vi ((chk ek:Nat):Int))=vi ((chk ek:Nat):Int);rw[AeX h1];rfl) trivial))
 ·refine EK (Ay [(1,AR (LB ek AD))] [] 0 hS fun hS=>Br (Ar (ι:=Nat) hg0 hS (fun i=>(3-i,[(10,vi ((i:Nat):Int))],[],(i≤3)∧(∀j,j<i→JS (fun t=>AP ek (j*256+t))=true)∧True)) [9] [] 0 0 [] ⟨Ac,(fun j h=>absurd h (Nat.not_lt_zero j)),trivial⟩ ?_))
  rintro i ac gs ws ⟨hi,pm,_⟩ hS
  refine Ae [] 0 hS fun hS=>Au (AB ((i:Int)<3) hS (fun h2=> ?_) (fun h2=> ?_))
  ·refine BG (Ay [(0,AG i 3)] [4] 1 hS fun hS=>Ay [(0,GC (.ar .u16 256 (fun j=>(AP ek) (i*256+j))) [(.ar .u16 256 (fun j=>(AP ek) (i*256+j)):D)=(.ar .u16 256 (fun j=>(AP ek) (i*256+j)))] ⟨rfl,trivial⟩),(1,AR (mV (fun j=>(AP ek) (i*256+j))))] [] 1 hS fun hS=>WG (!(JS (fun j=>(AP ek) (i*256+j)))) hS (fun h3=> ?_) (fun h3=> ?_))
   ·exact Ae [] 1 hS fun hS=>AU (AC (Ah (Ah (AC (Ah (CW rfl (.inr rfl) hS [vi 2] [] (by show weak _ (vi ((chk ek:Nat):Int))=vi ((chk ek:Nat):Int);rw[AeW h1 (ZM Ac (Aba h3))];rfl) trivial))))))
   ·exact Iu (Av [(0,BQ i)] [10] 1 hS fun hS=>Ab (Am hg0 hS (i+1) [] ⟨Ac,(A1 pm (Aa9 BC)),trivial⟩))
  ·have hT:=hS
   obtain rfl:3=i:=by omega
   have hS:=hT
   exact CX (Ae [] 0 hS fun hS=>AU (CW rfl (.inr rfl) hS [vi 0] [] (by show weak _ (vi ((chk ek:Nat):Int))=vi ((chk ek:Nat):Int);rw[Aa6 h1 (IM pm)];rfl) trivial))
def gJ (dk:List Int):Con:=⟨[lb dk],[],vi ((Ek dk:Nat):Int),[]⟩
theorem YS (dk:List Int):ConOk Tryz.prog 168 (gJ dk):=by
 refine cy 0 Tryz.func168 rfl Tryz.ntmps168 fun hg0 hS=> ?_
 have A6:dk.length≤9223372036854775807:=hS.len 0 rfl
 refine Ae [] 0 hS fun hS=>Au (Ae [] 0 hS fun hS=>Is (((dk.length:Nat):Int)=2400) hS (fun h1=> ?_) (fun h1=> ?_))
 ·exact Ae [] 0 hS fun hS=>AU (Ah (CW rfl (.inr rfl) hS [vi 1] [] (by show weak _ (vi ((Ek dk:Nat):Int))=vi ((Ek dk:Nat):Int);unfold Ek;rw[if_neg Ac];rfl) trivial))
 ·refine EK (Ay [(1,AR (LB dk AD))] [] 0 hS fun hS=>Br (Ar (ι:=Nat) hg0 hS (fun i=>(3-i,[(10,vi ((i:Nat):Int))],[],(i≤3)∧(∀j,j<i→JS (fun t=>AP dk (j*256+t))=true)∧True)) [0,9] [] 0 0 [] ⟨Ac,(fun j h=>absurd h (Nat.not_lt_zero j)),trivial⟩ ?_))
  rintro i ac gs ws ⟨hi,pm,_⟩ hS
  refine Ae [] 0 hS fun hS=>Au (AB ((i:Int)<3) hS (fun h2=> ?_) (fun h2=> ?_))
  ·refine BG (Ay [(0,AG i 3)] [4] 1 hS fun hS=>Ay [(0,GC (.ar .u16 256 (fun j=>(AP dk) (i*256+j))) [(.ar .u16 256 (fun j=>(AP dk) (i*256+j)):D)=(.ar .u16 256 (fun j=>(AP dk) (i*256+j)))] ⟨rfl,trivial⟩),(1,AR (mV (fun j=>(AP dk) (i*256+j))))] [] 1 hS fun hS=>WG (!(JS (fun j=>(AP dk) (i*256+j)))) hS (fun h3=> ?_) (fun h3=> ?_))
   ·exact Ae [] 1 hS fun hS=>AU (AC (Ah (Ah (AC (Ah (CW rfl (.inr rfl) hS [vi 2] [] (by show weak _ (vi ((Ek dk:Nat):Int))=vi ((Ek dk:Nat):Int);unfold Ek;rw[if_pos Ac,if_neg (by rw[ZM Ac (Aba h3)];decide)];rfl) trivial))))))
   ·exact Iu (Av [(0,BQ i)] [10] 1 hS fun hS=>Ab (Am hg0 hS (i+1) [] ⟨Ac,(A1 pm (Aa9 BC)),trivial⟩))
  ·have hT:=hS
   obtain rfl:3=i:=by omega
   have hS:=hT
   refine MY (Au ?_)
   by_cases h4:((chk ((dk.take 2336).drop 1152):Nat):Int)=0
   ·refine Av [(1,Rbk 1152 2336 dk.length),(2,AR (MB ((dk.take 2336).drop 1152))),(3,Ik h4),(6,Rbk 1152 2336 dk.length),(8,AR (Jt [(dk.take 2336).drop 1152] (by first |omega|(simp only[List.flatten_cons,List.flatten_nil,List.length_append,List.length_cons,List.length_nil,List.length_take,List.length_drop,List.length_replicate]<;>omega)|(simp<;>omega)))),(10,Rbk 2336 2368 dk.length),(11,AR (Ei (Bl [(dk.take 2336).drop 1152]) ((dk.take 2368).drop 2336)))] [] 0 hS fun hS=>Ab (Is ((Bl [(dk.take 2336).drop 1152])=((dk.take 2368).drop 2336)) hS (fun h5=> ?_) (fun h5=> ?_))
    ·exact Ae [] 0 hS fun hS=>AU (Ah (CW rfl (.inr rfl) hS [vi 2] [] (by show weak _ (vi ((Ek dk:Nat):Int))=vi ((Ek dk:Nat):Int);unfold Ek;rw[if_pos Ac,if_pos (IM pm),if_pos Ac,if_neg h5];rfl) trivial))
    ·exact B5 (Ae [] 0 hS fun hS=>AU (CW rfl (.inr rfl) hS [vi 0] [] (by show weak _ (vi ((Ek dk:Nat):Int))=vi ((Ek dk:Nat):Int);unfold Ek;rw[if_pos Ac,if_pos (IM pm),if_pos Ac,if_pos h5];rfl) trivial))
   ·exact Av [(1,Rbk 1152 2336 dk.length),(2,AR (MB ((dk.take 2336).drop 1152))),(3,Rnt h4)] [] 0 hS fun hS=>Ab (AQ hS (Ae [] 0 hS fun hS=>AU (Ah (CW rfl (.inr rfl) hS [vi 2] [] (by show weak _ (vi ((Ek dk:Nat):Int))=vi ((Ek dk:Nat):Int);unfold Ek;rw[if_pos Ac,if_pos (IM pm),if_neg Ac];rfl) trivial))))
end
end Go.Sx.Tryz
namespace Go.Sx.Tryz
open Go.Mi Go.RowKit Go.Sx Go.Proofs
noncomputable section
@[simp] theorem Gk (f:Nat→Int):(Cr f).length=1152:=by
 have key:∀i,(CK f i).length=384*i:=by
  intro i
  induction i with
  |zero=>rfl
  |succ i ih=>
   show(GM f i (CK f i)).length=_
   unfold GM
   rw[List.length_append,F3,ih];omega
 rw[LN]
 exact key 3
theorem bL {xs:List Int} (h:chk xs=0):xs.length=1184:=by
 by_cases e:xs.length=1184
 ·exact e
 ·unfold chk at h;rw[if_neg e]at h;exact absurd h (by decide)
theorem fA {xs:List Int} (h:Ek xs=0):xs.length=2400:=by
 by_cases e:xs.length=2400
 ·exact e
 ·unfold Ek at h;rw[if_neg e]at h;exact absurd h (by decide)
section
variable (d:List Int)
def SE (x35:Nat):(Nat→Int)→(Nat→Int):=fun o11_0=>Dg o11_0 (x35*256) 256 (Ba (fun j=>o11_0 (x35*256+j)) (Bv (Cl ((AA [d,[3]]).take 32) x35) (As (Aq ((AA [d,[3]]).drop 32) 0))))
def CH (d z:List Int):Nat→(Nat→Int)
 |0=>As (Aq ((AA [d,[3]]).drop 32) 3)
 |x35+1=>SE d x35 (CH d z x35)
def Yk (z:List Int):(List Int)×(List Int):=([Cr (CH d z 3),(AA [d,[3]]).take 32].flatten,[Cr (As (Aq ((AA [d,[3]]).drop 32) 0)),[Cr (CH d z 3),(AA [d,[3]]).take 32].flatten,Bl [[Cr (CH d z 3),(AA [d,[3]]).take 32].flatten],z].flatten)
def AF (z:List Int):(List Int)×(List Int):=AJ (Yk d z)
theorem Yl (z:List Int):AF d z=Yk d z:=Af _
end
theorem Hu (d z:List Int) (hz:z.length=32):(AF d z).1.length=1184∧(AF d z).2.length=2400:=by
 have h1:=DO [d,[3]]
 rw[Yl]
 unfold Yk
 simp only[List.flatten_cons,List.flatten_nil,List.length_append,List.length_nil,Gk,Kq,List.length_take,h1,hz]
 exact⟨by omega,by omega⟩
section
variable (d z:List Int)
def Adh (z_:(List Int)×(List Int):=AF d z):Con:=⟨[lb d,lb z],[],.tu (chain [lb (z_.1),.sk 0,vi 0]),[(0,.sl 5 [.int .u8] (z_.2))]⟩
theorem aK (hd:d.length=32) (hz:z.length=32):ConOk Tryz.prog 115 (Adh d z):=by
 refine cy 0 Tryz.func115 rfl Tryz.ntmps115 fun hg0 hS=> ?_
 have A6:d.length≤9223372036854775807:=hS.len 0 rfl
 have Bf:z.length≤9223372036854775807:=hS.len 1 rfl
 have hd1:((d.length:Nat):Int)=32:=Ac
 have hz1:((z.length:Nat):Int)=32:=Ac
 refine Ae [] 0 hS fun hS=>Au (Ay [(2,Ik hd1),(6,Ik hz1)] [] 0 hS fun hS=>Ai hS (B5 (Ay [(3,AR (Js [d,[3]] (by first |omega|(simp only[List.flatten_cons,List.flatten_nil,List.length_append,List.length_cons,List.length_nil,List.length_take,List.length_drop,List.length_replicate]<;>omega)|(simp<;>omega))))] [] 0 hS fun hS=>Au ?_)))
 have hl:=DO [d,[3]]
 refine Av [(1,g9 32 (AA [d,[3]]).length),(3,ON 32 (AA [d,[3]]).length)] [] 0 hS fun hS=>Ab (Ay [(1,AR (JG ((AA [d,[3]]).drop 32) 0 AD Ac)),(2,Ix (Ja (Aq ((AA [d,[3]]).drop 32) 0)) [] [] [.ar .u16 768 (Aq ((AA [d,[3]]).drop 32) 0),.v (.func (.func 150) #[] #[])] [])] [10] 1 hS fun hS=>Ay [(1,AR (JG ((AA [d,[3]]).drop 32) 3 AD Ac)),(2,Ix (Ja (Aq ((AA [d,[3]]).drop 32) 3)) [] [] [.ar .u16 768 (Aq ((AA [d,[3]]).drop 32) 3),.v (.func (.func 150) #[] #[])] [])] [11] 2 hS fun hS=>Au (Ae [] 2 hS fun hS=>Br (Ar (ι:=Nat×(Nat→Int)) hg0 hS (fun(x35,o11_0)=>(3-x35,[(35,vi ((x35:Nat):Int))],[(1,Ob5 o11_0)],(x35≤3)∧(o11_0=CH d z x35)∧True)) [1,4,5,6,8,10,11] [0] 2 (0,As (Aq ((AA [d,[3]]).drop 32) 3)) [(0,0),(1,1)] ⟨Ac,rfl,trivial⟩ ?_)))
 rintro⟨x35,o11_0⟩ ac gs ws ⟨hx35,hq1,_⟩ hS
 refine Ae [] 2 hS fun hS=>Au (AB ((x35:Int)<3) hS (fun h1=> ?_) (fun h1=> ?_))
 ·exact BG (Ae [] 2 hS fun hS=>Av [(2,AG x35 3),(3,GC (.ar .u16 256 (fun j=>o11_0 (x35*256+j))) [(.ar .u16 256 (fun j=>o11_0 (x35*256+j)):D)=(.ar .u16 256 (fun j=>o11_0 (x35*256+j)))] ⟨rfl,trivial⟩),(6,AR (NY ((AA [d,[3]]).take 32) x35 AD Ac)),(7,GC (.ar .u16 768 (As (Aq ((AA [d,[3]]).drop 32) 0))) [(.ar .u16 768 (As (Aq ((AA [d,[3]]).drop 32) 0)):D)=(.ar .u16 768 (As (Aq ((AA [d,[3]]).drop 32) 0)))] ⟨rfl,trivial⟩),(8,Ix (UF (Cl ((AA [d,[3]]).take 32) x35) (As (Aq ((AA [d,[3]]).drop 32) 0))) [] [] [.ar .u16 768 (Cl ((AA [d,[3]]).take 32) x35),.ar .u16 768 (As (Aq ((AA [d,[3]]).drop 32) 0))] []),(9,Ix (Ij (fun j=>o11_0 (x35*256+j)) (Bv (Cl ((AA [d,[3]]).take 32) x35) (As (Aq ((AA [d,[3]]).drop 32) 0)))) [] [] [.ar .u16 256 (fun j=>o11_0 (x35*256+j)),.ar .u16 256 (Bv (Cl ((AA [d,[3]]).take 32) x35) (As (Aq ((AA [d,[3]]).drop 32) 0)))] []),(10,AG x35 3)] [] 2 hS fun hS=>BV (Av [(0,BQ x35)] [35] 2 hS fun hS=>Ab (Am hg0 hS (x35+1,Dg o11_0 (x35*256) 256 (Ba (fun j=>o11_0 (x35*256+j)) (Bv (Cl ((AA [d,[3]]).take 32) x35) (As (Aq ((AA [d,[3]]).drop 32) 0))))) [(0,0),(1,1)] ⟨Ac,(A2 (st:=SE _) hq1 rfl rfl),trivial⟩)))
 ·have hT:=hS
  obtain rfl:3=x35:=by omega
  obtain rfl:=hq1.symm
  have hS:=hT
  refine MY ?_
  have hb:=Gk (CH d z 3)
  refine Av [(0,GC (.ar .u16 768 (CH d z 3)) [(.ar .u16 768 (CH d z 3):D)=(.ar .u16 768 (CH d z 3))] ⟨rfl,trivial⟩),(1,AR (Sn (CH d z 3))),(4,AO (Q0 [Cr (CH d z 3),(AA [d,[3]]).take 32] (by first |omega|(simp only[List.flatten_cons,List.flatten_nil,List.length_append,List.length_cons,List.length_nil,List.length_take,List.length_drop,List.length_replicate]<;>omega)|(simp<;>omega))) [] [(0,2)])] [] 3 hS fun hS=>Ej ?_
  have hb2:=Gk (As (Aq ((AA [d,[3]]).drop 32) 0))
  obtain⟨gs,hS⟩:=hS.fz 2
  refine Av [(1,GC (.ar .u16 768 (As (Aq ((AA [d,[3]]).drop 32) 0))) [(.ar .u16 768 (As (Aq ((AA [d,[3]]).drop 32) 0)):D)=(.ar .u16 768 (As (Aq ((AA [d,[3]]).drop 32) 0)))] ⟨rfl,trivial⟩),(2,AR (Sn (As (Aq ((AA [d,[3]]).drop 32) 0)))),(6,AR (Jt [[Cr (CH d z 3),(AA [d,[3]]).take 32].flatten] (by first |omega|(simp only[List.flatten_cons,List.flatten_nil,List.length_append,List.length_cons,List.length_nil,List.length_take,List.length_drop,List.length_replicate]<;>omega)|(simp<;>omega)))),(9,AO (Q0 [Cr (As (Aq ((AA [d,[3]]).drop 32) 0)),[Cr (CH d z 3),(AA [d,[3]]).take 32].flatten,Bl [[Cr (CH d z 3),(AA [d,[3]]).take 32].flatten],z] (by first |omega|(simp only[List.flatten_cons,List.flatten_nil,List.length_append,List.length_cons,List.length_nil,List.length_take,List.length_drop,List.length_replicate]<;>omega)|(simp<;>omega))) [] [(0,3)])] [4] 4 hS fun hS=>D6 ?_
  obtain⟨gs,hS⟩:=hS.rx [(0,3)] [4,5,6] [0] 1 hg0
  exact Bh (Yl ..) hS
end
section
variable (ek:List Int)
def F0 (r:List Int) (x31:Nat):(List Int)→(List Int):=fun x6=>x6++(Ff (B3 (Ba (fun j=>(Aq r 3) (x31*256+j)) (AL (Bv (AX (ek.drop 1152) x31) (As (Aq r 0)))))))
def Fb (ek r:List Int):Nat→(List Int)
 |0=>[]
 |x31+1=>F0 ek r x31 (Fb ek r x31)
def Np (m r:List Int):(List Int):=(Fb ek r 3)++(Hz (Cw (Ba (Ba (AL (Bv (AP ek) (As (Aq r 0)))) (CG r 6)) (BU (BI m)))))
def Dw (m r:List Int):(List Int):=AJ (Np ek m r)
theorem SQ (m r:List Int):Dw ek m r=Np ek m r:=Af _
end
@[simp] theorem WU (ek m r:List Int):(Dw ek m r).length=1088:=by
 have key:∀i,(Fb ek r i).length=320*i:=by
  intro i
  induction i with
  |zero=>rfl
  |succ i ih=>
   show(F0 ek r i (Fb ek r i)).length=_
   unfold F0
   rw[List.length_append,Mt,ih];omega
 rw[SQ]
 unfold Np
 rw[List.length_append,NP,key]
section
variable (ek m:List Int)
def f9 (r:List Int) (z_:(List Int):=Dw ek m r):Con:=⟨[lb ek,lb m,lb r],[],.sk 0,[(0,.sl 5 [.int .u8] z_)]⟩
theorem KZ (r:List Int) (he:ek.length=1184) (hm:m.length=32) (hr:r.length=32):ConOk Tryz.prog 170 (f9 ek m r):=by
 refine cy 0 Tryz.func170 rfl Tryz.ntmps170 fun hg0 hS=> ?_
 have A6:ek.length≤9223372036854775807:=hS.len 0 rfl
 have Bf:m.length≤9223372036854775807:=hS.len 1 rfl
 have CF:r.length≤9223372036854775807:=hS.len 2 rfl
 refine Ae [] 0 hS fun hS=>Ay [(1,AR (LB ek AD)),(3,ON 1152 ek.length)] [7] 1 hS fun hS=>Ay [(1,AR (JG r 0 AD Ac)),(2,Ix (Ja (Aq r 0)) [] [] [.ar .u16 768 (Aq r 0),.v (.func (.func 150) #[] #[])] [])] [9] 2 hS fun hS=>Ay [(1,AR (JG r 3 AD Ac))] [10] 3 hS fun hS=>Au (Ae [] 3 hS fun hS=>Br ?_)
 obtain⟨gs,hS⟩:=hS.nilk 6 5 [.int .u8]
 refine Ar (ι:=Nat×(List Int)) hg0 hS (fun(x31,x6)=>(3-x31,[(31,vi ((x31:Nat):Int))],[(3,.sl 5 [.int .u8] x6)],(x31≤3)∧(x6=Fb ek r x31)∧(x6.length=320*x31)∧True)) [1,2,6,7,8,9,30] [0,1] 4 (0,[]) [(0,0),(1,1),(3,3)] ⟨Ac,rfl,rfl,trivial⟩ ?_
 rintro⟨x31,x6⟩ ac gs ws ⟨hx31,hq1,p1,_⟩ hS
 refine Ae [] 4 hS fun hS=>Au (AB ((x31:Int)<3) hS (fun h1=> ?_) (fun h1=> ?_))
 ·refine BG (Ay [(1,AG x31 3)] [12] 5 hS fun hS=>Ay [(0,GC (.ar .u16 256 (fun j=>(Aq r 3) (x31*256+j))) [(.ar .u16 256 (fun j=>(Aq r 3) (x31*256+j)):D)=(.ar .u16 256 (fun j=>(Aq r 3) (x31*256+j)))] ⟨rfl,trivial⟩),(3,AR (Qj (ek.drop 1152) x31 AD Ac)),(4,GC (.ar .u16 768 (As (Aq r 0))) [(.ar .u16 768 (As (Aq r 0)):D)=(.ar .u16 768 (As (Aq r 0)))] ⟨rfl,trivial⟩),(5,Ix (UF (AX (ek.drop 1152) x31) (As (Aq r 0))) [] [] [.ar .u16 768 (AX (ek.drop 1152) x31),.ar .u16 768 (As (Aq r 0))] []),(6,AR (KJ (Bv (AX (ek.drop 1152) x31) (As (Aq r 0))))),(7,Ix (Ij (fun j=>(Aq r 3) (x31*256+j)) (AL (Bv (AX (ek.drop 1152) x31) (As (Aq r 0))))) [] [] [.ar .u16 256 (fun j=>(Aq r 3) (x31*256+j)),.ar .u16 256 (AL (Bv (AX (ek.drop 1152) x31) (As (Aq r 0))))] [])] [] 5 hS fun hS=>Ay [(0,GC (.ar .u16 256 (Ba (fun j=>(Aq r 3) (x31*256+j)) (AL (Bv (AX (ek.drop 1152) x31) (As (Aq r 0)))))) [(.ar .u16 256 (Ba (fun j=>(Aq r 3) (x31*256+j)) (AL (Bv (AX (ek.drop 1152) x31) (As (Aq r 0))))):D)=(.ar .u16 256 (Ba (fun j=>(Aq r 3) (x31*256+j)) (AL (Bv (AX (ek.drop 1152) x31) (As (Aq r 0))))))] ⟨rfl,trivial⟩),(1,Ix (Ry (Ba (fun j=>(Aq r 3) (x31*256+j)) (AL (Bv (AX (ek.drop 1152) x31) (As (Aq r 0)))))) [] [] [.ar .u16 256 (Ba (fun j=>(Aq r 3) (x31*256+j)) (AL (Bv (AX (ek.drop 1152) x31) (As (Aq r 0))))),vi 10] [])] [] 5 hS fun hS=>Ay [(0,GC (.ar .u16 256 (B3 (Ba (fun j=>(Aq r 3) (x31*256+j)) (AL (Bv (AX (ek.drop 1152) x31) (As (Aq r 0))))))) [(.ar .u16 256 (B3 (Ba (fun j=>(Aq r 3) (x31*256+j)) (AL (Bv (AX (ek.drop 1152) x31) (As (Aq r 0)))))):D)=(.ar .u16 256 (B3 (Ba (fun j=>(Aq r 3) (x31*256+j)) (AL (Bv (AX (ek.drop 1152) x31) (As (Aq r 0)))))))] ⟨rfl,trivial⟩),(1,Ix (WY (B3 (Ba (fun j=>(Aq r 3) (x31*256+j)) (AL (Bv (AX (ek.drop 1152) x31) (As (Aq r 0))))))) [] [(0,5)] [.ar .u16 256 (B3 (Ba (fun j=>(Aq r 3) (x31*256+j)) (AL (Bv (AX (ek.drop 1152) x31) (As (Aq r 0)))))),vi 10] [])] [] 6 hS fun hS=> ?_)
  have hl:=Mt (B3 (Ba (fun j=>(Aq r 3) (x31*256+j)) (AL (Bv (AX (ek.drop 1152) x31) (As (Aq r 0))))))
  exact Av [(2,Ge x6.length ((Ff (B3 (Ba (fun j=>(Aq r 3) (x31*256+j)) (AL (Bv (AX (ek.drop 1152) x31) (As (Aq r 0))))))).length) 1 Ac)] [6] 7 hS fun hS=>BV (Av [(0,BQ x31)] [31] 7 hS fun hS=>Ab (Am hg0 hS (x31+1,x6++(Ff (B3 (Ba (fun j=>(Aq r 3) (x31*256+j)) (AL (Bv (AX (ek.drop 1152) x31) (As (Aq r 0)))))))) [(0,0),(1,1),(3,6)] ⟨Ac,(A2 (st:=F0 _ _) hq1 rfl rfl),(by rw[List.length_append,hl];omega),trivial⟩))
 ·have hT:=hS
  obtain rfl:3=x31:=by omega
  obtain rfl:=hq1.symm
  have hS:=hT
  refine CX (Ay [(1,AR (XM m (by first |omega|(simp only[List.length_append,List.length_drop,List.length_take,List.length_cons,List.length_nil];omega)))),(2,Ix (Yw (BI m)) [] [] [.ar .u16 256 (BI m),vi 1] [])] [15] 5 hS fun hS=>Ay [(0,GC (.ar .u16 768 (AP ek)) [(.ar .u16 768 (AP ek):D)=(.ar .u16 768 (AP ek))] ⟨rfl,trivial⟩),(1,GC (.ar .u16 768 (As (Aq r 0))) [(.ar .u16 768 (As (Aq r 0)):D)=(.ar .u16 768 (As (Aq r 0)))] ⟨rfl,trivial⟩),(2,Ix (UF (AP ek) (As (Aq r 0))) [] [] [.ar .u16 768 (AP ek),.ar .u16 768 (As (Aq r 0))] []),(3,AR (KJ (Bv (AP ek) (As (Aq r 0))))),(5,AR (Wo r 6 AD)),(6,Ix (Ij (AL (Bv (AP ek) (As (Aq r 0)))) (CG r 6)) [] [] [.ar .u16 256 (AL (Bv (AP ek) (As (Aq r 0)))),.ar .u16 256 (CG r 6)] []),(7,GC (.ar .u16 256 (BU (BI m))) [(.ar .u16 256 (BU (BI m)):D)=(.ar .u16 256 (BU (BI m)))] ⟨rfl,trivial⟩),(8,Ix (Ij (Ba (AL (Bv (AP ek) (As (Aq r 0)))) (CG r 6)) (BU (BI m))) [] [] [.ar .u16 256 (Ba (AL (Bv (AP ek) (As (Aq r 0)))) (CG r 6)),.ar .u16 256 (BU (BI m))] []),(9,Ix (UM (Ba (Ba (AL (Bv (AP ek) (As (Aq r 0)))) (CG r 6)) (BU (BI m)))) [] [] [.ar .u16 256 (Ba (Ba (AL (Bv (AP ek) (As (Aq r 0)))) (CG r 6)) (BU (BI m))),vi 4] [])] [17] 6 hS fun hS=>Ay [(0,GC (.ar .u16 256 (Cw (Ba (Ba (AL (Bv (AP ek) (As (Aq r 0)))) (CG r 6)) (BU (BI m))))) [(.ar .u16 256 (Cw (Ba (Ba (AL (Bv (AP ek) (As (Aq r 0)))) (CG r 6)) (BU (BI m)))):D)=(.ar .u16 256 (Cw (Ba (Ba (AL (Bv (AP ek) (As (Aq r 0)))) (CG r 6)) (BU (BI m)))))] ⟨rfl,trivial⟩),(1,Ix (YF (Cw (Ba (Ba (AL (Bv (AP ek) (As (Aq r 0)))) (CG r 6)) (BU (BI m))))) [] [(0,6)] [.ar .u16 256 (Cw (Ba (Ba (AL (Bv (AP ek) (As (Aq r 0)))) (CG r 6)) (BU (BI m)))),vi 4] [])] [] 7 hS fun hS=>Au ?_)
  have hl4:=NP (Cw (Ba (Ba (AL (Bv (AP ek) (As (Aq r 0)))) (CG r 6)) (BU (BI m))))
  refine Av [(2,Ge ((Fb ek r 3).length) ((Hz (Cw (Ba (Ba (AL (Bv (AP ek) (As (Aq r 0)))) (CG r 6)) (BU (BI m))))).length) 1 Ac)] [6] 8 hS fun hS=>D6 ?_
  obtain⟨gs,hS⟩:=hS.rx [(0,7)] [6] [0] 1 hg0
  exact Bh (SQ ..) hS
def WZ:(List Int)×(List Int)×Nat:=if((chk ek:Nat):Int)=0 then(if((m.length:Nat):Int)=32 then((AA [m,Bl [ek]]).take 32,Dw ek m ((AA [m,Bl [ek]]).drop 32),0)else([],[],1))else([],[],(chk ek))
def W0:(List Int)×(List Int)×Nat:=AJ (WZ ek m)
theorem QJ:W0 ek m=WZ ek m:=Af _
def r7 (z_:(List Int)×(List Int)×Nat:=W0 ek m):Con:=⟨[lb ek,lb m],[],.tu (chain [lb (z_.1),.sk 0,vi ((z_.2.2:Nat):Int)]),[(0,.sl 5 [.int .u8] (z_.2.1))]⟩
theorem AdN:ConOk Tryz.prog 144 (r7 ek m):=by
 refine cy 0 Tryz.func144 rfl Tryz.ntmps144 fun hg0 hS=> ?_
 have A6:ek.length≤9223372036854775807:=hS.len 0 rfl
 have Bf:m.length≤9223372036854775807:=hS.len 1 rfl
 refine Ae [] 0 hS fun hS=>Au (Ay [(1,AR (MB ek))] [] 0 hS fun hS=>Ae [] 0 hS fun hS=>Is (((chk ek:Nat):Int)=0) hS (fun h1=> ?_) (fun h1=> ?_))
 ·refine Ae [] 0 hS fun hS=>AU (Ah ?_)
  obtain⟨gs,hS⟩:=hS.nilk 5 5 [.int .u8]
  have hS:=hS.wk 4 (lb [])
  exact Bh (.trans (QJ ..) (if_neg h1)) hS
 ·refine EK (Ae [] 0 hS fun hS=>Is (((m.length:Nat):Int)=32) hS (fun h2=> ?_) (fun h2=> ?_))
  ·refine Ae [] 0 hS fun hS=>AU (Ah ?_)
   obtain⟨gs,hS⟩:=hS.nilk 5 5 [.int .u8]
   have hS:=hS.wk 4 (lb [])
   exact Bh (.trans (QJ ..) ((if_pos h1).trans (if_neg h2))) hS
  ·refine EK ?_
   have hc:=bL (xs:=ek) Ac
   have hs:=Kq [ek]
   refine Av [(3,AR (Jt [ek] (by first |omega|(simp only[List.flatten_cons,List.flatten_nil,List.length_append,List.length_cons,List.length_nil,List.length_take,List.length_drop,List.length_replicate]<;>omega)|(simp<;>omega)))),(5,AR (Js [m,Bl [ek]] (by first |omega|(simp only[List.flatten_cons,List.flatten_nil,List.length_append,List.length_cons,List.length_nil,List.length_take,List.length_drop,List.length_replicate]<;>omega)|(simp<;>omega))))] [] 0 hS fun hS=>Ej ?_
   have hl:=DO [m,Bl [ek]]
   exact Av [(1,OM (E3 none (some 32) (some 32) (AA [m,Bl [ek]]).length (AA [m,Bl [ek]]).length) ⟨by simp only[FX]<;>omega,by simp only[FX]<;>omega,by simp only[FX]<;>omega,by simp,by simp only[bl]<;>omega,by simp only[bl]<;>omega,by simp only[bl]<;>omega⟩),(5,ON 32 (AA [m,Bl [ek]]).length),(6,AO (KZ ek m ((AA [m,Bl [ek]]).drop 32) AD AD AD) [] [(0,0)])] [] 1 hS fun hS=>D6 (Bh (.trans (QJ ..) ((if_pos h1).trans (if_pos h2))) hS)
def JK:(List Int)×(List Int):=((AA [m,Bl [ek]]).take 32,Dw ek m ((AA [m,Bl [ek]]).drop 32))
def D5:(List Int)×(List Int):=AJ (JK ek m)
theorem Nr:D5 ek m=JK ek m:=Af _
def gD (z_:(List Int)×(List Int):=D5 ek m):Con:=⟨[lb ek,lb m],[],.tu (chain [lb (z_.1),.sk 0,vi 0]),[(0,.sl 5 [.int .u8] (z_.2))]⟩
theorem YH (hk:chk ek=0) (hm:m.length=32):ConOk Tryz.prog 144 (gD ek m):=by
 refine cy 0 Tryz.func144 rfl Tryz.ntmps144 fun hg0 hS=> ?_
 have A6:ek.length≤9223372036854775807:=hS.len 0 rfl
 have Bf:m.length≤9223372036854775807:=hS.len 1 rfl
 have hk1:((chk ek:Nat):Int)=0:=Ac
 have hm1:((m.length:Nat):Int)=32:=Ac
 refine Ae [] 0 hS fun hS=>Au (Ay [(1,AR (MB ek))] [] 0 hS fun hS=>Ay [(1,Ik hk1)] [] 0 hS fun hS=>Ai hS (EK (Ay [(2,Ik hm1)] [] 0 hS fun hS=>Ai hS (EK ?_))))
 have hc:=bL (xs:=ek) Ac
 have hs:=Kq [ek]
 refine Av [(3,AR (Jt [ek] (by first |omega|(simp only[List.flatten_cons,List.flatten_nil,List.length_append,List.length_cons,List.length_nil,List.length_take,List.length_drop,List.length_replicate]<;>omega)|(simp<;>omega)))),(5,AR (Js [m,Bl [ek]] (by first |omega|(simp only[List.flatten_cons,List.flatten_nil,List.length_append,List.length_cons,List.length_nil,List.length_take,List.length_drop,List.length_replicate]<;>omega)|(simp<;>omega))))] [] 0 hS fun hS=>Ej ?_
 have hl:=DO [m,Bl [ek]]
 exact Av [(1,OM (E3 none (some 32) (some 32) (AA [m,Bl [ek]]).length (AA [m,Bl [ek]]).length) ⟨by simp only[FX]<;>omega,by simp only[FX]<;>omega,by simp only[FX]<;>omega,by simp,by simp only[bl]<;>omega,by simp only[bl]<;>omega,by simp only[bl]<;>omega⟩),(5,ON 32 (AA [m,Bl [ek]]).length),(6,AO (KZ ek m ((AA [m,Bl [ek]]).drop 32) AD AD AD) [] [(0,0)])] [] 1 hS fun hS=>D6 (Bh (Nr ..) hS)
end
end
end Go.Sx.Tryz
namespace Go.Sx
open Go.Mi Go.RowKit
theorem E5 (x:Int):IntKind.wrap .u16 x=x%65536:=by
 simp [IntKind.wrap,IntKind.bits,IntKind.signed]
theorem mL {a:Int} (ha:0≤a∧a<256):(BitVec.ofInt 8 a).toNat=a.toNat:=by rw[BitVec.toNat_ofInt];omega
theorem mM {a:Int} (ha:0≤a∧a<65536):(BitVec.ofInt 16 a).toNat=a.toNat:=by rw[BitVec.toNat_ofInt];omega
theorem AfJ {a b:Int} (ha:0≤a∧a<256) (hb:0≤b∧b<256):C7 .u8 a b=((a.toNat|||b.toNat:Nat):Int):=by
 have h:a.toNat|||b.toNat<2^8:=Nat.or_lt_two_pow (by omega) (by omega)
 unfold C7
 rw[EN]
 show(((BitVec.ofInt 8 a|||BitVec.ofInt 8 b).toNat:Nat):Int)%256=_
 rw[BitVec.toNat_or,mL ha,mL hb]
 omega
theorem Afl {a b:Int} (ha:0≤a∧a<65536) (hb:0≤b∧b<65536):C7 .u16 a b=((a.toNat|||b.toNat:Nat):Int):=by
 have h:a.toNat|||b.toNat<2^16:=Nat.or_lt_two_pow (by omega) (by omega)
 unfold C7
 rw[E5]
 show(((BitVec.ofInt 16 a|||BitVec.ofInt 16 b).toNat:Nat):Int)%65536=_
 rw[BitVec.toNat_or,mM ha,mM hb]
 omega
theorem Qz {a:Int} (ha:0≤a) (n:Nat):a.fdiv (2^n)=((a.toNat>>>n:Nat):Int):=by
 obtain⟨m,rfl⟩:=Int.eq_ofNat_of_zero_le ha
 rw[Int.fdiv_eq_ediv_of_nonneg _ (Int.pow_nonneg (by decide)),show(2:Int)^n=((2^n:Nat):Int) by simp,Nat.shiftRight_eq_div_pow]
 rfl
theorem AdV {a:Int} (ha:0≤a) {n:Nat} (hn:n≤8):AY .u8 a ((n:Nat):Int)=((a.toNat>>>n:Nat):Int):=by
 unfold AY
 rw[show min ((n:Nat):Int).toNat (IntKind.bits .u8)=n by simp [IntKind.bits];omega,Qz ha]
theorem AdX {a:Int} (ha:0≤a) {n:Nat} (hn:n≤16):AY .u16 a ((n:Nat):Int)=((a.toNat>>>n:Nat):Int):=by
 unfold AY
 rw[show min ((n:Nat):Int).toNat (IntKind.bits .u16)=n by simp [IntKind.bits];omega,Qz ha]
theorem sV (x n:Nat):x>>>n%2=(x.testBit n).toNat:=by
 rw[Nat.testBit_eq_decide_div_mod_eq,Nat.shiftRight_eq_div_pow]
 rcases Nat.mod_two_eq_zero_or_one (x/2^n)with h|h<;>simp [h]
theorem Aew {x:Int} (hx:0≤x∧x<65536) {k:Nat} (hk:k≤16):A5 .u16 (AY .u16 x ((k:Nat):Int)) 1=((x.toNat.testBit k).toNat:Int):=by
 rw[AdX hx.1 hk]
 have h1:x.toNat>>>k≤x.toNat:=by rw[Nat.shiftRight_eq_div_pow];exact Nat.div_le_self _ _
 have h9:(0:Int)≤((x.toNat>>>k:Nat):Int)∧((x.toNat>>>k:Nat):Int)<65536:=by
  generalize x.toNat>>>k=y at h1⊢
  omega
 unfold A5
 rw[E5]
 show(((BitVec.ofInt 16 _&&&BitVec.ofInt 16 1).toNat:Nat):Int)%65536=_
 rw[BitVec.toNat_and,mM h9,show(BitVec.ofInt 16 1).toNat=1 from rfl,Nat.and_one_is_mod,Int.toNat_natCast,sV]
 cases x.toNat.testBit k<;>rfl
theorem AfG {x:Int} (hx:0≤x∧x<256) {k:Nat} (hk:k≤8):A5 .u8 (AY .u8 x ((k:Nat):Int)) 1=((x.toNat.testBit k).toNat:Int):=by
 rw[AdV hx.1 hk]
 have h1:x.toNat>>>k≤x.toNat:=by rw[Nat.shiftRight_eq_div_pow];exact Nat.div_le_self _ _
 have h9:(0:Int)≤((x.toNat>>>k:Nat):Int)∧((x.toNat>>>k:Nat):Int)<256:=by
  generalize x.toNat>>>k=y at h1⊢
  omega
 unfold A5
 rw[EN]
 show(((BitVec.ofInt 8 _&&&BitVec.ofInt 8 1).toNat:Nat):Int)%256=_
 rw[BitVec.toNat_and,mL h9,show(BitVec.ofInt 8 1).toNat=1 from rfl,Nat.and_one_is_mod,Int.toNat_natCast,sV]
 cases x.toNat.testBit k<;>rfl
theorem Tg {a b:Nat} (h:a<b):2^a*2≤2^b:=by
 rw[←Nat.pow_succ];exact Nat.pow_le_pow_right (by decide) h
theorem Afw (b:Bool) {s:Nat} (hs:s<8):Bd .u8 (IntKind.wrap .u8 ((b.toNat:Nat):Int)) ((s:Nat):Int)=((b.toNat*2^s:Nat):Int):=by
 have h2:=Tg hs
 unfold Bd
 rw[EN,EN,show min ((s:Nat):Int).toNat (IntKind.bits .u8)=s by simp [IntKind.bits];omega]
 cases b
 ·simp
 ·have e:((2^s:Nat):Int)=(2:Int)^s:=by simp
  simp only[Bool.toNat_true,Nat.one_mul]
  rw[e]
  have :(2:Int)^s<256:=by rw[←e];omega
  have :(0:Int)≤2^s:=by rw[←e];omega
  omega
theorem AdY (b:Bool) {s:Nat} (hs:s<16):Bd .u16 (IntKind.wrap .u16 ((b.toNat:Nat):Int)) ((s:Nat):Int)=((b.toNat*2^s:Nat):Int):=by
 have h2:=Tg hs
 unfold Bd
 rw[E5,E5,show min ((s:Nat):Int).toNat (IntKind.bits .u16)=s by simp [IntKind.bits];omega]
 cases b
 ·simp
 ·have e:((2^s:Nat):Int)=(2:Int)^s:=by simp
  simp only[Bool.toNat_true,Nat.one_mul]
  rw[e]
  have :(2:Int)^s<65536:=by rw[←e];omega
  have :(0:Int)≤2^s:=by rw[←e];omega
  omega
theorem iW (b:Bool) (s i:Nat):(b.toNat*2^s).testBit i=(b&&decide (i=s)):=by
 cases b
 ·simp
 ·simp only[Bool.toNat_true,Nat.one_mul,Bool.true_and,Nat.testBit_two_pow]
  by_cases h:s=i
  ·simp [h]
  ·rw[decide_eq_false h,decide_eq_false fun e=>h e.symm]
def By (o:List Int):Prop:=∀x∈o,0≤x∧x<256
theorem By.at {o:List Int} (h:By o) (i:Nat):0≤o.getD i 0∧o.getD i 0<256:=by
 rw[List.getD_eq_getElem?_getD]
 cases e:o[i]? with
 |none=>simp
 |some x=>exact h x (List.mem_of_getElem? e)
def bt (o:List Int) (n:Nat):Bool:=(o.getD (n/8) 0).toNat.testBit (n%8)
def t9 (o:List Int) (n:Nat) (v:Int):List Int:=o.set (n/8) (C7 .u8 (o.getD (n/8) 0) (Bd .u8 (IntKind.wrap .u8 v) ((n%8:Nat):Int)))
theorem t8 (o:List Int) (n:Nat) (v:Int):(t9 o n v).length=o.length:=List.length_set
theorem Abl {o:List Int} (ho:By o) {n:Nat} (hn:n<8*o.length) (b:Bool):By (t9 o n ((b.toNat:Nat):Int))∧∀m,bt (t9 o n ((b.toNat:Nat):Int)) m=(bt o m||(b&&decide (m=n))):=by
 have hm:=Nat.mod_lt n (show 0<8 by decide)
 have h2:=Tg hm
 have hv:b.toNat*2^(n%8)<256:=by cases b<;>simp<;>omega
 have hx:=ho.at (n/8)
 have e:C7 .u8 (o.getD (n/8) 0) (Bd .u8 (IntKind.wrap .u8 ((b.toNat:Nat):Int)) ((n%8:Nat):Int))=(((o.getD (n/8) 0).toNat|||b.toNat*2^(n%8):Nat):Int):=by
  rw[Afw b hm,AfJ hx ⟨by omega,by omega⟩,Int.toNat_natCast]
 have hr:(o.getD (n/8) 0).toNat|||b.toNat*2^(n%8)<2^8:=Nat.or_lt_two_pow (by omega) (by omega)
 unfold t9
 rw[e]
 refine⟨fun x hx'=> ?_,fun m=> ?_⟩
 ·rcases List.mem_or_eq_of_mem_set hx' with h|h
  ·exact ho x h
  ·rw[h];omega
 ·unfold bt
  rw[List.getD_eq_getElem?_getD,List.getElem?_set]
  by_cases h:n/8=m/8
  ·rw[if_pos h,if_pos (by omega),Option.getD_some,Int.toNat_natCast,Nat.testBit_or,iW,h]
   congr 2
   by_cases e2:m=n
   ·rw[e2,decide_eq_true rfl,decide_eq_true rfl]
   ·rw[decide_eq_false e2,decide_eq_false (by omega)]
  ·rw[if_neg h,←List.getD_eq_getElem?_getD]
   rw[decide_eq_false (by intro e2;rw[e2]at h;exact h rfl)]
   simp
def Ya (o:List Int) (n0:Nat):Nat→Int→Int
 |0,a=>a
 |k+1,a=>C7 .u16 (Ya o n0 k a) (Bd .u16 (IntKind.wrap .u16 (A5 .u8 (AY .u8 (o.getD ((n0+k)/8) 0) (((n0+k)%8:Nat):Int)) 1)) ((k:Nat):Int))
theorem lL {o:List Int} (ho:By o) (n0:Nat):∀k,k≤16→(0≤Ya o n0 k 0∧Ya o n0 k 0<65536)∧∀i,(Ya o n0 k 0).toNat.testBit i=(decide (i<k)&&bt o (n0+i))
 |0,_=>⟨by simp [Ya],fun i=>by simp [Ya]⟩
 |k+1,hk=>by
  obtain⟨h1,h2⟩:=lL ho n0 k (by omega)
  have hm:=Nat.mod_lt (n0+k) (show 0<8 by decide)
  have h3:=Tg (show k<16 by omega)
  have e:Ya o n0 (k+1) 0=(((Ya o n0 k 0).toNat|||(bt o (n0+k)).toNat*2^k:Nat):Int):=by
   show C7 .u16 (Ya o n0 k 0) _=_
   rw[AfG (ho.at _) (by omega),AdY _ (by omega)]
   have hv:(bt o (n0+k)).toNat*2^k<65536:=by cases bt o (n0+k)<;>simp<;>omega
   show C7 .u16 (Ya o n0 k 0) (((bt o (n0+k)).toNat*2^k:Nat):Int)=_
   rw[Afl h1 ⟨by omega,by omega⟩,Int.toNat_natCast]
  have hv:(bt o (n0+k)).toNat*2^k<65536:=by cases bt o (n0+k)<;>simp<;>omega
  have hr:(Ya o n0 k 0).toNat|||(bt o (n0+k)).toNat*2^k<2^16:=Nat.or_lt_two_pow (by omega) (by omega)
  rw[e]
  refine⟨by omega,fun i=> ?_⟩
  rw[Int.toNat_natCast,Nat.testBit_or,h2,iW]
  by_cases hi:i=k
  ·subst hi
   rw[decide_eq_false (Nat.lt_irrefl _),decide_eq_true rfl,decide_eq_true (Nat.lt_succ_self _)]
   simp
  ·rw[decide_eq_false hi]
   by_cases h4:i<k
   ·rw[decide_eq_true h4,decide_eq_true (by omega)];simp
   ·rw[decide_eq_false h4,decide_eq_false (by omega)];simp
end Go.Sx
namespace Go.Sx.Tryz
open Go.Mi Go.RowKit Go.Sx Go.Proofs
noncomputable section
theorem AaC (r:Nat) (f:Nat→Int) (a:Nat):∀n,By (Dh r f a n).2.2
 |0=>by rw[←dK];intro x hx;cases hx
 |n+1=>by
  have ih:=AaC r f a n
  rw[Sj]
  generalize Dh r f a n=q at ih
  obtain⟨g,b,o⟩:=q
  simp only at ih⊢
  have hw:∀z:Int,0≤IntKind.wrap .u8 z∧IntKind.wrap .u8 z<256:=fun z=>by rw[EN];omega
  split
  ·intro x hx
   rcases List.mem_append.1 hx with h|h
   ·exact ih x h
   ·rw[List.mem_singleton.1 h];exact hw _
  ·intro x hx
   rcases List.mem_append.1 hx with h|h
   ·exact ih x h
   ·rw[List.mem_singleton.1 h];exact hw _
theorem cM (l:List (List Int)):By (AA l):=by rw[Ph];exact AaC _ _ _ _
def xr (f:Nat→Int) (i:Nat):Nat:=(CV (f i) 3329).toNat
theorem Zo {x:Int} (h:0≤x):0≤CV x 3329∧CV x 3329<3329:=by rw[nC h];omega
def Wr (f:Nat→Int) (o:List Int) (m:Nat):Prop:=By o∧o.length=384∧∀n,bt o n=(decide (n<m)&&(xr f (n/12)).testBit (n%12))
theorem Aeu {f:Nat→Int} (hf:∀i,i<256→0≤f i) {o:List Int} {i k:Nat} (hi:i<256) (hk:k<12) (h:Wr f o (i*12+k)) (x6:List Int):Wr f (Dx f i x6 k o) (i*12+k+1):=by
 obtain⟨h1,h2,h3⟩:=h
 have hx:=Zo (hf i hi)
 have e:Dx f i x6 k o=t9 o (i*12+k) (((xr f i).testBit k).toNat:Nat):=by
  show t9 o (i*12+k) (A5 .u16 (AY .u16 (CV (f i) 3329) (k:Int)) 1)=_
  rw[Aew ⟨hx.1,by omega⟩ Ac]
  rfl
 rw[e]
 obtain⟨k1,k2⟩:=Abl h1 (n:=i*12+k) (by rw[h2];omega) ((xr f i).testBit k)
 refine⟨k1,by rw[t8,h2],fun n=> ?_⟩
 rw[k2,h3]
 by_cases hn:n=i*12+k
 ·subst hn
  rw[decide_eq_false (Nat.lt_irrefl _),decide_eq_true rfl,decide_eq_true (Nat.lt_succ_self _),show(i*12+k)/12=i by omega,show(i*12+k)%12=k by omega]
  simp
 ·rw[decide_eq_false hn,Bool.and_false,Bool.or_false]
  by_cases h4:n<i*12+k
  ·rw[decide_eq_true h4,decide_eq_true Ac]
  ·rw[decide_eq_false h4,decide_eq_false Ac]
theorem Aa1 {f:Nat→Int} (hf:∀i,i<256→0≤f i) {o:List Int} {i:Nat} (hi:i<256) (h:Wr f o (i*12)):∀k,k≤12→Wr f (DX f i o k) (i*12+k)
 |0,_=>h
 |k+1,hk=>Aeu hf hi Ac (Aa1 hf hi h k Ac) o
theorem Aa2 {f:Nat→Int} (hf:∀i,i<256→0≤f i):∀i,i≤256→Wr f (EH f i) (i*12)
 |0,_=>by
  refine⟨fun x hx=> ?_,List.length_replicate,fun n=> ?_⟩
  ·have :x=0:=List.eq_of_mem_replicate hx
   omega
  ·have e : (EH f 0).getD (n / 8) 0 = 0 := by
    show(List.replicate 384 (0:Int)).getD (n/8) 0=0
    rw[List.getD_eq_getElem?_getD,List.getElem?_replicate]
    split<;>rfl
   unfold bt
   rw[e]
   simp
 |i+1,hi=>by
  have :=Aa1 hf (i:=i) Ac (Aa2 hf i Ac) 12 (Nat.le_refl _)
  rw[show(i+1)*12=i*12+12 by omega]
  exact this
theorem pE {f:Nat→Int} (hf:∀i,i<256→0≤f i):By (Cf f)∧∀n,n<3072→bt (Cf f) n=(xr f (n/12)).testBit (n%12):=by
 rw[K3]
 obtain⟨h1,_,h3⟩:=Aa2 hf 256 (Nat.le_refl _)
 exact⟨h1,fun n hn=>by
  have :=h3 n
  rw[decide_eq_true hn,Bool.true_and]at this
  exact this⟩
theorem Aav (xs:List Int) (i:Nat) (g:Nat→Int):∀k j,Dj xs i g k j=if j=i then Ya xs (i*12) k (g i)else g j
 |0,j=>by
  show g j=_
  by_cases h:j=i
  ·rw[if_pos h,h];rfl
  ·rw[if_neg h]
 |k+1,j=>by
  have ih:=Aav xs i g k
  show upd (Dj xs i g k) i _ j=_
  unfold upd
  by_cases h:j=i
  ·rw[if_pos h,if_pos h]
   show C7 .u16 (Dj xs i g k i) _=C7 .u16 (Ya xs (i*12) k (g i)) _
   rw[ih i,if_pos rfl]
  ·rw[if_neg h,if_neg h,ih j,if_neg h]
theorem Aaw (xs:List Int):∀n j,EB xs n j=if j<n then Ya xs (j*12) 12 0 else 0
 |0,j=>by rw[if_neg (Nat.not_lt_zero j)];rfl
 |n+1,j=>by
  have ih:=Aaw xs n
  show Dj xs n (EB xs n) 12 j=_
  rw[Aav]
  by_cases h:j=n
  ·rw[if_pos h,h,ih n,if_neg (Nat.lt_irrefl _),if_pos (Nat.lt_succ_self _)]
  ·rw[if_neg h,ih j]
   by_cases h2:j<n
   ·rw[if_pos h2,if_pos Ac]
   ·rw[if_neg h2,if_neg Ac]
theorem Abi {f:Nat→Int} (hf:∀i,i<256→0≤f i) {xs:List Int} (hx:By xs) (h:∀n,n<384→xs.getD n 0=(Cf f).getD n 0) {j:Nat} (hj:j<256):DN xs j=(xr f j:Nat):=by
 have hb:∀n,n<3072→bt xs n=(xr f (n/12)).testBit (n%12):=fun n hn=>by
  rw[←(pE hf).2 n hn]
  unfold bt
  rw[h (n/8) Ac]
 rw[O5]
 show EB xs 256 j=_
 rw[Aaw,if_pos hj]
 obtain⟨h1,h2⟩:=lL hx (j*12) 12 Ac
 have hlt:xr f j<2^12:=by have :=Zo (hf j hj);unfold xr;omega
 have e:(Ya xs (j*12) 12 0).toNat=xr f j:=by
  refine Nat.eq_of_testBit_eq fun i=> ?_
  rw[h2]
  by_cases hi:i<12
  ·rw[decide_eq_true hi,Bool.true_and,hb _ Ac,show(j*12+i)/12=j by omega,show(j*12+i)%12=i by omega]
  ·rw[decide_eq_false hi,Bool.false_and]
   exact(Nat.testBit_lt_two_pow (Nat.lt_of_lt_of_le hlt (Nat.pow_le_pow_right (by decide) Ac))).symm
 omega
theorem kM (xs:List Int) {i j:Nat} (hi:i<3) (hj:j<256):AP xs (i*256+j)=DN (xs.drop (384*i)) j:=by
 have key:∀n,i<n→IL xs n (i*256+j)=DN (xs.drop (384*i)) j:=by
  intro n
  induction n with
  |zero=>exact fun h=>absurd h (Nat.not_lt_zero _)
  |succ n ih=>
   intro h
   show Dg (IL xs n) (n*256) 256 (DN (xs.drop (384*n))) (i*256+j)=_
   unfold Dg
   by_cases e:i=n
   ·subst e
    rw[show Nat.ble (i*256) (i*256+j)=true by rw[Nat.ble_eq];omega,show Nat.blt (i*256+j) (i*256+256)=true by rw[Nat.blt_eq];omega]
    simp only[Bool.and_self,cond_true]
    rw[show i*256+j-i*256=j by omega]
   ·have : Nat.ble (n * 256) (i * 256 + j) = false := by
     cases hb:Nat.ble (n*256) (i*256+j)with
     |false=>rfl
     |true=>rw[Nat.ble_eq]at hb;omega
    rw[this,Bool.false_and,cond_false]
    exact ih Ac
 rw[ZJ]
 exact key 3 hi
theorem dO (f:Nat→Int) {i n:Nat} (hi:i<3) (hn:n<384):(Cr f).getD (384*i+n) 0=(Cf fun j=>f (i*256+j)).getD n 0:=by
 have key:∀m,(CK f m).length=384*m∧(i<m→(CK f m).getD (384*i+n) 0=(Cf fun j=>f (i*256+j)).getD n 0):=by
  intro m
  induction m with
  |zero=>exact⟨rfl,fun h=>absurd h (Nat.not_lt_zero _)⟩
  |succ m ih=>
   have e:CK f (m+1)=CK f m++Cf (fun j=>f (m*256+j)):=rfl
   rw[e]
   refine⟨by rw[List.length_append,ih.1,F3];omega,fun h=> ?_⟩
   rw[List.getD_eq_getElem?_getD]
   by_cases e2:i=m
   ·subst e2
    rw[List.getElem?_append_right (by rw[ih.1];omega),ih.1,←List.getD_eq_getElem?_getD,show 384*i+n-384*i=n by omega]
   ·rw[List.getElem?_append_left (by rw[ih.1];omega),←List.getD_eq_getElem?_getD]
    exact ih.2 Ac
 rw[LN]
 exact(key 3).2 hi
theorem dN {f:Nat→Int} (hf:∀i,i<768→0≤f i):By (Cr f):=by
 have key:∀m,m≤3→By (CK f m):=by
  intro m
  induction m with
  |zero=>exact fun _ x hx=>by cases hx
  |succ m ih=>
   intro hm x hx
   have e:CK f (m+1)=CK f m++Cf (fun j=>f (m*256+j)):=rfl
   rw[e]at hx
   rcases List.mem_append.1 hx with h|h
   ·exact ih Ac x h
   ·exact(pE fun i hi=>hf _ Ac).1 x h
 rw[LN]
 exact key 3 (Nat.le_refl _)
theorem uV {f:Nat→Int} (hf:∀i,i<768→0≤f i) {rest:List Int} (hr:By rest):TH (Cr f++rest)=true:=by
 refine IM fun i hi=>aF fun j hj=> ?_
 rw[kM _ hi hj]
 have hf2:∀j,j<256→0≤f (i*256+j):=fun j hj=>hf _ Ac
 rw[Abi (f:=fun j=>f (i*256+j)) hf2 (fun x hx=> ?_) (fun n hn=> ?_) hj]
 ·have :=(Zo (hf2 j hj)).2
  unfold xr
  have :=(Zo (hf2 j hj)).1
  simp only
  omega
 ·rcases List.mem_append.1 (List.mem_of_mem_drop hx)with h|h
  ·exact dN hf x h
  ·exact hr x h
 ·rw[List.getD_eq_getElem?_getD,List.getElem?_drop,List.getElem?_append_left (by rw[Gk];omega),←List.getD_eq_getElem?_getD]
  exact dO f hi hn
theorem AbY (x:Int):0≤Dc x:=by
 rw[AaM];show 0≤IntKind.wrap .u16 _;rw[E5];omega
theorem AdE (f g:Nat→Int) {j:Nat} (hj:j<256):0≤Ba f g j:=by
 have key:∀n,j<n→0≤Re f g n j:=by
  intro n
  induction n with
  |zero=>exact fun h=>absurd h (Nat.not_lt_zero _)
  |succ n ih=>
   intro h
   show 0≤upd (Re f g n) n (Dc _) j
   unfold upd
   split
   ·exact AbY _
   ·exact ih Ac
 rw[Abd]
 exact key 256 hj
theorem wA (d z:List Int) {k:Nat} (hk:k<768):0≤CH d z 3 k:=by
 have key:∀n,k/256<n→0≤CH d z n k:=by
  intro n
  induction n with
  |zero=>exact fun h=>absurd h (Nat.not_lt_zero _)
  |succ n ih=>
   intro h
   show 0≤Dg (CH d z n) (n*256) 256 (Ba _ _) k
   unfold Dg
   cases hb:Nat.ble (n*256) k&&Nat.blt k (n*256+256)with
   |true=>
    rw[Bool.and_eq_true,Nat.ble_eq,Nat.blt_eq]at hb
    exact AdE _ _ Ac
   |false=>
    rw[cond_false]
    refine ih ?_
    have h1:k/256≠n:=fun e=>by
     have h2:Nat.ble (n*256) k=true:=by rw[Nat.ble_eq];omega
     have h3:Nat.blt k (n*256+256)=true:=by rw[Nat.blt_eq];omega
     rw[h2,h3]at hb;cases hb
    omega
 exact key 3 Ac
theorem m9 (d z:List Int):chk (AF d z).1=0:=by
 have hl:=DO [d,[3]]
 have e:(AF d z).1=Cr (CH d z 3)++((AA [d,[3]]).take 32++[]):=by rw[Yl];rfl
 rw[e]
 refine Aa6 ?_ (uV (fun i hi=>wA d z hi) fun x hx=> ?_)
 ·rw[List.length_append,List.length_append,Gk,List.length_take,hl];rfl
 ·rw[List.append_nil]at hx
  exact cM _ x (List.mem_of_mem_take hx)
end
end Go.Sx.Tryz
namespace Go.Sx.Tryz
open Go.Mi Go.RowKit Go.Sx Go.Proofs
noncomputable section
def HD (x0:List Int):O:= .ob 188 (chain [lb x0])
section
variable (xs:List Int)
def zZ:Con:=⟨[lb xs],[],lb xs,[]⟩
theorem Dt (h:xs.length≤100000000000000):ConOk Tryz.prog 81 (zZ xs):=by
 refine cy 0 Tryz.func81 rfl Tryz.ntmps81 fun hg0 hS=> ?_
 have A6:xs.length≤9223372036854775807:=hS.len 0 rfl
 refine Ae [] 0 hS fun hS=>JN ?_
 rcases hS.nilor 0 [.int .u8] xs with⟨hn1,hS⟩|hS
 ·subst hn1
  exact Dn [] 0 hS fun hS=>Ab (AQ hS (Ae [] 0 hS fun hS=>AU (Ah (Ci hS))))
 ·refine Dn [] 0 hS fun hS=>Ab (Ai hS (B5 (Ay [(0,Row),(2,Ge 0 xs.length 1)] [] 2 hS fun hS=>AU ?_)))
  obtain⟨gs,hS⟩:=hS.fz 1
  exact Ci hS
def Hg (n:Nat):Bool:=if((xs.length:Nat):Int)<(n:Int)then false else true
def Ck (n:Nat):Bool:=AJ (Hg xs n)
theorem Hh (n:Nat):Ck xs n=Hg xs n:=Af _
def rC (n:Nat):Con:=⟨[.cp 0 0,vi (n:Int)],[(0,HD xs)],lb (xs.take n),[(0,HD (xs.drop n))]⟩
theorem Jw (n:Nat) (h:xs.length≤100000000000000) (hk:Ck xs n=true):ConOk Tryz.prog 91 (rC xs n):=by
 refine cy 1 Tryz.func91 rfl Tryz.ntmps91 fun hg0 hS=>Ae [] 1 hS fun hS=>Au (Ay [(1,tP false [(decide ((n:Int)<0))=false] ⟨decide_eq_false Ac,trivial⟩)] [] 1 hS fun hS=>AB (((xs.length:Nat):Int)<(n:Int)) hS (fun h1=> ?_) (fun h1=> ?_))
 ·have hK:Ck xs n=false:=(Hh xs n).trans (if_pos h1)
  rw[hK]at hk
  cases hk
 ·exact EK (Ae [] 1 hS fun hS=>Ai hS (B5 (Ay [(5,g9 n xs.length),(6,AR (Dt (xs.take n) AD))] [] 1 hS fun hS=>Ay [(6,ON n xs.length)] [] 1 hS fun hS=>Ae [] 1 hS fun hS=>AU (Ci hS))))
def K8 (n:Nat):Con:=⟨[.cp 0 0,vi (n:Int)],[(0,HD xs)],.v (.iface 44 (.int .i64 2)),[]⟩
theorem NE (n:Nat) (h:xs.length≤100000000000000) (hk:Ck xs n=false):GU Tryz.prog 91 (K8 xs n):=by
 refine Fi rfl (nb:=1) Tryz.func91 rfl rfl Tryz.ntmps91 rfl rfl rfl fun g0 w0 ac gs ws hg0 hS=> ?_
 have hS:=hS.sp
 refine Ae [] 1 hS fun hS=>Au (Ay [(1,tP false [(decide ((n:Int)<0))=false] ⟨decide_eq_false Ac,trivial⟩)] [] 1 hS fun hS=>AB (((xs.length:Nat):Int)<(n:Int)) hS (fun h1=> ?_) (fun h1=> ?_))
 ·exact DR (E:=E0) mo hZ [] trivial none (fun r hr=>by cases hr) 1 0 (fun _=>[]) (.v (.iface 44 (.int .i64 2))) (by kernel_rfl) trivial hS.st fun ac gs ws pv hS hpv=>AM (I5 rfl hS hpv rfl rfl)
 ·refine EK (Ae [] 1 hS fun hS=>Ai hS (B5 (Ay [(5,g9 n xs.length),(6,AR (Dt (xs.take n) AD))] [] 1 hS fun hS=>Ay [(6,ON n xs.length)] [] 1 hS fun hS=>Ae [] 1 hS fun hS=>AU ?_)))
  have hK:Ck xs n=true:=(Hh xs n).trans (if_neg h1)
  rw[hK]at hk
  cases hk
end
theorem VS {xs:List Int} {n:Nat} (h:Ck xs n=true):n≤xs.length:=by
 rw[Hh]at h
 unfold Hg at h
 by_cases h2:((xs.length:Nat):Int)<(n:Int)
 ·simp only[h2,if_true]at h
  cases h
 ·omega
theorem Hf {xs:List Int} {n:Nat} (h:¬Ck xs n=true):xs.length<n:=by
 rw[Hh]at h
 unfold Hg at h
 by_cases h2:((xs.length:Nat):Int)<(n:Int)
 ·omega
 ·exact absurd (by first |(rw[if_neg Ac,if_neg h2])|rw[if_neg h2]) h
end
end Go.Sx.Tryz
namespace Go.Sx.Tryz
open Go.Mi Go.RowKit Go.Sx Go.Proofs
noncomputable section
def Qb:Nat→Nat→Int→List Int→Option (Int×List Int)
 |0,_,_,_=>none
 |_+1,_,_,[]=>none
 |k+1,n,v,c::r=>if(128:Int)≤c then Qb k (n+1) (C7 .u64 v (Bd .u64 (IntKind.wrap .u64 (D9 .u8 c 128)) ((7*n:Nat):Int))) r
  else if n=9∧(1:Int)<c then none else if 0<n∧c=0 then none else some (C7 .u64 v (Bd .u64 (IntKind.wrap .u64 (D9 .u8 c 128)) ((7*n:Nat):Int)),r)
section
variable (xs:List Int)
def Ir:Option (Int×List Int):=Qb 10 0 0 xs
def FN:Bool:=(Ir xs).isSome
def Ad:Int×List Int:=(Ir xs).getD (0,[])
end
theorem IT (k n:Nat) (v:Int) {xs:List Int} (h:xs.length<1):Qb k n v xs=none:=by
 have :xs=[]:=List.eq_nil_of_length_eq_zero Ac
 subst this
 cases k<;>rfl
theorem CJ {i : Nat} (hi : i < 10) (v : Int) {xs : List Int} (h : 1 ≤ xs.length) : Qb (10 - i) i v xs = (if (128 : Int) ≤ (xs.take 1).getD 0 0 then Qb (10 - (i + 1)) (i + 1) (C7 .u64 v (Bd .u64 (IntKind.wrap .u64 (D9 .u8 ((xs.take 1).getD 0 0) 128)) ((7 * i : Nat) : Int))) (xs.drop 1)
  else if i=9∧(1:Int)<(xs.take 1).getD 0 0 then none else if 0<i∧(xs.take 1).getD 0 0=0 then none else some (C7 .u64 v (Bd .u64 (IntKind.wrap .u64 (D9 .u8 ((xs.take 1).getD 0 0) 128)) ((7*i:Nat):Int)),xs.drop 1)):=by
 obtain⟨k,hk⟩:∃k,10-i=k+1:=⟨9-i,by omega⟩
 rw[hk,show 10-(i+1)=k by omega]
 match xs,h with
 |c::r,_=>rfl
theorem P_ {xs:List Int} (h:Ir xs=none):FN xs=false:=by unfold FN;rw[h];rfl
theorem IS {xs:List Int} {z:Int×List Int} (h:Ir xs=some z):FN xs=true:=by unfold FN;rw[h];rfl
theorem ED {xs:List Int} {z:Int×List Int} (h:Ir xs=some z):Ad xs=z:=by unfold Ad;rw[h];rfl
section
variable (xs:List Int)
def Ae8:Con:=⟨[.cp 0 0],[(0,HD xs)],.v (.int .u64 ((Ad xs).1)),[(0,HD ((Ad xs).2))]⟩
theorem HX (h:xs.length≤100000000000000) (hk:FN xs=true):ConOk Tryz.prog 126 (Ae8 xs):=by
 refine cy 1 Tryz.func126 rfl Tryz.ntmps126 fun hg0 hS=>Ae [] 1 hS fun hS=>Au (Ae [] 1 hS fun hS=>Br (Ar (ι:=Nat×Int×(List Int)) hg0 hS (fun(i,v,ys)=>(10-i,[(2,.v (.int .u64 v)),(5,vi ((i:Nat):Int))],[(0,HD ys)],(i≤10)∧(ys.length≤100000000000000)∧(Qb (10-i) i v ys=Ir xs)∧True)) [0] [] 1 (0,0,xs) [(0,0)] ⟨Ac,h,rfl,trivial⟩ ?_))
 rintro⟨i,v,ys⟩ ac gs ws ⟨hi,hly,hq,_⟩ hS
 refine Ae [] 1 hS fun hS=>Au (AB ((i:Int)<10) hS (fun h1=> ?_) (fun h1=> ?_))
 ·refine BG (Ae [] 1 hS fun hS=>Au ?_)
  skip
  skip
  by_cases h2:Ck ys 1=true
  ·have hl1:=VS h2
   have hl2:(ys.take 1).length=1:=by rw[List.length_take];omega
   refine Av [(1,AO (Jw ys 1 AD h2) [(0,0)] []),(2,AG 0 ((ys.take 1).length))] [] 1 hS fun hS=>Ab (Ay [(5,GE 7 i (7*i)),(6,EL (7*i))] [2] 1 hS fun hS=>Au (Br (Ae [] 1 hS fun hS=>AB ((128:Int)≤((ys.take 1).getD 0 0)) hS (fun h3=> ?_) (fun h3=> ?_))))
   ·exact cnc (Kh (by decide) (DZ (Fp (Ab (Av [(0,BQ i)] [5] 1 hS fun hS=>Ab (Am hg0 hS (i+1,(C7 .u64 v (Bd .u64 (IntKind.wrap .u64 (D9 .u8 ((ys.take 1).getD 0 0) 128)) ((7*i:Nat):Int))),(ys.drop 1)) [(0,0)] ⟨Ac,(by rw[List.length_drop];omega),(hq▸((CJ Ac v Ac).trans (if_pos BC)).symm),trivial⟩))))))
   ·refine JN ?_
    by_cases h4:(i:Int)=9
    ·refine Av [(1,Iw h4)] [] 1 hS fun hS=>Ab (AB ((1:Int)<((ys.take 1).getD 0 0)) hS (fun h5=> ?_) (fun h5=> ?_))
     ·refine B5 (AB ((1:Int)<((ys.take 1).getD 0 0)) hS (fun h6=> ?_) (fun h6=> ?_))
      ·have e:Ir xs=none:=hq.symm.trans (by first |exact IT _ _ _ (Hf BC)|exact rfl|exact(CJ Ac v Ac).trans ((if_neg Ac).trans (if_pos Ac))|exact(CJ Ac v Ac).trans ((if_neg Ac).trans ((if_neg Ac).trans (if_pos Ac))))
       rw[P_ e]at hk
       cases hk
      ·refine Iu (Ae [2] 1 hS fun hS=>AU (AC (Ah (Ah (AC (Ah ?_))))))
       have e:=hq.symm.trans ((CJ Ac v Ac).trans ((if_neg Ac).trans ((if_neg Ac).trans (if_neg Ac))))
       have hv:=ED e
       exact CW rfl (.inr rfl) hS [.v (.int .u64 (C7 .u64 v (Bd .u64 (IntKind.wrap .u64 (D9 .u8 ((ys.take 1).getD 0 0) 128)) ((7*i:Nat):Int))))] [(0,some (HD (ys.drop 1)))] (by show weak _ (.v (.int .u64 (Ad xs).1))= .v (.int .u64 (Ad xs).1);rw[hv];rfl) (by show DK _ [(0,.ob 188 (chain [lb (Ad xs).2]))] true;rw[hv];exact⟨rfl,trivial⟩)
     ·by_cases h7:(0:Int)<(i:Int)
      ·refine Av [(1,Iw h7)] [] 1 hS fun hS=>Ab (AB (((ys.take 1).getD 0 0)=0) hS (fun h8=> ?_) (fun h8=> ?_))
       ·have e:Ir xs=none:=hq.symm.trans (by first |exact IT _ _ _ (Hf BC)|exact rfl|exact(CJ Ac v Ac).trans ((if_neg Ac).trans (if_pos Ac))|exact(CJ Ac v Ac).trans ((if_neg Ac).trans ((if_neg Ac).trans (if_pos Ac))))
        rw[P_ e]at hk
        cases hk
       ·refine Iu (Ae [2] 1 hS fun hS=>AU (AC (Ah (Ah (AC (Ah ?_))))))
        have e:=hq.symm.trans ((CJ Ac v Ac).trans ((if_neg Ac).trans ((if_neg Ac).trans (if_neg Ac))))
        have hv:=ED e
        exact CW rfl (.inr rfl) hS [.v (.int .u64 (C7 .u64 v (Bd .u64 (IntKind.wrap .u64 (D9 .u8 ((ys.take 1).getD 0 0) 128)) ((7*i:Nat):Int))))] [(0,some (HD (ys.drop 1)))] (by show weak _ (.v (.int .u64 (Ad xs).1))= .v (.int .u64 (Ad xs).1);rw[hv];rfl) (by show DK _ [(0,.ob 188 (chain [lb (Ad xs).2]))] true;rw[hv];exact⟨rfl,trivial⟩)
      ·refine Av [(1,Ez h7)] [] 1 hS fun hS=>Ab (Ai hS (Iu (Ae [2] 1 hS fun hS=>AU (AC (Ah (Ah (AC (Ah ?_))))))))
       have e:=hq.symm.trans ((CJ Ac v Ac).trans ((if_neg Ac).trans ((if_neg Ac).trans (if_neg Ac))))
       have hv:=ED e
       exact CW rfl (.inr rfl) hS [.v (.int .u64 (C7 .u64 v (Bd .u64 (IntKind.wrap .u64 (D9 .u8 ((ys.take 1).getD 0 0) 128)) ((7*i:Nat):Int))))] [(0,some (HD (ys.drop 1)))] (by show weak _ (.v (.int .u64 (Ad xs).1))= .v (.int .u64 (Ad xs).1);rw[hv];rfl) (by show DK _ [(0,.ob 188 (chain [lb (Ad xs).2]))] true;rw[hv];exact⟨rfl,trivial⟩)
    ·refine Av [(1,Ez h4)] [] 1 hS fun hS=>Ab (Ai hS ?_)
     by_cases h9:(0:Int)<(i:Int)
     ·refine Av [(1,Iw h9)] [] 1 hS fun hS=>Ab (AB (((ys.take 1).getD 0 0)=0) hS (fun h10=> ?_) (fun h10=> ?_))
      ·have e:Ir xs=none:=hq.symm.trans (by first |exact IT _ _ _ (Hf BC)|exact rfl|exact(CJ Ac v Ac).trans ((if_neg Ac).trans (if_pos Ac))|exact(CJ Ac v Ac).trans ((if_neg Ac).trans ((if_neg Ac).trans (if_pos Ac))))
       rw[P_ e]at hk
       cases hk
      ·refine Iu (Ae [2] 1 hS fun hS=>AU (AC (Ah (Ah (AC (Ah ?_))))))
       have e:=hq.symm.trans ((CJ Ac v Ac).trans ((if_neg Ac).trans ((if_neg Ac).trans (if_neg Ac))))
       have hv:=ED e
       exact CW rfl (.inr rfl) hS [.v (.int .u64 (C7 .u64 v (Bd .u64 (IntKind.wrap .u64 (D9 .u8 ((ys.take 1).getD 0 0) 128)) ((7*i:Nat):Int))))] [(0,some (HD (ys.drop 1)))] (by show weak _ (.v (.int .u64 (Ad xs).1))= .v (.int .u64 (Ad xs).1);rw[hv];rfl) (by show DK _ [(0,.ob 188 (chain [lb (Ad xs).2]))] true;rw[hv];exact⟨rfl,trivial⟩)
     ·refine Av [(1,Ez h9)] [] 1 hS fun hS=>Ab (Ai hS (Iu (Ae [2] 1 hS fun hS=>AU (AC (Ah (Ah (AC (Ah ?_))))))))
      have e:=hq.symm.trans ((CJ Ac v Ac).trans ((if_neg Ac).trans ((if_neg Ac).trans (if_neg Ac))))
      have hv:=ED e
      exact CW rfl (.inr rfl) hS [.v (.int .u64 (C7 .u64 v (Bd .u64 (IntKind.wrap .u64 (D9 .u8 ((ys.take 1).getD 0 0) 128)) ((7*i:Nat):Int))))] [(0,some (HD (ys.drop 1)))] (by show weak _ (.v (.int .u64 (Ad xs).1))= .v (.int .u64 (Ad xs).1);rw[hv];rfl) (by show DK _ [(0,.ob 188 (chain [lb (Ad xs).2]))] true;rw[hv];exact⟨rfl,trivial⟩)
  ·skip
   skip
   have e:Ir xs=none:=hq.symm.trans (by first |exact IT _ _ _ (Hf BC)|exact rfl|exact(CJ Ac v Ac).trans ((if_neg Ac).trans (if_pos Ac))|exact(CJ Ac v Ac).trans ((if_neg Ac).trans ((if_neg Ac).trans (if_pos Ac))))
   rw[P_ e]at hk
   cases hk
 ·have hT:=hS
  obtain rfl:10=i:=by omega
  have hS:=hT
  refine CX ?_
  have e:Ir xs=none:=hq.symm.trans (by first |exact IT _ _ _ (Hf BC)|exact rfl|exact(CJ Ac v Ac).trans ((if_neg Ac).trans (if_pos Ac))|exact(CJ Ac v Ac).trans ((if_neg Ac).trans ((if_neg Ac).trans (if_pos Ac))))
  rw[P_ e]at hk
  cases hk
def MC:Con:=⟨[.cp 0 0],[(0,HD xs)],.v (.iface 44 (.int .i64 2)),[]⟩
theorem L5 (h:xs.length≤100000000000000) (hk:FN xs=false):GU Tryz.prog 126 (MC xs):=by
 refine Fi rfl (nb:=1) Tryz.func126 rfl rfl Tryz.ntmps126 rfl rfl rfl fun g0 w0 ac gs ws hg0 hS=> ?_
 have hS:=hS.sp
 refine Ae [] 1 hS fun hS=>Au (Ae [] 1 hS fun hS=>Br (Ar (ι:=Nat×Int×(List Int)) hg0 hS (fun(i,v,ys)=>(10-i,[(2,.v (.int .u64 v)),(5,vi ((i:Nat):Int))],[(0,HD ys)],(i≤10)∧(ys.length≤100000000000000)∧(Qb (10-i) i v ys=Ir xs)∧True)) [0] [] 1 (0,0,xs) [(0,0)] ⟨Ac,h,rfl,trivial⟩ ?_))
 rintro⟨i,v,ys⟩ ac gs ws ⟨hi,hly,hq,_⟩ hS
 refine Ae [] 1 hS fun hS=>Au (AB ((i:Int)<10) hS (fun h1=> ?_) (fun h1=> ?_))
 ·refine BG (Ae [] 1 hS fun hS=>Au ?_)
  skip
  skip
  by_cases h2:Ck ys 1=true
  ·have hl1:=VS h2
   have hl2:(ys.take 1).length=1:=by rw[List.length_take];omega
   refine Av [(1,AO (Jw ys 1 AD h2) [(0,0)] []),(2,AG 0 ((ys.take 1).length))] [] 1 hS fun hS=>Ab (Ay [(5,GE 7 i (7*i)),(6,EL (7*i))] [2] 1 hS fun hS=>Au (Br (Ae [] 1 hS fun hS=>AB ((128:Int)≤((ys.take 1).getD 0 0)) hS (fun h3=> ?_) (fun h3=> ?_))))
   ·exact cnc (Kh (by decide) (DZ (Fp (Ab (Av [(0,BQ i)] [5] 1 hS fun hS=>Ab (Am hg0 hS (i+1,(C7 .u64 v (Bd .u64 (IntKind.wrap .u64 (D9 .u8 ((ys.take 1).getD 0 0) 128)) ((7*i:Nat):Int))),(ys.drop 1)) [(0,0)] ⟨Ac,(by rw[List.length_drop];omega),(hq▸((CJ Ac v Ac).trans (if_pos BC)).symm),trivial⟩))))))
   ·refine JN ?_
    by_cases h4:(i:Int)=9
    ·refine Av [(1,Iw h4)] [] 1 hS fun hS=>Ab (AB ((1:Int)<((ys.take 1).getD 0 0)) hS (fun h5=> ?_) (fun h5=> ?_))
     ·refine B5 (AB ((1:Int)<((ys.take 1).getD 0 0)) hS (fun h6=> ?_) (fun h6=> ?_))
      ·exact DR (E:=E0) mo hZ [] trivial none (fun r hr=>by cases hr) 1 0 (fun _=>[]) (.v (.iface 44 (.int .i64 2))) (by kernel_rfl) trivial hS.st fun ac gs ws pv hS hpv=>Bg (AM (Bg (AM (AM (Bg (AM (I5 rfl hS hpv rfl rfl)))))))
      ·refine Iu (Ae [2] 1 hS fun hS=>AU (AC (Ah (Ah (AC (Ah ?_))))))
       have e:=hq.symm.trans ((CJ Ac v Ac).trans ((if_neg Ac).trans ((if_neg Ac).trans (if_neg Ac))))
       rw[IS e]at hk
       cases hk
     ·by_cases h7:(0:Int)<(i:Int)
      ·refine Av [(1,Iw h7)] [] 1 hS fun hS=>Ab (AB (((ys.take 1).getD 0 0)=0) hS (fun h8=> ?_) (fun h8=> ?_))
       ·exact DR (E:=E0) mo hZ [] trivial none (fun r hr=>by cases hr) 1 0 (fun _=>[]) (.v (.iface 44 (.int .i64 2))) (by kernel_rfl) trivial hS.st fun ac gs ws pv hS hpv=>Bg (AM (Bg (AM (AM (Bg (AM (I5 rfl hS hpv rfl rfl)))))))
       ·refine Iu (Ae [2] 1 hS fun hS=>AU (AC (Ah (Ah (AC (Ah ?_))))))
        have e:=hq.symm.trans ((CJ Ac v Ac).trans ((if_neg Ac).trans ((if_neg Ac).trans (if_neg Ac))))
        rw[IS e]at hk
        cases hk
      ·refine Av [(1,Ez h7)] [] 1 hS fun hS=>Ab (Ai hS (Iu (Ae [2] 1 hS fun hS=>AU (AC (Ah (Ah (AC (Ah ?_))))))))
       have e:=hq.symm.trans ((CJ Ac v Ac).trans ((if_neg Ac).trans ((if_neg Ac).trans (if_neg Ac))))
       rw[IS e]at hk
       cases hk
    ·refine Av [(1,Ez h4)] [] 1 hS fun hS=>Ab (Ai hS ?_)
     by_cases h9:(0:Int)<(i:Int)
     ·refine Av [(1,Iw h9)] [] 1 hS fun hS=>Ab (AB (((ys.take 1).getD 0 0)=0) hS (fun h10=> ?_) (fun h10=> ?_))
      ·exact DR (E:=E0) mo hZ [] trivial none (fun r hr=>by cases hr) 1 0 (fun _=>[]) (.v (.iface 44 (.int .i64 2))) (by kernel_rfl) trivial hS.st fun ac gs ws pv hS hpv=>Bg (AM (Bg (AM (AM (Bg (AM (I5 rfl hS hpv rfl rfl)))))))
      ·refine Iu (Ae [2] 1 hS fun hS=>AU (AC (Ah (Ah (AC (Ah ?_))))))
       have e:=hq.symm.trans ((CJ Ac v Ac).trans ((if_neg Ac).trans ((if_neg Ac).trans (if_neg Ac))))
       rw[IS e]at hk
       cases hk
     ·refine Av [(1,Ez h9)] [] 1 hS fun hS=>Ab (Ai hS (Iu (Ae [2] 1 hS fun hS=>AU (AC (Ah (Ah (AC (Ah ?_))))))))
      have e:=hq.symm.trans ((CJ Ac v Ac).trans ((if_neg Ac).trans ((if_neg Ac).trans (if_neg Ac))))
      rw[IS e]at hk
      cases hk
  ·skip
   skip
   exact DR (E:=E0) mo hZ [] trivial (some ⟨91,(K8 ys 1),[(0,0)],[]⟩) (fun r hr=>by cases hr;exact NE ys 1 AD (Em h2)) 1 28 (fun _=>[nd [.cp 0 0,vi 1] [some (HD ys)]]) (.v (.iface 44 (.int .i64 2))) (by kernel_rfl) ⟨rfl,trivial⟩ hS.st fun ac gs ws pv hS hpv=>AM (Bg (AM (AM (Bg (AM (I5 rfl hS hpv rfl rfl))))))
 ·have hT:=hS
  obtain rfl:10=i:=by omega
  have hS:=hT
  exact CX (DR (E:=E0) mo hZ [] trivial none (fun r hr=>by cases hr) 1 0 (fun _=>[]) (.v (.iface 44 (.int .i64 2))) (by kernel_rfl) trivial hS.st fun ac gs ws pv hS hpv=>I5 rfl hS hpv rfl rfl)
end
end
end Go.Sx.Tryz
namespace Go.Sx.Tryz
open Go.Mi Go.RowKit Go.Sx Go.Proofs
noncomputable section
theorem nF (p q:Int):0≤C7 .u64 p q:=(nE p q).1
theorem Z_:∀(k n:Nat) (v:Int) (xs:List Int) (z:Int×List Int),Qb k n v xs=some z→0≤z.1∧z.2.length≤xs.length
 |0,_,_,_,_,h=>by cases h
 |_+1,_,_,[],_,h=>by cases h
 |k+1,n,v,c::r,z,h=>by
  unfold Qb at h
  split at h
  ·have :=Z_ k (n+1) _ r z h
   exact⟨this.1,by simp only[List.length_cons];omega⟩
  ·split at h
   ·cases h
   ·split at h
    ·cases h
    ·cases h
     exact⟨nF _ _,by simp⟩
section
variable (xs:List Int)
theorem AW:0≤(Ad xs).1∧(Ad xs).2.length≤xs.length:=by
 unfold Ad
 cases h:Ir xs with
 |none=>exact⟨by simp,by simp⟩
 |some z=>exact Z_ _ _ _ _ z h
def IF (m:Nat):Bool:=if FN xs=true then(if(m:Int)<((Ad xs).1)then false else true)else false
def Eo (m:Nat):Bool:=AJ (IF xs m)
theorem G_ (m:Nat):Eo xs m=IF xs m:=Af _
def Ks (m:Nat):Nat:=if FN xs=true then 11 else 2
def Du (m:Nat):Nat:=AJ (Ks xs m)
theorem Ku (m:Nat):Du xs m=Ks xs m:=Af _
def bO (m:Nat):Con:=⟨[.cp 0 0,vi (m:Int)],[(0,HD xs)],vi (((((Ad xs).1).toNat):Nat):Int),[(0,HD ((Ad xs).2))]⟩
theorem Po (m:Nat) (h:xs.length≤100000000000000) (hm:m≤100000000000000) (hk:Eo xs m=true):ConOk Tryz.prog 139 (bO xs m):=by
 refine cy 1 Tryz.func139 rfl Tryz.ntmps139 fun hg0 hS=>Ae [] 1 hS fun hS=>Au (Ay [(1,tP false [(decide ((m:Int)<0))=false] ⟨decide_eq_false Ac,trivial⟩)] [] 1 hS fun hS=>Ai hS (EK ?_))
 by_cases h1:FN xs=true
 ·refine Av [(1,AO (HX xs AD h1) [(0,0)] [])] [] 1 hS fun hS=>Ej (Ay [(2,Xx m)] [] 1 hS fun hS=>AB ((m:Int)<((Ad xs).1)) hS (fun h2=> ?_) (fun h2=> ?_))
  ·have hK:Eo xs m=false:=(G_ xs m).trans ((if_pos h1).trans (if_pos h2))
   rw[hK]at hk
   cases hk
  ·refine EK ?_
   have hnn:=AW xs
   exact Av [(1,Rn ((((Ad xs).1).toNat:Nat):Int) [IntKind.wrap .i64 ((Ad xs).1)=((((Ad xs).1).toNat:Nat):Int)] ⟨(Ed Ac Ac).trans Ac,trivial⟩)] [] 1 hS fun hS=>D6 (Ci hS)
 ·have hK:Eo xs m=false:=(G_ xs m).trans (if_neg h1)
  rw[hK]at hk
  cases hk
def Ta (m:Nat):Con:=⟨[.cp 0 0,vi (m:Int)],[(0,HD xs)],.v (.iface 44 (.int .i64 ((Du xs m:Nat):Int))),[]⟩
theorem XW (m:Nat) (h:xs.length≤100000000000000) (hm:m≤100000000000000) (hk:Eo xs m=false):GU Tryz.prog 139 (Ta xs m):=by
 refine Fi rfl (nb:=1) Tryz.func139 rfl rfl Tryz.ntmps139 rfl rfl rfl fun g0 w0 ac gs ws hg0 hS=> ?_
 have hS:=hS.sp
 refine Ae [] 1 hS fun hS=>Au (Ay [(1,tP false [(decide ((m:Int)<0))=false] ⟨decide_eq_false Ac,trivial⟩)] [] 1 hS fun hS=>Ai hS (EK ?_))
 by_cases h1:FN xs=true
 ·refine Av [(1,AO (HX xs AD h1) [(0,0)] [])] [] 1 hS fun hS=>Ej (Ay [(2,Xx m)] [] 1 hS fun hS=>AB ((m:Int)<((Ad xs).1)) hS (fun h2=> ?_) (fun h2=> ?_))
  ·refine DR (E:=E0) mo hZ [] trivial none (fun r hr=>by cases hr) 1 0 (fun _=>[]) (.v (.iface 44 (.int .i64 11))) (by kernel_rfl) trivial hS.st fun ac gs ws pv hS hpv=>AM ?_
   have hM:Du xs m=11:=(Ku xs m).trans (if_pos h1)
   exact I5 rfl hS hpv (by show _=(.v (.iface 44 (.int .i64 ((Du xs m:Nat):Int))):D);rw[hM]<;>rfl) rfl
  ·refine EK ?_
   have hnn:=AW xs
   refine Av [(1,Rn ((((Ad xs).1).toNat:Nat):Int) [IntKind.wrap .i64 ((Ad xs).1)=((((Ad xs).1).toNat:Nat):Int)] ⟨(Ed Ac Ac).trans Ac,trivial⟩)] [] 1 hS fun hS=>D6 ?_
   have hK:Eo xs m=true:=(G_ xs m).trans ((if_pos h1).trans (if_neg h2))
   rw[hK]at hk
   cases hk
 ·refine DR (E:=E0) mo hZ [] trivial (some ⟨126,(MC xs),[(0,0)],[]⟩) (fun r hr=>by cases hr;exact L5 xs AD (Em h1)) 1 4 (fun _=>[nd [.cp 0 0] [some (HD xs)]]) (.v (.iface 44 (.int .i64 2))) (by kernel_rfl) ⟨rfl,trivial⟩ hS.st fun ac gs ws pv hS hpv=>AM ?_
  have hM:Du xs m=2:=(Ku xs m).trans (if_neg h1)
  exact I5 rfl hS hpv (by show _=(.v (.iface 44 (.int .i64 ((Du xs m:Nat):Int))):D);rw[hM]<;>rfl) rfl
def TL:Bool:=if(0:Int)<((xs.length:Nat):Int)then false else true
def E8:Bool:=AJ (TL xs)
theorem Oh:E8 xs=TL xs:=Af _
def AcY:Con:=Cq [.cp 0 0] [(0,HD xs)] (.tu (chain []))
theorem Og (hk:E8 xs=true):ConOk Tryz.prog 90 (AcY xs):=by
 refine cy 1 Tryz.func90 rfl Tryz.ntmps90 fun hg0 hS=>Ae [] 1 hS fun hS=>AB ((0:Int)<((xs.length:Nat):Int)) hS (fun h1=> ?_) (fun h1=> ?_)
 ·have hK:E8 xs=false:=(Oh xs).trans (if_pos h1)
  rw[hK]at hk
  cases hk
 ·exact cnb (fiN hS)
def Xl:Con:=⟨[.cp 0 0],[(0,HD xs)],.v (.iface 44 (.int .i64 2)),[]⟩
theorem dH (hk:E8 xs=false):GU Tryz.prog 90 (Xl xs):=by
 refine Fi rfl (nb:=1) Tryz.func90 rfl rfl Tryz.ntmps90 rfl rfl rfl fun g0 w0 ac gs ws hg0 hS=> ?_
 have hS:=hS.sp
 refine Ae [] 1 hS fun hS=>AB ((0:Int)<((xs.length:Nat):Int)) hS (fun h1=> ?_) (fun h1=> ?_)
 ·exact DR (E:=E0) mo hZ [] trivial none (fun r hr=>by cases hr) 1 0 (fun _=>[]) (.v (.iface 44 (.int .i64 2))) (by kernel_rfl) trivial hS.st fun ac gs ws pv hS hpv=>I5 rfl hS hpv rfl rfl
 ·refine cnb ?_
  have hK:E8 xs=true:=(Oh xs).trans (if_neg h1)
  rw[hK]at hk
  cases hk
def zI:Con:=⟨[lb xs],[],.cp 0 0,[(0,HD xs)]⟩
theorem L6 (h:xs.length≤100000000000000):ConOk Tryz.prog 89 (zI xs):=by
 refine cy 0 Tryz.func89 rfl Tryz.ntmps89 fun hg0 hS=> ?_
 have A6:xs.length≤9223372036854775807:=hS.len 0 rfl
 exact Ae [] 0 hS fun hS=>Ay [(1,AR (Dt xs AD))] [] 1 hS fun hS=>AU (Ci hS)
end
end
end Go.Sx.Tryz
namespace Go.Sx.Tryz
open Go.Mi Go.RowKit Go.Sx Go.Proofs
noncomputable section
section
variable (xs:List Int) (m:Nat)
def Gm:Bool:=if Eo xs m=true then(if Ck ((Ad xs).2) (((Ad xs).1).toNat)=true then true else false)else false
def Be:Bool:=AJ (Gm xs m)
theorem E9:Be xs m=Gm xs m:=Af _
def HR:Nat:=if Eo xs m=true then 2 else(Du xs m)
def BS:Nat:=AJ (HR xs m)
theorem HT:BS xs m=HR xs m:=Af _
def fR:Con:=⟨[.cp 0 0,vi (m:Int)],[(0,HD xs)],lb (((Ad xs).2).take (((Ad xs).1).toNat)),[(0,HD (((Ad xs).2).drop (((Ad xs).1).toNat)))]⟩
theorem Gl (h:xs.length≤100000000000000) (hm:m≤100000000000000) (hk:Be xs m=true):ConOk Tryz.prog 102 (fR xs m):=by
 refine cy 1 Tryz.func102 rfl Tryz.ntmps102 fun hg0 hS=>Ae [] 1 hS fun hS=>Au ?_
 have hnn:=AW xs
 by_cases h1:Eo xs m=true
 ·have hnn:=AW xs
  by_cases h2:Ck ((Ad xs).2) (((Ad xs).1).toNat)=true
  ·have hnn:=AW xs
   exact Av [(3,AO (Po xs m AD Ac h1) [(0,0)] []),(4,AO (Jw ((Ad xs).2) (((Ad xs).1).toNat) AD h2) [(0,0)] [])] [] 1 hS fun hS=>D6 (Ci hS)
  ·have hnn:=AW xs
   have hK:Be xs m=false:=(E9 xs m).trans ((if_pos h1).trans (if_neg h2))
   rw[hK]at hk
   cases hk
 ·have hnn:=AW xs
  have hK:Be xs m=false:=(E9 xs m).trans (if_neg h1)
  rw[hK]at hk
  cases hk
def NU:Con:=⟨[.cp 0 0,vi (m:Int)],[(0,HD xs)],.v (.iface 44 (.int .i64 ((BS xs m:Nat):Int))),[]⟩
theorem TS (h:xs.length≤100000000000000) (hm:m≤100000000000000) (hk:Be xs m=false):GU Tryz.prog 102 (NU xs m):=by
 refine Fi rfl (nb:=1) Tryz.func102 rfl rfl Tryz.ntmps102 rfl rfl rfl fun g0 w0 ac gs ws hg0 hS=> ?_
 have hS:=hS.sp
 refine Ae [] 1 hS fun hS=>Au ?_
 have hnn:=AW xs
 by_cases h1:Eo xs m=true
 ·have hnn:=AW xs
  by_cases h2:Ck ((Ad xs).2) (((Ad xs).1).toNat)=true
  ·have hnn:=AW xs
   refine Av [(3,AO (Po xs m AD Ac h1) [(0,0)] []),(4,AO (Jw ((Ad xs).2) (((Ad xs).1).toNat) AD h2) [(0,0)] [])] [] 1 hS fun hS=>D6 ?_
   have hK:Be xs m=true:=(E9 xs m).trans ((if_pos h1).trans (if_pos h2))
   rw[hK]at hk
   cases hk
  ·have hnn:=AW xs
   refine DR (E:=E0) mo hZ [(3,.call ⟨139,(bO xs m),[(0,0)],[]⟩)] ⟨Po _ _ AD Ac h1,trivial⟩ (some ⟨91,(K8 ((Ad xs).2) (((Ad xs).1).toNat)),[(0,0)],[]⟩) (fun r hr=>by cases hr;exact NE ((Ad xs).2) (((Ad xs).1).toNat) AD (Em h2)) 4 32 (fun C=>[ndC C 3,nd [.cp 0 0,vi (((((Ad xs).1).toNat):Nat):Int)] [some (HD ((Ad xs).2))]]) (.v (.iface 44 (.int .i64 2))) (by kernel_rfl) ⟨rfl,rfl,trivial⟩ hS.st fun ac gs ws pv hS hpv=>AM ?_
   have hM:BS xs m=2:=(HT xs m).trans (if_pos h1)
   exact I5 rfl hS hpv (by show _=(.v (.iface 44 (.int .i64 ((BS xs m:Nat):Int))):D);rw[hM]<;>rfl) rfl
 ·have hnn:=AW xs
  refine DR (E:=E0) mo hZ [] trivial (some ⟨139,(Ta xs m),[(0,0)],[]⟩) (fun r hr=>by cases hr;exact XW xs m AD Ac (Em h1)) 3 48 (fun _=>[nd [.cp 0 0,vi (m:Int)] [some (HD xs)]]) (.v (.iface 44 (.int .i64 ((Du xs m:Nat):Int)))) (by kernel_rfl) ⟨rfl,trivial⟩ hS.st fun ac gs ws pv hS hpv=>AM ?_
  have hM:BS xs m=(Du xs m):=(HT xs m).trans (if_neg h1)
  exact I5 rfl hS hpv (by show _=(.v (.iface 44 (.int .i64 ((BS xs m:Nat):Int))):D);rw[hM]<;>rfl) rfl
end
end
end Go.Sx.Tryz
namespace Go.Sx.Tryz
open Go.Mi Go.RowKit Go.Sx Go.Proofs
noncomputable section
def cA (x0:Nat):O:= .ob 97 (chain [.sk x0])
def Ob8:O:= .ob 97 (chain [.v (.slice none 0 0)])
section
variable (b xs:List Int)
def qH:Con:=⟨[.cp 0 0,lb xs],[(0,cA 1),(1,.sl 5 [.int .u8] b)],.cp 0 0,[(0,cA 2),(2,.sl 5 [.int .u8] (b++xs))]⟩
theorem F4 (hb:b.length≤100000000000) (hx:xs.length≤10000000000):ConOk Tryz.prog 53 (qH b xs):=by
 refine cy 2 Tryz.func53 rfl Tryz.ntmps53 fun hg0 hS=> ?_
 have Bf:xs.length≤9223372036854775807:=hS.len 1 rfl
 have KN:b.length≤9223372036854775807:=hS.lens 1 rfl
 exact Ae [] 2 hS fun hS=>Au (Ae [] 2 hS fun hS=>AQ hS (Av [(6,Ge b.length xs.length 1 Ac)] [] 3 hS fun hS=>Ab (Ae [] 3 hS fun hS=>AU (Ci hS))))
end
def Aj (n:Nat):List Int:=if 128≤n then C7 .u8 (IntKind.wrap .u8 (n:Int)) 128::Aj (n/128)else[IntKind.wrap .u8 (n:Int)]
termination_by n
decreasing_by omega
theorem Nl {n:Nat} (h:128≤n):Aj n=C7 .u8 (IntKind.wrap .u8 (n:Int)) 128::Aj (n/128):=by rw[Aj,if_pos h]
theorem Qa {n:Nat} (h:¬128≤n):Aj n=[IntKind.wrap .u8 (n:Int)]:=by rw[Aj,if_neg h]
theorem Wj:∀(k n:Nat),n<128^(k+1)→(Aj n).length≤k+1
 |0,n,h=>by rw[Qa Ac];simp
 |k+1,n,h=>by
  by_cases h1:128≤n
  ·rw[Nl h1,List.length_cons]
   have :=Wj k (n/128) (by rw[Nat.pow_succ]at h;exact Nat.div_lt_of_lt_mul Ac)
   omega
  ·rw[Qa h1];simp
theorem AH {n:Nat} (h:n<18446744073709551616):(Aj n).length≤10:=Wj 9 n (Nat.lt_trans h (by decide))
theorem AdW {m:Nat}:AY .u64 (m:Int) 7=((m/128:Nat):Int):=by
 unfold AY
 rw[show min (7:Int).toNat (IntKind.bits .u64)=7 from rfl,Qz Ac,Int.toNat_natCast,Nat.shiftRight_eq_div_pow]
section
variable (b:List Int) (n:Nat)
def AcJ:Con:=⟨[.cp 0 0,.v (.int .u64 (n:Int))],[(0,cA 1),(1,.sl 5 [.int .u8] b)],.cp 0 0,[(0,cA 2),(2,.sl 5 [.int .u8] (b++Aj n))]⟩
theorem HG (hb:b.length≤90000000000) (hn:n<18446744073709551616):ConOk Tryz.prog 47 (AcJ b n):=by
 refine cy 2 Tryz.func47 rfl Tryz.ntmps47 fun hg0 hS=> ?_
 have KN:b.length≤9223372036854775807:=hS.lens 1 rfl
 refine Ae [] 2 hS fun hS=>Au (Br ?_)
 obtain⟨gs,hS⟩:=hS.alias 1
 refine Ar (ι:=Nat×(List Int)) hg0 hS (fun(m,o)=>(m,[(1,.v (.int .u64 ((m:Nat):Int)))],[(2,.sl 5 [.int .u8] o)],(m<18446744073709551616)∧(o.length+(Aj m).length=b.length+(Aj n).length)∧(o++Aj m=b++Aj n)∧True)) [0,4] [0] 3 (n,b) [(0,0),(1,1),(2,2)] ⟨hn,rfl,rfl,trivial⟩ ?_
 rintro⟨m,o⟩ ac gs ws ⟨hm,hol,hq,_⟩ hS
 refine Au (Ae [] 3 hS fun hS=>AB ((128:Int)≤(m:Int)) hS (fun h1=> ?_) (fun h1=> ?_))
 ·refine BG ?_
  have h10:=AH hn
  exact Av [(5,AO (F4 o [(C7 .u8 (IntKind.wrap .u8 (m:Int)) 128)] AD AD) [(0,0),(1,2)] [(2,3)])] [] 4 hS fun hS=>BV (Av [(1,Rn ((m/128:Nat):Int) [AY .u64 (m:Int) 7=((m/128:Nat):Int),(0:Int)≤7] ⟨AdW,by omega,trivial⟩)] [1] 4 hS fun hS=>Ab (Am hg0 hS (m/128,(o++[(C7 .u8 (IntKind.wrap .u8 (m:Int)) 128)])) [(0,0),(1,1),(2,3)] ⟨Ac,(by rw[List.length_append,←hol,Nl (n:=m) Ac];simp only[List.length_cons,List.length_nil];omega),(by rw[List.append_assoc,←hq,Nl (n:=m) Ac];rfl),trivial⟩ (show m/128<m from by omega)))
 ·have hT:=hS
  have hS:=hT
  refine MY ?_
  have h10:=AH hn
  have e:o++[IntKind.wrap .u8 (m:Int)]=b++Aj n:=by rw[←hq,Qa Ac]
  refine Av [(4,AO (F4 o [(IntKind.wrap .u8 (m:Int))] AD AD) [(0,0),(1,2)] [(2,3)])] [] 4 hS fun hS=>D6 ?_
  obtain⟨gs,hS⟩:=hS.rx [(0,0),(1,1),(2,3)] [4] [0,2] 3 hg0
  exact CW rfl (.inr rfl) hS [.cp 0 0] [(0,some (cA 2)),(2,some (.sl 5 [.int .u8] (o++[(IntKind.wrap .u8 (m:Int))])))] rfl (by show DK _ [(0,cA 2),(2,.sl 5 [.int .u8] (b++Aj n))] true;rw[←e];exact⟨rfl,rfl,trivial⟩)
end
def xY (n:Nat):Con:=⟨[.cp 0 0,.v (.int .u64 (n:Int))],[(0,Ob8)],.cp 0 0,[(0,cA 1),(1,.sl 5 [.int .u8] ([]++Aj n))]⟩
theorem Lg (n:Nat) (hn:n<18446744073709551616):ConOk Tryz.prog 47 (xY n):=by
 refine cy 1 Tryz.func47 rfl Tryz.ntmps47 fun hg0 hS=>Au ?_
 obtain⟨gs,hS⟩:=hS.nilob 0 0 5 [.int .u8]
 refine Dn [] 2 hS fun hS=>Ej (Br (Ar (ι:=Nat×(List Int)) hg0 hS (fun(m,o)=>(m,[(1,.v (.int .u64 ((m:Nat):Int)))],[(0,cA 2),(2,.sl 5 [.int .u8] o)],(m<18446744073709551616)∧(o.length+(Aj m).length=0+(Aj n).length)∧(o++Aj m=([]:List Int)++Aj n)∧True)) [0,4] [] 3 (n,[]) [(0,0),(2,1)] ⟨hn,(by simp),rfl,trivial⟩ ?_))
 rintro⟨m,o⟩ ac gs ws ⟨hm,hol,hq,_⟩ hS
 refine Au (Ae [] 3 hS fun hS=>AB ((128:Int)≤(m:Int)) hS (fun h1=> ?_) (fun h1=> ?_))
 ·refine BG ?_
  have h10:=AH hn
  exact Av [(5,AO (F4 o [(C7 .u8 (IntKind.wrap .u8 (m:Int)) 128)] AD AD) [(0,0),(1,2)] [(2,3)])] [] 4 hS fun hS=>BV (Av [(1,Rn ((m/128:Nat):Int) [AY .u64 (m:Int) 7=((m/128:Nat):Int),(0:Int)≤7] ⟨AdW,by omega,trivial⟩)] [1] 4 hS fun hS=>Ab (Am hg0 hS (m/128,(o++[(C7 .u8 (IntKind.wrap .u8 (m:Int)) 128)])) [(0,0),(2,3)] ⟨Ac,(by rw[List.length_append,←hol,Nl (n:=m) Ac];simp only[List.length_cons,List.length_nil];omega),(by rw[List.append_assoc,←hq,Nl (n:=m) Ac];rfl),trivial⟩ (show m/128<m from by omega)))
 ·have hT:=hS
  have hS:=hT
  refine MY ?_
  have h10:=AH hn
  have e:o++[IntKind.wrap .u8 (m:Int)]=([]:List Int)++Aj n:=by rw[←hq,Qa Ac]
  refine Av [(4,AO (F4 o [(IntKind.wrap .u8 (m:Int))] AD AD) [(0,0),(1,2)] [(2,3)])] [] 4 hS fun hS=>D6 ?_
  obtain⟨gs,hS⟩:=hS.rx [(0,0),(1,3)] [4] [0,1] 2 hg0
  exact CW rfl (.inr rfl) hS [.cp 0 0] [(0,some (cA 1)),(1,some (.sl 5 [.int .u8] (o++[(IntKind.wrap .u8 (m:Int))])))] rfl (by show DK _ [(0,cA 1),(1,.sl 5 [.int .u8] (([]:List Int)++Aj n))] true;rw[←e];exact⟨rfl,rfl,trivial⟩)
end
end Go.Sx.Tryz
namespace Go.Sx.Tryz
open Go.Mi Go.RowKit Go.Sx Go.Proofs
noncomputable section
section
variable (b xs:List Int)
def qI:Con:=⟨[.cp 0 0,lb xs],[(0,cA 1),(1,.sl 5 [.int .u8] b)],.cp 0 0,[(0,cA 2),(2,.sl 5 [.int .u8] ((b++Aj xs.length)++xs))]⟩
theorem F5 (hb:b.length≤80000000000) (hx:xs.length≤10000000000):ConOk Tryz.prog 48 (qI b xs):=by
 refine cy 2 Tryz.func48 rfl Tryz.ntmps48 fun hg0 hS=> ?_
 have Bf:xs.length≤9223372036854775807:=hS.len 1 rfl
 have KN:b.length≤9223372036854775807:=hS.lens 1 rfl
 refine Ae [] 2 hS fun hS=>Au ?_
 have h10:=AH (n:=xs.length) Ac
 refine Av [(3,Xx xs.length),(4,AO (HG b xs.length AD Ac) [(0,0),(1,1)] [(2,2)]),(6,AO (F4 (b++Aj xs.length) xs AD AD) [(0,0),(1,2)] [(2,3)])] [] 4 hS fun hS=>D6 ?_
 obtain⟨gs,hS⟩:=hS.rx [(0,0),(1,1),(2,3)] [4] [0,2] 3 hg0
 exact Ci hS
end
def fC (xs:List Int):Con:=⟨[.cp 0 0,lb xs],[(0,Ob8)],.cp 0 0,[(0,cA 1),(1,.sl 5 [.int .u8] (([]++Aj xs.length)++xs))]⟩
theorem Kk (xs:List Int) (hx:xs.length≤10000000000):ConOk Tryz.prog 48 (fC xs):=by
 refine cy 1 Tryz.func48 rfl Tryz.ntmps48 fun hg0 hS=> ?_
 have Bf:xs.length≤9223372036854775807:=hS.len 1 rfl
 refine Ae [] 1 hS fun hS=>Au ?_
 have h10:=AH (n:=xs.length) Ac
 refine Av [(3,Xx xs.length),(4,AO (Lg xs.length Ac) [(0,0)] [(1,1)]),(6,AO (F4 ([]++Aj xs.length) xs AD AD) [(0,0),(1,1)] [(2,2)])] [] 3 hS fun hS=>D6 ?_
 obtain⟨gs,hS⟩:=hS.rx [(0,0),(1,2)] [4] [0,1] 2 hg0
 exact Ci hS
def yB (b:List Int):Con:=⟨[.cp 0 0],[(0,cA 1),(1,.sl 5 [.int .u8] b)],lb b,[(0,.ob 97 (chain [lb b]))]⟩
theorem G4 (b:List Int) (hb:b.length≤90000000000000):ConOk Tryz.prog 49 (yB b):=by
 refine cy 2 Tryz.func49 rfl Tryz.ntmps49 fun hg0 hS=> ?_
 have KN:b.length≤9223372036854775807:=hS.lens 1 rfl
 refine Ae [] 2 hS fun hS=>Au (Ae [] 2 hS fun hS=>Ai hS (EK ?_))
 obtain⟨gs,hS⟩:=hS.fz 1
 exact Av [(4,AR (Dt b AD))] [] 2 hS fun hS=>D6 (Ci hS)
end
end Go.Sx.Tryz
namespace Go.Sx.Tryz
open Go.Mi Go.RowKit Go.Sx Go.Proofs
noncomputable section
section
variable (x:Int)
def ZL (k:Int):Int:=(C7 .u32 (Bd .u32 x (A5 .u64 (IntKind.wrap .u64 k) 31)) (AY .u32 x (Eu .u64 32 (A5 .u64 (IntKind.wrap .u64 k) 31))))
def BB (k:Int):Int:=AJ (ZL x k)
theorem uU (k:Int):BB x k=ZL x k:=Af _
def y3 (k:Int) (z_:Int:=BB x k):Con:=⟨[.v (.int .u32 x),vi k],[],.v (.int .u32 z_),[]⟩
theorem Ee (k:Int):ConOk Tryz.prog 191 (y3 x k):=by
 exact cy 0 Tryz.func191 rfl Tryz.ntmps191 fun hg0 hS=>Ae [] 0 hS fun hS=>Ae [] 0 hS fun hS=>Ay [(2,OM ((0:Int)≤(A5 .u64 (IntKind.wrap .u64 k) 31)) (Jo rfl)),(6,OM ((0:Int)≤(Eu .u64 32 (A5 .u64 (IntKind.wrap .u64 k) 31))) (Jo rfl))] [] 0 hS fun hS=>AU (Bh (uU ..) hS)
def J8 (x8:Nat):(List Int)→(List Int):=fun x3=>x3.set x8 (IntKind.wrap .u8 (AY .u64 x ((8*x8:Nat):Int)))
def EF (x:Int):Nat→(List Int)
 |0=>List.replicate 8 (0:Int)
 |x8+1=>J8 x x8 (EF x x8)
def Qn:(List Int):=EF x 8
def Fa:(List Int):=AJ (Qn x)
theorem KH:Fa x=Qn x:=Af _
end
@[simp] theorem Un (x:Int):(Fa x).length=8:=by
 have key:∀i,(EF x i).length=8:=by
  intro i
  induction i with
  |zero=>rfl
  |succ i ih=>exact(List.length_set ..).trans ih
 rw[KH]
 exact key 8
def Y1 (x:Int) (z_:(List Int):=Fa x):Con:=⟨[.v (.int .u64 x)],[],.sk 0,[(0,.sl 5 [.int .u8] z_)]⟩
theorem Wy (x:Int):ConOk Tryz.prog 185 (Y1 x):=by
 refine cy 0 Tryz.func185 rfl Tryz.ntmps185 fun hg0 hS=>Ae [] 0 hS fun hS=>Ay [(0,g8 8 1)] [] 1 hS fun hS=>Au (Ay [(1,Rn 8 [(((List.replicate 8 (0:Int)).length:Nat):Int)=8] ⟨by rw[List.length_replicate];rfl,trivial⟩)] [] 1 hS fun hS=>Br (Ar (ι:=Nat×(List Int)) hg0 hS (fun(x8,x3)=>(8-x8,[(8,vi ((x8:Nat):Int))],[(0,.sl 5 [.int .u8] x3)],(x8≤8)∧(x3=EF x x8)∧(x3.length=8)∧True)) [0,2,3,7] [] 1 (0,List.replicate 8 (0:Int)) [(0,0)] ⟨Ac,rfl,rfl,trivial⟩ ?_))
 rintro⟨x8,x3⟩ ac gs ws ⟨hx8,hq1,p1,_⟩ hS
 refine Ae [] 1 hS fun hS=>Au (AB ((x8:Int)<8) hS (fun h1=> ?_) (fun h1=> ?_))
 ·exact BG (Ae [] 1 hS fun hS=>Av [(4,GE 8 x8 (8*x8)),(5,EL (8*x8)),(7,AG x8 x3.length)] [] 1 hS fun hS=>BV (Av [(0,BQ x8)] [8] 1 hS fun hS=>Ab (Am hg0 hS (x8+1,x3.set x8 (IntKind.wrap .u8 (AY .u64 x ((8*x8:Nat):Int)))) [(0,0)] ⟨Ac,(A2 (st:=J8 _) hq1 rfl rfl),(by rw[List.length_set];exact p1),trivial⟩)))
 ·have hT:=hS
  obtain rfl:8=x8:=by omega
  obtain rfl:=hq1.symm
  have hS:=hT
  exact CX (Ae [] 1 hS fun hS=>AU (Bh (KH ..) hS))
def RN (k1:Nat):(Nat×Nat×(List Int))→(Nat×Nat×(List Int)):=fun(x2,x3,x0)=>(x2+1,x3-1,(x0.set x2 (x0.getD x3 0)).set x3 (x0.getD x2 0))
def FS (xs:List Int):Nat→Nat×Nat×(List Int)
 |0=>(0,xs.length-1,xs)
 |k1+1=>RN k1 (FS xs k1)
def RO:(Nat×Nat×(List Int))→Prop:=fun(x2,x3,x0)=>((x2:Nat):Int)<(x3:Int)
section
variable (xs:List Int)
def jK:(List Int):=(FS xs (CU fun j=>RO (FS xs j))).2.2
def Pk:(List Int):=AJ (jK xs)
theorem XT:Pk xs=jK xs:=Af _
theorem jL (h:xs.length=8):(Pk xs).length=8:=by
 have key:∀i,(FS xs i).2.2.length=8:=by
  intro i
  induction i with
  |zero=>exact h
  |succ i ih=>
   show(((FS xs i).2.2.set _ _).set _ _).length=8
   rw[List.length_set,List.length_set];exact ih
 rw[XT]
 exact key _
def AcM (z_:(List Int):=Pk xs):Con:=⟨[.sk 0],[(0,.sl 5 [.int .u8] xs)],.tu (chain []),[(0,.sl 5 [.int .u8] z_)]⟩
theorem uA (h:xs.length=8):ConOk Tryz.prog 186 (AcM xs):=by
 refine cy 1 Tryz.func186 rfl Tryz.ntmps186 fun hg0 hS=> ?_
 have nN:xs.length≤9223372036854775807:=hS.lens 0 rfl
 refine Ay [(2,GD xs.length 1 (xs.length-1))] [] 1 hS fun hS=>Br (Ar (ι:=Nat×Nat×Nat×(List Int)) hg0 hS (fun(k1,x2,x3,x0)=>(x3-x2,[(2,vi (x2:Int)),(3,vi (x3:Int))],[(0,.sl 5 [.int .u8] x0)],((x2,x3,x0)=FS xs k1)∧(∀j,j<k1→RO (FS xs j))∧(x0.length=8)∧(x3<8)∧True)) [0] [] 1 (0,0,xs.length-1,xs) [(0,0)] ⟨rfl,(fun j h=>absurd h (Nat.not_lt_zero j)),h,Ac,trivial⟩ ?_)
 rintro⟨k1,x2,x3,x0⟩ ac gs ws ⟨hq1,hj1,p1,p2,_⟩ hS
 refine Au (Ae [] 1 hS fun hS=>AB ((x2:Int)<(x3:Int)) hS (fun h1=> ?_) (fun h1=> ?_))
 ·refine BG ?_
  have hsl:(x0.set x2 (x0.getD x3 0)).length=8:=by rw[List.length_set];exact p1
  exact Av [(6,AG x3 x0.length),(10,AG x2 x0.length),(12,AG x2 x0.length),(14,AG x3 ((x0.set x2 (x0.getD x3 0)).length))] [] 1 hS fun hS=>BV (Av [(1,BQ x2),(3,GD x3 1 (x3-1))] [2,3] 1 hS fun hS=>Ab (Am hg0 hS (k1+1,x2+1,x3-1,(x0.set x2 (x0.getD x3 0)).set x3 (x0.getD x2 0)) [(0,0)] ⟨(A2 (st:=RN) hq1 rfl rfl),(A1 hj1 (by rw[←hq1];exact h1)),(by rw[List.length_set,List.length_set];exact p1),Ac,trivial⟩))
 ·have hT:=hS
  obtain rfl:=BP (by rw[←hq1];first |exact h1|exact not_not_intro h1) hj1
  obtain⟨rfl,rfl,rfl⟩:=lX hq1
  have hS:=hT
  exact cnc (DZ (DZ (Fp (fqN (XT ..) hS))))
end
def ZY (x:Int):(List Int):=Pk (Fa x)
def Fy (x:Int):(List Int):=AJ (ZY x)
theorem TW (x:Int):Fy x=ZY x:=Af _
@[simp] theorem Jz (x:Int):(Fy x).length=8:=by rw[TW];exact jL _ (Un _)
section
variable (x:Int)
def zC (z_:(List Int):=Fy x):Con:=⟨[.v (.int .u64 x)],[],lb z_,[]⟩
theorem PZ:ConOk Tryz.prog 160 (zC x):=by
 refine cy 0 Tryz.func160 rfl Tryz.ntmps160 fun hg0 hS=>Ae [] 0 hS fun hS=>Ay [(1,AO (Wy x) [] [(0,0)])] [] 1 hS fun hS=>Ay [(1,AO (uA (Fa x) (by first |omega|simp)) [(0,0)] [])] [] 1 hS fun hS=>Ae [] 1 hS fun hS=>AU ?_
 obtain⟨gs,hS⟩:=hS.fz 0
 exact Bh (TW ..) hS
def TX:(List Int):=(Fy (IntKind.wrap .u64 x)).drop 4
def CQ:(List Int):=AJ (TX x)
theorem TY:CQ x=TX x:=Af _
end
@[simp] theorem E_ (x:Int):(CQ x).length=4:=by rw[TY];unfold TX;rw[List.length_drop,Jz]
def zD (x:Int) (z_:(List Int):=CQ x):Con:=⟨[.v (.int .u32 x)],[],lb z_,[]⟩
theorem V7 (x:Int):ConOk Tryz.prog 165 (zD x):=by
 refine cy 0 Tryz.func165 rfl Tryz.ntmps165 fun hg0 hS=>Ae [] 0 hS fun hS=>Au ?_
 have hp:=Jz (IntKind.wrap .u64 x)
 exact Av [(2,AR (PZ (IntKind.wrap .u64 x))),(3,ON 4 (Fy (IntKind.wrap .u64 x)).length)] [] 0 hS fun hS=>D6 (Bh (TY ..) hS)
section
variable (xs:List Int)
def KO (x4:Nat):Int→Int:=fun x2=>if(x4:Int)<((xs.length:Nat):Int)then(C7 .u64 (Bd .u64 x2 8) (IntKind.wrap .u64 (xs.getD x4 0)))else(Bd .u64 x2 8)
def Qt (xs:List Int):Nat→Int
 |0=>0
 |x4+1=>KO xs x4 (Qt xs x4)
def aU:Int:=(Qt xs 8)
def Us:Int:=AJ (aU xs)
theorem wM:Us xs=aU xs:=Af _
def zP (z_:Int:=Us xs):Con:=⟨[lb xs],[],.v (.int .u64 z_),[]⟩
theorem nT:ConOk Tryz.prog 206 (zP xs):=by
 refine cy 0 Tryz.func206 rfl Tryz.ntmps206 fun hg0 hS=> ?_
 have A6:xs.length≤9223372036854775807:=hS.len 0 rfl
 refine Ae [] 0 hS fun hS=>Au (Ae [] 0 hS fun hS=>Br (Ar (ι:=Nat×Int) hg0 hS (fun(x4,x2)=>(8-x4,[(2,.v (.int .u64 x2)),(4,vi ((x4:Nat):Int))],[],(x4≤8)∧(x2=Qt xs x4)∧True)) [0] [] 0 (0,0) [] ⟨Ac,rfl,trivial⟩ ?_))
 rintro⟨x4,x2⟩ ac gs ws ⟨hx4,hq1,_⟩ hS
 refine Ae [] 0 hS fun hS=>Au (AB ((x4:Int)<8) hS (fun h1=> ?_) (fun h1=> ?_))
 ·refine BG (Ae [] 0 hS fun hS=>Ay [(1,EL 8)] [2] 0 hS fun hS=>Ae [] 0 hS fun hS=>AB ((x4:Int)<((xs.length:Nat):Int)) hS (fun h2=> ?_) (fun h2=> ?_))
  ·exact Av [(3,AG x4 xs.length)] [2] 0 hS fun hS=>BV (Av [(0,BQ x4)] [4] 0 hS fun hS=>Ab (Am hg0 hS (x4+1,(C7 .u64 (Bd .u64 x2 8) (IntKind.wrap .u64 (xs.getD x4 0)))) [] ⟨Ac,(A2 (st:=KO _) hq1 rfl (Eq.symm (if_pos h2))),trivial⟩))
  ·exact Iu (Av [(0,BQ x4)] [4] 0 hS fun hS=>Ab (Am hg0 hS (x4+1,(Bd .u64 x2 8)) [] ⟨Ac,(A2 (st:=KO _) hq1 rfl (Eq.symm (if_neg h2))),trivial⟩))
 ·have hT:=hS
  obtain rfl:8=x4:=by omega
  obtain rfl:=hq1.symm
  have hS:=hT
  exact CX (Ae [2] 0 hS fun hS=>AU (Bh (wM ..) hS))
def aV:Int:=(IntKind.wrap .u32 (AY .u64 (Us xs) 32))
def Ou:Int:=AJ (aV xs)
theorem wN:Ou xs=aV xs:=Af _
def zQ (z_:Int:=Ou xs):Con:=⟨[lb xs],[],.v (.int .u32 z_),[]⟩
theorem nU:ConOk Tryz.prog 190 (zQ xs):=by
 refine cy 0 Tryz.func190 rfl Tryz.ntmps190 fun hg0 hS=> ?_
 have A6:xs.length≤9223372036854775807:=hS.len 0 rfl
 exact Ae [] 0 hS fun hS=>Ay [(1,AR (nT xs)),(2,EL 32)] [] 0 hS fun hS=>AU (Bh (wN ..) hS)
def Uy (n:Nat):(List Int):=xs.take (List.replicate n (0:Int)).length++(List.replicate n (0:Int)).drop xs.length
def Ox (n:Nat):(List Int):=AJ (Uy xs n)
theorem a5 (n:Nat):Ox xs n=Uy xs n:=Af _
def zR (n:Nat) (z_:(List Int):=Ox xs n):Con:=⟨[lb xs,vi (n:Int)],[],.sk 0,[(0,.sl 5 [.int .u8] z_)]⟩
theorem oB (n:Nat) (hn:n≤100000000):ConOk Tryz.prog 184 (zR xs n):=by
 refine cy 0 Tryz.func184 rfl Tryz.ntmps184 fun hg0 hS=> ?_
 have A6:xs.length≤9223372036854775807:=hS.len 0 rfl
 exact Ae [] 0 hS fun hS=>Ay [(1,g8 n 1)] [] 1 hS fun hS=>Ae [] 1 hS fun hS=>Ae [] 1 hS fun hS=>AU (Bh (a5 ..) hS)
def Vi (ys:List Int) (x15:Nat):(List Int)→(List Int):=fun x5=>x5.set x15 (AK .u8 (xs.getD x15 0) (ys.getD x15 0))
def Kj (xs ys:List Int):Nat→(List Int)
 |0=>List.replicate (min xs.length ys.length) (0:Int)
 |x15+1=>Vi xs ys x15 (Kj xs ys x15)
def Aas (ys:List Int):(List Int):=Kj xs ys (min xs.length ys.length)
def JU (ys:List Int):(List Int):=AJ (Aas xs ys)
theorem iB (ys:List Int):JU xs ys=Aas xs ys:=Af _
def AeY (ys:List Int) (z_:(List Int):=JU xs ys):Con:=⟨[lb xs,lb ys],[],.sk 0,[(0,.sl 5 [.int .u8] z_)]⟩
theorem Abg (ys:List Int) (hn:xs.length≤100000000):ConOk Tryz.prog 159 (AeY xs ys):=by
 refine cy 0 Tryz.func159 rfl Tryz.ntmps159 fun hg0 hS=> ?_
 have A6:xs.length≤9223372036854775807:=hS.len 0 rfl
 have Bf:ys.length≤9223372036854775807:=hS.len 1 rfl
 refine Ae [] 0 hS fun hS=>Ay [(4,Rmn xs.length ys.length),(5,g8 (min xs.length ys.length) 1)] [] 1 hS fun hS=>Au (Ay [(1,Rn ((min xs.length ys.length:Nat):Int) [(((List.replicate (min xs.length ys.length) (0:Int)).length:Nat):Int)=((min xs.length ys.length:Nat):Int)] ⟨by rw[List.length_replicate],trivial⟩)] [] 1 hS fun hS=>Br (Ar (ι:=Nat×(List Int)) hg0 hS (fun(x15,x5)=>(min xs.length ys.length-x15,[(15,vi ((x15:Nat):Int))],[(0,.sl 5 [.int .u8] x5)],(x15≤min xs.length ys.length)∧(x5=Kj xs ys x15)∧(x5.length=min xs.length ys.length)∧True)) [0,1,4,5,14] [] 1 (0,List.replicate (min xs.length ys.length) (0:Int)) [(0,0)] ⟨Ac,rfl,(by simp),trivial⟩ ?_))
 rintro⟨x15,x5⟩ ac gs ws ⟨hx15,hq1,p1,_⟩ hS
 refine Ae [] 1 hS fun hS=>Au (AB ((x15:Int)<((min xs.length ys.length:Nat):Int)) hS (fun h1=> ?_) (fun h1=> ?_))
 ·exact BG (Ae [] 1 hS fun hS=>Av [(4,AG x15 xs.length),(8,AG x15 ys.length),(11,AG x15 x5.length)] [] 1 hS fun hS=>BV (Av [(0,BQ x15)] [15] 1 hS fun hS=>Ab (Am hg0 hS (x15+1,x5.set x15 (AK .u8 (xs.getD x15 0) (ys.getD x15 0))) [(0,0)] ⟨Ac,(A2 (st:=Vi _ _) hq1 rfl rfl),(by rw[List.length_set];exact p1),trivial⟩)))
 ·have hT:=hS
  obtain rfl:min xs.length ys.length=x15:=by omega
  obtain rfl:=hq1.symm
  have hS:=hT
  exact CX (Ae [] 1 hS fun hS=>AU (Bh (iB ..) hS))
end
end
end Go.Sx.Tryz
