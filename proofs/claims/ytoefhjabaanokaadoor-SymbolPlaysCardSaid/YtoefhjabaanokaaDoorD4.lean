/- Texts that belong together: H17, S3, S4, S5, S6, S7, S8. General lemmas and walks; no conditions. -/
import Derived.Test.YtoefhjabaanokaaDoorE1
import Derived.Test.YtoefhjabaanokaaDoorD2
set_option linter.unusedSimpArgs false
set_option linter.unusedVariables false
set_option linter.unnecessarySimpa false
namespace Go.Mi.Term
open Go.Mi Go.RowKit
abbrev ew:=List (Int×Int)
def itl:ew->Int->Int
 |[],_=>0
 |(y,v)::m,x=>if y=x then v else itl m x
def ist:ew->Int->Int->ew
 |[],x,v=>[(x,v)]
 |(y,u)::m,x,v=>if y=x then(y,v)::m else(y,u)::ist m x v
theorem iV (m:ew) (x v:Int):itl (ist m x v) x=v:=by
 induction m with
 |nil=>simp [ist,itl]
 |cons p m ih=>
  obtain⟨y,u⟩:=p;simp only[ist];by_cases h:y=x
  ·rw[zX h];simp [itl,h]
  ·rw[zK h];simp [itl,h,ih]
theorem iW {m:ew} {x y v:Int} (h:y≠x):itl (ist m x v) y=itl m y:=by
 induction m with
 |nil=>simp [ist,itl];intro e;exact absurd e.symm h
 |cons p m ih=>
  obtain⟨z,u⟩:=p;simp only[ist];by_cases hz:z=x
  ·rw[zX hz];have :¬z=y:=λe=>h (e.symm.trans hz);simp [itl,this]
  ·rw[zK hz];by_cases hy:z=y
   ·simp [itl,hy]
   ·simp [itl,hy,ih]
def IMapIs (w:World) (b:Nat) (m:ew):Prop:=∃es clock,w.heap[b]? =some (.map es clock)/\es.toList.map (λe=>(e.key,e.val))=m.map λp=>(Value.int .i64 p.1,Value.int .i64 p.2)
theorem IMapIs.mv {w w':World} {Y:List Nat} {b:Nat} {m:ew} (h:IMapIs w b m) (k:Ch Y w w') (hb:b∉Y):IMapIs w' b m:=by
 obtain⟨es,c,h1,h2⟩:=h;have hl:b<w.heap.size:=by
  rcases zF b w.heap.size with h'|h'
  ·exact h'
  ·rw[zY h']at h1;cases h1
 exact⟨es,c,by rw[k.blk b hl hb];exact h1,h2⟩
def dP:ew->Int->Nat->Option (Nat×Int)
 |[],_,_=>none
 |(y,v)::m,x,i=>if y=x then some (i,v)else dP m x (i+1)
theorem qt (m:ew) (x:Int) (i:Nat):itl m x=((dP m x i).map (·.2)).getD 0:=by
 induction m generalizing i with
 |nil=>rfl
 |cons p m ih=>
  obtain⟨y,v⟩:=p;simp only[itl,dP];split
  ·rfl
  ·exact ih (i+1)
theorem gE {m : ew} {x : Int} : ∀ {es : List MapEntry} {i : Nat}, es.map (λe => (e.key, e.val)) = m.map (λp => (Value.int .i64 p.1, Value.int .i64 p.2)) ->
  Instr.findNow (.int .i64) (.int .i64 x) es i=some ((dP m x i).map λq=>(q.1,.int .i64 q.2)):=by
 induction m with
 |nil=>
  intro es i h;simp at h;subst h;rfl
 |cons p m ih=>
  intro es i h;obtain⟨y,v⟩:=p;cases es with
  |nil=>simp at h
  |cons e es=>
   simp only[Ad,List.cons.injEq,Prod.mk.injEq]at h;obtain⟨⟨hk,hv⟩,hr⟩:=h;simp only[Instr.findNow,Instr.sameNow,hk,dP,if_true];by_cases he:x=y
   ·subst he;simp [hv]
   ·rw[show(x==y)=false by simpa using he,zK (λe=>he e.symm)];exact ih hr
theorem iX {m:ew} {x:Int} {i j:Nat} {v:Int} (h:dP m x i=some (j,v)):i<=j/\j<i+m.length:=by
 induction m generalizing i with
 |nil=>simp [dP]at h
 |cons p m ih=>
  obtain⟨y,u⟩:=p;simp only[dP]at h;split at h
  ·simp at h;simp;omega
  ·have :=ih h;simp;omega
theorem qs {m:ew} {x:Int} {i j:Nat} {u v:Int} (h:dP m x i=some (j,u)):ist m x v=m.set (j-i) (x,v):=by
 induction m generalizing i with
 |nil=>simp [dP]at h
 |cons p m ih=>
  obtain⟨y,u'⟩:=p;simp only[dP]at h;simp only[ist];split at h
  ·rename_i e;simp at h;obtain⟨rfl,rfl⟩:=h;simp [e]
  ·rename_i e;have hl:=iX h;rw[zK e,ih h,show j-i=(j-(i+1))+1 by omega];rfl
theorem sd {m:ew} {x:Int} {i:Nat} {v:Int} (h:dP m x i=none):ist m x v=m++[(x,v)]:=by
 induction m generalizing i with
 |nil=>rfl
 |cons p m ih=>
  obtain⟨y,u'⟩:=p;simp only[dP]at h;simp only[ist];split at h
  ·simp at h
  ·rename_i e;rw[zK e,ih h];rfl
section
variable {P:Program} {n:Nat} {L:List (Nat×Value)} {w:World} {ds:Option Nat} {ty:TypeId} {pos:String} {af:Array Edge} {gu:Option (Nat×Bool)}
theorem qw {x y : Operand} {t kt et : TypeId} {b : Nat} {m : ew} {k : Int} (ht : P.underlying t = some (.map kt et)) (hk : P.underlying kt = some (.int .i64)) (hz : (P.info? et).bind (·.zero) = some (.int .i64 0))
  (hx:ev L x=some (.map (some b))) (hy:ev L y=some (.int .i64 k)) (hm:IMapIs w b m):Det P ⟨ds,.lookup t x y false,ty,pos,af,gu⟩ n L w (.int .i64 (itl m k)) w:=
 Det.of_run λa hF=>by
  obtain⟨es,c,h1,h2⟩:=hm;obtain⟨inf,hi,hz'⟩:=As.1 hz;have hf:=gE (x:=k) (i:=0) h2;have hck:(Instr.checkKey es.isEmpty 10000 kt (.int .i64 k)).run P w= .ok () w:=MapKept.run_checkKey (k:= .int .i64 k) hk rfl _ 9999;have hfk:=MapKept.run_findKey (P:=P) (w:=w) hk hf;simp only[execOp,hF.eval hx,hF.eval hy,Instr.lookup,Sem.run_bind,bQ ht,Result.andThen_ok,MapKept.run_getObj_map h1,Sem.run_pure,hck,hfk];rw[qt m k 0];cases hp:dP m k 0 with
  |none=>simp [zeroValue,typeInfo,hi,hz']
  |some q=>simp
theorem kQ {x y z : Operand} {t kt et : TypeId} {b : Nat} {m : ew} {k : Int} {v : Int} (ht : P.underlying t = some (.map kt et)) (hk : P.underlying kt = some (.int .i64))
  (hx:ev L x=some (.map (some b))) (hy:ev L y=some (.int .i64 k)) (hz:ev L z=some (.int .i64 v)) (hm:IMapIs w b m):Ok1 P ⟨ds,.mapUpdate t x y z,ty,pos,af,gu⟩ n L w λ_ w'=>IMapIs w' b (ist m k v)/\Ch [b] w w':=by
 obtain⟨es,c,h1,h2⟩:=hm;have hf:=gE (x:=k) (i:=0) h2;have s:(Instr.checkKey false 10000 kt (.int .i64 k)).run P w= .ok () w:=MapKept.run_checkKey (k:= .int .i64 k) hk rfl _ 9999;have d:=MapKept.run_findKey (P:=P) (w:=w) hk hf;have E:b<w.heap.size:=by
  rcases zF b w.heap.size with h'|h'
  ·exact h'
  ·rw[zY h']at h1;cases h1
 have f:∀o:Obj,(setObj b o).run P w= .ok () {w with heap:=w.heap.setIfInBounds b o}:=λo=>MapKept.run_setObj_map o h1;have D:∀o:Obj,Ch [b] w {w with heap:=w.heap.setIfInBounds b o}:=λo=>
  ⟨rfl,rfl,rfl,by simp,λi _ hn=>by
   have :b≠i:=λe=>hn (by simp [e]);simp [zJ this]⟩
 have g:∀(r:Array MapEntry) (c':Nat),(World.mk (w.heap.setIfInBounds b (.map r c')) w.tape w.drawn w.os w.output).heap[b]? =some (.map r c'):=λr c'=>by simp [E]
 cases hp:dP m k 0 with
 |none=>
  rw[hp]at d;have hd:Det P ⟨ds,.mapUpdate t x y z,ty,pos,af,gu⟩ n L w undef {w with heap:=w.heap.setIfInBounds b (.map (es.push {key:= .int .i64 k,val:= .int .i64 v,born:=c}) (c+1))}:=Det.of_skip λa hF=>by simp [execOp,hF.eval hx,hF.eval hy,hF.eval hz,Instr.mapUpdate,bQ ht,MapKept.run_getObj_map h1,s,d,f]
  refine hd.mono λv' w' ⟨_,hw⟩=> ?_;subst hw;refine⟨⟨_,_,g _ _,?_⟩,D _⟩;rw[sd hp];simp [h2]
 |some q=>
  obtain⟨j,u⟩:=q;rw[hp]at d;obtain⟨_,hjl⟩:=iX hp;have B:es.toList.length=m.length:=by simpa using zu List.length h2
  have hj:j<es.size:=by rw[<-AU,B];omega
  have A:(es[j]).key= .int .i64 k:=by
   have h3:=zu (λl=>l[j]?) h2;have G:∀(m:ew) (i j:Nat) (u:Int),dP m k i=some (j,u)->m[j-i]? =some (k,u):=by
    intro m
    induction m with
    |nil=>intro i j u h;simp [dP]at h
    |cons p m ih=>
     intro i j u h;obtain⟨y,u'⟩:=p;simp only[dP]at h;split at h
     ·rename_i e;simp at h;obtain⟨rfl,rfl⟩:=h;simp [e]
     ·have hl:=iX h;have :=ih _ _ _ h;rw[show j-i=(j-(i+1))+1 by omega];simpa using this
   have h4:=G m 0 j u hp;simp only[Ai,Nat.sub_zero]at h3 h4;rw[h4]at h3;simp [hj]at h3;exact h3.1
  have hd:Det P ⟨ds,.mapUpdate t x y z,ty,pos,af,gu⟩ n L w undef {w with heap:=w.heap.setIfInBounds b (.map (es.modify j λe=>{e with key:= .int .i64 k,val:= .int .i64 v}) c)}:=Det.of_skip λa hF=>by
   have F:(Instr.keyThatStays (.int .i64 k) (.int .i64 k)).run P w= .ok (.int .i64 k) w:=by
    have :Instr.sameBits 10000 (.int .i64 k) (.int .i64 k)=true:=by simp [Instr.sameBits]
    simp [Instr.keyThatStays,this]
   simp [execOp,hF.eval hx,hF.eval hy,hF.eval hz,Instr.mapUpdate,bQ ht,MapKept.run_getObj_map h1,s,d,f,hj,A,F]
  refine hd.mono λv' w' ⟨_,hw⟩=> ?_;subst hw;refine⟨⟨_,_,g _ _,?_⟩,D _⟩;rw[qs hp,Nat.sub_zero];apply List.ext_getElem?;intro i;have h3:=zu (λl=>l[i]?) h2;simp only[Ai,AR,Array.getElem?_modify,List.getElem?_set]at h3⊢;by_cases hij:j=i
  ·subst hij;have C:j<m.length:=by omega
   simp only[if_true,C,Aw hj,zW]
  ·simp only[hij,if_false];simpa using h3
end
end Go.Mi.Term
namespace Go.Mi.Term
structure Ep where
 dhs:List (Nat×Nat)
 kem:Bool
 rev:Bool
structure Ky where
 t:Tm
 ep:Nat
 who:Nat
 ix:Nat
structure Rn where
 acts:Nat
 names:Nat
 id:Nat->Nat
 x:Nat->Nat
 root:Tm
 ch:Nat->Tm
 ix:Nat->Nat
 known:List Tm
 eps:List Ep
 rvd:ew
 keys:List Ky
 behind:List Bool
 dh:Bool
 kem:Bool
def up {α:Type} (f:Nat->α) (i:Nat) (v:α):Nat->α:=λj=>if j=i then v else f j
theorem di {α:Type} (f:Nat->α) (i:Nat) (v:α):up f i v i=v:=by simp [up]
theorem dx {α:Type} {f:Nat->α} {i j:Nat} {v:α} (h:j≠i):up f i v j=f j:=by simp [up,h]
namespace Rn
def draw (r:Rn):Rn:={r with names:=r.names+1}
def sees (r:Rn) (l:List Tm):Rn:={r with known:=r.known++l}
def drawKem (r:Rn):Rn:=r.draw.draw.sees [pT r.names,ctT r.names (r.names+1)]
def chains (r:Rn) (inp:List Tm) (i:Nat):Rn:={r with ch:=λw=>if w<i then hT (inp++[cT 3,pT (r.x w)])else r.ch w}
def rooted (r:Rn) (inp:List Tm) (k:Nat):Rn:={r with root:=hT (inp++[cT k])}
def ended (r:Rn) (e:Ep):Rn:={r with eps:=r.eps++[e]}
def begin (r:Rn) (inp:List Tm) (k:Nat) (e:Ep):Rn:=((r.rooted inp k).chains inp 2).ended e
def last (r:Rn):Ep:=r.eps.getD (r.eps.length-1) ⟨[],false,false⟩
def key (r:Rn) (w:Nat):Tm:=hT [r.ch w,cT 0]
def send (r:Rn) (w:Nat):Rn:=
 {r with keys:=r.keys++[⟨r.key w,r.eps.length-1,w,r.ix w⟩],behind:=r.behind++[r.last.rev],ix:=up r.ix w (r.ix w+1),ch:=up r.ch w (hT [r.ch w,cT 1]),names:=r.names+1,known:=r.known++[eT (r.key w) r.names]}
def drawX (r:Rn) (w:Nat):Rn:={r with x:=up r.x w r.names,names:=r.names+1,known:=r.known++[pT r.names]}
def turn (r:Rn) (w:Nat) (kem:Bool):Rn:=
 let r1:=r.drawX w
 let inp:=[r.root,dT r.names (r.x (1-w))]
 bif kem then r1.drawKem.begin (inp++[kT (r.names+1) (r.names+2)]) 2 ⟨[(r.names,r.x (1-w))],true,false⟩else r1.begin inp 2 ⟨[(r.names,r.x (1-w))],false,false⟩
def told (r:Rn) (n:Nat):Rn:={r with rvd:=ist r.rvd n (itl r.rvd n+1)}
def marked (r:Rn):Rn:={r with eps:=r.eps.modify (r.eps.length-1) λe=>{e with rev:=true}}
def reveal (r:Rn) (w:Nat):Rn:=(((r.sees [aT (r.id w),aT (r.x w),r.root,r.ch 0,r.ch 1]).told (r.id w)).told (r.x w)).marked
def bare:Rn:=⟨0,0,λ_=>0,λ_=>0,.mk 0 0 [],λ_=> .mk 0 0 [],λ_=>0,[],[],[],[],[],false,false⟩
def consts (i:Nat):Rn:=bare.sees ((List.range i).map cT)
def ends (r:Rn) (i:Nat):Rn:={r with names:=r.names+2*i,id:=λw=>if w<i then 2*w else r.id w,x:=λw=>if w<i then 2*w+1 else r.x w,known:=r.known++(List.range i).flatMap λw=>[pT (2*w),pT (2*w+1)]}
def inp0:List Tm:=[dT 0 3,dT 1 2,dT 1 3]
def new (kem:Bool):Rn:=
 let r:=(consts 4).ends 2
 bif kem then r.drawKem.begin (inp0++[kT 4 5]) 0 ⟨[(0,3),(1,2),(1,3)],true,false⟩else r.begin inp0 0 ⟨[(0,3),(1,2),(1,3)],false,false⟩
def count (r:Rn):Rn:={r with acts:=r.acts+1}
def act (r:Rn) (kind:Int) (who:Int) (kem:Bool):Rn:=
 if kind=1 then r.count.send who.toNat else if kind=2 then r.count.turn who.toNat kem else if kind=3 then r.count.reveal who.toNat else if kind=4 then {r.count with dh:=true} else {r.count with kem:=true}
def refuses (r:Rn) (kind:Int) (who:Int):Bool:=decide (kind<1)||decide (5<kind)||(decide (kind<=3)&&(decide (who<0)||decide (2<=who)))||decide (60<=r.acts)
def doAct (r:Rn) (kind:Int) (who:Int) (kem:Bool):Rn:=if r.refuses kind who then r else r.act kind who kem
def inputB (r:Rn) (e:Ep):Bool:=(!e.kem||r.kem)&&(r.dh||e.dhs.all λp=> !decide (itl r.rvd p.1+itl r.rvd p.2=0))
def wholeB (r:Rn):Nat->Bool
 |0=>r.inputB (r.eps.getD 0 ⟨[],false,false⟩)
 |k+1=>r.inputB (r.eps.getD (k+1) ⟨[],false,false⟩)&&((r.eps.getD k ⟨[],false,false⟩).rev||wholeB r k)
def cleanB (r:Rn) (k:Nat):Bool:= !(r.behind.getD k false)&& !(r.wholeB ((r.keys.getD k ⟨.mk 0 0 [],0,0,0⟩).ep))
end Rn
end Go.Mi.Term
namespace Go.Mi.Term
def GE.with (e:GE) (l:List (Nat->Nat)):GE:={e with rvs:=l}
theorem lF (e:GE) (l:List (Nat->Nat)) (w:Nat):∀i,chn (e.with l) w i=chn e w i
 |0=>rfl
 |i+1=>by simp only[chn,lF e l w i]
theorem qJ (e:GE) (l:List (Nat->Nat)) (w i:Nat):fB (e.with l) w i=fB e w i:=by simp only[fB,lF]
def more (G:Nat->GE) (k:Nat) (v:Nat->Nat):Nat->GE:=up G k ((G k).with (v::(G k).rvs))
theorem lh (G:Nat->GE) (k:Nat) (v:Nat->Nat) (j:Nat):∃l,more G k v j=(G j).with l/\(l=(G j).rvs\/(j=k/\l=v::(G j).rvs)):=by
 unfold more;by_cases h:j=k
 ·subst h;exact⟨_,di _ _ _,.inr ⟨rfl,rfl⟩⟩
 ·exact⟨(G j).rvs,by rw[dx h];rfl,.inl rfl⟩
theorem Eps.more {G:Nat->GE} {n N k:Nat} {v:Nat->Nat} (h:Eps G n N):Eps (more G k v) n N:=by
 have hw:∀j,∃l,Term.more G k v j=(G j).with l:=λj=>by obtain⟨l,h1,_⟩:=lh G k v j;exact⟨l,h1⟩
 refine⟨h.pos,h.big,λj hj=> ?_,λj hj=> ?_,?_,λj hj h0=> ?_,λj hj=> ?_,λj hj=> ?_,λj hj=> ?_,λj hj=> ?_,λi j h1 h2=> ?_,λj hj=> ?_⟩
 ·obtain⟨l,e⟩:=hw j;obtain⟨l',e'⟩:=hw (j-1);rw[e,e'];exact h.inp j hj
 ·obtain⟨l,e⟩:=hw j;rw[e];exact h.c j hj
 ·obtain⟨l,e⟩:=hw 0;rw[e];exact h.one
 ·obtain⟨l,e⟩:=hw j;rw[e];exact h.new j hj h0
 ·obtain⟨l,e⟩:=hw j;rw[e];exact h.pr j hj
 ·obtain⟨l,e⟩:=hw j;rw[e];exact h.kmb j hj
 ·obtain⟨l,e⟩:=hw j;rw[e];exact h.x j hj
 ·obtain⟨l,e⟩:=hw j;rw[e];exact h.xne j hj
 ·obtain⟨l,e⟩:=hw i;obtain⟨l',e'⟩:=hw j;rw[e,e'];exact h.up i j h1 h2
 ·obtain⟨l,e⟩:=hw j;rw[e];exact h.top j hj
theorem Eps.wide {G:Nat->GE} {n N N':Nat} (h:Eps G n N) (h1:N<=N') (h2:N'<=1000000):Eps G n N':=⟨h.pos,h2,h.inp,h.c,h.one,h.new,h.pr,h.kmb,h.x,h.xne,h.up,λk hk=>zy (h.top k hk) h1⟩
theorem Eps.next {G : Nat -> GE} {n N N' : Nat} {e : GE} (h : Eps G n N) (hN : N' <= 1000000) (hi : e.inp = [(G (n - 1)).root] ++ e.prs.map (λp => dT p.1 p.2) ++ (match e.km with
  |none=>[]
  |some p=>[kT p.1 p.2])) (hc:e.c=2) (hp:∃y,e.prs=[(e.lo,y)]) (hpr:∀p,p∈e.prs->p.1<e.hi/\p.2<e.hi) (hkm:∀p,e.km=some p->p.1<e.hi/\p.2<e.hi) (hx:∀w,w<2->e.xs w<e.hi) (hxn:e.xs 0≠e.xs 1) (hlo:N<=e.lo) (hhi:e.hi<=N') (hNN:N<=N'):Eps (Term.up G n e) (n+1) N':=by
 have b:∀k,k<n->Term.up G n e k=G k:=λk hk=>dx (by omega);have new:Term.up G n e n=e:=di _ _ _;have hpos:=h.pos;have a:∀k,k<n+1->k<n\/k=n:=λk hk=>by omega
 refine⟨by omega,hN,λk hk=> ?_,λk hk=> ?_,by rw[b 0 h.pos];exact h.one,λk hk h0=> ?_,λk hk=> ?_,λk hk=> ?_,λk hk=> ?_,λk hk=> ?_,λj k h1 h2=> ?_,λk hk=> ?_⟩
 ·rcases a k hk with hk|rfl
  ·rw[b k hk,b (k-1) (by omega)];exact h.inp k hk
  ·rw[new,b (k-1) (by omega),zK (by omega)];exact hi
 ·rcases a k hk with hk|rfl
  ·rw[b k hk];exact h.c k hk
  ·rw[new,zK (by omega)];exact hc
 ·rcases a k hk with hk|rfl
  ·rw[b k hk];exact h.new k hk h0
  ·rw[new];exact hp
 ·rcases a k hk with hk|rfl
  ·rw[b k hk];exact h.pr k hk
  ·rw[new];exact hpr
 ·rcases a k hk with hk|rfl
  ·rw[b k hk];exact h.kmb k hk
  ·rw[new];exact hkm
 ·rcases a k hk with hk|rfl
  ·rw[b k hk];exact h.x k hk
  ·rw[new];exact hx
 ·rcases a k hk with hk|rfl
  ·rw[b k hk];exact h.xne k hk
  ·rw[new];exact hxn
 ·rcases a k h2 with hk|rfl
  ·rw[b k hk,b j (by omega)];exact h.up j k h1 hk
  ·rw[new,b j h1];exact zy (h.top j h1) hlo
 ·rcases a k hk with hk|rfl
  ·rw[b k hk];exact zy (h.top k hk) hNN
  ·rw[new];exact hhi
structure Inv (r:Rn) (G:Nat->GE) (rv:Nat->Prop) (S:List Snd) (cl:Nat->Nat) (pos:Nat->Nat):Prop where
 E:Eps G r.eps.length r.names
 K:Seen G r.eps.length r.names rv S (λt=>t∈r.known)
 C:Cls G r.eps.length rv S cl
 ep:∀(k:Nat) (e:Ep),r.eps[k]? =some e->e.dhs=(G k).prs/\e.kem=(G k).km.isSome/\(e.rev=true↔(G k).rvs≠[])
 rd:∀a:Nat,rv a↔itl r.rvd (a:Int)≠0
 r0:∀k,0<=itl r.rvd k
 rvN:∀a,rv a->a<r.names
 rt:r.root=(G (r.eps.length-1)).root
 ch:∀w,w<2->r.ch w=chn (G (r.eps.length-1)) w (pos w)
 x:∀w,w<2->r.x w=(G (r.eps.length-1)).xs w/\cl (r.x w)=1
 id:∀w,w<2->r.id w<r.names/\cl (r.id w)=1
 len:r.keys.length=S.length
 bln:r.behind.length=S.length
 ky:∀(j:Nat) (s:Snd),S[j]? =some s->∃e:Ky,r.keys[j]? =some e/\e.ep=s.1/\e.who=s.2.1/\e.t=fB (G s.1) s.2.1 s.2.2.1/\s.1<r.eps.length/\s.2.1<2/\s.2.2.2<r.names/\(s.1=r.eps.length-1->s.2.2.1<pos s.2.1)/\∃b:Bool,r.behind[j]? =some b/\(b=true↔∃v,v∈(G s.1).rvs/\v s.2.1<=s.2.2.1)
 vn:∀v,v∈(G (r.eps.length-1)).rvs->∀w,w<2->v w<=pos w
theorem Inv.Sb {r:Rn} {G:Nat->GE} {rv:Nat->Prop} {S:List Snd} {cl:Nat->Nat} {pos:Nat->Nat} (h:Inv r G rv S cl pos) {s:Snd} (hs:s∈S):s.1<r.eps.length/\s.2.1<2/\s.2.2.2<r.names:=by obtain⟨j,hj⟩:=An.1 hs;obtain⟨e,_,_,_,_,h1,h2,h3,_⟩:=h.ky j s hj;exact⟨h1,h2,h3⟩
theorem Inv.world {r:Rn} {G:Nat->GE} {rv:Nat->Prop} {S:List Snd} {cl:Nat->Nat} {pos:Nat->Nat} (h:Inv r G rv S cl pos) (a:Nat) (d k:Bool):Inv {r with acts:=a,dh:=d,kem:=k} G rv S cl pos:=⟨h.E,h.K,h.C,h.ep,h.rd,h.r0,h.rvN,h.rt,h.ch,h.x,h.id,h.len,h.bln,h.ky,h.vn⟩
theorem getElem?_snoc {α:Type} {l:List α} {a b:α} {j:Nat} (h:(l++[a])[j]? =some b):(j<l.length/\l[j]? =some b)\/(j=l.length/\b=a):=by
 rcases zF j l.length with hl|hl
 ·rw[zL hl]at h;exact .inl ⟨hl,h⟩
 ·rw[zM hl]at h;rcases Al (j-l.length)with h0|h0
  ·rw[h0]at h;simp at h;exact .inr ⟨by omega,h.symm⟩
  ·rw[zz (by simp only[Ar];omega)]at h;cases h
theorem k8 {α:Type} {l:List α} {a:α} {j:Nat} {b:α} (h:l[j]? =some b):(l++[a])[j]? =some b:=by
 rw[zL]
 ·exact h
 ·rcases zF j l.length with h'|h'
  ·exact h'
  ·rw[zz h']at h;cases h
theorem r8 {r:Rn} (h0:0<r.eps.length):r.eps[r.eps.length-1]? =some r.last:=by unfold Rn.last;rw[zG,zp (show r.eps.length-1<r.eps.length by omega)];rfl
theorem Inv.send {r:Rn} {G:Nat->GE} {rv:Nat->Prop} {S:List Snd} {cl:Nat->Nat} {pos:Nat->Nat} (h:Inv r G rv S cl pos) {w:Nat} (hw:w<2) (hN:r.names<1000000):Inv (r.send w) G rv (S++[(r.eps.length-1,w,pos w,r.names)]) (up cl r.names 3) (up pos w (pos w+1)):=by
 have hp:=h.E.pos;have f:r.key w=fB (G (r.eps.length-1)) w (pos w):=by simp only[Rn.key,fB,h.ch w hw]
 have cu:∀a,a<r.names->up cl r.names 3 a=cl a:=λa ha=>dx (by omega);have hE:Eps G r.eps.length (r.names+1):=h.E.wide (by omega) (by omega);refine⟨hE,⟨λt ht=> ?_,λj hj=> ?_,λk hk p hp=> ?_,λk hk w hw=> ?_,λk hk p hp=> ?_,λa ha=> ?_,λk hk hr=> ?_,λk hk w hw v hv=> ?_,λk w' i a hm=> ?_⟩,⟨λk hk p hp=> ?_,λk hk p hp=> ?_,λa ha=> ?_,λk w' i a hm=> ?_,λs s' hs d he=> ?_⟩,h.ep,h.rd,h.r0,λa ha=>Ak (h.rvN a ha),h.rt,λw' c=> ?_,λw' c=> ?_,λw' c=> ?_,?_,?_,λj s hs=> ?_,λv hv w' c=> ?_⟩
 ·simp only[Rn.send,zr,zt]at ht;rcases ht with ht|rfl
  ·rcases h.K.cls t ht with h1|⟨a,h1,h2⟩|⟨a,b,h1,h2,h3⟩|⟨k,w',i,a,h1,h2,h3,h4,h5⟩|⟨a,h1,h2⟩|h1|h1
   ·exact .inl h1
   ·exact .inr (.inl ⟨a,Ak h1,h2⟩)
   ·exact .inr (.inr (.inl ⟨a,b,Ak h1,Ak h2,h3⟩))
   ·exact .inr (.inr (.inr (.inl ⟨k,w',i,a,h1,h2,Ak h3,zw _ h4,h5⟩)))
   ·exact .inr (.inr (.inr (.inr (.inl ⟨a,Ak h1,h2⟩))))
   ·exact .inr (.inr (.inr (.inr (.inr (.inl h1)))))
   ·exact .inr (.inr (.inr (.inr (.inr (.inr h1)))))
  ·exact .inr (.inr (.inr (.inl ⟨r.eps.length-1,w,pos w,r.names,by show _<r.eps.length;omega,hw,Nat.lt_succ_self _,by simp,by rw[f]⟩)))
 ·exact zw _ (h.K.con j hj)
 ·exact⟨zw _ (h.K.pub k hk p hp).1,zw _ (h.K.pub k hk p hp).2⟩
 ·exact zw _ (h.K.xp k hk w hw)
 ·exact zw _ (h.K.ct k hk p hp)
 ·exact zw _ (h.K.rev a ha)
 ·exact zw _ (h.K.rt k hk hr)
 ·exact zw _ (h.K.chs k hk w hw v hv)
 ·rcases zr.1 hm with hm|hm
  ·exact zw _ (h.K.enc k w' i a hm)
  ·simp only[zt,Prod.mk.injEq]at hm;obtain⟨rfl,rfl,rfl,rfl⟩:=hm;simp only[Rn.send,f];simp
 ·have h1:=h.E.pr k hk p hp;have h2:=h.E.top k hk;rw[cu _ (by omega),cu _ (by omega)];exact h.C.pr k hk p hp
 ·have h1:=h.E.kmb k hk p hp;have h2:=h.E.top k hk;rw[cu _ (by omega),cu _ (by omega)];exact h.C.km k hk p hp
 ·rw[cu _ (h.rvN a ha)];exact h.C.rv a ha
 ·rcases zr.1 hm with hm|hm
  ·rw[cu _ (h.Sb hm).2.2];exact h.C.tx k w' i a hm
  ·simp only[zt,Prod.mk.injEq]at hm;obtain⟨_,_,_,rfl⟩:=hm;exact di _ _ _
 ·rcases zr.1 hs with hs|hs<;>rcases zr.1 d with d|d
  ·exact h.C.inj s s' hs d he
  ·have :=(h.Sb hs).2.2;rw[zt.1 d]at he;simp only at he;omega
  ·have :=(h.Sb d).2.2;rw[zt.1 hs]at he;simp only at he;omega
  ·rw[zt.1 hs,zt.1 d]
 ·show(up r.ch w (hT [r.ch w,cT 1])) w'=chn (G (r.eps.length-1)) w' (up pos w (pos w+1) w');by_cases e:w'=w
  ·subst e;rw[di,di,h.ch w' c];rfl
  ·rw[dx e,dx e];exact h.ch w' c
 ·refine⟨(h.x w' c).1,?_⟩;have h1:=h.E.x (r.eps.length-1) (by omega) w' c;have h2:=h.E.top (r.eps.length-1) (by omega);rw[<-(h.x w' c).1]at h1;show up cl r.names 3 (r.x w')=1;rw[cu _ (by omega)];exact(h.x w' c).2
 ·refine⟨Ak (h.id w' c).1,?_⟩;show up cl r.names 3 (r.id w')=1;rw[cu _ (h.id w' c).1];exact(h.id w' c).2
 ·simp [Rn.send,h.len]
 ·simp [Rn.send,h.bln]
 ·rcases getElem?_snoc hs with⟨hj,hs⟩|⟨hj,rfl⟩
  ·obtain⟨e,h1,h2,h3,h4,h5,h6,h7,h8,b,h9,l⟩:=h.ky j s hs;refine⟨e,k8 h1,h2,h3,h4,h5,h6,Ak h7,λhe=> ?_,b,k8 h9,l⟩;have :=h8 he;by_cases e:s.2.1=w
   ·rw[e]at this⊢;rw[di];omega
   ·rw[dx e];exact this
  ·refine⟨⟨r.key w,r.eps.length-1,w,r.ix w⟩,?_,rfl,rfl,f,by show r.eps.length-1<r.eps.length;omega,hw,Nat.lt_succ_self _,λ_=>by rw[di];exact Nat.lt_succ_self _,r.last.rev,?_,?_⟩
   ·simp only[Rn.send];rw[hj,<-h.len];simp
   ·simp only[Rn.send];rw[hj,<-h.bln];simp
   ·rw[(h.ep _ _ (r8 hp)).2.2];constructor
    ·intro g;obtain⟨v,hv⟩:=List.exists_mem_of_ne_nil _ g;exact⟨v,hv,h.vn v hv w hw⟩
    ·rintro⟨v,hv,_⟩ he;rw[he]at hv;simp at hv
 ·by_cases e:w'=w
  ·subst e;rw[di];have :=h.vn v hv w' c;omega
  ·rw[dx e];exact h.vn v hv w' c
end Go.Mi.Term
namespace Go.Mi.Term
theorem Inv.xb {r:Rn} {G:Nat->GE} {rv:Nat->Prop} {S:List Snd} {cl:Nat->Nat} {pos:Nat->Nat} (h:Inv r G rv S cl pos) {w:Nat} (hw:w<2):r.x w<r.names:=by have hp:=h.E.pos;have h1:=h.E.x (r.eps.length-1) (by omega) w hw;have h2:=h.E.top (r.eps.length-1) (by omega);rw[(h.x w hw).1];omega
theorem Inv.next {r r' : Rn} {G : Nat -> GE} {rv : Nat -> Prop} {S : List Snd} {cl : Nat -> Nat} {pos : Nat -> Nat} (h : Inv r G rv S cl pos) {w : Nat} (hw : w < 2) (e' : Ep) (add : List Tm) (km : Option (Nat × Nat)) (inp : List Tm)
  (hinp:inp=[r.root,dT r.names (r.x (1-w))]++(match km with
   |none=>[]
   |some p=>[kT p.1 p.2])) (hN:r'.names<=1000000) (hNN:r.names<r'.names) (heps:r'.eps=r.eps++[e']) (he1:e'.dhs=[(r.names,r.x (1-w))]) (he2:e'.kem=km.isSome) (he3:e'.rev=false) (hkn:r'.known=r.known++add) (hrt:r'.root=hT (inp++[cT 2])) (hx:∀w',w'<2->r'.x w'=up r.x w r.names w') (hch:∀w',w'<2->r'.ch w'=hT (inp++[cT 3,pT (r'.x w')]))
  (hid:r'.id=r.id) (hrv:r'.rvd=r.rvd) (hky:r'.keys=r.keys) (hbh:r'.behind=r.behind) (hadd:∀t,t∈add->(∃a,a<r'.names/\t=pT a)\/∃a b,a<r'.names/\b<r'.names/\t=ctT a b) (hpN:pT r.names∈add) (hkm:∀p,km=some p->r.names<p.1/\p.1<r'.names/\r.names<p.2/\p.2<r'.names/\ctT p.1 p.2∈add):
  ∃G' cl',Inv r' G' rv S cl' (λ_=>0):=by
 have hp:=h.E.pos;obtain⟨n,hn⟩:∃n,r.eps.length=n:=⟨_,rfl⟩;obtain⟨N,o⟩:∃N,r.names=N:=⟨_,rfl⟩;obtain⟨N',m⟩:∃N,r'.names=N:=⟨_,rfl⟩;obtain⟨y,hy⟩:∃y,r.x (1-w)=y:=⟨_,rfl⟩;have D:y<N:=by rw[<-hy,<-o];exact h.xb (by omega)
 have F:cl y=1:=by rw[<-hy];exact(h.x (1-w) (by omega)).2
 have A:(G (n-1)).xs (1-w)=y:=by rw[<-hy,<-hn];exact(h.x (1-w) (by omega)).1.symm
 have u:∀w',w'<2->r'.x w'=if w'=w then N else r.x w':=λw' c=>by rw[hx w' c,o];rfl
 have hE:=h.E;have hK:=h.K;have hC:=h.C;have q:=h.rt;rw[hn,o]at hE hK;rw[hn]at hC q hp;rw[o]at hinp hpN hNN he1 hkm;rw[m]at hN hNN hkm;rw[hy]at hinp he1;simp only[m]at hadd
 let e:GE:=⟨N,N',λw'=>if w'=w then N else r.x w',inp,2,[(N,y)],km,[],λ_=>0⟩
 have d:∀k,k<n->up G n e k=G k:=λk hk=>dx (by omega);have f:up G n e n=e:=di _ _ _;have l:∀k,k<n+1->k<n\/k=n:=λk hk=>by omega
 have z:∀w',w'<2->e.xs w'<N':=λw' c=>by show(if w'=w then N else r.x w')<N';have :=h.xb c;split<;>omega
 have B:Eps (up G n e) (n+1) N':=by
  refine hE.next (e:=e) hN ?_ rfl ⟨y,rfl⟩ (λp hp=> ?_) (λp hp=> ?_) z ?_ (zH _) (zH _) (by omega)
  ·show inp=_;rw[hinp,q];rfl
  ·obtain rfl:=zt.1 hp;exact⟨hNN,by show y<N';omega⟩
  ·have :=hkm p hp;exact⟨this.2.1,this.2.2.2.1⟩
  ·show(if 0=w then N else r.x 0)≠(if 1=w then N else r.x 1);have h0:=h.xb (show 0<2 by omega);have h1:=h.xb (show 1<2 by omega);split<;>split<;>omega
 let cl':Nat->Nat:=λa=>if a<N then cl a else if a=N then 1 else 2
 have cu:∀a,a<N->cl' a=cl a:=λa ha=>zX ha;have cN:cl' N=1:=by show(if N<N then _ else if N=N then 1 else 2)=1;rw[zK (by omega),zX rfl]
 have c2:∀a,N<a->cl' a=2:=λa ha=>by show(if a<N then _ else if a=N then 1 else 2)=2;rw[zK (by omega),zK (by omega)]
 have sb:∀{s:Snd},s∈S->s.1<n/\s.2.1<2/\s.2.2.2<N:=λhs=>by have :=h.Sb hs;rw[hn,o]at this;exact this
 have g:r'.eps.length=n+1:=by rw[heps];simp [hn]
 have L:∀{t:Tm},t∈r.known->t∈r'.known:=λht=>by rw[hkn];exact zw _ ht
 have R:∀{t:Tm},t∈add->t∈r'.known:=λht=>by rw[hkn];exact zA _ ht
 refine⟨up G n e,cl',⟨by rw[g,m];exact B,?_,?_,λk ep hk=> ?_,by rw[hrv];exact h.rd,by rw[hrv];exact h.r0,λa ha=> ?_,?_,λw' c=> ?_,λw' c=> ?_,λw' c=> ?_,by rw[hky];exact h.len,by rw[hbh];exact h.bln,λj s hs=> ?_,λv hv=> ?_⟩⟩
 ·rw[g,m];refine⟨λt ht=> ?_,λj hj=>L (hK.con j hj),λk hk p hp=> ?_,λk hk w' c=> ?_,λk hk p hp=> ?_,λa ha=>L (hK.rev a ha),λk hk hr=> ?_,λk hk w' c v hv=> ?_,λk w' i a hm=> ?_⟩
  ·have ht:t∈r'.known:=ht;rw[hkn]at ht;rcases zr.1 ht with ht|ht
   ·rcases hK.cls t ht with h1|⟨a,h1,h2⟩|⟨a,b,h1,h2,h3⟩|⟨k,w',i,a,h1,h2,h3,h4,h5⟩|⟨a,h1,h2⟩|⟨k,h1,h2,h3⟩|⟨k,w',v,h1,h2,h3,h4⟩
    ·exact .inl h1
    ·exact .inr (.inl ⟨a,by omega,h2⟩)
    ·exact .inr (.inr (.inl ⟨a,b,by omega,by omega,h3⟩))
    ·exact .inr (.inr (.inr (.inl ⟨k,w',i,a,by omega,h2,by omega,h4,by rw[d k h1];exact h5⟩)))
    ·exact .inr (.inr (.inr (.inr (.inl ⟨a,by omega,h2⟩))))
    ·exact .inr (.inr (.inr (.inr (.inr (.inl ⟨k,by omega,by rw[d k h1];exact h2,by rw[d k h1];exact h3⟩)))))
    ·exact .inr (.inr (.inr (.inr (.inr (.inr ⟨k,w',v,by omega,h2,by rw[d k h1];exact h3,by rw[d k h1];exact h4⟩)))))
   ·rcases hadd t ht with h1|h1
    ·exact .inr (.inl h1)
    ·exact .inr (.inr (.inl h1))
  ·rcases l k hk with hk|rfl
   ·rw[d k hk]at hp;exact⟨L (hK.pub k hk p hp).1,L (hK.pub k hk p hp).2⟩
   ·rw[f]at hp;obtain rfl:=zt.1 hp;exact⟨R hpN,L (by rw[<-A];exact hK.xp (k-1) (by omega) (1-w) (by omega))⟩
  ·rcases l k hk with hk|rfl
   ·rw[d k hk];exact L (hK.xp k hk w' c)
   ·rw[f];show pT (if w'=w then N else r.x w')∈r'.known;split
    ·exact R hpN
    ·rw[(h.x w' c).1,hn];exact L (hK.xp (k-1) (by omega) w' c)
  ·rcases l k hk with hk|rfl
   ·rw[d k hk]at hp;exact L (hK.ct k hk p hp)
   ·rw[f]at hp;exact R (hkm p hp).2.2.2.2
  ·rcases l k hk with hk|rfl
   ·rw[d k hk]at hr⊢;exact L (hK.rt k hk hr)
   ·rw[f]at hr;exact absurd rfl hr
  ·rcases l k hk with hk|rfl
   ·rw[d k hk]at hv⊢;exact L (hK.chs k hk w' c v hv)
   ·rw[f]at hv;exact absurd hv (by simp [e])
  ·have :=sb hm;rw[d k this.1];exact L (hK.enc k w' i a hm)
 ·rw[g];refine⟨λk hk p hp=> ?_,λk hk p hp=> ?_,λa ha=> ?_,λk w' i a hm=> ?_,hC.inj⟩
  ·rcases l k hk with hk|rfl
   ·rw[d k hk]at hp;have h1:=hE.pr k hk p hp;have h2:=hE.top k hk;rw[cu _ (by omega),cu _ (by omega)];exact hC.pr k hk p hp
   ·rw[f]at hp;obtain rfl:=zt.1 hp;exact⟨cN,by show cl' y=1;rw[cu _ D];exact F⟩
  ·rcases l k hk with hk|rfl
   ·rw[d k hk]at hp;have h1:=hE.kmb k hk p hp;have h2:=hE.top k hk;rw[cu _ (by omega),cu _ (by omega)];exact hC.km k hk p hp
   ·rw[f]at hp;have :=hkm p hp;exact⟨c2 _ this.1,c2 _ this.2.2.1⟩
  ·rw[cu _ (by have :=h.rvN a ha;omega)];exact hC.rv a ha
  ·rw[cu _ (sb hm).2.2];exact hC.tx k w' i a hm
 ·rw[heps]at hk;rcases getElem?_snoc hk with⟨h1,h2⟩|⟨h1,rfl⟩
  ·rw[d k (by omega)];exact h.ep k ep h2
  ·rw[show k=n by omega,f];exact⟨he1,he2,by rw[he3];simp [e]⟩
 ·have :=h.rvN a ha;omega
 ·rw[g,A0,f];exact hrt
 ·rw[g,A0,f,hch w' c,u w' c];rfl
 ·rw[g,A0,f];refine⟨u w' c,?_⟩;rw[u w' c];split
  ·exact cN
  ·rw[cu _ (by have :=h.xb c;omega)];exact(h.x w' c).2
 ·rw[hid];have :=h.id w' c;exact⟨by omega,by rw[cu _ (by omega)];exact this.2⟩
 ·obtain⟨ek,h1,h2,h3,h4,h5,h6,h7,h8,b,h9,H⟩:=h.ky j s hs;rw[hn]at h5;refine⟨ek,by rw[hky];exact h1,h2,h3,by rw[d _ h5];exact h4,by omega,h6,by omega,λhe=>by omega,b,by rw[hbh];exact h9,by rw[d _ h5];exact H⟩
 ·rw[g,A0,f]at hv;exact absurd hv (by simp [e])
theorem Inv.turn {r:Rn} {G:Nat->GE} {rv:Nat->Prop} {S:List Snd} {cl:Nat->Nat} {pos:Nat->Nat} (h:Inv r G rv S cl pos) {w:Nat} (hw:w<2) (kem:Bool) (hN:r.names<900000):∃G' cl',Inv (r.turn w kem) G' rv S cl' (λ_=>0):=by
 cases kem with
 |false=>
  refine h.next hw ⟨[(r.names,r.x (1-w))],false,false⟩ [pT r.names] none [r.root,dT r.names (r.x (1-w))] (by simp) (by simp [Rn.turn,Rn.drawX,Rn.begin,Rn.rooted,Rn.chains,Rn.ended];omega) (by simp [Rn.turn,Rn.drawX,Rn.begin,Rn.rooted,Rn.chains,Rn.ended]) rfl rfl rfl rfl rfl rfl (λw' c=>rfl) (λw' c=> ?_) rfl rfl rfl rfl ?_ (by simp) (by simp)
  ·simp [Rn.turn,Rn.begin,Rn.ended,Rn.chains,Rn.rooted,Rn.drawX,c]
  ·intro t ht;obtain rfl:=zt.1 ht;exact .inl ⟨_,Nat.lt_succ_self _,rfl⟩
 |true=>
  refine h.next hw ⟨[(r.names,r.x (1-w))],true,false⟩ ([pT r.names]++[pT (r.names+1),ctT (r.names+1) (r.names+2)]) (some (r.names+1,r.names+2)) [r.root,dT r.names (r.x (1-w)),kT (r.names+1) (r.names+2)] (by simp) (by show r.names+3<=_;omega) (by show r.names<r.names+3;omega) rfl rfl rfl rfl ?_ rfl (λw' c=>rfl) (λw' c=> ?_) rfl rfl rfl rfl ?_ (by simp) ?_
  ·simp [Rn.turn,Rn.begin,Rn.ended,Rn.chains,Rn.rooted,Rn.drawX,Rn.drawKem,Rn.draw,Rn.sees]
  ·simp [Rn.turn,Rn.begin,Rn.ended,Rn.chains,Rn.rooted,Rn.drawX,Rn.drawKem,Rn.draw,Rn.sees,c]
  ·intro t ht;show(∃a,a<r.names+3/\_)\/∃a b,a<r.names+3/\b<r.names+3/\_;simp only[zr,zx,zI,or_false]at ht;rcases ht with rfl|rfl|rfl
   ·exact .inl ⟨_,by omega,rfl⟩
   ·exact .inl ⟨_,by omega,rfl⟩
   ·exact .inr ⟨_,_,by omega,by omega,rfl⟩
  ·intro p hp;cases hp;show r.names<r.names+1/\r.names+1<r.names+3/\r.names<r.names+2/\r.names+2<r.names+3/\_;refine⟨by omega,by omega,by omega,by omega,by simp⟩
end Go.Mi.Term
namespace Go.Mi.Term
theorem mN {m:ew} (h:∀k,0<=itl m k) (n:Int):(∀k,0<=itl (ist m n (itl m n+1)) k)/\∀k,(itl (ist m n (itl m n+1)) k≠0↔itl m k≠0\/k=n):=by
 refine⟨λk=> ?_,λk=> ?_⟩<;>by_cases e:k=n
 ·subst e;rw[iV];have :=h k;omega
 ·rw[iW e];exact h k
 ·subst e;rw[iV];have :=h k;simp;omega
 ·rw[iW e];simp [e]
theorem getElem?_modify' {α:Type} {l:List α} {i k:Nat} {f:α->α} {b:α} (h:(l.modify i f)[k]? =some b):∃a,l[k]? =some a/\b=if i=k then f a else a:=by
 rw[List.getElem?_modify]at h;cases hl:l[k]? with
 |none=>rw[hl]at h;simp at h
 |some a=>
  rw[hl]at h;refine⟨a,rfl,?_⟩;simp at h;rw[<-h]
  try (split<;>rfl)
theorem Inv.reveal {r:Rn} {G:Nat->GE} {rv:Nat->Prop} {S:List Snd} {cl:Nat->Nat} {pos:Nat->Nat} (h:Inv r G rv S cl pos) {w:Nat} (hw:w<2):∃G' rv',Inv (r.reveal w) G' rv' S cl pos:=by
 have hp:=h.E.pos;obtain⟨m,hm⟩:∃m,r.eps.length-1=m:=⟨_,rfl⟩;have D:m<r.eps.length:=by omega
 have W:∀k,∃l,more G m pos k=(G k).with l/\(l=(G k).rvs\/(k=m/\l=pos::(G k).rvs)):=lh G m pos
 have Wm:more G m pos m=(G m).with (pos::(G m).rvs):=di _ _ _
 have Wn:∀k,k≠m->more G m pos k=G k:=λk hk=>dx hk;have c:(r.reveal w).eps.length=r.eps.length:=by simp [Rn.reveal,Rn.marked,Rn.told,Rn.sees]
 have H:(r.reveal w).known=r.known++[aT (r.id w),aT (r.x w),r.root,r.ch 0,r.ch 1]:=rfl;have L:∀{t:Tm},t∈r.known->t∈(r.reveal w).known:=λht=>by rw[H];exact zw _ ht
 have R:∀{t:Tm},t∈[aT (r.id w),aT (r.x w),r.root,r.ch 0,r.ch 1]->t∈(r.reveal w).known:=λht=>by rw[H];exact zA _ ht
 have z:=h.rt;have u:=h.ch;have hx:=h.x;have M:=h.vn;rw[hm]at z M;simp only[hm]at u hx;have n:∀k v,v∈(G k).rvs->v∈(more G m pos k).rvs:=λk v hv=>by
  obtain⟨l,e,h1|⟨_,h1⟩⟩:=W k
  ·rw[e];show v∈l;rw[h1];exact hv
  ·rw[e];show v∈l;rw[h1];exact zN _ hv
 have ne:∀k,(more G m pos k).rvs≠[]->(G k).rvs≠[]\/k=m:=λk hk=>by
  obtain⟨l,e,h1|⟨h1,_⟩⟩:=W k
  ·rw[e]at hk;exact .inl (by rw[<-h1];exact hk)
  ·exact .inr h1
 have I:∀k,(G k).rvs≠[]->(more G m pos k).rvs≠[]:=λk hk he=>by obtain⟨v,hv⟩:=List.exists_mem_of_ne_nil _ hk;have :=n k v hv;rw[he]at this;simp at this
 have f:∀k,(more G m pos k).root=(G k).root:=λk=>by obtain⟨l,e,_⟩:=W k;rw[e];rfl
 have y:∀k w i,chn (more G m pos k) w i=chn (G k) w i:=λk w i=>by obtain⟨l,e,_⟩:=W k;rw[e,lF]
 have g:∀k w i,fB (more G m pos k) w i=fB (G k) w i:=λk w i=>by obtain⟨l,e,_⟩:=W k;rw[e,qJ]
 have q:∀k,(more G m pos k).prs=(G k).prs:=λk=>by obtain⟨l,e,_⟩:=W k;rw[e];rfl
 have J:∀k,(more G m pos k).km=(G k).km:=λk=>by obtain⟨l,e,_⟩:=W k;rw[e];rfl
 have O:∀k,(more G m pos k).xs=(G k).xs:=λk=>by obtain⟨l,e,_⟩:=W k;rw[e];rfl
 have o:∀k v,v∈(more G m pos k).rvs->v∈(G k).rvs\/(k=m/\v=pos):=λk v hv=>by
  obtain⟨l,e,h1|⟨h1,h2⟩⟩:=W k
  ·rw[e]at hv;exact .inl (by rw[<-h1];exact hv)
  ·rw[e]at hv;have hv:v∈l:=hv;rw[h2]at hv;rcases zx.1 hv with h3|h3
   ·exact .inr ⟨h1,h3⟩
   ·exact .inl h3
 have B:pos∈(more G m pos m).rvs:=by rw[Wm];show pos∈pos::(G m).rvs;simp
 have N:r.x w<r.names:=h.xb hw;have t1:=mN h.r0 (r.id w:Int);have t2:=mN t1.1 (r.x w:Int);have A:(r.reveal w).rvd=ist (ist r.rvd (r.id w:Int) (itl r.rvd (r.id w:Int)+1)) (r.x w:Int) (itl (ist r.rvd (r.id w:Int) (itl r.rvd (r.id w:Int)+1)) (r.x w:Int)+1):=rfl;refine⟨more G m pos,λa=>rv a\/a=r.id w\/a=r.x w,⟨by rw[c];exact h.E.more,?_,?_,λk e hk=> ?_,λa=> ?_,by rw[A];exact t2.1,λa ha=> ?_,by rw[c,hm,f];exact z,λw' d=>by rw[c,hm,y];exact u w' d,λw' d=>by rw[c,hm,O];exact hx w' d,h.id,h.len,h.bln,λj s hs=> ?_,λv hv w' d=> ?_⟩⟩
 ·rw[c];refine⟨λt ht=> ?_,λj hj=>L (h.K.con j hj),λk hk p hp=> ?_,λk hk w' d=>by rw[O];exact L (h.K.xp k hk w' d),λk hk p hp=> ?_,λa ha=> ?_,λk hk hr=> ?_,λk hk w' d v hv=> ?_,λk w' i a hm=>by rw[g];exact L (h.K.enc k w' i a hm)⟩
  ·have ht:t∈(r.reveal w).known:=ht;rw[H]at ht;rcases zr.1 ht with ht|ht
   ·rcases h.K.cls t ht with h1|h1|h1|⟨k,w',i,a,h1,h2,h3,h4,h5⟩|⟨a,h1,h2,h3⟩|⟨k,h1,h2,h3⟩|⟨k,w',v,h1,h2,h3,h4⟩
    ·exact .inl h1
    ·exact .inr (.inl h1)
    ·exact .inr (.inr (.inl h1))
    ·exact .inr (.inr (.inr (.inl ⟨k,w',i,a,h1,h2,h3,h4,by rw[g];exact h5⟩)))
    ·exact .inr (.inr (.inr (.inr (.inl ⟨a,h1,.inl h2,h3⟩))))
    ·exact .inr (.inr (.inr (.inr (.inr (.inl ⟨k,h1,I k h2,by rw[f];exact h3⟩)))))
    ·exact .inr (.inr (.inr (.inr (.inr (.inr ⟨k,w',v,h1,h2,n k v h3,by rw[y];exact h4⟩)))))
   ·simp only[zx,zI,or_false]at ht;rcases ht with rfl|rfl|rfl|rfl|rfl
    ·exact .inr (.inr (.inr (.inr (.inl ⟨_,(h.id w hw).1,.inr (.inl rfl),rfl⟩))))
    ·exact .inr (.inr (.inr (.inr (.inl ⟨_,N,.inr (.inr rfl),rfl⟩))))
    ·exact .inr (.inr (.inr (.inr (.inr (.inl ⟨m,D,by rw[Wm];simp [GE.with],by rw[f];exact z⟩)))))
    ·exact .inr (.inr (.inr (.inr (.inr (.inr ⟨m,0,pos,D,by omega,B,by rw[y];exact u 0 (by omega)⟩)))))
    ·exact .inr (.inr (.inr (.inr (.inr (.inr ⟨m,1,pos,D,by omega,B,by rw[y];exact u 1 (by omega)⟩)))))
  ·rw[q]at hp;exact⟨L (h.K.pub k hk p hp).1,L (h.K.pub k hk p hp).2⟩
  ·rw[J]at hp;exact L (h.K.ct k hk p hp)
  ·rcases ha with ha|rfl|rfl
   ·exact L (h.K.rev a ha)
   ·exact R (by simp)
   ·exact R (by simp)
  ·rw[f];rcases ne k hr with h1|rfl
   ·exact L (h.K.rt k hk h1)
   ·rw[<-z];exact R (by simp)
  ·rw[y];rcases o k v hv with h1|⟨rfl,rfl⟩
   ·exact L (h.K.chs k hk w' d v h1)
   ·rw[<-u w' d];rcases(by omega:w'=0\/w'=1)with rfl|rfl
    ·exact R (by simp)
    ·exact R (by simp)
 ·rw[c];refine⟨λk hk p hp=>h.C.pr k hk p (by rw[<-q];exact hp),λk hk p hp=>h.C.km k hk p (by rw[<-J];exact hp),λa ha=> ?_,h.C.tx,h.C.inj⟩;rcases ha with ha|rfl|rfl
  ·exact h.C.rv a ha
  ·exact(h.id w hw).2
  ·exact(h.x w hw).2
 ·have hk:(r.eps.modify (r.eps.length-1) λe=>{e with rev:=true})[k]? =some e:=hk;obtain⟨a,h1,rfl⟩:=getElem?_modify' hk;rw[hm];obtain⟨k1,k2,k3⟩:=h.ep k a h1;rw[q,J];by_cases e:m=k
  ·subst e;rw[zX rfl];exact⟨k1,k2,by simp [Wm,GE.with]⟩
  ·rw[zK e,Wn k (λh=>e h.symm)];exact⟨k1,k2,k3⟩
 ·rw[A,t2.2,t1.2,<-h.rd a];constructor
  ·rintro(h1|rfl|rfl)
   ·exact .inl (.inl h1)
   ·exact .inl (.inr rfl)
   ·exact .inr rfl
  ·rintro((h1|h1)|h1)
   ·exact .inl h1
   ·exact .inr (.inl (by omega))
   ·exact .inr (.inr (by omega))
 ·show a<r.names;rcases ha with ha|rfl|rfl
  ·exact h.rvN a ha
  ·exact(h.id w hw).1
  ·exact N
 ·obtain⟨ek,h1,h2,h3,h4,h5,h6,h7,h8,b,h9,P⟩:=h.ky j s hs;refine⟨ek,h1,h2,h3,by rw[g];exact h4,by rw[c];exact h5,h6,h7,by rw[c];exact h8,b,h9,P.trans ⟨λ⟨v,hv,F⟩=>⟨v,n _ v hv,F⟩,?_⟩⟩;rintro⟨v,hv,F⟩;rcases o _ v hv with h11|⟨h11,rfl⟩
  ·exact⟨v,h11,F⟩
  ·have :=h8 (by omega);omega
 ·rw[c,hm]at hv;rcases o m v hv with h1|⟨_,rfl⟩
  ·exact M v h1 w' d
  ·exact zH _
def ge0 (kem:Bool):GE:=⟨0,if kem then 6 else 4,λw=>2*w+1,Rn.inp0++(if kem then[kT 4 5]else[]),0,[(0,3),(1,2),(1,3)],if kem then some (4,5)else none,[],λ_=>0⟩
theorem Inv.new (kem:Bool):Inv (Rn.new kem) (λ_=>ge0 kem) (λ_=>False) [] (λa=>if a<4 then 1 else 2) (λ_=>0):=by
 have hE:Eps (λ_=>ge0 kem) 1 (if kem then 6 else 4):=by
  refine⟨by omega,by cases kem<;>decide,λk hk=> ?_,λk hk=> ?_,rfl,λk hk h0=>by omega,λk hk p hp=> ?_,λk hk p hp=> ?_,λk hk w hw=> ?_,λk hk=>by simp [ge0],λj k h1 h2=>by omega,λk hk=>zH _⟩
  ·have d:k=0:=by omega
   cases kem<;>simp [ge0,Rn.inp0,d]
  ·simp [ge0,show k=0 by omega]
  ·simp only[ge0,zx,zI,or_false]at hp;rcases hp with rfl|rfl|rfl<;>cases kem<;>simp [ge0]
  ·cases kem
   ·simp [ge0]at hp
   ·simp only[ge0,if_true,Option.some.injEq]at hp;subst hp;simp [ge0]
  ·simp only[ge0];cases kem<;>simp<;>omega
 have hl:(Rn.new kem).eps.length=1:=by cases kem<;>rfl
 have hn:(Rn.new kem).names=if kem then 6 else 4:=by cases kem<;>rfl
 have hk:(Rn.new kem).known=[cT 0,cT 1,cT 2,cT 3,pT 0,pT 1,pT 2,pT 3]++(if kem then[pT 4,ctT 4 5]else[]):=by cases kem<;>rfl
 refine⟨by rw[hl,hn];exact hE,?_,?_,λk e he=> ?_,λa=> ?_,λk=> ?_,λa ha=>ha.elim,?_,λw hw=> ?_,λw hw=> ?_,λw hw=> ?_,?_,?_,λj s hs=>by simp at hs,λv hv=> ?_⟩
 ·rw[hl,hn];have M:∀t,t∈[cT 0,cT 1,cT 2,cT 3,pT 0,pT 1,pT 2,pT 3]->t∈(Rn.new kem).known:=λt ht=>by rw[hk];exact zw _ ht
  refine⟨λt ht=> ?_,λj hj=>M _ ?_,λk b p hp=> ?_,λk b w hw=>M _ ?_,λk b p hp=> ?_,λa ha=>ha.elim,λk b hr=>absurd rfl hr,λk b w hw v hv=>by simp [ge0]at hv,λk w i a hm=>by simp at hm⟩
  ·have ht:t∈(Rn.new kem).known:=ht;rw[hk]at ht;rcases zr.1 ht with ht|ht
   ·simp only[zx,zI,or_false]at ht;rcases ht with rfl|rfl|rfl|rfl|rfl|rfl|rfl|rfl
    ·exact .inl ⟨0,by omega,rfl⟩
    ·exact .inl ⟨1,by omega,rfl⟩
    ·exact .inl ⟨2,by omega,rfl⟩
    ·exact .inl ⟨3,by omega,rfl⟩
    all_goals refine .inr (.inl ⟨_,?_,rfl⟩);cases kem<;>simp
   ·cases kem
    ·simp at ht
    ·simp only[if_true,zx,zI,or_false]at ht;rcases ht with rfl|rfl
     ·exact .inr (.inl ⟨4,by simp,rfl⟩)
     ·exact .inr (.inr (.inl ⟨4,5,by simp,by simp,rfl⟩))
  ·rcases(by omega:j=0\/j=1\/j=2\/j=3)with rfl|rfl|rfl|rfl<;>simp
  ·simp only[ge0,zx,zI,or_false]at hp;rcases hp with rfl|rfl|rfl<;>exact⟨M _ (by simp),M _ (by simp)⟩
  ·rcases(by omega:w=0\/w=1)with rfl|rfl<;>simp [ge0]
  ·cases kem
   ·simp [ge0]at hp
   ·simp only[ge0,if_true,Option.some.injEq]at hp;subst hp;show ctT 4 5∈(Rn.new true).known;rw[hk];simp
 ·rw[hl];refine⟨λk b p hp=> ?_,λk b p hp=> ?_,λa ha=>ha.elim,λk w i a hm=>by simp at hm,λs s' hs=>by simp at hs⟩
  ·simp only[ge0,zx,zI,or_false]at hp;rcases hp with rfl|rfl|rfl<;>decide
  ·cases kem
   ·simp [ge0]at hp
   ·simp only[ge0,if_true,Option.some.injEq]at hp;subst hp;decide
 ·have c:(Rn.new kem).eps=[⟨[(0,3),(1,2),(1,3)],kem,false⟩]:=by cases kem<;>rfl
  rw[c]at he;cases k with
  |zero=>simp at he;subst he;cases kem<;>simp [ge0]
  |succ k=>simp at he
 ·have :(Rn.new kem).rvd=[]:=by cases kem<;>rfl
  rw[this];simp [itl]
 ·have :(Rn.new kem).rvd=[]:=by cases kem<;>rfl
  rw[this];simp [itl]
 ·cases kem<;>rfl
 ·rcases(by omega:w=0\/w=1)with rfl|rfl<;>cases kem<;>rfl
 ·rcases(by omega:w=0\/w=1)with rfl|rfl<;>cases kem<;>exact⟨rfl,rfl⟩
 ·rcases(by omega:w=0\/w=1)with rfl|rfl<;>cases kem<;>decide
 ·cases kem<;>rfl
 ·cases kem<;>rfl
 ·simp [ge0]at hv
end Go.Mi.Term
namespace Go.Mi.Term
def Rn.wd (r:Rn):Wd:=⟨r.dh,r.kem⟩
section
variable {r:Rn} {G:Nat->GE} {rv:Nat->Prop} {S:List Snd} {cl:Nat->Nat} {pos:Nat->Nat}
theorem Inv.inpB (h:Inv r G rv S cl pos) {k:Nat} {e:Ep} (hk:r.eps[k]? =some e):nt r.wd rv (G k)↔r.inputB e=true:=by
 obtain⟨h1,h2,_⟩:=h.ep k e hk;have hz:∀a b:Nat,(itl r.rvd (a:Int)+itl r.rvd (b:Int)=0)↔¬(rv a\/rv b):=λa b=>by have h3:=h.r0 (a:Int);have h4:=h.r0 (b:Int);rw[h.rd a,h.rd b];omega
 unfold nt Rn.inputB;rw[h1,h2,zD];refine and_congr ?_ ?_
 ·cases hkm:(G k).km with
  |none=>simp
  |some p=>simp [Rn.wd]
 ·rw[z8,AL];refine or_congr Iff.rfl (forall_congr' λp=>imp_congr_right λ_=> ?_);have :=hz p.1 p.2;simp only[Aq,decide_eq_false_iff_not,this];exact Classical.not_not.symm
theorem Inv.whB (h:Inv r G rv S cl pos):∀k,k<r.eps.length->(whO r.wd rv G k↔r.wholeB k=true)
 |0,hk=>by
  have he:=zp hk;simp only[whO,Rn.wholeB,zG,he,zT];exact h.inpB he
 |k+1,hk=>by have he:=zp hk;have he2:=zp (show k<r.eps.length by omega);simp only[whO,Rn.wholeB,zG,he,he2,zT,zD,z8];refine and_congr (h.inpB he) (or_congr (h.ep _ _ he2).2.2.symm (Inv.whB h k (by omega)))
theorem Inv.at (h:Inv r G rv S cl pos) {j:Nat} (hj:j<r.keys.length):∃s e,S[j]? =some s/\r.keys[j]? =some e/\e.ep=s.1/\e.who=s.2.1/\e.t=fB (G s.1) s.2.1 s.2.2.1/\s.1<r.eps.length/\s.2.1<2/\s.2.2.2<r.names/\(nX r.wd rv G s.1 s.2.1 s.2.2.1↔r.cleanB j=false):=by have hs:=zp (show j<S.length by rw[<-h.len];exact hj);obtain⟨e,h1,h2,h3,h4,h5,h6,h7,_,b,h9,h10⟩:=h.ky j _ hs;refine⟨_,e,hs,h1,h2,h3,h4,h5,h6,h7,?_⟩;unfold nX Rn.cleanB;rw[zG,zG,h1,h9,zT,zT,h2,h.whB _ h5,<-h10];cases b<;>cases r.wholeB (S[j]'(by rw[<-h.len];exact hj)).1<;>simp
theorem Inv.law (h:Inv r G rv S cl pos) {j:Nat} (hj:j<r.keys.length):∃s e,S[j]? =some s/\r.keys[j]? =some e/\e.t=fB (G s.1) s.2.1 s.2.2.1/\(Der r.wd (λt=>t∈r.known) e.t↔r.cleanB j=false)/\(Der r.wd (λt=>t∈r.known) (aT s.2.2.2)↔r.cleanB j=false):=by obtain⟨s,e,h1,h2,h3,h4,h5,h6,h7,h8,h9⟩:=h.at hj;have hm:(s.1,s.2.1,s.2.2.1,s.2.2.2)∈S:=zC h1;obtain⟨k1,k2⟩:=uo (W:=r.wd) h.E h.K h.C h6 h7 hm h8;exact⟨s,e,h1,h2,h5,by rw[h5];exact k1.trans h9,k2.trans h9⟩
end
end Go.Mi.Term
namespace Go.Mi.Term
inductive Few:Tm->Prop
 |mk {k n:Int} {ks:List Tm}:ks.length<=1000000->(∀x,x∈ks->Few x)->Few (.mk k n ks)
structure Fine (m c:Nat) (t:Tm):Prop where
 sh:∀d,d+m<100->cy t d=true
 nd:cF t<=c
 nm:nrm t=t
 fw:Few t
structure gI (m c:Nat) (l:List Tm):Prop where
 sh:∀d,d+m<100->cA l d=true
 nd:co l<=c
 nm:gS l=l
 fw:∀x,x∈l->Few x
theorem Fine.mono {m c m' c':Nat} {t:Tm} (h:Fine m c t) (h1:m<=m') (h2:c<=c'):Fine m' c' t:=⟨λd hd=>h.sh d (by omega),zy h.nd h2,h.nm,h.fw⟩
theorem eX {m c:Nat}:gI m c []:=⟨λ_ _=>rfl,zV _,rfl,by simp⟩
theorem cD {m c1 c:Nat} {t:Tm} {l:List Tm} (h:Fine m c1 t) (k:gI m (c-c1) l) (hc:c1<=c):gI m c (t::l):=⟨λd hd=>by simp only[cA,h.sh d hd,k.sh d hd,Bool.and_self],by simp only[co];have :=h.nd;have :=k.nd;omega,by simp only[gS,h.nm,k.nm],λx hx=>by
 rcases zx.1 hx with rfl|hx
 ·exact h.fw
 ·exact k.fw x hx⟩
theorem jN {k:Int} {m c:Nat} {l:List Tm} (h:gI m c l) (hk:2<=k/\k<=9) (hl:low k<=l.length/\l.length<=dZ k):Fine (m+1) (c+1) (.mk k 0 l):=⟨λd hd=>by
 have h1:¬k=1:=by omega
 simp only[cy,h.sh (d+1) (by omega),named,Bc,zD,zU,z8,Aq,decide_eq_false_iff_not];exact⟨⟨by omega,.inl h1⟩,by omega,hl.1,hl.2⟩,by simp only[cF];have :=h.nd;omega,by simp only[nrm,h.nm];rw[zK (by omega)],.mk (by have :dZ k<=8:=by {unfold dZ;split<;>(try split)<;>(try split)<;>omega};omega) h.fw⟩
theorem hJ {n:Nat} (h:n<=1073741824):Fine 0 1 (aT n):=⟨λd hd=>mT (by omega) (by omega) (by omega),by simp [aT,cF,co],by simp [aT,nrm,gS],.mk (by simp) (by simp)⟩
theorem kA {k:Nat} (h:k<=3):Fine 0 1 (cT k):=hJ (by omega)
theorem oz {m c:Nat} {l:List Tm} (h:gI m c l) (h1:1<=l.length) (h8:l.length<=8):Fine (m+1) (c+1) (hT l):=jN h (by omega) (by simp [low,dZ];omega)
theorem mh {n:Nat} (h:n<=1073741824):Fine 1 2 (pT n):=jN (cD (hJ h) eX (by omega)) (by omega) (by simp [low,dZ])
theorem f6 {k:Int} {a b m c:Nat} (hk:3<=k/\k<=9/\k≠6) (ha:a<=1073741824) (hb:b<=1073741824) (hm:1<=m) (hc:3<=c):Fine m c (two k (aT a) (aT b)):=(jN (m:=0) (c:=2) (cD (hJ ha) (cD (hJ hb) eX (by omega)) (by omega)) (by omega) (by simp [low,dZ,show¬k=1 by omega,show¬k=2 by omega,hk.2.2])).mono (by omega) (by omega)
structure Sz (r:Rn) (a:Nat):Prop where
 rt:Fine (2+a) (16+10*a) r.root
 ch:∀w,w<2->Fine (2+a) (16+10*a) (r.ch w)
 kn:∀t,t∈r.known->Fine (4+a) (20+10*a) t
 ky:∀e,e∈r.keys->Fine (3+a) (18+10*a) e.t
 nm:r.names<=6+3*a
 ne:1<=r.eps.length/\r.eps.length<=1+a
 nk:r.known.length<=10+5*a
 nq:r.keys.length<=a
 nb:r.behind.length<=a
 ix:∀w,r.ix w<=a
 tm:∀k,0<=itl r.rvd k/\itl r.rvd k<=2*a
 xb:∀w,r.x w<=6+3*a
 ib:∀w,r.id w<=6+3*a
 dl:∀e,e∈r.eps->e.dhs.length<=3
theorem Sz.new (kem:Bool):Sz (Rn.new kem) 0:=by
 have hd:∀a b m c:Nat,a<=6->b<=6->1<=m->3<=c->Fine m c (dT a b):=λa b m c ha hb hm hc=>f6 (by omega) (by omega) (by omega) hm hc;have hk:∀a b m c:Nat,a<=6->b<=6->1<=m->3<=c->Fine m c (kT a b):=λa b m c ha hb hm hc=>f6 (by omega) (by omega) (by omega) hm hc;have hi:∀l:List Tm,l.length<=2->gI 1 3 l->Fine 2 16 (hT (Rn.inp0++((if kem then[kT 4 5]else[])++l))):=λl hl h=>by
  have :gI 1 15 (Rn.inp0++((if kem then[kT 4 5]else[])++l)):=by
   refine cD (c1:=3) (hd 0 3 1 3 (by omega) (by omega) (by omega) (by omega)) (cD (c1:=3) (hd 1 2 1 3 (by omega) (by omega) (by omega) (by omega)) (cD (c1:=3) (hd 1 3 1 3 (by omega) (by omega) (by omega) (by omega)) ?_ (by omega)) (by omega)) (by omega);cases kem with
   |false=>exact⟨h.sh,zy h.nd (by omega),h.nm,h.fw⟩
   |true=>exact cD (c1:=3) (hk 4 5 1 3 (by omega) (by omega) (by omega) (by omega)) h (by omega)
  exact oz this (by simp [Rn.inp0]) (by cases kem<;>simp [Rn.inp0]<;>omega)
 have d:gI 1 3 [cT 0]:=cD (c1:=1) ((kA (by omega)).mono (by omega) (by omega)) eX (by omega);have g:∀n:Nat,n<=6->gI 1 3 [cT 3,pT n]:=λn hn=>cD (c1:=1) ((kA (by omega)).mono (by omega) (by omega)) (cD (c1:=2) (mh (by omega)) eX (by omega)) (by omega);refine⟨?_,λw hw=> ?_,λt ht=> ?_,λe he=> ?_,?_,?_,?_,?_,?_,λw=> ?_,λk=> ?_,λw=> ?_,λw=> ?_,λe he=> ?_⟩
 ·have :=hi [cT 0] (by simp) d;cases kem<;>exact this
 ·have :=hi [cT 3,pT (2*w+1)] (by simp) (g _ (by omega));rcases(by omega:w=0\/w=1)with rfl|rfl<;>cases kem<;>exact this
 ·have f:(Rn.new kem).known=[cT 0,cT 1,cT 2,cT 3,pT 0,pT 1,pT 2,pT 3]++(if kem then[pT 4,ctT 4 5]else[]):=by cases kem<;>rfl
  rw[f]at ht;rcases zr.1 ht with ht|ht
  ·simp only[zx,zI,or_false]at ht;rcases ht with rfl|rfl|rfl|rfl|rfl|rfl|rfl|rfl
   all_goals first |exact(kA (by omega)).mono (by omega) (by omega)|exact(mh (by omega)).mono (by omega) (by omega)
  ·cases kem
   ·simp at ht
   ·simp only[if_true,zx,zI,or_false]at ht;rcases ht with rfl|rfl
    ·exact(mh (by omega)).mono (by omega) (by omega)
    ·exact f6 (by omega) (by omega) (by omega) (by omega) (by omega)
 ·have :(Rn.new kem).keys=[]:=by cases kem<;>rfl
  rw[this]at he;simp at he
 ·cases kem<;>decide
 ·cases kem<;>decide
 ·cases kem<;>decide
 ·cases kem<;>decide
 ·cases kem<;>decide
 ·cases kem<;>exact zH _
 ·have :(Rn.new kem).rvd=[]:=by cases kem<;>rfl
  rw[this];simp [itl]
 ·have :(Rn.new kem).x w=if w<2 then 2*w+1 else 0:=by cases kem<;>rfl
  rw[this];split<;>omega
 ·have :(Rn.new kem).id w=if w<2 then 2*w else 0:=by cases kem<;>rfl
  rw[this];split<;>omega
 ·have :(Rn.new kem).eps=[⟨[(0,3),(1,2),(1,3)],kem,false⟩]:=by cases kem<;>rfl
  rw[this]at he;simp at he;subst he;simp
theorem Sz.mono {r:Rn} {a:Nat} (h:Sz r a):Sz r (a+1):=⟨h.rt.mono (by omega) (by omega),λw hw=>(h.ch w hw).mono (by omega) (by omega),λt ht=>(h.kn t ht).mono (by omega) (by omega),λe he=>(h.ky e he).mono (by omega) (by omega),by have :=h.nm;omega,by have :=h.ne;omega,by have :=h.nk;omega,by have :=h.nq;omega,by have :=h.nb;omega,λw=>by have :=h.ix w;omega,λk=>by have :=h.tm k;omega,λw=>by have :=h.xb w;omega,λw=>by have :=h.ib w;omega,h.dl⟩
theorem Sz.world {r:Rn} {a:Nat} (h:Sz r a) (c:Nat) (d k:Bool):Sz {r with acts:=c,dh:=d,kem:=k} a:=⟨h.rt,h.ch,h.kn,h.ky,h.nm,h.ne,h.nk,h.nq,h.nb,h.ix,h.tm,h.xb,h.ib,h.dl⟩
theorem Sz.send {r:Rn} {a w:Nat} (h:Sz r a) (ha:a<=60) (hw:w<2):Sz (r.send w) (a+1):=by
 have k:=h.mono;have hc:∀i,i<=3->Fine (3+a) (18+10*a) (hT [r.ch w,cT i]):=λi hi=>(oz (m:=2+a) (c:=17+10*a) (cD (h.ch w hw) (cD (c1:=1) ((kA hi).mono (by omega) (by omega)) eX (by omega)) (by omega)) (by simp) (by simp)).mono (by omega) (by omega);have hnm:=h.nm;refine⟨k.rt,λw' b=> ?_,λt ht=> ?_,λe he=> ?_,?_,k.ne,?_,?_,?_,λw'=> ?_,k.tm,k.xb,k.ib,k.dl⟩
 ·show Fine _ _ (up r.ch w (hT [r.ch w,cT 1]) w');by_cases e:w'=w
  ·subst e;rw[di];exact(hc 1 (by omega)).mono (by omega) (by omega)
  ·rw[dx e];exact k.ch w' b
 ·rcases zr.1 ht with ht|ht
  ·exact k.kn t ht
  ·obtain rfl:=zt.1 ht;exact(jN (k:=7) (m:=3+a) (c:=19+10*a) (cD (hc 0 (by omega)) (cD (c1:=1) ((hJ (show r.names<=_ by omega)).mono (by omega) (by omega)) eX (by omega)) (by omega)) (by omega) (by simp [low,dZ])).mono (by omega) (by omega)
 ·rcases zr.1 he with he|he
  ·exact k.ky e he
  ·obtain rfl:=zt.1 he;exact(hc 0 (by omega)).mono (by omega) (by omega)
 ·show r.names+1<=_;omega
 ·simp only[Rn.send,zP,Ar];have :=h.nk;omega
 ·simp only[Rn.send,zP,Ar];have :=h.nq;omega
 ·simp only[Rn.send,zP,Ar];have :=h.nb;omega
 ·show up r.ix w (r.ix w+1) w'<=a+1;by_cases e:w'=w
  ·subst e;rw[di];have :=h.ix w';omega
  ·rw[dx e];exact k.ix w'
theorem Sz.turn {r:Rn} {a w:Nat} (h:Sz r a) (ha:a<=60) (kem:Bool):Sz (r.turn w kem) (a+1):=by
 have k:=h.mono;have hnm:=h.nm;have hxb:=h.xb (1-w);have hi:∀l:List Tm,l.length<=2->gI (2+a) 3 l->Fine (2+(a+1)) (16+10*(a+1)) (hT ([r.root,dT r.names (r.x (1-w))]++((if kem then[kT (r.names+1) (r.names+2)]else[])++l))):=λl hl hf=>by
  have hd:Fine (2+a) 3 (dT r.names (r.x (1-w))):=f6 (by omega) (by omega) (by omega) (by omega) (by omega);have hk:Fine (2+a) 3 (kT (r.names+1) (r.names+2)):=f6 (by omega) (by omega) (by omega) (by omega) (by omega);have :gI (2+a) (25+10*a) ([r.root,dT r.names (r.x (1-w))]++((if kem then[kT (r.names+1) (r.names+2)]else[])++l)):=by
   refine cD h.rt (cD (c1:=3) hd ?_ (by omega)) (by omega);cases kem with
   |false=>exact⟨hf.sh,zy hf.nd (by omega),hf.nm,hf.fw⟩
   |true=>exact cD (c1:=3) hk ⟨hf.sh,zy hf.nd (by omega),hf.nm,hf.fw⟩ (by omega)
  exact(oz this (by simp) (by cases kem<;>simp<;>omega)).mono (by omega) (by omega)
 have f:∀w',(up r.x w r.names) w'<=6+3*a:=λw'=>by
  by_cases e:w'=w
  ·subst e;rw[di];omega
  ·rw[dx e];exact h.xb w'
 have hc:∀i,i<=3->Fine (2+a) 1 (cT i):=λi hi=>(kA hi).mono (by omega) (by omega);have b:∀n:Nat,n<=1000->Fine (2+a) 2 (pT n):=λn hn=>(mh (by omega)).mono (by omega) (by omega);have rt:=hi [cT 2] (by simp) (cD (hc 2 (by omega)) eX (by omega));have ch:∀w',_:=λw'=>hi [cT 3,pT ((up r.x w r.names) w')] (by simp) (cD (hc 3 (by omega)) (cD (c1:=2) (b _ (by have :=f w';omega)) eX (by omega)) (by omega));have d:(r.turn w kem).known=r.known++(pT r.names::(if kem then[pT (r.names+1),ctT (r.names+1) (r.names+2)]else[])):=by cases kem<;>simp [Rn.turn,Rn.begin,Rn.ended,Rn.chains,Rn.rooted,Rn.drawX,Rn.drawKem,Rn.draw,Rn.sees]
 have c:(r.turn w kem).eps=r.eps++[⟨[(r.names,r.x (1-w))],kem,false⟩]:=by cases kem<;>rfl
 refine⟨?_,λw' g=> ?_,λt ht=> ?_,?_,?_,?_,?_,?_,?_,?_,?_,λw'=> ?_,?_,λe he=> ?_⟩
 ·cases kem<;>exact rt
 ·have :=ch w';cases kem
  ·simpa[Rn.turn,Rn.begin,Rn.ended,Rn.chains,Rn.rooted,Rn.drawX,g]using this
  ·simpa[Rn.turn,Rn.begin,Rn.ended,Rn.chains,Rn.rooted,Rn.drawX,Rn.drawKem,Rn.draw,Rn.sees,g]using this
 ·rw[d]at ht;rcases zr.1 ht with ht|ht
  ·exact k.kn t ht
  ·rcases zx.1 ht with rfl|ht
   ·exact(b _ (by omega)).mono (by omega) (by omega)
   ·cases kem
    ·simp at ht
    ·simp only[if_true,zx,zI,or_false]at ht;rcases ht with rfl|rfl
     ·exact(b _ (by omega)).mono (by omega) (by omega)
     ·exact f6 (by omega) (by omega) (by omega) (by omega) (by omega)
 ·cases kem<;>exact k.ky
 ·cases kem
  ·show r.names+1<=_;omega
  ·show r.names+3<=_;omega
 ·rw[c];simp only[zP,Ar];have :=h.ne;omega
 ·rw[d];simp only[zP,zZ];have :=h.nk;cases kem<;>simp<;>omega
 ·cases kem<;>exact k.nq
 ·cases kem<;>exact k.nb
 ·cases kem<;>exact k.ix
 ·cases kem<;>exact k.tm
 ·have :=f w';have :(r.turn w kem).x w'=up r.x w r.names w':=by cases kem<;>rfl
  omega
 ·cases kem<;>exact k.ib
 ·rw[c]at he;rcases zr.1 he with he|he
  ·exact h.dl e he
  ·obtain rfl:=zt.1 he;simp
theorem Sz.reveal {r:Rn} {a w:Nat} (h:Sz r a) (ha:a<=60):Sz (r.reveal w) (a+1):=by
 have k:=h.mono;have told:∀(m:ew) (b:Int) (n:Int),(∀k,0<=itl m k/\itl m k<=b)->∀k,0<=itl (ist m n (itl m n+1)) k/\itl (ist m n (itl m n+1)) k<=b+1:=λm b n hm k=>by
  by_cases e:k=n
  ·subst e;rw[iV];have :=hm k;omega
  ·rw[iW e];have :=hm k;omega
 refine⟨k.rt,k.ch,λt ht=> ?_,k.ky,k.nm,?_,?_,k.nq,k.nb,k.ix,λx=> ?_,k.xb,k.ib,λe he=> ?_⟩
 ·rcases zr.1 ht with ht|ht
  ·exact k.kn t ht
  ·simp only[zx,zI,or_false]at ht;have h1:=h.ib w;have h2:=h.xb w;rcases ht with rfl|rfl|rfl|rfl|rfl
   ·exact(hJ (by omega)).mono (by omega) (by omega)
   ·exact(hJ (by omega)).mono (by omega) (by omega)
   ·exact h.rt.mono (by omega) (by omega)
   ·exact(h.ch 0 (by omega)).mono (by omega) (by omega)
   ·exact(h.ch 1 (by omega)).mono (by omega) (by omega)
 ·have :(r.reveal w).eps.length=r.eps.length:=by simp [Rn.reveal,Rn.marked,Rn.told,Rn.sees]
  rw[this];exact k.ne
 ·show(r.known++[aT (r.id w),aT (r.x w),r.root,r.ch 0,r.ch 1]).length<=_;rw[zP];have :=h.nk;simp;omega
 ·have :=told _ _ (r.x w:Int) (told r.rvd (2*a) (r.id w:Int) h.tm) x;refine⟨this.1,Int.le_trans this.2 (by omega)⟩
 ·have he:e∈r.eps.modify (r.eps.length-1) λe=>{e with rev:=true}:=he;obtain⟨j,hj⟩:=An.1 he;obtain⟨e',h1,rfl⟩:=getElem?_modify' hj;have :=h.dl e' (zC h1);split<;>exact this
end Go.Mi.Term
