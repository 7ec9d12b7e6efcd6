/- Texts that belong together: H44, H45, H46, Y30, Y31, H47. General lemmas and walks; no conditions. -/
import Derived.Test.YtoefhjabaanokaaDoorH36
import Derived.Test.YtoefhjabaanokaaDoorH42
set_option linter.unusedSimpArgs false
set_option linter.unusedVariables false
set_option linter.unnecessarySimpa false
namespace Go.Mi.Term
open Go.Mi Go.Proofs Go.RowKit
structure Mn where
 r:Rn
 sn:List (Nat×Bool)
 tl:List Nat
 tp:Option (List Tm)
 tv:Value
 tq:List Tm
 lb:Nat
structure yC where
 e:Nat
 m:Nat
 n:Nat
 P:CX
def zf (l:List Ep):CX:=⟨λw X vs=>AllIs (EpIs w X) l vs,λh k hy hx=>h.imp λ_ _ e=>e.mv k hy hx⟩
def snL (l:List (Nat×Bool)):List Value:=l.flatMap λp=>[vI p.1,.bool p.2]
def tlL (l:List Nat):List Value:=l.map λ(n:Nat)=>vI (n:Int)
def KnIs (w:World) (X:List Nat) (ts:List Tm) (v:Value):Prop:=(v=vN/\ts=[])\/TlIs w X false ts v
theorem KnIs.mv {w w':World} {X X' Y:List Nat} {ts:List Tm} {v:Value} (h:KnIs w X ts v) (k:Ch Y w w') (hy:∀y,y∈Y->y∈X) (hx:∀x,x∈X'->x∈X\/w.heap.size<=x):KnIs w' X' ts v:=h.imp (λh=>h) λh=>h.mv k hy hx
abbrev knS (ts:List Tm):Sp TT:= .pr ⟨λg w v=>KnIs w g.X ts v,λh k=>h.mv k.ch (Gh.sub _) k.X⟩
def mrf (ks:List Ky) (es:List Ep) (sn:List (Nat×Bool)) (tl:List Nat) (ts us:List Tm):Nat->yC
 |0=>⟨73,6,ks.length,gT ks⟩
 |1=>⟨103,3,es.length,zf es⟩
 |2=>⟨107,2,sn.length,cxV (snL sn)⟩
 |3=>⟨3,1,tl.length,cxV (tlL tl)⟩
 |4=>⟨26,3,ts.length,dD ts⟩
 |_=>⟨26,3,us.length,dD us⟩
abbrev Mn.ts (m:Mn):List Tm:=m.tp.getD []
abbrev mrw (m:Mn) (i:Nat):yC:=mrf m.r.keys m.r.eps m.sn m.tl m.ts m.tq i
structure Mv where
 rt:T3
 c0:T3
 c1:T3
 vk:Value
 v:Nat->Value
def mcl (m:Mn) (q:Mv):List Value:=[vI m.r.names,vI (m.r.id 0),vI (m.r.id 1),vI (m.r.x 0),vI (m.r.x 1),vI q.rt.k,vI q.rt.n,.slice q.rt.ad q.rt.l q.rt.c,vI q.c0.k,vI q.c0.n,.slice q.c0.ad q.c0.l q.c0.c,vI q.c1.k,vI q.c1.n,.slice q.c1.ad q.c1.l q.c1.c,
 vI (m.r.ix 0),vI (m.r.ix 1),q.vk,q.v 0,.bool m.r.dh,.bool m.r.kem,vI m.r.acts,q.v 1,q.v 2,q.v 3]
def Mv.F (q:Mv) (b:Nat):List Nat:=b::(List.range 6).flatMap λi=>bC (q.v i)
theorem Mv.mem {q:Mv} {b x:Nat}:x∈q.F b↔x=b\/∃i,i<6/\x∈bC (q.v i):=by simp [Mv.F]
structure MRs (w:World) (X:List Nat) (base b:Nat) (m:Mn) (q:Mv):Prop where
 rt:IsT w X m.r.root q.rt.l3
 c0:IsT w X (m.r.ch 0) q.c0.l3
 c1:IsT w X (m.r.ch 1) q.c1.l3
 kt:KnIs w X m.r.known q.vk
 own:∀i,i<6->∃xs,Own w 0 (mrw m i).e (mrw m i).m (q.v i) (mrw m i).n xs/\(mrw m i).P.R w X xs
 nd:∀i j x,i<6->j<6->x∈bC (q.v i)->x∈bC (q.v j)->i=j
 nb:∀i,i<6->b∉bC (q.v i)
 lo:∀x,x∈bC (q.v 4)->base<=x
 h4:m.tp=none->q.v 4=vN
 l5:∀x,x∈bC (q.v 5)->m.lb<=x
 h5:q.v 5=m.tv
 sub:∀x,x∈q.F b->x∈X
structure MAt (w:World) (X:List Nat) (base b:Nat) (m:Mn) (q:Mv):Prop where
 hb:w.heap[b]? =some (.cells (mcl m q).toArray 69 (0,0))
 rs:MRs w X base b m q
def MIs (base b:Nat) (m:Mn) (F X:List Nat) (w:World):Prop:=∃q:Mv,F=q.F b/\MAt w X base b m q
section
variable {w w':World} {X X' C F:List Nat} {b base i:Nat} {m m':Mn} {q q':Mv}
theorem MRs.lt (h:MRs w X base b m q) (hi:i<6) {x:Nat} (hx:x∈bC (q.v i)):x<w.heap.size:=by obtain⟨xs,h1,_⟩:=h.own i hi;exact(h1.lt x hx).2
theorem MAt.lt (h:MAt w X base b m q):∀x,x∈q.F b->x<w.heap.size:=λx hx=>by
 rcases Mv.mem.1 hx with rfl|⟨i,hi,hx⟩
 ·exact cO h.hb
 ·exact h.rs.lt hi hx
theorem MRs.mv (h:MRs w X base b m q) (k:Ch C w w') (hc:∀c,c∈C->c∈X/\(c∉q.F b\/c=b)) (hx:∀x,x∈X'->x∈X\/w.heap.size<=x) (hs:∀x,x∈q.F b->x∈X'):MRs w' X' base b m q:=by
 have hy:∀y,y∈C->y∈X:=λy hy=>(hc y hy).1;refine⟨IsT.mv k hy hx _ _ h.rt,IsT.mv k hy hx _ _ h.c0,IsT.mv k hy hx _ _ h.c1,h.kt.mv k hy hx,λi hi=> ?_,h.nd,h.nb,h.lo,h.h4,h.l5,h.h5,hs⟩;obtain⟨xs,h1,h2⟩:=h.own i hi;refine⟨xs,h1.mv k λx hx hm=> ?_,(mrw m i).P.st h2 k hy hx⟩;rcases(hc x hm).2 with h3|rfl
 ·exact h3 (Mv.mem.2 (.inr ⟨i,hi,hx⟩))
 ·exact h.nb i hi hx
theorem MAt.mv (h:MAt w X base b m q) (k:Ch C w w') (hc:∀c,c∈C->c∈X/\c∉q.F b) (hx:∀x,x∈X'->x∈X\/w.heap.size<=x) (hs:∀x,x∈q.F b->x∈X'):MAt w' X' base b m q:=by refine⟨?_,h.rs.mv k (λc hm=>⟨(hc c hm).1,.inl (hc c hm).2⟩) hx hs⟩;rw[k.blk b (cO h.hb) λhm=>(hc b hm).2 (Mv.mem.2 (.inl rfl))];exact h.hb
theorem MIs.mv (h:MIs base b m F X w) (k:Ch C w w') (hc:∀c,c∈C->c∈X/\c∉F) (hx:∀x,x∈X'->x∈X\/w.heap.size<=x) (hs:∀x,x∈F->x∈X'):MIs base b m F X' w':=by obtain⟨q,rfl,h⟩:=h;exact⟨q,rfl,h.mv k hc hx hs⟩
theorem MIs.lt (h:MIs base b m F X w):∀x,x∈F->x<w.heap.size:=by obtain⟨q,rfl,h⟩:=h;exact h.lt
theorem MIs.any {base':Nat} (h:MIs base b m F X w) (h0:m.tp=none):MIs base' b m F X w:=by obtain⟨q,e,h1,h⟩:=h;exact⟨q,e,h1,h.rt,h.c0,h.c1,h.kt,h.own,h.nd,h.nb,λx hx=>by rw[h.h4 h0]at hx;simp [bC]at hx,h.h4,h.l5,h.h5,h.sub⟩
theorem MRs.upd (h:MRs w X base b m q) (k:Ch [b] w w') (hv:q'.v=q.v) (hr:∀i,mrw m' i=mrw m i) (ht:m'.tp=m.tp/\m'.tv=m.tv/\m'.lb=m.lb) (k1:IsT w X m'.r.root q'.rt.l3) (k2:IsT w X (m'.r.ch 0) q'.c0.l3) (k3:IsT w X (m'.r.ch 1) q'.c1.l3) (k4:KnIs w X m'.r.known q'.vk):MRs w' X base b m' q'/\q'.F b=q.F b:=by
 have eF:q'.F b=q.F b:=by simp only[Mv.F,hv]
 have hy:∀y,y∈[b]->y∈X:=λy hy=>by rw[zt.1 hy];exact h.sub b (Mv.mem.2 (.inl rfl))
 have hx:∀x,x∈X->x∈X\/w.heap.size<=x:=λ_ h=> .inl h;have h2:=h.mv k (λc hc=>⟨hy c hc,.inr (zt.1 hc)⟩) hx h.sub;refine⟨⟨IsT.mv k hy hx _ _ k1,IsT.mv k hy hx _ _ k2,IsT.mv k hy hx _ _ k3,k4.mv k hy hx,λi hi=> ?_,?_,?_,?_,?_,?_,?_,by rw[eF];exact h.sub⟩,eF⟩
 ·rw[hr i,hv];exact h2.own i hi
 ·rw[hv];exact h.nd
 ·rw[hv];exact h.nb
 ·rw[hv];exact h.lo
 ·rw[hv,ht.1];exact h.h4
 ·rw[hv,ht.2.2];exact h.l5
 ·rw[hv,ht.2.1];exact h.h5
theorem MRs.put {v' : Value} {zs : List Value} (hi : i < 6) (h : MRs w X base b m q) (hbl : b < w.heap.size) (hbs : base <= w.heap.size) (hch : Ch (bC (q.v i)) w w') (ho : ∀ x, x ∈ bC v' -> x ∈ bC (q.v i) \/ x = w.heap.size) (hown : Own w' 0 (mrw m' i).e (mrw m' i).m v' (mrw m' i).n zs) (hP : (mrw m' i).P.R w' X' zs) (hsame : ∀ j, j < 6 -> j ≠ i -> mrw m' j = mrw m j)
  (h4:m'.tp=none->up q.v i v' 4=vN) (h5:up q.v i v' 5=m'.tv) (hlb:m'.lb=m.lb) (hbs5:i=5->m.lb<=w.heap.size) (hx:∀x,x∈X'->x∈X\/w.heap.size<=x) (hs:∀x,x∈({q with v:=up q.v i v'}:Mv).F b->x∈X') (er:m'.r.root=m.r.root) (ec:m'.r.ch=m.r.ch) (ek:m'.r.known=m.r.known):MRs w' X' base b m' {q with v:=up q.v i v'}:=by
 have hy:∀y,y∈bC (q.v i)->y∈X:=λy hy=>h.sub y (Mv.mem.2 (.inr ⟨i,hi,hy⟩));have hu:∀j,(j=i/\up q.v i v' j=v')\/(j≠i/\up q.v i v' j=q.v j):=λj=>by
  by_cases e:j=i
  ·subst e;exact .inl ⟨rfl,di _ _ _⟩
  ·exact .inr ⟨e,dx e⟩
 refine⟨by rw[er];exact IsT.mv hch hy hx _ _ h.rt,by rw[ec];exact IsT.mv hch hy hx _ _ h.c0,by rw[ec];exact IsT.mv hch hy hx _ _ h.c1,by rw[ek];exact h.kt.mv hch hy hx,λj hj=> ?_,λj k x hj hk h1 h2=> ?_,λj hj hb=> ?_,λx hx=> ?_,h4,λx hx=> ?_,h5,hs⟩
 ·rcases hu j with⟨rfl,e⟩|⟨hn,e⟩
  ·exact⟨zs,by show Own w' 0 _ _ (up q.v j v' j) _ _;rw[e];exact hown,hP⟩
  ·obtain⟨xs,h1,h2⟩:=h.own j hj;refine⟨xs,?_,by rw[hsame j hj hn];exact(mrw m j).P.st h2 hch hy hx⟩;show Own w' 0 _ _ (up q.v i v' j) _ _;rw[e,hsame j hj hn];exact h1.mv hch λx hx hm=>hn (h.nd j i x hj hi hx hm)
 ·have h1:x∈bC (up q.v i v' j):=h1;have h2:x∈bC (up q.v i v' k):=h2;rcases hu j with⟨e1,e⟩|⟨hn,e⟩<;>rcases hu k with⟨e2,e'⟩|⟨hn',e'⟩<;>rw[e]at h1<;>rw[e']at h2
  ·omega
  ·rcases ho x h1 with h3|h3
   ·rw[e1];exact h.nd i k x hi hk h3 h2
   ·have :=h.lt hk h2;omega
  ·rcases ho x h2 with h3|h3
   ·rw[e2];exact h.nd j i x hj hi h1 h3
   ·have :=h.lt hj h1;omega
  ·exact h.nd j k x hj hk h1 h2
 ·have hb:b∈bC (up q.v i v' j):=hb;rcases hu j with⟨_,e⟩|⟨_,e⟩<;>rw[e]at hb
  ·rcases ho b hb with h3|h3
   ·exact h.nb i hi h3
   ·omega
  ·exact h.nb j hj hb
 ·have hx:x∈bC (up q.v i v' 4):=hx;rcases hu 4 with⟨e1,e⟩|⟨_,e⟩<;>rw[e]at hx
  ·rcases ho x hx with h3|h3
   ·subst e1;exact h.lo x h3
   ·omega
  ·exact h.lo x hx
 ·have hx:x∈bC (up q.v i v' 5):=hx;rw[hlb];rcases hu 5 with⟨e1,e⟩|⟨_,e⟩<;>rw[e]at hx
  ·rcases ho x hx with h3|h3
   ·subst e1;exact h.l5 x h3
   ·have :=hbs5 e1.symm;omega
  ·exact h.l5 x hx
end
def b7 (base b:Nat) (m:Mn):RX:=⟨λg w=>(∀y,y∈g.Y->y<base)/\base<=w.heap.size/\MIs base b m g.F g.X w,λ{g g'} _ _ _ ⟨h1,h2,h⟩ k hc hf hy hx _=>⟨by rw[hy];exact h1,zy h2 k.size,by
 rw[hf];exact h.mv k (λc hm=>⟨(hc c hm).1,(hc c hm).2.1⟩) hx λx hx=>by simp [Gh.X,hf,hx]⟩⟩
def e_ (base b:Nat) (m:Mn) (q:Mv):RX:=⟨λg w=>(∀y,y∈g.Y->y<base)/\base<=w.heap.size/\g.F=q.F b/\MAt w g.X base b m q,λ{g g'} _ _ _ ⟨h0,h1',h1,h2⟩ k hc hf hy hx _=>⟨by rw[hy];exact h0,zy h1' k.size,hf.trans h1,h2.mv k (λc hm=>⟨(hc c hm).1,by rw[<-h1];exact(hc c hm).2.1⟩) hx λx hm=>by simp [Gh.X,hf,h1,hm]⟩⟩
def fX (b:Nat) (m:Mn) (q:Mv):RX:=⟨λg w=>g.F=[]/\(∀x,x∈q.F b->x∈g.Y)/\MAt w g.X 0 b m q,λ{g g'} _ _ _ ⟨h1,h2,h3⟩ k hc hf hy hx _=>⟨hf.trans h1,by rw[hy];exact h2,h3.mv k (λc hm=>⟨(hc c hm).1,λh=>(hc c hm).2.2 (h2 c h)⟩) hx λx hm=>by
 have :=h2 x hm;simp [Gh.X,hy,this]⟩⟩
def gl (base b:Nat) (m:Mn) (off k:Nat):RX:=⟨λg w=>(∀y,y∈g.Y->y<base)/\base<=w.heap.size/\∃(q:Mv) (v old:Value),g.F=q.F b/\g.N[k]? =some v/\v.oneCell'=true/\(mcl m q)[off]? =some v/\w.heap[b]? =some (.cells ((mcl m q).set off old).toArray 69 (0,0))/\MRs w g.X base b m q,λ{g g'} w _ _ ⟨h0,h0',q,v,old,h1,h2,h2',h3,h4,h5⟩ k hc hf hy hx hN=>by
 refine⟨by rw[hy];exact h0,zy h0' k.size,q,v,old,hf.trans h1,hN _ _ h2,h2',h3,?_,h5.mv k (λc hm=>⟨(hc c hm).1,.inl (by rw[<-h1];exact(hc c hm).2.1)⟩) hx λx hm=>by simp [Gh.X,hf,h1,hm]⟩;rw[k.blk b (cO h4) λhm=>(hc b hm).2.1 (by rw[h1];exact Mv.mem.2 (.inl rfl))];exact h4⟩
def jv (base b:Nat) (m:Mn) (k:Nat):RX:=⟨λg w=>(∀y,y∈g.Y->y<base)/\base<=w.heap.size/\∃(q:Mv),g.F=q.F b/\g.N[k]? =some (q.v 4)/\MAt w g.X base b m q,λ{g g'} w _ _ ⟨h0,h0',q,h1,h2,h5⟩ k hc hf hy hx hN=>⟨by rw[hy];exact h0,zy h0' k.size,q,hf.trans h1,hN _ _ h2,h5.mv k (λc hm=>⟨(hc c hm).1,by rw[<-h1];exact(hc c hm).2.1⟩) hx λx hm=>by simp [Gh.X,hf,h1,hm]⟩⟩
def oN (ρ:RX) (b:Nat) (m:Mn):Prop:=∀g w,ρ.P g w->∃base q,MAt w g.X base b m q
def HasMQ (ρ:RX) (b:Nat) (m:Mn) (q:Mv):Prop:=∀g w,ρ.P g w->∃base,MAt w g.X base b m q
theorem dr (base b:Nat) (m:Mn):oN (b7 base b m) b m:=λ_ _ ⟨_,_,q,_,h⟩=>⟨_,q,h⟩
theorem d8 (base b:Nat) (m:Mn) (q:Mv):HasMQ (e_ base b m q) b m q:=λ_ _ ⟨_,_,_,h⟩=>⟨_,h⟩
theorem cZ (b:Nat) (m:Mn) (q:Mv):HasMQ (fX b m q) b m q:=λ_ _ ⟨_,_,h⟩=>⟨_,h⟩
theorem SS.openM {L:TL TT} {n b base:Nat} {m:Mn} {ns:List (Nat×Sp TT)} {g0 g:Gh} {w0 w:World} {a:Act} (h:SS L n (stB (b7 base b m) ns) g0 w0 a g w):∃q,SS L n (stB (e_ base b m q) ns) g0 w0 a g w:=by obtain⟨h0,h0',q,h1,h2⟩:=h.b.run;exact⟨q,h.t,⟨h.b.wf,h.b.pl,⟨h0,h0',h1,h2⟩,h.b.nd,h.b.len,h.b.cell⟩,h.f⟩
theorem SS.shutM {L:TL TT} {n b base:Nat} {m:Mn} {q:Mv} {ns:List (Nat×Sp TT)} {g0 g:Gh} {w0 w:World} {a:Act} (h:SS L n (stB (e_ base b m q) ns) g0 w0 a g w):SS L n (stB (b7 base b m) ns) g0 w0 a g w:=
 ⟨h.t,⟨h.b.wf,h.b.pl,⟨h.b.run.1,h.b.run.2.1,q,h.b.run.2.2.1,h.b.run.2.2.2⟩,h.b.nd,h.b.len,h.b.cell⟩,h.f⟩
end Go.Mi.Term
namespace Go.Mi.Term
open Go.Mi Go.Proofs Go.RowKit
theorem we {ks:List Ky} {es:List Ep} {sn:List (Nat×Bool)} {tl:List Nat} {ts ts' us:List Tm} {j:Nat} (h:j<6) (hj:j≠4):mrf ks es sn tl ts us j=mrf ks es sn tl ts' us j:=by
 rcases(show j=0\/j=1\/j=2\/j=3\/j=5 by omega)with rfl|rfl|rfl|rfl|rfl<;>rfl
abbrev Mn.w (m:Mn) (r:Rn):Mn:={m with r:=r}
theorem tC {m:Mn} {l:List Tm} (hn:m.tp=none):{m with r:={m.r with known:=[]++m.r.known++l},tp:=none}=m.w (m.r.sees l):=by obtain⟨r,sn,tl,tp,tv,tq,lb⟩:=m;obtain rfl:tp=none:=hn;rfl
def ju (b:Nat) (m':Mn) (Y F:List Nat) (w:World) (post:List Nat->World->Value->Prop) (v:Value) (w':World):Prop:=∃F',Ch F w w'/\(∀x,x∈F'->x∈F\/w.heap.size<=x)/\MIs 0 b m' F' (F'++Y) w'/\post (F'++Y) w' v
section
set_option maxRecDepth 100000
variable {ops:List Oper} {n:Nat} {B:Nat->BX XX} {i p b k o base:Nat} {L:TL TT} {ph:List Nat} {ρ:RX} {ns:List (Nat×Sp TT)} {ds:Option Tmp} {ty:TypeId} {pos:String} {af:Array Edge} {gu:Option (Nat×Bool)} {t:TypeId} {m m':Mn} {q:Mv} {v:Value} {x y:Operand}
theorem cU {d:TypeDesc} (hr:oN ρ b m) (hB0:B p=stB ρ ns) (hop:ops.getD i default=⟨ds,.load ty x,t,pos,af,gu⟩) (hx:spO L x=some (eP b k)) (ht:Tryd.prog.underlying ty=some d) (hf:TypeDesc.flat d=true) (hv:∀q,(mcl m q)[k]? =some v):EOb Tryd.prog n ops XX B ⟨i,L,eqS v,ph,false⟩ p:=gZ hB0 λξ g w hB hH=>by obtain⟨_,q,h⟩:=hr g w hB.run;rw[hop];exact⟨v,rfl,bJ ht hf (bF hx) (by rw[cG h.hb];simpa using hv q)⟩
theorem cE {d:TypeDesc} (hr:HasMQ ρ b m q) (hB0:B p=stB ρ ns) (hop:ops.getD i default=⟨ds,.load ty x,t,pos,af,gu⟩) (hx:spO L x=some (eP b k)) (ht:Tryd.prog.underlying ty=some d) (hf:TypeDesc.flat d=true) (hv:(mcl m q)[k]? =some v):EOb Tryd.prog n ops XX B ⟨i,L,eqS v,ph,false⟩ p:=gZ hB0 λξ g w hB hH=>by obtain⟨_,h⟩:=hr g w hB.run;rw[hop];exact⟨v,rfl,bJ ht hf (bF hx) (by rw[cG h.hb];simpa using hv)⟩
theorem la (hr:oN ρ b m) (hB0:B p=stB ρ ns) (hop:ops.getD i default=⟨ds,.load 26 x,t,pos,af,gu⟩) (hx:spO L x=some (eP b 5)):EOb Tryd.prog n ops XX B ⟨i,L,tmS m.r.root,ph,false⟩ p:=gZ hB0 λξ g w hB hH=>by obtain⟨_,q,h⟩:=hr g w hB.run;rw[hop];exact⟨_,⟨_,_,_,rfl,h.rs.rt⟩,cb Tryd.underlying26 rfl b6 (bF hx) (At.part (vs:=mcl m q) (by have :=At.of_blk h.hb;simpa using this) 5 rfl) rfl⟩
theorem im {j:Nat} (hj:j<2) (hr:oN ρ b m) (hB0:B p=stB ρ ns) (hop:ops.getD i default=⟨ds,.load 26 x,t,pos,af,gu⟩) (hx:spO L x=some (eP b (8+j*3))):EOb Tryd.prog n ops XX B ⟨i,L,tmS (m.r.ch j),ph,false⟩ p:=gZ hB0 λξ g w hB hH=>by
 obtain⟨_,q,h⟩:=hr g w hB.run;rw[hop];have hat:At w b 0 (mcl m q):=by have :=At.of_blk h.hb;simpa using this
 rcases(by omega:j=0\/j=1)with rfl|rfl
 ·exact⟨_,⟨_,_,_,rfl,h.rs.c0⟩,cb Tryd.underlying26 rfl b6 (bF hx) (At.part (vs:=mcl m q) hat 8 rfl) rfl⟩
 ·exact⟨_,⟨_,_,_,rfl,h.rs.c1⟩,cb Tryd.underlying26 rfl b6 (bF hx) (At.part (vs:=mcl m q) hat 11 rfl) rfl⟩
theorem o4 (hr:oN ρ b m) (hB0:B p=stB ρ ns) (hop:ops.getD i default=⟨ds,.load 24 x,t,pos,af,gu⟩) (hx:spO L x=some (eP b 16)):EOb Tryd.prog n ops XX B ⟨i,L,knS m.r.known,ph,false⟩ p:=gZ hB0 λξ g w hB hH=>by obtain⟨_,q,h⟩:=hr g w hB.run;rw[hop];exact⟨q.vk,h.rs.kt,bJ Tryd.underlying24 rfl (bF hx) (by rw[cG h.hb];simp [mcl])⟩
theorem gy {g : Gh} {w w' : World} {q' : Mv} (hB : StB ρ ns g w) (h0 : ∀ y, y ∈ g.Y -> y < base) (h0' : base <= w.heap.size) (hF : g.F = q.F b) (hrs : MRs w g.X base b m q) (hu : Upd w w' b (mcl m' q').toArray 69) (hv : q'.v = q.v) (hr : ∀ i, mrw m' i = mrw m i) (ht : m'.tp = m.tp /\ m'.tv = m.tv /\ m'.lb = m.lb)
  (k1:IsT w g.X m'.r.root q'.rt.l3) (k2:IsT w g.X (m'.r.ch 0) q'.c0.l3) (k3:IsT w g.X (m'.r.ch 1) q'.c1.l3) (k4:KnIs w g.X m'.r.known q'.vk):TT g w g w'/\StB (b7 base b m') ns g w':=by
 obtain⟨h1,h2⟩:=hrs.upd hu.ch hv hr ht k1 k2 k3 k4;have hbF:b∈g.F:=by rw[hF];exact Mv.mem.2 (.inl rfl)
 obtain⟨t1,t2⟩:=hB.run' (ρ':=b7 base b m') (g':=g) (l:=[]) (l':=[]) (hu.ch.mono (by simp [hbF])) (λx hx=> .inl hx) (λx hx=>zE (hB.wf.lt x (by simp [Gh.X,hx])) hu.ch.size) rfl rfl (by simp) rfl (by simp) (by simp) ⟨h0,zy h0' hu.ch.size,q',by rw[h2];exact hF,hu.blk,h1⟩;exact⟨t1,by simpa using t2⟩
theorem gm (hB0 : B p = stB (b7 base b m) ns) (hB1 : B (p + 1) = stB (b7 base b m') ns) (hop : ops.getD i default = ⟨ds, .store ty x y, t, pos, af, gu⟩) (hs : (Tryd.prog.info? ty).map (·.size) = some 1) (hx : spO L x = some (eP b k)) (hy : spO L y = some (eqS v)) (h1 : v.oneCell' = true) (hk : k < 24) (hset : ∀ q, (mcl m q).set k v = mcl m' q)
  (hr:∀i,mrw m' i=mrw m i) (ht:m'.tp=m.tp/\m'.tv=m.tv/\m'.lb=m.lb) (e1:m'.r.root=m.r.root) (e2:m'.r.ch=m.r.ch) (e3:m'.r.known=m.r.known):EOb Tryd.prog n ops XX B ⟨i,L,bB,ph,true⟩ p:=by
 intro ξ g w hB hH;rw[hB0]at hB;have hB:StB (b7 base b m) ns g w:=hB;obtain⟨h0,h0',q,hF,h⟩:=hB.run;show Ok1 Tryd.prog (ops.getD i default) _ _ _ _;rw[hop];refine(dk hs (bF hx) (bF hy) h1 h.hb (by simp [mcl];exact hk)).mono ?_;intro _ w' hu;have hu:Upd w w' b (mcl m' q).toArray 69:=by
  have :(mcl m q).toArray.setIfInBounds k v=(mcl m' q).toArray:=by rw[<-hset q];simp
  rw[<-this];exact hu
 obtain⟨t1,t2⟩:=gy hB h0 h0' hF h.rs hu rfl hr ht (by rw[e1];exact h.rs.rt) (by rw[e2];exact h.rs.c0) (by rw[e2];exact h.rs.c1) (by rw[e3];exact h.rs.kt);exact⟨g,⟨t1,by show(B (p+1)).P _ _;rw[hB1];exact t2⟩,zo⟩
theorem qo {u:Tm} (hB0:B p=stB (b7 base b m) ns) (hB1:B (p+1)=stB (b7 base b {m with r:={m.r with root:=u}}) ns) (hop:ops.getD i default=⟨ds,.store 26 x y,t,pos,af,gu⟩) (hx:spO L x=some (eP b 5)) (hy:spO L y=some (tmS u)):EOb Tryd.prog n ops XX B ⟨i,L,bB,ph,true⟩ p:=by intro ξ g w hB hH;rw[hB0]at hB;have hB:StB (b7 base b m) ns g w:=hB;obtain⟨h0,h0',q,hF,h⟩:=hB.run;show Ok1 Tryd.prog (ops.getD i default) _ _ _ _;rw[hop];obtain⟨vy,h1,h2⟩:=bH hy hH;obtain⟨a1,a2,ad,l,c,rfl,hT⟩:=TmIs.cells h2;refine(fZ b6 (bF hx) h1 rfl (by simp [Value.cells,Value.oneCell']) h.hb (by simp [mcl])).mono ?_;intro _ w' hu;obtain⟨t1,t2⟩:=gy (m':={m with r:={m.r with root:=u}}) (q':={q with rt:=⟨a1,a2,ad,l,c⟩}) hB h0 h0' hF h.rs hu rfl (λ_=>rfl) ⟨rfl,rfl,rfl⟩ hT h.rs.c0 h.rs.c1 h.rs.kt;exact⟨g,⟨t1,by show(B (p+1)).P _ _;rw[hB1];exact t2⟩,zo⟩
theorem pm {u:Tm} {j:Nat} (hj:j<2) (hB0:B p=stB (b7 base b m) ns) (hB1:B (p+1)=stB (b7 base b {m with r:={m.r with ch:=up m.r.ch j u}}) ns) (hop:ops.getD i default=⟨ds,.store 26 x y,t,pos,af,gu⟩) (hx:spO L x=some (eP b (8+j*3))) (hy:spO L y=some (tmS u)):EOb Tryd.prog n ops XX B ⟨i,L,bB,ph,true⟩ p:=by
 intro ξ g w hB hH;rw[hB0]at hB;have hB:StB (b7 base b m) ns g w:=hB;obtain⟨h0,h0',q,hF,h⟩:=hB.run;show Ok1 Tryd.prog (ops.getD i default) _ _ _ _;rw[hop];obtain⟨vy,h1,h2⟩:=bH hy hH;obtain⟨a1,a2,ad,l,c,rfl,hT⟩:=TmIs.cells h2;refine(fZ b6 (bF hx) h1 rfl (by simp [Value.cells,Value.oneCell']) h.hb (by simp [mcl];omega)).mono ?_;intro _ w' hu;rcases(by omega:j=0\/j=1)with rfl|rfl
 ·obtain⟨t1,t2⟩:=gy (m':={m with r:={m.r with ch:=up m.r.ch 0 u}}) (q':={q with c0:=⟨a1,a2,ad,l,c⟩}) hB h0 h0' hF h.rs hu rfl (λ_=>rfl) ⟨rfl,rfl,rfl⟩ h.rs.rt hT h.rs.c1 h.rs.kt;exact⟨g,⟨t1,by show(B (p+1)).P _ _;rw[hB1];exact t2⟩,zo⟩
 ·obtain⟨t1,t2⟩:=gy (m':={m with r:={m.r with ch:=up m.r.ch 1 u}}) (q':={q with c1:=⟨a1,a2,ad,l,c⟩}) hB h0 h0' hF h.rs hu rfl (λ_=>rfl) ⟨rfl,rfl,rfl⟩ h.rs.rt h.rs.c0 hT h.rs.kt;exact⟨g,⟨t1,by show(B (p+1)).P _ _;rw[hB1];exact t2⟩,zo⟩
theorem l7 (hB0:B p=stB (gl base b m o k) ns) (hB1:B (p+1)=stB (b7 base b m) ns) (hop:ops.getD i default=⟨ds,.store ty x y,t,pos,af,gu⟩) (hs:(Tryd.prog.info? ty).map (·.size)=some 1) (hx:spO L x=some (eP b o)) (hy:spO L y=some (nwS k)) (ho:o<24):EOb Tryd.prog n ops XX B ⟨i,L,bB,ph,true⟩ p:=by
 intro ξ g w hB hH;rw[hB0]at hB;have hB:StB (gl base b m o k) ns g w:=hB;obtain⟨h0,h0',q,v,old,hF,hN,h1,hv,hb,hrs⟩:=hB.run;show Ok1 Tryd.prog (ops.getD i default) _ _ _ _;rw[hop];obtain⟨vy,e1,e2⟩:=bH hy hH;have e2:g.N[k]? =some vy:=e2;rw[hN]at e2;cases e2;refine(dk hs (bF hx) e1 h1 hb (by simp [mcl];exact ho)).mono ?_;intro _ w' hu;have hu:Upd w w' b (mcl m q).toArray 69:=by
  have :(((mcl m q).set o old).toArray).setIfInBounds o v=(mcl m q).toArray:=by rw[List.setIfInBounds_toArray,List.set_set,mU hv]
  rw[<-this];exact hu
 obtain⟨t1,t2⟩:=gy (m':=m) (q':=q) hB h0 h0' hF hrs hu rfl (λ_=>rfl) ⟨rfl,rfl,rfl⟩ hrs.rt hrs.c0 hrs.c1 hrs.kt;exact⟨g,⟨t1,by show(B (p+1)).P _ _;rw[hB1];exact t2⟩,zo⟩
theorem yg (base b:Nat) (m:Mn) (k:Nat):oN (jv base b m k) b m:=λ_ _ ⟨_,_,q,_,_,h⟩=>⟨_,q,h⟩
theorem HasMQ.run {ρ:RX} {b:Nat} {m:Mn} {q:Mv} (h:HasMQ ρ b m q):oN ρ b m:=λg w k=>by obtain⟨base,h⟩:=h g w k;exact⟨base,q,h⟩
def oO (L:TL TT) (y:Operand) (l:Nat) (R:CX):Prop:=∀ξ (g:Gh) w,iK L ξ g w->∃u,ev (exL L ξ) y=some u/\((u=vN/\l=0/\R.R w g.X [])\/∃b o cap ys,u= .slice (some ⟨b,o,none⟩) l cap/\At w b o ys/\R.R w g.X ys)
theorem pP {R:CX} {l:Nat} (hy:spO L y=some (slS R l)):oO L y l R:=λξ g w hH=>by obtain⟨vy,e1,b1,o1,c1,xs,e2,_,_,e3,e4⟩:=bH hy hH;exact⟨vy,e1,.inr ⟨b1,o1,_,xs,e2,e3,e4⟩⟩
theorem yx {ts:List Tm} (hy:spO L y=some (knS ts)):oO L y ts.length (dD ts):=λξ g w hH=>by
 obtain⟨vy,e1,h⟩:=bH hy hH;rcases h with⟨rfl,rfl⟩|⟨b1,o1,c1,xs,e2,_,_,_,e3,e4⟩
 ·exact⟨_,e1,.inl ⟨rfl,rfl,rfl⟩⟩
 ·exact⟨vy,e1,.inr ⟨b1,o1,_,xs,e2,e3,e4⟩⟩
theorem yv {ts:List Tm} (hy:spO L y=some (tlS ts)):oO L y ts.length (dD ts):=λξ g w hH=>by obtain⟨vy,e1,b1,o1,c1,xs,e2,_,_,_,e3,e4⟩:=bH hy hH;exact⟨vy,e1,.inr ⟨b1,o1,_,xs,e2,e3,e4⟩⟩
theorem lL {R : CX} {T bytes l : Nat} {zv : Value} {g : Gh} {ξ : Nat -> Value} {w : World} {x y : Operand} (hi5 : i < 6) (hB : StB ρ ns g w) (h0 : ∀ y, y ∈ g.Y -> y < base) (h0' : base <= w.heap.size) (hF : g.F = q.F b) (h : MAt w g.X base b m q) (hH : iK L ξ g w) (ht : Tryd.prog.underlying T = some (.slice (mrw m i).e)) (hi : (Tryd.prog.info? (mrw m i).e).map (λi => (i.size, i.bytes, i.zero)) = some ((mrw m i).m, bytes, some zv)) (hzs : zv.cells.size = (mrw m i).m) (hm0 : 0 < (mrw m i).m)
  (hx:ev (exL L ξ) x=some (q.v i)) (hy:oO L y l R) (hR:∀w X xs ys,(mrw m i).P.R w X xs->R.R w X ys->(mrw m' i).P.R w X (xs++ys)) (hlen:∀w X ys,R.R w X ys->ys.length=l*(mrw m i).m/\∀u∈ys,u.oneCell'=true) (hsame:∀j,j<6->j≠i->mrw m' j=mrw m j) (he:(mrw m' i).e=(mrw m i).e) (hm:(mrw m' i).m=(mrw m i).m) (hn:(mrw m' i).n=(mrw m i).n+l)
  (hsz:((mrw m i).n+l)*bytes<=140737488355328) (hsm:(mrw m i).n+l<=maxLen) (er:m'.r.root=m.r.root) (ec:m'.r.ch=m.r.ch) (ek:m'.r.known=m.r.known) (h4:i≠4/\m'.tp=m.tp\/m'.tp.isSome=true) {mf:Value->Mn} (hmf:∀v,mf v={m' with tv:=(mf v).tv}) (h5:∀v',up q.v i v' 5=(mf v').tv) (hlb:m'.lb=m.lb) (hb5:i=5->m.lb<=base):
  Ok1 Tryd.prog ⟨ds,.call ⟨.builtin .append,#[x,y],#[T,T]⟩,ty,pos,af,gu⟩ n (exL L ξ) w λv' w'=>v'.oneCell'=true/\(∀b',v'≠vp b')/\w'.heap[b]? =w.heap[b]?/\Ch g.F w w'/\base<=w'.heap.size/\(∀x,x∈({q with v:=up q.v i v'}:Mv).F b->(x∈g.F\/w.heap.size<=x)/\x<w'.heap.size)/\MRs w' (({q with v:=up q.v i v'}:Mv).F b++(g.M++g.Y)) base b (mf v') {q with v:=up q.v i v'}:=by
 obtain⟨xs,h1,h2⟩:=h.rs.own i hi5;obtain⟨u,e1,hu⟩:=hy ξ g w hH;have d:∀x,x∈bC (q.v i)->x∈g.F:=λx hx=>by rw[hF];exact Mv.mem.2 (.inr ⟨i,hi5,hx⟩)
 have k:∀v' w' ys,R.R w g.X ys->Own w' 0 (mrw m i).e (mrw m i).m v' ((mrw m i).n+l) (xs++ys)->Ch (bC (q.v i)) w w'->(bC v'=bC (q.v i)\/bC v'=[w.heap.size])->v'.oneCell'=true/\(∀b',v'≠vp b')/\w'.heap[b]? =w.heap[b]?/\Ch g.F w w'/\base<=w'.heap.size/\(∀x,x∈({q with v:=up q.v i v'}:Mv).F b->(x∈g.F\/w.heap.size<=x)/\x<w'.heap.size)/\MRs w' (({q with v:=up q.v i v'}:Mv).F b++(g.M++g.Y)) base b (mf v') {q with v:=up q.v i v'}:=by
  intro v' w' ys A c a ho;have o:∀x,x∈bC v'->x∈bC (q.v i)\/x=w.heap.size:=λx hx=>by
   rcases ho with e|e<;>rw[e]at hx
   ·exact .inl hx
   ·exact .inr (zt.1 hx)
  have f:∀x,x∈({q with v:=up q.v i v'}:Mv).F b->(x∈g.F\/w.heap.size<=x)/\x<w'.heap.size:=λx hx=>by
   rcases Mv.mem.1 hx with rfl|⟨j,hj,hx⟩
   ·exact⟨.inl (by rw[hF];exact Mv.mem.2 (.inl rfl)),zE (cO h.hb) a.size⟩
   ·have hx:x∈bC (up q.v i v' j):=hx;by_cases e:j=i
    ·subst e;rw[di]at hx;refine⟨?_,(c.lt x hx).2⟩;rcases o x hx with h3|h3
     ·exact .inl (d x h3)
     ·exact .inr (by omega)
    ·rw[dx e]at hx;exact⟨.inl (by rw[hF];exact Mv.mem.2 (.inr ⟨j,hj,hx⟩)),zE (h.rs.lt hj hx) a.size⟩
  have hX:∀x,x∈({q with v:=up q.v i v'}:Mv).F b++(g.M++g.Y)->x∈g.X\/w.heap.size<=x:=λx hx=>by
   rcases zr.1 hx with hx|hx
   ·rcases(f x hx).1 with h3|h3
    ·exact .inl (by simp [Gh.X,h3])
    ·exact .inr h3
   ·exact .inl (by simp only[Gh.X,zr]at hx⊢;exact .inr hx)
  have p:∀y,y∈bC (q.v i)->y∈g.X:=λy hy=>by simp [Gh.X,d y hy]
  obtain⟨t,em⟩:∃t,mf v'={m' with tv:=t}:=⟨_,hmf v'⟩;have s:=h5 v';rw[em]at s⊢;refine⟨gK c,Own.nvp c,a.blk b (cO h.hb) (h.rs.nb i hi5),a.mono d,zy h0' a.size,f,h.rs.put hi5 (cO h.hb) h0' a o (by show Own w' 0 (mrw m' i).e (mrw m' i).m v' (mrw m' i).n _;rw[he,hm,hn];exact c) (hR _ _ _ _ ((mrw m i).P.st h2 a p hX) (R.st A a p hX)) hsame ?_ s hlb (λe=>zy (hb5 e) h0') hX (λx hx=>zw _ hx) er ec ek⟩;intro h5;have h5:m'.tp=none:=h5;rcases h4 with⟨h6,h7⟩|h6
  ·rw[dx (λe=>h6 e.symm)];exact h.rs.h4 (by rw[<-h7];exact h5)
  ·rw[h5]at h6;cases h6
 rcases hu with⟨rfl,rfl,h3⟩|⟨b1,o1,c1,ys,rfl,hat,h3⟩
 ·obtain⟨inf,z,hz⟩:=zq.1 hi;simp only[Prod.mk.injEq]at hz;refine(i_ ht (by rw[z];exact zu some hz.1) hx e1 h1).mono ?_;rintro v' w' ⟨rfl,rfl⟩;exact k _ _ [] h3 (by simpa using h1) (Ch.refl _ _) (.inl rfl)
 ·exact(dH ht hi hzs hm0 hx e1 h1 (hlen _ _ _ h3).1 hat (hlen _ _ _ h3).2 hsz hsm (zV _)).mono λv' w' ⟨k1,k2,k3⟩=>k v' w' ys h3 k1 k2 k3
theorem pn {R : CX} {T bytes l j o : Nat} {zv : Value} (hj : j < 6) (hB0 : B p = stB (e_ base b m q) ns) (hB1 : B (p + 1) = stB (gl base b m' o ns.length) (ns ++ [(0, bB)])) (hk : ns.length = k) (hop : ops.getD i default = ⟨ds, .call ⟨.builtin .append, #[x, y], #[T, T]⟩, t, pos, af, gu⟩) (ht : Tryd.prog.underlying T = some (.slice (mrw m j).e)) (hi : (Tryd.prog.info? (mrw m j).e).map (λi => (i.size, i.bytes, i.zero)) = some ((mrw m j).m, bytes, some zv)) (hzs : zv.cells.size = (mrw m j).m) (hm0 : 0 < (mrw m j).m)
  (hx:spO L x=some (eqS (q.v j))) (hy:oO L y l R) (hR:∀w X xs ys,(mrw m j).P.R w X xs->R.R w X ys->(mrw m' j).P.R w X (xs++ys)) (hlen:∀w X ys,R.R w X ys->ys.length=l*(mrw m j).m/\∀u∈ys,u.oneCell'=true) (hsame:∀i,i<6->i≠j->mrw m' i=mrw m i) (he:(mrw m' j).e=(mrw m j).e) (hm:(mrw m' j).m=(mrw m j).m) (hn:(mrw m' j).n=(mrw m j).n+l)
  (hsz:((mrw m j).n+l)*bytes<=140737488355328) (hsm:(mrw m j).n+l<=maxLen) (er:m'.r.root=m.r.root) (ec:m'.r.ch=m.r.ch) (ek:m'.r.known=m.r.known) (h4:j≠4/\m'.tp=m.tp) (h5:j≠5/\m'.tv=m.tv/\m'.lb=m.lb) (hcl:∀v':Value,(mcl m' {q with v:=up q.v j v'})[o]? =some v'/\mcl m q=(mcl m' {q with v:=up q.v j v'}).set o (q.v j)):EOb Tryd.prog n ops XX B ⟨i,L,nwS k,ph,true⟩ p:=by
 subst hk;intro ξ g w hB hH;rw[hB0]at hB;have hB:StB (e_ base b m q) ns g w:=hB;show Ok1 Tryd.prog (ops.getD i default) _ _ _ _;rw[hop];obtain⟨h0,c,hF,h⟩:=hB.run;have a:g.N.length=ns.length:=hB.len;refine(lL hj hB h0 c hF h hH ht hi hzs hm0 (bF hx) hy hR hlen hsame he hm hn hsz hsm er ec ek (.inl h4) (mf:=λ_=>m') (λ_=>rfl) (λv'=>by rw[dx (λe=>h5.1 e.symm),h.rs.h5];exact h5.2.1.symm) h5.2.2 (λe=>absurd e h5.1)).mono ?_;rintro v' w' ⟨k1,k2,k3,k4,k5,k6,k7⟩;obtain⟨t1,t2⟩:=hB.run' (ρ':=gl base b m' o ns.length) (g':=⟨({q with v:=up q.v j v'}:Mv).F b,g.M,g.Y,g.N++[v']⟩) (l:=[v']) (l':=[(0,bB)]) k4 (λx hx=>(k6 x hx).1) (λx hx=>(k6 x hx).2) rfl rfl rfl rfl (λu hu b'=>by rw[zt.1 hu];exact k2 b') (λu hu=>by rw[zt.1 hu]) ⟨h0,k5,_,v',q.v j,rfl,by simp [<-a],k1,(hcl v').1,by rw[<-(hcl v').2,k3];exact h.hb,k7⟩;exact⟨_,⟨t1,by show(B (p+1)).P _ _;rw[hB1];exact t2⟩,by show(g.N++[v'])[ns.length]? =some v';simp [<-a]⟩
theorem xP {l:Nat} {us:List Value} (hl:us.length=l) (h1:∀u∈us,u.oneCell'=true) (w:World) (X:List Nat) (ys:List Value) (h:(cxV us).R w X ys):ys.length=l/\∀u∈ys,u.oneCell'=true:=by obtain rfl:ys=us:=h;exact⟨hl,h1⟩
theorem wb {w:World} {X:List Nat} {v:Value} {n:Nat} {xs:List Value} (h:SlA w X v n xs):v.oneCell'=true:=by
 rcases h with⟨rfl|⟨_,_,rfl⟩,_⟩|⟨_,_,_,rfl,_⟩<;>rfl
theorem uk {e:Ky} (hB0:B p=stB (e_ base b m q) ns) (hB1:B (p+1)=stB (gl base b {m with r:={m.r with keys:=m.r.keys++[e]}} 17 ns.length) (ns++[(0,bB)])) (hk:ns.length=k) (hop:ops.getD i default=⟨ds,.call ⟨.builtin .append,#[x,y],#[65,65]⟩,t,pos,af,gu⟩) (hx:spO L x=some (eqS (q.v 0))) (hy:spO L y=some (slS (cxK e) 1)) (hsz:m.r.keys.length<=1000000):EOb Tryd.prog n ops XX B ⟨i,L,nwS k,ph,true⟩ p:=
 pn (j:=0) (m:=m) (by decide) hB0 hB1 hk hop Tryd.underlying65 y0 rfl (Bb _) hx (pP hy) (λw X xs ys h h2=>AllIs.app (h:AllIs (KyIs w X) m.r.keys xs) (AllIs.one (h2:KyIs w X e ys))) (λw X ys h=>⟨KyIs.len e ys h,by
  obtain⟨sl,rfl,hsl⟩:=(h:KyIs w X e ys);obtain⟨_,_,_,_,_,rfl⟩:=hsl.form;intro u hu;simp only[zx,zr,zI,or_false]at hu;rcases hu with(rfl|rfl|rfl)|rfl|rfl|rfl<;>rfl⟩) (λi h1 h2=>by rcases(show i=1\/i=2\/i=3\/i=4\/i=5 by omega)with rfl|rfl|rfl|rfl|rfl<;>rfl) rfl rfl (by show(m.r.keys++[e]).length=_;simp;rfl) (by show(m.r.keys.length+1)*_<=_;omega) (by show m.r.keys.length+1<=maxLen;unfold maxLen;omega) rfl rfl rfl ⟨by decide,rfl⟩ ⟨by decide,rfl,rfl⟩ (λv'=>⟨rfl,rfl⟩)
theorem ul {e:Ep} (hB0:B p=stB (e_ base b m q) ns) (hB1:B (p+1)=stB (gl base b {m with r:=m.r.ended e} 21 ns.length) (ns++[(0,bB)])) (hk:ns.length=k) (hop:ops.getD i default=⟨ds,.call ⟨.builtin .append,#[x,y],#[66,66]⟩,t,pos,af,gu⟩) (hx:spO L x=some (eqS (q.v 1))) (hy:spO L y=some (slS (cxE e) 1)) (hsz:m.r.eps.length<=1000000):EOb Tryd.prog n ops XX B ⟨i,L,nwS k,ph,true⟩ p:=
 pn (j:=1) (m:=m) (by decide) hB0 hB1 hk hop Tryd.underlying66 yf rfl (Bb _) hx (pP hy) (λw X xs ys h h2=>AllIs.app (h:AllIs (EpIs w X) m.r.eps xs) (AllIs.one (h2:EpIs w X e ys))) (λw X ys h=>⟨EpIs.len e ys h,by
  obtain⟨sl,rfl,hsl⟩:=(h:EpIs w X e ys);intro u hu;simp only[zx,zI,or_false]at hu;rcases hu with rfl|rfl|rfl
  ·exact wb hsl
  ·rfl
  ·rfl⟩) (λi h1 h2=>by rcases(show i=0\/i=2\/i=3\/i=4\/i=5 by omega)with rfl|rfl|rfl|rfl|rfl<;>rfl) rfl rfl (by show(m.r.eps++[e]).length=_;simp;rfl) (by show(m.r.eps.length+1)*_<=_;omega) (by show m.r.eps.length+1<=maxLen;unfold maxLen;omega) rfl rfl rfl ⟨by decide,rfl⟩ ⟨by decide,rfl,rfl⟩ (λv'=>⟨rfl,rfl⟩)
theorem uj {e:Nat} {c:Bool} (hB0:B p=stB (e_ base b m q) ns) (hB1:B (p+1)=stB (gl base b {m with sn:=m.sn++[(e,c)],r:={m.r with behind:=m.r.behind++[c]}} 22 ns.length) (ns++[(0,bB)])) (hk:ns.length=k) (hop:ops.getD i default=⟨ds,.call ⟨.builtin .append,#[x,y],#[67,67]⟩,t,pos,af,gu⟩) (hx:spO L x=some (eqS (q.v 2))) (hy:spO L y=some (slS (cxV [vI e,.bool c]) 1)) (hsz:m.sn.length<=1000000):EOb Tryd.prog n ops XX B ⟨i,L,nwS k,ph,true⟩ p:=
 pn (j:=2) (m:=m) (by decide) hB0 hB1 hk hop Tryd.underlying67 ye rfl (Bb _) hx (pP hy) (λw X xs ys h h2=>by
  obtain rfl:xs=snL m.sn:=h;obtain rfl:ys=[vI e,.bool c]:=h2;show snL m.sn++[vI e,.bool c]=snL (m.sn++[(e,c)]);simp [snL]) (xP rfl (by simp [Value.oneCell'])) (λi h1 h2=>by rcases(show i=0\/i=1\/i=3\/i=4\/i=5 by omega)with rfl|rfl|rfl|rfl|rfl<;>rfl) rfl rfl (by show(m.sn++[(e,c)]).length=_;simp;rfl) (by show(m.sn.length+1)*_<=_;omega) (by show m.sn.length+1<=maxLen;unfold maxLen;omega) rfl rfl rfl ⟨by decide,rfl⟩ ⟨by decide,rfl,rfl⟩ (λv'=>⟨rfl,rfl⟩)
theorem ui {e c:Nat} (hB0:B p=stB (e_ base b m q) ns) (hB1:B (p+1)=stB (gl base b {m with tl:=m.tl++[e,c],r:=(m.r.told e).told c} 23 ns.length) (ns++[(0,bB)])) (hk:ns.length=k) (hop:ops.getD i default=⟨ds,.call ⟨.builtin .append,#[x,y],#[22,22]⟩,t,pos,af,gu⟩) (hx:spO L x=some (eqS (q.v 3))) (hy:spO L y=some (slS (cxV [vI e,vI c]) 2)) (hsz:m.tl.length<=1000000):EOb Tryd.prog n ops XX B ⟨i,L,nwS k,ph,true⟩ p:=
 pn (j:=3) (m:=m) (by decide) hB0 hB1 hk hop Tryd.underlying22 ii3 rfl (Bb _) hx (pP hy) (λw X xs ys h h2=>by
  obtain rfl:xs=tlL m.tl:=h;obtain rfl:ys=[vI e,vI c]:=h2;show tlL m.tl++[vI e,vI c]=tlL (m.tl++[e,c]);simp [tlL]) (xP rfl (by simp [Value.oneCell'])) (λi h1 h2=>by rcases(show i=0\/i=1\/i=2\/i=4\/i=5 by omega)with rfl|rfl|rfl|rfl|rfl<;>rfl) rfl rfl (by show(m.tl++[e,c]).length=_;simp;rfl) (by show(m.tl.length+2)*_<=_;omega) (by show m.tl.length+2<=maxLen;unfold maxLen;omega) rfl rfl rfl ⟨by decide,rfl⟩ ⟨by decide,rfl,rfl⟩ (λv'=>⟨rfl,rfl⟩)
theorem xZ (hn:m.tp=none) (hB0:B p=stB (b7 base b m) ns) (hB1:B (p+1)=stB (jv base b {m with tp:=some []} k) (ns++[(0,bB)])) (hop:ops.getD i default=⟨ds,.buildSlice 24 0 #[],t,pos,af,gu⟩) (hk:ns.length=k):EOb Tryd.prog n ops XX B ⟨i,L,nwS k,ph,true⟩ p:=by
 subst hk;intro ξ g w hB hH;rw[hB0]at hB;have hB:StB (b7 base b m) ns g w:=hB;show Ok1 Tryd.prog (ops.getD i default) _ _ _ _;rw[hop];obtain⟨h0,o,q,hF,h⟩:=hB.run;have a:g.N.length=ns.length:=hB.len;refine(gC Tryd.underlying24 b6).mono ?_;rintro v w' ⟨c,rfl,hn'⟩;have hb:=hn'.num;have s:=h.rs.h4 hn;have r:bC (q.v 4)=[]:=by rw[s];rfl
 have f:Ch (bC (q.v 4)) w w':=by rw[r];exact hn'.ch
 have d:∀x,x∈({q with v:=up q.v 4 (.slice (some ⟨c,0,none⟩) 0 0)}:Mv).F b->(x∈g.F\/w.heap.size<=x)/\x<w'.heap.size:=λx hx=>by
  rcases Mv.mem.1 hx with rfl|⟨j,hj,hx⟩
  ·exact⟨.inl (by rw[hF];exact Mv.mem.2 (.inl rfl)),zE (cO h.hb) f.size⟩
  ·have hx:x∈bC (up q.v 4 (.slice (some ⟨c,0,none⟩) 0 0) j):=hx;by_cases e:j=4
   ·subst e;rw[di]at hx;have hx:x=c:=zt.1 hx;rw[hx];exact⟨.inr (by omega),hn'.lt⟩
   ·rw[dx e]at hx;exact⟨.inl (by rw[hF];exact Mv.mem.2 (.inr ⟨j,hj,hx⟩)),zE (h.rs.lt hj hx) f.size⟩
 have hX:∀x,x∈({q with v:=up q.v 4 (.slice (some ⟨c,0,none⟩) 0 0)}:Mv).F b++(g.M++g.Y)->x∈g.X\/w.heap.size<=x:=λx hx=>by
  rcases zr.1 hx with hx|hx
  ·rcases(d x hx).1 with h3|h3
   ·exact .inl (by simp [Gh.X,h3])
   ·exact .inr h3
  ·exact .inl (by simp only[Gh.X,zr]at hx⊢;exact .inr hx)
 obtain ⟨t1, t2⟩ := hB.run' (ρ' := jv base b { m with tp := some [] } ns.length) (g' := ⟨({ q with v := up q.v 4 (.slice (some ⟨c, 0, none⟩) 0 0) } : Mv).F b, g.M, g.Y, g.N ++ [.slice (some ⟨c, 0, none⟩) 0 0]⟩) (w' := w') (l := [.slice (some ⟨c, 0, none⟩) 0 0]) (l' := [(0, bB)]) (hn'.ch.mono (by simp)) (λx hx => (d x hx).1) (λx hx => (d x hx).2) rfl rfl rfl rfl (λu hu b' => by rw [zt.1 hu]; simp) (λu hu => by rw [zt.1 hu]) ⟨h0, zy o hn'.ch.size, { q with v := up q.v 4 (.slice (some ⟨c, 0, none⟩) 0 0) }, rfl, by show (g.N ++ [_])[ns.length]? = some (up q.v 4 _ 4); simp [<- a, di], by
   show w'.heap[b]? =some (.cells (mcl m q).toArray 69 (0,0));rw[hn'.ch.blk b (cO h.hb) (by simp)];exact h.hb,h.rs.put (zs:=[]) (by decide) (cO h.hb) o f (λx hx=> .inr (by rw[zt.1 hx];exact hb)) (qh (n:=0) hn'.blk rfl (by decide) (zV _)) rfl (λj h1 h2=>we h1 h2) (λh=>by cases h) (by rw[dx (by decide)];exact h.rs.h5) rfl (λe=>by cases e) hX (λx hx=>zw _ hx) rfl rfl rfl⟩
 exact⟨_,⟨t1,by show(B (p+1)).P _ _;rw[hB1];exact t2⟩,by show(g.N++[_])[ns.length]? =some _;simp [<-a]⟩
theorem uS {ts us:List Tm} {k':Nat} (hB0:B p=stB (jv base b {m with tp:=some ts} k) ns) (hB1:B (p+1)=stB (jv base b {m with tp:=some (ts++us)} k') (ns++[(0,bB)])) (hk:ns.length=k') (hop:ops.getD i default=⟨ds,.call ⟨.builtin .append,#[x,y],#[24,24]⟩,t,pos,af,gu⟩) (hx:spO L x=some (nwS k)) (hy:oO L y us.length (dD us)) (hsz:ts.length+us.length<=1000000):EOb Tryd.prog n ops XX B ⟨i,L,nwS k',ph,true⟩ p:=by
 subst hk;intro ξ g w hB hH;rw[hB0]at hB;have hB:StB (jv base b {m with tp:=some ts} k) ns g w:=hB;show Ok1 Tryd.prog (ops.getD i default) _ _ _ _;rw[hop];obtain⟨h0,c,q,hF,hN,h⟩:=hB.run;have a:g.N.length=ns.length:=hB.len;obtain⟨vx,e1,e2⟩:=bH hx hH;have e2:g.N[k]? =some vx:=e2;rw[hN]at e2;cases e2;refine(lL (i:=4) (m':={m with tp:=some (ts++us)}) (by decide) hB h0 c hF h hH Tryd.underlying24 kR rfl (Bb _) e1 hy (λw X xs ys h k=>pO w X xs ys h k) (λw X ys h=>⟨(IsTs.len h).trans (AO _ _),IsTs.cells1 h⟩) (λj h1 h2=>we h1 h2) rfl rfl (by show(ts++us).length=ts.length+us.length;simp) (by show(ts.length+us.length)*_<=_;omega) (by show ts.length+us.length<=maxLen;unfold maxLen;omega) rfl rfl rfl (.inr rfl) (mf:=λ_=>{m with tp:=some (ts++us)}) (λ_=>rfl) (λv'=>by rw[dx (by decide)];exact h.rs.h5) rfl (λe=>by cases e)).mono ?_;rintro v' w' ⟨k1,k2,k3,k4,k5,k6,k7⟩;obtain⟨t1,t2⟩:=hB.run' (ρ':=jv base b {m with tp:=some (ts++us)} ns.length) (g':=⟨({q with v:=up q.v 4 v'}:Mv).F b,g.M,g.Y,g.N++[v']⟩) (l:=[v']) (l':=[(0,bB)]) k4 (λx hx=>(k6 x hx).1) (λx hx=>(k6 x hx).2) rfl rfl rfl rfl (λu hu b'=>by rw[zt.1 hu];exact k2 b') (λu hu=>by rw[zt.1 hu]) ⟨h0,k5,_,rfl,by show(g.N++[v'])[ns.length]? =some (up q.v 4 v' 4);rw[di];simp [<-a],by
  show w'.heap[b]? =some (.cells (mcl m q).toArray 69 (0,0));rw[k3];exact h.hb,k7⟩
 exact⟨_,⟨t1,by show(B (p+1)).P _ _;rw[hB1];exact t2⟩,by show(g.N++[v'])[ns.length]? =some v';simp [<-a]⟩
theorem wr {ts:List Tm} (he:{m with r:={m.r with known:=ts},tp:=none}=m') (hB0:B p=stB (jv base b {m with tp:=some ts} k) ns) (hB1:B (p+1)=stB (b7 base b m') ns) (hop:ops.getD i default=⟨ds,.store 24 x y,t,pos,af,gu⟩) (hx:spO L x=some (eP b 16)) (hy:spO L y=some (nwS k)):EOb Tryd.prog n ops XX B ⟨i,L,bB,ph,true⟩ p:=by
 subst he;intro ξ g w hB hH;rw[hB0]at hB;have hB:StB (jv base b {m with tp:=some ts} k) ns g w:=hB;show Ok1 Tryd.prog (ops.getD i default) _ _ _ _;rw[hop];obtain⟨h0,z,q,hF,hN,h⟩:=hB.run;obtain⟨vy,e1,e2⟩:=bH hy hH;have e2:g.N[k]? =some vy:=e2;rw[hN]at e2;cases e2;obtain⟨xs,h1,h2⟩:=h.rs.own 4 (by decide);have h1:Own w 0 26 3 (q.v 4) ts.length xs:=h1;refine(dk fM (bF hx) e1 (gK h1) h.hb (by simp [mcl])).mono ?_;intro _ w' hu;have hu:Upd w w' b (mcl {m with r:={m.r with known:=ts},tp:=none} {q with vk:=q.v 4,v:=up q.v 4 vN}).toArray 69:=hu;have a:=hu.ch;have u:b∈g.F:=by rw[hF];exact Mv.mem.2 (.inl rfl)
 have hv:∀i x,x∈bC (up q.v 4 vN i)->i≠4/\x∈bC (q.v i):=λi x hx=>by
  by_cases e:i=4
  ·subst e;rw[di]at hx;simp [bC]at hx
  ·rw[dx e]at hx;exact⟨e,hx⟩
 have d:∀x,x∈({q with vk:=q.v 4,v:=up q.v 4 vN}:Mv).F b->x∈g.F/\x∉bC (q.v 4):=λx hx=>by
  rw[hF];rcases Mv.mem.1 hx with rfl|⟨i,hi,hx⟩
  ·exact⟨Mv.mem.2 (.inl rfl),h.rs.nb 4 (by decide)⟩
  ·obtain⟨h3,h4⟩:=hv i x hx;exact⟨Mv.mem.2 (.inr ⟨i,hi,h4⟩),λhm=>h3 (h.rs.nd i 4 x hi (by decide) h4 hm)⟩
 have hX:∀x,x∈({q with vk:=q.v 4,v:=up q.v 4 vN}:Mv).F b++(g.M++g.Y)->x∈g.X\/w.heap.size<=x:=λx hx=>by
  rcases zr.1 hx with hx|hx
  ·exact .inl (by simp [Gh.X,(d x hx).1])
  ·exact .inl (by simp only[Gh.X,zr]at hx⊢;exact .inr hx)
 have hy:∀y,y∈[b]->y∈g.X:=λy hy=>by rw[zt.1 hy];simp [Gh.X,u]
 have C:KnIs w' (({q with vk:=q.v 4,v:=up q.v 4 vN}:Mv).F b++(g.M++g.Y)) ts (q.v 4):=by
  rcases Own.at h1 with⟨f1,f2,f3⟩|⟨c,s,f1,hc,f3⟩
  ·exact .inl ⟨f1,zR f2⟩
  ·obtain⟨s,rfl⟩:=Nat.le.dest hc;have o:c∈bC (q.v 4):=by rw[f1];simp [bC]
   have A:c∈g.F:=by rw[hF];exact Mv.mem.2 (.inr ⟨4,by decide,o⟩)
   refine .inr ⟨c,0,s,xs,f1,(λh=>by cases h),λhm=> ?_,zE (h1.lt c o).2 a.size,f3.mv a (λhm=>h.rs.nb 4 (by decide) (by rw[<-zt.1 hm];exact o)),IsTs.mv a hy hX _ _ h2⟩;rcases zr.1 hm with hm|hm
   ·exact(d c hm).2 o
   ·rcases zr.1 hm with hm|hm
    ·exact(hB.wf.dj c hm).1 A
    ·have :=h0 c hm;have :=h.rs.lo c o;omega
 obtain ⟨t1, t2⟩ := hB.run' (ρ' := b7 base b { m with r := { m.r with known := ts }, tp := none }) (g' := ⟨({ q with vk := q.v 4, v := up q.v 4 vN } : Mv).F b, g.M, g.Y, g.N⟩) (w' := w') (l := []) (l' := []) (a.mono (by simp [u])) (λx hx => .inl (d x hx).1) (λx hx => zE (hB.wf.lt x (by simp [Gh.X, (d x hx).1])) a.size) rfl rfl (by simp) rfl (by simp) (by simp) ⟨h0, zy z a.size, _, rfl, hu.blk, IsT.mv a hy hX _ _ h.rs.rt, IsT.mv a hy hX _ _ h.rs.c0, IsT.mv a hy hX _ _ h.rs.c1, C, λi hi => by
   by_cases e:i=4
   ·subst e;exact⟨[],by show Own w' 0 26 3 (up q.v 4 vN 4) 0 [];rw[di];exact kP,rfl⟩
   ·obtain⟨xs,k1,k2⟩:=h.rs.own i hi;have e3:mrw {m with r:={m.r with known:=ts},tp:=none} i=mrw {m with tp:=some ts} i:=we hi e;refine⟨xs,?_,by rw[e3];exact(mrw _ i).P.st k2 a hy hX⟩;show Own w' 0 _ _ (up q.v 4 vN i) _ _;rw[e3,dx e];exact k1.mv a λx hx hm=>h.rs.nb i hi (by rw[<-zt.1 hm];exact hx),λi j x hi hj h3 h4=>h.rs.nd i j x hi hj (hv i x h3).2 (hv j x h4).2,λi hi hm=>h.rs.nb i hi (hv i b hm).2,λx hx=>absurd rfl (hv 4 x hx).1,λ_=>di q.v 4 vN,λx hx=>h.rs.l5 x (hv 5 x hx).2,(dx (f:=q.v) (i:=4) (j:=5) (v:=vN) (by decide)).trans h.rs.h5,λx hx=>zw _ hx⟩
 rw[AQ]at t2;exact⟨_,⟨t1,by show(B (p+1)).P _ _;rw[hB1];exact t2⟩,zo⟩
theorem dp {s : Sp TT} {post : List Nat -> World -> Value -> Prop} (hn : m'.tp = none) (hB0 : B p = stB (b7 base b m) ns) (hB1 : B (p + 1) = stB (b7 base b m') ns) (hs : ∀ g w v, post g.X w v -> s.hold g w v)
  (h:∀ξ (g:Gh) w,Wf g w->MIs base b m g.F (g.F++(g.M++g.Y)) w->iK L ξ g w->Ok1 Tryd.prog (ops.getD i default) n (exL L ξ) w (ju b m' (g.M++g.Y) g.F w post)):EOb Tryd.prog n ops XX B ⟨i,L,s,ph,true⟩ p:=by
 intro ξ g w hB hH;rw[hB0]at hB;have hB:StB (b7 base b m) ns g w:=hB;obtain⟨h0,h0',hr⟩:=hB.run;refine(h ξ g w hB.wf hr hH).mono ?_;rintro v w' ⟨F',k1,k2,k3,k4⟩;obtain⟨t1,t2⟩:=hB.run' (ρ':=b7 base b m') (g':=⟨F',g.M,g.Y,g.N⟩) (l:=[]) (l':=[]) k1 k2 k3.lt rfl rfl (by simp) rfl (by simp) (by simp) ⟨h0,zy h0' k1.size,k3.any hn⟩;have t2:StB (b7 base b m') ns ⟨F',g.M,g.Y,g.N⟩ w':=by simpa using t2
 exact⟨_,⟨t1,by show(B (p+1)).P _ _;rw[hB1];exact t2⟩,hs ⟨F',g.M,g.Y,g.N⟩ w' v k4⟩
end
theorem SS.postM {L:TL TT} {n b base:Nat} {m':Mn} {ns:List (Nat×Sp TT)} {F Y:List Nat} {g:Gh} {w0 w:World} {a:Act} {post:List Nat->World->Value->Prop} {v:Value} (h:SS L n (stB (b7 base b m') ns) ⟨F,[],Y,[]⟩ w0 a g w) (hn:m'.tp=none) (hp:post (g.F++Y) w v):ju b m' Y F w0 post v w:=by
 have hY:g.Y=Y:=h.t.y;refine⟨g.F,h.t.ch.mono (by simp),λx hx=>by simpa using h.t.sub x (zw _ hx),?_,hp⟩;exact MIs.any (MIs.mv h.b.run.2.2 (Ch.refl [] w) (by simp) (λx hx=> .inl (by
  simp only[Gh.X,zr,hY]at hx⊢;rcases hx with hx|hx
  ·exact .inl hx
  ·exact .inr (.inr hx))) (λx hx=>zw _ hx)) hn
end Go.Mi.Term
namespace Go.Mi.Term
open Go.Mi Go.Proofs Go.RowKit
theorem rQ {m:Mn} {q:Mv} {j:Nat} (hj:j<2):(mcl m q)[1+j*1]? =some (vI (m.r.id j)):=by
 rcases(by omega:j=0\/j=1)with rfl|rfl<;>rfl
theorem pg {m:Mn} {q:Mv} {j:Nat} (hj:j<2):(mcl m q)[3+j*1]? =some (vI (m.r.x j)):=by
 rcases(by omega:j=0\/j=1)with rfl|rfl<;>rfl
theorem rP {m:Mn} {q:Mv} {j:Nat} (hj:j<2):(mcl m q)[14+j*1]? =some (vI (m.r.ix j)):=by
 rcases(by omega:j=0\/j=1)with rfl|rfl<;>rfl
theorem tA {m:Mn} {q:Mv} {j v:Nat} (hj:j<2):(mcl m q).set (1+j*1) (vI v)=mcl (m.w {m.r with id:=up m.r.id j v}) q:=by
 rcases(by omega:j=0\/j=1)with rfl|rfl<;>rfl
theorem qU {m:Mn} {q:Mv} {j v:Nat} (hj:j<2):(mcl m q).set (3+j*1) (vI v)=mcl (m.w {m.r with x:=up m.r.x j v}) q:=by
 rcases(by omega:j=0\/j=1)with rfl|rfl<;>rfl
theorem tz {m:Mn} {q:Mv} {j v:Nat} (hj:j<2):(mcl m q).set (14+j*1) (vI v)=mcl (m.w {m.r with ix:=up m.r.ix j v}) q:=by
 rcases(by omega:j=0\/j=1)with rfl|rfl<;>rfl
section
set_option maxRecDepth 100000
variable {ops:List Oper} {n:Nat} {B:Nat->BX XX} {i p b k o base:Nat} {L:TL TT} {ph:List Nat} {ρ:RX} {ns:List (Nat×Sp TT)} {ds:Option Tmp} {ty:TypeId} {pos:String} {af:Array Edge} {gu:Option (Nat×Bool)} {t:TypeId} {m m':Mn} {x y:Operand} {ts us:List Tm}
theorem wy {k':Nat} (hB0:B p=stB (fh (loY base) base 26 3 k ts.length (dD ts)) ns) (hB1:B (p+1)=stB (fh (loY base) base 26 3 k' (ts++us).length (dD (ts++us))) (ns++[(0,bB)])) (hop:ops.getD i default=⟨ds,.call ⟨.builtin .append,#[x,y],#[24,24]⟩,t,pos,af,gu⟩) (hx:spO L x=some (nwS k)) (hy:spO L y=some (tlS us)) (hk:ns.length=k') (hsz:ts.length+us.length<=1000000):EOb Tryd.prog n ops XX B ⟨i,L,nwS k',ph,true⟩ p:=by
 subst hk;intro ξ g w hB hH;rw[hB0]at hB;have hB:StB (fh (loY base) base 26 3 k ts.length (dD ts)) ns g w:=hB;show Ok1 Tryd.prog (ops.getD i default) _ _ _ _;rw[hop];obtain⟨v,h0,⟨h1,h2⟩,_,_,h4,xs,h5,h6⟩:=hB.run;obtain⟨vx,e0,a⟩:=bH hx hH;have a:g.N[k]? =some vx:=a;rw[h0]at a;cases a;obtain⟨vy,e1,b1,o1,c1,ys,rfl,_,_,_,h,d⟩:=bH hy hH;have b:g.N.length=ns.length:=hB.len;refine(dH Tryd.underlying24 kR rfl (by decide) e0 e1 h5 ((IsTs.len d).trans (AO _ _)) h (IsTs.cells1 d) (by omega) (by unfold maxLen;omega) h1).mono ?_;rintro v' w' ⟨hown,hch,ho⟩;have c:∀z,z∈bC v'->z∈g.F\/w.heap.size<=z:=λz hz=>by
  rcases ho with e|e
  ·rw[e]at hz;exact .inl (by rw[h4];exact hz)
  ·rw[e]at hz;exact .inr (by rw[zt.1 hz];exact zH _)
 have hX:∀z,z∈bC v'++(g.M++g.Y)->z∈g.X\/w.heap.size<=z:=λz hz=>by
  rcases zr.1 hz with hz|hz
  ·rcases c z hz with h3|h3
   ·exact .inl (by simp [Gh.X,h3])
   ·exact .inr h3
  ·exact .inl (by simp only[Gh.X,zr]at hz⊢;exact .inr hz)
 have f:∀z,z∈bC v->z∈g.X:=λz hz=>by simp [Gh.X,h4,hz]
 obtain⟨t1,t2⟩:=hB.run' (ρ':=fh (loY base) base 26 3 ns.length (ts++us).length (dD (ts++us))) (g':=⟨bC v',g.M,g.Y,g.N++[v']⟩) (w':=w') (l:=[v']) (l':=[(0,bB)]) (by rw[h4];exact hch) c (λz hz=>(Own.lt hown z hz).2) rfl rfl rfl rfl (λu hu b'=>by
  rw[zt.1 hu];rcases Own.at hown with⟨rfl,_⟩|⟨_,_,rfl,_⟩<;>simp) (λu hu=>by rw[zt.1 hu]) ⟨v',by simp [<-b],⟨zy h1 hch.size,h2⟩,zy h1 hch.size,h2,rfl,xs++ys,by rw[zP];exact hown,IsTs.app (IsTs.mv hch f hX _ _ h6) (IsTs.mv hch f hX _ _ d)⟩
 exact⟨_,⟨t1,by show(B (p+1)).P _ _;rw[hB1];exact t2⟩,by show(g.N++[v'])[ns.length]? =some v';simp [<-b]⟩
theorem wx (hB0:B p=stB (fh (loY base) base 26 3 k ts.length (dD ts)) ns) (hB1:B (p+1)=stB (loY base).rx ns) (hop:ops.getD i default=⟨ds,.build 26 #[(0,.const (.int .i64 6)),(2,x)],t,pos,af,gu⟩) (hx:spO L x=some (nwS k)):EOb Tryd.prog n ops XX B ⟨i,L,tmS (hT ts),ph,true⟩ p:=by
 intro ξ g w hB hH;rw[hB0]at hB;have hb:StB (fh (loY base) base 26 3 k ts.length (dD ts)) ns g w:=hB;show Ok1 Tryd.prog (ops.getD i default) _ _ _ _;rw[hop];obtain⟨v,h0,⟨h1,h2⟩,_,h3,h4,xs,h5,h6⟩:=hb.run;obtain⟨vx,e0,a⟩:=bH hx hH;have a:g.N[k]? =some vx:=a;rw[h0]at a;cases a;have b:∀x,x∈(⟨[],g.M,g.Y,g.N⟩:Gh).X->x∈g.X:=λx hx=>by simp only[Gh.X,Au,zr]at hx⊢;exact .inr hx
 have f:TT g w ⟨[],g.M,g.Y,g.N⟩ w:=⟨Ch.refl _ _,λx hx=> .inl (by simp at hx;simp [hx]),rfl,λ_ h=>h,⟨[],by simp⟩⟩;have m:SlA w (⟨[],g.M,g.Y,g.N⟩:Gh).X v ts.length xs:=oW h5 λc hc hm=>by
  simp only[Gh.X,Au,zr]at hm;rcases hm with hm|hm
  ·exact(hb.wf.dj c hm).1 (by rw[h4];exact hc)
  ·have :=h3 c hm;have :=(Own.lt h5 c hc).1;omega
 have j:StB (loY base).rx ns ⟨[],g.M,g.Y,g.N⟩ w:=⟨⟨λx hx=>hb.wf.lt x (b x hx),λx hx=>⟨by simp,(hb.wf.dj x hx).2⟩⟩,hb.pl,⟨rfl,h1,h2⟩,hb.nd,hb.len,λk p hp h0=>(hb.cell k p hp h0).mv f λ_ _ _=>rfl⟩;have o:IsTs w (⟨[],g.M,g.Y,g.N⟩:Gh).X ts xs:=IsTs.sub h6 b;have d:∀ad l c,v= .slice ad l c->Ok1 Tryd.prog ⟨ds,.build 26 #[(0,.const (.int .i64 6)),(2,x)],t,pos,af,gu⟩ n (exL L ξ) w λv' w'=>∃g',(TT g w g' w'/\(B (p+1)).P g' w')/\(tmS (hT ts)).hold g' w' v':=λad l c e=>by subst e;have hd:Det Tryd.prog ⟨ds,.build 26 #[(0,.const (.int .i64 6)),(2,x)],t,pos,af,gu⟩ n (exL L ξ) w (.agg #[.int .i64 6,.int .i64 0,.slice ad l c]) w:=cM (ps:=[(0,.int .i64 6),(2,.slice ad l c)]) Tryd.underlying26 z26 (λw=>qg w _ Tryd.underlying26) (by simp only[evp,e0];rfl) px;refine hd.mono λv' w' ⟨q1,q2⟩=> ?_;subst q1;subst q2;exact⟨_,⟨f,by rw[hB1];exact j⟩,_,_,_,rfl,by show IsT _ _ (.mk 6 0 ts) _;simp only[IsT];exact⟨_,xs,rfl,m,o⟩⟩
 rcases Own.at h5 with⟨e,_⟩|⟨c,cap,e,_⟩
 ·exact d _ _ _ e
 ·exact d _ _ _ e
end
def q_ (base b:Nat) (m:Mn) (k:Nat) (l:List Tm):RX:=⟨λg w=>∃v,g.N[k]? =some v/\(b7 base b {m with tv:=v,tq:=l}).P g w,λ⟨v,h1,h2⟩ k hc hf hy hx hN=>⟨v,hN _ _ h1,(b7 base b {m with tv:=v,tq:=l}).st h2 k hc hf hy hx hN⟩⟩
section
set_option maxRecDepth 100000
variable {ops:List Oper} {n:Nat} {B:Nat->BX XX} {i p b k o base:Nat} {L:TL TT} {ph:List Nat} {ρ:RX} {ns:List (Nat×Sp TT)} {ds:Option Tmp} {ty:TypeId} {pos:String} {af:Array Edge} {gu:Option (Nat×Bool)} {t:TypeId} {m m':Mn} {x y:Operand} {ts us:List Tm} {v:Value}
theorem uT {l l':List Tm} (hlb:m.lb=base) (he:l'=l++us) (hB0:B p=stB (b7 base b {m with tv:=v,tq:=l}) ns) (hB1:B (p+1)=stB (q_ base b m k l') (ns++[(0,bB)])) (hk:ns.length=k) (hop:ops.getD i default=⟨ds,.call ⟨.builtin .append,#[x,y],#[24,24]⟩,t,pos,af,gu⟩) (hx:spO L x=some (eqS v)) (hy:spO L y=some (tfS us)) (hsz:l.length+us.length<=1000000):EOb Tryd.prog n ops XX B ⟨i,L,nwS k,ph,true⟩ p:=by
 subst hk;subst he;intro ξ g w hB hH;rw[hB0]at hB;have hB:StB (b7 base b {m with tv:=v,tq:=l}) ns g w:=hB;show Ok1 Tryd.prog (ops.getD i default) _ _ _ _;rw[hop];obtain⟨h0,c,q,hF,h⟩:=hB.run;have a:g.N.length=ns.length:=hB.len;have hy:oO L y us.length (dD us):=λξ g w hH=>by obtain⟨vy,e1,b1,o1,c1,xs,e2,_,_,_,e3,e4⟩:=bH hy hH;exact⟨vy,e1,.inr ⟨b1,o1,_,xs,e2,e3,e4⟩⟩
 have hq:q.v 5=v:=h.rs.h5;refine(lL (i:=5) (m':={m with tv:=v,tq:=l++us}) (mf:=λv'=>{m with tv:=v',tq:=l++us}) (by decide) hB h0 c hF h hH Tryd.underlying24 kR rfl (Bb _) (by rw[hq];exact bF hx) hy (λw X xs ys h k=>pO w X xs ys h k) (λw X ys h=>⟨(IsTs.len h).trans (AO _ _),IsTs.cells1 h⟩) (λj h1 h2=>by rcases(show j=0\/j=1\/j=2\/j=3\/j=4 by omega)with rfl|rfl|rfl|rfl|rfl<;>rfl) rfl rfl (by show(l++us).length=l.length+us.length;simp) (by show(l.length+us.length)*_<=_;omega) (by show l.length+us.length<=maxLen;unfold maxLen;omega) rfl rfl rfl (.inl ⟨by decide,rfl⟩) (λ_=>rfl) (λv'=>di _ _ _) rfl (λ_=>Ba hlb)).mono ?_;rintro v' w' ⟨k1,k2,k3,k4,k5,k6,k7⟩;obtain⟨t1,t2⟩:=hB.run' (ρ':=q_ base b m ns.length (l++us)) (g':=⟨({q with v:=up q.v 5 v'}:Mv).F b,g.M,g.Y,g.N++[v']⟩) (l:=[v']) (l':=[(0,bB)]) k4 (λx hx=>(k6 x hx).1) (λx hx=>(k6 x hx).2) rfl rfl rfl rfl (λu hu b'=>by rw[zt.1 hu];exact k2 b') (λu hu=>by rw[zt.1 hu]) ⟨v',by simp [<-a],h0,k5,_,rfl,by
  show w'.heap[b]? =some (.cells (mcl {m with tv:=v,tq:=l} q).toArray 69 (0,0));rw[k3];exact h.hb,k7⟩
 exact⟨_,⟨t1,by show(B (p+1)).P _ _;rw[hB1];exact t2⟩,by show(g.N++[v'])[ns.length]? =some v';simp [<-a]⟩
end
theorem SS.open5 {L:TL TT} {n t k b base:Nat} {m:Mn} {l:List Tm} {ns:List (Nat×Sp TT)} {g0 g:Gh} {w0 w:World} {a:Act} (h:SS L n (stB (q_ base b m k l) ns) g0 w0 a g w) (ht:lkS L t=some (nwS k)):∃v,SS ((t,eqS v)::L) n (stB (b7 base b {m with tv:=v,tq:=l}) ns) g0 w0 a g w:=by
 obtain⟨v,h1,h2⟩:=h.b.run;refine⟨v,h.t,⟨h.b.wf,h.b.pl,h2,h.b.nd,h.b.len,h.b.cell⟩,h.f.size,h.f.defers,λt' s hs=> ?_⟩;simp only[lkS]at hs;by_cases e:t=t'
 ·subst e;simp at hs;subst hs;have h3:g.N[k]? =some (a.tmps.getD t undef):=h.f.get t _ ht;rw[h1]at h3;cases h3;rfl
 ·rw[el e]at hs;exact h.f.get t' s hs
theorem SS.freeze5 {L:TL TT} {n t b base:Nat} {m:Mn} {l:List Tm} {v:Value} {ns:List (Nat×Sp TT)} {g0 g:Gh} {w0 w:World} {a:Act} (hlb:m.lb=base) (h:SS L n (stB (b7 base b {m with tv:=v,tq:=l}) ns) g0 w0 a g w) (ht:lkS L t=some (eqS v)):∃g',SS ((t,tkS l)::L) n (stB (b7 base b {m with tv:=vN,tq:=[]}) ns) g0 w0 a g' w:=by
 have hb:StB (b7 base b {m with tv:=v,tq:=l}) ns g w:=h.b;obtain⟨h0,u,q,hF,hq⟩:=hb.run;have r:q.v 5=v:=hq.rs.h5;have hv:∀i x,x∈bC (up q.v 5 vN i)->i≠5/\x∈bC (q.v i):=λi x hx=>by
  by_cases e:i=5
  ·subst e;rw[di]at hx;simp [bC]at hx
  ·rw[dx e]at hx;exact⟨e,hx⟩
 have o:∀x,x∈({q with v:=up q.v 5 vN}:Mv).F b->x∈g.F/\x∉bC (q.v 5):=λx hx=>by
  rw[hF];rcases Mv.mem.1 hx with rfl|⟨i,hi,hx⟩
  ·exact⟨Mv.mem.2 (.inl rfl),hq.rs.nb 5 (by decide)⟩
  ·obtain⟨h3,h4⟩:=hv i x hx;exact⟨Mv.mem.2 (.inr ⟨i,hi,h4⟩),λhm=>h3 (hq.rs.nd i 5 x hi (by decide) h4 hm)⟩
 have d:∀x,x∈(⟨({q with v:=up q.v 5 vN}:Mv).F b,g.M,g.Y,g.N⟩:Gh).X->x∈g.X:=λx hx=>by
  simp only[Gh.X,zr]at hx⊢;rcases hx with hx|hx
  ·exact .inl (o x hx).1
  ·exact .inr hx
 have hX:∀x,x∈(⟨({q with v:=up q.v 5 vN}:Mv).F b,g.M,g.Y,g.N⟩:Gh).X->x∈g.X\/w.heap.size<=x:=λx hx=> .inl (d x hx);have hT:TT g w ⟨({q with v:=up q.v 5 vN}:Mv).F b,g.M,g.Y,g.N⟩ w:=⟨Ch.refl _ _,λx hx=> .inl (by
  rcases zr.1 hx with hx|hx
  ·exact zw _ (o x hx).1
  ·exact zA _ hx),rfl,λ_ h=>h,⟨[],by simp⟩⟩
 have hr:=hq.rs;have c0:=Ch.refl [] w;have rs : MRs w (⟨({ q with v := up q.v 5 vN } : Mv).F b, g.M, g.Y, g.N⟩ : Gh).X base b { m with tv := vN, tq := [] } { q with v := up q.v 5 vN } := ⟨IsT.sub hr.rt d, IsT.sub hr.c0 d, IsT.sub hr.c1 d, hr.kt.mv c0 (by simp) hX, λi hi => by
   by_cases e:i=5
   ·subst e;exact⟨[],by show Own w 0 26 3 (up q.v 5 vN 5) 0 [];rw[di];exact kP,rfl⟩
   ·obtain⟨xs,k1,k2⟩:=hr.own i hi;have e3:mrw {m with tv:=vN,tq:=[]} i=mrw {m with tv:=v,tq:=l} i:=by rcases(show i=0\/i=1\/i=2\/i=3\/i=4 by omega)with rfl|rfl|rfl|rfl|rfl<;>rfl
    refine⟨xs,?_,by rw[e3];exact(mrw _ i).P.st k2 c0 (by simp) hX⟩;show Own w 0 _ _ (up q.v 5 vN i) _ _;rw[e3,dx e];exact k1,λi j x hi hj h3 h4=>hr.nd i j x hi hj (hv i x h3).2 (hv j x h4).2,λi hi hm=>hr.nb i hi (hv i b hm).2,λx hx=>hr.lo x (hv 4 x hx).2,λh=>(dx (f:=q.v) (i:=5) (j:=4) (v:=vN) (by decide)).trans (hr.h4 h),λx hx=>absurd rfl (hv 5 x hx).1,di q.v 5 vN,λx hx=>zw _ hx⟩
 refine⟨_,h.t.trans hT,⟨⟨λx hx=>hb.wf.lt x (d x hx),λx hx=>⟨λhm=>(hb.wf.dj x hx).1 (o x hm).1,(hb.wf.dj x hx).2⟩⟩,hb.pl,⟨h0,u,_,rfl,hq.hb,rs⟩,hb.nd,hb.len,λk p hp h0=>(hb.cell k p hp h0).mv hT λ_ _ _=>rfl⟩,h.f.size,h.f.defers,λt' s hs=> ?_⟩;simp only[lkS]at hs;by_cases e:t=t'
 ·subst e;simp at hs;subst hs;have h7:a.tmps.getD t undef=v:=h.f.get t _ ht;obtain⟨xs,k1,k2⟩:=hr.own 5 (by decide);have k1:Own w 0 26 3 (q.v 5) l.length xs:=k1;rw[r]at k1;refine⟨xs,?_,IsTs.sub k2 d⟩;rw[h7];refine oW k1 λc hc hm=> ?_;rw[<-r]at hc;simp only[Gh.X,zr]at hm;rcases hm with hm|hm|hm
  ·exact(o c hm).2 hc
  ·exact(hb.wf.dj c hm).1 (by rw[hF];exact Mv.mem.2 (.inr ⟨5,by decide,hc⟩))
  ·have :=h0 c hm;have h9:m.lb<=c:=hr.l5 c hc;omega
 ·rw[el e]at hs;exact Sp.mv (h.f.get t' s hs) hT
end Go.Mi.Term
namespace Go.Mi.Term
open Go.Mi Go.Proofs Go.RowKit
set_option maxRecDepth 100000 in
set_option maxHeartbeats 4000000 in
theorem db {X:List Nat} {a:Nat} (w0:World) (hX:∀x,x∈X->x<w0.heap.size):Calls Tryd.prog 68 (List.toArray [.int .i64 a]) w0 (Ret λv w'=>Gr w0 w'/\TmIs w' X (aT a) v):=by refine dI [eI a] hX ⟨rfl,zo⟩ Tryd.func68 rfl Tryd.ntmps68 rfl λac hS=> ?_;refine wp_seq ?_;refine rx [e1 0 [] (nwS 0)] [0,2] (Bl [stB noR [],stB noR [(26,cH 3)]]) 1 [(0,eI a),(2,nwS 0)] ⟨⟨cC rfl rfl rfl z26 rfl rfl,zo⟩,zo⟩ hS rfl λac g w hS=> ?_;refine wp_seq ?_;refine rx [e0 1 [(3,eI a)] (tmS (aT a)),e1 2 [(2,nwS 0),(4,tmS (aT a))] bB] [2] (Bl [stB noR [(26,cH 3)],stB noR [(26,tmS (aT a))]]) 1 [(2,nwS 0)] ⟨⟨bN λξ g w hB hH=>⟨_,⟨_,_,_,rfl,np _ _ _⟩,cM Tryd.underlying26 z26 (λw=>qg w _ Tryd.underlying26) rfl uZ⟩,zo⟩,⟨cB (k:=0) (m:=3) rfl rfl rfl rfl rfl rfl (by decide) b6 (cf 3) (bT _),zo⟩,zo⟩ hS rfl λac g w hS=> ?_;refine wp_ret ?_;obtain⟨v0,hv0,ht0⟩:=hS.rv (x:=2) (k:=0) (m:=3) (ty:=26) rfl rfl (by decide) Tryd.underlying26 rfl b6 (bT _).sized;exact bv hS.f.frm (bw Tryd.results68 hv0) ⟨hS.gr0,ht0.sub hS.sub0⟩
set_option maxRecDepth 100000 in
set_option maxHeartbeats 4000000 in
theorem dY {X:List Nat} {k:Nat} (w0:World) (hX:∀x,x∈X->x<w0.heap.size) (hk:k<=1000):Calls Tryd.prog 66 (List.toArray [.int .i64 (k+1:Nat)]) w0 (Ret λv w'=>Gr w0 w'/\TmIs w' X (cT k) v):=by refine dI [eI (k+1:Nat)] hX ⟨rfl,zo⟩ Tryd.func66 rfl Tryd.ntmps66 rfl λac hS=> ?_;refine wp_seq ?_;refine rx [e1 0 [] (nwS 0)] [0,2] (Bl [stB noR [],stB noR [(26,cH 3)]]) 1 [(0,eI (k+1:Nat)),(2,nwS 0)] ⟨⟨cC rfl rfl rfl z26 rfl rfl,zo⟩,zo⟩ hS rfl λac g w hS=> ?_;refine wp_seq ?_;refine rx [e0 1 [(3,eI (k+1:Nat))] (eI (1000001+k:Nat)),e0 2 [(4,eI (1000001+k:Nat))] (tmS (cT k)),e1 3 [(2,nwS 0),(5,tmS (cT k))] bB] [2] (Bl [stB noR [(26,cH 3)],stB noR [(26,tmS (cT k))]]) 1 [(2,nwS 0)] ⟨⟨bN λξ g w hB hH=>⟨_,rfl,ci rfl rfl ((bK (by omega) (by omega)).trans (by omega))⟩,zo⟩,⟨bX rfl λξ g w hB hH=>a_ c68 rfl (db (a:=1000001+k) w hB.wf.lt),zo⟩,⟨cB (k:=0) (m:=3) rfl rfl rfl rfl rfl rfl (by decide) b6 (cf 3) (bT _),zo⟩,zo⟩ hS rfl λac g w hS=> ?_;refine wp_ret ?_;obtain⟨v0,c,b⟩:=hS.rv (x:=2) (k:=0) (m:=3) (ty:=26) rfl rfl (by decide) Tryd.underlying26 rfl b6 (bT _).sized;exact bv hS.f.frm (bw Tryd.results66 c) ⟨hS.gr0,b.sub hS.sub0⟩
set_option maxRecDepth 100000 in
set_option maxHeartbeats 4000000 in
theorem gz {X:List Nat} {ts us:List Tm} {v v2:Value} (w0:World) (hX:∀x,x∈X->x<w0.heap.size) (h1:ts.length+us.length<=1000000) (hv:oK w0 X ts v) (hv2:TlIs w0 X false us v2):Calls Tryd.prog 90 (List.toArray [v,v2]) w0 (Ret λv w'=>Gr w0 w'/\TmIs w' X (hT (ts++us)) v):=by refine bY (F:=[]) (ρ:=(loY w0.heap.size).rx) [tkS ts,tlS us] hX ⟨rfl,zH _,hX⟩ ⟨hv,hv2,zo⟩ Tryd.func90 rfl Tryd.ntmps90 rfl λac hS=> ?_;refine wp_seq ?_;refine rx [e1 0 [] (nwS 0)] [0,1,4] (Bl [stB ((loY w0.heap.size).rx) [],stB ((loY w0.heap.size).rx) [(26,cH 3)]]) 1 [(0,tkS ts),(1,tlS us),(4,nwS 0)] ⟨⟨cC rfl rfl rfl z26 rfl rfl,zo⟩,zo⟩ hS rfl λac g w hS=> ?_;refine wp_seq ?_;refine rx [e1 0 [] (nwS 1),⟨2,[(5,nwS 1),(6,tkS ts)],nwS 2,[1],true⟩,⟨4,[(7,nwS 2),(8,tlS us)],nwS 3,[2],true⟩,⟨5,[(9,nwS 3)],tmS (hT (ts++us)),[3],true⟩,⟨6,[(4,nwS 0),(10,tmS (hT (ts++us)))],bB,[4],true⟩] [4] (Bl [stB ((loY w0.heap.size).rx) [(26,cH 3)],stB (nz w0.heap.size 1) [(26,cH 3),(0,bB)],stB (fh (loY w0.heap.size) w0.heap.size 26 3 2 (ts).length (dD (ts))) [(26,cH 3),(0,bB),(0,bB)],stB (fh (loY w0.heap.size) w0.heap.size 26 3 3 (ts++us).length (dD (ts++us))) [(26,cH 3),(0,bB),(0,bB),(0,bB)],stB ((loY w0.heap.size).rx) [(26,cH 3),(0,bB),(0,bB),(0,bB)],stB ((loY w0.heap.size).rx) [(26,tmS (hT (ts++us))),(0,bB),(0,bB),(0,bB)]]) 5 [(4,nwS 0)] ⟨⟨yY rfl rfl rfl rfl,zo⟩,⟨x6 rfl rfl rfl rfl rfl rfl (by omega),zo⟩,⟨wy rfl rfl rfl rfl rfl rfl (by omega),zo⟩,⟨wx rfl rfl rfl rfl,zo⟩,⟨cB (k:=0) (m:=3) rfl rfl rfl rfl rfl rfl (by decide) b6 (cf 3) (bT _),zo⟩,zo⟩ hS rfl λac g w hS=> ?_;refine wp_ret ?_;obtain⟨v0,b,a⟩:=hS.rv (x:=4) (k:=0) (m:=3) (ty:=26) rfl rfl (by decide) Tryd.underlying26 rfl b6 (bT _).sized;exact bv hS.f.frm (bw Tryd.results90 b) ⟨hS.gr0,a.sub hS.sub0⟩
set_option maxRecDepth 100000 in
set_option maxHeartbeats 4000000 in
theorem eW {b:Nat} {m:Mn} {F Y:List Nat} (w0:World) (hX:∀x,x∈F++Y->x<w0.heap.size) (hr:MIs 0 b m F (F++Y) w0) (hn:m.tp=none) (h1:m.r.names<=1000000):Calls Tryd.prog 64 (List.toArray [vp b]) w0 (Ret (ju b (m.w m.r.draw) Y F w0 (λ_ _ v=>v=vI m.r.names))):=by refine bY (ρ:=b7 w0.heap.size b m) [eP b 0] hX ⟨λy hy=>hX y (zA _ hy),zH _,hr.any hn⟩ ⟨rfl,zo⟩ Tryd.func64 rfl Tryd.ntmps64 rfl λac hS=> ?_;refine wp_seq ?_;refine rz hS [] [0,2] [(0,eP b 0),(2,eI 0)] zo λac g w hS=> ?_;refine wp_seq ?_;refine rx [e0 3 [(5,eP b 0)] (eI (m.r.names:Nat)),e0 4 [(6,eI (m.r.names:Nat))] (eI (((m.r.names:Nat):Int)+1)),e1 7 [(9,eP b 0),(7,eI (((m.r.names:Nat):Int)+1))] bB] [0,2] (Bl [stB (b7 w0.heap.size b m) [],stB (b7 w0.heap.size b (m.w m.r.draw)) []]) 1 [(0,eP b 0),(2,eI 0)] ⟨⟨cU (dr _ _ _) rfl rfl rfl Tryd.underlying3 rfl (λ_=>rfl),zo⟩,⟨bN λξ g w hB hH=>⟨_,rfl,ci rfl rfl (bK (by omega) (by omega))⟩,zo⟩,⟨gm rfl rfl rfl sz3 rfl rfl rfl (by decide) (λ_=>rfl) (λ_=>rfl) ⟨rfl,rfl,rfl⟩ rfl rfl rfl,zo⟩,zo⟩ hS rfl λac g w hS=> ?_;refine wp_seq ?_;refine rz hS [e0 3 [(12,eP b 0)] (eI ((m.r.names+1:Nat):Int)),e0 4 [(13,eI ((m.r.names+1:Nat):Int))] (eI (m.r.names:Nat))] [2] [(2,eI (m.r.names:Nat))] ⟨⟨cU (dr _ _ _) rfl rfl rfl Tryd.underlying3 rfl (λ_=>rfl),zo⟩,⟨bN λξ g w hB hH=>⟨_,rfl,eu rfl rfl ((bK (by omega) (by omega)).trans (by omega))⟩,zo⟩,zo⟩ λac g w hS=> ?_;refine wp_ret ?_;exact bv hS.f.frm (bw Tryd.results64 (RV.tmp hS.f.frm rfl)) (hS.postM hn rfl)
set_option maxRecDepth 100000 in
set_option maxHeartbeats 4000000 in
theorem fu {b:Nat} {m:Mn} {F Y:List Nat} {l:List Tm} {v:Value} (w0:World) (hX:∀x,x∈F++Y->x<w0.heap.size) (hr:MIs 0 b m F (F++Y) w0) (hn:m.tp=none) (hk:m.r.known.length+l.length<=1000000) (hv:TlIs w0 (F++Y) false l v):Calls Tryd.prog 65 (List.toArray [vp b,v]) w0 (Ret (ju b (m.w (m.r.sees l)) Y F w0 (λ_ _ _=>True))):=by refine bY (ρ:=b7 w0.heap.size b m) [eP b 0,tlS l] hX ⟨λy hy=>hX y (zA _ hy),zH _,hr.any hn⟩ ⟨rfl,hv,zo⟩ Tryd.func65 rfl Tryd.ntmps65 rfl λac hS=> ?_;refine rx [e1 1 [] (nwS 0),⟨5,[(8,eP b 16)],knS m.r.known,[1],false⟩,⟨6,[(5,nwS 0),(9,knS m.r.known)],nwS 1,[1],true⟩,⟨8,[(10,nwS 1),(11,tlS l)],nwS 2,[2],true⟩,⟨11,[(14,eP b 16),(12,nwS 2)],bB,[3],true⟩] [] (Bl [stB (b7 w0.heap.size b m) [],stB (jv w0.heap.size b {m with tp:=some ([])} 0) [(0,bB)],stB (jv w0.heap.size b {m with tp:=some ([]++m.r.known)} 1) [(0,bB),(0,bB)],stB (jv w0.heap.size b {m with tp:=some (([]++m.r.known)++l)} 2) [(0,bB),(0,bB),(0,bB)],stB (b7 w0.heap.size b (m.w (m.r.sees l))) [(0,bB),(0,bB),(0,bB)]]) 4 [] ⟨⟨xZ hn rfl rfl rfl rfl,zo⟩,⟨o4 (m:={m with tp:=some []}) (yg _ _ _ _) rfl rfl rfl,zo⟩,⟨uS rfl rfl rfl rfl rfl (yx rfl) (by simp;omega),zo⟩,⟨uS rfl rfl rfl rfl rfl (yv rfl) (by simp;omega),zo⟩,⟨wr (tC hn) rfl rfl rfl rfl rfl,zo⟩,zo⟩ hS rfl λac g w hS=> ?_;exact dv hS.f.frm (dt Tryd.results65) (hS.postM hn zo)
end Go.Mi.Term
namespace Go.Mi.Term
open Go.Mi Go.Proofs Go.RowKit
set_option maxRecDepth 100000 in
set_option maxHeartbeats 4000000 in
theorem ij {b:Nat} {m:Mn} {F Y:List Nat} {ts:List Tm} {k:Nat} {e:Ep} {v v2:Value} (w0:World) (hX:∀x,x∈F++Y->x<w0.heap.size) (hr:MIs 0 b m F (F++Y) w0) (hn:m.tp=none) (hl:ts.length<=1000) (hk1:k<=1000) (hep:m.r.eps.length<=1000000) (hv2:(agS (cxE e)).hold ⟨F,[],Y,[]⟩ w0 v2) (hv:oK w0 (F++Y) ts v):Calls Tryd.prog 70 (List.toArray [vp b,v2,v,vI (k+1:Nat)]) w0 (Ret (ju b (m.w (m.r.begin ts k e)) Y F w0 (λ_ _ _=>True))):=by
 refine bY (ρ:=b7 w0.heap.size b m) [eP b 0,agS (cxE e),tkS ts,eI (k+1:Nat)] hX ⟨λy hy=>hX y (zA _ hy),zH _,hr.any hn⟩ ⟨rfl,hv2,hv,rfl,zo⟩ Tryd.func70 rfl Tryd.ntmps70 rfl λac hS=> ?_;refine wp_seq ?_;refine rx [e1 0 [(1,agS (cxE e))] (nwS 0)] [0,2,3,5] (Bl [stB (b7 w0.heap.size b m) [],stB (b7 w0.heap.size b m) [(103,agS (cxE e))]]) 1 [(0,eP b 0),(2,tkS ts),(3,eI (k+1:Nat)),(5,nwS 0)] ⟨⟨cY rfl rfl rfl rfl (f7 _).sized rfl,zo⟩,zo⟩ hS rfl λac g w hS=> ?_;refine wp_seq ?_;refine rx [e0 3 [(11,eI (k+1:Nat))] (tmS (cT k)),e0 4 [(12,tmS (cT k))] (tfS [(cT k)]),e0 5 [(10,tkS ts),(13,tfS [(cT k)])] (tmS (hT (ts++[cT k]))),e1 8 [(16,eP b 5),(14,tmS (hT (ts++[cT k])))] bB] [0,2,5] (Bl [stB (b7 w0.heap.size b m) [(103,agS (cxE e))],stB (b7 w0.heap.size b (m.w (m.r.rooted ts k))) [(103,agS (cxE e))]]) 1 [(0,eP b 0),(2,tkS ts),(5,nwS 0)] ⟨⟨bX rfl λξ g w hB hH=>a_ c66 rfl (dY (k:=k) w hB.wf.lt (by first |decide|omega)),zo⟩,⟨de rfl rfl rfl,zo⟩,⟨bX rfl λξ g w hB hH=>a_ c90 rfl (gz w hB.wf.lt (by simp;omega) (hH 10 _ rfl) (TlIs.gen (hH 13 _ rfl))),zo⟩,⟨qo rfl rfl rfl rfl rfl,zo⟩,zo⟩ hS rfl λac g w hS=> ?_;refine wp_seq ?_;refine wp_seq ?_;refine rz hS [] [0,2,5,8] [(0,eP b 0),(2,tkS ts),(5,nwS 0),(8,eI 0)] zo λac g w hS=> ?_;refine bA ?_;refine wp_block ?_;refine ca (λa ac w=>∃(i:Nat) (g:Gh),a=2-i/\(i<=2)/\SS [(0,eP b 0),(2,tkS ts),(5,nwS 0),(8,eI i)] 48 (stB (b7 w0.heap.size b (m.w ((m.r.rooted ts k).chains ts i))) [(103,agS (cxE e))]) ⟨F,[],Y,[]⟩ w0 ac g w) _ ⟨0,_,rfl,zV _,hS.toB (zu (λz=>stB (b7 w0.heap.size b (m.w z)) _) (pH _ _).symm) ⟨rfl,rfl,rfl,rfl,zo⟩⟩ ?_;rintro _ ac w ⟨i,g,rfl,hi,hS⟩;refine wp_seq ?_;refine wp_seq ?_;refine rz hS [] [0,2,5,8,18] [(0,eP b 0),(2,tkS ts),(5,nwS 0),(8,eI i),(18,eB (decide ((i:Int)<2)))] zo λac g w hS=> ?_;refine bA ?_;refine cr hS.f.frm rfl (λh=> ?_) (λh=> ?_)
 ·have hc:=zB h;clear h;have hc:i<2:=by omega
  refine wp_skip ?_;refine wp_seq ?_;refine wp_block ?_;refine rw_ mo [e0 3 [] (tmS (cT 3)),e0 8 [(28,eP b 3),(26,eI i)] (eP b (3+i*1)),e0 9 [(29,eP b (3+i*1))] (eI (m.r.x i:Nat)),e0 10 [(30,eI (m.r.x i:Nat))] (tmS (aT (m.r.x i))),e0 11 [(31,tmS (aT (m.r.x i)))] (tmS (pT (m.r.x i))),e0 12 [(24,tmS (cT 3)),(32,tmS (pT (m.r.x i)))] (tfS [(cT 3),(pT (m.r.x i))]),e0 13 [(23,tkS ts),(33,tfS [(cT 3),(pT (m.r.x i))])] (tmS (hT (ts++[cT 3,pT (m.r.x i)]))),e0 16 [(36,eP b 8),(22,eI i)] (eP b (8+i*3)),e1 17 [(37,eP b (8+i*3)),(34,tmS (hT (ts++[cT 3,pT (m.r.x i)])))] bB] [0,2,5,8] (Bl [stB (b7 w0.heap.size b (m.w ((m.r.rooted ts k).chains ts i))) [(103,agS (cxE e))],stB (b7 w0.heap.size b (m.w {(m.r.rooted ts k).chains ts i with ch:=up ((m.r.rooted ts k).chains ts i).ch i (hT (ts++[cT 3,pT (m.r.x i)]))})) [(103,agS (cxE e))]]) 1 [(0,eP b 0),(2,tkS ts),(5,nwS 0),(8,eI i)] ⟨⟨bX rfl λξ g w hB hH=>a_ c66 rfl (dY (k:=3) w hB.wf.lt (by first |decide|omega)),zo⟩,⟨cJ rfl rfl rfl Tryd.underlying56 sz3 hc,zo⟩,⟨cU (dr _ _ _) rfl rfl rfl Tryd.underlying3 rfl (λ_=>pg hc),zo⟩,⟨bX rfl λξ g w hB hH=>a_ c68 rfl (db w hB.wf.lt),zo⟩,⟨bX rfl λξ g w hB hH=>a_ c67 rfl (fF w hB.wf.lt (hH 31 _ rfl)),zo⟩,⟨cX rfl rfl rfl rfl,zo⟩,⟨bX rfl λξ g w hB hH=>a_ c90 rfl (gz w hB.wf.lt (by simp;omega) (hH 23 _ rfl) (TlIs.gen (hH 33 _ rfl))),zo⟩,⟨cJ rfl rfl rfl Tryd.underlying64 b6 hc,zo⟩,⟨pm hc rfl rfl rfl rfl rfl,zo⟩,zo⟩ hS rfl λac g w hS=> ?_;refine bR ?_;refine rz hS [e0 1 [(19,eI i)] (eI (((i:Nat):Int)+1))] [0,2,5,8] [(0,eP b 0),(2,tkS ts),(5,nwS 0),(8,eI (((i:Nat):Int)+1))] ⟨⟨bN λξ g w hB hH=>⟨_,rfl,ci rfl rfl (bK (by omega) (by omega))⟩,zo⟩,zo⟩ λac g w hS=> ?_;refine bA ?_;refine⟨_,?_,i+1,_,rfl,hc,hS.toB (zu (λz=>stB (b7 w0.heap.size b (m.w z)) _) (jt _ _ _).symm) ⟨rfl,rfl,rfl,rfl,zo⟩⟩;omega
 ·have hc:=of_decide_eq_false h;clear h;obtain rfl:i=2:=by omega
  refine wp_exit ?_;refine bM ?_;refine bM ?_;refine bZ ?_;refine bA ?_;obtain⟨q,hS⟩:=hS.openM;refine rw_ mo [e0 4 [(41,eP b 21)] (eqS (q.v 1)),e0 5 [(5,nwS 0)] (agS (cxE e)),e0 6 [(43,agS (cxE e))] (slS (cxE e) 1),e1 7 [(42,eqS (q.v 1)),(44,slS (cxE e) 1)] (nwS 1),⟨10,[(47,eP b 21),(45,nwS 1)],bB,[1],true⟩] [0,2,5] (Bl [stB (e_ w0.heap.size b (m.w ((m.r.rooted ts k).chains ts 2)) q) [(103,agS (cxE e))],stB (gl w0.heap.size b (m.w (((m.r.rooted ts k).chains ts 2).ended e)) 21 1) [(103,agS (cxE e)),(0,bB)],stB (b7 w0.heap.size b (m.w (m.r.begin ts k e))) [(103,agS (cxE e)),(0,bB)]]) 2 [(0,eP b 0),(2,tkS ts),(5,nwS 0)] ⟨⟨cE (d8 _ _ _ _) rfl rfl rfl Tryd.underlying66 rfl rfl,zo⟩,⟨cg (k:=0) rfl rfl rfl rfl (by decide) Tryd.underlying103 rfl kX (f7 _).sized,zo⟩,⟨kO rfl rfl Tryd.underlying66 w9 (by decide) (by decide) rfl (λ_ _ _ h=>uY h),zo⟩,⟨ul rfl rfl rfl rfl rfl rfl (hep),zo⟩,⟨l7 (k:=1) rfl rfl rfl xq rfl rfl (by decide),zo⟩,zo⟩ hS rfl λac g w hS=> ?_;exact dv hS.f.frm (dt Tryd.results70) (hS.postM hn zo)
end Go.Mi.Term
namespace Go.Mi.Term
open Go.Mi Go.Proofs Go.RowKit
def Mn.doA (m:Mn) (kd wh:Int) (c:Bool):Mn:={m with r:=m.r.act kd wh c,sn:=if kd=1 then m.sn++[(m.r.eps.length-1,m.r.last.rev)]else m.sn,tl:=if kd=3 then m.tl++[m.r.id wh.toNat,m.r.x wh.toNat]else m.tl}
theorem p7 {r:Rn} {kd wh:Int} (h:r.refuses kd wh=true):kd<1\/(1<=kd/\5<kd)\/(1<=kd/\kd<=3/\wh<0)\/(1<=kd/\kd<=3/\0<=wh/\1<wh)\/(1<=kd/\kd<=3/\0<=wh/\wh<=1/\60<=r.acts)\/(3<kd/\kd<=5/\60<=r.acts):=by simp only[Rn.refuses,z8,zD,zU]at h;omega
theorem lA {r:Rn} {kd wh:Int} (h:r.refuses kd wh=false):r.acts<60/\((kd=1/\∃j:Nat,wh=j/\j<2)\/(kd=2/\∃j:Nat,wh=j/\j<2)\/(kd=3/\∃j:Nat,wh=j/\j<2)\/kd=4\/kd=5):=by
 simp only[Rn.refuses,AJ,Ay,decide_eq_false_iff_not]at h;refine⟨by omega,?_⟩;have hw:kd<=3->∃j:Nat,wh=j/\j<2:=λh3=>⟨wh.toNat,by omega,by omega⟩;rcases(show kd=1\/kd=2\/kd=3\/kd=4\/kd=5 by omega)with rfl|rfl|rfl|rfl|rfl
 ·exact .inl ⟨rfl,hw (by decide)⟩
 ·exact .inr (.inl ⟨rfl,hw (by decide)⟩)
 ·exact .inr (.inr (.inl ⟨rfl,hw (by decide)⟩))
 ·exact .inr (.inr (.inr (.inl rfl)))
 ·exact .inr (.inr (.inr (.inr rfl)))
namespace Rn
abbrev c1 (r:Rn) (j:Nat):Rn:={r with ch:=up r.ch j (hT [r.ch j,cT 1])}
abbrev c2 (r:Rn) (j:Nat):Rn:={r.c1 j with keys:=r.keys++[r.kk j]}
abbrev c3 (r:Rn) (j:Nat):Rn:={r.c2 j with behind:=r.behind++[r.last.rev]}
abbrev c4 (r:Rn) (j:Nat):Rn:={r.c3 j with ix:=up r.ix j (r.ix j+1)}
end Rn
abbrev Mn.sm (m:Mn) (r:Rn):Mn:={m with r:=r,sn:=m.sn++[(m.r.eps.length-1,m.r.last.rev)]}
theorem g_ {m:Mn} {q:Mv} {j v:Nat} (hj:j<2) (h:m.r.x j=v):(mcl m q)[3+j*1]? =some (vI v):=h▸pg hj
theorem qN {w:World} {X:List Nat} {f:Bool} {ts:List Tm} {v:Value} (h:TlIs w X f ts v):oK w X ts v:=by obtain⟨b,o,cap,xs,rfl,_,h1,h2,h3,h4⟩:=h;exact⟨xs,.inr ⟨b,o,cap,rfl,h1,h2,h3⟩,h4⟩
theorem tk0 {w:World} {X:List Nat}:oK w X [] vN:=⟨[],.inl ⟨.inl rfl,rfl,rfl⟩,rfl⟩
theorem yU (w:World):∀fs,Tryd.prog.underlying 73=some (.struct fs)->(fs.mapM λf=>(do pure (f.offset,<-sizeOf f.type):Sem (Nat×Nat))).run Tryd.prog w= .ok #[(0,3),(3,1),(4,1),(5,1)] w:=by intro fs h;rw[Tryd.underlying73]at h;cases h;obtain⟨i1,h1,e1⟩:=zq.1 b6;obtain⟨i3,h3,e3⟩:=zq.1 sz3;simp [sizeOf,typeInfo,h1,h3,e1,e3]
theorem xN (w:World):∀fs,Tryd.prog.underlying 103=some (.struct fs)->(fs.mapM λf=>(do pure (f.offset,<-sizeOf f.type):Sem (Nat×Nat))).run Tryd.prog w= .ok #[(0,1),(1,1),(2,1)] w:=by intro fs h;rw[Tryd.underlying103]at h;cases h;obtain⟨i1,h1,e1⟩:=zq.1 xm;obtain⟨i3,h3,e3⟩:=zq.1 sz4;simp [sizeOf,typeInfo,h1,h3,e1,e3]
theorem xM (w:World):∀fs,Tryd.prog.underlying 107=some (.struct fs)->(fs.mapM λf=>(do pure (f.offset,<-sizeOf f.type):Sem (Nat×Nat))).run Tryd.prog w= .ok #[(0,1),(1,1)] w:=by intro fs h;rw[Tryd.underlying107]at h;cases h;obtain⟨i1,h1,e1⟩:=zq.1 sz3;obtain⟨i3,h3,e3⟩:=zq.1 sz4;simp [sizeOf,typeInfo,h1,h3,e1,e3]
theorem yl {z:Value} {a:Int} {c:Bool} {w:World} {X:List Nat} {vs:List Value} (h:(cxV [vI a,.bool c]).R w X vs):Instr.fill (λi=>some (i*2,2)) ((Array.range (1*2)).map (z.cells[· %z.cells.size]!)) [(0,.agg vs.toArray)]=some vs.toArray:=by obtain rfl:vs=[vI a,.bool c]:=h;simp [Instr.fill,Value.cells];apply Array.ext';simp [zO,z6,Ab,Ag]
theorem yy (u:Int) (c:Bool):Agg 2 (agS (cxV [vI u,.bool c])):=λg w x ⟨vs,h,h2⟩=>by obtain rfl:vs=[vI u,.bool c]:=h2;exact⟨_,h,rfl,by simp [Value.oneCell']⟩
section
set_option maxRecDepth 100000
variable {ops:List Oper} {n:Nat} {B:Nat->BX XX} {i p b k o base:Nat} {L:TL TT} {ph:List Nat} {ρ:RX} {ns:List (Nat×Sp TT)} {ds:Option Tmp} {ty:TypeId} {pos:String} {af:Array Edge} {gu:Option (Nat×Bool)} {t:TypeId} {m m':Mn} {q:Mv} {x y x1 x2 x3 x4:Operand} {v:Value}
theorem ge {j l e:Nat} (hj:j<6) (hr:HasMQ ρ b m q) (hB0:B p=stB ρ ns) (hop:ops.getD i default=⟨ds,.call ⟨.builtin .len,#[x],#[ty]⟩,t,pos,af,gu⟩) (hx:spO L x=some (eqS (q.v j))) (ht:Tryd.prog.underlying ty=some (.slice e)) (hl:(mrw m j).n=l):EOb Tryd.prog n ops XX B ⟨i,L,eI l,ph,false⟩ p:=gZ hB0 λξ g w hB hH=>by obtain⟨_,h⟩:=hr g w hB.run;rw[hop,<-hl];obtain⟨xs,h1,_⟩:=h.rs.own j hj;exact⟨_,rfl,gF ht (bF hx) h1⟩
theorem tV {u:Tm} {e1 e2 e3:Nat} (hop:ops.getD i default=⟨ds,.build 73 #[(0,x1),(1,x2),(2,x3),(3,x4)],t,pos,af,gu⟩) (h1:spO L x1=some (tmS u)) (h2:spO L x2=some (eI e1)) (h3:spO L x3=some (eI e2)) (h4:spO L x4=some (eI e3)):EOb Tryd.prog n ops XX B ⟨i,L,agS (cxK ⟨u,e1,e2,e3⟩),ph,false⟩ p:=bN λξ g w hB hH=>by rw[hop];obtain⟨v,k1,k2⟩:=bH h1 hH;obtain⟨a1,a2,ad,l,c,rfl,k3⟩:=TmIs.cells k2;have k4:=bF (ξ:=ξ) h2;have k5:=bF (ξ:=ξ) h3;have k6:=bF (ξ:=ξ) h4;exact⟨_,⟨_,rfl,_,rfl,k3⟩,cM (ps:=[(0,.agg #[.int .i64 a1,.int .i64 a2,.slice ad l c]),(1,vI e1),(2,vI e2),(3,vI e3)]) Tryd.underlying73 z73 (λw=>yU w _ Tryd.underlying73) (by simp [evp,k1,k4,k5,k6]) sr⟩
theorem jL {l:Nat} {ps:List (Nat×Nat)} {us:List Value} {c:Bool} (hl:ps.length=l) (hu:dhL ps=us) (hop:ops.getD i default=⟨ds,.build 103 #[(0,x1),(1,x2)],t,pos,af,gu⟩) (h1:spO L x1=some (slS (cxV us) l)) (h2:spO L x2=some (eqS (.bool c))):EOb Tryd.prog n ops XX B ⟨i,L,agS (cxE ⟨ps,c,false⟩),ph,false⟩ p:=bN λξ g w hB hH=>by subst hl;rw[hop];obtain⟨v,k1,b1,o1,cap,vs,rfl,m1,m2,m3,m4⟩:=bH h1 hH;have m4:vs=us:=m4;rw[m4,<-hu]at m3;have k4:=bF (ξ:=ξ) h2;exact⟨_,⟨[.slice (some ⟨b1,o1,none⟩) ps.length (ps.length+cap),.bool c,.bool false],rfl,_,rfl,.inr ⟨b1,o1,cap,rfl,m1,m2,m3⟩⟩,cM (ps:=[(0,.slice (some ⟨b1,o1,none⟩) ps.length (ps.length+cap)),(1,.bool c)]) Tryd.underlying103 xf (λw=>xN w _ Tryd.underlying103) (by simp [evp,k1,k4]) (by simp [Instr.fill,Value.cells])⟩
theorem tU {e:Int} {c:Bool} (hop:ops.getD i default=⟨ds,.build 107 #[(0,x1),(1,x2)],t,pos,af,gu⟩) (h1:spO L x1=some (eI e)) (h2:spO L x2=some (eqS (.bool c))):EOb Tryd.prog n ops XX B ⟨i,L,agS (cxV [vI e,.bool c]),ph,false⟩ p:=bN λξ g w hB hH=>by rw[hop];have k1:=bF (ξ:=ξ) h1;have k2:=bF (ξ:=ξ) h2;exact⟨_,⟨_,rfl,rfl⟩,cM (ps:=[(0,vI e),(1,.bool c)]) Tryd.underlying107 xd (λw=>xM w _ Tryd.underlying107) (by simp [evp,k1,k2]) (by simp [Instr.fill,Value.cells])⟩
theorem vV {a c:Int} (hB0:B p=stB ρ ns) (hop:ops.getD i default=⟨ds,.buildSlice 22 2 #[(0,x1),(1,x2)],t,pos,af,gu⟩) (h1:spO L x1=some (eI a)) (h2:spO L x2=some (eI c)):EOb Tryd.prog n ops XX B ⟨i,L,slS (cxV [vI a,vI c]) 2,ph,false⟩ p:=fv λξ g w hB hH=>by
 rw[hB0]at hB;have hB:StB ρ ns g w:=hB;rw[hop];refine(bU Tryd.underlying22 zz3 (ps:=[(0,vI a),(1,vI c)]) (cells:= #[vI a,vI c]) (by simp [evp,bF h1,bF h2]) (by decide) (by decide) (by
  simp [Instr.fill,Value.cells];apply Array.ext';simp [zO,z6,Ab,Ag])).mono ?_
 rintro v w' ⟨b,rfl,hn⟩;exact lJ hB.wf hn rfl
theorem fj {j:Nat} (hr:HasMQ ρ b m q) (hB0:B p=stB ρ ns) (hop:ops.getD i default=⟨ds,.indexAddr 66 x y,t,pos,af,gu⟩) (hx:spO L x=some (eqS (q.v 1))) (hy:spO L y=some (eI j)) (hj:j<m.r.eps.length):EOb Tryd.prog n ops XX B ⟨i,L,eP (bkV (q.v 1)) (j*3),ph,false⟩ p:=gZ hB0 λξ g w hB hH=>by obtain⟨_,h⟩:=hr g w hB.run;rw[hop];obtain⟨xs,h1,_⟩:=h.rs.own 1 (by decide);have h1:Own w 0 103 3 (q.v 1) m.r.eps.length xs:=h1;obtain⟨cap,e,_⟩:=fy h1 (by omega);have hx:=bF (ξ:=ξ) hx;rw[e]at hx;refine⟨_,rfl,?_⟩;have :=dU (w:=w) (n:=n) (ds:=ds) (ty:=t) (pos:=pos) (af:=af) (gu:=gu) Tryd.underlying66 kX hx (bF hy) rfl hj;simpa using this
theorem su {w:World} {X:List Nat} {j:Nat} {e:Ep} (h:MRs w X base b m q) (hj:m.r.eps[j]? =some e):∃sl,At w (bkV (q.v 1)) (j*3) [sl,.bool e.kem,.bool e.rev]/\SlA w X sl e.dhs.length (dhL e.dhs):=by
 obtain⟨xs,h1,h2⟩:=h.own 1 (by decide);have h1:Own w 0 103 3 (q.v 1) m.r.eps.length xs:=h1;have h2:AllIs (EpIs w X) m.r.eps xs:=h2;obtain⟨x1,u,x2,e1,e2,⟨sl,rfl,h3⟩,_⟩:=AllIs.at EpIs.len h2 hj;obtain⟨cap,_,hat⟩:=fy h1 (by
  rcases Al m.r.eps.length with h'|h'
  ·rw[zR h']at hj;simp at hj
  ·exact h')
 refine⟨sl,λk v hv=> ?_,h3⟩;have :=hat (j*3+k) v (by rw[e1,Aa,zM (by omega),e2,AC,zL];exact hv;rcases zF k 3 with h'|h';exact h';rw[zz h']at hv;cases hv);simpa using this
theorem il {j:Nat} {e:Ep} {c:Bool} (hc:e.rev=c) (hr:HasMQ ρ b m q) (hB0:B p=stB ρ ns) (hop:ops.getD i default=⟨ds,.load 4 x,t,pos,af,gu⟩) (hx:spO L x=some (eP (bkV (q.v 1)) (j*3+2))) (hj:m.r.eps[j]? =some e):EOb Tryd.prog n ops XX B ⟨i,L,eqS (.bool c),ph,false⟩ p:=gZ hB0 λξ g w hB hH=>by obtain⟨_,h⟩:=hr g w hB.run;rw[hop,<-hc];obtain⟨sl,h,_⟩:=su h.rs hj;exact⟨_,rfl,bJ Tryd.underlying4 rfl (bF hx) (h 2 _ rfl)⟩
theorem jK {j:Nat} {e:Ep} (hr:HasMQ ρ b m q) (hB0:B p=stB ρ ns) (hop:ops.getD i default=⟨ds,.load 103 x,t,pos,af,gu⟩) (hx:spO L x=some (eP (bkV (q.v 1)) (j*3))) (hj:m.r.eps[j]? =some e):EOb Tryd.prog n ops XX B ⟨i,L,agS (cxE e),ph,false⟩ p:=gZ hB0 λξ g w hB hH=>by obtain⟨_,h⟩:=hr g w hB.run;rw[hop];obtain⟨sl,h,h2⟩:=su h.rs hj;exact⟨_,⟨_,rfl,sl,rfl,h2⟩,cb Tryd.underlying103 rfl kX (bF hx) h rfl⟩
theorem rY (h0:0<m.r.eps.length) (hB0:B p=stB (e_ base b m q) ns) (hB1:B (p+1)=stB (b7 base b (m.w m.r.marked)) ns) (hop:ops.getD i default=⟨ds,.store 4 x y,t,pos,af,gu⟩) (hx:spO L x=some (eP (bkV (q.v 1)) ((m.r.eps.length-1)*3+2))) (hy:spO L y=some (eqS (.bool true))):EOb Tryd.prog n ops XX B ⟨i,L,bB,ph,true⟩ p:=by
 intro ξ g w hB hH;rw[hB0]at hB;have hB:StB (e_ base b m q) ns g w:=hB;show Ok1 Tryd.prog (ops.getD i default) _ _ _ _;rw[hop];obtain⟨J,o,hF,h⟩:=hB.run;have hr:=h.rs;obtain⟨xs,h1,h2⟩:=hr.own 1 (by decide);have h1:Own w 0 103 3 (q.v 1) m.r.eps.length xs:=h1;have h2:AllIs (EpIs w g.X) m.r.eps xs:=h2;obtain⟨E,k,_⟩:=fy h1 h0;have z:=h1;rw[k]at z;obtain⟨e1,e2⟩:=z;rcases e2 with⟨e2,_⟩|⟨c',cap',cur,e2,e3,e4,e5,e6,e7,e8⟩
 ·cases e2
 cases e2;refine(dk sz4 (bF hx) (bF hy) rfl e4 (by omega)).mono ?_;intro _ w' hu;have f:bC (q.v 1)=[bkV (q.v 1)]:=by rw[k];simp [bC,bkV]
 have D:bkV (q.v 1)∈g.F:=by rw[hF];exact Mv.mem.2 (.inr ⟨1,by decide,by rw[f];simp⟩)
 have c:Ch (bC (q.v 1)) w w':=by rw[f];exact hu.ch
 have A:Own w' 0 103 3 (q.v 1) m.r.eps.length (xs.set ((m.r.eps.length-1)*3+2) (.bool true)):=by have :=pc (u:= .bool true) (j:=(m.r.eps.length-1)*3+2) (w':=w') (show Own w 0 103 3 (.slice (some ⟨bkV (q.v 1),0,none⟩) m.r.eps.length E) m.r.eps.length xs by rw[<-k];exact h1) (λcur' hc=>by rw[e4]at hc;cases hc;exact hu);rw[<-k]at this;exact this
 obtain⟨x1,u,x2,f1,f2,f3,f4,f5⟩:=AllIs.at EpIs.len h2 (gO h0);obtain⟨sl,rfl,H⟩:=f3;have G:xs.set ((m.r.eps.length-1)*3+2) (.bool true)=x1++([sl,.bool m.r.last.kem,.bool true]++x2):=by rw[f1,<-f2];simp [List.set_append]
 have I:AllIs (EpIs w g.X) m.r.marked.eps (xs.set ((m.r.eps.length-1)*3+2) (.bool true)):=by rw[G];show AllIs (EpIs w g.X) (m.r.eps.modify _ _) _;rw[iS (gO h0)];exact f4.app ((AllIs.one (a:={m.r.last with rev:=true}) ⟨sl,rfl,H⟩).app f5)
 have C:m.r.marked.eps.length=m.r.eps.length:=by simp [Rn.marked]
 have s:∀j,up q.v 1 (q.v 1) j=q.v j:=λj=>by
  by_cases e:j=1
  ·subst e;exact di _ _ _
  ·exact dx e
 have d:∀x,x∈({q with v:=up q.v 1 (q.v 1)}:Mv).F b->x∈g.F:=λx hx=>by
  rw[hF];rcases Mv.mem.1 hx with rfl|⟨j,hj,hx⟩
  ·exact Mv.mem.2 (.inl rfl)
  ·exact Mv.mem.2 (.inr ⟨j,hj,by rw[<-s j];exact hx⟩)
 have hX:∀x,x∈({q with v:=up q.v 1 (q.v 1)}:Mv).F b++(g.M++g.Y)->x∈g.X\/w.heap.size<=x:=λx hx=> .inl (by
  simp only[Gh.X];rcases zr.1 hx with hx|hx
  ·exact zw _ (d x hx)
  ·exact zA _ hx)
 obtain ⟨t1, t2⟩ := hB.run' (ρ' := b7 base b (m.w m.r.marked)) (g' := ⟨({ q with v := up q.v 1 (q.v 1) } : Mv).F b, g.M, g.Y, g.N⟩) (w' := w') (l := []) (l' := []) (c.mono (by rw [f]; simp [D])) (λx hx => .inl (d x hx)) (λx hx => zE (hB.wf.lt x (by simp [Gh.X, d x hx])) c.size) rfl rfl (by simp) rfl (by simp) (by simp) ⟨J, zy o c.size, _, rfl, by
   show w'.heap[b]? =some (.cells (mcl m q).toArray 69 (0,0));rw[c.blk b (cO h.hb) (hr.nb 1 (by decide))];exact h.hb,hr.put (i:=1) (zs:=xs.set ((m.r.eps.length-1)*3+2) (.bool true)) (by decide) (cO h.hb) o c (λx hx=> .inl hx) (by show Own w' 0 103 3 (q.v 1) m.r.marked.eps.length _;rw[C];exact A) (I.imp λ_ _ e=>e.mv c (λy hy=>by rw[f]at hy;rw[zt.1 hy];simp [Gh.X,D]) hX) (λj h1 h2=>by rcases(show j=0\/j=2\/j=3\/j=4\/j=5 by omega)with rfl|rfl|rfl|rfl|rfl<;>rfl) (λh=>by rw[s];exact hr.h4 h) (by rw[s];exact hr.h5) rfl (λe=>by cases e) hX (λx hx=>zw _ hx) rfl rfl rfl⟩
 rw[AQ]at t2;exact⟨_,⟨t1,by show(B (p+1)).P _ _;rw[hB1];exact t2⟩,zo⟩
end
end Go.Mi.Term
