/- Texts that belong together: T1, T2, T3, T4, T5, T6. General lemmas and walks; no conditions. -/
import Derived.Test.YtoefhjabaanokaaDoorB2
set_option linter.unusedSimpArgs false
set_option linter.unusedVariables false
set_option linter.unnecessarySimpa false
namespace Go.Mi.Term
theorem Tm.rec' {p:Tm->Prop} (h:∀k n ks,(∀t,t∈ks->p t)->p (.mk k n ks)):(t:Tm)->p t
 | .mk k n ks=>h k n ks λt _=>Tm.rec' h t
inductive Ok:Tm->Prop
 |mk {k n:Int} {ks:List Tm}:named k n=true->low k<=ks.length->ks.length<=dZ k->(∀t,t∈ks->Ok t)->Ok (.mk k n ks)
theorem Ok.named {k n:Int} {ks:List Tm} (h:Ok (.mk k n ks)):1<=k/\k<=9/\(k=1->0<=n/\n<=1073741824):=by
 cases h with
 |mk h1 h2 h3 h4=>
  simp only[Term.named,zD,z8,zU,Aq,decide_eq_false_iff_not]at h1;omega
theorem Ok.kids {k n:Int} {ks:List Tm} (h:Ok (.mk k n ks)):low k<=ks.length/\ks.length<=dZ k/\∀t,t∈ks->Ok t:=by
 cases h with
 |mk h1 h2 h3 h4=>exact⟨h2,h3,h4⟩
theorem Ok.atom {n:Int} {ks:List Tm} (h:Ok (.mk 1 n ks)):ks=[]:=by have :=h.kids.2.1;simp [dZ]at this;exact this
theorem Ok.more {k n:Int} {ks:List Tm} (h:Ok (.mk k n ks)) (hk:k≠1):0<ks.length:=by have :=h.kids.1;unfold low at this;rw[zK hk]at this;split at this<;>omega
def ord (k:Int) (ks:List Tm):List Tm:=
 if k=3 then(match ks with
  |a::b::r=>if eb (txt b) (txt a)then b::a::r else ks
  |_=>ks)else ks
theorem lT (k:Int) (ks:List Tm):fY k (ks.map txt)=(ord k ks).map txt:=by
 unfold fY ord;split
 ·match ks with
  |[]=>rfl
  |[_]=>rfl
  |a::b::r=>
   simp only[Ad];split<;>rfl
 ·rfl
theorem ord_mem {k:Int} {ks:List Tm} {t:Tm}:t∈ord k ks↔t∈ks:=by
 unfold ord;split
 ·match ks with
  |[]=>rfl
  |[_]=>rfl
  |a::b::r=>
   simp only;split
   ·simp only[zx];constructor
    ·rintro(h|h|h)
     ·exact .inr (.inl h)
     ·exact .inl h
     ·exact .inr (.inr h)
    ·rintro(h|h|h)
     ·exact .inr (.inl h)
     ·exact .inl h
     ·exact .inr (.inr h)
   ·rfl
 ·rfl
theorem lU (k:Int) (ks:List Tm):(ord k ks).length=ks.length:=by
 unfold ord;split
 ·match ks with
  |[]=>rfl
  |[_]=>rfl
  |a::b::r=>
   simp only;split<;>simp
 ·rfl
theorem eQ (n:Int) (ks:List Tm):txt (.mk 1 n ks)=110::Lib.itoa n:=by simp [txt,wtn,dB]
theorem fq {k n:Int} {ks:List Tm} (hk:k≠1):txt (.mk k n ks)=dB k++40::(Lib.join ((ord k ks).map txt) [44]++[41]):=by simp only[txt,wtn,zK hk,ia,lT,Aa,Ah,Au]
def oL (r:Tx):Prop:=r=[]\/∃c s,r=c::s/\(c=44\/c=41)
theorem py:∀d:Fin 10,48<=UInt8.ofNat (48+d.val)/\UInt8.ofNat (48+d.val)<=57:=by decide
theorem uv:∀d e:Fin 10,UInt8.ofNat (48+d.val)=UInt8.ofNat (48+e.val)->d=e:=by decide
theorem lq (u:Nat):∀c,c∈Lib.decDigits u->48<=c/\c<=57:=by
 induction u using Nat.strongRecOn with
 |_ u ih=>
  intro c hc;rw[Lib.decDigits]at hc;split at hc
  ·rename_i h;rw[zt.1 hc];exact py ⟨u,h⟩
  ·rcases zr.1 hc with hc|hc
   ·exact ih _ (by omega) c hc
   ·rw[zt.1 hc];exact py ⟨u%10,by omega⟩
theorem uw:∀(u v:Nat),Lib.decDigits u=Lib.decDigits v->u=v:=by
 intro u;have one:∀d e:Nat,d<10->e<10->[UInt8.ofNat (48+d)]=[UInt8.ofNat (48+e)]->d=e:=λd e hd he h=>zu Fin.val (uv ⟨d,hd⟩ ⟨e,he⟩ (List.cons.inj h).1)
 induction u using Nat.strongRecOn with
 |_ u ih=>
  intro v h;have hu:Lib.decDigits u=if h:u<10 then[UInt8.ofNat (48+u)]else Lib.decDigits (u/10)++[UInt8.ofNat (48+u%10)]:=by rw[Lib.decDigits]
  have hv:Lib.decDigits v=if h:v<10 then[UInt8.ofNat (48+v)]else Lib.decDigits (v/10)++[UInt8.ofNat (48+v%10)]:=by rw[Lib.decDigits]
  have ne:∀x,Lib.decDigits x≠[]:=λx he=>by have :=Lib.decDigits_length x;have :=Lib.nDigits_pos x;rw[he]at *;simp at *;omega
  rw[hu,hv]at h;split at h<;>split at h
  ·exact one u v (by assumption) (by assumption) h
  ·have :=zu List.length h;have h1:=ne (v/10);cases hd:Lib.decDigits (v/10)with
   |nil=>exact absurd hd h1
   |cons x l=>rw[hd]at this;simp at this
  ·have :=zu List.length h;have h1:=ne (u/10);cases hd:Lib.decDigits (u/10)with
   |nil=>exact absurd hd h1
   |cons x l=>rw[hd]at this;simp at this
  ·have h2:=List.append_inj' h rfl;have h3:=ih (u/10) (by omega) (v/10) h2.1;have h4:=one (u%10) (v%10) (by omega) (by omega) h2.2;omega
theorem nA:∀(a b:List UInt8) (r s:Tx),(∀c,c∈a->48<=c/\c<=57)->(∀c,c∈b->48<=c/\c<=57)->oL r->oL s->a++r=b++s->a=b/\r=s
 |[],[],r,s,_,_,_,_,h=>⟨rfl,h⟩
 |x::a,y::b,r,s,ha,hb,hr,hs,h=>by
  simp only[Ah,List.cons.injEq]at h;obtain⟨h1,h2⟩:=nA a b r s (λc hc=>ha c (zN _ hc)) (λc hc=>hb c (zN _ hc)) hr hs h.2;exact⟨by rw[h.1,h1],h2⟩
 |[],y::b,r,s,_,hb,hr,_,h=>by
  have :=hb y (zS ..);simp only[Au,Ah]at h;rcases hr with rfl|⟨c,q,rfl,hc⟩
  ·simp at h
  ·simp only[List.cons.injEq]at h;obtain⟨rfl,_⟩:=h;rcases hc with rfl|rfl
   ·exact absurd this.1 (by decide)
   ·exact absurd this.1 (by decide)
 |x::a,[],r,s,ha,_,_,hs,h=>by
  have :=ha x (zS ..);simp only[Au,Ah]at h;rcases hs with rfl|⟨c,q,rfl,hc⟩
  ·simp at h
  ·simp only[List.cons.injEq]at h;obtain⟨rfl,_⟩:=h;rcases hc with rfl|rfl
   ·exact absurd this.1 (by decide)
   ·exact absurd this.1 (by decide)
theorem ov {k:Int} (h1:1<=k) (h9:k<=9):k=1\/k=2\/k=3\/k=4\/k=5\/k=6\/k=7\/k=8\/k=9:=by omega
theorem pV {k j:Int} (hk:2<=k/\k<=9) (hj:2<=j/\j<=9) {r s:Tx} (h:dB k++40::r=dB j++40::s):k=j/\r=s:=by
 have h1:k=2\/k=3\/k=4\/k=5\/k=6\/k=7\/k=8\/k=9:=by omega
 have h2:j=2\/j=3\/j=4\/j=5\/j=6\/j=7\/j=8\/j=9:=by omega
 rcases h1 with rfl|rfl|rfl|rfl|rfl|rfl|rfl|rfl<;>rcases h2 with rfl|rfl|rfl|rfl|rfl|rfl|rfl|rfl<;>simp [dB]at h⊢<;>exact h
theorem qI {k:Int} (hk:2<=k/\k<=9) {r s:Tx} (h:dB k++40::r=110::s):False:=by
 have h1:k=2\/k=3\/k=4\/k=5\/k=6\/k=7\/k=8\/k=9:=by omega
 rcases h1 with rfl|rfl|rfl|rfl|rfl|rfl|rfl|rfl<;>simp [dB]at h
def vg (a b:Tm):Prop:=a.kind=b.kind/\(a.kind=1->a.name=b.name)/\(a.kind≠1->(ord a.kind a.kids).map txt=(ord b.kind b.kids).map txt)
theorem x8 {xs ys : List Tm} (ihx : ∀ t, t ∈ xs -> ∀ u, Ok u -> ∀ r s, oL r -> oL s -> txt t ++ r = txt u ++ s -> txt t = txt u /\ r = s) (hy : ∀ u, u ∈ ys -> Ok u) (hx0 : 0 < xs.length) (hy0 : 0 < ys.length) {r s : Tx}
  (h:Lib.join (xs.map txt) [44]++41::r=Lib.join (ys.map txt) [44]++41::s):xs.map txt=ys.map txt/\r=s:=by
 induction xs generalizing ys with
 |nil=>simp at hx0
 |cons x xs ih=>
  cases ys with
  |nil=>simp at hy0
  |cons y ys=>
   simp only[Ad,Lib.join_cons,Aa]at h;have a:∀(zs:List Tm) (q:Tx),oL (Lib.joinTail [44] (zs.map txt)++41::q):=by
    intro zs q;cases zs with
    |nil=>exact .inr ⟨41,q,by simp [Lib.joinTail],.inr rfl⟩
    |cons z zs=>exact .inr ⟨44,txt z++(Lib.joinTail [44] (zs.map txt)++41::q),by simp [Lib.joinTail],.inl rfl⟩
   obtain⟨h1,h2⟩:=ihx x (zS ..) y (hy y (zS ..)) _ _ (a xs r) (a ys s) h;cases xs with
   |nil=>
    cases ys with
    |nil=>simp [Lib.joinTail]at h2;exact⟨by simp [h1],h2⟩
    |cons z ys=>simp [Lib.joinTail]at h2
   |cons z xs=>
    cases ys with
    |nil=>simp [Lib.joinTail]at h2
    |cons z' ys=>
     have h3:Lib.join ((z::xs).map txt) [44]++41::r=Lib.join ((z'::ys).map txt) [44]++41::s:=by simp only[Ad,Lib.join_cons];simp only[Ad,Lib.joinTail,List.flatten_cons,Ah,Au,List.cons.injEq,true_and]at h2;exact h2
     obtain⟨h4,h5⟩:=ih (ys:=z'::ys) (λt ht=>ihx t (zN _ ht)) (λu hu=>hy u (zN _ hu)) (by simp) (by simp) h3;exact⟨by rw[Ad,h1,h4];rfl,h5⟩
theorem yR:(a:Tm)->Ok a->∀b,Ok b->∀r s,oL r->oL s->txt a++r=txt b++s->txt a=txt b/\r=s/\vg a b:=by
 refine Tm.rec' ?_;intro k n ks ih ha b hb r s hr hs h;cases b with
 |mk j m js=>
  obtain⟨k1,k9,kn⟩:=ha.named;obtain⟨j1,j9,jn⟩:=hb.named;by_cases hk:k=1
  ·by_cases hj:j=1
   ·subst hk;subst hj;rw[eQ,eQ]at h⊢;simp only[Ah,List.cons.injEq,true_and]at h;have h0:=kn rfl;have h0':=jn rfl;rw[Lib.itoa,zK (by omega),Lib.itoa,zK (by omega)]at h;rw[Lib.itoa,zK (by omega),Lib.itoa,zK (by omega)];obtain⟨h1,h2⟩:=nA _ _ r s (lq _) (lq _) hr hs h;have h3:=uw _ _ h1;refine⟨by rw[h1],h2,rfl,λ_=> ?_,λh=>absurd rfl h⟩;simp only[Tm.name];omega
   ·subst hk;rw[eQ,fq hj]at h;simp only[Aa,Ah]at h;exact(qI (k:=j) (by omega) h.symm).elim
  ·by_cases hj:j=1
   ·subst hj;rw[eQ,fq hk]at h;simp only[Aa,Ah]at h;exact(qI (k:=k) (by omega) h).elim
   ·rw[fq hk,fq hj]at h⊢;simp only[Aa,Ah,Au]at h;obtain⟨c,h1⟩:=pV (by omega) (by omega) h;subst c;have hl:=ha.more hk;have d:=hb.more hk;obtain⟨h2,h3⟩:=x8 (xs:=ord k ks) (ys:=ord k js) (λt ht u hu r s hr hs h=>by
     obtain⟨h1,h2,_⟩:=ih t (ord_mem.1 ht) (ha.kids.2.2 t (ord_mem.1 ht)) u hu r s hr hs h;exact⟨h1,h2⟩) (λu hu=>hb.kids.2.2 u (ord_mem.1 hu)) (by rw[lU];exact hl) (by rw[lU];exact d) h1
    exact⟨by rw[h2],h3,rfl,λh=>absurd h hk,λ_=>h2⟩
theorem eC {a b:Tm} (ha:Ok a) (hb:Ok b) (h:txt a=txt b):vg a b:=(yR a ha b hb [] [] (.inl rfl) (.inl rfl) (by rw[h])).2.2
theorem jF (t:Tm):1<=(txt t).length:=by
 cases t with
 |mk k n ks=>
  by_cases hk:k=1
  ·subst hk;rw[eQ];simp
  ·rw[fq hk];simp;omega
end Go.Mi.Term
namespace Go.Mi.Term
def cx (t:Tm):Nat:=(txt t).length
theorem pY (k:Int) (l:List Tx):((fY k l).map List.length).sum=(l.map List.length).sum/\(fY k l).length=l.length:=by
 unfold fY;split
 ·match l with
  |[]=>exact⟨rfl,rfl⟩
  |[_]=>exact⟨rfl,rfl⟩
  |a::b::r=>
   simp only;split
   ·simp;omega
   ·exact⟨rfl,rfl⟩
 ·exact⟨rfl,rfl⟩
theorem fU {k n:Int} {ks:List Tm} (hk:k≠1) (h:0<ks.length):cx (.mk k n ks)=(dB k).length+1+(ks.map cx).sum+ks.length:=by
 have h1:=pY k (ks.map txt);have h2:(ks.map txt).map List.length=ks.map cx:=by rw[List.map_map];rfl
 rw[h2]at h1;obtain⟨h3,h4⟩:=h1;rw[z7]at h4;unfold cx;simp only[txt,wtn,zK hk,ia];cases hr:fY k (ks.map txt)with
 |nil=>rw[hr]at h4;simp at h4;omega
 |cons x r=>
  have h5:=Lib.join_length x r [44];rw[hr]at h3 h4;simp only[zP,h5,Lib.lens,h3,zZ,Az]at h4⊢;have h6:(List.map cx ks).sum=(List.map (λt=>(txt t).length) ks).sum:=rfl;omega
theorem j0 {k n:Int} {ks:List Tm} {t:Tm} (hk:k≠1) (h:t∈ks):cx t+1<cx (.mk k n ks):=by
 have h0:0<ks.length:=List.length_pos_of_mem h;have h1:cx t<=(ks.map cx).sum:=by
  have :cx t∈ks.map cx:=AD h;generalize ks.map cx=l at this
  induction l with
  |nil=>simp at this
  |cons x l ih=>
   rcases zx.1 this with h|h
   ·simp;omega
   ·have :=ih h;simp;omega
 rw[fU hk h0];omega
theorem Ok.kid {k n:Int} {ks:List Tm} (h:Ok (.mk k n ks)) {t:Tm} (ht:t∈ks):Ok t:=h.kids.2.2 t ht
theorem ef {k:Int} {ks:List Tm} {n:Int} (h:Ok (.mk k n ks)):(k=2->ks.length=1)/\(k≠1->k≠2->k≠6->ks.length=2)/\(k=6->1<=ks.length/\ks.length<=8)/\ks.length<=8:=by
 obtain⟨h1,h2,_⟩:=h.kids;unfold low at h1;unfold dZ at h2;refine⟨λe=> ?_,λe1 e2 e6=> ?_,λe=> ?_,?_⟩
 ·subst e;simp at h1 h2;omega
 ·rw[zK e1,zK (by omega)]at h1;rw[zK e1,zK e2,zK e6]at h2;omega
 ·subst e;simp at h1 h2;omega
 ·split at h2
  ·omega
  ·split at h2
   ·omega
   ·split at h2<;>omega
theorem vh {ks:List Tm} (h:ks.length=2):∃a b,ks=[a,b]:=by
 match ks,h with
 |[a,b],_=>exact⟨a,b,rfl⟩
theorem Ok.two' {k n:Int} {ks:List Tm} (h:Ok (.mk k n ks)) (h1:k≠1) (h2:k≠2) (h6:k≠6):∃a b,ks=[a,b]/\Ok a/\Ok b:=by obtain⟨a,b,rfl⟩:=vh ((ef h).2.1 h1 h2 h6);exact⟨a,b,rfl,h.kid (by simp),h.kid (by simp)⟩
theorem ki {t:Tm} (h:Ok t):Ok (bL t):= .mk rfl (by simp [low]) (by simp [dZ]) (by simpa using h)
theorem kh {k:Int} {a b:Tm} (hk:3<=k/\k<=9/\k≠6) (ha:Ok a) (hb:Ok b):Ok (.mk k 0 [a,b]):=by
 refine .mk ?_ ?_ ?_ ?_
 ·simp only[named,zD,z8,zU,Aq,decide_eq_false_iff_not];omega
 ·unfold low;rw[zK (by omega),zK (by omega)];exact zH _
 ·unfold dZ;rw[zK (by omega),zK (by omega),zK (by omega)];exact zH _
 ·intro t ht;simp at ht;rcases ht with rfl|rfl
  ·exact ha
  ·exact hb
theorem ic (t:Tm):cx (bL t)=cx t+5:=by unfold bL;rw[fU (by decide) (by simp)];simp [dB];omega
theorem ee {k n:Int} {a b:Tm} (hk:k≠1):cx (.mk k n [a,b])=(dB k).length+cx a+cx b+3:=by rw[fU hk (by simp)];simp;omega
theorem hU {W:Wd} {t:Tm} (h:Ok t) {l:List Tm} (hl:l∈cw W t) {u:Tm} (hu:u∈l):Ok u/\cx u<cx t:=by
 cases t with
 |mk k n ks=>
  unfold cw at hl;dsimp only at hl;by_cases h1:k=1
  ·rw[zX h1]at hl;simp at hl
  rw[zK h1]at hl;have kid:∀t,t∈ks->Ok t/\cx t<cx (.mk k n ks):=λt ht=>⟨h.kid ht,by have :=j0 (n:=n) h1 ht;omega⟩;by_cases h3:k=3
  ·obtain⟨a,b,rfl,ha,hb⟩:=h.two' h1 (by omega) (by omega);have pa:Ok (bL a)/\cx (bL a)<cx (.mk k n [a,b]):=⟨ki ha,by rw[ic,ee h1];have :=jF b;subst h3;simp only[cx,dB]at *;simp;omega⟩;have pb:Ok (bL b)/\cx (bL b)<cx (.mk k n [a,b]):=⟨ki hb,by rw[ic,ee h1];have :=jF a;subst h3;simp only[cx,dB]at *;simp;omega⟩;have ka:=kid a (by simp);have kb:=kid b (by simp);rw[zX h3]at hl;simp only[zr,zx,zI,or_false]at hl;rcases hl with(rfl|rfl)|hl
   ·simp at hu;rcases hu with rfl|rfl<;>assumption
   ·simp at hu;rcases hu with rfl|rfl<;>assumption
   ·split at hl
    ·simp at hl;subst hl;simp at hu;rcases hu with rfl|rfl<;>assumption
    ·simp at hl
  rw[zK h3]at hl;by_cases h4:k=4
  ·obtain⟨a,m,rfl,ha,hm⟩:=h.two' h1 (by omega) (by omega);have pa:Ok (bL a)/\cx (bL a)<cx (.mk k n [a,m]):=⟨ki ha,by rw[ic,ee h1];have :=jF m;subst h4;simp only[cx,dB]at *;simp;omega⟩;have ct:Ok (.mk 5 0 [a,m])/\cx (.mk 5 0 [a,m])<cx (.mk k n [a,m]):=⟨kh (by omega) ha hm,by rw[ee h1,ee (by decide)];subst h4;simp [dB]⟩;have ka:=kid a (by simp);have km:=kid m (by simp);rw[zX h4]at hl;simp only[zr,zx,zI,or_false]at hl;rcases hl with(rfl|rfl)|hl
   ·simp at hu;rcases hu with rfl|rfl<;>assumption
   ·simp at hu;rcases hu with rfl|rfl<;>assumption
   ·split at hl
    ·simp at hl;subst hl;simp at hu;subst hu;exact ct
    ·simp at hl
  rw[zK h4]at hl;by_cases h5:k=5
  ·obtain⟨a,m,rfl,ha,hm⟩:=h.two' h1 (by omega) (by omega);have pa:Ok (bL a)/\cx (bL a)<cx (.mk k n [a,m]):=⟨ki ha,by rw[ic,ee h1];have :=jF m;subst h5;simp only[cx,dB]at *;simp;omega⟩;have ka:=kid a (by simp);have km:=kid m (by simp);rw[zX h5]at hl;simp at hl;subst hl;simp at hu;rcases hu with rfl|rfl<;>assumption
  rw[zK h5]at hl;simp at hl;subst hl;exact kid u hu
def Fit (t:Tm):Prop:=Ok t/\cx t<=1099511600000
theorem Fit.way {W:Wd} {t:Tm} (h:Fit t) {l:List Tm} (hl:l∈cw W t) {u:Tm} (hu:u∈l):Fit u:=by obtain⟨h1,h2⟩:=hU h.1 hl hu;exact⟨h1,by have :=h.2;omega⟩
theorem Fit.kid {k n:Int} {ks:List Tm} (h:Fit (.mk k n ks)) {t:Tm} (ht:t∈ks):Fit t:=by
 refine⟨h.1.kid ht,?_⟩;by_cases hk:k=1
 ·subst hk;have :=h.1.atom;subst this;simp at ht
 ·have :=j0 (n:=n) hk ht;have :=h.2;omega
section
variable {W:Wd} {met:b_}
theorem wY {f:Nat} {m m':b_} {r:Bool} (h:bl W met f [] m=some (r,m')):r=true/\m'=m:=by
 cases f with
 |zero=>simp [bl]at h
 |succ f=>simp [bl]at h;exact⟨h.1,h.2.symm⟩
theorem jR {f:Nat} {m m':b_} {r:Bool} (h:dg W met f [] m=some (r,m')):r=false/\m'=m:=by
 cases f with
 |zero=>simp [dg]at h
 |succ f=>simp [dg]at h;exact⟨h.1,h.2.symm⟩
theorem gH {f : Nat} {m m' : b_} {r : Bool} {l : List Tm} {ls : List (List Tm)} (h : dg W met f (l :: ls) m = some (r, m')) :
  ∃g,g<f/\((bl W met g l m=some (true,m')/\r=true)\/∃m1,bl W met g l m=some (false,m1)/\dg W met g ls m1=some (r,m')):=by
 cases f with
 |zero=>simp [dg]at h
 |succ f=>
  refine⟨f,by omega,?_⟩;simp only[dg]at h;cases hb:bl W met f l m with
  |none=>rw[hb]at h;simp at h
  |some p=>
   obtain⟨b,m1⟩:=p;rw[hb]at h;cases b with
   |true=>simp at h;exact .inl ⟨by rw[h.2],h.1⟩
   |false=>exact .inr ⟨m1,rfl,h⟩
theorem jQ {f:Nat} {m m':b_} {r:Bool} {l:List Tm} (h:dg W met f [l] m=some (r,m')):∃g,g<f/\bl W met g l m=some (r,m'):=by
 obtain⟨g,hg,h|⟨m1,h1,h2⟩⟩:=gH h
 ·exact⟨g,hg,by rw[h.1,h.2]⟩
 ·obtain⟨h3,h4⟩:=jR h2;exact⟨g,hg,by rw[h1,h3,h4]⟩
theorem uB {f : Nat} {m m' : b_} {r : Bool} {t : Tm} {l : List Tm} (h : bl W met f (t :: l) m = some (r, m')) :
  ∃g m4,g<f/\(if tl m4 (txt t)=2 then r=false/\m'=m4 else bl W met g l m4=some (r,m'))/\
   ((tl m (txt t)≠0/\m4=m)\/(tl m (txt t)=0/\((0<tl met (txt t)/\m4=st (st m (txt t) 2) (txt t) 1)\/(¬0<tl met (txt t)/\∃b m3,dg W met g (cw W t) (st m (txt t) 2)=some (b,m3)/\m4=if b then st m3 (txt t) 1 else m3)))):=by
 cases f with
 |zero=>simp [bl]at h
 |succ f=>
  simp only[bl]at h;have a:∀m4,(if tl m4 (txt t)=2 then some (false,m4)else bl W met f l m4)=some (r,m')->(if tl m4 (txt t)=2 then r=false/\m'=m4 else bl W met f l m4=some (r,m')):=by
   intro m4 h;split at h
   ·rename_i e;rw[zX e];simp at h;exact⟨h.1,h.2.symm⟩
   ·rename_i e;rw[zK e];exact h
  by_cases h0:tl m (txt t)=0
  ·rw[zX h0]at h;by_cases hm:0<tl met (txt t)
   ·rw[zX hm]at h;exact⟨f,_,by omega,a _ h,.inr ⟨h0,.inl ⟨hm,rfl⟩⟩⟩
   ·rw[zK hm]at h;cases hb:dg W met f (cw W t) (st m (txt t) 2)with
    |none=>rw[hb]at h;simp at h
    |some p=>
     obtain⟨b,m3⟩:=p;rw[hb]at h;cases b with
     |true=>exact⟨f,_,by omega,a _ h,.inr ⟨h0,.inr ⟨hm,true,m3,hb,rfl⟩⟩⟩
     |false=>exact⟨f,_,by omega,a _ h,.inr ⟨h0,.inr ⟨hm,false,m3,hb,rfl⟩⟩⟩
  ·rw[zK h0]at h;exact⟨f,m,by omega,a _ h,.inl ⟨h0,rfl⟩⟩
theorem w4 {f : Nat} {n : Int} {a b : Tm} {m m' : b_} {r : Bool} (h : dg W met f (cw W (.mk 3 n [a, b])) m = some (r, m')) :
  (∃g,g<f/\bl W met g [a,bL b] m=some (true,m')/\r=true)\/
  (∃g1 g2 m1,g1<f/\g2<f/\bl W met g1 [a,bL b] m=some (false,m1)/\bl W met g2 [b,bL a] m1=some (true,m')/\r=true)\/
  (∃g1 g2 m1,g1<f/\g2<f/\bl W met g1 [a,bL b] m=some (false,m1)/\bl W met g2 [b,bL a] m1=some (false,m')/\r=false/\W.dh=false)\/
  (∃g1 g2 g3 m1 m2,g1<f/\g2<f/\g3<f/\bl W met g1 [a,bL b] m=some (false,m1)/\bl W met g2 [b,bL a] m1=some (false,m2)/\bl W met g3 [bL a,bL b] m2=some (r,m')/\W.dh=true):=by
 have hw:cw W (.mk 3 n [a,b])=[[a,bL b],[b,bL a]]++(if W.dh then[[bL a,bL b]]else[]):=by simp [cw]
 rw[hw]at h;obtain⟨g1,hg1,⟨h1,rfl⟩|⟨m1,h1,h⟩⟩:=gH h
 ·exact .inl ⟨g1,hg1,h1,rfl⟩
 obtain⟨g2,hg2,⟨h2,rfl⟩|⟨m2,h2,h⟩⟩:=gH h
 ·exact .inr (.inl ⟨g1,g2,m1,hg1,by omega,h1,h2,rfl⟩)
 cases hd:W.dh with
 |false=>
  rw[hd]at h;obtain⟨rfl,rfl⟩:=jR h;exact .inr (.inr (.inl ⟨g1,g2,m1,hg1,by omega,h1,h2,rfl,rfl⟩))
 |true=>
  rw[hd]at h;obtain⟨g3,hg3,h3⟩:=jQ h;exact .inr (.inr (.inr ⟨g1,g2,g3,m1,m2,hg1,by omega,by omega,h1,h2,h3,rfl⟩))
theorem uE {f : Nat} {n : Int} {a b : Tm} {m m' : b_} {r : Bool} (h : dg W met f (cw W (.mk 4 n [a, b])) m = some (r, m')) :
  (∃g,g<f/\bl W met g [b,bL a] m=some (true,m')/\r=true)\/
  (∃g1 g2 m1,g1<f/\g2<f/\bl W met g1 [b,bL a] m=some (false,m1)/\bl W met g2 [a,.mk 5 0 [a,b]] m1=some (true,m')/\r=true)\/
  (∃g1 g2 m1,g1<f/\g2<f/\bl W met g1 [b,bL a] m=some (false,m1)/\bl W met g2 [a,.mk 5 0 [a,b]] m1=some (false,m')/\r=false/\W.kem=false)\/
  (∃g1 g2 g3 m1 m2,g1<f/\g2<f/\g3<f/\bl W met g1 [b,bL a] m=some (false,m1)/\bl W met g2 [a,.mk 5 0 [a,b]] m1=some (false,m2)/\bl W met g3 [.mk 5 0 [a,b]] m2=some (r,m')/\W.kem=true):=by
 have hw:cw W (.mk 4 n [a,b])=[[b,bL a],[a,.mk 5 0 [a,b]]]++(if W.kem then[[.mk 5 0 [a,b]]]else[]):=by simp [cw]
 rw[hw]at h;obtain⟨g1,hg1,⟨h1,rfl⟩|⟨m1,h1,h⟩⟩:=gH h
 ·exact .inl ⟨g1,hg1,h1,rfl⟩
 obtain⟨g2,hg2,⟨h2,rfl⟩|⟨m2,h2,h⟩⟩:=gH h
 ·exact .inr (.inl ⟨g1,g2,m1,hg1,by omega,h1,h2,rfl⟩)
 cases hd:W.kem with
 |false=>
  rw[hd]at h;obtain⟨rfl,rfl⟩:=jR h;exact .inr (.inr (.inl ⟨g1,g2,m1,hg1,by omega,h1,h2,rfl,rfl⟩))
 |true=>
  rw[hd]at h;obtain⟨g3,hg3,h3⟩:=jQ h;exact .inr (.inr (.inr ⟨g1,g2,g3,m1,m2,hg1,by omega,by omega,h1,h2,h3,rfl⟩))
theorem w5 {f:Nat} {n:Int} {a b:Tm} {m m':b_} {r:Bool} (h:dg W met f (cw W (.mk 5 n [a,b])) m=some (r,m')):∃g,g<f/\bl W met g [b,bL a] m=some (r,m'):=by
 have hw:cw W (.mk 5 n [a,b])=[[b,bL a]]:=by simp [cw]
 rw[hw]at h;exact jQ h
theorem uF {f:Nat} {k n:Int} {ks:List Tm} {m m':b_} {r:Bool} (h1:k≠1) (h3:k≠3) (h4:k≠4) (h5:k≠5) (h:dg W met f (cw W (.mk k n ks)) m=some (r,m')):∃g,g<f/\bl W met g ks m=some (r,m'):=by
 have hw:cw W (.mk k n ks)=[ks]:=by simp [cw,h1,h3,h4,h5]
 rw[hw]at h;exact jQ h
theorem sR {f:Nat} {n:Int} {ks:List Tm} {m m':b_} {r:Bool} (h:dg W met f (cw W (.mk 1 n ks)) m=some (r,m')):r=false/\m'=m:=by
 have hw:cw W (.mk 1 n ks)=[]:=by simp [cw]
 rw[hw]at h;exact jR h
end
end Go.Mi.Term
namespace Go.Mi.Term
theorem gj (r:Rw) (t:Tm):r.l.length<=(r.add t).l.length:=by unfold Rw.add;split<;>simp
theorem ir {W:Wd} {met:b_} {f:Nat} {t:Tm} {m m':b_} {r r':Rw} (h:opn1 W met f t m r=some (m',r')):r.l.length<=r'.l.length:=by
 cases t with
 |mk k n ks=>
  unfold opn1 at h;dsimp only at h;split at h
  ·split at h
   ·simp at h;obtain⟨_,rfl⟩:=h;exact zy (gj _ _) (gj _ _)
   ·cases h
  ·split at h
   ·split at h
    ·simp at h;obtain⟨_,rfl⟩:=h;exact gj _ _
    ·cases h
   ·split at h
    ·split at h
     ·split at h
      ·cases h
      ·simp at h;obtain⟨_,rfl⟩:=h;exact gj _ _
      ·simp at h;obtain⟨_,rfl⟩:=h;exact zH _
     ·cases h
    ·simp at h;obtain⟨_,rfl⟩:=h;exact zH _
theorem gM {W:Wd} {met:b_} {f:Nat} {t:Tm} {ts:List Tm} {m m':b_} {r r':Rw} (h:opnL W met f (t::ts) m r=some (m',r')):∃m1 r1,opn1 W met f t m r=some (m1,r1)/\opnL W met f ts m1 r1=some (m',r'):=by
 simp only[opnL]at h;split at h
 ·cases h
 ·rename_i m1 r1 h1;exact⟨m1,r1,h1,h⟩
theorem fz {W:Wd} {met:b_} {f:Nat}:∀{ts:List Tm} {m m':b_} {r r':Rw},opnL W met f ts m r=some (m',r')->r.l.length<=r'.l.length
 |[],m,m',r,r',h=>by simp [opnL]at h;obtain⟨_,rfl⟩:=h;exact zH _
 |t::ts,m,m',r,r',h=>by obtain⟨m1,r1,h1,h2⟩:=gM h;exact zy (ir h1) (fz h2)
theorem jh {W:Wd} {f g:Nat} {r r':Rw} (h:dR W f g r=some r'):∃g' m1 r1,g=g'+1/\opnL W r.met f r.l [] r=some (m1,r1)/\((r1.l.length=r.l.length/\r1=r')\/(r.l.length<r1.l.length/\dR W f g' r1=some r')):=by
 cases g with
 |zero=>simp [dR]at h
 |succ g=>
  simp only[dR]at h;split at h
  ·cases h
  ·rename_i m1 r1 h1;refine⟨g,m1,r1,rfl,h1,?_⟩;have :=fz h1;split at h
   ·rename_i e;simp at h;exact .inl ⟨e,h⟩
   ·rename_i e;exact .inr ⟨by omega,h⟩
theorem gX {W:Wd} {f:Nat}:∀{g:Nat} {r r':Rw},dR W f g r=some r'->r.l.length<=r'.l.length:=by
 intro g
 induction g with
 |zero=>intro r r' h;simp [dR]at h
 |succ g ih=>
  intro r r' h;obtain⟨g',m1,r1,hg,h1,h2|h2⟩:=jh h
  ·rw[<-h2.2];exact fz h1
  ·cases hg;exact zy (fz h1) (ih h2.2)
theorem ox (ks:List Tm) (r:Rw):r.l.length<=(dc ks r).l.length/\(dc ks r).l.length<=r.l.length+ks.length:=by
 induction ks generalizing r with
 |nil=>exact⟨zH _,zH _⟩
 |cons t ts ih=>
  simp only[dc,zZ];have h:=ih (if may t then r.add (nrm t)else r);have h1:r.l.length<=(if may t then r.add (nrm t)else r).l.length/\(if may t then r.add (nrm t)else r).l.length<=r.l.length+1:=by
   split
   ·refine⟨gj _ _,?_⟩;unfold Rw.add;split<;>simp
   ·omega
  omega
theorem oy (ks:List Tm) (t:Tm) (r:Rw):dc (ks++[t]) r=if may t then(dc ks r).add (nrm t)else dc ks r:=by
 induction ks generalizing r with
 |nil=>rfl
 |cons k ks ih=>simp only[Ah,dc];exact ih _
theorem jq {ks:List Tm} {i:Nat} {t:Tm} (h:ks[i]? =some t) (r:Rw):dc (ks.take (i+1)) r=if may t then(dc (ks.take i) r).add (nrm t)else dc (ks.take i) r:=by rw[AS,h];exact oy _ _ _
def AllFit (r:Rw):Prop:=∀t,t∈r.l->Fit t
theorem AllFit.add {r:Rw} {t:Tm} (h:AllFit r) (ht:Fit t):AllFit (r.add t):=by
 unfold Rw.add;split
 ·intro u hu;simp at hu;rcases hu with hu|rfl
  ·exact h u hu
  ·exact ht
 ·exact h
theorem AllFit.opn1 {W:Wd} {met:b_} {f:Nat} {t:Tm} {m m':b_} {r r':Rw} (ht:Fit t) (hr:AllFit r) (h:opn1 W met f t m r=some (m',r')):AllFit r':=by
 cases t with
 |mk k n ks=>
  have kid:∀u,u∈ks->Fit u:=λu hu=>ht.kid hu;unfold Term.opn1 at h;dsimp only at h;split at h
  ·split at h
   ·simp at h;obtain⟨_,rfl⟩:=h;exact(hr.add (kid _ (by simp))).add (kid _ (by simp))
   ·cases h
  ·split at h
   ·split at h
    ·simp at h;obtain⟨_,rfl⟩:=h;exact hr.add (kid _ (by simp))
    ·cases h
   ·split at h
    ·split at h
     ·split at h
      ·cases h
      ·simp at h;obtain⟨_,rfl⟩:=h;exact hr.add (kid _ (by simp))
      ·simp at h;obtain⟨_,rfl⟩:=h;exact hr
     ·cases h
    ·simp at h;obtain⟨_,rfl⟩:=h;exact hr
theorem AllFit.opnL {W:Wd} {met:b_} {f:Nat}:∀{ts:List Tm} {m m':b_} {r r':Rw},(∀t,t∈ts->Fit t)->AllFit r->opnL W met f ts m r=some (m',r')->AllFit r'
 |[],m,m',r,r',_,hr,h=>by simp [Term.opnL]at h;obtain⟨_,rfl⟩:=h;exact hr
 |t::ts,m,m',r,r',ht,hr,h=>by obtain⟨m1,r1,h1,h2⟩:=gM h;exact AllFit.opnL (λu hu=>ht u (zN _ hu)) (AllFit.opn1 (ht t (zS ..)) hr h1) h2
end Go.Mi.Term
namespace Go.Mi.Term
theorem kV (m:b_) (x:Tx) (v:Int):tl (st m x v) x=v:=by
 induction m with
 |nil=>simp [st,tl]
 |cons p m ih=>
  obtain⟨y,u⟩:=p;simp only[st];split
  ·rename_i h;simp [tl,h]
  ·rename_i h;simp only[tl,zK h];exact ih
theorem gv {m:b_} {x y:Tx} {v:Int} (h:y≠x):tl (st m x v) y=tl m y:=by
 induction m with
 |nil=>simp only[st,tl];rw[zK (λe=>h (Eq.symm e))]
 |cons p m ih=>
  obtain⟨z,u⟩:=p;simp only[st];split
  ·rename_i e;subst e;simp only[tl];rw[zK (λe=>h (Eq.symm e)),zK (λe=>h (Eq.symm e))]
  ·simp only[tl];split
   ·rfl
   ·exact ih
inductive Bt (W:Wd) (met:b_):Tm->Prop
 |kn {t:Tm}:0<tl met (txt t)->Bt W met t
 |way {t:Tm} {l:List Tm}:l∈cw W t->(∀u,u∈l->Bt W met u)->Bt W met t
section
variable {W:Wd} {met:b_}
theorem iN {k n n':Int} {ks ks':List Tm} (hk:k≠1) (h:ks.map txt=ks'.map txt):txt (.mk k n ks)=txt (.mk k n' ks'):=by simp only[txt,wtn,zK hk,ia,h]
theorem eM {a b:Tm} (h:txt a=txt b):txt (bL a)=txt (bL b):=iN (by decide) (by simp [h])
theorem xO {a b c d:Tm} (h:(ord 3 [a,b]).map txt=(ord 3 [c,d]).map txt):(txt a=txt c/\txt b=txt d)\/(txt a=txt d/\txt b=txt c):=by
 simp only[ord,if_true]at h;split at h<;>split at h<;>simp at h
 ·exact .inl ⟨h.2,h.1⟩
 ·exact .inr ⟨h.2,h.1⟩
 ·exact .inr h
 ·exact .inl h
theorem ei {k:Int} (h:k≠3) (ks:List Tm):ord k ks=ks:=by simp [ord,h]
theorem jW {a b:Tm} (ha:Ok a) (hb:Ok b) (h:txt a=txt b) {l:List Tm} (hl:l∈cw W a):∃l',l'∈cw W b/\∀u',u'∈l'->∃u,u∈l/\txt u=txt u':=by
 have f:=eC ha hb h;cases a with
 |mk k n ks=>
  cases b with
  |mk k' n' ks'=>
   obtain⟨h1,_,h3⟩:=f;simp only[Tm.kind,Tm.kids]at h1 h3;subst h1;by_cases hk:k=1
   ·subst hk;simp [cw]at hl
   replace h3:=h3 hk;by_cases hk3:k=3
   ·subst hk3;obtain⟨a1,a2,rfl,_,_⟩:=ha.two' (by decide) (by decide) (by decide);obtain⟨b1,b2,rfl,_,_⟩:=hb.two' (by decide) (by decide) (by decide);have c:∀x y:Tm,∀q:Int,cw W (.mk 3 q [x,y])=[[x,bL y],[y,bL x]]++(if W.dh then[[bL x,bL y]]else[]):=λx y q=>by simp [cw]
    rw[c]at hl⊢;have d:∀(x y x' y':Tm) (l:List Tm),txt x=txt x'->txt y=txt y'->l=[x,y]->∀u',u'∈[x',y']->∃u,u∈l/\txt u=txt u':=by
     intro x y x' y' l h1 h2 hl u' hu;subst hl;simp at hu;rcases hu with rfl|rfl
     ·exact⟨x,by simp,h1⟩
     ·exact⟨y,by simp,h2⟩
    have e:∀(x y x' y':Tm) (l:List Tm),txt x=txt y'->txt y=txt x'->l=[x,y]->∀u',u'∈[x',y']->∃u,u∈l/\txt u=txt u':=by
     intro x y x' y' l h1 h2 hl u' hu;subst hl;simp at hu;rcases hu with rfl|rfl
     ·exact⟨y,by simp,h2⟩
     ·exact⟨x,by simp,h1⟩
    simp only[zr,zx,zI,or_false]at hl;rcases xO h3 with⟨e1,e2⟩|⟨e1,e2⟩
    ·rcases hl with(hl|hl)|hl
     ·exact⟨[b1,bL b2],by simp,d _ _ _ _ _ e1 (eM e2) hl⟩
     ·exact⟨[b2,bL b1],by simp,d _ _ _ _ _ e2 (eM e1) hl⟩
     ·split at hl
      ·rename_i hd;simp at hl;exact⟨[bL b1,bL b2],by simp [hd],d _ _ _ _ _ (eM e1) (eM e2) hl⟩
      ·simp at hl
    ·rcases hl with(hl|hl)|hl
     ·exact⟨[b2,bL b1],by simp,d _ _ _ _ _ e1 (eM e2) hl⟩
     ·exact⟨[b1,bL b2],by simp,d _ _ _ _ _ e2 (eM e1) hl⟩
     ·split at hl
      ·rename_i hd;simp at hl;exact⟨[bL b1,bL b2],by simp [hd],e _ _ _ _ _ (eM e1) (eM e2) hl⟩
      ·simp at hl
   rw[ei hk3,ei hk3]at h3;by_cases hk4:k=4
   ·subst hk4;obtain⟨a1,a2,rfl,_,_⟩:=ha.two' (by decide) (by decide) (by decide);obtain⟨b1,b2,rfl,_,_⟩:=hb.two' (by decide) (by decide) (by decide);have c:∀x y:Tm,∀q:Int,cw W (.mk 4 q [x,y])=[[y,bL x],[x,.mk 5 0 [x,y]]]++(if W.kem then[[.mk 5 0 [x,y]]]else[]):=λx y q=>by simp [cw]
    rw[c]at hl⊢;have ec:txt (.mk 5 0 [a1,a2])=txt (.mk 5 0 [b1,b2]):=iN (by decide) h3;simp at h3;obtain⟨e1,e2⟩:=h3;simp only[zr,zx,zI,or_false]at hl;rcases hl with(hl|hl)|hl
    ·subst hl;refine⟨[b2,bL b1],by simp,λu' hu=> ?_⟩;simp at hu;rcases hu with rfl|rfl
     ·exact⟨a2,by simp,e2⟩
     ·exact⟨bL a1,by simp,eM e1⟩
    ·subst hl;refine⟨[b1,.mk 5 0 [b1,b2]],by simp,λu' hu=> ?_⟩;simp at hu;rcases hu with rfl|rfl
     ·exact⟨a1,by simp,e1⟩
     ·exact⟨_,by simp,ec⟩
    ·split at hl
     ·rename_i hd;simp at hl;subst hl;refine⟨[.mk 5 0 [b1,b2]],by simp [hd],λu' hu=> ?_⟩;simp at hu;subst hu;exact⟨_,by simp,ec⟩
     ·simp at hl
   by_cases hk5:k=5
   ·subst hk5;obtain⟨a1,a2,rfl,_,_⟩:=ha.two' (by decide) (by decide) (by decide);obtain⟨b1,b2,rfl,_,_⟩:=hb.two' (by decide) (by decide) (by decide);have c:∀x y:Tm,∀q:Int,cw W (.mk 5 q [x,y])=[[y,bL x]]:=λx y q=>by simp [cw]
    rw[c]at hl⊢;simp at h3;obtain⟨e1,e2⟩:=h3;simp at hl;subst hl;refine⟨[b2,bL b1],by simp,λu' hu=> ?_⟩;simp at hu;rcases hu with rfl|rfl
    ·exact⟨a2,by simp,e2⟩
    ·exact⟨bL a1,by simp,eM e1⟩
   ·have c:∀(q:Int) (ks:List Tm),cw W (.mk k q ks)=[ks]:=λq ks=>by simp [cw,hk,hk3,hk4,hk5]
    rw[c]at hl⊢;simp at hl;subst hl;refine⟨ks',by simp,λu' hu=> ?_⟩;have :txt u'∈ks'.map txt:=AD hu;rw[<-h3]at this;obtain⟨u,h5,h6⟩:=Av.1 this;exact⟨u,h5,h6⟩
theorem Bt.congr {a:Tm} (h:Bt W met a):∀{b:Tm},Ok a->Ok b->txt a=txt b->Bt W met b:=by
 induction h with
 |kn h=>intro b _ _ he;exact .kn (he▸h)
 | @way t l hl _ ih=>
  intro b ha hb he;obtain⟨l',h1,h2⟩:=jW ha hb he hl;refine .way h1 λu' hu=> ?_;obtain⟨u,h3,h4⟩:=h2 u' hu;exact ih u h3 (hU ha hl h3).1 (hU hb h1 hu).1 h4
theorem ni (f:Nat):(∀l m p,bl W met f l m=some p->bl W met (f+1) l m=some p)/\(∀ls m p,dg W met f ls m=some p->dg W met (f+1) ls m=some p):=by
 induction f with
 |zero=>exact⟨λl m p h=>by simp [bl]at h,λls m p h=>by simp [dg]at h⟩
 |succ f ih=>
  obtain⟨d,c⟩:=ih;constructor
  ·intro l m p h;cases l with
   |nil=>simpa[bl]using h
   |cons n l=>
    rw[bl]at h;rw[bl];have a:∀m4,(if tl m4 (txt n)=2 then some (false,m4)else bl W met f l m4)=some p->(if tl m4 (txt n)=2 then some (false,m4)else bl W met (f+1) l m4)=some p:=by
     intro m4 h;split at h
     ·rename_i e;rw[zX e];exact h
     ·rename_i e;rw[zK e];exact d _ _ _ h
    dsimp only at h⊢;by_cases h0:tl m (txt n)=0
    ·rw[zX h0]at h⊢;by_cases hm:0<tl met (txt n)
     ·rw[zX hm]at h⊢;exact a _ h
     ·rw[zK hm]at h⊢;cases ha:dg W met f (cw W n) (st m (txt n) 2)with
      |none=>rw[ha]at h;simp at h
      |some q=>
       rw[c _ _ _ ha];rw[ha]at h;obtain⟨b,m3⟩:=q;cases b<;>exact a _ h
    ·rw[zK h0]at h⊢;exact a _ h
  ·intro ls m p h;cases ls with
   |nil=>simpa[dg]using h
   |cons l ls=>
    rw[dg]at h;rw[dg];cases hb:bl W met f l m with
    |none=>rw[hb]at h;simp at h
    |some q=>
     rw[d _ _ _ hb];rw[hb]at h;obtain⟨b,m1⟩:=q;cases b with
     |true=>exact h
     |false=>exact c _ _ _ h
theorem jO {f g:Nat} (hg:f<=g) {l:List Tm} {m:b_} {p:Bool×b_} (h:bl W met f l m=some p):bl W met g l m=some p:=by
 induction g with
 | zero => have : f = 0 :=(by omega);subst this;exact h
 |succ g ih=>
  by_cases e:f=g+1
  ·subst e;exact h
  ·exact(ni g).1 _ _ _ (ih (by omega))
theorem kL {f g:Nat} (hg:f<=g) {l:List (List Tm)} {m:b_} {p:Bool×b_} (h:dg W met f l m=some p):dg W met g l m=some p:=by
 induction g with
 | zero => have : f = 0 :=(by omega);subst this;exact h
 |succ g ih=>
  by_cases e:f=g+1
  ·subst e;exact h
  ·exact(ni g).2 _ _ _ (ih (by omega))
def qE (W:Wd) (met:b_) (m:b_) (k:Nat):Prop:=∀t,Ok t->cx t<k->tl m (txt t)=0\/(tl m (txt t)=1/\Bt W met t)\/(tl m (txt t)=2/\¬Bt W met t)
def j3 (W:Wd) (met:b_) (g:Nat) (n:Tm) (m:b_):Option b_:=
 if tl m (txt n)=0 then(if 0<tl met (txt n)then some (st (st m (txt n) 2) (txt n) 1)else match dg W met g (cw W n) (st m (txt n) 2)with
  |none=>none
  |some (true,m3)=>some (st m3 (txt n) 1)
  |some (false,m3)=>some m3)else some m
theorem pL {g:Nat} {n:Tm} {l:List Tm} {m m4:b_} (h:j3 W met g n m=some m4):bl W met (g+1) (n::l) m=if tl m4 (txt n)=2 then some (false,m4)else bl W met g l m4:=by
 rw[bl];dsimp only;unfold j3 at h;by_cases h0:tl m (txt n)=0
 ·rw[zX h0]at h⊢;by_cases hm:0<tl met (txt n)
  ·rw[zX hm]at h⊢;cases h;rfl
  ·rw[zK hm]at h⊢;cases ha:dg W met g (cw W n) (st m (txt n) 2)with
   |none=>rw[ha]at h;cases h
   |some q=>
    rw[ha]at h;obtain⟨b,m3⟩:=q;cases b<;>(cases h;rfl)
 ·rw[zK h0]at h⊢;cases h;rfl
def Tot (W:Wd) (met:b_) (k:Nat):Prop:=∀l:List Tm,(∀u,u∈l->Ok u/\cx u<k)->∀m,qE W met m k->∃f r m',bl W met f l m=some (r,m')/\(r=true↔∀u,u∈l->Bt W met u)/\qE W met m' k/\∀x:Tx,k<=x.length->tl m' x=tl m x
theorem uD {k:Nat} (hb:Tot W met k):∀ls:List (List Tm),(∀l,l∈ls->∀u,u∈l->Ok u/\cx u<k)->∀m,qE W met m k->∃f r m',dg W met f ls m=some (r,m')/\(r=true↔∃l,l∈ls/\∀u,u∈l->Bt W met u)/\qE W met m' k/\∀x:Tx,k<=x.length->tl m' x=tl m x:=by
 intro ls
 induction ls with
 |nil=>intro _ m hm;exact⟨1,false,m,by simp [dg],by simp,hm,λ_ _=>rfl⟩
 |cons l ls ih=>
  intro hl m hm;obtain⟨f1,r1,m1,h1,h2,h3,h4⟩:=hb l (hl l (by simp)) m hm;cases r1 with
  |true=>
   refine⟨f1+1,true,m1,by simp [dg,h1],?_,h3,h4⟩;simp only[true_iff];exact⟨l,by simp,h2.1 rfl⟩
  |false=>
   obtain⟨f2,r2,m2,k1,k2,k3,k4⟩:=ih (λl' hl'=>hl l' (by simp [hl'])) m1 h3;refine⟨max f1 f2+1,r2,m2,?_,?_,k3,λx hx=>by rw[k4 x hx,h4 x hx]⟩
   ·simp [dg,jO (AZ f1 f2) h1,kL (AT f1 f2) k1]
   ·rw[k2];constructor
    ·rintro⟨l',h5,h6⟩;exact⟨l',by simp [h5],h6⟩
    ·rintro⟨l',h5,h6⟩;rcases zx.1 h5 with rfl|h5
     ·have :=h2.2 h6;simp at this
     ·exact⟨l',h5,h6⟩
theorem wX (k:Nat):Tot W met k:=by
 induction k using Nat.strongRecOn with
 |_ k ih=>
  intro l
  induction l with
  |nil=>intro _ m hm;exact⟨1,true,m,by simp [bl],by simp,hm,λ_ _=>rfl⟩
  |cons n l ihl=>
   intro hl m hm;obtain⟨b,i⟩:=hl n (by simp)
   -- the element
   have j:∃f m4,(∀g,f<=g->j3 W met g n m=some m4)/\((tl m4 (txt n)=1/\Bt W met n)\/(tl m4 (txt n)=2/\¬Bt W met n))/\qE W met m4 k/\∀x:Tx,k<=x.length->tl m4 x=tl m x:=by
    have c:∀x:Tx,k<=x.length->x≠txt n:=λx hx e=>by subst e;unfold cx at i;omega
    by_cases h0:tl m (txt n)=0
    ·by_cases hmet:0<tl met (txt n)
     ·refine⟨0,st (st m (txt n) 2) (txt n) 1,λg _=>by rw[j3,zX h0,zX hmet],.inl ⟨kV _ _ _,.kn hmet⟩,λt ht a=> ?_,λx hx=>by rw[gv (c x hx),gv (c x hx)]⟩;by_cases e:txt t=txt n
      ·rw[e,kV];exact .inr (.inl ⟨rfl,(Bt.kn hmet).congr b ht e.symm⟩)
      ·rw[gv e,gv e];exact hm t ht a
     ·have w : qE W met (st m (txt n) 2) (cx n) := λt ht s => by
       have :txt t≠txt n:=λe=>by unfold cx at s;rw[e]at s;omega
       rw[gv this];exact hm t ht (by omega)
      obtain⟨f,r,m3,h1,h2,h3,h4⟩:=uD (ih (cx n) i) (cw W n) (λl' v u hu=>hU b v hu) _ w;have d:r=true↔Bt W met n:=by
       rw[h2];constructor
       ·rintro⟨l',h5,h6⟩;exact .way h5 h6
       ·intro h;cases h with
        |kn h=>exact absurd h hmet
        |way h5 h6=>exact⟨_,h5,h6⟩
      have p:tl m3 (txt n)=2:=by rw[h4 _ (zH _),kV]
      have o:∀t,txt t≠txt n->Ok t->cx t<k->tl m3 (txt t)=0\/(tl m3 (txt t)=1/\Bt W met t)\/(tl m3 (txt t)=2/\¬Bt W met t):=by
       intro t e ht a;by_cases hlt:cx t<cx n
       ·exact h3 t ht hlt
       ·rw[h4 (txt t) (by unfold cx at hlt⊢;omega),gv e];exact hm t ht a
      cases r with
      |true=>
       refine⟨f,st m3 (txt n) 1,λg hg=>by rw[j3,zX h0,zK hmet,kL hg h1],.inl ⟨kV _ _ _,d.1 rfl⟩,λt ht a=> ?_,λx hx=>by rw[gv (c x hx),h4 x (by omega),gv (c x hx)]⟩;by_cases e:txt t=txt n
       ·rw[e,kV];exact .inr (.inl ⟨rfl,(d.1 rfl).congr b ht e.symm⟩)
       ·rw[gv e];exact o t e ht a
      |false=>
       have q:¬Bt W met n:=λh=>by have :=d.2 h;simp at this
       refine⟨f,m3,λg hg=>by rw[j3,zX h0,zK hmet,kL hg h1],.inr ⟨p,q⟩,λt ht a=> ?_,λx hx=>by rw[h4 x (by omega),gv (c x hx)]⟩;by_cases e:txt t=txt n
       ·rw[e,p];exact .inr (.inr ⟨rfl,λh=>q (h.congr ht b e)⟩)
       ·exact o t e ht a
    ·refine⟨0,m,λg _=>by rw[j3,zK h0],?_,hm,λ_ _=>rfl⟩;rcases hm n b i with h|h|h
     ·exact absurd h h0
     ·exact .inl h
     ·exact .inr h
   obtain⟨f,m4,h1,h2,h3,h4⟩:=j;rcases h2 with⟨h2,hb⟩|⟨h2,hb⟩
   ·obtain⟨f2,r,m',k1,k2,k3,k4⟩:=ihl (λu hu=>hl u (by simp [hu])) m4 h3;refine⟨max f f2+1,r,m',?_,?_,k3,λx hx=>by rw[k4 x hx,h4 x hx]⟩
    ·rw[pL (h1 _ (AZ f f2)),h2,zK (by decide)];exact jO (AT f f2) k1
    ·rw[k2];constructor
     ·intro h u hu;rcases zx.1 hu with rfl|hu
      ·exact hb
      ·exact h u hu
     ·intro h u hu;exact h u (by simp [hu])
   ·refine⟨f+1,false,m4,?_,?_,h3,h4⟩
    ·rw[pL (h1 _ (zH _)),h2,zX rfl]
    ·simp only[Bool.false_eq_true,false_iff];exact λh=>hb (h n (by simp))
end
end Go.Mi.Term
namespace Go.Mi.Term
inductive Der (W:Wd) (S:Tm->Prop):Tm->Prop
 |kn {t:Tm}:S t->Der W S t
 |way {t:Tm} {l:List Tm}:Ok t->l∈cw W t->(∀u,u∈l->Der W S u)->Der W S t
 |fst {n:Int} {a b:Tm}:Der W S (.mk 9 n [a,b])->Der W S a
 |snd {n:Int} {a b:Tm}:Der W S (.mk 9 n [a,b])->Der W S b
 |sig {n:Int} {a b:Tm}:Der W S (.mk 8 n [a,b])->Der W S b
 |dec {n:Int} {a b:Tm}:Der W S (.mk 7 n [a,b])->Der W S a->Der W S b
 |eqv {a b:Tm}:Der W S a->Ok b->txt a=txt b->Der W S b
theorem Der.ok {W:Wd} {S:Tm->Prop} (hS:∀t,S t->Ok t) {t:Tm} (h:Der W S t):Ok t:=by
 induction h with
 |kn h=>exact hS _ h
 |way h _ _ _=>exact h
 |fst _ ih=>exact ih.kid (by simp)
 |snd _ ih=>exact ih.kid (by simp)
 |sig _ ih=>exact ih.kid (by simp)
 |dec _ _ ih _=>exact ih.kid (by simp)
 |eqv _ h _ _=>exact h
mutual
def jy:Tm->List Tm
 | .mk k n ks=> .mk k n ks::kZ ks
def kZ:List Tm->List Tm
 |[]=>[]
 |t::ts=>jy t++kZ ts
end
theorem pW (t:Tm):t∈jy t:=by cases t;simp [jy]
theorem qP {ts:List Tm} {t u:Tm} (ht:t∈ts) (hu:u∈jy t):u∈kZ ts:=by
 induction ts with
 |nil=>simp at ht
 |cons x ts ih=>
  simp only[kZ,zr];rcases zx.1 ht with rfl|ht
  ·exact .inl hu
  ·exact .inr (ih ht)
theorem ie {k n:Int} {ks:List Tm} {t u:Tm} (ht:t∈ks) (hu:u∈jy t):u∈jy (.mk k n ks):=by simp only[jy,zx];exact .inr (qP ht hu)
theorem nf {α:Type} [DecidableEq α]:∀(l m:List α),l.Nodup->(∀x,x∈l->x∈m)->l.length<=m.length
 |[],m,_,_=>by simp
 |x::l,m,hn,hs=>by
  rw[AP]at hn;have hx:x∈m:=hs x (by simp);have h1:=nf l (m.erase x) hn.2 λy hy=>by have hne:y≠x:=λe=>hn.1 (e▸hy);exact(List.mem_erase_of_ne hne).2 (hs y (by simp [hy]))
  rw[List.length_erase_of_mem hx]at h1;have :0<m.length:=List.length_pos_of_mem hx;simp only[zZ];omega
section
variable {W:Wd} {S:Tm->Prop} {U:List Tx}
def Met (r:Rw) (u:Tm):Prop:=∃t,t∈r.l/\txt t=txt u
structure RInv (W:Wd) (S:Tm->Prop) (U:List Tx) (r:Rw):Prop where
 ok:∀t,t∈r.l->Ok t
 der:∀t,t∈r.l->Der W S t
 met:∀x,(tl r.met x=0/\∀t,t∈r.l->txt t≠x)\/(0<tl r.met x/\∃t,t∈r.l/\txt t=x)
 nd:(r.l.map txt).Nodup
 un:∀t,t∈r.l->∀u,u∈jy t->txt u∈U
theorem RInv.pos {r:Rw} (h:RInv W S U r) {u:Tm}:0<tl r.met (txt u)↔Met r u:=by
 rcases h.met (txt u)with⟨h1,h2⟩|⟨h1,h2⟩
 ·constructor
  ·intro h;omega
  ·rintro⟨t,h3,h4⟩;exact absurd h4 (h2 t h3)
 ·exact⟨λ_=>h2,λ_=>h1⟩
theorem RInv.add {r:Rw} (h:RInv W S U r) {t:Tm} (ho:Ok t) (hd:Der W S t) (hu:∀u,u∈jy t->txt u∈U):RInv W S U (r.add t):=by
 unfold Rw.add;split
 ·rename_i h0;have hno:∀q,q∈r.l->txt q≠txt t:=by
   rcases h.met (txt t)with⟨_,h2⟩|⟨h1,_⟩
   ·exact h2
   ·omega
  refine⟨λq hq=> ?_,λq hq=> ?_,λx=> ?_,?_,λq hq=> ?_⟩
  ·simp at hq;rcases hq with hq|rfl;exact h.ok q hq;exact ho
  ·simp at hq;rcases hq with hq|rfl;exact h.der q hq;exact hd
  ·by_cases e:x=txt t
   ·subst e;rw[kV];exact .inr ⟨by decide,t,by simp,rfl⟩
   ·rw[gv e];rcases h.met x with⟨h1,h2⟩|⟨h1,q,h2,h3⟩
    ·refine .inl ⟨h1,λq hq=> ?_⟩;simp at hq;rcases hq with hq|rfl
     ·exact h2 q hq
     ·exact λe'=>e e'.symm
    ·exact .inr ⟨h1,q,by simp [h2],h3⟩
  ·simp only[AY,Ad,A_];refine AI.2 ⟨h.nd,by simp,λx hx y hy=> ?_⟩;obtain rfl:=zt.1 hy;obtain⟨q,hq,rfl⟩:=Av.1 hx;exact hno q hq
  ·simp at hq;rcases hq with hq|rfl;exact h.un q hq;exact hu
 ·exact h
theorem jS (r:Rw) (t:Tm):(r.add t).l.length=r.l.length->r.add t=r:=by
 unfold Rw.add;split
 ·intro h;simp at h
 ·intro _;rfl
theorem gQ (r:Rw) (t:Tm):∀u,u∈r.l->u∈(r.add t).l:=by
 unfold Rw.add;split
 ·intro u hu;simp [hu]
 ·intro u hu;exact hu
theorem iJ {r:Rw} (h:RInv W S U r) (t:Tm):Met (r.add t) t:=by
 unfold Rw.add;split
 ·exact⟨t,by simp,rfl⟩
 ·rename_i h0;rcases h.met (txt t)with⟨h1,_⟩|⟨_,h2⟩
  ·exact absurd h1 h0
  ·exact h2
theorem Met.mono {r r':Rw} (h:∀u,u∈r.l->u∈r'.l) {t:Tm} (k:Met r t):Met r' t:=by obtain⟨q,h1,h2⟩:=k;exact⟨q,h q h1,h2⟩
theorem Bt.der {r:Rw} (h:RInv W S U r) {t:Tm} (hb:Bt W r.met t):Ok t->Der W S t:=by
 induction hb with
 | @kn t h0=>
  intro ho;obtain⟨q,h1,h2⟩:=h.pos.1 h0;exact .eqv (h.der q h1) ho h2
 | @way t l hl _ ih=>
  intro ho;exact .way ho hl λu hu=>ih u hu (hU ho hl hu).1
def nS (W:Wd) (met m:b_):Prop:=∀t,Ok t->tl m (txt t)=0\/(tl m (txt t)=1/\Bt W met t)\/(tl m (txt t)=2/\¬Bt W met t)
theorem sN {met m:b_} (hm:nS W met m) {l:List Tm} (hl:∀u,u∈l->Ok u):∃f r m',bl W met f l m=some (r,m')/\(r=true↔∀u,u∈l->Bt W met u)/\nS W met m':=by
 obtain⟨k,hk⟩:∃k,∀u,u∈l->cx u<k:=by
  clear hl
  induction l with
  |nil=>exact⟨0,by simp⟩
  |cons x l ih=>
   obtain⟨k,hk⟩:=ih;refine⟨max k (cx x+1),λu hu=> ?_⟩;rcases zx.1 hu with rfl|hu
   ·omega
   ·have :=hk u hu;omega
 obtain⟨f,r,m',h1,h2,h3,h4⟩:=wX (W:=W) (met:=met) k l (λu hu=>⟨hl u hu,hk u hu⟩) m (λt ht _=>hm t ht);refine⟨f,r,m',h1,h2,λt ht=> ?_⟩;by_cases hlt:cx t<k
 ·exact h3 t ht hlt
 ·rw[h4 (txt t) (by unfold cx at hlt;omega)];exact hm t ht
theorem ld {met:b_} {f g:Nat} (hg:f<=g) {t:Tm} {m:b_} {r:Rw} {p:b_×Rw} (h:opn1 W met f t m r=some p):opn1 W met g t m r=some p:=by
 cases t with
 |mk k n ks=>
  unfold opn1 at h⊢;dsimp only at h⊢;by_cases h9:k=9
  ·rw[zX h9]at h⊢;exact h
  rw[zK h9]at h⊢;by_cases h8:k=8
  ·rw[zX h8]at h⊢;exact h
  rw[zK h8]at h⊢;by_cases h7:k=7
  ·rw[zX h7]at h⊢;split at h
   ·rename_i a b q;cases hb:bl W met f [a] m with
    |none=>rw[hb]at h;cases h
    |some z=>
     rw[hb]at h;rw[jO hg hb];exact h
   ·cases h
  ·rw[zK h7]at h⊢;exact h
theorem gL {met:b_} {f g:Nat} (hg:f<=g):∀{ts:List Tm} {m:b_} {r:Rw} {p:b_×Rw},opnL W met f ts m r=some p->opnL W met g ts m r=some p
 |[],m,r,p,h=>by simpa[opnL]using h
 |t::ts,m,r,p,h=>by obtain⟨m',r'⟩:=p;obtain⟨m1,r1,h1,h2⟩:=gM h;simp only[opnL,ld hg h1];exact gL hg h2
theorem ji {f f':Nat} (hf:f<=f'):∀{g g':Nat} {r p:Rw},g<=g'->dR W f g r=some p->dR W f' g' r=some p:=by
 intro g
 induction g with
 |zero=>intro g' r p _ h;simp [dR]at h
 |succ g ih=>
  intro g' r p hg h;obtain⟨q,rfl⟩:∃q,g'=q+1:=⟨g'-1,by omega⟩;simp only[dR]at h⊢;split at h
  ·cases h
  ·rename_i m1 r1 h1;rw[gL hf h1];dsimp only;split at h
   ·rename_i e;rw[zX e];exact h
   ·rename_i e;rw[zK e];exact ih (by omega) h
def Opd (W:Wd) (met:b_) (r':Rw) (t:Tm):Prop:=
 (∀n a b,t= .mk 9 n [a,b]->Met r' a/\Met r' b)/\(∀n a b,t= .mk 8 n [a,b]->Met r' b)/\(∀n a b,t= .mk 7 n [a,b]->Bt W met a->Met r' b)
theorem Opd.mono {met:b_} {r r':Rw} (h:∀u,u∈r.l->u∈r'.l) {t:Tm} (k:Opd W met r t):Opd W met r' t:=
 ⟨λn a b e=>⟨(k.1 n a b e).1.mono h,(k.1 n a b e).2.mono h⟩,λn a b e=>(k.2.1 n a b e).mono h,λn a b e hb=>(k.2.2 n a b e hb).mono h⟩
theorem rI {r0 r : Rw} {m : b_} (h0 : RInv W S U r0) (hm : nS W r0.met m) (hr : RInv W S U r) {t : Tm} (ht : t ∈ r0.l) :
  ∃f m' r',opn1 W r0.met f t m r=some (m',r')/\nS W r0.met m'/\RInv W S U r'/\(∀u,u∈r.l->u∈r'.l)/\(r'.l.length=r.l.length->r'=r)/\Opd W r0.met r' t:=by
 have i:=h0.ok t ht;have d:=h0.der t ht;have g:=h0.un t ht;cases t with
 |mk k n ks=>
  by_cases h9:k=9
  ·subst h9;obtain⟨a,b,rfl,ha,hb⟩:=i.two' (by decide) (by decide) (by decide);have c:=hr.add ha (.fst d) (λu hu=>g u (ie (by simp) hu));have o:=c.add hb (.snd d) (λu hu=>g u (ie (by simp) hu));refine⟨0,m,(r.add a).add b,by simp [opn1],hm,o,λu hu=>gQ _ _ u (gQ _ _ u hu),λhl=> ?_,?_,by simp,by simp⟩
   ·have l1:=gj r a;have l2:=gj (r.add a) b;have e1:=jS (r.add a) b (by omega);rw[e1]at hl⊢;exact jS r a hl
   ·rintro n' a' b' e;cases e;exact⟨(iJ hr _).mono (gQ _ _),iJ c _⟩
  by_cases h8:k=8
  ·subst h8;obtain⟨a,b,rfl,ha,hb⟩:=i.two' (by decide) (by decide) (by decide);have c:=hr.add hb (.sig d) (λu hu=>g u (ie (by simp) hu));refine⟨0,m,r.add b,by simp [opn1],hm,c,gQ _ _,jS r b,by simp,?_,by simp⟩;rintro n' a' b' e;cases e;exact iJ hr _
  by_cases h7:k=7
  ·subst h7;obtain⟨a,b,rfl,ha,hb⟩:=i.two' (by decide) (by decide) (by decide);obtain⟨f,q,m',h1,h2,h3⟩:=sN hm (l:=[a]) (by simpa using ha);have j:q=true↔Bt W r0.met a:=by simpa using h2
   cases q with
   |true=>
    have h:=j.1 rfl;have c:=hr.add hb (.dec d (h.der h0 ha)) (λu hu=>g u (ie (by simp) hu));refine⟨f,m',r.add b,by simp [opn1,h1],h3,c,gQ _ _,jS r b,by simp,by simp,?_⟩;rintro n' a' b' e _;cases e;exact iJ hr _
   |false=>
    refine⟨f,m',r,by simp [opn1,h1],h3,hr,λu hu=>hu,λ_=>rfl,by simp,by simp,?_⟩;rintro n' a' b' e h;cases e;have :=j.2 h;simp at this
  ·refine⟨0,m,r,by simp [opn1,h9,h8,h7],hm,hr,λu hu=>hu,λ_=>rfl,?_,?_,?_⟩
   ·rintro n' a' b' e;cases e;exact absurd rfl h9
   ·rintro n' a' b' e;cases e;exact absurd rfl h8
   ·rintro n' a' b' e;cases e;exact absurd rfl h7
theorem m8 {r0 : Rw} (h0 : RInv W S U r0) : ∀ (ts : List Tm) (m : b_) (r : Rw), nS W r0.met m -> RInv W S U r -> (∀ t, t ∈ ts -> t ∈ r0.l) ->
  ∃f m' r',opnL W r0.met f ts m r=some (m',r')/\RInv W S U r'/\(∀u,u∈r.l->u∈r'.l)/\(r'.l.length=r.l.length->r'=r)/\∀t,t∈ts->Opd W r0.met r' t
 |[],m,r,_,hr,_=>⟨0,m,r,rfl,hr,λu hu=>hu,λ_=>rfl,by simp⟩
 |t::ts,m,r,hm,hr,ht=>by
  obtain⟨f1,m1,r1,h1,h2,h3,h4,h5,h6⟩:=rI h0 hm hr (ht t (by simp));obtain⟨f2,m2,r2,k1,k2,k3,k4,k5⟩:=m8 h0 ts m1 r1 h2 h3 (λu hu=>ht u (by simp [hu]));refine⟨max f1 f2,m2,r2,?_,k2,λu hu=>k3 u (h4 u hu),λhl=> ?_,λu hu=> ?_⟩
  ·simp only[opnL,ld (AZ f1 f2) h1];exact gL (AT f1 f2) k1
  ·have l1:=ir h1;have l2:=fz k1;have e2:=k4 (by omega);rw[e2]at hl⊢;exact h5 hl
  ·rcases zx.1 hu with rfl|hu
   ·exact h6.mono k3
   ·exact k5 u hu
theorem RInv.len {r:Rw} (h:RInv W S U r):r.l.length<=U.length:=by
 have :=nf (r.l.map txt) U h.nd λx hx=>by obtain⟨t,ht,rfl⟩:=Av.1 hx;exact h.un t ht t (pW t)
 simpa using this
theorem n2:∀(q:Nat) (r:Rw),RInv W S U r->U.length-r.l.length<q->∃f g r',dR W f g r=some r'/\RInv W S U r'/\(∀u,u∈r.l->u∈r'.l)/\∀t,t∈r'.l->Opd W r'.met r' t:=by
 intro q
 induction q with
 |zero=>intro r _ h;omega
 |succ q ih=>
  intro r hr hq;obtain⟨f1,m1,r1,h1,h2,h3,h4,h5⟩:=m8 hr r.l [] r (λt _=> .inl rfl) hr (λt ht=>ht);by_cases e:r1.l.length=r.l.length
  ·have e1:=h4 e;subst e1;refine⟨f1,1,r1,by simp [dR,h1],hr,λu hu=>hu,h5⟩
  ·have l1:=fz h1;have l2:=h2.len;obtain⟨f2,g2,r2,k1,k2,k3,k4⟩:=ih r1 h2 (by omega);refine⟨max f1 f2,g2+1,r2,?_,k2,λu hu=>k3 u (h3 u hu),k4⟩;simp only[dR,gL (AZ f1 f2) h1,zK e];exact ji (AT f1 f2) (zH _) k1
theorem Der.bt {r:Rw} (hr:RInv W S U r) (hc:∀t,t∈r.l->Opd W r.met r t) (hS:∀t,S t->Ok t/\Met r t) {t:Tm} (h:Der W S t):Bt W r.met t:=by
 have f:∀{t:Tm},Der W S t->Ok t:=λh=>h.ok λt ht=>(hS t ht).1;have d:∀{t:Tm},Met r t->Bt W r.met t:=λh=> .kn (hr.pos.2 h)
 induction h with
 |kn h=>exact d (hS _ h).2
 |way _ hl _ ih=>exact .way hl ih
 | @fst n a b hd ih=>
  have ho:=f hd;cases ih with
  |kn h0=>
   obtain⟨q,h1,h2⟩:=hr.pos.1 h0;have c:=hr.ok q h1;have e:=eC c ho h2;cases q with
   |mk k' n' ks'=>
    obtain⟨e1,_,e3⟩:=e;simp only[Tm.kind,Tm.kids]at e1 e3;subst e1;obtain⟨a',b',rfl,i,g⟩:=c.two' (by decide) (by decide) (by decide);have e3:=e3 (by decide);rw[ei (by decide),ei (by decide)]at e3;simp at e3;exact(d ((hc _ h1).1 n' a' b' rfl).1).congr i (ho.kid (by simp)) e3.1
  |way hl hu=>simp [cw]at hl;subst hl;exact hu a (by simp)
 | @snd n a b hd ih=>
  have ho:=f hd;cases ih with
  |kn h0=>
   obtain⟨q,h1,h2⟩:=hr.pos.1 h0;have c:=hr.ok q h1;have e:=eC c ho h2;cases q with
   |mk k' n' ks'=>
    obtain⟨e1,_,e3⟩:=e;simp only[Tm.kind,Tm.kids]at e1 e3;subst e1;obtain⟨a',b',rfl,i,g⟩:=c.two' (by decide) (by decide) (by decide);have e3:=e3 (by decide);rw[ei (by decide),ei (by decide)]at e3;simp at e3;exact(d ((hc _ h1).1 n' a' b' rfl).2).congr g (ho.kid (by simp)) e3.2
  |way hl hu=>simp [cw]at hl;subst hl;exact hu b (by simp)
 | @sig n a b hd ih=>
  have ho:=f hd;cases ih with
  |kn h0=>
   obtain⟨q,h1,h2⟩:=hr.pos.1 h0;have c:=hr.ok q h1;have e:=eC c ho h2;cases q with
   |mk k' n' ks'=>
    obtain⟨e1,_,e3⟩:=e;simp only[Tm.kind,Tm.kids]at e1 e3;subst e1;obtain⟨a',b',rfl,i,g⟩:=c.two' (by decide) (by decide) (by decide);have e3:=e3 (by decide);rw[ei (by decide),ei (by decide)]at e3;simp at e3;exact(d ((hc _ h1).2.1 n' a' b' rfl)).congr g (ho.kid (by simp)) e3.2
  |way hl hu=>simp [cw]at hl;subst hl;exact hu b (by simp)
 | @dec n a b hd hda ih iha=>
  have ho:=f hd;cases ih with
  |kn h0=>
   obtain⟨q,h1,h2⟩:=hr.pos.1 h0;have c:=hr.ok q h1;have e:=eC c ho h2;cases q with
   |mk k' n' ks'=>
    obtain⟨e1,_,e3⟩:=e;simp only[Tm.kind,Tm.kids]at e1 e3;subst e1;obtain⟨a',b',rfl,i,g⟩:=c.two' (by decide) (by decide) (by decide);have e3:=e3 (by decide);rw[ei (by decide),ei (by decide)]at e3;simp at e3;exact(d ((hc _ h1).2.2 n' a' b' rfl (iha.congr (f hda) i e3.1.symm))).congr g (ho.kid (by simp)) e3.2
  |way hl hu=>simp [cw]at hl;subst hl;exact hu b (by simp)
 |eqv hd ho he ih=>exact ih.congr (f hd) ho he
end
mutual
theorem fW:(t:Tm)->(d:Nat)->cy t d=true->Ok t/\Ok (nrm t)
 | .mk k n ks,d,h=>by
  simp only[cy,zD,zU]at h;obtain⟨⟨h1,_,h2,h3⟩,h4⟩:=h;obtain⟨h5,h6,h7⟩:=j4 ks (d+1) h4;refine⟨.mk h1 h2 h3 h5,?_⟩;simp only[nrm];refine .mk ?_ (by rw[h7];exact h2) (by rw[h7];exact h3) h6;by_cases hk:k=1
  ·rw[zX hk];exact h1
  ·rw[zK hk];simp only[named,zD,z8,zU,Aq,decide_eq_false_iff_not]at h1⊢;omega
theorem j4:(ks:List Tm)->(d:Nat)->cA ks d=true->(∀t,t∈ks->Ok t)/\(∀t,t∈gS ks->Ok t)/\(gS ks).length=ks.length
 |[],_,_=>by simp [gS]
 |k::ks,d,h=>by
  simp only[cA,zD]at h;obtain⟨h1,h2⟩:=fW k d h.1;obtain⟨h3,h4,h5⟩:=j4 ks d h.2;refine⟨?_,?_,by simp [gS,h5]⟩
  ·intro t ht;rcases zx.1 ht with rfl|ht
   ·exact h1
   ·exact h3 t ht
  ·intro t ht;simp only[gS]at ht;rcases zx.1 ht with rfl|ht
   ·exact h2
   ·exact h4 t ht
end
theorem kr {t:Tm} (h:may t=true):Ok (nrm t):=by simp only[may,zD]at h;exact(fW t 0 h.2).2
def Kn (known:List Tm) (u:Tm):Prop:=∃v,v∈known/\may v=true/\u=nrm v
def lG (known:List Tm):List Tx:=((known.filter may).flatMap λv=>jy (nrm v)).map txt
theorem iY {W:Wd} {known:List Tm}:∀(ts:List Tm) (r:Rw),(∀t,t∈ts->t∈known)->RInv W (Kn known) (lG known) r->RInv W (Kn known) (lG known) (dc ts r)/\(∀u,u∈r.l->u∈(dc ts r).l)/\∀v,v∈ts->may v=true->Met (dc ts r) (nrm v)
 |[],r,_,hr=>⟨hr,λu hu=>hu,by simp⟩
 |t::ts,r,hk,hr=>by
  simp only[dc];cases hm:may t with
  |false=>
   rw[zK (by simp)];obtain⟨h1,h2,h3⟩:=iY ts r (λu hu=>hk u (by simp [hu])) hr;refine⟨h1,h2,λv hv hmv=> ?_⟩;rcases zx.1 hv with rfl|hv
   ·rw[hm]at hmv;simp at hmv
   ·exact h3 v hv hmv
  |true=>
   rw[zX rfl];have hr1:=hr.add (kr hm) (.kn ⟨t,hk t (by simp),hm,rfl⟩) (λu hu=>by
    unfold lG;refine AD (List.mem_flatMap.2 ⟨t,z_.2 ⟨hk t (by simp),hm⟩,hu⟩))
   obtain⟨h1,h2,h3⟩:=iY ts (r.add (nrm t)) (λu hu=>hk u (by simp [hu])) hr1;refine⟨h1,λu hu=>h2 u (gQ _ _ u hu),λv hv hmv=> ?_⟩;rcases zx.1 hv with rfl|hv
   ·exact(iJ hr _).mono h2
   ·exact h3 v hv hmv
theorem qj (W:Wd) (known:List Tm):∃f g r,iu W f g known=some r/\RInv W (Kn known) (lG known) r/\(∀t,Der W (Kn known) t->Bt W r.met t)/\(∀v,v∈known->may v=true->Met r (nrm v)):=by have h0:RInv W (Kn known) (lG known) ⟨[],[]⟩:=⟨by simp,by simp,λx=> .inl ⟨rfl,by simp⟩,by simp,by simp⟩;obtain⟨h1,_,h3⟩:=iY known ⟨[],[]⟩ (λt ht=>ht) h0;obtain⟨f,g,r,k1,k2,k3,k4⟩:=n2 ((lG known).length+1) _ h1 (by omega);have hm:∀v,v∈known->may v=true->Met r (nrm v):=λv hv hmv=>(h3 v hv hmv).mono k3;refine⟨f,g,r,k1,k2,λt ht=>ht.bt k2 k4 λu hu=> ?_,hm⟩;obtain⟨v,hv,hmv,rfl⟩:=hu;exact⟨kr hmv,hm v hv hmv⟩
theorem qr (W:Wd) (known:List Tm) (t:Tm):∃f g b,li W f g known t=some b/\(b=true↔may t=true/\Der W (Kn known) (nrm t))/\∀r,iu W f g known=some r->r.l.length<=(lG known).length:=by
 obtain⟨f,g,r,h1,h2,h3,_⟩:=qj W known;cases hm:may t with
 |false=>
  refine⟨f,g,false,by simp [li,hm],by simp,λr' h'=> ?_⟩;rw[h1]at h';cases h';exact h2.len
 |true=>
  obtain⟨f2,b,m',k1,k2,_⟩:=sN (W:=W) (met:=r.met) (m:=[]) (λt _=> .inl rfl) (l:=[nrm t]) (by simpa using kr hm);have k2':b=true↔Bt W r.met (nrm t):=by simpa using k2
  have ho:iu W (max f f2) g known=some r:=ji (AZ f f2) (zH _) h1;refine⟨max f f2,g,b,?_,?_,λr' h'=> ?_⟩
  ·simp only[li,hm,if_true,ho,jO (AT f f2) k1,zW]
  ·rw[k2'];exact⟨λh=>⟨rfl,h.der h2 (kr hm)⟩,λh=>h3 _ h.2⟩
  ·rw[ho]at h';cases h';exact h2.len
end Go.Mi.Term
namespace Go.Mi.Term
section
variable {W:Wd} {S:Tm->Prop}
inductive Safe (F:Tm->Prop):Tm->Prop
 |pair {n:Int} {a b:Tm}:¬F (.mk 9 n [a,b])->Safe F a->Safe F b->Safe F (.mk 9 n [a,b])
 |sign {n:Int} {a b:Tm}:¬F (.mk 8 n [a,b])->Safe F b->Safe F (.mk 8 n [a,b])
 |shut {n:Int} {a b:Tm}:¬F (.mk 7 n [a,b])->F a->Safe F (.mk 7 n [a,b])
 |enc {n:Int} {a b:Tm}:¬F (.mk 7 n [a,b])->Safe F b->Safe F (.mk 7 n [a,b])
 |other {k n:Int} {ks:List Tm}:¬F (.mk k n ks)->k≠9->k≠8->k≠7->Safe F (.mk k n ks)
theorem Safe.not {F:Tm->Prop} {t:Tm} (h:Safe F t):¬F t:=by cases h<;>assumption
structure my (W:Wd) (F:Tm->Prop):Prop where
 congr:∀a b,Ok a->Ok b->txt a=txt b->F a->F b
 need:∀t,Ok t->F t->∀l,l∈cw W t->∃u,u∈l/\F u
theorem Safe.congr {F:Tm->Prop} (hF:my W F) {a:Tm} (h:Safe F a):∀{b:Tm},Ok a->Ok b->txt a=txt b->Safe F b:=by
 have g:∀{k n:Int} {ks:List Tm} {b:Tm},Ok (.mk k n ks)->Ok b->txt (.mk k n ks)=txt b->k≠1->k≠3->∃n' c,b= .mk k n' c/\ks.map txt=c.map txt:=by
  intro k n ks b ha hb he h1 h3;have i:=eC ha hb he;cases b with
  |mk k' n' c=>
   obtain⟨e1,_,e3⟩:=i;simp only[Tm.kind,Tm.kids]at e1 e3;subst e1;have e3:=e3 h1;rw[ei h3,ei h3]at e3;exact⟨n',c,rfl,e3⟩
 have nF:∀{a b:Tm},Ok a->Ok b->txt a=txt b->¬F a->¬F b:=λha hb he h d=>h (hF.congr _ _ hb ha he.symm d)
 induction h with
 |pair h _ _ iha ihb=>
  intro b ha hb he;obtain⟨n',c,rfl,e⟩:=g ha hb he (by decide) (by decide);obtain⟨a',b',rfl,f,d⟩:=hb.two' (by decide) (by decide) (by decide);simp at e;exact .pair (nF ha hb he h) (iha (ha.kid (by simp)) f e.1) (ihb (ha.kid (by simp)) d e.2)
 |sign h _ ihb=>
  intro b ha hb he;obtain⟨n',c,rfl,e⟩:=g ha hb he (by decide) (by decide);obtain⟨a',b',rfl,f,d⟩:=hb.two' (by decide) (by decide) (by decide);simp at e;exact .sign (nF ha hb he h) (ihb (ha.kid (by simp)) d e.2)
 |shut h hs=>
  intro b ha hb he;obtain⟨n',c,rfl,e⟩:=g ha hb he (by decide) (by decide);obtain⟨a',b',rfl,f,d⟩:=hb.two' (by decide) (by decide) (by decide);simp at e;exact .shut (nF ha hb he h) (hF.congr _ _ (ha.kid (by simp)) f e.1 hs)
 |enc h _ ihb=>
  intro b ha hb he;obtain⟨n',c,rfl,e⟩:=g ha hb he (by decide) (by decide);obtain⟨a',b',rfl,f,d⟩:=hb.two' (by decide) (by decide) (by decide);simp at e;exact .enc (nF ha hb he h) (ihb (ha.kid (by simp)) d e.2)
 |other h h9 h8 h7=>
  intro b ha hb he;have i:=eC ha hb he;cases b with
  |mk k' n' c=>
   obtain⟨e1,_,_⟩:=i;simp only[Tm.kind]at e1;subst e1;exact .other (nF ha hb he h) h9 h8 h7
theorem hZ {k n:Int} {ks:List Tm} (h1:k≠1) (h3:k≠3) (h4:k≠4) (h5:k≠5):cw W (.mk k n ks)=[ks]:=by simp [cw,h1,h3,h4,h5]
theorem oX {F:Tm->Prop} (hF:my W F) (hok:∀s,S s->Ok s) (hS:∀s,S s->Safe F s) {t:Tm} (h:Der W S t):Safe F t:=by
 have d:∀{t:Tm},Der W S t->Ok t:=λh=>h.ok hok
 induction h with
 |kn h=>exact hS _ h
 | @way t l ho hl _ ih=>
  have hn:¬F t:=λhf=>by obtain⟨u,hu,c⟩:=hF.need t ho hf l hl;exact(ih u hu).not c
  cases t with
  |mk k n ks=>
   by_cases h9:k=9
   ·subst h9;obtain⟨a,b,rfl,_,_⟩:=ho.two' (by decide) (by decide) (by decide);rw[hZ (by decide) (by decide) (by decide) (by decide)]at hl;simp at hl;subst hl;exact .pair hn (ih a (by simp)) (ih b (by simp))
   by_cases h8:k=8
   ·subst h8;obtain⟨a,b,rfl,_,_⟩:=ho.two' (by decide) (by decide) (by decide);rw[hZ (by decide) (by decide) (by decide) (by decide)]at hl;simp at hl;subst hl;exact .sign hn (ih b (by simp))
   by_cases h7:k=7
   ·subst h7;obtain⟨a,b,rfl,_,_⟩:=ho.two' (by decide) (by decide) (by decide);rw[hZ (by decide) (by decide) (by decide) (by decide)]at hl;simp at hl;subst hl;exact .enc hn (ih b (by simp))
   ·exact .other hn h9 h8 h7
 |fst _ ih=>cases ih with
  |pair _ h _=>exact h
  |other _ h=>exact absurd rfl h
 |snd _ ih=>cases ih with
  |pair _ _ h=>exact h
  |other _ h=>exact absurd rfl h
 |sig _ ih=>cases ih with
  |sign _ h=>exact h
  |other _ _ h=>exact absurd rfl h
 |dec _ _ ih iha=>cases ih with
  |shut _ h=>exact absurd h iha.not
  |enc _ h=>exact h
  |other _ _ _ h=>exact absurd rfl h
 |eqv h ho he ih=>exact ih.congr hF (d h) ho he
end
end Go.Mi.Term
