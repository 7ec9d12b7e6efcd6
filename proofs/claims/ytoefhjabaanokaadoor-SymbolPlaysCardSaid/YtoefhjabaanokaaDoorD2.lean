/- Texts that belong together: S1, S2. General lemmas and walks; no conditions. -/
import Derived.Test.YtoefhjabaanokaaDoorT7
set_option linter.unusedSimpArgs false
set_option linter.unusedVariables false
set_option linter.unnecessarySimpa false
namespace Go.Mi.Term
def aT (n:Nat):Tm:= .mk 1 (n:Int) []
def cT (k:Nat):Tm:=aT (1000001+k)
def hT (l:List Tm):Tm:= .mk 6 0 l
def pT (n:Nat):Tm:=bL (aT n)
def dT (a b:Nat):Tm:=two 3 (aT a) (aT b)
def kT (k m:Nat):Tm:=two 4 (aT k) (aT m)
def ctT (k m:Nat):Tm:=two 5 (aT k) (aT m)
def eT (t:Tm) (n:Nat):Tm:=two 7 t (aT n)
structure GE where
 lo:Nat
 hi:Nat
 xs:Nat->Nat
 inp:List Tm
 c:Nat
 prs:List (Nat×Nat)
 km:Option (Nat×Nat)
 rvs:List (Nat->Nat)
 n:Nat->Nat
def GE.root (e:GE):Tm:=hT (e.inp++[cT e.c])
def chn (e:GE) (w:Nat):Nat->Tm
 |0=>hT (e.inp++[cT 3,pT (e.xs w)])
 |i+1=>hT [chn e w i,cT 1]
def fB (e:GE) (w i:Nat):Tm:=hT [chn e w i,cT 0]
theorem fK {n:Nat} (h:n<=1073741824):Ok (aT n):=pd (by omega) (by omega)
theorem ly {k:Nat} (h:k<=3):Ok (cT k):=fK (by omega)
theorem pu {l:List Tm} (h1:1<=l.length) (h8:l.length<=8) (h:∀t,t∈l->Ok t):Ok (hT l):= .mk rfl (by simpa[low]using h1) (by simpa[dZ]using h8) h
theorem m7 {n:Nat} (h:n<=1073741824):Ok (pT n):=ki (fK h)
theorem vc {a b:Nat} (ha:a<=1073741824) (hb:b<=1073741824):Ok (dT a b):=kh (by decide) (fK ha) (fK hb)
theorem uU {a b:Nat} (ha:a<=1073741824) (hb:b<=1073741824):Ok (kT a b):=kh (by decide) (fK ha) (fK hb)
theorem wW {a b:Nat} (ha:a<=1073741824) (hb:b<=1073741824):Ok (ctT a b):=kh (by decide) (fK ha) (fK hb)
theorem oJ {a b:Nat} (ha:a<=1073741824) (hb:b<=1073741824) (h:txt (aT a)=txt (aT b)):a=b:=by have :=(eC (fK ha) (fK hb) h).2.1 rfl;simp only[aT,Tm.name]at this;omega
theorem gq {a b:Tm} (ha:Ok a) (hb:Ok b) (h:txt a=txt b):a.kind=b.kind:=(eC ha hb h).1
theorem hD {l l':List Tm} (h1:Ok (hT l)) (h2:Ok (hT l')) (h:txt (hT l)=txt (hT l')):l.map txt=l'.map txt:=by have :=(eC h1 h2 h).2.2 (by simp [hT,Tm.kind]);simpa[hT,Tm.kind,Tm.kids,ord]using this
theorem wa {a b:Nat} (ha:a<=1073741824) (hb:b<=1073741824) (h:txt (pT a)=txt (pT b)):a=b:=by have :=(eC (m7 ha) (m7 hb) h).2.2 (by simp [pT,bL,Tm.kind]);simp [pT,bL,Tm.kind,Tm.kids,ord]at this;exact oJ ha hb this
theorem gN {l l':List Tm} {a b:Tm} (h:(l++[a]).map txt=(l'++[b]).map txt):txt a=txt b:=by have :=zu List.getLast? h;simpa using this
mutual
def ats:Tm->List Int
 | .mk k n ks=>if k=1 then[n]else oF ks
def oF:List Tm->List Int
 |[]=>[]
 |t::ts=>ats t++oF ts
end
theorem nj {ts:List Tm} {x:Int}:x∈oF ts↔∃t,t∈ts/\x∈ats t:=by
 induction ts with
 |nil=>simp [oF]
 |cons t ts ih=>simp [oF,ih]
theorem ats_hT {l:List Tm} {x:Int}:x∈ats (hT l)↔∃t,t∈l/\x∈ats t:=by simp [hT,ats,nj]
theorem oE (n:Nat) (x:Int):x∈ats (aT n)↔x=n:=by simp [aT,ats]
theorem wZ (n:Nat) (x:Int):x∈ats (pT n)↔x=n:=by simp [pT,bL,ats,oF,oE]
theorem mx {k:Int} (hk:k≠1) (a b:Nat) (x:Int):x∈ats (two k (aT a) (aT b))↔x=a\/x=b:=by simp [two,ats,hk,oF,oE]
theorem tg (a:Tm):Ok a->∀b,Ok b->txt a=txt b->∀x,x∈ats a->x∈ats b:=by
 refine Tm.rec' (p:=λa=>Ok a->∀b,Ok b->txt a=txt b->∀x,x∈ats a->x∈ats b) ?_ a;intro k n ks ih ha b hb he x hx;have hal:=eC ha hb he;cases b with
 |mk k' n' ks'=>
  obtain⟨e1,e2,e3⟩:=hal;simp only[Tm.kind,Tm.name,Tm.kids]at e1 e2 e3;subst e1;by_cases hk:k=1
  ·have :=e2 hk;subst this;simp only[ats,zX hk]at hx⊢;exact hx
  ·simp only[ats,zK hk,nj]at hx⊢;obtain⟨t,ht,hx⟩:=hx;have h1:txt t∈(ord k ks').map txt:=by rw[<-e3 hk];exact AD (ord_mem.2 ht)
   obtain⟨u,hu,he⟩:=Av.1 h1;exact⟨u,ord_mem.1 hu,ih t ht (ha.kid ht) u (hb.kid (ord_mem.1 hu)) he.symm x hx⟩
inductive Hdn (K:Tm->Prop) (B:Tx->Prop):Tm->Prop
 |base {t:Tm}:B (txt t)->Hdn K B t
 |hash {n:Int} {ks:List Tm} {u:Tm}:(∀v,K v->txt v≠txt (.mk 6 n ks))->u∈ks->Hdn K B u->Hdn K B (.mk 6 n ks)
theorem ud {l l':List Tm} (h:l.map txt=l'.map txt) {u:Tm} (hu:u∈l):∃u',u'∈l'/\txt u=txt u':=by
 have :txt u∈l'.map txt:=by rw[<-h];exact AD hu
 obtain⟨u',h1,h2⟩:=Av.1 this;exact⟨u',h1,h2.symm⟩
theorem Hdn.secret {W:Wd} {K:Tm->Prop} {B:Tx->Prop} (hB:∀t,Ok t->B (txt t)->∀l,l∈cw W t->∃u,u∈l/\B (txt u)):my W (Hdn K B):=by
 refine⟨λa b ha hb he h=> ?_,λt ho h l hl=> ?_⟩
 ·induction h generalizing b with
  |base h=>exact .base (he▸h)
  | @hash n ks u h1 h2 _ ih=>
   have hal:=eC ha hb he;cases b with
   |mk k' n' ks'=>
    obtain⟨e1,_,e3⟩:=hal;simp only[Tm.kind,Tm.kids]at e1 e3;subst e1;have e3:=e3 (by decide);rw[ei (by decide),ei (by decide)]at e3;obtain⟨u',hu,he'⟩:=ud e3 h2;exact .hash (λv hv=>he▸h1 v hv) hu (ih _ (ha.kid h2) (hb.kid hu) he')
 ·cases h with
  |base h=>
   obtain⟨u,hu,hb⟩:=hB t ho h l hl;exact⟨u,hu,.base hb⟩
  | @hash n ks u h1 h2 h3=>
   rw[hZ (by decide) (by decide) (by decide) (by decide)]at hl;simp at hl;subst hl;exact⟨u,h2,h3⟩
def Bx (A:Nat->Prop) (d:Tm) (x:Tx):Prop:=(∃a:Nat,a<=1073741824/\A a/\x=txt (aT a))\/x=txt d
theorem Bx.need {W:Wd} {A:Nat->Prop} {d:Tm} (hd:Ok d) (h:∀l,l∈cw W d->∃a:Nat,a<=1073741824/\A a/\aT a∈l) (t:Tm) (ho:Ok t) (hb:Bx A d (txt t)) (l:List Tm) (hl:l∈cw W t):∃u,u∈l/\Bx A d (txt u):=by
 rcases hb with⟨a,h1,_,h3⟩|h3
 ·have :=oG ho (by omega) (by omega) h3;subst this;simp [cw]at hl
 ·obtain⟨l',h1,h2⟩:=jW ho hd h3 hl;obtain⟨a,h4,h5,h6⟩:=h l' h1;obtain⟨u,h7,h8⟩:=h2 _ h6;exact⟨u,h7,.inl ⟨a,h4,h5,h8⟩⟩
theorem tf {W:Wd} (hW:W.dh=false) (a b:Nat):cw W (dT a b)=[[aT a,bL (aT b)],[aT b,bL (aT a)]]:=by simp [dT,two,cw,hW]
theorem te {W:Wd} (hW:W.kem=false) (a b:Nat):cw W (kT a b)=[[aT b,bL (aT a)],[aT a,ctT a b]]:=by simp [kT,two,cw,hW,ctT]
theorem Bx.atom {A:Nat->Prop} {d:Tm} (hd:Ok d) (hk:d.kind≠1) {n:Nat} (hn:n<=1073741824):Bx A d (txt (aT n))↔A n:=by
 constructor
 ·rintro(⟨a,h1,h2,h3⟩|h3)
  ·exact oJ h1 hn h3.symm▸h2
  ·exact absurd (gq (fK hn) hd h3).symm hk
 ·exact λh=> .inl ⟨n,hn,h,rfl⟩
theorem Bx.kind {A:Nat->Prop} {d:Tm} (hd:Ok d) {t:Tm} (ho:Ok t) (h1:t.kind≠1) (h2:t.kind≠d.kind):¬Bx A d (txt t):=by
 rintro(⟨a,k1,_,k3⟩|k3)
 ·exact h1 (gq ho (fK k1) k3)
 ·exact h2 (gq ho hd k3)
structure Eps (G:Nat->GE) (n N:Nat):Prop where
 pos:0<n
 big:N<=1000000
 inp:∀k,k<n->(G k).inp=(if k=0 then[]else[(G (k-1)).root])++(G k).prs.map (λp=>dT p.1 p.2)++(match(G k).km with
  |none=>[]
  |some p=>[kT p.1 p.2])
 c:∀k,k<n->(G k).c=if k=0 then 0 else 2
 one:(G 0).prs.length=3
 new:∀k,k<n->0<k->∃y,(G k).prs=[((G k).lo,y)]
 pr:∀k,k<n->∀p,p∈(G k).prs->p.1<(G k).hi/\p.2<(G k).hi
 kmb:∀k,k<n->∀p,(G k).km=some p->p.1<(G k).hi/\p.2<(G k).hi
 x:∀k,k<n->∀w,w<2->(G k).xs w<(G k).hi
 xne:∀k,k<n->(G k).xs 0≠(G k).xs 1
 up:∀j k,j<k->k<n->(G j).hi<=(G k).lo
 top:∀k,k<n->(G k).hi<=N
section
variable {G:Nat->GE} {n N:Nat}
theorem Eps.len (h:Eps G n N) {k:Nat} (hk:k<n):1<=(G k).inp.length/\(G k).inp.length<=4/\(k=0->3<=(G k).inp.length):=by
 rw[h.inp k hk];have h1:∀o:Option (Nat×Nat),(match o with |none=>([]:List Tm)|some p=>[kT p.1 p.2]).length<=1:=by intro o;cases o<;>simp
 have h2:=h1 (G k).km;by_cases h0:k=0
 ·subst h0;have :=h.one;simp only[zP,z7,if_true,Az];omega
 ·obtain⟨y,hy⟩:=h.new k hk (by omega);simp only[hy,zP,z7,zK h0,zZ,Az];omega
theorem Eps.inp_mem (h:Eps G n N) {k:Nat} (hk:k<n) {t:Tm}:t∈(G k).inp↔(0<k/\t=(G (k-1)).root)\/(∃p,p∈(G k).prs/\t=dT p.1 p.2)\/(∃p,(G k).km=some p/\t=kT p.1 p.2):=by
 rw[h.inp k hk,zr,zr,or_assoc];refine or_congr ?_ (or_congr ?_ ?_)
 ·by_cases h0:k=0
  ·simp [h0]
  ·simp [h0];omega
 ·simp only[Av,eq_comm]
 ·cases(G k).km with
  |none=>simp
  |some p=>simp
theorem Eps.ok (h:Eps G n N):∀k,k<n->(∀t,t∈(G k).inp->Ok t)/\Ok (G k).root:=by
 intro k
 induction k using Nat.strongRecOn with
 |_ k ih=>
  intro hk;have hN:=h.big;have ht:=h.top k hk;have h1:∀t,t∈(G k).inp->Ok t:=by
   intro t ht';rcases(h.inp_mem hk).1 ht' with⟨h0,rfl⟩|⟨p,hp,rfl⟩|⟨p,hp,rfl⟩
   ·exact(ih (k-1) (by omega) (by omega)).2
   ·have :=h.pr k hk p hp;exact vc (by omega) (by omega)
   ·have :=h.kmb k hk p hp;exact uU (by omega) (by omega)
  have hl:=h.len hk;refine⟨h1,pu (by simp) (by simp;omega) λt ht'=> ?_⟩;rcases zr.1 ht' with ht'|ht'
  ·exact h1 t ht'
  ·obtain rfl:=zt.1 ht';have :=h.c k hk;refine ly ?_;rw[this];split<;>omega
theorem Eps.ch_ok (h:Eps G n N) {k:Nat} (hk:k<n) {w:Nat} (hw:w<2):∀i,Ok (chn (G k) w i)
 |0=>by
  have hN:=h.big;have ht:=h.top k hk;have hx:=h.x k hk w hw;have hl:=h.len hk;refine pu (by simp) (by simp;omega) λt ht'=> ?_;simp only[zr,zx,zI,or_false]at ht';rcases ht' with ht'|rfl|rfl
  ·exact(h.ok k hk).1 t ht'
  ·exact ly (by omega)
  ·exact m7 (by omega)
 |i+1=>pu (by simp) (by simp) λt ht=>by
  simp only[zx,zI,or_false]at ht;rcases ht with rfl|rfl
  ·exact Eps.ch_ok h hk hw i
  ·exact ly (by omega)
theorem Eps.key_ok (h : Eps G n N) {k : Nat} (hk : k < n) {w : Nat} (hw : w < 2) (i : Nat) : Ok (fB (G k) w i) := pu (by simp) (by simp) λt ht => by
  simp only[zx,zI,or_false]at ht;rcases ht with rfl|rfl
  ·exact h.ch_ok hk hw i
  ·exact ly (by omega)
def Lowa (b:Nat) (t:Tm):Prop:=∀x,x∈ats t->(∃m:Nat,x=m/\m<b)\/1000001<=x
theorem Lowa.mono {b b':Nat} {t:Tm} (h:Lowa b t) (hb:b<=b'):Lowa b' t:=λx hx=>by
 rcases h x hx with⟨m,h1,h2⟩|h
 ·exact .inl ⟨m,h1,by omega⟩
 ·exact .inr h
theorem ma (b k:Nat):Lowa b (cT k):=λx hx=>by have :=(oE _ x).1 hx;exact .inr (by omega)
theorem l_ {b:Nat} {l:List Tm} (h:∀t,t∈l->Lowa b t):Lowa b (hT l):=λx hx=>by obtain⟨t,ht,hx⟩:=ats_hT.1 hx;exact h t ht x hx
theorem Eps.low (h:Eps G n N):∀k,k<n->(∀t,t∈(G k).inp->Lowa (G k).hi t)/\Lowa (G k).hi (G k).root:=by
 intro k
 induction k using Nat.strongRecOn with
 |_ k ih=>
  intro hk;have h1:∀t,t∈(G k).inp->Lowa (G k).hi t:=by
   intro t ht';rcases(h.inp_mem hk).1 ht' with⟨h0,rfl⟩|⟨p,hp,rfl⟩|⟨p,hp,rfl⟩
   ·obtain⟨y,hy⟩:=h.new k hk h0;have h2:=h.up (k-1) k (by omega) hk;have h3:=h.pr k hk ((G k).lo,y) (by simp [hy]);exact(ih (k-1) (by omega) (by omega)).2.mono (by simp only at h3;omega)
   ·have :=h.pr k hk p hp;intro x hx;rcases(mx (by decide) _ _ _).1 hx with rfl|rfl
    ·exact .inl ⟨_,rfl,this.1⟩
    ·exact .inl ⟨_,rfl,this.2⟩
   ·have :=h.kmb k hk p hp;intro x hx;rcases(mx (by decide) _ _ _).1 hx with rfl|rfl
    ·exact .inl ⟨_,rfl,this.1⟩
    ·exact .inl ⟨_,rfl,this.2⟩
  refine⟨h1,l_ λt ht=> ?_⟩;rcases zr.1 ht with ht|ht
  ·exact h1 t ht
  ·obtain rfl:=zt.1 ht;exact ma _ _
theorem Eps.low_ch (h:Eps G n N) {k:Nat} (hk:k<n) {w:Nat} (hw:w<2):∀i,Lowa (G k).hi (chn (G k) w i)
 |0=>l_ λt ht=>by
  simp only[zr,zx,zI,or_false]at ht;rcases ht with ht|rfl|rfl
  ·exact(h.low k hk).1 t ht
  ·exact ma _ _
  ·intro x hx;obtain rfl:=(wZ _ _).1 hx;exact .inl ⟨_,rfl,h.x k hk w hw⟩
 |i+1=>l_ λt ht=>by
  simp only[zx,zI,or_false]at ht;rcases ht with rfl|rfl
  ·exact Eps.low_ch h hk hw i
  ·exact ma _ _
theorem Eps.low_key (h : Eps G n N) {k : Nat} (hk : k < n) {w : Nat} (hw : w < 2) (i : Nat) : Lowa (G k).hi (fB (G k) w i) := l_ λt ht => by
  simp only[zx,zI,or_false]at ht;rcases ht with rfl|rfl
  ·exact h.low_ch hk hw i
  ·exact ma _ _
theorem Eps.new_in (h:Eps G n N) {k:Nat} (hk:k<n) (h0:0<k):∃t,t∈(G k).inp/\((G k).lo:Int)∈ats t:=by obtain⟨y,hy⟩:=h.new k hk h0;exact⟨dT (G k).lo y,(h.inp_mem hk).2 (.inr (.inl ⟨((G k).lo,y),by simp [hy],rfl⟩)),(mx (by decide) _ _ _).2 (.inl rfl)⟩
inductive Tof (e:GE):Tm->Prop
 |root:Tof e e.root
 |ch (w i:Nat):w<2->Tof e (chn e w i)
 |key (w i:Nat):w<2->Tof e (fB e w i)
theorem mt {e:GE} {x:Int} (h:∃t,t∈e.inp/\x∈ats t) (w:Nat):∀i,x∈ats (chn e w i)
 |0=>by obtain⟨t,h1,h2⟩:=h;exact ats_hT.2 ⟨t,by simp [h1],h2⟩
 |i+1=>ats_hT.2 ⟨_,by simp,mt h w i⟩
theorem Tof.new {e:GE} {x:Int} (h:∃t,t∈e.inp/\x∈ats t) {t:Tm} (ht:Tof e t):x∈ats t:=by
 cases ht with
 |root=>obtain⟨t,h1,h2⟩:=h;exact ats_hT.2 ⟨t,by simp [h1],h2⟩
 |ch w i _=>exact mt h w i
 |key w i _=>exact ats_hT.2 ⟨_,by simp,mt h w i⟩
theorem Eps.tof (h:Eps G n N) {k:Nat} (hk:k<n) {t:Tm} (ht:Tof (G k) t):Ok t/\Lowa (G k).hi t:=by
 cases ht with
 |root=>exact⟨(h.ok k hk).2,(h.low k hk).2⟩
 |ch w i hw=>exact⟨h.ch_ok hk hw i,h.low_ch hk hw i⟩
 |key w i hw=>exact⟨h.key_ok hk hw i,h.low_key hk hw i⟩
theorem Eps.apart (h:Eps G n N) {j k:Nat} (hj:j<n) (hk:k<n) (hne:j≠k) {t u:Tm} (ht:Tof (G j) t) (hu:Tof (G k) u):txt t≠txt u:=by
 have key:∀{j k:Nat} {t u:Tm},j<k->k<n->Tof (G j) t->Tof (G k) u->txt t≠txt u:=by
  intro j k t u hjk hk ht hu he;have h1:=h.tof (show j<n by omega) ht;have h2:=h.tof hk hu;have h3:=tg u h2.1 t h1.1 he.symm _ (hu.new (h.new_in hk (by omega)));have h4:=h.up j k hjk hk;have h5:=h.top k hk;have h6:=h.big;obtain⟨y,hy⟩:=h.new k hk (by omega);have h7:=h.pr k hk ((G k).lo,y) (by simp [hy]);rcases h1.2 _ h3 with⟨m,e,hm⟩|h8
  ·omega
  ·simp only at h7;omega
 rcases Nat.lt_or_gt_of_ne hne with h1|h1
 ·exact key h1 hk ht hu
 ·exact λhe=>key h1 hj hu ht he.symm
theorem sM {a b:Nat} (ha:a<=3) (hb:b<=3) (h:txt (cT a)=txt (cT b)):a=b:=by have :=oJ (by omega) (by omega) h;omega
theorem o_ {x a:Nat} (hx:x<=1000000) (ha:a<=3):txt (pT x)≠txt (cT a):=λh=>by have :=gq (m7 (by omega)) (ly ha) h;simp [pT,bL,cT,aT,Tm.kind]at this
theorem Eps.xb (h:Eps G n N) {k:Nat} (hk:k<n) {w:Nat} (hw:w<2):(G k).xs w<=1000000:=by have :=h.x k hk w hw;have :=h.top k hk;have :=h.big;omega
theorem nK (e:GE) (w i:Nat):∃l,chn e w i=hT (l++[if i=0 then pT (e.xs w)else cT 1]):=by
 cases i with
 |zero=>exact⟨e.inp++[cT 3],by simp [chn]⟩
 |succ i=>exact⟨[chn e w i],by simp [chn]⟩
theorem Eps.root_ch (h:Eps G n N) {k:Nat} (hk:k<n) {w:Nat} (hw:w<2) (i:Nat):txt (G k).root≠txt (chn (G k) w i):=λhe=>by
 have h1:=(h.ok k hk).2;have h2:=h.ch_ok hk hw i;obtain⟨l,hl⟩:=nK (G k) w i;rw[hl]at he h2;have h3:=gN (hD h1 h2 he);have hc:=h.c k hk;have hc3:(G k).c<=3/\(G k).c≠1:=by rw[hc];split<;>omega
 split at h3
 ·exact o_ (h.xb hk hw) hc3.1 h3.symm
 ·exact hc3.2 (sM hc3.1 (by omega) h3)
theorem Eps.root_key (h:Eps G n N) {k:Nat} (hk:k<n) {w:Nat} (hw:w<2) (i:Nat):txt (G k).root≠txt (fB (G k) w i):=λhe=>by
 have h3:=hD (h.ok k hk).2 (h.key_ok hk hw i) he;have hc:=h.c k hk;by_cases h0:k=0
 ·have :=(h.len hk).2.2 h0;have :=zu List.length h3;simp at this;omega
 ·have h4:txt (cT (G k).c)=txt (cT 0):=gN (l':=[chn (G k) w i]) h3;rw[zK h0]at hc;have :=sM (by omega) (by omega) h4;omega
theorem Eps.ch_key (h:Eps G n N) {k:Nat} (hk:k<n) {w w':Nat} (hw:w<2) (hw':w'<2) (i i':Nat):txt (chn (G k) w i)≠txt (fB (G k) w' i'):=λhe=>by
 have h2:=h.ch_ok hk hw i;obtain⟨l,hl⟩:=nK (G k) w i;rw[hl]at he h2;have h3:=gN (l':=[chn (G k) w' i']) (hD h2 (h.key_ok hk hw' i') he);split at h3
 ·exact o_ (h.xb hk hw) (by omega) h3
 ·have :=sM (by omega) (by omega) h3;omega
theorem Eps.ch_inj (h:Eps G n N) {k:Nat} (hk:k<n) {w w':Nat} (hw:w<2) (hw':w'<2):∀i i',txt (chn (G k) w i)=txt (chn (G k) w' i')->w=w'/\i=i'
 |0,0,he=>by
  have h3:=hD (h.ch_ok hk hw 0) (h.ch_ok hk hw' 0) he;have h4:txt (pT ((G k).xs w))=txt (pT ((G k).xs w')):=gN (l:=(G k).inp++[cT 3]) (l':=(G k).inp++[cT 3]) (by simpa using h3);have h5:=wa (by have :=h.xb hk hw;omega) (by have :=h.xb hk hw';omega) h4;have h6:=h.xne k hk;have :w=0\/w=1:=by omega
  have :w'=0\/w'=1:=by omega
  rcases ‹w=0\/w=1›with rfl|rfl<;>rcases ‹w'=0\/w'=1›with rfl|rfl
  ·exact⟨rfl,rfl⟩
  ·exact absurd h5 h6
  ·exact absurd h5.symm h6
  ·exact⟨rfl,rfl⟩
 |0,i'+1,he=>by
  have h2:=h.ch_ok hk hw 0;have h3:=gN (l:=(G k).inp++[cT 3]) (a:=pT ((G k).xs w)) (l':=[chn (G k) w' i']) (b:=cT 1) (by simpa using hD (h.ch_ok hk hw 0) (h.ch_ok hk hw' (i'+1)) he);exact absurd h3 (o_ (h.xb hk hw) (by omega))
 |i+1,0,he=>by
  have h3:=gN (l':=(G k).inp++[cT 3]) (b:=pT ((G k).xs w')) (l:=[chn (G k) w i]) (a:=cT 1) (by simpa using hD (h.ch_ok hk hw (i+1)) (h.ch_ok hk hw' 0) he);exact absurd h3.symm (o_ (h.xb hk hw') (by omega))
 |i+1,i'+1,he=>by have h3:=hD (h.ch_ok hk hw (i+1)) (h.ch_ok hk hw' (i'+1)) he;simp at h3;obtain⟨h4,h5⟩:=Eps.ch_inj h hk hw hw' i i' h3;exact⟨h4,by omega⟩
end
end Go.Mi.Term
namespace Go.Mi.Term
abbrev Snd:=Nat×Nat×Nat×Nat
structure Seen (G:Nat->GE) (n N:Nat) (rv:Nat->Prop) (S:List Snd) (K:Tm->Prop):Prop where
 cls:∀t,K t->(∃j,j<=3/\t=cT j)\/(∃a,a<N/\t=pT a)\/(∃a b,a<N/\b<N/\t=ctT a b)\/(∃k w i a,k<n/\w<2/\a<N/\(k,w,i,a)∈S/\t=eT (fB (G k) w i) a)\/(∃a,a<N/\rv a/\t=aT a)\/
  (∃k,k<n/\(G k).rvs≠[]/\t=(G k).root)\/(∃k w v,k<n/\w<2/\v∈(G k).rvs/\t=chn (G k) w (v w))
 con:∀j,j<=3->K (cT j)
 pub:∀k,k<n->∀p,p∈(G k).prs->K (pT p.1)/\K (pT p.2)
 xp:∀k,k<n->∀w,w<2->K (pT ((G k).xs w))
 ct:∀k,k<n->∀p,(G k).km=some p->K (ctT p.1 p.2)
 rev:∀a,rv a->K (aT a)
 rt:∀k,k<n->(G k).rvs≠[]->K (G k).root
 chs:∀k,k<n->∀w,w<2->∀v,v∈(G k).rvs->K (chn (G k) w (v w))
 enc:∀k w i a,(k,w,i,a)∈S->K (eT (fB (G k) w i) a)
structure Cls (G:Nat->GE) (n:Nat) (rv:Nat->Prop) (S:List Snd) (cl:Nat->Nat):Prop where
 pr:∀k,k<n->∀p,p∈(G k).prs->cl p.1=1/\cl p.2=1
 km:∀k,k<n->∀p,(G k).km=some p->cl p.1=2/\cl p.2=2
 rv:∀a,rv a->cl a=1
 tx:∀k w i a,(k,w,i,a)∈S->cl a=3
 inj:∀s s',s∈S->s'∈S->s.2.2.2=s'.2.2.2->s=s'
def nt (W:Wd) (rv:Nat->Prop) (e:GE):Prop:=(∀p,e.km=some p->W.kem=true)/\(W.dh=true\/∀p,p∈e.prs->rv p.1\/rv p.2)
def whO (W:Wd) (rv:Nat->Prop) (G:Nat->GE):Nat->Prop
 |0=>nt W rv (G 0)
 |k+1=>nt W rv (G (k+1))/\((G k).rvs≠[]\/whO W rv G k)
def nX (W:Wd) (rv:Nat->Prop) (G:Nat->GE) (k w i:Nat):Prop:=(∃v,v∈(G k).rvs/\v w<=i)\/whO W rv G k
theorem oQ {W:Wd} {rv:Nat->Prop} {G:Nat->GE}:∀k,¬whO W rv G k->∃j,j<=k/\¬nt W rv (G j)/\∀m,j<=m->m<k->(G m).rvs=[]
 |0,h=>⟨0,zH _,h,λm _ hm=>absurd hm (by omega)⟩
 |k+1,h=>by
  simp only[whO]at h;by_cases hi:nt W rv (G (k+1))
  ·have h2:¬((G k).rvs≠[]\/whO W rv G k):=λh'=>h ⟨hi,h'⟩;have h3:(G k).rvs=[]:=Classical.byContradiction λh'=>h2 (.inl h');obtain⟨j,h4,h5,h6⟩:=oQ k λh'=>h2 (.inr h');refine⟨j,by omega,h5,λm hm1 hm2=> ?_⟩;by_cases hmk:m=k
   ·subst hmk;exact h3
   ·exact h6 m hm1 (by omega)
  ·exact⟨k+1,zH _,hi,λm hm1 hm2=>absurd hm2 (by omega)⟩
section
variable {G:Nat->GE} {n N:Nat} {rv:Nat->Prop} {S:List Snd} {K:Tm->Prop} {cl:Nat->Nat} {W:Wd}
theorem Seen.ok (hE:Eps G n N) (hS:Seen G n N rv S K) {t:Tm} (h:K t):Ok t:=by
 have hN:=hE.big;rcases hS.cls t h with⟨j,h1,rfl⟩|⟨a,h1,rfl⟩|⟨a,b,h1,h2,rfl⟩|⟨k,w,i,a,hk,hw,ha,_,rfl⟩|⟨a,h1,_,rfl⟩|⟨k,hk,_,rfl⟩|⟨k,w,v,hk,hw,_,rfl⟩
 ·exact ly h1
 ·exact m7 (by omega)
 ·exact wW (by omega) (by omega)
 ·exact kh (by decide) (hE.key_ok hk hw i) (fK (by omega))
 ·exact fK (by omega)
 ·exact(hE.ok k hk).2
 ·exact hE.ch_ok hk hw _
theorem Seen.not (hE:Eps G n N) (hS:Seen G n N rv S K) {k:Nat} (hk:k<n) {t:Tm} (ht:Tof (G k) t) (hr:(G k).rvs≠[]->txt (G k).root≠txt t) (hc:∀w v,w<2->v∈(G k).rvs->txt (chn (G k) w (v w))≠txt t) {s:Tm} (h:K s):txt s≠txt t:=by
 have ho:=(hE.tof hk ht).1;have hk6:t.kind=6:=by cases ht with
  |root=>rfl
  |ch w i _=>cases i<;>rfl
  |key w i _=>rfl
 have hso:=hS.ok hE h;have kne:s.kind≠6->txt s≠txt t:=λhs he=>hs ((gq hso ho he).trans hk6);rcases hS.cls s h with⟨j,h1,rfl⟩|⟨a,h1,rfl⟩|⟨a,b,h1,h2,rfl⟩|⟨k',w,i,a,hk',hw,ha,_,rfl⟩|⟨a,h1,_,rfl⟩|⟨k',hk',h1,rfl⟩|⟨k',w,v,hk',hw,hv,rfl⟩
 ·exact kne (by simp [cT,aT,Tm.kind])
 ·exact kne (by simp [pT,bL,Tm.kind])
 ·exact kne (by simp [ctT,two,Tm.kind])
 ·exact kne (by simp [eT,two,Tm.kind])
 ·exact kne (by simp [aT,Tm.kind])
 ·by_cases e:k'=k
  ·subst e;exact hr h1
  ·exact hE.apart hk' hk e .root ht
 ·by_cases e:k'=k
  ·subst e;exact hc w v hw hv
  ·exact hE.apart hk' hk e (.ch w _ hw) ht
theorem Seen.path (hE:Eps G n N) (hS:Seen G n N rv S K) {B:Tx->Prop} {j k w i:Nat} {u:Tm} (hjk:j<=k) (hk:k<n) (hw:w<2) (hrv:∀m,j<=m->m<k->(G m).rvs=[]) (hi:∀v,v∈(G k).rvs->i<v w) (hu:u∈(G j).inp) (hb:B (txt u)):Hdn K B (fB (G k) w i):=by
 have c:∀m,j<=m->m<k->Hdn K B (G m).root:=by
  intro m
  induction m with
  |zero=>
   intro h1 h2;have :j=0:=by omega
   subst this;exact .hash (λs hs=>hS.not hE (show 0<n by omega) .root (λh=>absurd (hrv 0 (by omega) h2) h) (λw' v _ hv=>by rw[hrv 0 (by omega) h2]at hv;simp at hv) hs) (by simp [hu]) (.base hb)
  |succ m ih=>
   intro h1 h2;have b:=λs (hs:K s)=>hS.not hE (show m+1<n by omega) .root (λh=>absurd (hrv (m+1) h1 h2) h) (λw' v _ hv=>by rw[hrv (m+1) h1 h2]at hv;simp at hv) hs;by_cases e:j=m+1
   ·subst e;exact .hash b (by simp [hu]) (.base hb)
   ·have hm:(G m).root∈(G (m+1)).inp:=(hE.inp_mem (by omega)).2 (.inl ⟨by omega,rfl⟩);exact .hash b (by simp [hm]) (ih (by omega) (by omega))
 obtain⟨y,hy,g⟩:∃y,y∈(G k).inp/\Hdn K B y:=by
  by_cases e:j=k
  ·subst e;exact⟨u,hu,.base hb⟩
  ·exact⟨(G (k-1)).root,(hE.inp_mem hk).2 (.inl ⟨by omega,rfl⟩),c (k-1) (by omega) (by omega)⟩
 have a:∀q,q<=i->∀s,K s->txt s≠txt (chn (G k) w q):=λq hq s hs=>
  hS.not hE hk (.ch w q hw) (λ_=>hE.root_ch hk hw q) (λw' v d hv he=>by
   obtain⟨e1,e2⟩:=hE.ch_inj hk d hw _ _ he;subst e1;have :=hi v hv;omega) hs
 have f:∀q,q<=i->Hdn K B (chn (G k) w q):=by
  intro q
  induction q with
  |zero=>intro hq;exact .hash (a 0 hq) (by simp [hy]) g
  |succ q ih=>intro hq;exact .hash (a (q+1) hq) (by simp) (ih (by omega))
 exact .hash (λs hs=>hS.not hE hk (.key w i hw) (λ_=>hE.root_key hk hw i) (λw' v d hv=>hE.ch_key hk d hw _ _) hs) (by simp) (f i (zH _))
theorem Safe.of_other {F:Tm->Prop} {t:Tm} (h:¬F t) (h9:t.kind≠9) (h8:t.kind≠8) (h7:t.kind≠7):Safe F t:=by
 cases t with
 |mk k n ks=>exact .other h h9 h8 h7
theorem nw {B:Tx->Prop} {t:Tm} (h:Hdn K B t) (h6:t.kind≠6):B (txt t):=by
 cases h with
 |base h=>exact h
 |hash _ _ _=>simp [Tm.kind]at h6
theorem kG (hE : Eps G n N) (hS : Seen G n N rv S K) (hC : Cls G n rv S cl) {j k w i : Nat} {u : Tm} {A : Nat -> Prop} (x : Nat) (hjk : j <= k) (hk : k < n) (hw : w < 2) (hrv : ∀ m, j <= m -> m < k -> (G m).rvs = []) (hi : ∀ v, v ∈ (G k).rvs -> i < v w) (hu : u ∈ (G j).inp)
  (huk:u.kind=3\/u.kind=4) (hA:∀a,A a->a<N/\¬rv a/\cl a≠3) (hways:∀l,l∈cw W u->∃a:Nat,a<=1073741824/\A a/\aT a∈l) (hx:(k,w,i,x)∈S) (hxN:x<N):
  ¬Der W K (fB (G k) w i)/\¬Der W K (aT x):=by
 have hN:=hE.big;have f:=(hE.ok j (by omega)).1 u hu;have t:u.kind≠1:=by omega
 have o:my W (Hdn K (Bx (λa=>A a\/a=x) u)):=Hdn.secret (Bx.need f λl hl=>by
  obtain⟨a,h1,h2,h3⟩:=hways l hl;exact⟨a,h1,.inl h2,h3⟩)
 have g:=hS.path hE (B:=Bx (λa=>A a\/a=x) u) hjk hk hw hrv hi hu (.inr rfl);have c:∀a:Nat,a<=1073741824->¬(A a\/a=x)->Safe (Hdn K (Bx (λa=>A a\/a=x) u)) (aT a):=λa ha hn=>
  .other (λh=>hn ((Bx.atom f t ha).1 (nw h (by simp [aT,Tm.kind])))) (by decide) (by decide) (by decide)
 have d:∀s,K s->Safe (Hdn K (Bx (λa=>A a\/a=x) u)) s:=by
  intro s hs;have p:=hS.ok hE hs;have nk:s.kind≠1->s.kind≠u.kind->s.kind≠6->¬Hdn K (Bx (λa=>A a\/a=x) u) s:=λh1 h2 h6 h=>Bx.kind f p h1 h2 (nw h h6);have n6:s.kind=6->¬Hdn K (Bx (λa=>A a\/a=x) u) s:=λh6 h=>by
   cases h with
   |base h=>exact Bx.kind f p (by omega) (by omega) h
   |hash h _ _=>exact h _ hs rfl
  rcases hS.cls s hs with⟨q,h1,rfl⟩|⟨a,h1,rfl⟩|⟨a,b,h1,h2,rfl⟩|⟨k',w',i',a,hk',hw',ha,hm,rfl⟩|⟨a,h1,h2,rfl⟩|⟨k',hk',h1,rfl⟩|⟨k',w',v,hk',hw',hv,rfl⟩
  ·exact c _ (by omega) (by rintro(h|h);have :=(hA _ h).1;omega;omega)
  ·exact .other (nk (by simp [pT,bL,Tm.kind]) (show(2:Int)≠u.kind by omega) (by simp [pT,bL,Tm.kind])) (by decide) (by decide) (by decide)
  ·exact .other (nk (by simp [ctT,two,Tm.kind]) (show(5:Int)≠u.kind by omega) (by simp [ctT,two,Tm.kind])) (by decide) (by decide) (by decide)
  ·have r:=nk (by simp [eT,two,Tm.kind]) (show(7:Int)≠u.kind by omega) (by simp [eT,two,Tm.kind]);by_cases e:a=x
   ·have :=hC.inj _ _ hm hx e;simp only[Prod.mk.injEq]at this;obtain⟨rfl,rfl,rfl,_⟩:=this;exact .shut r g
   ·exact .enc r (c a (by omega) (by rintro(h|h);exact(hA _ h).2.2 (hC.tx _ _ _ _ hm);exact e h))
  ·exact c a (by omega) (by
    rintro(h|h)
    ·exact(hA _ h).2.1 h2
    ·subst h;have :=hC.rv _ h2;have :=hC.tx _ _ _ _ hx;omega)
  ·exact .other (n6 rfl) (by decide) (by decide) (by decide)
  ·have h6:(chn (G k') w' (v w')).kind=6:=by cases v w'<;>rfl
   refine Safe.of_other (n6 h6) (by omega) (by omega) (by omega)
 exact⟨λh=>(oX o (λ_=>hS.ok hE) d h).not g,λh=>(oX o (λ_=>hS.ok hE) d h).not (.base (.inl ⟨x,by omega,.inr rfl,rfl⟩))⟩
theorem closed (hE:Eps G n N) (hS:Seen G n N rv S K) (hC:Cls G n rv S cl) {k w i x:Nat} (hk:k<n) (hw:w<2) (hx:(k,w,i,x)∈S) (hxN:x<N) (h:¬nX W rv G k w i):¬Der W K (fB (G k) w i)/\¬Der W K (aT x):=by
 have hN:=hE.big;have h1:∀v,v∈(G k).rvs->i<v w:=λv hv=>Nat.lt_of_not_le λh'=>h (.inl ⟨v,hv,h'⟩);obtain⟨j,hj,h2,h3⟩:=oQ k λh'=>h (.inr h');have b:j<n:=by omega
 have ht:=hE.top j b;unfold nt at h2;by_cases hkm:∀p,(G j).km=some p->W.kem=true
 ·have h4:¬(W.dh=true\/∀p,p∈(G j).prs->rv p.1\/rv p.2):=λh'=>h2 ⟨hkm,h'⟩;have d:W.dh=false:=by cases hd:W.dh with
   |false=>rfl
   |true=>exact absurd (.inl hd) h4
  obtain⟨p,hp,h5⟩:∃p,p∈(G j).prs/\¬(rv p.1\/rv p.2):=Classical.byContradiction λhn=>h4 (.inr λp hp=>Classical.byContradiction λh'=>hn ⟨p,hp,h'⟩);have hb:=hE.pr j b p hp;have hc:=hC.pr j b p hp;refine kG hE hS hC (u:=dT p.1 p.2) (A:=λa=>a=p.1\/a=p.2) x hj hk hw h3 h1 ((hE.inp_mem b).2 (.inr (.inl ⟨p,hp,rfl⟩))) (.inl rfl) ?_ ?_ hx hxN
  ·rintro a (rfl|rfl)
   ·exact⟨by omega,λh'=>h5 (.inl h'),by omega⟩
   ·exact⟨by omega,λh'=>h5 (.inr h'),by omega⟩
  ·intro l hl;rw[tf d]at hl;simp only[zx,zI,or_false]at hl;rcases hl with rfl|rfl
   ·exact⟨p.1,by omega,.inl rfl,by simp⟩
   ·exact⟨p.2,by omega,.inr rfl,by simp⟩
 ·obtain⟨p,hp,h5⟩:∃p,(G j).km=some p/\W.kem≠true:=Classical.byContradiction λhn=>hkm λp hp=>Classical.byContradiction λh'=>hn ⟨p,hp,h'⟩;have c:W.kem=false:=by simpa using h5
  have hb:=hE.kmb j b p hp;have hc:=hC.km j b p hp;refine kG hE hS hC (u:=kT p.1 p.2) (A:=λa=>a=p.1\/a=p.2) x hj hk hw h3 h1 ((hE.inp_mem b).2 (.inr (.inr ⟨p,hp,rfl⟩))) (.inr rfl) ?_ ?_ hx hxN
  ·rintro a (rfl|rfl)
   ·exact⟨by omega,λh'=>by have :=hC.rv _ h';omega,by omega⟩
   ·exact⟨by omega,λh'=>by have :=hC.rv _ h';omega,by omega⟩
  ·intro l hl;rw[te c]at hl;simp only[zx,zI,or_false]at hl;rcases hl with rfl|rfl
   ·exact⟨p.2,by omega,.inr rfl,by simp⟩
   ·exact⟨p.1,by omega,.inl rfl,by simp⟩
theorem pB {l:List Tm} (ho:Ok (hT l)) (h:∀t,t∈l->Der W K t):Der W K (hT l):= .way (l:=l) ho (by simp [hT,cw]) h
theorem pA (hE:Eps G n N) (hS:Seen G n N rv S K) {k:Nat} (hk:k<n) (ho:nt W rv (G k)) (hr:0<k->Der W K (G (k-1)).root):∀t,t∈(G k).inp->Der W K t:=by
 intro t ht;have hN:=hE.big;have htp:=hE.top k hk;rcases(hE.inp_mem hk).1 ht with⟨h0,rfl⟩|⟨p,hp,rfl⟩|⟨p,hp,rfl⟩
 ·exact hr h0
 ·have hb:=hE.pr k hk p hp;obtain⟨k1,k2⟩:=hS.pub k hk p hp;have hok:Ok (dT p.1 p.2):=vc (by omega) (by omega);rcases ho.2 with hd|hd
  ·exact .way (l := [bL (aT p.1), bL (aT p.2)]) hok (by simp [dT, two, cw, hd]) λu hu => by
    simp only[zx,zI,or_false]at hu;rcases hu with rfl|rfl
    ·exact .kn k1
    ·exact .kn k2
  ·rcases hd p hp with hd|hd
   ·exact .way (l := [aT p.1, bL (aT p.2)]) hok (by simp [dT, two, cw]) λu hu => by
     simp only[zx,zI,or_false]at hu;rcases hu with rfl|rfl
     ·exact .kn (hS.rev _ hd)
     ·exact .kn k2
   ·exact .way (l := [aT p.2, bL (aT p.1)]) hok (by simp [dT, two, cw]) λu hu => by
     simp only[zx,zI,or_false]at hu;rcases hu with rfl|rfl
     ·exact .kn (hS.rev _ hd)
     ·exact .kn k1
 ·have hb:=hE.kmb k hk p hp;have hok:Ok (kT p.1 p.2):=uU (by omega) (by omega);exact .way (l:=[ctT p.1 p.2]) hok (by simp [kT,two,cw,ho.1 p hp,ctT]) λu hu=>by obtain rfl:=zt.1 hu;exact .kn (hS.ct k hk p hp)
theorem sy (hE:Eps G n N) (hS:Seen G n N rv S K) {k:Nat} (hk:k<n) (h:∀t,t∈(G k).inp->Der W K t):Der W K (G k).root:=pB (hE.ok k hk).2 λt ht=>by
 rcases zr.1 ht with ht|ht
 ·exact h t ht
 ·obtain rfl:=zt.1 ht;refine .kn (hS.con _ ?_);rw[hE.c k hk];split<;>omega
theorem sx (hE:Eps G n N) (hS:Seen G n N rv S K):∀k,k<n->whO W rv G k->∀t,t∈(G k).inp->Der W K t
 |0,hk,h=>pA hE hS hk h λh0=>absurd h0 (by omega)
 |k+1,hk,h=>pA hE hS hk h.1 λ_=>by
  rcases h.2 with h2|h2
  ·exact .kn (hS.rt k (by omega) h2)
  ·exact sy hE hS (by omega) (sx hE hS k (by omega) h2)
theorem oA (hE:Eps G n N) (hS:Seen G n N rv S K) {k w:Nat} (hk:k<n) (hw:w<2) {q:Nat} (h:Der W K (chn (G k) w q)):∀d,Der W K (chn (G k) w (q+d))
 |0=>h
 |d+1=>pB (hE.ch_ok hk hw (q+d+1)) λt ht=>by
  simp only[zx,zI,or_false]at ht;rcases ht with rfl|rfl
  ·exact oA hE hS hk hw h d
  ·exact .kn (hS.con 1 (by omega))
theorem om (hE:Eps G n N) (hS:Seen G n N rv S K) {k w i:Nat} (hk:k<n) (hw:w<2) (h:nX W rv G k w i):Der W K (fB (G k) w i):=by
 have key:Der W K (chn (G k) w i)->Der W K (fB (G k) w i):=λh=>pB (hE.key_ok hk hw i) λt ht=>by
  simp only[zx,zI,or_false]at ht;rcases ht with rfl|rfl
  ·exact h
  ·exact .kn (hS.con 0 (by omega))
 refine key ?_;rcases h with⟨v,hv,hle⟩|h
 ·obtain⟨d,rfl⟩:∃d,i=v w+d:=⟨i-v w,by omega⟩;exact oA hE hS hk hw (.kn (hS.chs k hk w hw v hv)) d
 ·have h0 : Der W K (chn (G k) w 0) := pB (hE.ch_ok hk hw 0) λt ht => by
   simp only[zr,zx,zI,or_false]at ht;rcases ht with ht|rfl|rfl
   ·exact sx hE hS k hk h t ht
   ·exact .kn (hS.con 3 (by omega))
   ·exact .kn (hS.xp k hk w hw)
  have :=oA hE hS hk hw h0 i
  rwa [Aj]at this
theorem uo (hE:Eps G n N) (hS:Seen G n N rv S K) (hC:Cls G n rv S cl) {k w i x:Nat} (hk:k<n) (hw:w<2) (hx:(k,w,i,x)∈S) (hxN:x<N):(Der W K (fB (G k) w i)↔nX W rv G k w i)/\(Der W K (aT x)↔nX W rv G k w i):=by
 by_cases h:nX W rv G k w i
 ·have hd:=om (W:=W) hE hS hk hw h;exact⟨⟨λ_=>h,λ_=>hd⟩,⟨λ_=>h,λ_=> .dec (.kn (hS.enc k w i x hx)) hd⟩⟩
 ·obtain⟨h1,h2⟩:=closed hE hS hC hk hw hx hxN h;exact⟨⟨λh'=>absurd h' h1,λh'=>absurd h' h⟩,⟨λh'=>absurd h' h2,λh'=>absurd h' h⟩⟩
end
end Go.Mi.Term
