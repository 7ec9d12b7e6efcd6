/- Texts that belong together: L12, L13, L14, L15, L16. General lemmas and walks; no conditions. -/
import Derived.Test.YtoefhjabaanokaaDoorB4
import Derived.Test.YtoefhjabaanokaaDoorB2
set_option linter.unusedSimpArgs false
set_option linter.unusedVariables false
set_option linter.unnecessarySimpa false
namespace Go.Mi
open Go.RowKit
section
variable {σ:Type}
abbrev jd (σ:Type):=σ->World->σ->World->Prop
structure PX (T:jd σ)where
 P:σ->World->Value->Prop
 st:∀{g w g' w' v},P g w v->T g w g' w'->P g' w' v
inductive Sp (T:jd σ)where
 |eq (v:Value)
 |pr (p:PX T)
structure BX (X:jd σ)where
 P:σ->World->Prop
 st:∀{g w g' w'},P g w->X g w g' w'->P g' w'
structure kM (X T:jd σ):Prop where
 refl:∀g w,X g w g w
 sub:∀{g w g' w'},X g w g' w'->T g w g' w'
 trans:∀{g w g' w' g'' w''},T g w g' w'->T g' w' g'' w''->T g w g'' w''
 drew:∀g w,X g w g {w with drawn:=w.drawn+1}
variable {T X:jd σ} {g g':σ} {w w':World} {v:Value}
def Sp.hold:Sp T->σ->World->Value->Prop
 | .eq c,_,_,v=>v=c
 | .pr p,g,w,v=>p.P g w v
def Sp.val:Sp T->Value->Value
 | .eq c,_=>c
 | .pr _,v=>v
theorem Sp.mv {s:Sp T} (h:s.hold g w v) (k:T g w g' w'):s.hold g' w' v:=by
 cases s with
 |eq c=>exact h
 |pr p=>exact p.st h k
theorem Sp.val_eq {s:Sp T} (h:s.hold g w v):s.val v=v:=by
 cases s with
 |eq c=>exact h.symm
 |pr p=>rfl
abbrev TL (T:jd σ):=List (Nat×Sp T)
def lkS:TL T->Nat->Option (Sp T)
 |[],_=>none
 |(s,v)::r,t=>bif Nat.beq s t then some v else lkS r t
structure Fr (a:Act) (n:Nat) (L:TL T) (g:σ) (w:World):Prop where
 size:a.tmps.size=n
 defers:a.defers=[]
 get:∀t s,lkS L t=some s->s.hold g w (a.tmps.getD t undef)
def exL (L:TL T) (ξ:Nat->Value):List (Nat×Value):=L.map λp=>(p.1,p.2.val (ξ p.1))
def iK (L:TL T) (ξ:Nat->Value) (g:σ) (w:World):Prop:=∀t s,lkS L t=some s->s.hold g w (ξ t)
theorem md {L:TL T} {ξ:Nat->Value} {t:Nat}:lk (exL L ξ) t=(lkS L t).map λs=>s.val (ξ t):=by
 induction L with
 |nil=>rfl
 |cons p L ih=>
  obtain⟨s,u⟩:=p;simp only[exL,Ad,lk,lkS];by_cases e:s=t
  ·subst e;simp
  ·rw[el e];simpa[exL]using ih
variable {a:Act} {n:Nat} {L:TL T}
theorem Fr.frm (h:Fr a n L g w):Frm a n (exL L λt=>a.tmps.getD t undef):=by refine⟨h.size,h.defers,λt v hv=> ?_⟩;rw[md]at hv;obtain⟨s,h1,rfl⟩:=zq.1 hv;exact(Sp.val_eq (h.get t s h1)).symm
theorem Fr.mv (h:Fr a n L g w) (k:T g w g' w'):Fr a n L g' w':=⟨h.size,h.defers,λt s hs=>Sp.mv (h.get t s hs) k⟩
def psh (d:Option Nat) (s:Sp T) (L:TL T):TL T:=match d with
 |some d=>(d,s)::L
 |none=>L
theorem Fr.put (h:Fr a n L g w) {d:Nat} (hd:d<n) {s:Sp T} (hv:s.hold g w v):Fr (a.put (some d) v) n ((d,s)::L) g w:=by
 refine⟨by simp [Act.put,h.size],by simpa[Act.put]using h.defers,λt u hu=> ?_⟩;simp only[lkS]at hu;by_cases e:d=t
 ·subst e;simp at hu;subst hu;simpa[Act.put,h.size,hd]using hv
 ·rw[el e]at hu;have :=h.get t u hu;simp [Act.put,zJ e];simpa using this
def dq (L:TL T):List Nat->TL T
 |[]=>[]
 |t::ts=>match lkS L t with
  |some s=>(t,s)::dq L ts
  |none=>dq L ts
theorem gD:∀{ts:List Nat} {t:Nat} {s:Sp T},lkS (dq L ts) t=some s->t∈ts/\lkS L t=some s
 |[],t,s,h=>by simp [dq,lkS]at h
 |u::ts,t,s,h=>by
  simp only[dq]at h;cases hu:lkS L u with
  |none=>rw[hu]at h;obtain⟨h1,h2⟩:=gD h;exact⟨zN _ h1,h2⟩
  |some x=>
   rw[hu]at h;simp only[lkS]at h;by_cases e:u=t
   ·subst e;simp at h;subst h;exact⟨zS ..,hu⟩
   ·rw[el e]at h;obtain⟨h1,h2⟩:=gD h;exact⟨zN _ h1,h2⟩
theorem Fr.pick (h:Fr a n L g w) (ts:List Nat):Fr a n (dq L ts) g w:=⟨h.size,h.defers,λt s hs=>h.get t s (gD hs).2⟩
def spO (L:TL T):Operand->Option (Sp T)
 | .tmp t=>lkS L t
 | .const v=>some (.eq v)
 | .global k=>some (.eq (.pointer (some ⟨k,0,none⟩)))
 | .func f=>some (.eq (.func (.func f) #[] #[]))
theorem bH {x:Operand} {s:Sp T} {ξ:Nat->Value} (h:spO L x=some s) (hH:iK L ξ g w):∃v,ev (exL L ξ) x=some v/\s.hold g w v:=by
 cases x with
 |tmp t=>
  have h1:lkS L t=some s:=h;have h2:=hH t s h1;exact⟨ξ t,by simp only[ev];rw[md,h1];simp [Sp.val_eq h2],h2⟩
 |const u=>simp only[spO,Option.some.injEq]at h;subst h;exact⟨u,rfl,rfl⟩
 |global k=>simp only[spO,Option.some.injEq]at h;subst h;exact⟨_,rfl,rfl⟩
 |func f=>simp only[spO,Option.some.injEq]at h;subst h;exact⟨_,rfl,rfl⟩
theorem bF {x:Operand} {c:Value} {ξ:Nat->Value} (h:spO L x=some (.eq c)):ev (exL L ξ) x=some c:=by
 cases x with
 |tmp t=>have h1:lkS L t=some (.eq c):=h;simp only[ev];rw[md,h1];rfl
 |const u=>simp only[spO,Option.some.injEq,Sp.eq.injEq]at h;subst h;rfl
 |global k=>simp only[spO,Option.some.injEq,Sp.eq.injEq]at h;subst h;rfl
 |func f=>simp only[spO,Option.some.injEq,Sp.eq.injEq]at h;subst h;rfl
def ut (P:Program) (t f:Nat):Option Nat:=match P.underlying t with
 |some (.struct fs)=>(match fs[f]? with
  |some fd=>(match(P.info? fd.type).map (·.size)with
   |some (_+1)=>some fd.offset
   |_=>none)
  |none=>none)
 |_=>none
def yB (P:Program) (t:Nat) (i:Int):Option Nat:=match P.underlying t with
 |some (.array len e)=>(match(P.info? e).map (·.size)with
  |some (m+1)=>(match i with
   | .ofNat j=>bif Nat.blt j len then some (j*(m+1))else none
   |_=>none)
  |_=>none)
 |_=>none
def fo:BinOp->Int->Int->Option Bool
 | .lss,p,q=>some (decide (p<q))
 | .leq,p,q=>some (decide (p<=q))
 | .gtr,p,q=>some (decide (q<p))
 | .geq,p,q=>some (decide (q<=p))
 | .eql,p,q=>some (decide (p=q))
 | .neq,p,q=>some (!decide (p=q))
 |_,_,_=>none
def eqK (k k':IntKind):Bool:=decide (k=k')
def eS (P:Program) (L:TL T):Op->Option (Sp T)
 | .move x=>spO L x
 | .assign x=>spO L x
 | .pick c x y=>(match spO L c with
  |some (.eq (.bool b))=>bif b then spO L x else spO L y
  |_=>none)
 | .nilCheck x=>(match spO L x with
  |some (.eq (.pointer (some ad)))=>some (.eq (.pointer (some ad)))
  |_=>none)
 | .fieldAddr t x f=>(match spO L x with
  |some (.eq (.pointer (some ⟨b,o,none⟩)))=>(ut P t f).map λd=> .eq (.pointer (some ⟨b,o+d,none⟩))
  |_=>none)
 | .indexAddr t x y=>(match spO L x with
  |some (.eq (.pointer (some ⟨b,o,none⟩)))=>(match spO L y with
   |some (.eq (.int _ i))=>(yB P t i).map λd=> .eq (.pointer (some ⟨b,o+d,none⟩))
   |_=>none)
  |_=>none)
 | .binOp op _ x y _=>(match spO L x with
  |some (.eq (.int k p))=>(match spO L y with
   |some (.eq (.int k' q))=>bif eqK k k' then(fo op p q).map λb=> .eq (.bool b)else none
   |_=>none)
  |_=>none)
 | .unOp .not _ x=>(match spO L x with
  |some (.eq (.bool b))=>some (.eq (.bool !b))
  |_=>none)
 | .extract x i=>(match spO L x with
  |some (.eq (.tuple vs))=>(vs[i]?).map .eq
  |_=>none)
 |_=>none
theorem iH {P : Program} {L : List (Nat × Value)} {ds : Option Tmp} {ty : TypeId} {pos : String} {af : Array Edge} {gu : Option (Nat × Bool)} {x y : Operand} {k : IntKind} {T e : TypeId} {len b o m j : Nat} (hT : P.underlying T = some (.array len e)) (hs : (P.info? e).map (·.size) = some m) (hx : ev L x = some (.pointer (some ⟨b, o, none⟩))) (hy : ev L y = some (.int k (.ofNat j)))
  (h1:j<len):Det P ⟨ds,.indexAddr T x y,ty,pos,af,gu⟩ n L w (.pointer (some ⟨b,o+j*m,none⟩)) w:=
 Det.of_run λa hF=>by
  obtain⟨inf,hi,hz⟩:=zq.1 hs;have h2:(0:Int)<=Int.ofNat j:=by simp
  have h3:(Int.ofNat j)<(len:Int):=by simpa using h1
  simp [execOp,hF.eval hx,hF.eval hy,Instr.indexAt,asIntOf,bQ hT,Instr.sureAddr,h1,sizeOf,typeInfo,hi,hz,dz]
theorem u6 {P:Program} {op:Op} {s:Sp T} {ξ:Nat->Value} {ds:Option Tmp} {ty:TypeId} {pos:String} {af:Array Edge} {gu:Option (Nat×Bool)} (h:eS P L op=some s) (hH:iK L ξ g w):∃v,s.hold g w v/\Det P ⟨ds,op,ty,pos,af,gu⟩ n (exL L ξ) w v w:=by
 unfold eS at h;split at h
 ·obtain⟨v,h1,h2⟩:=bH h hH;exact⟨v,h2,bD h1⟩
 ·obtain⟨v,h1,h2⟩:=bH h hH;exact⟨v,h2,bz h1⟩
 ·split at h
  ·rename_i b hc;have f:=bF (ξ:=ξ) hc;cases b with
   |true=>obtain⟨v,h1,h2⟩:=bH h hH;exact⟨v,h2,cQ f h1⟩
   |false=>obtain⟨v,h1,h2⟩:=bH h hH;exact⟨v,h2,cQ f h1⟩
  ·cases h
 ·split at h
  ·rename_i ad hx;cases h;exact⟨_,rfl,Term.d_nil (bF hx)⟩
  ·cases h
 ·split at h
  ·rename_i b o hx;obtain⟨d,h1,rfl⟩:=zq.1 h;unfold ut at h1;split at h1
   ·rename_i fs hu;split at h1
    ·rename_i fd hf;split at h1
     ·rename_i m hm;cases h1;exact⟨_,rfl,gG hu hf hm (bF hx)⟩
     ·cases h1
    ·cases h1
   ·cases h1
  ·cases h
 ·split at h
  ·rename_i b o hx;split at h
   ·rename_i k i hy;obtain⟨d,h1,rfl⟩:=zq.1 h;unfold yB at h1;split at h1
    ·rename_i len e hu;split at h1
     ·rename_i m hm;split at h1
      ·rename_i j;cases hj:Nat.blt j len with
       |false=>rw[hj]at h1;cases h1
       |true=>
        rw[hj]at h1;cases h1;exact⟨_,rfl,iH hu hm (bF hx) (bF hy) (by simpa[Nat.blt_eq]using hj)⟩
      ·cases h1
     ·cases h1
    ·cases h1
   ·cases h
  ·cases h
 ·split at h
  ·rename_i k p hx;split at h
   ·rename_i k' q hy;cases hk:eqK k k' with
    |false=>rw[hk]at h;cases h
    |true=>
     rw[hk]at h;obtain rfl:=zB hk;have a:=bF (ξ:=ξ) hx;have c:=bF (ξ:=ξ) hy;obtain⟨b,h1,rfl⟩:=zq.1 h;unfold fo at h1;split at h1<;>cases h1
     ·exact⟨_,rfl,eH a c⟩
     ·exact⟨_,rfl,u_ a c⟩
     ·exact⟨_,rfl,jr a c⟩
     ·exact⟨_,rfl,lu a c⟩
     ·exact⟨_,rfl,dQ a c⟩
     ·exact⟨_,rfl,yr a c⟩
   ·cases h
  ·cases h
 ·split at h
  ·rename_i b hx;cases h;exact⟨_,rfl,nC (bF hx)⟩
  ·cases h
 ·split at h
  ·rename_i vs hx;obtain⟨v,h1,rfl⟩:=zq.1 h;exact⟨v,rfl,qx (bF hx) h1⟩
  ·cases h
 ·cases h
end
end Go.Mi
namespace Go.Mi
open Go.RowKit
section
variable {σ:Type} {T X:jd σ}
structure Ef (T:jd σ)where
 i:Nat
 L:TL T
 s:Sp T
 ph:List Nat
 m:Bool
def rdO (ops:List Oper) (o:Oper):List Nat:=
 (match o.guard with
  |some (j,_)=>((ops[j]?).bind (·.dst)).toList
  |none=>[])++o.op.operands.toList.filterMap λx=>match x with
  | .tmp t=>some t
  |_=>none
def gW (ops:List Oper) (L:TL T) (o:Oper):Option Bool:=match o.guard with
 |none=>some true
 |some (j,b)=>(match((ops[j]?).bind (·.dst)).bind (lkS L)with
  |some (.eq v)=>some (vb v==some b)
  |_=>none)
def dm (P:Program) (ops:List Oper):Nat->List Oper->TL T->List (Ef T)->Option (List (Sp T)×List (TL T)×TL T)
 |_,[],L,[]=>some ([],[],L)
 |_,[],_,_::_=>none
 |i,o::os,L,E=>match gW ops L o with
  |none=>none
  |some false=>(dm P ops (i+1) os (psh o.dst (.eq undef) L) E).map λr=>(.eq undef::r.1,r.2)
  |some true=>match E with
   |[]=>(match eS P (dq L (rdO ops o)) o.op with
    |some s=>(dm P ops (i+1) os (psh o.dst s L) []).map λr=>(s::r.1,r.2)
    |none=>none)
   |e::E'=>bif Nat.beq e.i i then(dm P ops (i+1) os (psh o.dst e.s L) E').map λr=>(e.s::r.1,dq L (rdO ops o)::r.2.1,r.2.2)
    else(match eS P (dq L (rdO ops o)) o.op with
     |some s=>(dm P ops (i+1) os (psh o.dst s L) (e::E')).map λr=>(s::r.1,r.2)
     |none=>none)
def EOb (P:Program) (n:Nat) (ops:List Oper) (X:jd σ) (B:Nat->BX X) (e:Ef T) (p:Nat):Prop:=
 ∀ξ g w,(B p).P g w->iK e.L ξ g w->Ok1 P (ops.getD e.i default) n (exL e.L ξ) w λv w'=>∃g',(bif e.m then T g w g' w'/\(B (p+1)).P g' w' else X g w g' w')/\e.s.hold g' w' v
def w6 (f:Nat->Prop):List Nat->Prop
 |[]=>True
 |p::ps=>f p/\w6 f ps
theorem nO {f:Nat->Prop}:∀{ps:List Nat},w6 f ps->∀p,p∈ps->f p
 |_::_,h,p,hp=>by
  rcases zx.1 hp with rfl|hp
  ·exact h.1
  ·exact nO h.2 p hp
def EObs (P:Program) (n:Nat) (ops:List Oper) (X:jd σ) (B:Nat->BX X):List (Ef T)->Prop
 |[]=>True
 |e::r=>w6 (EOb P n ops X B e) e.ph/\EObs P n ops X B r
theorem EObs.mem {P:Program} {n:Nat} {ops:List Oper} {B:Nat->BX X}:∀{E:List (Ef T)},EObs P n ops X B E->∀e,e∈E->∀p,p∈e.ph->EOb P n ops X B e p
 |_::_,h,e,he,p,hp=>by
  rcases zx.1 he with rfl|he
  ·exact nO h.1 p hp
  ·exact EObs.mem h.2 e he p hp
def sZ (P:Program) (ops:List Oper) (E:List (Ef T)) (i:Nat) (o:Oper) (L:TL T) (s:Sp T):Prop:=
 (gW ops L o=some false/\s= .eq undef/\∀e,e∈E->e.i≠i)\/(gW ops L o=some true/\((∃e,e∈E/\e.i=i/\s=e.s/\e.L=dq L (rdO ops o))\/(eS P (dq L (rdO ops o)) o.op=some s/\∀e,e∈E->e.i≠i)))
def gU:List Oper->List (Sp T)->TL T->TL T
 |o::os,s::ss,L=>gU os ss (psh o.dst s L)
 |_,_,L=>L
theorem qf {P:Program} {ops:List Oper}:∀{os:List Oper} {i:Nat} {L:TL T} {E:List (Ef T)} {ss:List (Sp T)} {fs:List (TL T)} {L':TL T},dm P ops i os L E=some (ss,fs,L')->ss.length=os.length/\L'=gU os ss L:=by
 intro os
 induction os with
 |nil=>
  intro i L E ss fs L' h;cases E with
  |nil=>simp only[dm,Option.some.injEq,Prod.mk.injEq]at h;obtain⟨rfl,_,rfl⟩:=h;exact⟨rfl,rfl⟩
  |cons e E=>simp [dm]at h
 |cons o os ih=>
  intro i L E ss fs L' h;have a:∀{s:Sp T} {E':List (Ef T)} {f:List (Sp T)×List (TL T)×TL T->List (TL T)},(dm P ops (i+1) os (psh o.dst s L) E').map (λr=>(s::r.1,f r,r.2.2))=some (ss,fs,L')->ss.length=(o::os).length/\L'=gU (o::os) ss L:=by intro s E' f h;obtain⟨⟨s1,f1,l1⟩,h1,h2⟩:=zq.1 h;simp only[Prod.mk.injEq]at h2;obtain⟨rfl,_,rfl⟩:=h2;obtain⟨k1,k2⟩:=ih h1;exact⟨by simp [k1],by simp only[gU];exact k2⟩
  cases hg:gW ops L o with
  |none=>simp [dm,hg]at h
  |some b=>
   cases b with
   |false=>simp only[dm,hg]at h;exact a (f:=λr=>r.2.1) h
   |true=>
    cases E with
    |nil=>
     simp only[dm,hg]at h;cases he:eS P (dq L (rdO ops o)) o.op with
     |none=>rw[he]at h;cases h
     |some s=>rw[he]at h;exact a (f:=λr=>r.2.1) h
    |cons e E=>
     simp only[dm,hg]at h;cases hi:Nat.beq e.i i with
     |true=>rw[hi]at h;exact a (f:=λr=>dq L (rdO ops o)::r.2.1) h
     |false=>
      rw[hi]at h;simp only[cond_false]at h;cases he:eS P (dq L (rdO ops o)) o.op with
      |none=>rw[he]at h;cases h
      |some s=>rw[he]at h;exact a (f:=λr=>r.2.1) h
def Risen:Nat->List (Ef T)->Prop
 |_,[]=>True
 |i,e::E=>i<=e.i/\Risen (e.i+1) E
theorem Risen.le {E:List (Ef T)}:∀{i:Nat},Risen i E->∀e,e∈E->i<=e.i:=by
 induction E with
 |nil=>intro i _ e he;simp at he
 |cons x E ih=>
  intro i h e he;rcases zx.1 he with rfl|he
  ·exact h.1
  ·have :=ih h.2 e he;have :=h.1;omega
theorem fH {P:Program} {ops:List Oper}:∀{os:List Oper} {i:Nat} {L:TL T} {E:List (Ef T)} {r:List (Sp T)×List (TL T)×TL T},dm P ops i os L E=some r->Risen i E:=by
 intro os
 induction os with
 |nil=>
  intro i L E r h;cases E with
  |nil=>trivial
  |cons e E=>simp [dm]at h
 |cons o os ih=>
  intro i L E r h;have up:∀{E:List (Ef T)},Risen (i+1) E->Risen i E:=λ{E} h=>by
   cases E with
   |nil=>trivial
   |cons e E=>exact⟨by have :=h.1;omega,h.2⟩
  cases hg:gW ops L o with
  |none=>simp [dm,hg]at h
  |some b=>
   cases b with
   |false=>simp only[dm,hg]at h;obtain⟨r1,h1,_⟩:=zq.1 h;exact up (ih h1)
   |true=>
    cases E with
    |nil=>trivial
    |cons e E=>
     simp only[dm,hg]at h;cases hi:Nat.beq e.i i with
     |true=>
      rw[hi]at h;obtain⟨r1,h1,_⟩:=zq.1 h;have :=Am hi;subst this;exact⟨zH _,ih h1⟩
     |false=>
      rw[hi]at h;simp only[cond_false]at h;cases he:eS P (dq L (rdO ops o)) o.op with
      |none=>rw[he]at h;cases h
      |some s=>rw[he]at h;obtain⟨r1,h1,_⟩:=zq.1 h;exact up (ih h1)
theorem rD {P : Program} {ops : List Oper} : ∀ {os : List Oper} {i : Nat} {L : TL T} {E : List (Ef T)} {ss : List (Sp T)} {L' : TL T}, dm P ops i os L E = some (ss, E.map (·.L), L') ->
  ∀(j:Nat) (o:Oper),os[j]? =some o->∃s,ss[j]? =some s/\sZ P ops E (i+j) o (gU (os.take j) (ss.take j) L) s:=by
 intro os
 induction os with
 |nil=>intro i L E ss L' _ j o hj;simp at hj
 |cons o os ih=>
  intro i L E ss L' h j o' hj;have hr:=fH h;have c:∀{s:Sp T} {E':List (Ef T)} {s1:List (Sp T)},ss=s::s1->dm P ops (i+1) os (psh o.dst s L) E'=some (s1,E'.map (·.L),L')->sZ P ops E i o L s->(∀e,e∈E'->e∈E)->(∀e,e∈E->e∉E'->e.i=i)->∃s,ss[j]? =some s/\sZ P ops E (i+j) o' (gU ((o::os).take j) (ss.take j) L) s:=by
   intro s E' s1 m h1 hc hE l;subst m;cases j with
   |zero=>simp at hj;subst hj;exact⟨s,by simp,by simpa[gU]using hc⟩
   |succ j=>
    obtain⟨s2,h2,h3⟩:=ih h1 j o' (by simpa using hj);refine⟨s2,by simpa using h2,?_⟩;rw[show i+(j+1)=i+1+j by omega];simp only[AV,gU];have f:∀e,e∈E->(∀e',e'∈E'->e'.i≠i+1+j)->e.i≠i+1+j:=λe he g=>by
     by_cases hm:e∈E'
     ·exact g e hm
     ·rw[l e he hm];omega
    rcases h3 with⟨k1,k2,k3⟩|⟨k1,⟨e,k2,k3,k4,k5⟩|⟨k2,k3⟩⟩
    ·exact .inl ⟨k1,k2,λe he=>f e he k3⟩
    ·exact .inr ⟨k1,.inl ⟨e,hE e k2,k3,k4,k5⟩⟩
    ·exact .inr ⟨k1,.inr ⟨k2,λe he=>f e he k3⟩⟩
  cases hg:gW ops L o with
  |none=>simp [dm,hg]at h
  |some b=>
   cases b with
   |false=>
    simp only[dm,hg]at h;obtain⟨⟨s1,f1,l1⟩,h1,h2⟩:=zq.1 h;simp only[Prod.mk.injEq]at h2;obtain⟨h3,rfl,rfl⟩:=h2;have d:=fH h1;exact c h3.symm h1 (.inl ⟨hg,rfl,λe he=>by have :=d.le e he;omega⟩) (λe he=>he) (λe he hn=>absurd he hn)
   |true=>
    cases E with
    |nil=>
     simp only[dm,hg]at h;cases he:eS P (dq L (rdO ops o)) o.op with
     |none=>rw[he]at h;cases h
     |some s=>
      rw[he]at h;obtain⟨⟨s1,f1,l1⟩,h1,h2⟩:=zq.1 h;simp only[Prod.mk.injEq]at h2;obtain⟨h3,rfl,rfl⟩:=h2;exact c h3.symm h1 (.inr ⟨hg,.inr ⟨he,by simp⟩⟩) (λe he=>he) (λe he hn=>absurd he hn)
    |cons e E=>
     simp only[dm,hg]at h;cases hi:Nat.beq e.i i with
     |true=>
      rw[hi]at h;obtain⟨⟨s1,f1,l1⟩,h1,h2⟩:=zq.1 h;simp only[Prod.mk.injEq,Ad,List.cons.injEq]at h2;obtain⟨h3,⟨h4,rfl⟩,rfl⟩:=h2;have k:=Am hi;exact c h3.symm h1 (.inr ⟨hg,.inl ⟨e,by simp,k,rfl,h4.symm⟩⟩) (λe' a=>zN _ a) (λe' a hn=>by
       rcases zx.1 a with rfl|a
       ·exact k
       ·exact absurd a hn)
     |false=>
      rw[hi]at h;simp only[cond_false]at h;cases he:eS P (dq L (rdO ops o)) o.op with
      |none=>rw[he]at h;cases h
      |some s=>
       rw[he]at h;obtain⟨⟨s1,f1,l1⟩,h1,h2⟩:=zq.1 h;simp only[Prod.mk.injEq]at h2;obtain⟨h3,rfl,rfl⟩:=h2;have d:=fH h1;exact c h3.symm h1 (.inr ⟨hg,.inr ⟨he,λe' a=>by have :=d.le e' a;omega⟩⟩) (λe he=>he) (λe he hn=>absurd he hn)
end
end Go.Mi
namespace Go.Mi
open Go.RowKit
section
variable {σ:Type} {T X:jd σ} {P:Program} {n:Nat} {ops:List Oper} {B:Nat->BX X} {g g':σ} {w w':World} {v:Value} {a:Act} {L:TL T}
theorem Fr.yields (h:Fr a n L g w) {j d:Nat} {u:Value} (h1:(ops[j]?).bind (·.dst)=some d) (h2:lkS L d=some (.eq u)):yielded ops.toArray a.tmps j=vb u:=by
 have h3:a.tmps.getD d undef=u:=h.get d _ h2;unfold yielded;rw[show(ops.toArray[j]?).bind (·.dst)=some d by simpa using h1];simp only[AF];cases h4:a.tmps[d]? with
 |none=>
  simp [h4]at h3;subst h3;rfl
 |some x=>
  simp [h4]at h3;subst h3;cases x<;>rfl
theorem Fr.wanted (h:Fr a n L g w) {o:Oper} {c:Bool} (hg:gW ops L o=some c):Region.wanted o (yielded ops.toArray a.tmps)=c:=by
 unfold gW at hg;unfold Region.wanted;split at hg
 ·rename_i hn;cases hg;rw[hn]
 ·rename_i j b hn;rw[hn];split at hg
  ·rename_i u hb;cases hg;obtain⟨d,h1,h2⟩:=As.1 hb;simp only;rw[h.yields h1 h2]
  ·cases hg
theorem Fr.put' (h:Fr a n L g w) {d:Option Nat} (hd:∀k,d=some k->k<n) {s:Sp T} (hv:s.hold g w v):Fr (a.put d v) n (psh d s L) g w:=by
 cases d with
 |none=>exact h
 |some k=>exact h.put (hd k rfl) hv
theorem mn (R : kM X T) {E : List (Ef T)} (hobs : ∀ e, e ∈ E -> ∀ p, p ∈ e.ph -> EOb P n ops X B e p) {i p : Nat} {o : Oper} {s : Sp T} {m : Bool} {ξ : Nat -> Value} (ho : ops[i]? = some o) (hB : (B p).P g w) (hH : iK (dq L (rdO ops o)) ξ g w)
  (h:(∃e,e∈E/\e.i=i/\s=e.s/\e.L=dq L (rdO ops o)/\p∈e.ph/\e.m=m)\/(eS P (dq L (rdO ops o)) o.op=some s/\m=false)):
  Ok1 P o n (exL (dq L (rdO ops o)) ξ) w λv w'=>∃g',T g w g' w'/\(B (bif m then p+1 else p)).P g' w'/\s.hold g' w' v:=by
 rcases h with⟨e,h1,h2,rfl,h4,h5,h6⟩|⟨h1,rfl⟩
 ·have hob:=hobs e h1 p h5 ξ g w hB (by rw[h4];exact hH);subst h6;rw[h4,h2,zG,ho]at hob;refine Ok1.mono hob λv w' ⟨g',k1,k2⟩=> ?_;cases hm:e.m with
  |true=>rw[hm]at k1;exact⟨g',k1.1,k1.2,k2⟩
  |false=>rw[hm]at k1;exact⟨g',R.sub k1,(B p).st hB k1,k2⟩
 ·obtain⟨d,op,ty,pos,af,gu⟩:=o;obtain⟨v,k1,k2⟩:=u6 (n:=n) (ds:=d) (ty:=ty) (pos:=pos) (af:=af) (gu:=gu) h1 hH;exact k2.mono λv' w' ⟨e1,e2⟩=>by subst e1;subst e2;exact⟨g,R.sub (R.refl g _),hB,k1⟩
def ga (n:Nat) (os:List Oper):Bool:=os.all λo=>match o.dst with
 |some d=>Nat.blt d n
 |none=>true
theorem pX {os:List Oper} (h:ga n os=true) {o:Oper} (ho:o∈os):∀k,o.dst=some k->k<n:=λk hk=>by have :=AL.1 h o ho;rw[hk]at this;simpa[Nat.blt_eq]using this
def phL:Nat->List (Ef T)->Bool
 |_,[]=>true
 |p,e::E=>cv p e.ph&&phL (bif e.m then p+1 else p) E
def jm:Nat->List (Ef T)->Nat
 |p,[]=>p
 |p,e::E=>jm (bif e.m then p+1 else p) E
theorem r5 (R : kM X T) {Q : Exit -> Act -> World -> Prop} {L' : TL T} {g0 : σ} {w0 : World} {pe : Nat} (hend : ∀ a g w, T g0 w0 g w -> (B pe).P g w -> Fr a n L' g w -> Q .normal a w) :
  ∀(os:List Oper) (i:Nat) (L:TL T) (E:List (Ef T)) (ss:List (Sp T)) (a:Act) (g:σ) (w:World) (p:Nat),(∀(j:Nat) o,os[j]? =some o->ops[i+j]? =some o)->ga n os=true->dm P ops i os L E=some (ss,E.map (·.L),L')->(∀e,e∈E->∀p,p∈e.ph->EOb P n ops X B e p)->
   phL p E=true->jm p E=pe->T g0 w0 g w->(B p).P g w->Fr a n L g w->wpList P ops.toArray Q os a w:=by
 intro os
 induction os with
 |nil=>
  intro i L E ss a g w p _ _ h _ _ he hT hB hF;cases E with
  |nil=>
   simp only[dm,Option.some.injEq,Prod.mk.injEq]at h;obtain⟨_,_,rfl⟩:=h;subst he;exact hend a g w hT hB hF
  |cons e E=>simp [dm]at h
 |cons o os ih=>
  intro i L E ss a g w p l r h k c he hT hB hF;have ho:ops[i]? =some o:=by have :=l 0 o rfl;simpa using this
  have d:∀(j:Nat) o',os[j]? =some o'->ops[i+1+j]? =some o':=λj o' hj=>by
   have :=l (j+1) o' (by simpa using hj)
   rwa [show i+(j+1)=i+1+j by omega]at this
  have q:ga n os=true:=by simp only[ga,List.all_cons,zD]at r⊢;exact r.2
  have hd:=pX r (o:=o) (zS ..);have f : ∀ {s : Sp T} {E' : List (Ef T)} {s1 : List (Sp T)} {m : Bool}, dm P ops (i + 1) os (psh o.dst s L) E' = some (s1, E'.map (·.L), L') -> (∀ e, e ∈ E' -> e ∈ E) -> phL (bif m then p + 1 else p) E' = true -> jm (bif m then p + 1 else p) E' = pe -> gW ops L o = some true ->
    ((∃e,e∈E/\e.i=i/\s=e.s/\e.L=dq L (rdO ops o)/\p∈e.ph/\e.m=m)\/(eS P (dq L (rdO ops o)) o.op=some s/\m=false))->wpList P ops.toArray Q (o::os) a w:=by
   intro s E' s1 m h1 hE y u hg hc;have t:=hF.pick (rdO ops o);unfold wpList;rw[zX (hF.wanted hg)];refine .inl (mn R k ho hB t.get hc a _ Q t.frm ?_);rintro v w' ⟨g',k1,k2,k3⟩;exact ih (i+1) _ E' s1 _ g' w' _ d q h1 (λe he=>k e (hE e he)) y u (R.trans hT k1) k2 ((hF.mv k1).put' hd k3)
  cases hg:gW ops L o with
  |none=>simp [dm,hg]at h
  |some b=>
   cases b with
   |false=>
    simp only[dm,hg]at h;obtain⟨⟨s1,f1,l1⟩,h1,h2⟩:=zq.1 h;simp only[Prod.mk.injEq]at h2;obtain⟨_,rfl,rfl⟩:=h2;unfold wpList;rw[zK (by rw[hF.wanted hg];decide)];exact ih (i+1) _ E s1 _ g w p d q h1 k c he hT hB (hF.put' hd rfl)
   |true=>
    cases E with
    |nil=>
     simp only[dm,hg]at h;cases hev:eS P (dq L (rdO ops o)) o.op with
     |none=>rw[hev]at h;cases h
     |some s=>
      rw[hev]at h;obtain⟨⟨s1,f1,l1⟩,h1,h2⟩:=zq.1 h;simp only[Prod.mk.injEq]at h2;obtain⟨_,rfl,rfl⟩:=h2;exact f (m:=false) h1 (λe he=>he) c he hg (.inr ⟨hev,rfl⟩)
    |cons e E=>
     simp only[dm,hg]at h;cases hi:Nat.beq e.i i with
     |true=>
      rw[hi]at h;obtain⟨⟨s1,f1,l1⟩,h1,h2⟩:=zq.1 h;simp only[Prod.mk.injEq,Ad,List.cons.injEq]at h2;obtain⟨_,⟨h4,rfl⟩,rfl⟩:=h2;simp only[phL,zD]at c;exact f (m:=e.m) h1 (λe' x=>zN _ x) c.2 he hg (.inl ⟨e,by simp,Am hi,rfl,h4.symm,memN_iff.1 c.1,rfl⟩)
     |false=>
      rw[hi]at h;simp only[cond_false]at h;cases hev:eS P (dq L (rdO ops o)) o.op with
      |none=>rw[hev]at h;cases h
      |some s=>
       rw[hev]at h;obtain⟨⟨s1,f1,l1⟩,h1,h2⟩:=zq.1 h;simp only[Prod.mk.injEq]at h2;obtain⟨_,rfl,rfl⟩:=h2;exact f (m:=false) h1 (λe he=>he) c he hg (.inr ⟨hev,rfl⟩)
def kH (P:Program) (ops:List Oper) (L0:TL T) (E:List (Ef T)) (keep:List Nat):Option (List (TL T)×TL T):=(dm P ops 0 ops L0 E).map λr=>(r.2.1,dq r.2.2 keep)
theorem pG {L0:TL T} {E:List (Ef T)} {keep:List Nat} {Lo:TL T} (h:kH P ops L0 E keep=some (E.map (·.L),Lo)):∃ss L',dm P ops 0 ops L0 E=some (ss,E.map (·.L),L')/\Lo=dq L' keep:=by obtain⟨⟨ss,fs,L'⟩,h1,h2⟩:=zq.1 h;simp only[Prod.mk.injEq]at h2;obtain⟨rfl,rfl⟩:=h2;exact⟨ss,L',h1,rfl⟩
theorem n3 (R : kM X T) {Q : Exit -> Act -> World -> Prop} {L0 : TL T} (E : List (Ef T)) (B : Nat -> BX X) (pe : Nat) {keep : List Nat} {Lo : TL T} {id : Nat} (hpl : kH P ops L0 E keep = some (E.map (·.L), Lo)) (hck : (ga n ops && phL 0 E && Nat.beq (jm 0 E) pe) = true)
  (hobs:EObs P n ops X B E) (hB:(B 0).P g w) (hF:Fr a n L0 g w) (hend:∀a g' w',T g w g' w'->(B pe).P g' w'->Fr a n Lo g' w'->Q .normal a w'):(Code.region id ops.toArray false).wp P Q a w:=by
 obtain⟨ss,L',h1,rfl⟩:=pG hpl;simp only[zD]at hck;refine wp_region_lit ?_;exact r5 R (λa g' w' k1 k2 k3=>hend a g' w' k1 k2 (k3.pick _)) ops 0 L0 E ss a g w 0 (λj o hj=>by rw[Aj];exact hj) hck.1.1 h1 (λe he p hp=>EObs.mem hobs e he p hp) hck.1.2 (Am hck.2) (R.sub (R.refl g w)) hB hF
end
end Go.Mi
namespace Go.Mi
open Go.RowKit
section
variable {σ:Type} {T X:jd σ}
def iF (ops:List Oper) (i t:Nat):Option Nat:=(List.range i).find? λj=>match ops[j]? with
 |some o=>o.dst==some t
 |none=>false
def ssT (E:List (Ef T)):List Nat:=(E.filter (·.m)).map (·.i)
def n1 (ops:List Oper) (E:List (Ef T)) (i:Nat) (o:Oper):Row Tt where
 us:=(rdO ops o).filterMap λt=>(iF ops i t).map λj=>(j,t)
 zs:=(rdO ops o).filterMap λt=>match iF ops i t with
  |none=>some (t,undef)
  |some _=>none
 ph:=match E.find? λe=>Nat.beq e.i i with
  |some e=>e.ph
  |none=>List.range ((ssT E).length+1)
 out:= .val undef
def ii (ops:List Oper) (E:List (Ef T)):List (Row Tt):=ops.zipIdx.map λq=>n1 ops E q.2 q.1
theorem qZ {ops:List Oper} {E:List (Ef T)} {i:Nat} {o:Oper} (h:ops[i]? =some o):(ii ops E)[i]? =some (n1 ops E i o):=by unfold ii;rw[Ai,List.getElem?_zipIdx,h];simp
theorem fm {L:TL T} {t:Nat}:∀{ts:List Nat},t∈ts->lkS (dq L ts) t=lkS L t
 |u::ts,h=>by
  simp only[dq];by_cases e:u=t
  ·subst e;cases hu:lkS L u with
   |some s=>simp [lkS]
   |none=>
    simp only;by_cases hm:u∈ts
    ·rw[fm hm,hu]
    ·cases hp:lkS (dq L ts) u with
     |none=>rfl
     |some s=>exact absurd (gD hp).1 hm
  ·have hm : t ∈ ts := by
    rcases zx.1 h with h|h
    ·exact absurd h.symm e
    ·exact h
   cases hu:lkS L u with
   |some s=>simp only[lkS];rw[el e];simpa using fm hm
   |none=>exact fm hm
theorem wD {d:Option Nat} {s:Sp T} {L:TL T} {t:Nat} {u:Sp T} (h:lkS (psh d s L) t=some u):(d=some t/\u=s)\/(d≠some t/\lkS L t=some u):=by
 cases d with
 |none=>exact .inr ⟨by simp,h⟩
 |some k=>
  simp only[psh,lkS]at h;by_cases e:k=t
  ·subst e;simp at h;exact .inl ⟨rfl,h.symm⟩
  ·rw[el e]at h;exact .inr ⟨by simpa using e,h⟩
theorem mg : ∀ {os : List Oper} {ss : List (Sp T)} {L : TL T} {t : Nat} {u : Sp T}, ss.length = os.length -> lkS (gU os ss L) t = some u ->
  (∃(j:Nat) (o:Oper),os[j]? =some o/\ss[j]? =some u/\o.dst=some t)\/((∀(j:Nat) (o:Oper),os[j]? =some o->o.dst≠some t)/\lkS L t=some u)
 |[],ss,L,t,u,hl,h=>by
  cases ss with
  |nil=>exact .inr ⟨by simp,by simpa[gU]using h⟩
  |cons s ss=>simp at hl
 |o::os,[],L,t,u,hl,h=>by simp at hl
 |o::os,s::ss,L,t,u,hl,h=>by
  simp only[gU]at h;rcases mg (by simpa using hl) h with⟨j,o',h1,h2,h3⟩|⟨h1,h2⟩
  ·exact .inl ⟨j+1,o',by simpa using h1,by simpa using h2,h3⟩
  ·rcases wD h2 with⟨h3,rfl⟩|⟨h3,h4⟩
   ·exact .inl ⟨0,o,rfl,rfl,h3⟩
   ·refine .inr ⟨λj o' hj=> ?_,h4⟩;cases j with
    |zero=>simp at hj;subst hj;exact h3
    |succ j=>exact h1 j o' (by simpa using hj)
theorem kD {ops:List Oper} {i t j:Nat} (h:iF ops i t=some j):j<i/\∃o,ops[j]? =some o/\o.dst=some t:=by
 unfold iF at h;have h1:=List.find?_some h;have h2:=List.mem_of_find?_eq_some h;refine⟨by simpa using h2,?_⟩;cases ho:ops[j]? with
 |none=>rw[ho]at h1;simp at h1
 |some o=>rw[ho]at h1;exact⟨o,rfl,by simpa using h1⟩
theorem oB {ops:List Oper} {i t:Nat} (h:iF ops i t=none):∀(j:Nat) (o:Oper),j<i->ops[j]? =some o->o.dst≠some t:=by intro j o hj ho hd;unfold iF at h;have :=List.find?_eq_none.1 h j (by simpa using hj);rw[ho]at this;simp [hd]at this
structure TInv (l:List Oper) (n:Nat) (B:Nat->BX X) (ss:List Nat) (L0:TL T) (ents:List (Sp T)) (listed:Array Bool) (p:Nat) (a:Act) (g:σ) (w:World):Prop where
 size:listed.size=l.length
 closed:∀i o,l[i]? =some o->listed.getD i false=true->∀e∈o.after.toList,Region.binds .any e=true->listed.getD e.on false=true
 ple:p<=ss.length
 phase:∀k s,ss[k]? =some s->(listed.getD s false=true↔k<p)
 frame:a.tmps.size=n
 defers:a.defers=[]
 wd:(B p).P g w
 done:∀i o s d,l[i]? =some o->ents[i]? =some s->listed.getD i false=true->o.dst=some d->s.hold g w (a.tmps.getD d undef)
 rest:∀t s,lkS L0 t=some s->(∀i o,l[i]? =some o->o.dst=some t->listed.getD i false=false)->s.hold g w (a.tmps.getD t undef)
variable {P:Program} {l:List Oper} {n:Nat} {B:Nat->BX X} {ss:List Nat} {L0:TL T} {ents:List (Sp T)} {listed:Array Bool} {p:Nat} {a:Act} {g g0:σ} {w w0:World} {Q:Exit->Act->World->Prop} {E:List (Ef T)}
theorem TInv.ahead (h:TInv l n B ss L0 ents listed p a g w) {i j:Nat} (ha:dw l i j):listed.getD i false=true->listed.getD j false=true:=by
 induction ha with
 |edge h1 h2 h3=>exact λhi=>h.closed _ _ h1 hi _ h2 h3
 |trans _ _ ih1 ih2=>exact λhi=>ih2 (ih1 hi)
theorem ex (h:TInv l n B ss L0 ents listed p a g w) {i:Nat} (hr:i∈Region.ready .any l.toArray listed) {j:Nat} (ha:dw l i j):listed.getD j false=true:=by
 simp only[Region.ready,z_,Ap,zD]at hr;obtain⟨hi,_,hall⟩:=hr;have direct:∀(o:Oper) (e:Edge),l[i]? =some o->e∈o.after.toList->Region.binds .any e=true->listed.getD e.on false=true:=by intro o e ho he hb;simp only[zQ,ho,zW,zT,Af]at hall;have :=hall e (by simpa using he);simpa[hb]using this
 have key:∀i' j',dw l i' j'->i'=i->listed.getD j' false=true:=by
  intro i' j' ha'
  induction ha' with
  |edge h1 h2 h3=>intro e;subst e;exact direct _ _ h1 h2 h3
  |trans h1 h2 ih1 ih2=>exact λe=>h.ahead h2 (ih1 e)
 exact key i j ha rfl
theorem oa (R : kM X T) (ok : OkAll n (ssT E) l (ii l E)) (hlen : ents.length = l.length) (hcame : ∀ (j : Nat) (o : Oper), l[j]? = some o -> ∃ s, ents[j]? = some s /\ sZ P l E j o (gU (l.take j) (ents.take j) L0) s) (hobs : ∀ e, e ∈ E -> ∀ p, p ∈ e.ph -> EOb P n l X B e p)
  (huq:∀e e',e∈E->e'∈E->e.i=e'.i->e=e') (h:TInv l n B (ssT E) L0 ents listed p a g w) (hT:T g0 w0 g w) {i:Nat} (hr:i∈Region.ready .any l.toArray listed):
  wpOp P l.toArray Q i (λa' w'=>∃p' g',T g0 w0 g' w'/\TInv l n B (ssT E) L0 ents (listed.setIfInBounds i true) p' a' g' w') a w:=by
 obtain⟨ak,ao⟩:=dK hr;have D:i<l.length:=by simpa using ak
 have c:listed.getD i false=false:=by
  have :i<listed.size:=by rw[h.size];exact D
  simpa[this]using ao
 obtain⟨o,ho⟩:∃o,l[i]? =some o:=⟨_,zp D⟩;have aa:=qZ (E:=E) ho;obtain⟨ah,ad,_,ai⟩:=ok.row i o _ ho aa;obtain⟨s,hs,W⟩:=hcame i o ho;have A:cv p (n1 l E i o).ph=true:=by
  rcases ai p h.ple with h'|⟨k,q,hk,h'|h'⟩
  ·exact h'
  ·obtain⟨ab,h'⟩:=h';have hq:=(h.phase k q hk).2 ab;rcases h' with h'|h'
   ·have :=h.ahead h' hq;rw[c]at this;simp at this
   ·rw[h',c]at hq;simp at hq
  ·obtain⟨ab,h'⟩:=h';have hq:=(h.phase k q hk).1 (ex h hr h');omega
 have J:∀t u,t∈rdO l o->lkS (gU (l.take i) (ents.take i) L0) t=some u->u.hold g w (a.tmps.getD t undef):=by
  intro t u ht hu;rcases mg (by simp [hlen]) hu with⟨j,o',h1,h2,h3⟩|⟨h1,h2⟩
  ·have y : j < i := by
    rcases zF j i with h'|h'
    ·exact h'
    ·rw[zz (by rw[List.length_take];omega)]at h1;cases h1
   rw[AB y]at h1 h2;cases hd:iF l i t with
   |none=>exact absurd h3 (oB hd j o' y h1)
   |some j'=>
    obtain⟨U,o2,N,L⟩:=kD hd;have ag:j=j':=by
     rcases Nat.decEq j j' with z|he
     ·exact absurd (h3.trans L.symm) (ok.once j j' o' o2 h1 N z (by rw[h3];simp))
     ·exact he
    subst ag;have hm:(j,t)∈(n1 l E i o).us:=List.mem_filterMap.2 ⟨t,ht,by rw[hd];rfl⟩;exact h.done j o' u t h1 h2 (ex h hr (ah _ hm).1) h3
  ·have hd : iF l i t = none := by
    cases hd:iF l i t with
    |none=>rfl
    |some j'=>
     obtain⟨U,o2,N,L⟩:=kD hd;exact absurd L (h1 j' o2 (by rw[AB U];exact N))
   refine h.rest t u h2 λj o' hj ae=> ?_;have hm:(t,undef)∈(n1 l E i o).zs:=List.mem_filterMap.2 ⟨t,ht,by rw[hd]⟩;rcases ad _ hm j o' hj ae with rfl|ha
   ·exact c
   ·cases r:listed.getD j false with
    |false=>rfl
    |true=>
     have :=h.ahead ha r;rw[c]at this;simp at this
 generalize hLa:gU (l.take i) (ents.take i) L0=La at W J;have hF:Fr a n (dq La (rdO l o)) g w:=⟨h.frame,h.defers,λt u hu=>by obtain⟨h1,h2⟩:=gD hu;exact J t u h1 h2⟩;have O:gW l (dq La (rdO l o)) o=gW l La o:=by
  unfold gW;cases hgu:o.guard with
  |none=>rfl
  |some jb=>
   obtain⟨j,b⟩:=jb;simp only;cases hd:(l[j]?).bind (·.dst)with
   |none=>rfl
   |some d=>
    have hm:d∈rdO l o:=by unfold rdO;rw[hgu];simp only[hd];exact zw _ (by simp)
    simp only[AF,fm hm]
 have af:i<listed.size:=by rw[h.size];exact D
 have f:∀j,(listed.setIfInBounds i true).getD j false=if j=i then true else listed.getD j false:=λj=>fC af;have S:∀m:Bool,(m=true↔i∈ssT E)->(bif m then p+1 else p)<=(ssT E).length/\∀k s,(ssT E)[k]? =some s->((listed.setIfInBounds i true).getD s false=true↔k<(bif m then p+1 else p)):=by
  have ac:∀k k':Nat,(ssT E)[k]? =some i->(ssT E)[k']? =some i->k=k':=by
   intro k k' hk V;rcases Ax k k' with H|he|hgt
   ·have :=ex h hr (ok.chain k k' i i hk V H);rw[c]at this;simp at this
   ·exact he
   ·have :=ex h hr (ok.chain k' k i i V hk hgt);rw[c]at this;simp at this
  intro m I;cases m with
  |false=>
   simp only[cond_false];refine⟨h.ple,λk s hk=> ?_⟩;have z:s≠i:=λe=>by
    have :i∈ssT E:=by subst e;exact zC hk
    exact absurd (I.2 this) (by decide)
   rw[f,zK z];exact h.phase k s hk
  |true=>
   simp only[cond_true];obtain⟨k0,F⟩:=An.1 (I.1 rfl);have hk0l:k0<(ssT E).length:=by
    rcases zF k0 (ssT E).length with h'|h'
    ·exact h'
    ·simp [zz h']at F
   have h1:¬k0<p:=λH=>by have :=(h.phase k0 i F).2 H;rw[c]at this;simp at this
   have h2:∀k,k<k0->k<p:=by intro k hk;obtain⟨s,hs⟩:∃s,(ssT E)[k]? =some s:=⟨_,zp (by omega)⟩;exact(h.phase k s hs).1 (ex h hr (ok.chain k k0 s i hs F hk))
   have hpk:p=k0:=by
    have :=h.ple;rcases Ax p k0 with H|he|hgt
    ·have :=h2 p H;omega
    ·exact he
    ·omega
   refine⟨by omega,λk s hk=> ?_⟩;rw[f];by_cases hsi:s=i
   ·subst hsi;have :=ac k k0 hk F;rw[zX rfl];simp;omega
   ·rw[zK hsi,h.phase k s hk];have z:k≠k0:=λe=>by subst e;rw[F]at hk;exact hsi (by simpa using hk.symm)
    omega
 have G:∀(m:Bool) v w' g',(m=true↔i∈ssT E)->T g w g' w'->(B (bif m then p+1 else p)).P g' w'->s.hold g' w' v->∃p' g',T g0 w0 g' w'/\TInv l n B (ssT E) L0 ents (listed.setIfInBounds i true) p' (a.put o.dst v) g' w':=by
  intro m v w' g' I ht aj hv;obtain⟨q1,q2⟩:=S m I;refine⟨_,g',R.trans hT ht,by simp [h.size],?_,q1,q2,?_,?_,aj,?_,?_⟩
  ·intro j o' hj r e he hb;rw[f]at r⊢;split
   ·rfl
   ·split at r
    ·rename_i y;subst y;rw[ho]at hj;cases hj;exact dS ho hr e he hb
    ·exact h.closed j o' hj r e he hb
  ·cases hd:o.dst<;>simp [Act.put,h.frame]
  ·cases hd:o.dst<;>simp [Act.put,h.defers]
  ·intro j o' s' d hj M r hd;rw[f]at r;by_cases y:j=i
   ·subst y;rw[ho]at hj;cases hj;rw[hs]at M;cases M;have am:=ok.slot _ _ _ ho hd;simp only[hd,Act.put];simpa[h.frame,am]using hv
   ·rw[zK y]at r;have hold:=h.done j o' s' d hj M r hd;have z:o.dst≠some d:=λe=>ok.once i j o o' ho hj (λx=>y x.symm) (by rw[e];simp) (by rw[e,hd]);have :(a.put o.dst v).tmps.getD d undef=a.tmps.getD d undef:=by
     cases hod:o.dst with
     |none=>rfl
     |some d'=>
      have :d'≠d:=λe=>z (by rw[hod,e]);simp [Act.put,zJ this]
    rw[this];exact Sp.mv hold ht
  ·intro t u an C;have z:o.dst≠some t:=λe=>by have :=C i o ho e;rw[f,zX rfl]at this;simp at this
   have :(a.put o.dst v).tmps.getD t undef=a.tmps.getD t undef:=by
    cases hod:o.dst with
    |none=>rfl
    |some d'=>
     have :d'≠t:=λe=>z (by rw[hod,e]);simp [Act.put,zJ this]
   rw[this];refine Sp.mv (h.rest t u an λj o' hj hd=> ?_) ht;have :=C j o' hj hd;rw[f]at this;split at this
   ·simp at this
   ·exact this
 have Z:∀e,e∈E->e.i=i->(e.m=true↔i∈ssT E):=by
  intro e he Y;constructor
  ·intro hm;exact Av.2 ⟨e,z_.2 ⟨he,hm⟩,Y⟩
  ·intro hm;obtain⟨e',h1,h2⟩:=Av.1 hm;obtain⟨h3,h4⟩:=z_.1 h1;have :=huq e e' he h3 (Y.trans h2.symm);subst this;exact h4
 have K:(∀e,e∈E->e.i≠i)->(false=true↔i∈ssT E):=λC=>by
  constructor
  ·intro h;cases h
  ·intro hm;obtain⟨e',h1,h2⟩:=Av.1 hm;exact absurd h2 (C e' (z_.1 h1).1)
 unfold wpOp;simp only[zQ,ho];rcases W with⟨hg,rfl,C⟩|⟨hg,hc⟩
 ·rw[zK (by rw[hF.wanted (O.trans hg)];decide)];exact G false undef w g (K C) (R.sub (R.refl g w)) h.wd rfl
 ·rw[zX (hF.wanted (O.trans hg))];rcases hc with⟨e,h1,h2,h3,h4⟩|⟨h1,h2⟩
  ·have al : p ∈ e.ph := by
    have :(n1 l E i o).ph=e.ph:=by
     have hf:E.find? (λe=>Nat.beq e.i i)=some e:=by
      cases hf:E.find? (λe=>Nat.beq e.i i)with
      |none=>exact absurd (by rw[h2];exact Nat.beq_refl i) (List.find?_eq_none.1 hf e h1)
      |some e'=>
       have :=huq e e' h1 (List.mem_of_find?_eq_some hf) (h2.trans (Am (List.find?_some (p:=λe:Ef T=>Nat.beq e.i i) hf)).symm);rw[this]
     simp only[n1,hf]
    rw[this]at A;exact memN_iff.1 A
   refine .inl (mn R hobs ho h.wd hF.get (.inl ⟨e,h1,h2,h3,h4,al,rfl⟩) a _ Q hF.frm ?_);rintro v w' ⟨g',k1,k2,k3⟩;exact G e.m v w' g' (Z e h1 h2) k1 k2 k3
  ·refine .inl (mn R hobs ho h.wd hF.get (.inr ⟨h1,rfl⟩) a _ Q hF.frm ?_);rintro v w' ⟨g',k1,k2,k3⟩;exact G false v w' g' (K h2) k1 k2 k3
end
end Go.Mi
namespace Go.Mi
open Go.RowKit
section
variable {σ:Type} {T X:jd σ}
theorem Risen.inj {E:List (Ef T)}:∀{i:Nat},Risen i E->∀e e',e∈E->e'∈E->e.i=e'.i->e=e':=by
 induction E with
 |nil=>intro i _ e e' he;simp at he
 |cons x E ih=>
  intro i h e e' he he' hi;rcases zx.1 he with h1|h1
  ·rcases zx.1 he' with h2|h2
   ·rw[h1,h2]
   ·have :=h.2.le e' h2;rw[h1]at hi;omega
  ·rcases zx.1 he' with h2|h2
   ·have :=h.2.le e h1;rw[h2]at hi;omega
   ·exact ih h.2 e e' h1 h2 hi
variable {P:Program} {l:List Oper} {n:Nat} {B:Nat->BX X} {L0:TL T} {ents:List (Sp T)} {g0:σ} {w0:World} {Q:Exit->Act->World->Prop} {E:List (Ef T)}
theorem oc (R : kM X T) (ok : OkAll n (ssT E) l (ii l E)) (hlen : ents.length = l.length) (hcame : ∀ (j : Nat) (o : Oper), l[j]? = some o -> ∃ s, ents[j]? = some s /\ sZ P l E j o (gU (l.take j) (ents.take j) L0) s) (hobs : ∀ e, e ∈ E -> ∀ p, p ∈ e.ph -> EOb P n l X B e p)
  (huq:∀e e',e∈E->e'∈E->e.i=e'.i->e=e') (hend:∀a g w,T g0 w0 g w->(B (ssT E).length).P g w->Fr a n (gU l ents L0) g w->Q .normal a w):
  ∀(fuel:Nat) (listed:Array Bool) (p:Nat) (a:Act) (g:σ) (w:World),TInv l n B (ssT E) L0 ents listed p a g w->T g0 w0 g w->left l.length listed<=fuel->wpAny P .any l.toArray Q fuel listed a w:=by
 have c:∀(listed:Array Bool) (p:Nat) (a:Act) (g:σ) (w:World),TInv l n B (ssT E) L0 ents listed p a g w->T g0 w0 g w->(∀i,i<l.length->listed.getD i false=true)->Q .normal a w:=by
  intro listed p a g w h hT d;have hp:p=(ssT E).length:=by
   rcases zF p (ssT E).length with q|hge
   ·obtain⟨s,hs⟩:∃s,(ssT E)[p]? =some s:=⟨_,zp q⟩;have :=(h.phase p s hs).1 (d s (ok.inn p s hs));omega
   ·have :=h.ple;omega
  subst hp;refine hend a g w hT h.wd ⟨h.frame,h.defers,λt s hs=> ?_⟩;rcases mg hlen hs with⟨j,o,h1,h2,h3⟩|⟨h1,h2⟩
  ·refine h.done j o s t h1 h2 (d j ?_) h3;rcases zF j l.length with h'|h'
   ·exact h'
   ·simp [zz h']at h1
  ·exact h.rest t s h2 λi o ho hd=>absurd hd (h1 i o ho)
 have r:∀(listed:Array Bool) (p:Nat) (a:Act) (g:σ) (w:World),TInv l n B (ssT E) L0 ents listed p a g w->Region.ready .any l.toArray listed=[]->∀i,i<l.length->listed.getD i false=true:=by
  intro listed p a g w h m i0 u;have :∀k i,i<=k->i<l.length->listed.getD i false=false->False:=by
   intro k
   induction k with
   |zero=>
    intro i A f v;have u:i=0:=by omega
    subst u;have ho:l[0]? =some l[0]:=zp f;have b:0∈Region.ready .any l.toArray listed:=by
     simp only[Region.ready,z_,Ap,zD];refine⟨by simpa using f,?_,?_⟩
     ·have :0<listed.size:=by rw[h.size];exact f
      simpa[this]using v
     ·simp only[zQ,ho,zW,zT,Af];intro e he;cases hbd:Region.binds .any e with
      |false=>simp
      |true=>have :=ok.back 0 _ ho e (by simpa using he) hbd;omega
    rw[m]at b;simp at b
   |succ k ihk=>
    intro i A f v;by_cases hlow:∃j,j<i/\listed.getD j false=false
    ·obtain⟨j,hj,D⟩:=hlow;exact ihk j (by omega) (by omega) D
    ·have ho:l[i]? =some l[i]:=zp f;have b:i∈Region.ready .any l.toArray listed:=by
      simp only[Region.ready,z_,Ap,zD];refine⟨by simpa using f,?_,?_⟩
      ·have :i<listed.size:=by rw[h.size];exact f
       simpa[this]using v
      ·simp only[zQ,ho,zW,zT,Af];intro e he;cases hbd:Region.binds .any e with
       |false=>simp
       |true=>
        have q:=ok.back i _ ho e (by simpa using he) hbd;cases hb:listed.getD e.on false with
        |true=>simp
        |false=>exact absurd ⟨e.on,q,hb⟩ hlow
     rw[m]at b;simp at b
  cases hb:listed.getD i0 false with
  |true=>rfl
  |false=>exact(this i0 i0 (zH _) u hb).elim
 intro fuel
 induction fuel with
 |zero=>
  intro listed p a g w h hT hf;have d:∀i,i<l.length->listed.getD i false=true:=by
   intro i hi;have h0:left l.length listed=0:=by omega
   unfold left at h0;rw[AW]at h0;simpa using h0 i (by simpa using hi)
  refine⟨?_,c listed p a g w h hT d⟩;unfold Region.ready;rw[AN];intro i hi;have y:i<l.length:=by simpa using hi
  have h1:=d i y;have h2:i<listed.size:=by rw[h.size];exact y
  have h3:listed.getD i true=true:=by simpa[h2]using h1
  rw[h3];simp
 |succ fuel ih=>
  intro listed p a g w h hT hf;refine⟨λm=>c listed p a g w h hT (r listed p a g w h m),λi hi=> ?_⟩;refine wpOp_mono (λa' w' h'=> ?_) (oa (Q:=Q) R ok hlen hcame hobs huq h hT hi);obtain⟨p',g',C,h'⟩:=h';refine ih _ p' a' g' w' h' C ?_;have q:i<l.length:=by simpa using(dK hi).1
  have x:i<listed.size:=by rw[h.size];exact q
  have z:listed.getD i false=false:=by have :=(dK hi).2;simpa[x]using this
  have :=iB x q z;omega
theorem n4 {g : σ} {w : World} {a : Act} (R : kM X T) (hm : P.follows .mixedOrders = true) (E : List (Ef T)) (B : Nat -> BX X) (pe : Nat) {keep : List Nat} {Lo : TL T} {id : Nat} (hpl : kH P l L0 E keep = some (E.map (·.L), Lo)) (hck : (iw n (ssT E) l (ii l E) && Nat.beq (ssT E).length pe) = true)
  (hobs:EObs P n l X B E) (hB:(B 0).P g w) (hF:Fr a n L0 g w) (hend:∀a g' w',T g w g' w'->(B pe).P g' w'->Fr a n Lo g' w'->Q .normal a w'):(Code.region id l.toArray true).wp P Q a w:=by
 obtain⟨ents,L',h1,rfl⟩:=pG hpl;rw[zD]at hck;obtain⟨f,rfl⟩:=qf h1;have q:=Am hck.2;subst q;have c:=rD h1;have m:T g w g {w with drawn:=w.drawn+1}:=R.sub (R.drew g w);refine wp_region_any hm ?_;refine oc R (OkAll.of hck.1) f (λj o ho=>by have :=c j o ho;rwa [Aj]at this) (λe he p hp=>EObs.mem hobs e he p hp) (fH h1).inj (λa g' w' k1 k2 k3=>hend a g' w' k1 k2 (k3.pick _)) _ _ 0 a g _ ?_ m ?_
 ·have b : ∀ j, (Array.replicate l.toArray.size false).getD j false = false := by intro j;simp only[AE,AK];split<;>rfl
  refine⟨by simp,λi o _ h=> ?_,by omega,λk s _=> ?_,hF.size,hF.defers,(B 0).st hB (R.drew g w),λi o s d _ _ h=> ?_,λt s hs _=>Sp.mv (hF.get t s hs) m⟩
  ·rw[b]at h;simp at h
  ·rw[b];simp
  ·rw[b]at h;simp at h
 ·unfold left;have :=AG (l:=List.range l.length) (p:=λi=> !(Array.replicate l.toArray.size false).getD i false);simpa using this
end
end Go.Mi
