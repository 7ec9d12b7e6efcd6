/- General lemmas, walks. -/
import Derived.Lib.AppendZerosOnto
import Derived.Laws.CopyRow
import Derived.Lib.ConvBytes
import GoSem.Claim
import Derived.WideShapes
import Derived.Below
import Derived.WalkSmall
import Derived.Recover
import Derived.LoopN
import Derived.Test.YtmkplecnmklbfaaGreatJ1PSpoilt
set_option maxRecDepth 100000
set_option maxHeartbeats 1000000
set_option linter.unusedSimpArgs false
set_option linter.unusedVariables false
set_option linter.unnecessarySimpa false
set_option linter.unusedSectionVars false
namespace Go.Sx
open Go.Mi Go.RowKit
variable [Dfr]
def bI (L:DL):Option Operand->Option (Option Int)
 |none=>some none
 |some x=>match Fc L x with
  |some (.v (.int _ i))=>some (some i)
  |_=>none
def bl (o:Option Int) (d:Nat):Nat:=match o with
 |some i=>i.toNat
 |none=>d
def Gq:Option Int->Prop
 |some i=>0<=i
 |none=>True
def FG (lo hi mx:Option Int) (n c:Nat):Prop:=Gq lo/\Gq hi/\Gq mx/\(mx.isSome=true->hi.isSome=true)/\bl lo 0<=bl hi n/\bl hi n<=bl mx c/\bl mx c<=c
def VL {α:Type} (lo hi:Option Int) (xs:List α):List α:=match lo,hi with
 |none,none=>xs
 |none,some h=>xs.take h.toNat
 |some l,none=>xs.drop l.toNat
 |some l,some h=>(xs.take h.toNat).drop l.toNat
theorem YU {α:Type} (lo hi:Option Int) (xs:List α):VL lo hi xs=(xs.take (bl hi xs.length)).drop (bl lo 0):=by unfold VL bl;cases lo<;>cases hi<;>simp
section
variable {P:Program} {n:Nat} {L:DL} {ds:Option Nat} {ty:TypeId} {pos:String} {af:Array Edge} {gu:Option (Nat×Bool)} {g:G} {w w':World}
structure HW (a:Act) (x:Option Operand) (i:Option Int):Prop where
 h:(x=none/\i=none)\/∃y k j,x=some y/\i=some j/\a.eval y= .int k j
theorem E9 {ξ:Nat->Value} {x:Option Operand} {i:Option Int} (hH:Hold L ξ g w) (h:bI L x=some i):∀a nn,Frm a nn (LN L ξ)->HW a x i:=by
 intro a nn hF;unfold bI at h;split at h
 ·cases h;exact⟨.inl ⟨rfl,rfl⟩⟩
 ·rename_i y;split at h
  ·rename_i k j hy;cases h;exact⟨.inr ⟨y,k,j,rfl,rfl,hF.eval (B2 hH hy)⟩⟩
  ·cases h
theorem Pt {a:Act} {sl:Bool} {xl xh xm:Option Operand} {lo hi mx:Option Int} {m c:Nat} (hl:HW a xl lo) (hh:HW a xh hi) (hm:HW a xm mx) (h:FG lo hi mx m c):(Instr.sliceBounds sl m c (xl.map a.eval) (xh.map a.eval) (xm.map a.eval)).run P w= .ok (bl lo 0,bl hi m,bl mx c) w:=by
 obtain⟨n1,n2,n3,n4,n5,n6,n7⟩:=h;rcases hm.h with⟨rfl,rfl⟩|⟨ym,km,jm,rfl,rfl,hvm⟩<;>rcases hh.h with⟨rfl,rfl⟩|⟨yh,kh,jh,rfl,rfl,hvh⟩<;>rcases hl.h with⟨rfl,rfl⟩|⟨yl,kl,jl,rfl,rfl,hvl⟩<;>simp only[Gq,bl]at n1 n2 n3 n5 n6 n7
 ·simp [Instr.sliceBounds,bl]
 ·obtain⟨jl,rfl⟩:=cb n1;simp only[bh]at n5 n6 n7;simp [Instr.sliceBounds,bl,hvl,Instr.sliceBound,asIntOf,n5]
 ·obtain⟨jh,rfl⟩:=cb n2;simp only[bh]at n5 n6 n7;simp [Instr.sliceBounds,bl,hvh,Instr.sliceBound,asIntOf,n6]
 ·obtain⟨jh,rfl⟩:=cb n2;obtain⟨jl,rfl⟩:=cb n1;simp only[bh]at n5 n6 n7;simp [Instr.sliceBounds,bl,hvh,hvl,Instr.sliceBound,asIntOf,n6,n5]
 ·have :=n4 rfl;cases this
 ·have :=n4 rfl;cases this
 ·obtain⟨jh,rfl⟩:=cb n2;obtain⟨jm,rfl⟩:=cb n3;simp only[bh]at n5 n6 n7;simp [Instr.sliceBounds,bl,hvh,hvm,Instr.sliceBound,asIntOf,n7,n6]
 ·obtain⟨jh,rfl⟩:=cb n2;obtain⟨jl,rfl⟩:=cb n1;obtain⟨jm,rfl⟩:=cb n3;simp only[bh]at n5 n6 n7;simp [Instr.sliceBounds,bl,hvh,hvl,hvm,Instr.sliceBound,asIntOf,n7,n6,n5]
theorem R_ {x : Operand} {xl xh xm : Option Operand} {t te : TypeId} {lo hi mx : Option Int} {m len cap : Nat} {ad : Option Addr} {Lv : List (Nat × Value)} (ht : P.underlying t = some (.slice te)) (hs : (P.info? te).map (·.size) = some m) (hx : ev Lv x = some (.slice ad len cap))
  (hb:∀a,Frm a n Lv->HW a xl lo/\HW a xh hi/\HW a xm mx) (h:FG lo hi mx len cap):Det P ⟨ds,.slice t x xl xh xm,ty,pos,af,gu⟩ n Lv w (.slice (if bl mx cap=bl lo 0 then ad else ad.map (·.add (bl lo 0*m))) (bl hi len-bl lo 0) (bl mx cap-bl lo 0)) w:=
 Det.of_run λa hF=>by
  obtain⟨h1,h2,h3⟩:=hb a hF;obtain⟨inf,hi',hz⟩:=ak.1 hs;have hr:=Pt (P:=P) (w:=w) (sl:=true) h1 h2 h3 h;have hsz:(sizeOf te).run P w= .ok m w:=by simp [sizeOf,typeInfo,hi',hz]
  simp only[execOp,hF.eval hx,Instr.sliceAt,Sem.run_bind,Aq ht,Result.andThen_ok,Instr.slice,hr,hsz];rfl
theorem kF {x : Operand} {xl xh xm : Option Operand} {t te : TypeId} {lo hi mx : Option Int} {m len b o : Nat} {Lv : List (Nat × Value)} (ht : P.underlying t = some (.array len te)) (hs : (P.info? te).map (·.size) = some m) (hx : ev Lv x = some (vP b o))
  (hb:∀a,Frm a n Lv->HW a xl lo/\HW a xh hi/\HW a xm mx) (h:FG lo hi mx len len):Det P ⟨ds,.slice t x xl xh xm,ty,pos,af,gu⟩ n Lv w (.slice (some (if bl mx len=bl lo 0 then⟨b,o,none⟩else⟨b,o+bl lo 0*m,none⟩)) (bl hi len-bl lo 0) (bl mx len-bl lo 0)) w:=
 Det.of_run λa hF=>by
  obtain⟨h1,h2,h3⟩:=hb a hF;obtain⟨inf,hi',hz⟩:=ak.1 hs;have hr:=Pt (P:=P) (w:=w) (sl:=false) h1 h2 h3 h;have hsz:(sizeOf te).run P w= .ok m w:=by simp [sizeOf,typeInfo,hi',hz]
  simp only[execOp,hF.eval hx,Instr.sliceAt,Sem.run_bind,Aq ht,Result.andThen_ok,Instr.sureAddr,Sem.run_pure,hr,hsz,Dm]
def jI (P:Program) (L:DL) (t:TypeId) (x:Operand) (xl xh xm:Option Operand):Option (D×List Prop):=match Fc L x,bI L xl,bI L xh,bI L xm with
 |some (.ls nn e xs),some lo,some hi,some mx=>(match UE P t with
  |some m=>bif Nat.beq e.length m then some (.ls nn e (VL lo hi xs),[FG lo hi mx xs.length xs.length])else none
  |none=>none)
 |some (.v (.slice none 0 0)),some lo,some hi,some mx=>(match UE P t with
  |some _=>some (.v vN,[FG lo hi mx 0 0])
  |none=>none)
 |some (.cp k o),some lo,some hi,some mx=>(match bM P t with
  |some (len,m)=>bif Nat.beq m 1 then some (.sv k (o+bl lo 0) (bl hi len-bl lo 0),[FG lo hi mx len len,len<=9223372036854775807,bl lo 0<bl mx len])else none
  |none=>none)
 |_,_,_,_=>none
theorem jH {t:TypeId} {x:Operand} {xl xh xm:Option Operand} {d:D} {ps:List Prop} (h:jI P L t x xl xh xm=some (d,ps)):PureOk P n ⟨ds,.slice t x xl xh xm,ty,pos,af,gu⟩ L d ps:=by
 intro hp ξ g w hH _;unfold jI at h;split at h
 ·rename_i nn e xs lo hi mx hx h1 h2 h3;split at h
  ·rename_i m hsi;obtain⟨te,u1,u2⟩:=H4 hsi;cases hb:Nat.beq e.length m with
   |false=>rw[hb]at h;cases h
   |true=>
    rw[hb]at h;have :=aq hb;subst this;cases h;obtain⟨v,hv,u,ls,k1,k2,k3⟩:=Bh hH hx;cases(List.cons.inj k1).1;obtain⟨hp1,_⟩:=hp;have bnd:=λa hF=>(⟨E9 hH h1 a n hF,E9 hH h2 a n hF,E9 hH h3 a n hF⟩:HW a xl lo/\HW a xh hi/\HW a xm mx);have q:=hp1;obtain⟨n1,n2,n3,n4,n5,n6,n7⟩:=hp1;have hcl:(VL lo hi xs).length=bl hi xs.length-bl lo 0:=by rw[YU,au,ao,ei (by cases mx<;>simp only[bl]at n6 n7⊢<;>omega)]
    have hfa:Fa2 (rS g.X g.N w e) (VL lo hi xs) ((ls.take (bl hi xs.length)).drop (bl lo 0)):=by rw[YU];exact(k3.take _).drop _
    have hml:=Dj hfa.row;rcases k2.at' with⟨j2,⟨j1,rfl⟩|⟨a0,c0,rfl⟩⟩|⟨b,o,c,rfl,j1,j2,j3,j4,j5⟩
    ·have e1:bl mx 0=bl lo 0:=by rw[j2]at n5 n6 n7;have :=n5;cases mx<;>cases lo<;>simp only[bl]at * <;>omega
     have hd:=R_ (P:=P) (n:=n) (w:=w) (ds:=ds) (ty:=ty) (pos:=pos) (af:=af) (gu:=gu) u1 u2 hv bnd (by rw[j2]at q;exact q);rw[ab e1]at hd;have z1:bl hi 0-bl lo 0=0:=by rw[j2]at n5 n6 n7;omega
     have z2:bl mx 0-bl lo 0=0:=by omega
     rw[z1,z2]at hd;have hc0:(VL lo hi xs).length=0:=by rw[hcl,j2];exact z1
     refine⟨_,⟨vN,_,rfl,⟨by rw[hc0];exact br _,by rw[hml,<-hfa.len],.inl ⟨hc0,.inl ⟨j1,rfl⟩⟩⟩,hfa⟩,hd⟩
    ·have q2 : FG lo hi mx 0 c0 := by rw[j2]at n5 n6 n7;exact⟨n1,n2,n3,n4,n5,by cases mx<;>simp only[bl]at n6 n7⊢<;>omega,by cases mx<;>simp only[bl]at n6 n7⊢<;>omega⟩
     have hd:=R_ (P:=P) (n:=n) (w:=w) (ds:=ds) (ty:=ty) (pos:=pos) (af:=af) (gu:=gu) u1 u2 hv bnd q2;have z1:bl hi 0-bl lo 0=0:=by rw[j2]at n5 n6 n7;omega
     have hc0:(VL lo hi xs).length=0:=by rw[hcl,j2];exact z1
     rw[z1]at hd;refine⟨_,⟨_,_,rfl,⟨by rw[hc0];exact br _,by rw[hml,<-hfa.len],.inl ⟨hc0,.inr ?_⟩⟩,hfa⟩,hd⟩;split
     ·exact⟨_,_,rfl⟩
     ·exact⟨_,_,rfl⟩
    ·have q2:FG lo hi mx xs.length c:=⟨n1,n2,n3,n4,n5,by cases mx<;>simp only[bl]at n6 n7⊢<;>omega,by cases mx<;>simp only[bl]at n6 n7⊢<;>omega⟩;have hd:=R_ (P:=P) (n:=n) (w:=w) (ds:=ds) (ty:=ty) (pos:=pos) (af:=af) (gu:=gu) u1 u2 hv bnd q2;have hbm:bl hi xs.length<=bl mx c:=q2.2.2.2.2.2.1;have hbc:bl mx c<=c:=q2.2.2.2.2.2.2;have ha:At w b (o+bl lo 0*e.length) ((ls.take (bl hi xs.length)).drop (bl lo 0)).flatten:=by
      have e1:ls.flatten=((ls.take (bl hi xs.length)).take (bl lo 0)).flatten++((ls.take (bl hi xs.length)).drop (bl lo 0)).flatten++(ls.drop (bl hi xs.length)).flatten:=by rw[<-de,dg,<-de,dg]
      have :=At.sub j5 e1;rw[Dj (m:=e.length) (λl hl=>k3.row l (cv (cv hl)))]at this;have e2:((ls.take (bl hi xs.length)).take (bl lo 0)).length=bl lo 0:=by
       rw[ao,ao,<-k3.len];have :bl hi xs.length<=xs.length:=by cases mx<;>simp only[bl]at n6 n7⊢<;>omega
       omega
      rwa [e2]at this
     by_cases hz:bl mx c=bl lo 0
     ·rw[ab hz]at hd;have z1:bl hi xs.length-bl lo 0=0:=by omega
      have hc0:(VL lo hi xs).length=0:=by rw[hcl];exact z1
      refine⟨_,⟨_,_,rfl,⟨by rw[hc0];exact br _,by rw[hml,<-hfa.len],.inr ⟨b,o,_,by rw[hcl],by rw[hcl];omega,by omega,j3,j4,?_⟩⟩,hfa⟩,hd⟩;have hnil:((ls.take (bl hi xs.length)).drop (bl lo 0)).flatten=[]:=by apply bm;rw[hml,<-hfa.len,hc0,iw]
      rw[hnil];intro i u hu;simp at hu
     ·rw[aj hz]at hd;simp only[ew,Dm]at hd;refine⟨_,⟨_,_,rfl,⟨by rw[hcl];have :=k2.le;omega,by rw[hml,<-hfa.len],.inr ⟨b,o+bl lo 0*e.length,_,by rw[hcl],by rw[hcl];omega,by omega,j3,j4,ha⟩⟩,hfa⟩,hd⟩
  ·cases h
 ·rename_i lo hi mx hx h1 h2 h3;split at h
  ·rename_i m hsi;cases h;obtain⟨te,u1,u2⟩:=H4 hsi;have bnd:=λa hF=>(⟨E9 hH h1 a n hF,E9 hH h2 a n hF,E9 hH h3 a n hF⟩:HW a xl lo/\HW a xh hi/\HW a xm mx);have hd:=R_ (P:=P) (n:=n) (w:=w) (ds:=ds) (ty:=ty) (pos:=pos) (af:=af) (gu:=gu) u1 u2 (B2 hH hx) bnd hp.1;obtain⟨n1,n2,n3,n4,n5,n6,n7⟩:=hp.1;rw[ab (by omega),show bl hi 0-bl lo 0=0 by omega,show bl mx 0-bl lo 0=0 by omega]at hd;exact⟨_,rfl,hd⟩
  ·cases h
 ·rename_i k o lo hi mx hx h1 h2 h3;split at h
  ·rename_i len m ha;cases hb:Nat.beq m 1 with
   |false=>rw[hb]at h;cases h
   |true=>
    rw[hb]at h;have :=aq hb;subst this;cases h;obtain⟨te,u1,u2⟩:=MZ ha;obtain⟨p1,p2,p3,_⟩:=hp;obtain⟨v,hv,b,k1,k2⟩:=Bh hH hx;cases(List.cons.inj k2).1;have bnd:=λa hF=>(⟨E9 hH h1 a n hF,E9 hH h2 a n hF,E9 hH h3 a n hF⟩:HW a xl lo/\HW a xh hi/\HW a xm mx);have hd:=kF (P:=P) (n:=n) (w:=w) (ds:=ds) (ty:=ty) (pos:=pos) (af:=af) (gu:=gu) u1 u2 hv bnd p1;obtain⟨n1,n2,n3,n4,n5,n6,n7⟩:=p1;rw[aj (by omega),ga]at hd;refine⟨_,⟨b,_,k1,rfl,by omega,?_⟩,hd⟩;simp only[maxLen];omega
  ·cases h
 ·cases h
end
end Go.Sx
namespace Go.Sx
open Go.Mi Go.RowKit
variable [Dfr]
def Fk.flat:Fk->Bool
 | .ref=>false
 | .sl e=>e.flat
 | .os e=>e.flat
 |_=>true
def D.ren (r:Nat->Nat):D->D
 | .cons d ds=> .cons (d.ren r) (ds.ren r)
 | .ag ds=> .ag (ds.ren r)
 | .tu ds=> .tu (ds.ren r)
 | .fn f a b=> .fn f (a.ren r) (b.ren r)
 | .ifc t d=> .ifc t (d.ren r)
 | .cp k o=> .cp (r k) o
 | .ep k o m n i=> .ep (r k) o m n i
 | .xp k m n i o=> .xp (r k) m n i o
 | .sk k=> .sk (r k)
 | .sv k o n=> .sv (r k) o n
 | .im d o=> .im (d.ren r) o
 |d=>d
def D.plain:D->Bool
 | .cons d ds=>d.plain&&ds.plain
 | .ag ds=>ds.plain
 | .tu ds=>ds.plain
 | .fn _ a b=>a.plain&&b.plain
 | .ifc _ d=>d.plain
 | .im d _=>d.plain
 | .ls _ e _=>e.all Fk.flat
 | .os e _=>e.flat
 | .ip e _ _=>e.all Fk.flat
 |_=>true
def D.nm:D->List Nat
 | .cons d ds=>d.nm++ds.nm
 | .ag ds=>ds.nm
 | .tu ds=>ds.nm
 | .fn _ a b=>a.nm++b.nm
 | .ifc _ d=>d.nm
 | .im d _=>d.nm
 | .cp k _=>[k]
 | .ep k _ _ _ _=>[k]
 | .xp k _ _ _ _=>[k]
 | .sk k=>[k]
 | .sv k _ _=>[k]
 |_=>[]
def O.ren (r:Nat->Nat):O->O
 | .ob ty d=> .ob ty (d.ren r)
 | .sl ty e xs=> .sl ty e xs
def O.plain:O->Bool
 | .ob _ d=>d.plain
 | .sl _ e _=>e.all Fk.flat
def O.nm:O->List Nat
 | .ob _ d=>d.nm
 | .sl .. =>[]
section
variable {X:Nat->Prop} {N N':Nat->Option Value} {w:World}
theorem KD:∀(a:Fk) (x:a.T) (v:Value),a.flat=true->(fS X N w a x v↔fS X N' w a x v):=by
 intro a
 induction a with
 |int k=>exact λx v _=>Iff.rfl
 |bool=>exact λx v _=>Iff.rfl
 |str=>exact λx v _=>Iff.rfl
 |val=>exact λx v _=>Iff.rfl
 |sl e ih=>
  intro x v h;have ih':=λx v=>ih x v h;exact⟨λ⟨vs,h1,h2⟩=>⟨vs,h1,h2.mono λx v=>(ih' x v).1⟩,λ⟨vs,h1,h2⟩=>⟨vs,h1,h2.mono λx v=>(ih' x v).2⟩⟩
 |os e ih=>
  intro x v h;have ih':=λx v=>ih x v h;cases x with
  |none=>exact Iff.rfl
  |some xs=>exact⟨λ⟨vs,h1,h2⟩=>⟨vs,h1,h2.mono λx v=>(ih' x v).1⟩,λ⟨vs,h1,h2⟩=>⟨vs,h1,h2.mono λx v=>(ih' x v).2⟩⟩
 |ref=>exact λx v h=>by cases h
theorem Ha:∀(e:List Fk) (x:RT e) (l:List Value),e.all Fk.flat=true->(rS X N w e x l↔rS X N' w e x l)
 |[],x,l,_=>Iff.rfl
 |[a],x,l,h=>by
  simp only[List.all_cons,List.all_nil,Bool.and_true]at h;exact⟨λ⟨v,h1,h2⟩=>⟨v,h1,(KD a _ _ h).1 h2⟩,λ⟨v,h1,h2⟩=>⟨v,h1,(KD a _ _ h).2 h2⟩⟩
 |a::b::s,x,l,h=>by rw[List.all_cons,ap]at h;exact⟨λ⟨v,l',h1,h2,h3⟩=>⟨v,l',h1,(KD a _ _ h.1).1 h2,(Ha (b::s) _ _ h.2).1 h3⟩,λ⟨v,l',h1,h2,h3⟩=>⟨v,l',h1,(KD a _ _ h.1).2 h2,(Ha (b::s) _ _ h.2).2 h3⟩⟩
theorem GD {r:Nat->Nat}:∀(d:D) (m:Bool) (l:List Value),d.plain=true->(∀k∈d.nm,N' k=N (r k))->(CS X N w (d.ren r) m l↔CS X N' w d m l):=by
 intro d
 induction d with
 |ls nn e xs=>
  intro m l h _;exact⟨λ⟨v,ls,h2,h3,h4⟩=>⟨v,ls,h2,h3,h4.mono λx l=>(Ha e x l h).1⟩,λ⟨v,ls,h2,h3,h4⟩=>⟨v,ls,h2,h3,h4.mono λx l=>(Ha e x l h).2⟩⟩
 |os e o=>intro m l h _;exact⟨λ⟨v,h2,h3⟩=>⟨v,h2,(KD (.os e) _ _ h).1 h3⟩,λ⟨v,h2,h3⟩=>⟨v,h2,(KD (.os e) _ _ h).2 h3⟩⟩
 |cons d ds ih1 ih2=>
  intro m l h hn;simp only[D.plain,ap]at h;have n1:=λk hk=>hn k (eu _ hk);have n2:=λk hk=>hn k (cz _ hk);exact⟨λ⟨l1,l2,e,h1,h2⟩=>⟨l1,l2,e,(ih1 _ _ h.1 n1).1 h1,(ih2 _ _ h.2 n2).1 h2⟩,λ⟨l1,l2,e,h1,h2⟩=>⟨l1,l2,e,(ih1 _ _ h.1 n1).2 h1,(ih2 _ _ h.2 n2).2 h2⟩⟩
 |ag d ih=>intro m l h hn;exact⟨λ⟨l',h1,h2,h3⟩=>⟨l',(ih _ _ h hn).1 h1,h2,h3⟩,λ⟨l',h1,h2,h3⟩=>⟨l',(ih _ _ h hn).2 h1,h2,h3⟩⟩
 |tu d ih=>intro m l h hn;exact⟨λ⟨l',h1,h2⟩=>⟨l',(ih _ _ h hn).1 h1,h2⟩,λ⟨l',h1,h2⟩=>⟨l',(ih _ _ h hn).2 h1,h2⟩⟩
 |fn f a b iha ihb=>
  intro m l h hn;simp only[D.plain,ap]at h;have n1:=λk hk=>hn k (eu _ hk);have n2:=λk hk=>hn k (cz _ hk);exact⟨λ⟨va,vb,h1,h2,h3⟩=>⟨va,vb,(iha _ _ h.1 n1).1 h1,(ihb _ _ h.2 n2).1 h2,h3⟩,λ⟨va,vb,h1,h2,h3⟩=>⟨va,vb,(iha _ _ h.1 n1).2 h1,(ihb _ _ h.2 n2).2 h2,h3⟩⟩
 |ifc t d ih=>intro m l h hn;exact⟨λ⟨v,h1,h2⟩=>⟨v,(ih _ _ h hn).1 h1,h2⟩,λ⟨v,h1,h2⟩=>⟨v,(ih _ _ h hn).2 h1,h2⟩⟩
 |im d o ih=>intro m l h hn;exact⟨λ⟨b,l',h2,h3,h4,h5,h7,h6⟩=>⟨b,l',h2,h3,h4,h5,h7,(ih _ _ h hn).1 h6⟩,λ⟨b,l',h2,h3,h4,h5,h7,h6⟩=>⟨b,l',h2,h3,h4,h5,h7,(ih _ _ h hn).2 h6⟩⟩
 |ip e x o=>intro m l h _;exact⟨λ⟨b,o0,l',h2,h3,h4,h5,h6⟩=>⟨b,o0,l',h2,h3,h4,h5,(Ha e _ _ h).1 h6⟩,λ⟨b,o0,l',h2,h3,h4,h5,h6⟩=>⟨b,o0,l',h2,h3,h4,h5,(Ha e _ _ h).2 h6⟩⟩
 |cp k o=>intro m l _ hn;simp only[D.ren,CS,hn k (by simp [D.nm])]
 |ep k o z n i=>intro m l _ hn;simp only[D.ren,CS,hn k (by simp [D.nm])]
 |xp k z n i o=>intro m l _ hn;simp only[D.ren,CS,hn k (by simp [D.nm])]
 |sk k=>intro m l _ hn;simp only[D.ren,CS,hn k (by simp [D.nm])]
 |sv k o n=>intro m l _ hn;simp only[D.ren,CS,hn k (by simp [D.nm])]
 |_=>exact λm l _ _=>Iff.rfl
end
theorem Kg {g g':G} {w:World} {r:Nat->Nat} {k:Nat} {o:O} (hp:o.plain=true) (hn:∀j∈o.nm,g'.N j=g.N (r j)) (hk:g'.N k=g.N (r k)) (hf:g'.F k=g.F (r k)) (hx:g'.X=g.X):OS g w (r k) (o.ren r)↔OS g' w k o:=by
 cases o with
 |ob ty d=>
  simp only[O.ren,OS,hk,hf,hx];constructor
  ·rintro⟨b,c,h1,h2,h3,h4,h5⟩;exact⟨b,c,h1,h2,h3,(GD d _ _ hp hn).1 h4,h5⟩
  ·rintro⟨b,c,h1,h2,h3,h4,h5⟩;exact⟨b,c,h1,h2,h3,(GD d _ _ hp hn).2 h4,h5⟩
 |sl ty e xs=>
  simp only[O.ren,OS,hk,hf,hx];constructor
  ·rintro⟨v,ls,h1,h2,h3,h4,h5,h6⟩;exact⟨v,ls,h1,h2,h3,h4,h5.mono λx l=>(Ha e x l hp).1,h6⟩
  ·rintro⟨v,ls,h1,h2,h3,h4,h5,h6⟩;exact⟨v,ls,h1,h2,h3,h4,h5.mono λx l=>(Ha e x l hp).2,h6⟩
abbrev Hc:=List (Nat×O)
def Ev:Hc->Nat->Option O
 |[],_=>none
 |(s,o)::r,t=>bif Nat.beq s t then some o else Ev r t
structure Con where
 args:List D
 H0:Hc
 res:D
 H1:Hc
def Con.foot (c:Con) (g:G):Nat->Prop:=λb=>∃k o,Ev c.H0 k=some o/\b∈g.F k
structure D7 (c:Con) (g:G) (w:World) (v:Value) (g':G) (w':World):Prop where
 go:Go (c.foot g) g w g' w'
 r:Sm g' w' c.res v
 hs:HS (Ev c.H1) g' w'
 fp:∀k o,Ev c.H1 k=some o->∀b∈g'.F k,c.foot g b\/w.heap.size<=b
def ConOk (P:Program) (f:FuncId) (c:Con):Prop:=
 Go.Mi.Callee P f/\∀vs g w,HS (Ev c.H0) g w->(∀k v,g.N k=some v->k∈Ax c.H0)->CS g.X g.N w (Ag c.args) true vs->Calls P f vs.toArray w (QK λv w'=>∃g',D7 c g w v g' w')
def XF (E:Value->Ending) (P:Program) (f:FuncId) (c:Con):Prop:=
 Go.Mi.Callee P f/\∀vs g w,HS (Ev c.H0) g w->(∀k v,g.N k=some v->k∈Ax c.H0)->CS g.X g.N w (Ag c.args) true vs->Calls P f vs.toArray w (λe w'=>∃v,e=E v/\∃g',D7 c g w v g' w')
theorem GP {A:Hc} {k:Nat}:k∈Ax A↔Ev A k≠none:=by
 induction A with
 |nil=>simp [Ax,Ev]
 |cons x A ih=>
  obtain⟨s,o⟩:=x;simp only[Ax,bg,ez,Ev]at ih⊢;by_cases h:s=k
  ·subst h;simp
  ·rw[BL h];have :¬k=s:=λe=>h e.symm;simp only[this,false_or,cond_false];exact ih
abbrev LO:=List (Nat×Nat)
def rn:LO->Nat->Nat
 |[],k=>k
 |(s,t)::r,k=>bif Nat.beq s k then t else rn r k
def weak:D->D->D
 | .ls true e xs,.ls false _ _=> .ls false e xs
 | .v (.slice none 0 0),.ls false e _=> .ls false e []
 | .v (.slice none 0 0),.os e _=> .os e none
 | .ls true e xs,.os a o=>(match z7 a (.ls true e xs)with
  |some q=> .os a q
  |none=> .ls true e xs)
 |d,_=>d
theorem Oj {g:G} {w:World} {d e:D} {v:Value} (h:Sm g w d v):Sm g w (weak d e) v:=by
 unfold weak;split
 ·obtain⟨u,ls,h1,h2,h3⟩:=h;exact⟨u,ls,h1,h2.gen,h3⟩
 ·have :[v]=[vN]:=h;exact⟨v,[],rfl,(List.cons.inj this).1▸Lsl.nil,aa⟩
 ·have :[v]=[vN]:=h;exact⟨v,rfl,(List.cons.inj this).1⟩
 ·split
  ·rename_i q hq;exact⟨v,rfl,(Ld (a:= .os _) h hq).1⟩
  ·exact h
 ·exact h
def XL:List D->List D->List D
 |d::ds,e::es=>weak d e::XL ds es
 |ds,_=>ds
theorem LV {g:G} {w:World}:∀{ds es:List D} {vs:List Value},CS g.X g.N w (Ag ds) true vs->(∀d∈ds,d.one=true)->CS g.X g.N w (Ag (XL ds es)) true vs
 |[],es,vs,h,_=>by cases es<;>exact h
 |d::ds,[],vs,h,_=>h
 |d::ds,e::es,vs,⟨l1,l2,h1,h2,h3⟩,ho=>by obtain⟨v,rfl⟩:=G8 h2 (ho d (bz ..));exact⟨[v],l2,h1,Oj h2,LV h3 λd hd=>ho d (a_ _ hd)⟩
structure CR where
 f:FuncId
 c:Con
 ρ:LO
 σ:LO
def CR.r (q:CR):Nat->Nat:=rn (q.ρ++q.σ)
def Fb (ks:List Nat) (d:D):Bool:=d.plain&&d.nm.all (CN · ks)
def Fg (ks:List Nat) (o:O):Bool:=o.plain&&o.nm.all (CN · ks)
def HI:List Nat->Bool
 |[]=>true
 |x::xs=> !(CN x xs)&&HI xs
def CR.chk (q:CR):Bool:=
 let a:=Ax q.ρ
 let b:=Ax (q.ρ++q.σ)
 (q.c.args.all (Fb a))&&(q.c.H0.all λp=>CN p.1 a&&Fg a p.2)&&(a.all λk=>CN k (Ax q.c.H0))&&Fb b q.c.res&&(q.c.H1.all λp=>CN p.1 b&&Fg b p.2)&&((Ax q.σ).all λk=>CN k (Ax q.c.H1)&& !(CN k a))&&
  HI (q.ρ.map (·.2))&&HI (q.σ.map (·.2))&&HI b&&HI (Ax q.c.H1)
def CR.eff (q:CR):Eff:=⟨[],q.ρ.map λp=>(p.2,(Ev q.c.H1 p.1).map (O.ren q.r)),q.σ.filterMap λp=>(Ev q.c.H1 p.1).map λo=>(p.2,o.ren q.r),q.c.res.ren q.r⟩
def Oh (H:Hp) (r:Nat->Nat):Hc->Prop
 |[]=>True
 |(j,o)::rest=>A4 H (r j)=some (o.ren r)/\Oh H r rest
def CR.exp (q:CR):List D×List (Option O):=(q.c.args.map (D.ren q.r),q.c.H0.map λp=>some (p.2.ren q.r))
def CR.need (q:CR) (ays:List D) (H:Hp):Prop:=(XL ays (q.c.args.map (D.ren q.r)),q.c.H0.map λp=>A4 H (q.r p.1))=q.exp
theorem CR.need_of {q:CR} {ays:List D} {H:Hp} (h:q.need ays H):XL ays (q.c.args.map (D.ren q.r))=q.c.args.map (D.ren q.r)/\Oh H q.r q.c.H0:=by
 have h1:=(Prod.mk.inj h).1;have h2:=(Prod.mk.inj h).2;refine⟨h1,?_⟩;have :∀(A:Hc),(A.map λp=>A4 H (q.r p.1))=(A.map λp=>some (p.2.ren q.r))->Oh H q.r A:=by
  intro A
  induction A with
  |nil=>exact λ_=>trivial
  |cons p A ih=>
   intro h;simp only[bg,List.cons.injEq]at h;exact⟨h.1,ih h.2⟩
 exact this _ h2
end Go.Sx
namespace Go.Sx
open Go.Mi Go.RowKit
variable [Dfr]
theorem SG {a b:LO} {k:Nat}:rn (a++b) k=if k∈Ax a then rn a k else rn b k:=by
 induction a with
 |nil=>simp [Ax]
 |cons p a ih=>
  obtain⟨s,t⟩:=p;simp only[gp,rn];by_cases e:s=k
  ·subst e;simp [Ax]
  ·rw[BL e];have :¬k=s:=λh=>e h.symm;simp only[cond_false,ih,Ax,bg,ez,this,false_or];rfl
theorem FL:∀{l:List Nat},HI l=true->l.Nodup
 |[],_=>List.nodup_nil
 |x::xs,h=>by simp only[HI,ap,fh]at h;refine gw.2 ⟨λhm=> ?_,FL h.2⟩;rw[A1.2 hm]at h;cases h.1
def m0:LO->Nat->Option Nat
 |[],_=>none
 |(s,t)::r,k=>bif Nat.beq t k then some s else m0 r k
theorem FC:∀{a:LO} {k:Nat},(Ax a).Nodup->k∈Ax a->(k,rn a k)∈a
 |(s,t)::r,k,hn,h=>by
  simp only[Ax,bg,gw,ez]at hn h;simp only[rn];by_cases e:s=k
  ·subst e;simp
  ·rw[BL e];exact a_ _ (FC hn.2 (h.resolve_left λh=>e h.symm))
theorem Py:∀{a:LO} {k t:Nat},(Ax a).Nodup->(k,t)∈a->rn a k=t
 |(s,u)::r,k,t,hn,h=>by
  simp only[Ax,bg,gw]at hn;simp only[rn];rcases ez.1 h with h|h
  ·cases h;simp
  ·have :¬s=k:=λe=>hn.1 (e▸cr.2 ⟨_,h,rfl⟩);rw[BL this];exact Py hn.2 h
theorem HN:∀{a:LO} {k t:Nat},(a.map (·.2)).Nodup->(k,t)∈a->m0 a t=some k
 |(s,u)::r,k,t,hn,h=>by
  simp only[bg,gw]at hn;simp only[m0];rcases ez.1 h with h|h
  ·cases h;simp
  ·have :¬u=t:=λe=>hn.1 (e▸cr.2 ⟨_,h,rfl⟩);rw[BL this];exact HN hn.2 h
theorem Ts:∀{a:LO} {k t:Nat},m0 a t=some k->(k,t)∈a
 |(s,u)::r,k,t,h=>by
  simp only[m0]at h;by_cases e:u=t
  ·subst e;simp at h;subst h;simp
  ·rw[BL e]at h;exact a_ _ (Ts h)
structure CRok (q:CR):Prop where
 args:∀d∈q.c.args,d.plain=true/\∀k∈d.nm,k∈Ax q.ρ
 h0:∀k o,Ev q.c.H0 k=some o->k∈Ax q.ρ/\o.plain=true/\∀j∈o.nm,j∈Ax q.ρ
 dom:∀k∈Ax q.ρ,k∈Ax q.c.H0
 res:q.c.res.plain=true/\∀k∈q.c.res.nm,k∈Ax (q.ρ++q.σ)
 h1:∀k o,Ev q.c.H1 k=some o->k∈Ax (q.ρ++q.σ)/\o.plain=true/\∀j∈o.nm,j∈Ax (q.ρ++q.σ)
 new:∀k∈Ax q.σ,k∈Ax q.c.H1/\k∉Ax q.ρ
 inj:(q.ρ.map (·.2)).Nodup
 inj2:(q.σ.map (·.2)).Nodup
 nod:(Ax (q.ρ++q.σ)).Nodup
theorem Kz:∀{A:Hc} {k:Nat} {o:O},Ev A k=some o->(k,o)∈A
 |(s,u)::r,k,o,h=>by
  simp only[Ev]at h;by_cases e:s=k
  ·subst e;simp at h;subst h;simp
  ·rw[BL e]at h;exact a_ _ (Kz h)
theorem CRok.of {q:CR} (h:q.chk=true):CRok q:=by
 simp only[CR.chk,ap,ax]at h;obtain⟨⟨⟨⟨⟨⟨⟨⟨⟨c1,c2⟩,c3⟩,c4⟩,c5⟩,c6⟩,c7⟩,c8⟩,c9⟩,_⟩:=h;have nm:∀{ks:List Nat} {d:D},Fb ks d=true->d.plain=true/\∀k∈d.nm,k∈ks:=λ{ks d} h=>by simp only[Fb,ap,ax]at h;exact⟨h.1,λk hk=>A1.1 (h.2 k hk)⟩
 have nmO:∀{ks:List Nat} {d:O},Fg ks d=true->d.plain=true/\∀k∈d.nm,k∈ks:=λ{ks d} h=>by simp only[Fg,ap,ax]at h;exact⟨h.1,λk hk=>A1.1 (h.2 k hk)⟩
 refine⟨λd hd=>nm (c1 d hd),λk o ho=> ?_,λk hk=>A1.1 (c3 k hk),nm c4,λk o ho=> ?_,λk hk=> ?_,FL c7,FL c8,FL c9⟩
 ·have :=c2 _ (Kz ho);simp only at this;exact⟨A1.1 this.1,nmO this.2⟩
 ·have :=c5 _ (Kz ho);simp only at this;exact⟨A1.1 this.1,nmO this.2⟩
 ·have :=c6 k hk;simp only[fh]at this;exact⟨A1.1 this.1,λhm=>by rw[A1.2 hm]at this;cases this.2⟩
theorem M3 {H:Hp} {r:Nat->Nat}:∀{A:Hc} {k:Nat} {o:O},Oh H r A->Ev A k=some o->A4 H (r k)=some (o.ren r)
 |(s,u)::rest,k,o,h,hk=>by
  simp only[Ev]at hk;by_cases e:s=k
  ·subst e;simp at hk;subst hk;exact h.1
  ·rw[BL e]at hk;exact M3 h.2 hk
theorem NC {r:Nat->Nat}:∀(ds:List D),Ag (ds.map (D.ren r))=(Ag ds).ren r
 |[]=>rfl
 |d::ds=>by simp only[bg,Ag,D.ren,NC ds]
theorem J8:∀{ds:List D},(∀d∈ds,d.plain=true)->(Ag ds).plain=true
 |[],_=>rfl
 |d::ds,h=>by simp only[Ag,D.plain,h d (bz ..),J8 λd hd=>h d (a_ _ hd),Bool.and_self]
theorem Qu:∀{ds:List D} {k:Nat},k∈(Ag ds).nm->∃d∈ds,k∈d.nm
 |[],k,h=>by simp [Ag,D.nm]at h
 |d::ds,k,h=>by
  simp only[Ag,D.nm,bn]at h;rcases h with h|h
  ·exact⟨d,bz ..,h⟩
  ·obtain⟨e,h1,h2⟩:=Qu h;exact⟨e,a_ _ h1,h2⟩
section
variable {P:Program} {g:G} {w:World} {H:Hp}
theorem LE {E : Value -> Ending} {q : CR} (hq : CRok q) (hc : XF E P q.f q.c) (hH0 : Oh H q.r q.c.H0) (V : HS (Cj (q.eff.rd ++ Ax q.eff.wr) (A4 H)) g w) (hnew : ∀ p ∈ q.eff.nw, g.N p.1 = none) {vs : List Value} (hv : CS g.X g.N w (Ag (q.c.args.map (D.ren q.r))) true vs) :
  Calls P q.f vs.toArray w (λe w'=>∃v,e=E v/\∃g',Post (A4 H) q.eff g w v g' w'):=by
 have hr1:∀k∈Ax q.ρ,q.r k=rn q.ρ k:=λk hk=>by simp only[CR.r,SG,hk,if_true]
 have hr2:∀k∈Ax q.σ,q.r k=rn q.σ k:=λk hk=>by simp only[CR.r,SG,(hq.new k hk).2,if_false]
 have nd1:(Ax q.ρ).Nodup:=by have :=hq.nod;simp only[Ax,ce]at this;exact(h_.1 this).1
 have nd2:(Ax q.σ).Nodup:=by have :=hq.nod;simp only[Ax,ce]at this;exact(h_.1 this).2.1
 have hinj:∀i∈Ax q.ρ,∀j∈Ax q.ρ,q.r i=q.r j->i=j:=λi hi j hj e=>by have h1:=HN hq.inj (FC nd1 hi);have h2:=HN hq.inj (FC nd1 hj);rw[<-hr1 i hi,e,hr1 j hj,h2]at h1;exact(Option.some.inj h1).symm
 have hwk:∀k∈Ax q.ρ,q.r k∈Ax q.eff.wr:=λk hk=>by simp only[CR.eff,Ax,ix];exact cr.2 ⟨_,FC nd1 hk,(hr1 k hk).symm⟩
 have hkw:∀k∈Ax q.eff.wr,∃j∈Ax q.ρ,k=q.r j:=λk hk=>by simp only[CR.eff,Ax,ix]at hk;obtain⟨p,hp,rfl⟩:=cr.1 hk;have h1:p.1∈Ax q.ρ:=cr.2 ⟨p,hp,rfl⟩;exact⟨p.1,h1,by rw[hr1 _ h1,Py nd1 hp];rfl⟩
 have obj:∀k o,Ev q.c.H0 k=some o->A4 H (q.r k)=some (o.ren q.r)/\Cj (q.eff.rd++Ax q.eff.wr) (A4 H) (q.r k)=some (o.ren q.r):=λk o ho=>by have h1:=M3 hH0 ho;exact⟨h1,by simp only[Cj,A1.2 (cz q.eff.rd (hwk k (hq.h0 k o ho).1)),h1,cond_true]⟩
 have hsome:∀k∈Ax q.ρ,∃v,g.N (q.r k)=some v:=λk hk=>by
  have :=GP.1 (hq.dom k hk);obtain⟨o,ho⟩:=dq.1 this;have h1:=V.os _ _ (obj k o ho).2;cases o with
  |ob ty ds=>obtain⟨b,c,k1,_⟩:=h1;exact⟨_,k1⟩
  |sl ty e xs=>obtain⟨b,c,k1,_⟩:=h1;exact⟨_,k1⟩
 -- what the callee sees
 let gc:G:=⟨λk=>if k∈Ax q.ρ then g.N (q.r k)else none,λk=>g.F (q.r k),g.X⟩
 have gcN:∀k∈Ax q.ρ,gc.N k=g.N (q.r k):=λk hk=>ab hk;have hSc:HS (Ev q.c.H0) gc w:=by
  refine⟨V.wf,λk o ho=> ?_,λk o ho b hb=> ?_,λk o k' o' ho ho' hne b hb hb'=> ?_⟩
  ·obtain⟨h1,h2,h3⟩:=hq.h0 k o ho;exact(Kg h2 (λj hj=>gcN j (h3 j hj)) (gcN k h1) rfl rfl).1 (V.os _ _ (obj k o ho).2)
  ·exact V.own _ _ (obj k o ho).2 b hb
  ·exact V.dis _ _ _ _ (obj k o ho).2 (obj k' o' ho').2 (λe=>hne (hinj k (hq.h0 k o ho).1 k' (hq.h0 k' o' ho').1 e)) b hb hb'
 have hvc:CS gc.X gc.N w (Ag q.c.args) true vs:=by rw[NC]at hv;refine(GD _ _ _ (J8 λd hd=>(hq.args d hd).1) λk hk=> ?_).1 hv;obtain⟨d,hd,hk⟩:=Qu hk;exact gcN k ((hq.args d hd).2 k hk)
 refine(hc.2 vs gc w hSc (λk v hk=> ?_) hvc).mono λen w' ⟨v,he,g',hp⟩=>⟨v,he,?_⟩
 ·by_cases h:k∈Ax q.ρ
  ·exact hq.dom k h
  ·rw[show gc.N k=none from aj h]at hk;cases hk
 -- behind it
 have hnone:∀k∈Ax q.σ,g.N (q.r k)=none:=λk hk=>by obtain⟨o,ho⟩:=dq.1 (GP.1 (hq.new k hk).1);refine hnew (q.r k,o.ren q.r) ?_;simp only[CR.eff,ge];exact⟨_,FC nd2 hk,by rw[ho,ew,hr2 k hk]⟩
 let G':G:=⟨λk=>match g.N k with
  |some v=>some v
  |none=>(m0 q.σ k).bind g'.N,λk=>match g.N k with
  |some _=>g.F k
  |none=>match m0 q.σ k with
   |some j=>g'.F j
   |none=>g.F k,g'.X⟩
 have GN:∀k∈Ax (q.ρ++q.σ),g'.N k=G'.N (q.r k):=λk hk=>by
  simp only[Ax,ce,bn]at hk;rcases hk with hk|hk
  ·obtain⟨v,hv⟩:=hsome k hk;have h1:gc.N k=some v:=(gcN k hk).trans hv;rw[hp.go.n k v h1];simp only[G',hv]
  ·simp only[G',hnone k hk];rw[hr2 k hk,HN hq.inj2 (FC nd2 hk)];rfl
 have GF:∀k∈Ax (q.ρ++q.σ),g'.F k=G'.F (q.r k):=λk hk=>by
  simp only[Ax,ce,bn]at hk;rcases hk with hk|hk
  ·obtain⟨v,hv⟩:=hsome k hk;have h1:gc.N k=some v:=(gcN k hk).trans hv;rw[hp.go.f k v h1];simp only[G',hv];rfl
  ·simp only[G',hnone k hk];rw[hr2 k hk,HN hq.inj2 (FC nd2 hk)]
 have hft:∀b,q.c.foot gc b->q.eff.foot (A4 H) g b:=λb ⟨k,o,h1,h2⟩=>⟨q.r k,hwk k (hq.h0 k o h1).1,_,(obj k o h1).1,h2⟩;have hft2:∀b,q.eff.foot (A4 H) g b->q.c.foot gc b:=λb ⟨k,h1,o,h2,h3⟩=>by obtain⟨j,hj,rfl⟩:=hkw k h1;obtain⟨o',ho'⟩:=dq.1 (GP.1 (hq.dom j hj));exact⟨j,o',ho',h3⟩
 have houts:∀k o,A4 q.eff.outs k=some o->∃j o',j∈Ax (q.ρ++q.σ)/\k=q.r j/\Ev q.c.H1 j=some o'/\o=o'.ren q.r:=by
  intro k o h;have h:=BS.1 h;rw[Eff.outs,Kx]at h;cases hw:Fe q.eff.wr k with
  |some x=>
   rw[hw]at h;cases h;have :∀(a:LO),(∀p∈a,p∈q.ρ)->Fe (a.map λp=>(p.2,(Ev q.c.H1 p.1).map (O.ren q.r))) k=some (some o)->∃p∈q.ρ,p.2=k/\(Ev q.c.H1 p.1).map (O.ren q.r)=some o:=by
    intro a
    induction a with
    |nil=>intro _ h;cases h
    |cons p a ih=>
     intro hm h;simp only[bg,Fe]at h;by_cases e:p.2=k
     ·have hb:Nat.beq p.2 k=true:=by rw[e];exact et k
      rw[hb]at h;simp only[cond_true,Option.some.injEq]at h;exact⟨p,hm p (bz ..),e,h⟩
     ·rw[BL e]at h;exact ih (λp hp=>hm p (a_ _ hp)) h
   obtain⟨p,hp1,hp2,hp3⟩:=this q.ρ (λ_ h=>h) hw;obtain⟨o',h1,h2⟩:=ak.1 hp3;have h3:p.1∈Ax q.ρ:=cr.2 ⟨p,hp1,rfl⟩;exact⟨p.1,o',by simp only[Ax,ce,bn];exact .inl h3,by rw[hr1 _ h3,Py nd1 hp1,hp2],h1,h2.symm⟩
  |none=>
   rw[hw]at h;have :∀(a:List (Nat×O)),Fe (a.map λp=>(p.1,some p.2)) k=some (some o)->(k,o)∈a:=by
    intro a
    induction a with
    |nil=>intro h;cases h
    |cons p a ih=>
     intro h;obtain⟨s,u⟩:=p;simp only[bg,Fe]at h;by_cases e:s=k
     ·subst e;simp at h;subst h;simp
     ·rw[BL e]at h;exact a_ _ (ih h)
   have hm:=this _ h;simp only[CR.eff,ge]at hm;obtain⟨p,hp1,hp2⟩:=hm;obtain⟨o',h1,h2⟩:=ak.1 hp2;cases h2;have h3:p.1∈Ax q.σ:=cr.2 ⟨p,hp1,rfl⟩;exact⟨p.1,o',by simp only[Ax,ce,bn];exact .inr h3,by rw[hr2 _ h3,Py nd2 hp1],h1,rfl⟩
 refine⟨G',⟨⟨⟨hp.go.ch.os,hp.go.ch.tape,hp.go.ch.output,hp.go.ch.size,λb hb hn=>hp.go.ch.blk b hb λh=>hn (hft b h)⟩,λx hx=>hp.go.s x (hft2 x hx),hp.go.x,λx hx hn=>hp.go.k x hx λh=>hn (hft x h),λk u hk=>by simp only[G',hk],λk u hk=>by simp only[G',hk]⟩,?_,⟨hp.hs.wf,λk o h=> ?_,λk o h b hb=> ?_,λk o k' o' h h' hne b hb hb'=> ?_⟩,λk o h b hb=> ?_,λk u hk=> ?_⟩⟩
 ·exact(GD q.c.res _ _ hq.res.1 λk hk=>GN k (hq.res.2 k hk)).2 hp.r
 ·obtain⟨j,o',h1,rfl,h2,rfl⟩:=houts k o h;obtain⟨h3,h4,h5⟩:=hq.h1 j o' h2;exact(Kg h4 (λi hi=>GN i (h5 i hi)) (GN j h3) (GF j h3) rfl).2 (hp.hs.os j o' h2)
 ·obtain⟨j,o',h1,rfl,h2,rfl⟩:=houts k o h;rw[<-GF j h1]at hb;exact hp.hs.own j o' h2 b hb
 ·obtain⟨j,o2,h1,rfl,h2,rfl⟩:=houts k o h;obtain⟨j',o2',h1',rfl,h2',rfl⟩:=houts k' o' h';rw[<-GF j h1]at hb;rw[<-GF j' h1']at hb';exact hp.hs.dis j o2 j' o2' h2 h2' (λe=>hne (by rw[e])) b hb hb'
 ·obtain⟨j,o',h1,rfl,h2,rfl⟩:=houts k o h;rw[<-GF j h1]at hb;exact(hp.fp j o' h2 b hb).imp (hft b) id
 ·simp only[G']at hk;cases hg:g.N k with
  |some v=>rw[hg]at hk;simp only at hk;exact .inl hk
  |none=>
   rw[hg]at hk;simp only at hk;obtain⟨j,hj,_⟩:=be.1 hk;have hm:=Ts hj;have h3:j∈Ax q.σ:=cr.2 ⟨_,hm,rfl⟩;obtain⟨o,ho⟩:=dq.1 (GP.1 (hq.new j h3).1);refine .inr (cr.2 ⟨(k,o.ren q.r),?_,rfl⟩);simp only[CR.eff,ge];exact⟨_,hm,by rw[ho];rfl⟩
theorem aV {q : CR} (hq : CRok q) (hc : ConOk P q.f q.c) (hH0 : Oh H q.r q.c.H0) (V : HS (Cj (q.eff.rd ++ Ax q.eff.wr) (A4 H)) g w) (hnew : ∀ p ∈ q.eff.nw, g.N p.1 = none) {vs : List Value} (hv : CS g.X g.N w (Ag (q.c.args.map (D.ren q.r))) true vs) :
  Calls P q.f vs.toArray w (QK λv w'=>∃g',Post (A4 H) q.eff g w v g' w'):=
 LE (E:= .returned) hq hc hH0 V hnew hv
end
end Go.Sx
namespace Go.Sx
open Go.Mi Go.RowKit
variable [Dfr]
def sL (P:Program) (t:TypeId):Option (Nat×Bool×Nat):=match P.underlying t with
 |some (.array len e)=>(N9 P e).map λp=>(len,p)
 |_=>none
def jG (P:Program) (L:DL) (t:TypeId) (x y:Operand):Option (D×List Prop):=match Fc L x,Fc L y,sL P t with
 | some (.ar k n f), some (.v (.int _ i)), some (len, fl, m) => bif Nat.ble (len * m) n then (bif fl then (bif Nat.beq m 1 then some (.v (.int k (f (pS 0 i.toNat m))), [0 <= i /\ i < (len : Int)]) else none)
   else some (.ar k m λj=>f (pS 0 i.toNat m+j),[0<=i/\i<(len:Int)]))else none
 |some (.ag d),some (.v (.int _ i)),some (len,fl,m)=>((Jm (Ig d) (i.toNat*m) m).bind (I5 fl)).map λr=>(r,[0<=i/\i<(len:Int)])
 |_,_,_=>none
section
variable {P:Program} {n:Nat} {L:DL} {ds:Option Nat} {ty:TypeId} {pos:String} {af:Array Edge} {gu:Option (Nat×Bool)} {g:G} {w:World}
theorem ZA {t:TypeId} {fl:Bool} {m o:Nat} {r:List D} {d:D} {cs:Array Value} (ht:N9 P t=some (fl,m)) (hl:o+m<=cs.size) (hs:DD g.X g.N w r ((cs.toList.drop o).take m)) (ho:∀u∈cs.toList,u.oneCell'=true) (hf:I5 fl r=some d):∃v,Sm g w d v/\(part t cs o).run P w= .ok v w:=by
 obtain⟨td,h1,h2,h3⟩:=FT ht;unfold I5 at hf;cases fl with
 |true=>
  simp only[cond_true]at hf;split at hf
  ·rename_i d0;obtain⟨v,hv,h4⟩:=S8 (DR.1 hs) hf;refine⟨v,h4,ZB h1 h2 ?_⟩;have :=dn (·[0]?) hv;simp only[gb,dc,dh,ey]at this;split at this
   ·rw[<-gh];exact this
   ·cases this
  ·cases hf
 |false=>
  simp only[cond_false,Option.some.injEq]at hf;subst hf;refine⟨_,Tb hs λu hu=>ho u (cw (cv hu)),?_⟩;obtain⟨inf,hi,hz⟩:=ak.1 h3;have hag:(isAgg t).run P w= .ok true w:=by simp only[isAgg,Sem.run_bind,Aq h1,Result.andThen_ok];cases td<;>simp_all [TypeDesc.flat]
  have e1:cs.extract o (o+m)=((cs.toList.drop o).take m).toArray:=by apply Array.ext';simp
  simp [part,hag,sizeOf,typeInfo,hi,hz,e1]
theorem jF {t:TypeId} {x y:Operand} {d:D} {ps:List Prop} (h:jG P L t x y=some (d,ps)):PureOk P n ⟨ds,.index t x y,ty,pos,af,gu⟩ L d ps:=by
 intro hp ξ g w hH _;have ae:∀{len m:Nat} {fl:Bool},sL P t=some (len,fl,m)->∃e,P.underlying t=some (.array len e)/\N9 P e=some (fl,m):=λ{len m fl} h=>by
  unfold sL at h;split at h
  ·rename_i len' e hu;obtain⟨⟨f',m'⟩,h1,h2⟩:=ak.1 h;cases h2;exact⟨e,hu,h1⟩
  ·cases h
 have fin:∀{len m:Nat} {fl:Bool} {k:IntKind} {i:Int} {cs:Array Value} {r:List D} {d:D},sL P t=some (len,fl,m)->ev (LN L ξ) x=some (.agg cs)->ev (LN L ξ) y=some (.int k i)->0<=i->i<(len:Int)->i.toNat*m+m<=cs.size->DD g.X g.N w r ((cs.toList.drop (i.toNat*m)).take m)->(∀u∈cs.toList,u.oneCell'=true)->I5 fl r=some d->∃v,Sm g w d v/\Det P ⟨ds,.index t x y,ty,pos,af,gu⟩ n (LN L ξ) w v w:=by intro len m fl k i cs r d ha hx hy h0 h1 hl hs ho hf;obtain⟨e,u1,u2⟩:=ae ha;obtain⟨v,h2,h3⟩:=ZA u2 hl hs ho hf;obtain⟨td,t1,t2,t3⟩:=FT u2;obtain⟨inf,hi,hz⟩:=ak.1 t3;refine⟨v,h2,Det.of_run λa hF=> ?_⟩;simp [execOp,hF.eval hx,hF.eval hy,Instr.index,asIntOf,Aq u1,h0,h1,sizeOf,typeInfo,hi,hz,h3]
 unfold jG at h;split at h
 ·rename_i k nn f k' i len fl m hx hy ha;cases hb:Nat.ble (len*m) nn with
  |false=>rw[hb]at h;cases h
  |true=>
   rw[hb]at h;have hb:=bq hb;obtain⟨v,hv,hs⟩:=Bh hH hx;have hs':[v]=[.agg (cells k nn f).toArray]:=hs;cases(List.cons.inj hs').1;have one:∀u∈(cells k nn f).toArray.toList,u.oneCell'=true:=λu hu=>by simp only[cells,cr]at hu;obtain⟨_,_,rfl⟩:=hu;rfl
   have key:0<=i->i<(len:Int)->i.toNat*m+m<=(cells k nn f).toArray.size/\((cells k nn f).toArray.toList.drop (i.toNat*m)).take m=cells k m λj=>f (i.toNat*m+j):=λh0 h1=>by
    have h2:(i.toNat+1)*m<=len*m:=cx _ (by omega);rw[iz,gj]at h2;refine⟨by simp [cells];omega,?_⟩;apply gi;intro j;rw[dc,dh];by_cases hj:j<m
    ·rw[ab hj,Cc hj];exact Cc (by omega)
    ·rw[aj hj,bf (by rw[Bq];omega)]
   cases fl with
   |true=>
    simp only[cond_true]at h;cases hm:Nat.beq m 1 with
    |false=>rw[hm]at h;cases h
    |true=>
     rw[hm]at h;have :=aq hm;subst this;cases h;obtain⟨k1,k2⟩:=key hp.1.1 hp.1.2;refine fin ha hv (B2 hH hy) hp.1.1 hp.1.2 k1 (r:=[.ar k 1 λj=>f (i.toNat*1+j)]) (by rw[k2];exact DR.2 rfl) one ?_;simp only[I5,oX,cond_true,et,Ny,bu,ey]
   |false=>
    cases h;obtain⟨k1,k2⟩:=key hp.1.1 hp.1.2;refine fin ha hv (B2 hH hy) hp.1.1 hp.1.2 k1 (r:=[.ar k m λj=>f (i.toNat*m+j)]) (by rw[k2];exact DR.2 rfl) one ?_;simp only[I5,mk1,cond_false,Ny,bu]
 ·rename_i d0 k' i len fl m hx hy ha;obtain⟨r,h1,h2⟩:=ak.1 h;cases h2;obtain⟨ss,h3,h4⟩:=be.1 h1;obtain⟨v,hv,l',k1,k2,k3⟩:=Bh hH hx;cases(List.cons.inj k3).1;obtain⟨q1,q2⟩:=Ib (Eu k1) h3;by_cases hm:m=0
  ·subst hm;obtain⟨e,u1,u2⟩:=ae ha;have hr:ss=[]:=by cases hsd:Ig d0<;>simp [hsd,Jm]at h3<;>exact h3
   subst hr;cases fl with
   |true=>simp [I5]at h4
   |false=>
    simp only[I5,cond_false,Option.some.injEq]at h4;subst h4;obtain⟨td,t1,t2,t3⟩:=FT u2;obtain⟨inf,hi,hz⟩:=ak.1 t3;have hag:(isAgg e).run P w= .ok true w:=by simp only[isAgg,Sem.run_bind,Aq t1,Result.andThen_ok];cases td<;>simp_all [TypeDesc.flat]
    refine⟨.agg #[],⟨[],rfl,by simp,rfl⟩,Det.of_run λa hF=> ?_⟩;have e0:(Array.extract l'.toArray 0 0)= #[]:=by apply Array.ext';simp
    simp [execOp,hF.eval hv,hF.eval (B2 hH hy),Instr.index,asIntOf,Aq u1,hp.1.1,hp.1.2,sizeOf,typeInfo,hi,hz,part,hag]
  ·rw[aj hm]at q2;exact fin ha hv (B2 hH hy) hp.1.1 hp.1.2 (by simpa using q2) (by simpa using q1) (by simpa using k2) h4
 ·cases h
end
end Go.Sx
namespace Go.Sx
open Go.Mi Go.RowKit
variable [Dfr]
theorem Oi (z:Value) (m:Nat):(Builtin.zeroCells #[z] m).toList=List.replicate m z:=by
 unfold Builtin.zeroCells;apply io
 ·simp
 ·intro i h1 h2;simp [Nat.mod_one]
theorem XG (z:Value) (m:Nat):(Builtin.zeroCells #[z] m).size=m:=by rw[<-co,Oi];simp
section
variable {P:Program} {n:Nat} {ds:Option Nat} {ty:TypeId} {pos:String} {af:Array Edge} {gu:Option (Nat×Bool)} {w:World}
theorem oZ {s x : Operand} {t tn te : TypeId} {inf : TypeInfo} {z v : Value} {k : Nat} {kk kn : IntKind} {xs : List Value} {m : Nat} {Lv : List (Nat × Value)} (ht : P.underlying t = some (.slice te)) (htn : P.underlying tn = some (.int kn)) (hi : P.info? te = some inf) (hz : inf.zero = some z) (hm : inf.size = 1) (hzs : z.oneCell' = true)
  (hs:ev Lv s=some v) (hx:ev Lv x=some (.int kk m)) (hown:Own w 0 te 1 v k xs) (h63:k+m<=9223372036854775807) (hby:(k+m)*inf.bytes<=140737488355328):
  Ok1 P ⟨ds,.call ⟨.builtin .append,#[s,x],#[t,tn]⟩,ty,pos,af,gu⟩ n Lv w λv' w'=>Own w' 0 te 1 v' (k+m) (xs++List.replicate m z)/\Ch (C8 v) w w'/\(C8 v'=C8 v\/C8 v'=[w.heap.size]):=by
 have hzc:z.cells= #[z]:=by cases z<;>simp_all [Value.cells,Value.oneCell']
 have hwr:IntKind.i64.wrap (m:Int)=m:=Er (by omega) (by omega);have hw0:IntKind.i64.wrap 0=0:=rfl;have hneg:¬((m:Int)<0):=by omega
 have hbm:m*inf.bytes<=140737488355328:=b_ (cx _ (by omega)) hby;have h48i:¬(281474976710656<(m:Int)*(inf.bytes:Int)):=by rw[<-fa];omega
 have run:∀{v' w'},(Builtin.append_ #[t,tn] ty #[v,.int kk m]).run P w= .ok v' w'->Det P ⟨ds,.call ⟨.builtin .append,#[s,x],#[t,tn]⟩,ty,pos,af,gu⟩ n Lv w v' w':=λhr=>Det.of_run λa hF=>by simp [execOp,hF.eval hs,hF.eval hx,resolve,invoke,builtin,hr]
 rcases hown.2 with⟨rfl,rfl⟩|⟨b,cap,cur,rfl,_,hb,hc,hc2,hcs,hct⟩
 ·have hx0:xs=[]:=bm (by simpa using hown.1);subst hx0;rcases fc m with rfl|hpos
  ·refine(run (v':=vN) (w':=w) ?_).mono λv' w' ⟨e1,e2⟩=> ?_
   ·simp [Builtin.append_,Aq ht,Aq htn,sizeOf,typeInfo,hi,asInt,asIntOf,hw0]
   ·subst e1;subst e2;exact⟨⟨by simp,.inl ⟨rfl,rfl⟩⟩,Ch.refl _ _,.inl rfl⟩
  ·have hr:=Lib.run_append_grow_zeros (P:=P) w t tn ty te inf z kk kn ht htn hi hz none 0 0 [] (run_firstCells_none w.drew _ 0 0 0) m hpos (by omega) (by omega) (by omega) (by omega) (growslice_fits (need:=0+m) (old:=0) (by omega) hby);refine(run hr).mono λv' w' ⟨e1,e2⟩=> ?_;subst e1;subst e2;obtain⟨G,hG⟩:∃G,G=grownCap w (0+m) 0 te:=⟨_,rfl⟩;have hGn:0+m<=grownCap w (0+m) 0 te:=grownCap_ge w _ _ _;have hG63:=grownCap_le_maxLen w (0+m) 0 te (by unfold maxLen;omega);rw[<-hG]at hGn hG63⊢;have hch:Ch [] w w.drew:=⟨rfl,rfl,rfl,an _,λ_ _ _=>rfl⟩;have hnb:NewB w.drew (w.drew.alloc (.cells (([]:List Value).toArray++Builtin.zeroCells z.cells m++Builtin.zeroCells z.cells (G-(0+m))) te)) w.heap.size _ te:=⟨rfl,rfl⟩;refine⟨⟨by simp,.inr ⟨_,G,_,rfl,br _,(NewB.at hnb).2.1,hGn,hG63,?_,?_⟩⟩,?_,.inr rfl⟩
   ·rw[hzc];simp only[Array.size_append,XG];simp;omega
   ·rw[hzc];simp only[Array.toList_append,Oi];simp
   ·exact(hch.trans hnb.ch).mono (by simp)
 ·by_cases hroom:k+m<=cap
  ·have hfit:0+k*inf.size+(List.replicate m z).length<=cur.size:=by rw[hm,hcs];simp;omega
   have hst:=run_storeCells_at P b (0+k*inf.size) te (List.replicate m z) 0 cur w hb (by simpa using hfit) (λu hu=>by rw[(List.mem_replicate.1 hu).2];exact hzs);have happ:(Builtin.append_ #[t,tn] ty #[vS b 0 k cap,.int kk m]).run P w= .ok (vS b 0 (k+m) cap) (w.setRow b (cur.toList.take (0+k*inf.size)++List.replicate m z++cur.toList.drop (0+k*inf.size+m)).toArray):=by
    rcases fc m with rfl|hpos
    ·have e0:(cur.toList.take (0+k*inf.size)++List.replicate 0 z++cur.toList.drop (0+k*inf.size+0)).toArray=cur:=by simp
     rw[e0,setRow_self w b cur te (0,0) hb];have h5:(storeCells ((⟨b,0,none⟩:Addr).add (k*inf.size)) []).run P w= .ok () w:=rfl;simp [Builtin.append_,Aq ht,Aq htn,sizeOf,typeInfo,hi,asInt,asIntOf,hw0,h5];exact λh=>by omega
    ·have hns:¬(m*inf.size=0):=Nat.mul_ne_zero (by omega) (by omega);have e1:(Builtin.zeroCells z.cells m).toList=List.replicate m z:=by rw[hzc,Oi]
     have hst2:(storeCells ((⟨b,0,none⟩:Addr).add (k*inf.size)) (List.replicate m z)).run P w= .ok () (w.setRow b (cur.toList.take (0+k*inf.size)++List.replicate m z++cur.toList.drop (0+k*inf.size+m)).toArray):=by rw[Dm];simpa using hst
     simp [Builtin.append_,Aq ht,Aq htn,sizeOf,typeInfo,zeroValue,hi,hz,asInt,asIntOf,hwr,hroom,hneg,h48i,hns,e1,hst2]
   refine(run happ).mono λv' w' ⟨e1,e2⟩=> ?_;subst e1;subst e2;have hkc:(cur.toList.take (0+k*inf.size))=xs:=by rw[hm];simpa using hct
   refine⟨⟨by rw[ah,hown.1];simp,.inr ⟨b,cap,_,rfl,br _,setRow_heap w b cur _ te _ hb,hroom,hc2,?_,?_⟩⟩,⟨rfl,rfl,rfl,by simp,λj _ hn=>setRow_other w b j _ λe=>hn (by simp [C8,e])⟩,.inl rfl⟩
   ·have h1:=hown.1;have hcl:cur.toList.length=cur.size:=co;simp only[List.size_toArray,ah,hkc,az,au];rw[hm];omega
   ·rw[hkc];have h1:=hown.1;rw[ck (by simp;omega),bp (by simp;omega)]
  ·have hold : (Builtin.firstCells inf.size k (vS b 0 k cap)).run P w.drew = .ok xs.toArray w.drew := by
    have ha:At w.drew b 0 xs:=by
     rcases hown.at with⟨h1,_⟩|⟨b',cap',h1,_,h2⟩
     ·cases h1
     ·cases h1;exact h2
    have :=run_loadCells_list (P:=P) w.drew ⟨b,0,none⟩ xs (λj u hj=>by rw[Dm];exact ha j u hj);simp only[Builtin.firstCells];rw[show k*inf.size=xs.length by rw[hown.1,hm]];exact this
   have hr:=Lib.run_append_grow_zeros (P:=P) w t tn ty te inf z kk kn ht htn hi hz (some ⟨b,0,none⟩) k cap xs hold m (by omega) (by omega) (by omega) (by omega) (by omega) (growslice_fits (need:=k+m) (old:=cap) (by omega) hby);refine(run hr).mono λv' w' ⟨e1,e2⟩=> ?_;subst e1;subst e2;obtain⟨G,hG⟩:∃G,G=grownCap w (k+m) cap te:=⟨_,rfl⟩;have hGn:k+m<=grownCap w (k+m) cap te:=grownCap_ge w _ _ _;have hG63:=grownCap_le_maxLen w (k+m) cap te (by unfold maxLen;omega);rw[<-hG]at hGn hG63⊢;have hch:Ch [] w w.drew:=⟨rfl,rfl,rfl,an _,λ_ _ _=>rfl⟩;have hnb:NewB w.drew (w.drew.alloc (.cells (xs.toArray++Builtin.zeroCells z.cells m++Builtin.zeroCells z.cells (G-(k+m))) te)) w.heap.size _ te:=⟨rfl,rfl⟩;have h1:=hown.1;refine⟨⟨by rw[ah,hown.1];simp,.inr ⟨_,G,_,rfl,br _,(NewB.at hnb).2.1,hGn,hG63,?_,?_⟩⟩,?_,.inr rfl⟩
   ·rw[hzc];simp only[Array.size_append,XG];simp;omega
   ·rw[hzc];simp only[Array.toList_append,Oi,bw];rw[<-bw,ck (by simp;omega),bp (by simp;omega)]
   ·exact(hch.trans hnb.ch).mono (by simp)
structure Az where
 te:TypeId
 a:Fk
 xs:List a.T
 q:a.T
 i:Int
 wr:Hp
 bytes:Nat
def YB (P:Program) (t:TypeId):Bool:=match P.underlying t with
 |some (.int _)=>true
 |_=>false
def Aaz:(e:List Fk)->List (RT e)->Option (Σ a:Fk,List a.T)
 |[a],xs=>some ⟨a,xs⟩
 |_,_=>none
def qU (P:Program) (K:Kt) (L:DL) (H:Hp) (t tn:TypeId) (s x:Operand):Option Az:=bif YB P tn then(match LB P t,Fc L s,Fc L x with
 |some te,some (.v (.slice none 0 0)),some (.v (.int _ i))=>(match P.info? te,lkK K te with
  |some inf,some [a]=>(match inf.zero with
   |some z=>bif Nat.beq inf.size 1&&z.oneCell' then(cN a (.v z)).map λq=>⟨te,a,[],q,i,[],inf.bytes⟩else none
   |none=>none)
  |_,_=>none)
 |some te,some (.sk k),some (.v (.int _ i))=>(match P.info? te,A4 H k with
  |some inf,some (.sl te' e xs)=>(match inf.zero,Aaz e xs with
   |some z,some ⟨a,ys⟩=>bif Nat.beq inf.size 1&&z.oneCell'&&Nat.beq te te'&&Nat.beq e.length 1 then(cN a (.v z)).map λq=>⟨te,a,ys,q,i,[(k,none)],inf.bytes⟩else none
   |_,_=>none)
  |_,_=>none)
 |_,_,_=>none)else none
def Az.eff (A:Az) (nb:Nat):Eff×List Prop:=(⟨[],A.wr,[(nb,.sl A.te [A.a] (A.xs++List.replicate A.i.toNat A.q))],.sk nb⟩,[0<=A.i,A.xs.length+A.i.toNat<=9223372036854775807,(A.xs.length+A.i.toNat)*A.bytes<=140737488355328])
theorem oW:∀{e:List Fk} {xs:List (RT e)} {a:Fk} {ys:List a.T},Aaz e xs=some ⟨a,ys⟩->e=[a]/\HEq xs ys
 |[a],xs,a',ys,h=>by
  cases h;exact⟨rfl,HEq.rfl⟩
 |[],xs,a',ys,h=>by cases h
 |_::_::_,xs,a',ys,h=>by cases h
theorem qT {K:Kt} {L:DL} {H:Hp} {t tn:TypeId} {s x:Operand} {A:Az} {nb:Nat} (h:qU P K L H t tn s x=some A) (hp:AllP (A.eff nb).2):EOk P n ⟨ds,.call ⟨.builtin .append,#[s,x],#[t,tn]⟩,ty,pos,af,gu⟩ L (A4 H) (A.eff nb).1:=by
 have hI:∃kn,P.underlying tn=some (.int kn):=by
  unfold qU at h;cases hb:YB P tn with
  |false=>rw[hb]at h;cases h
  |true=>
   unfold YB at hb;split at hb
   ·rename_i kn hu;exact⟨kn,hu⟩
   ·cases hb
 obtain⟨kn,htn⟩:=hI;obtain⟨p1,p2,p3,_⟩:=hp;intro ξ g w V hH hn;have hS':HS (Cj ([]++Ax A.wr) (A4 H)) g w:=V;have key:∃inf z v u kk,P.underlying t=some (.slice A.te)/\P.info? A.te=some inf/\inf.zero=some z/\inf.size=1/\z.oneCell'=true/\inf.bytes=A.bytes/\fS g.X g.N w A.a A.q z/\ev (LN L ξ) s=some v/\ev (LN L ξ) x=some u/\u= .int kk A.i/\(∃ls,Own w 0 A.te 1 v A.xs.length ls.flatten/\Fa2 (rS g.X g.N w [A.a]) A.xs ls)/\((A.wr=[]/\C8 v=[])\/∃k o,A.wr=[(k,none)]/\A4 H k=some o/\g.F k=C8 v):=by
  unfold qU at h;cases hb:YB P tn with
  |false=>rw[hb]at h;cases h
  |true=>
   rw[hb]at h;simp only[cond_true]at h;split at h
   ·rename_i te kk i he hs hx;split at h
    ·rename_i inf a hi hk;split at h
     ·rename_i z hz;cases hc:Nat.beq inf.size 1&&z.oneCell' with
      |false=>rw[hc]at h;cases h
      |true=>
       rw[hc]at h;rw[ap]at hc;obtain⟨q,hq,rfl⟩:=ak.1 h;exact⟨inf,z,vN,_,kk,Hr he,hi,hz,aq hc.1,hc.2,rfl,(Ld (X:=g.X) (N:=g.N) (w:=w) (m:=true) (v:=z) (d:= .v z) (show[z]=[z]from rfl) hq).1,B2 hH hs,B2 hH hx,rfl,⟨[],⟨by simp,.inl ⟨rfl,rfl⟩⟩,aa⟩,.inl ⟨rfl,rfl⟩⟩
     ·cases h
    ·cases h
   ·rename_i te k kk i he hs hx;split at h
    ·rename_i inf te' e xs hi hk;split at h
     ·rename_i z a ys hz ho;cases hc:Nat.beq inf.size 1&&z.oneCell'&&Nat.beq te te'&&Nat.beq e.length 1 with
      |false=>rw[hc]at h;cases h
      |true=>
       rw[hc]at h;simp only[ap]at hc;obtain⟨⟨⟨c1,c2⟩,c3⟩,c4⟩:=hc;have :=aq c3;subst this;obtain⟨q,hq,rfl⟩:=ak.1 h;obtain⟨rfl,hh⟩:=oW ho;have hh2:xs=ys:=eq_of_heq hh;subst hh2;obtain⟨v,hv,v',h1,h2,_⟩:=Bh hH hs;cases(List.cons.inj h2).1;obtain⟨v2,ls,k1,k2,k3,k4,k5,k6⟩:=hS'.os k _ (by simp only[Cj,A1.2 (show k∈[]++Ax [(k,(none:Option O))] by simp [Ax])];exact hk);rw[h1]at k1;cases k1;exact⟨inf,z,v,_,kk,Hr he,hi,hz,aq c1,c2,rfl,(Ld (X:=g.X) (N:=g.N) (w:=w) (m:=true) (v:=z) (d:= .v z) (show[z]=[z]from rfl) hq).1,hv,B2 hH hx,rfl,⟨ls,k3,k5⟩,.inr ⟨k,_,rfl,hk,k2⟩⟩
     ·cases h
    ·cases h
   ·cases h
 obtain⟨inf,z,v,u,kk,ht,hi,hz,h1,h2,hb,hf,hv,hu,rfl,⟨ls,o1,o2⟩,hwr⟩:=key;obtain⟨m,hm⟩:=cb p1;rw[hm]at hu p2 p3;simp only[bh]at p2 p3;have hfl:∀k:Nat,Fa2 (rS g.X g.N w [A.a]) (List.replicate k A.q) (List.replicate k [z]):=by
  intro k
  induction k with
  |zero=>trivial
  |succ k ih=>exact⟨⟨z,rfl,hf⟩,ih⟩
 have hfl2:∀k:Nat,List.replicate k z=(List.replicate k [z]).flatten:=by
  intro k
  induction k with
  |zero=>rfl
  |succ k ih=>simp [List.replicate_succ,<-ih]
 have hft:∀b∈C8 v,Eff.foot (A.eff nb).1 (A4 H) g b:=λb hb=>by
  rcases hwr with⟨_,h0⟩|⟨k,o,e1,e2,e3⟩
  ·rw[h0]at hb;simp at hb
  ·exact⟨k,by simp [Az.eff,e1,Ax],o,e2,by rw[e3];exact hb⟩
 have hkw:nb∉Ax A.wr:=λhk=>by
  rcases hwr with⟨h0,_⟩|⟨k,o,e1,e2,e3⟩
  ·rw[h0]at hk;simp [Ax]at hk
  ·rw[e1]at hk;simp only[Ax,bg,fg,bo]at hk;subst hk;have hos:OS g w nb o:=hS'.os nb o (by simp only[Cj,A1.2 (show nb∈[]++Ax A.wr by simp [e1,Ax])];exact e2);have hN:g.N nb=none:=hn (nb,_) (bo.2 rfl);cases o with
   |ob ty ds=>obtain⟨b,c,k1,_⟩:=hos;rw[hN]at k1;cases k1
   |sl ty e xs=>obtain⟨b,c,k1,_⟩:=hos;rw[hN]at k1;cases k1
 have hmi:A.i.toNat=m:=by rw[hm];rfl
 refine(oZ ht htn hi hz h1 h2 hv hu o1 p2 (by rw[hb];exact p3)).mono λv' w' ⟨q1,q2,q3⟩=> ?_;have hfa:Fa2 (rS g.X g.N w [A.a]) (A.xs++List.replicate m A.q) (ls++List.replicate m [z]):=Fa2.append (α:=RT [A.a]) o2 (hfl m);refine Post.new (u:=v') (F:=C8 v') hS' (hn (nb,_) (bo.2 rfl)) (λp hp=> ?_) hkw ⟨q2.os,q2.tape,q2.output,q2.size,λb hb hnf=>q2.blk b hb λhm=>hnf (hft b hm)⟩ (λb hb=>⟨?_,(q1.lt b hb).2⟩) λg' hg hN hF=>⟨⟨v',ls++List.replicate m [z],hN,hF,?_,?_,?_,FX hfa⟩,⟨v',hN,rfl,?_⟩⟩
 ·rcases hwr with⟨h0,_⟩|⟨k,o,e1,_⟩
  ·rw[h0]at hp;simp at hp
  ·rw[e1]at hp;simp at hp;rw[hp]
 ·rcases q3 with q3|q3
  ·rw[q3]at hb;exact .inl (hft b hb)
  ·rw[q3]at hb;simp at hb;exact .inr (by omega)
 ·have e3:(A.xs++List.replicate m A.q).length=A.xs.length+m:=by simp
  rw[hmi,de,<-hfl2];show Own w' 0 A.te 1 v' (A.xs++List.replicate m A.q).length _;rw[e3];exact q1
 ·have e3:(A.xs++List.replicate m A.q).length=A.xs.length+m:=by simp
  rw[hmi];show(A.xs++List.replicate m A.q).length<=maxLen;rw[e3];simp only[maxLen];omega
 ·rw[hmi];exact hfa.mono (FY hg.goes [A.a])
 ·rcases q1.at with⟨rfl,_⟩|⟨b,cap,rfl,_⟩<;>rfl
end
end Go.Sx
namespace Go.Sx
open Go.Mi Go.RowKit
variable [Dfr]
def cpA (kk:IntKind) (n:Nat) (xs:List Int):List D->Nat->Option (List D)
 |[],_=>none
 |d::ds,o=>bif Nat.ble (HT d) o then(cpA kk n xs ds (o-HT d)).map (d:: ·)else match d with
  | .ar k N f=>bif Ua kk k&&Nat.ble (o+n) N then some (.ar k N (Ek f o (min xs.length n) λj=>xs.getD j 0)::ds)else none
  |_=>none
def Tt (kk:IntKind):(e:List Fk)->List (RT e)->Option (List Int)
 |[.int k],xs=>bif Ua kk k then some xs else none
 |_,_=>none
theorem Z1 {kk:IntKind}:∀{e:List Fk} {xs:List (RT e)} {ys:List Int},Tt kk e xs=some ys->e=[.int kk]/\HEq xs ys
 |[.int k],xs,ys,h=>by
  simp only[Tt]at h;cases hk:Ua kk k with
  |false=>rw[hk]at h;cases h
  |true=>
   rw[hk]at h;obtain rfl:=cj hk;cases h;exact⟨rfl,HEq.rfl⟩
section
variable {P:Program} {n:Nat} {L:DL} {ds:Option Nat} {ty:TypeId} {pos:String} {af:Array Edge} {gu:Option (Nat×Bool)} {g g':G} {w w':World} {H:Hp}
theorem Post.res {F:Nat->Option O} {rd rd':List Nat} {wr:Hp} {nw:List (Nat×O)} {r d:D} {v u:Value} (h:Post F ⟨rd,wr,nw,r⟩ g w v g' w') (hd:Sm g' w' d u):Post F ⟨rd',wr,nw,d⟩ g w u g' w':=⟨h.go,hd,h.hs,h.fp,h.nm⟩
theorem Post.same {F:Nat->Option O} {k:Nat} {o o':O} {v:Value} (V:HS (Cj [k] F) g w) (hk:F k=some o) (ho:OS g w k o'):Post F ⟨[],[(k,some o')],[],.top⟩ g w v g w:=by
 have hk':Cj [k] F k=some o:=by simp [Cj,CN,hk]
 have e1:∀j q,A4 (Eff.outs ⟨[],[(k,some o')],[],.top⟩) j=some q->j=k/\q=o':=λj q h=>by
  simp only[Eff.outs,fg,fm,A4,Fe]at h;by_cases e:k=j
  ·subst e;simp at h;exact⟨rfl,h.symm⟩
  ·rw[BL e]at h;cases h
 have hft:∀x,x∈g.F k->Eff.foot ⟨[],[(k,some o')],[],.top⟩ F g x:=λx hx=>⟨k,by simp [Ax],o,hk,hx⟩;have hft2:∀x,Eff.foot ⟨[],[(k,some o')],[],.top⟩ F g x->x∈g.F k:=λx ⟨j,h1,q,h2,h3⟩=>by simp only[Ax,bg,fg,bo]at h1;subst h1;exact h3
 refine⟨Go.refl _ _ _ λx hx=>V.own k o hk' x (hft2 x hx),⟨v,rfl⟩,⟨V.wf,λj q h=> ?_,λj q h x hx=> ?_,λj q j' q' h h' hne=> ?_⟩,λj q h x hx=> ?_,λj u h=> .inl h⟩
 ·obtain⟨rfl,rfl⟩:=e1 j q h;exact ho
 ·obtain⟨rfl,rfl⟩:=e1 j q h;exact V.own j o hk' x hx
 ·exact absurd ((e1 j q h).1.trans (e1 j' q' h').1.symm) hne
 ·obtain⟨rfl,rfl⟩:=e1 j q h;exact .inl (hft x hx)
theorem Lu {α:Type}:∀{ls:List (List α)} (k:Nat),(∀l∈ls,l.length=1)->(ls.take k).flatten=ls.flatten.take k
 |[],k,_=>by simp
 |l::ls,0,_=>by simp
 |l::ls,k+1,h=>by obtain⟨a,rfl⟩:=List.length_eq_one_iff.1 (h l (bz ..));simp [Lu k λl hl=>h l (a_ _ hl)]
theorem Lw {α:Type}:∀{ls:List (List α)} (k:Nat),(∀l∈ls,l.length=1)->(ls.drop k).flatten=ls.flatten.drop k
 |[],k,_=>by simp
 |l::ls,0,_=>by simp
 |l::ls,k+1,h=>by obtain⟨a,rfl⟩:=List.length_eq_one_iff.1 (h l (bz ..));simp [Lw k λl hl=>h l (a_ _ hl)]
theorem Src.ints {kk:IntKind} {e:List Fk} {xs:List (RT e)} {ys:List Int} {v:Value} (h:Src g w e xs v) (hc:Tt kk e xs=some ys):Src g w [.int kk] (ys:List (RT [.int kk])) v:=by obtain⟨rfl,h2⟩:=Z1 hc;have h3:xs=ys:=eq_of_heq h2;exact h3▸h
theorem kI {X:Nat->Prop} {N:Nat->Option Value} {kk:IntKind} {m:Nat} {xs:List Int}:∀{ss:List D} {o:Nat} {r:List D} {l:List Value},DD X N w ss l->cpA kk m xs ss o=some r->DD X N w r (l.take o++(xs.take (min xs.length m)).map (Value.int kk)++l.drop (o+min xs.length m))/\o+m<=l.length
 |[],o,r,l,_,hp=>by simp [cpA]at hp
 |d::ss,o,r,l,⟨l1,l2,e',h1,h2⟩,hp=>by
  subst e';have hl:=GE h1;simp only[cpA]at hp;cases hb:Nat.ble (HT d) o with
  |true=>
   rw[hb]at hp;have hle:=bq hb;obtain⟨r',hr,rfl⟩:=ak.1 hp;obtain⟨k1,k2⟩:=kI h2 hr;refine⟨⟨l1,_,?_,h1,k1⟩,by simp;omega⟩;rw[ff,bp (by omega),fw,dm (by omega),hl];simp only[dx,bw];rw[show o+min xs.length m-HT d=o-HT d+min xs.length m by omega]
  |false=>
   rw[hb]at hp;simp only[cond_false]at hp;cases d with
   |ar k N' f=>
    simp only at hp;have h1':l1=cells k N' f:=h1;have hn:l1.length=N':=by rw[h1',Bq]
    cases hc:Ua kk k&&Nat.ble (o+m) N' with
    |false=>rw[hc]at hp;cases hp
    |true=>
     rw[hc]at hp;rw[ap]at hc;obtain rfl:=cj hc.1;have hle:=bq hc.2;simp only[cond_true,Option.some.injEq]at hp;subst hp;refine⟨⟨l1.take o++(xs.take (min xs.length m)).map (Value.int kk)++l1.drop (o+min xs.length m),l2,?_,?_,h2⟩,by simp;omega⟩
     ·rw[ck (by omega),du (by omega)];simp
     ·show _=cells kk N' _;rw[h1'];apply gi;intro j;by_cases hj:j<N'
      ·rw[Cc hj,bw,f_,ao,Bq,ei (by omega)];by_cases h3:j<o
       ·rw[ab h3,dc,ab h3,Cc hj];have :Nat.ble o j=false:=by
         cases hb:Nat.ble o j with
         |false=>rfl
         |true=>have :=bq hb;omega
        simp [Ek,this]
       ·rw[aj h3,f_,cg,ao,ei (by omega)];by_cases h4:j<o+min xs.length m
        ·rw[ab (by omega),eo,dc,ab (by omega)];have h5:Nat.ble o j=true:=fu (by omega);have h6:Nat.blt j (o+min xs.length m)=true:=by rw[ay];exact h4
         have h7:j-o<xs.length:=by omega
         simp [Ek,h5,h6,am h7,List.getD]
        ·rw[aj (by omega),dh,show o+min xs.length m+(j-o-min xs.length m)=j by omega,Cc hj];have h6:Nat.blt j (o+min xs.length m)=false:=by
          cases hb:Nat.blt j (o+min xs.length m)with
          |false=>rfl
          |true=>rw[ay]at hb;omega
         simp [Ek,h6]
      ·rw[bf (by simp [Bq];omega),bf (by rw[Bq];omega)]
   |_=>simp at hp
structure Cp where
 k:Nat
 rd:List Nat
 o:O
 n:Int
def xG (P:Program) (L:DL) (H:Hp) (t:TypeId) (x y:Operand):Option Cp:=match UE P t,Fc L x,(Fc L y).bind (dI H)with
 |some 1,some (.sv k o m),some q=>(match A4 H k with
  |some (.ob ty d)=>bif CN k q.rd then none else(match Ig d,q.e with
   |ss,[.int kk]=>(Tt kk q.e q.xs).bind λxs=>(cpA kk m xs ss o).map λr=>⟨k,q.rd,.ob ty (Ag r),((min xs.length m:Nat):Int)⟩
   |_,_=>none)
  |_=>none)
 |some 1,some (.sk k),some q=>(match A4 H k with
  |some (.sl te e xs)=>bif CN k q.rd|| !(Nat.beq e.length 1)then none else(Se q.e e q.xs).map λys=>⟨k,q.rd,.sl te e (ys.take xs.length++xs.drop ys.length),((min ys.length xs.length:Nat):Int)⟩
  |_=>none)
 |_,_,_=>none
def Cp.eff (c:Cp):Eff:=⟨c.rd,[(c.k,some c.o)],[],.v (.int .i64 c.n)⟩
theorem Yl {x y : Operand} {t t' te : TypeId} {b o len cap T : Nat} {cur : Array Value} {v : Value} {e : List Fk} {ys : List (RT e)} {Lv : List (Nat × Value)} (ht : P.underlying t = some (.slice te)) (hs : (P.info? te).map (·.size) = some 1) (he : e.length = 1) (hx : ev Lv x = some (vS b o len cap)) (hy : ev Lv y = some v) (hsr : Src g w e ys v) (hb : w.heap[b]? = some (.cells cur T (0, 0))) (hc : o + len <= cur.size) :
  Ok1 P ⟨ds,.call ⟨.builtin .copy,#[x,y],#[t,t']⟩,ty,pos,af,gu⟩ n Lv w λv' w'=>v'= .int .i64 ((min ys.length len:Nat):Int)/\∃ls,Fa2 (rS g.X g.N w e) ys ls/\Upd w w' b (put cur o (ls.flatten.take (min ys.length len))) T:=by
 cases hsr with
 |nil h1 h2=>
  subst h2;have hr:(Builtin.copy_ #[t,t'] ty #[.slice (some ⟨b,o,none⟩) len cap,v]).run P w= .ok (goInt 0) w:=by
   rcases h1 with rfl|⟨a0,c0,rfl⟩
   ·exact run_copy_nil P w t t' ty te ⟨b,o,none⟩ len cap ht (by rw[hs];rfl)
   ·have hl0:=run_loadCells_list (P:=P) w a0 [] (by simp);simp only[av]at hl0;cases hq:P.info? te with
    |none=>simp [hq]at hs
    |some i=>simp [Builtin.copy_,Aq ht,Builtin.lenOf,Builtin.firstCells,sizeOf,typeInfo,hq,hl0,storeCells]
  have hd:Det P ⟨ds,.call ⟨.builtin .copy,#[x,y],#[t,t']⟩,ty,pos,af,gu⟩ n Lv w (.int .i64 0) w:=Det.of_run λa hF=>by simp [execOp,hF.eval hx,hF.eval hy,resolve,invoke,builtin,hr,goInt]
  refine hd.mono λv' w' ⟨e1,e2⟩=> ?_;subst e1;subst e2;refine⟨by simp,[],aa,?_⟩;have :put cur o ((([]:List (List Value)).flatten).take (min ([]:List (RT e)).length len))=cur:=by apply Array.ext';rw[C5];simp
  rw[this];exact Upd.refl hb
 |«at» b' o' c' ls h1 h2 h3=>
  subst h1;have hml:ls.flatten.length=ys.length:=by rw[Dj h3.row,h3.len,he,ga]
  have hcs:(ls.flatten.take (min ys.length len)).length=min ys.length len:=by rw[ao,hml];omega
  have hr:=run_copy_row P w t t' ty te b o len cap ⟨b',o',none⟩ ys.length c' cur T (ls.flatten.take (min ys.length len)) ht hs hb (by rw[hcs]) (λj u hj=>by
   rw[Dm];rw[dc]at hj;split at hj
   ·exact h2 j u hj
   ·cases hj) (by rw[hcs];omega) (λu hu=>FX h3 u (cv hu))
  have hd:Det P ⟨ds,.call ⟨.builtin .copy,#[x,y],#[t,t']⟩,ty,pos,af,gu⟩ n Lv w (.int .i64 ((min ys.length len:Nat):Int)) (w.setRow b (put cur o (ls.flatten.take (min ys.length len)))):=Det.of_run λa hF=>by simp [execOp,hF.eval hx,hF.eval hy,resolve,invoke,builtin,hr,goInt,hcs,put]
  refine hd.mono λv' w' ⟨e1,e2⟩=> ?_;subst e1;subst e2;exact⟨rfl,ls,h3,O_ hb _⟩
theorem qR {t t':TypeId} {x y:Operand} {c:Cp} (h:xG P L H t x y=some c):EOk P n ⟨ds,.call ⟨.builtin .copy,#[x,y],#[t,t']⟩,ty,pos,af,gu⟩ L (A4 H) c.eff:=by
 intro ξ g w V hH _;unfold xG at h;split at h
 ·rename_i k o m q hsi hx hq;obtain⟨te,u1,u2⟩:=H4 hsi;split at h
  ·rename_i T d hk;cases hm:CN k q.rd with
   |true=>rw[hm]at h;cases h
   |false=>
    rw[hm]at h;simp only[cond_false]at h;split at h
    ·rename_i kk he;obtain⟨xs,h1,h2⟩:=be.1 h;obtain⟨r,h3,rfl⟩:=ak.1 h2;have hS1:HS (Cj (q.rd++[k]) (A4 H)) g w:=V;have obj:∀j o,j∈q.rd++[k]->A4 H j=some o->OS g w j o:=λj o hj ho=>hS1.os j o (by simp only[Cj,A1.2 hj];exact ho);obtain⟨dy,hy1,hy2⟩:=be.1 hq;obtain⟨u,hu,hus⟩:=Bh hH hy1;have hsr:=Ol (λj o hj ho=>obj j o (eu _ hj) ho) hy2 hus;obtain⟨v,hv,b,cc,e1,e2,e3,e4⟩:=Bh hH hx;cases(List.cons.inj e2).1;obtain⟨b',c,k1,k2,k3,k4,k5⟩:=obj k _ (by simp) hk;rw[k1]at e1;cases e1;obtain⟨p1,p2⟩:=kI (Eu k4) h3;have hsr':=hsr.ints h1;refine(Yl (e:=[.int kk]) (ys:=(xs:List (RT [.int kk]))) u1 u2 rfl hv hu hsr' k3 (by simpa using p2)).mono λv' w' ⟨q1,ls,q2,q3⟩=>⟨g,Post.res (rd:=[]) (r:= .top) (v:=v') (Post.upd (hS1.sub λj o hj=> ?_) hk k2 q3 λw' hgo hb=> ?_) (by subst q1;rfl)⟩
     ·simp only[Cj,CN]at hj⊢;by_cases e:j=k
      ·subst e;simp at hj;rw[A1.2 (by simp)];exact hj
      ·rw[BL e]at hj;cases hj
     ·obtain⟨vs,rfl,h4⟩:=Lg q2;have hvs:vs=xs.map (Value.int kk):=OF h4;have e5:((vs.map λv=>[v]).flatten.take (min xs.length m))=(xs.take (min xs.length m)).map (Value.int kk):=by rw[Vx rfl,hvs,List.map_take]
      have e6:((xs.take (min xs.length m)).map (Value.int kk)).length=min xs.length m:=by simp
      refine⟨_,_,k1,k2,hb,?_,?_⟩
      ·rw[C5];show CS g.X g.N w' (Ag r) false (c.toList.take o++((vs.map λv=>[v]).flatten.take (min xs.length m))++c.toList.drop (o+((vs.map λv=>[v]).flatten.take (min xs.length m)).length));rw[e5,e6];exact GY hgo.goes _ _ _ (FI.2 p1)
      ·intro z hz;rw[C5]at hz;have hz:z∈c.toList.take o++((vs.map λv=>[v]).flatten.take (min xs.length m))++c.toList.drop (o+((vs.map λv=>[v]).flatten.take (min xs.length m)).length):=hz;rw[e5]at hz;rcases bn.1 hz with hz|hz
       ·rcases bn.1 hz with hz|hz
        ·exact k5 z (cv hz)
        ·obtain⟨_,_,rfl⟩:=cr.1 hz;rfl
       ·exact k5 z (cw hz)
    ·cases h
  ·cases h
 ·rename_i k q hsi hx hq;obtain⟨te,u1,u2⟩:=H4 hsi;split at h
  ·rename_i T e xs hk;cases hm:CN k q.rd|| !(Nat.beq e.length 1)with
   |true=>rw[hm]at h;cases h
   |false=>
    rw[hm]at h;simp only[Bool.or_eq_false_iff,Bool.not_eq_false']at hm;have he1:=aq hm.2;simp only[cond_false]at h;obtain⟨ys,h1,rfl⟩:=ak.1 h;have hS1:HS (Cj (q.rd++[k]) (A4 H)) g w:=V;have obj:∀j o,j∈q.rd++[k]->A4 H j=some o->OS g w j o:=λj o hj ho=>hS1.os j o (by simp only[Cj,A1.2 hj];exact ho);obtain⟨dy,hy1,hy2⟩:=be.1 hq;obtain⟨u,hu,hus⟩:=Bh hH hy1;have hsr:=(Ol (λj o hj ho=>obj j o (eu _ hj) ho) hy2 hus).cast h1;obtain⟨v,hv,v',e1,e2,_⟩:=Bh hH hx;cases(List.cons.inj e2).1;obtain⟨v2,ls,k1,k2,k3,k4,k5,k6⟩:=obj k _ (by simp) hk;rw[e1]at k1;cases k1;rcases k3.2 with⟨rfl,h0⟩|⟨b,cap,cur,rfl,_,hb,hc,hc2,hcs,hct⟩
    ·have hx0:xs=[]:=bm h0;subst hx0;have hd:Det P ⟨ds,.call ⟨.builtin .copy,#[x,y],#[t,t']⟩,ty,pos,af,gu⟩ n (LN L ξ) w (.int .i64 0) w:=Det.of_run λa hF=>by
      obtain⟨inf,hi,hz⟩:=ak.1 u2;cases hsr with
      |nil h1 h2=>
       rcases h1 with rfl|⟨a0,c0,rfl⟩
       ·simp [execOp,hF.eval hv,hF.eval hu,resolve,invoke,builtin,Builtin.copy_,Aq u1,Builtin.lenOf,Builtin.firstCells,sizeOf,typeInfo,hi,goInt]
       ·have hl:(loadCells a0 0).run P w= .ok #[] w:=rfl;simp [execOp,hF.eval hv,hF.eval hu,resolve,invoke,builtin,Builtin.copy_,Aq u1,Builtin.lenOf,Builtin.firstCells,sizeOf,typeInfo,hi,goInt,hl]
      |«at» b o c ls h1 h2 h3=>
       subst h1;have hl:(loadCells ⟨b,o,none⟩ 0).run P w= .ok #[] w:=rfl;simp [execOp,hF.eval hv,hF.eval hu,resolve,invoke,builtin,Builtin.copy_,Aq u1,Builtin.lenOf,Builtin.firstCells,sizeOf,typeInfo,hi,goInt,hl]
     refine hd.mono λv' w' ⟨q1,q2⟩=>⟨g,?_⟩;subst q2;refine Post.res (rd:=[]) (r:= .top) (v:=v') (Post.same (hS1.sub λj o hj=> ?_) hk ⟨_,ls,e1,k2,?_,by simp,?_,k6⟩) (by subst q1;simp;rfl)
     ·simp only[Cj,CN]at hj⊢;by_cases e:j=k
      ·subst e;simp at hj;rw[A1.2 (by simp)];exact hj
      ·rw[BL e]at hj;cases hj
     ·simpa using k3
     ·simpa using k5
    ·have hfit:0+xs.length<=cur.size:=by rw[hcs,he1];omega
     refine(Yl u1 u2 he1 hv hu hsr hb hfit).mono λv' w' ⟨q1,ms,q2,q3⟩=>⟨g,Post.res (rd:=[]) (r:= .top) (v:=v') (Post.upd (hS1.sub λj o hj=> ?_) hk (by rw[k2];rfl) q3 λw' hgo hb'=> ?_) (by subst q1;rfl)⟩
     ·simp only[Cj,CN]at hj⊢;by_cases e:j=k
      ·subst e;simp at hj;rw[A1.2 (by simp)];exact hj
      ·rw[BL e]at hj;cases hj
     ·have hr1:∀l∈ls,l.length=1:=λl hl=>by rw[k5.row l hl,he1]
      have hr2:∀l∈ms,l.length=1:=λl hl=>by rw[q2.row l hl,he1]
      have hL:(ys.take xs.length++xs.drop ys.length).length=xs.length:=by simp;omega
      have hfl:(ms.take xs.length++ls.drop ys.length).flatten=(put cur 0 (ms.flatten.take (min ys.length xs.length))).toList.take (xs.length*e.length):=by
       rw[C5,de,Lu _ hr2,Lw _ hr1,he1,ga];have hml:ms.flatten.length=ys.length:=by rw[Dj hr2,ga,q2.len]
       have hlm:ls.flatten.length=xs.length:=by rw[Dj hr1,ga,k5.len]
       have hcur:cur.toList=ls.flatten++cur.toList.drop xs.length:=by have :=hct;rw[he1,ga]at this;rw[<-this,dg]
       have e7:ms.flatten.take xs.length=ms.flatten.take (min ys.length xs.length):=by rw[<-hml,Nat.min_comm,<-List.take_take,e_]
       have e8:(ms.flatten.take (min ys.length xs.length)).length=min ys.length xs.length:=by rw[ao,hml];omega
       rw[e7,e8,bu,gl,dx];have t1:(ms.flatten.take (min ys.length xs.length)++cur.toList.drop (min ys.length xs.length)).take xs.length=ms.flatten.take (min ys.length xs.length)++(cur.toList.drop (min ys.length xs.length)).take (xs.length-min ys.length xs.length):=by rw[ff,bp (l:=ms.flatten.take (min ys.length xs.length)) (by omega),e8]
       have t2:(cur.toList.drop (min ys.length xs.length)).take (xs.length-min ys.length xs.length)=ls.flatten.drop ys.length:=by
        have hld:(ls.flatten.drop (min ys.length xs.length)).length=xs.length-min ys.length xs.length:=by rw[au,hlm]
        rw[hcur,du (by omega),ck (by omega),bp (l:=ls.flatten.drop (min ys.length xs.length)) (by omega)];by_cases hle:ys.length<=xs.length
        ·rw[ei hle]
        ·rw[Nat.min_eq_right (by omega),dm (by omega),dm (by omega)]
       rw[t1,t2]
      have hFa:Fa2 (rS g.X g.N w e) (ys.take xs.length++xs.drop ys.length) (ms.take xs.length++ls.drop ys.length):=(q2.take _).append (k5.drop _);have hps:(put cur 0 (ms.flatten.take (min ys.length xs.length))).size=cur.size:=PM (by rw[ao];omega);have hpl:(put cur 0 (ms.flatten.take (min ys.length xs.length))).toList.length=cur.size:=by rw[co,hps]
      have hFl:(ms.take xs.length++ls.drop ys.length).flatten.length=xs.length*e.length:=by rw[hfl,ao,hpl,hcs];exact ei (cx _ hc)
      exact⟨_,_,e1,k2,⟨by rw[hFl,hL],.inr ⟨b,cap,_,by rw[hL],br _,hb',by rw[hL];exact hc,hc2,by rw[hps];exact hcs,by rw[hL];exact hfl.symm⟩⟩,by rw[hL];exact k4,hFa.mono (FY hgo.goes e),FX hFa⟩
  ·cases h
 ·cases h
end
end Go.Sx
namespace Go.Sx
open Go.Mi Go.RowKit
variable [Dfr]
def jK (P:Program) (L:DL) (t:TypeId) (x:Operand):Option (D×List Prop):=match Fc L x,P.underlying t with
 |some (.v (.slice none 0 0)),some (.slice _)=>some (.v (.int .i64 0),[])
 |_,_=>none
def GC (s:ByteArray):List Int:=s.data.toList.map λb=>(b.toNat:Int)
def u8S (P:Program) (t:TypeId):Option TypeId:=match P.underlying t with
 |some (.slice te)=>(match P.underlying te with
  |some (.int .u8)=>some te
  |_=>none)
 |_=>none
theorem cM {P:Program} {t te:TypeId} (h:u8S P t=some te):P.underlying t=some (.slice te)/\P.underlying te=some (.int .u8):=by
 unfold u8S at h;split at h
 ·rename_i te' h1;split at h
  ·rename_i h2;cases h;exact⟨h1,h2⟩
  ·cases h
 ·cases h
def WS (P:Program) (L:DL) (H:Hp) (s t:TypeId) (x:Operand):Option (Eff×List Prop):=match Fc L x,u8S P t with
 |some (.sk k),some te=>bif Nat.beq s t then(match A4 H k with
  |some (.sl _ [.int .u8] xs)=>some (⟨[],[(k,none)],[],.ls true [.int .u8] xs⟩,[0<xs.length])
  |_=>none)else none
 |_,_=>none
def xH (P:Program) (L:DL) (s t:TypeId) (x:Operand):Option (Eff×List Prop):=match Fc L x,P.underlying s,u8S P t with
 |some (.v (.string b)),some .string,some te=>some (⟨[],[],[],.ls true [.int .u8] (GC b)⟩,[b.size<=140737488355328])
 |_,_,_=>none
section
variable {P:Program} {n:Nat} {L:DL} {ds:Option Nat} {ty:TypeId} {pos:String} {af:Array Edge} {gu:Option (Nat×Bool)} {g g':G} {w w':World} {H:Hp}
theorem jJ {t:TypeId} {x:Operand} {d:D} {ps:List Prop} (h:jK P L t x=some (d,ps)):PureOk P n ⟨ds,.call ⟨.builtin .cap,#[x],#[t]⟩,ty,pos,af,gu⟩ L d ps:=by
 intro hp ξ g w hH _;unfold jK at h;split at h
 ·rename_i e hx hu;simp only[Option.some.injEq,Prod.mk.injEq]at h;obtain⟨rfl,rfl⟩:=h;have hv:=B2 hH hx;exact⟨_,rfl,Det.of_run λa hF=>by simp [execOp,hF.eval hv,resolve,invoke,builtin,Builtin.cap_,Aq hu,goInt]⟩
 ·cases h
theorem Z7 {b:Nat} {k:Nat} {cur:Array Value} {te:TypeId} (hb:w.heap[b]? =some (.cells cur te (0,0))):(w.freeze ⟨b,k,none⟩ 1).heap[b]? =some (.cells cur te (k,k+1))/\Chp (· =b) w (w.freeze ⟨b,k,none⟩ 1):=by
 have hlt:b<w.heap.size:=by
  rcases ci b w.heap.size with h'|h'
  ·exact h'
  ·rw[eg h']at hb;cases hb
 refine⟨?_,⟨rfl,rfl,rfl,by simp [World.freeze],λj hj hn=> ?_⟩⟩
 ·simp only[World.freeze];rw[aj (by decide)];simp only[gz,ab aa,hb];rfl
 ·simp only[World.freeze];rw[aj (by decide)];have :¬b=j:=λh=>hn h.symm;simp only[gz,aj this]
theorem aA {s t:TypeId} {x:Operand} {e:Eff} {ps:List Prop} (h:WS P L H s t x=some (e,ps)) (hp:AllP ps):EOk P n ⟨ds,.convert s t x,ty,pos,af,gu⟩ L (A4 H) e:=by
 intro ξ g w V hH hn;unfold WS at h;split at h
 ·rename_i k te hx hu;cases hst:Nat.beq s t with
  |false=>rw[hst]at h;cases h
  |true=>
   rw[hst]at h;obtain rfl:=aq hst;simp only[cond_true]at h;split at h
   ·rename_i te' xs hk;cases h;obtain⟨u1,u2⟩:=cM hu;obtain⟨v,hv,v',h1,h2,_⟩:=Bh hH hx;cases(List.cons.inj h2).1;have hkk:Cj ([]++Ax [(k,(none:Option O))]) (A4 H) k=some (.sl te' [.int .u8] xs):=by simp [Cj,Ax,CN,hk]
    obtain⟨v2,ls,k1,k2,k3,k4,k5,k6⟩:=V.os k _ hkk;rw[h1]at k1;cases k1;rcases k3.2 with⟨rfl,h0⟩|⟨b,cap,cur,rfl,_,hb,hc,hc2,hcs,hct⟩
    ·have :=hp.1;omega
    ·have hm:w.shape? b=some (te',cur.size):=by simp [World.shape?,hb]
     obtain⟨q1,q2⟩:=Z7 (k:=cur.size) hb;have hbF:b∈g.F k:=by rw[k2];simp [C8]
     have hd:Det P ⟨ds,.convert s s x,ty,pos,af,gu⟩ n (LN L ξ) w (vS b 0 xs.length cap) (w.freeze ⟨b,cur.size,none⟩ 1):=Det.of_run λa hF=>by simp [execOp,hF.eval hv,convert,Aq u1,Aq u2,markStringish,hm]
     refine hd.mono λv' w' ⟨e1,e2⟩=> ?_;subst e1;subst e2;have hfx:∀x,Eff.foot ⟨[],[(k,none)],[],.ls true [.int .u8] xs⟩ (A4 H) g x↔x∈g.F k:=λx=>⟨λ⟨j,h1,q,h2,h3⟩=>by
      simp only[Ax,bg,fg,bo]at h1;subst h1;exact h3,λhx=>⟨k,by simp [Ax],_,hk,hx⟩⟩
     have hsub:∀x,x=b->Eff.foot ⟨[],[(k,none)],[],.ls true [.int .u8] xs⟩ (A4 H) g x:=λx hx=>(hfx x).2 (hx▸hbF);have hch:Chp (Eff.foot ⟨[],[(k,none)],[],.ls true [.int .u8] xs⟩ (A4 H) g) w (w.freeze ⟨b,cur.size,none⟩ 1):=⟨q2.os,q2.tape,q2.output,q2.size,λj hj hn=>q2.blk j hj λhy=>hn (hsub j hy)⟩
     let g':G:=⟨g.N,g.F,λx=>g.X x/\x∉g.F k⟩
     have hgo:Go (Eff.foot ⟨[],[(k,none)],[],.ls true [.int .u8] xs⟩ (A4 H) g) g w g' (w.freeze ⟨b,cur.size,none⟩ 1):=⟨hch,λx hx=>V.own k _ hkk x ((hfx x).1 hx),λx hx=> .inl hx.1,λx h1 h2=>⟨h1,λh3=>h2 ((hfx x).2 h3)⟩,λ_ _ h=>h,λ_ _ _=>rfl⟩;have hno:∀j u,A4 (Eff.outs ⟨[],[(k,(none:Option O))],[],.ls true [.int .u8] xs⟩) j≠some u:=λj u h=>by
      have h:=BS.1 h;simp only[Eff.outs,fg,fm,Fe]at h;by_cases e:k=j
      ·subst e;simp at h
      ·rw[BL e]at h;cases h
     obtain⟨vs,rfl,h4⟩:=Lg k5;have hvs:vs=xs.map (Value.int .u8):=OF h4;refine⟨g',hgo,⟨_,_,rfl,⟨k4,by rw[Dj k5.row,k5.len],.inr ⟨b,0,cap,rfl,hc,hc2,λhx=>hx.2 hbF,ca (k3.lt b (by simp [C8])).2 q2.size,?_⟩⟩,k5.mono (FY hgo.goes _)⟩,⟨λx hx=>ca (V.wf x hx.1) q2.size,λj u h=>(hno j u h).elim,λj u h=>(hno j u h).elim,λj u _ _ h=>(hno j u h).elim⟩,λj u h=>(hno j u h).elim,λj u h=> .inl h⟩;intro j u hj;rw[<-hct,dc]at hj;split at hj
     ·rw[bu];unfold World.cell?;rw[q1];simpa using hj
     ·cases hj
   ·cases h
 ·cases h
theorem iQ:∀l:List Int,(l.map λz=>[Value.int .u8 z]).flatten=l.map (Value.int .u8)
 |[]=>rfl
 |a::l=>by rw[bg,bc,iQ l];rfl
theorem sW {X:Nat->Prop} {N:Nat->Option Value} {w:World}:∀l:List Int,Fa2 (rS X N w [.int .u8]) (l:List (RT [.int .u8])) (l.map λz=>[Value.int .u8 z])
 |[]=>trivial
 |a::l=>⟨⟨_,rfl,rfl⟩,sW l⟩
theorem qS {s t:TypeId} {x:Operand} {e:Eff} {ps:List Prop} {F:Nat->Option O} (h:xH P L s t x=some (e,ps)) (hp:AllP ps):EOk P n ⟨ds,.convert s t x,ty,pos,af,gu⟩ L F e:=by
 intro ξ g w V hH hn;unfold xH at h;split at h
 ·rename_i b te hx hs hu;cases h;obtain⟨u1,u2⟩:=cM hu;have hv:=B2 hH hx;have hd:Det P ⟨ds,.convert s t x,ty,pos,af,gu⟩ n (LN L ξ) w (.slice (some ⟨w.heap.size,0,none⟩) b.size (grownCap w b.size 0 te)) (Lib.bytesWorld w te b):=Det.of_run λa hF=>by simp [execOp,hF.eval hv,Lib.run_convert_string_bytes w s t te b hs u1 u2]
  refine hd.mono λv' w' ⟨e1,e2⟩=>⟨g,?_⟩;subst e1;subst e2;have hch:Chp (λ_=>False) w (Lib.bytesWorld w te b):=⟨by simp [Lib.bytesWorld,World.freeze,World.alloc,World.drew,-World.alloc_eq,-World.drew_eq],by simp [Lib.bytesWorld,World.freeze,World.alloc,World.drew,-World.alloc_eq,-World.drew_eq],by simp [Lib.bytesWorld,World.freeze,World.alloc,World.drew,-World.alloc_eq,-World.drew_eq],by rw[Lib.bytesWorld_size];omega,λj hj _=>Lib.bytesWorld_at_old w te b j hj⟩;have hl:(GC b).length=b.size:=by unfold GC;rw[cg,co];rfl
  have hcap:=grownCap_ge w b.size 0 te;have hp:=hp.1;have hmx:(GC b).length<=maxLen:=by rw[hl];simp only[maxLen];omega
  refine Post.quiet V.wf hch ⟨_,(GC b).map λz=>[Value.int .u8 z],rfl,⟨hmx,?_,.inr ⟨w.heap.size,0,grownCap w b.size 0 te,dn (λz=>Value.slice (some ⟨w.heap.size,0,none⟩) z (grownCap w b.size 0 te)) hl.symm,b_ (Nat.le_of_eq hl) hcap,?_,λhx=> ?_,by rw[Lib.bytesWorld_size];omega,?_⟩⟩,?_⟩
  ·rw[iQ,cg];exact(ga _).symm
  ·exact grownCap_le_maxLen w b.size 0 te (by simp only[maxLen];omega)
  ·exact gy _ (V.wf _ hx)
  ·intro j u hj;rw[bu];rw[iQ]at hj;have hjl:j<b.size:=by have :=(List.getElem?_eq_some_iff.1 hj).1;rw[cg,hl]at this;exact this
   rw[Lib.bytesWorld_cell w te b j hjl];have hjd:j<b.data.toList.length:=hjl;simp only[GC,ix,eo,am hjd,ew,Function.comp,Option.some.injEq]at hj;rw[<-hj];simp [List.getD,am hjd]
  ·exact sW _
 ·cases h
end
end Go.Sx
namespace Go.Sx
open Go.Mi Go.RowKit
variable [Dfr]
def w7 (P:Program) (L:DL) (H:Hp) (t:TypeId) (x:Operand) (xl xh xm:Option Operand) (nb:Nat):Option (Eff×List Prop):=match xl,xm,Fc L x,bI L xh,UE P t with
 |none,none,some (.sk k),some (some j),some _=>(match A4 H k with
  |some (.sl te e xs)=>some (⟨[],[(k,none)],[(nb,.sl te e (xs.take j.toNat))],.sk nb⟩,[0<=j/\j<=(xs.length:Int)])
  |_=>none)
 |_,_,_,_,_=>none
section
variable {P:Program} {n:Nat} {L:DL} {ds:Option Nat} {ty:TypeId} {pos:String} {af:Array Edge} {gu:Option (Nat×Bool)} {g g':G} {w w':World} {H:Hp}
theorem Pj {α:Type} {m:Nat}:∀{ls:List (List α)} (k:Nat),(∀l∈ls,l.length=m)->(ls.take k).flatten=ls.flatten.take (k*m)
 |[],k,_=>by simp
 |l::ls,0,_=>by simp
 |l::ls,k+1,h=>by have hl:=h l (bz ..);have ih:=Pj (ls:=ls) k λl hl=>h l (a_ _ hl);rw[gd,bc,bc,ih,ff,hl,fb,bp (l:=l) (by omega),show k*m+m-m=k*m by omega]
theorem qF {t:TypeId} {x:Operand} {xl xh xm:Option Operand} {nb:Nat} {e:Eff} {ps:List Prop} (h:w7 P L H t x xl xh xm nb=some (e,ps)) (hp:AllP ps):EOk P n ⟨ds,.slice t x xl xh xm,ty,pos,af,gu⟩ L (A4 H) e:=by
 intro ξ g w V hH hn;unfold w7 at h;split at h
 ·rename_i k j m hx hb hsi;split at h
  ·rename_i te e' xs hk;cases h;obtain⟨⟨p1,p2⟩,_⟩:=hp;obtain⟨jn,rfl⟩:=cb p1;have p2:jn<=xs.length:=by omega
   simp only[bh]at hn⊢;obtain⟨te',u1,u2⟩:=H4 hsi;obtain⟨v,hv,v',h1,h2,_⟩:=Bh hH hx;cases(List.cons.inj h2).1;have hkk:Cj ([]++Ax [(k,(none:Option O))]) (A4 H) k=some (.sl te e' xs):=by simp [Cj,Ax,CN,hk]
   obtain⟨v2,ls,k1,k2,k3,k4,k5,k6⟩:=V.os k _ hkk;rw[h1]at k1;cases k1;have hlen:∀l∈ls,l.length=e'.length:=k5.row;have hS':HS (Cj ([]++Ax [(k,(none:Option O))]) (A4 H)) g w:=V;have bnd:=λa hF=>(⟨⟨.inl ⟨rfl,rfl⟩⟩,E9 hH hb a n hF,⟨.inl ⟨rfl,rfl⟩⟩⟩:HW a none none/\HW a xh (some (jn:Int))/\HW a none none);have hne:k≠nb:=λe=>by have :=hn (nb,_) (bo.2 rfl);rw[<-e,h1]at this;cases this
   have fin:∀v',Det P ⟨ds,.slice t x none xh none,ty,pos,af,gu⟩ n (LN L ξ) w v' w->C8 v'=C8 v->Own w 0 te e'.length v' (xs.take jn).length (ls.take jn).flatten->(∃ad a b,v'= .slice ad a b)->Ok1 P ⟨ds,.slice t x none xh none,ty,pos,af,gu⟩ n (LN L ξ) w λv w'=>∃g',Post (A4 H) ⟨[],[(k,none)],[(nb,.sl te e' (xs.take jn))],.sk nb⟩ g w v g' w':=by intro v' hd hbl hown hsl;refine hd.mono λz z' ⟨e1,e2⟩=> ?_;subst e1;subst e2;refine Post.new (u:=z) (F:=C8 z) hS' (hn (nb,_) (bo.2 rfl)) (λp hp=>by simp at hp;rw[hp]) (λhk'=>by simp only[Ax,bg,fg,bo]at hk';exact hne hk'.symm) (Chp.refl _ _) (λb hb=>⟨.inl ⟨k,by simp [Ax],_,hk,by rw[k2,<-hbl];exact hb⟩,(hown.lt b hb).2⟩) λg' hg hN hF=>⟨⟨z,ls.take jn,hN,hF,hown,by rw[ao];omega,(k5.take jn).mono (FY hg.goes e'),FX (k5.take jn)⟩,⟨z,hN,rfl,?_⟩⟩;obtain⟨ad,a,b,rfl⟩:=hsl;cases ad<;>rfl
   obtain⟨o1,o2⟩:=k3;have hl2:(ls.take jn).flatten.length=(xs.take jn).length*e'.length:=by rw[Dj λl hl=>hlen l (cv hl),ao,ao,k5.len]
   have lt:(xs.take jn).length=jn:=by rw[ao];omega
   rcases o2 with⟨rfl,h0⟩|⟨b,cap,cur,rfl,hb0,hb1,hc,hc2,hcs,hct⟩
   ·have hj:jn=0:=by omega
    subst hj;have hd:=R_ (P:=P) (n:=n) (w:=w) (ds:=ds) (ty:=ty) (pos:=pos) (af:=af) (gu:=gu) u1 u2 hv bnd ⟨aa,Int.le_refl _,aa,λh=>(by cases h),an _,an _,an _⟩;exact fin _ hd rfl ⟨hl2,.inl ⟨rfl,lt⟩⟩ ⟨_,_,_,rfl⟩
   ·have hd:=R_ (P:=P) (n:=n) (w:=w) (ds:=ds) (ty:=ty) (pos:=pos) (af:=af) (gu:=gu) (lo:=none) (mx:=none) (hi:=some (jn:Int)) u1 u2 hv bnd ⟨aa,dt _,aa,λh=>(by cases h),br _,by simp only[bl];omega,an _⟩;have hv':(Value.slice (if bl none cap=bl none 0 then some ⟨b,0,none⟩else(some (⟨b,0,none⟩:Addr)).map (·.add (bl none 0*m))) (bl (some (jn:Int)) xs.length-bl none 0) (bl none cap-bl none 0))= .slice (some ⟨b,0,none⟩) jn cap:=by simp [bl,Dm]
    rw[hv']at hd;refine fin _ hd rfl ⟨hl2,.inr ⟨b,cap,cur,by rw[lt],hb0,hb1,by rw[lt];omega,hc2,hcs,?_⟩⟩ ⟨_,_,_,rfl⟩;rw[lt,Pj jn hlen,<-hct,List.take_take,ei (cx _ p2)]
  ·cases h
 ·cases h
end
end Go.Sx
namespace Go.Sx
open Go.Mi Go.RowKit
variable [Dfr]
inductive Rx where
 |call (q:CR)
 |own
 |oi (z:Int)
 |ob (b:Bool)
 |ov (d:D)
def lkR:List (Nat×Rx)->Nat->Option Rx
 |[],_=>none
 |(s,v)::r,t=>bif Nat.beq s t then some v else lkR r t
structure bU where
 P:Program
 Z:Zt
 K:Kt
def cJ:D->Option (List D)
 | .nil=>some []
 | .cons d ds=>bif d.one then(cJ ds).map (d:: ·)else none
 |_=>none
def WU (L:DL) (f:Operand) (xs:List Operand):Option (FuncId×List D):=match Fc L f,U7 L xs with
 |some (.v (.func (.func f) first captured)),some ays=>bif first.isEmpty&&captured.isEmpty then some (f,ays)else none
 |some (.fn f a b),some ays=>(match cJ a,cJ b with
  |some a,some b=>some (f,a++ays++b)
  |_,_=>none)
 |_,_=>none
def WT (P:Program) (L:DL) (H:Hp) (t:TypeId) (x:Operand):Option Eff:=match Fc L x,P.underlying t with
 |some (.sk k),some (.slice _)=>(match A4 H k with
  |some (.sl _ _ xs)=>some ⟨[k],[],[],.v (.int .i64 xs.length)⟩
  |_=>none)
 |_,_=>none
def jE (P:Program) (L:DL) (H:Hp) (t:TypeId) (x y:Operand):Option (Eff×List Prop):=match Fc L x,Fc L y,UE P t with
 |some (.sk k),some (.v (.int _ i)),some m=>(match A4 H k with
  |some (.sl _ e xs)=>bif Nat.beq e.length m then some (⟨[k],[],[],.xp k m xs.length i.toNat 0⟩,[0<=i/\i<(xs.length:Int)])else none
  |_=>none)
 |_,_,_=>none
def KX (r:Option (D×List Prop)):Option (Eff×List Prop):=r.map λp=>(⟨[],[],[],p.1⟩,p.2)
def noP (e:Option Eff):Option (Eff×List Prop):=e.map (·,[])
def tU (E:bU) (L:DL) (H:Hp) (nb:Nat):Op->Option (Eff×List Prop)
 | .load t x=>(xE E.P L H t x).map λp=>(⟨p.1,[],[],p.2⟩,[])
 | .store t x y=>(w9 E.P L H t x y).map λp=>(⟨[],[(p.1,some p.2)],[],.top⟩,[])
 | .alloc t=>noP (YQ E.Z t nb)
 | .box t x=>noP (tS L t x nb)
 | .build t ps=>KX ((TD E.P E.Z L t ps.toList).map (·,[]))
 | .buildSlice t len ps=>(match aE E.P E.Z E.K L t len ps.toList with
  |some B=>(match On E.P B.te with
   |some m=>bif Nat.beq m B.e.length then some (tR B,[])else none
   |none=>none)
  |none=>none)
 | .makeSlice t x y=>TC E.P E.K L t x y nb
 | .slice t x a b c=>(match w7 E.P L H t x a b c nb with
  |some r=>some r
  |none=>KX (jI E.P L t x a b c))
 | .index t x y=>KX (jG E.P L t x y)
 | .indexAddr t x y=>(match jE E.P L H t x y with
  |some r=>some r
  |none=>KX (qP E.P t L x y))
 | .call c=>(match c.callee,c.args.toList,c.argTypes.toList with
  | .builtin .append,[s,x],[t,t']=>bif Nat.beq t t' then(match qW E.P E.K L H t s x with
   |some A=>jR E.P A nb
   |none=>none)else(qU E.P E.K L H t t' s x).map λA=>A.eff nb
  | .builtin .len,[x],[t]=>(match WT E.P L H t x with
   |some e=>some (e,[])
   |none=>KX (YN E.P t L x))
  | .builtin .copy,[x,y],[t,_]=>(xG E.P L H t x y).map λc=>(c.eff,[])
  | .builtin .cap,[x],[t]=>KX (jK E.P L t x)
  |_,_,_=>KX (exP E.P L (.call c)))
 | .convert s t x=>(match WS E.P L H s t x with
  |some r=>some r
  |none=>(match xH E.P L s t x with
   |some r=>some r
   |none=>KX (exP E.P L (.convert s t x))))
 |op=>KX (exP E.P L op)
def WY (E:bU) (C:List (Nat×Rx)):Ex:=λi L H nb o=>match lkR C i with
 |none=>tU E L H nb o.op
 |some (.call q)=>(match o.op with
  | .call c=>(match c.callee with
   | .value f=>(match WU L f c.args.toList with
    |some (f,ays)=>bif Nat.beq f q.f&&q.chk&&ays.all D.one then some (q.eff,[q.need ays H])else none
    |none=>none)
   |_=>none)
  |_=>none)
 |some .own=>(match o.op with
  | .buildSlice t len ps=>(aE E.P E.Z E.K L t len ps.toList).map λB=>(tQ B nb,[])
  |_=>none)
 |some (.oi z)=>(match tU E L H nb o.op with
  |some (⟨rd,[],[],.v (.int k x)⟩,ps)=>some (⟨rd,[],[],.v (.int k z)⟩,(x=z)::ps)
  |_=>none)
 |some (.ob z)=>(match tU E L H nb o.op with
  |some (⟨rd,[],[],.v (.bool x)⟩,ps)=>some (⟨rd,[],[],.v (.bool z)⟩,(x=z)::ps)
  |_=>none)
 |some (.ov d)=>(match tU E L H nb o.op with
  |some (⟨rd,wr,nw,r⟩,ps)=>some (⟨rd,wr,nw,d⟩,(r=d)::ps)
  |_=>none)
section
variable {n:Nat} {L:DL} {H:Hp} {ds:Option Nat} {ty:TypeId} {pos:String} {af:Array Edge} {gu:Option (Nat×Bool)}
theorem PureOk.eok {P:Program} {o:Oper} {d:D} {ps:List Prop} {H:Nat->Option O} (h:PureOk P n o L d ps) (hp:AllP ps):EOk P n o L H ⟨[],[],[],d⟩:=EOk.rd λξ g w V hH=>h hp ξ g w hH V.wf
theorem F0 {P:Program} {o:Oper} {r:Option (D×List Prop)} {e:Eff} {ps:List Prop} {H:Nat->Option O} (h:KX r=some (e,ps)) (hp:AllP ps) (hr:∀d ps,r=some (d,ps)->PureOk P n o L d ps):EOk P n o L H e:=by obtain⟨⟨d,qs⟩,h1,h2⟩:=ak.1 h;cases h2;exact(hr d _ h1).eok hp
theorem pF {P:Program} {t:TypeId} {x y:Operand} {Lv:List (Nat×Value)} {w:World} {R:Value->World->Prop} {v:Value} (hx:ev Lv x=some v) (hy:ev Lv y=some v) (h:Ok1 P ⟨ds,.makeSlice t x x,ty,pos,af,gu⟩ n Lv w R):Ok1 P ⟨ds,.makeSlice t x y,ty,pos,af,gu⟩ n Lv w R:=by intro a K Q hF hk;have :=h a K Q hF hk;simp only[Oper.wp,execOp,hF.eval hx,hF.eval hy]at this⊢;exact this
theorem VB {P:Program} {K:Kt} {t:TypeId} {x y:Operand} {nb:Nat} {e:Eff} {ps:List Prop} {H:Nat->Option O} (h:TC P K L t x y nb=some (e,ps)) (hp:AllP ps):EOk P n ⟨ds,.makeSlice t x y,ty,pos,af,gu⟩ L H e:=by
 have key:∃i,Fc L x=some (.v (.int .i64 i))/\Fc L y=some (.v (.int .i64 i))/\TC P K L t x x nb=some (e,ps):=by
  unfold TC at h⊢;split at h
  ·rename_i te i j he hx hy;have hij:i=j:=by
    split at h
    ·split at h
     ·rename_i inf a _ _ _ z _;cases hb:Nat.beq inf.size 1&&z.oneCell' with
      |false=>rw[hb]at h;cases h
      |true=>
       rw[hb]at h;obtain⟨q,_,h2⟩:=ak.1 h;simp only[Prod.mk.injEq]at h2;obtain⟨_,rfl⟩:=h2;exact hp.1
     ·cases h
    ·cases h
   subst hij;refine⟨i,hx,hy,?_⟩;rw[he,hx];exact h
  ·cases h
 obtain⟨i,hx,hy,h2⟩:=key;intro ξ g w V hH hn;exact pF (B2 hH hx) (B2 hH hy) (qM (y:=x) h2 hp rfl ξ g w V hH hn)
theorem aB {P:Program} {t:TypeId} {x:Operand} {e:Eff} (h:WT P L H t x=some e):EOk P n ⟨ds,.call ⟨.builtin .len,#[x],#[t]⟩,ty,pos,af,gu⟩ L (A4 H) e:=by
 unfold WT at h;split at h
 ·rename_i k te hx hu;split at h
  ·rename_i te' e' xs hk;cases h;refine EOk.rd λξ g w V hH=>⟨_,rfl,?_⟩;obtain⟨v,hv,v',h1,h2,_⟩:=Bh hH hx;cases(List.cons.inj h2).1;obtain⟨v2,ls,k1,k2,k3,_⟩:=V.os k _ (by simp only[Cj,A1.2 (bo.2 rfl)];exact hk);rw[h1]at k1;cases k1;rcases k3.at with⟨rfl,h4,_⟩|⟨b,cap,rfl,_,_⟩
   ·rw[h4];exact Dq hu hv
   ·exact Dq hu hv
  ·cases h
 ·cases h
theorem jD {P:Program} {t:TypeId} {x y:Operand} {e:Eff} {ps:List Prop} (h:jE P L H t x y=some (e,ps)) (hp:AllP ps):EOk P n ⟨ds,.indexAddr t x y,ty,pos,af,gu⟩ L (A4 H) e:=by
 unfold jE at h;split at h
 ·rename_i k kk i m hx hy hsi;split at h
  ·rename_i te' e' xs hk;cases hb:Nat.beq e'.length m with
   |false=>rw[hb]at h;cases h
   |true=>
    rw[hb]at h;have :=aq hb;subst this;cases h;obtain⟨te,u1,u2⟩:=H4 hsi;refine EOk.rd λξ g w V hH=> ?_;obtain⟨v,hv,v',h1,h2,_⟩:=Bh hH hx;cases(List.cons.inj h2).1;obtain⟨v2,ls,k1,k2,k3,_⟩:=V.os k _ (by simp only[Cj,A1.2 (bo.2 rfl)];exact hk);rw[h1]at k1;cases k1;have hi:i.toNat<xs.length:=by have :=hp.1;omega
    rcases k3.at with⟨rfl,h4,_⟩|⟨b,cap,rfl,_,_⟩
    ·omega
    ·refine⟨_,⟨hi,b,cap,h1,rfl⟩,?_⟩;have :=W_ (P:=P) (n:=n) (w:=w) (ds:=ds) (ty:=ty) (pos:=pos) (af:=af) (gu:=gu) u1 u2 hv (B2 hH hy) hp.1.1 hp.1.2;simpa using this
  ·cases h
 ·cases h
theorem TE {E:bU} {nb:Nat} {op:Op} {e:Eff} {ps:List Prop} (hZ:XA E.P E.Z) (h:tU E L H nb op=some (e,ps)) (hp:AllP ps):EOk E.P n ⟨ds,op,ty,pos,af,gu⟩ L (A4 H) e:=by
 unfold tU at h;split at h
 ·obtain⟨⟨rd,d⟩,h1,h2⟩:=ak.1 h;cases h2;exact qO h1
 ·obtain⟨⟨k,o'⟩,h1,h2⟩:=ak.1 h;cases h2;exact qH h1
 ·obtain⟨e',h1,h2⟩:=ak.1 h;cases h2;exact WX hZ h1
 ·obtain⟨e',h1,h2⟩:=ak.1 h;cases h2;exact jN h1
 ·refine F0 h hp λd qs hq=> ?_;obtain⟨d',h1,h2⟩:=ak.1 hq;cases h2;exact WW hZ h1
 ·split at h
  ·rename_i B hB;split at h
   ·rename_i m hm;cases hb:Nat.beq m B.e.length with
    |false=>rw[hb]at h;cases h
    |true=>
     rw[hb]at h;have :=aq hb;subst this;cases h;exact jM hZ hB hm
   ·cases h
  ·cases h
 ·exact VB h hp
 ·split at h
  ·rename_i r hr;cases h;exact qF hr hp
  ·exact F0 h hp λd qs hq=>jH hq
 ·exact F0 h hp λd qs hq=>jF hq
 ·split at h
  ·rename_i r hr;cases h;exact jD hr hp
  ·exact F0 h hp λd qs hq=>YO hq
 ·rename_i c;obtain⟨cl,⟨xs⟩,⟨ts⟩⟩:=c;simp only at h;split at h
  ·rename_i s x t t';cases hb:Nat.beq t t' with
   |false=>
    rw[hb]at h;simp only[cond_false]at h;obtain⟨A,hA,hE⟩:=ak.1 h;have e1:e=(A.eff nb).1:=by rw[hE]
    have e2:ps=(A.eff nb).2:=by rw[hE]
    subst e1;exact qT hA (e2▸hp)
   |true=>
    rw[hb]at h;have :=aq hb;subst this;simp only[cond_true]at h;split at h
    ·rename_i A hA;exact jQ hA h hp
    ·cases h
  ·split at h
   ·rename_i e' he;cases h;exact aB he
   ·exact F0 h hp λd qs hq=>VC hq
  ·obtain⟨c,h1,h2⟩:=ak.1 h;cases h2;exact qR h1
  ·exact F0 h hp λd qs hq=>jJ hq
  ·exact F0 h hp λd qs hq=>WR hq
 ·split at h
  ·rename_i r hr;cases h;exact aA hr hp
  ·split at h
   ·rename_i r hr;cases h;exact qS hr hp
   ·exact F0 h hp λd qs hq=>WR hq
 ·exact F0 h hp λd qs hq=>WR hq
def CsOk (P:Program):List (Nat×Rx)->Prop
 |[]=>True
 |(_,.call q)::r=>ConOk P q.f q.c/\CsOk P r
 |_::r=>CsOk P r
theorem CsOk.at {P:Program}:∀{C:List (Nat×Rx)} {i:Nat} {q:CR},CsOk P C->lkR C i=some (.call q)->ConOk P q.f q.c
 |(s,x)::r,i,q,h,hl=>by
  simp only[lkR]at hl;by_cases e:s=i
  ·subst e;simp at hl;subst hl;exact h.1
  ·rw[BL e]at hl;cases x with
   |call q'=>exact h.2.at hl
   |own=>exact CsOk.at (C:=r) h hl
   |oi z=>exact CsOk.at (C:=r) h hl
   |ob z=>exact CsOk.at (C:=r) h hl
   |ov z=>exact CsOk.at (C:=r) h hl
theorem HX {g:G} {w:World}:∀{d:D} {ds:List D} {vs:List Value},cJ d=some ds->CS g.X g.N w d true vs->CS g.X g.N w (Ag ds) true vs:=by
 intro d
 induction d with
 |nil=>intro ds vs h hs;cases h;exact hs
 |cons a b _ ih=>
  intro ds vs h hs;simp only[cJ]at h;cases ho:a.one with
  |false=>rw[ho]at h;cases h
  |true=>
   rw[ho]at h;obtain⟨q,h1,rfl⟩:=ak.1 h;obtain⟨l1,l2,rfl,h2,h3⟩:=hs;exact⟨l1,l2,rfl,h2,ih h1 h3⟩
 |_=>intro ds vs h;cases h
theorem EF {g:G} {w:World} {m:Bool}:∀{a b:List D} {va vb:List Value},CS g.X g.N w (Ag a) m va->CS g.X g.N w (Ag b) m vb->CS g.X g.N w (Ag (a++b)) m (va++vb)
 |[],b,va,vb,h,k=>by have :va=[]:=h;subst this;exact k
 |d::a,b,va,vb,⟨l1,l2,e,h1,h2⟩,k=>by subst e;exact⟨l1,l2++vb,by simp,h1,EF h2 k⟩
theorem HP {E:bU} {C:List (Nat×Rx)} (hZ:XA E.P E.Z) (hC:CsOk E.P C):M4 E.P n (WY E C):=by
 intro i L H nb o e ps h hp;obtain⟨ds,op,ty,pos,af,gu⟩:=o;unfold WY at h;split at h
 ·exact TE hZ h hp
 ·rename_i q hq;have hc:=hC.at hq;split at h
  ·rename_i c hop;simp only at hop;subst hop;obtain⟨cl,xs,ts⟩:=c;split at h
   ·rename_i f hf;simp only at hf;subst hf;split at h
    ·rename_i f' ays hfn;cases hb:Nat.beq f' q.f&&q.chk&&ays.all D.one with
     |false=>rw[hb]at h;cases h
     |true=>
      rw[hb]at h;simp only[ap,ax]at hb;obtain⟨⟨b1,b2⟩,b3⟩:=hb;have b1:=aq b1;subst b1;cases h;have hq':=CRok.of b2;obtain⟨n1,n2⟩:=CR.need_of hp.1;intro ξ g w V hH hn;have fin:∀{vs:List Value},CS g.X g.N w (Ag ays) true vs->Calls E.P q.f vs.toArray w (QK λv w'=>∃g',Post (A4 H) q.eff g w v g' w'):=λhv=>by have :=LV (es:=q.c.args.map (D.ren q.r)) hv b3;rw[n1]at this;exact aV hq' hc n2 V hn this
      unfold WU at hfn;split at hfn
      ·rename_i f0 first captured as' hx has;cases he:first.isEmpty&&captured.isEmpty with
       |false=>rw[he]at hfn;cases hfn
       |true=>
        rw[he]at hfn;simp only[cond_true,Option.some.injEq,Prod.mk.injEq]at hfn;obtain⟨rfl,rfl⟩:=hfn;rw[ap,fk,fk]at he;obtain⟨rfl,rfl⟩:=he;obtain⟨vs,k1,k2,_⟩:=EJ hH has;refine Ms (first := #[]) (captured:= #[]) (B2 hH hx) hc.1 k1 ?_;simpa using fin k2
      ·rename_i f0 a b as' hx has;split at hfn
       ·rename_i a' b' ha hb';simp only[Option.some.injEq,Prod.mk.injEq]at hfn;obtain⟨rfl,rfl⟩:=hfn;obtain⟨v,hv,va,vb,h1,h2,h3⟩:=Bh hH hx;cases(List.cons.inj h3).1;obtain⟨vs,k1,k2,_⟩:=EJ hH has;refine Ms hv hc.1 k1 ?_;have :=fin (EF (EF (HX ha h1) k2) (HX hb' h2));simpa using this
       ·cases hfn
      ·cases hfn
    ·cases h
   ·cases h
  ·cases h
 ·split at h
  ·rename_i t len qs hop;simp only at hop;subst hop;obtain⟨B,h1,h2⟩:=ak.1 h;cases h2;exact jL hZ h1
  ·cases h
 ·rename_i z hz;split at h
  ·rename_i rd k x qs hb;cases h;obtain⟨rfl,hp⟩:=hp;exact TE hZ hb hp
  ·cases h
 ·rename_i z hz;split at h
  ·rename_i rd x qs hb;cases h;obtain⟨rfl,hp⟩:=hp;exact TE hZ hb hp
  ·cases h
 ·rename_i d hz;split at h
  ·rename_i rd wr nw r qs hb;cases h;obtain⟨rfl,hp⟩:=hp;exact TE hZ hb hp
  ·cases h
end
end Go.Sx
namespace Go.Sx
open Go.Mi Go.RowKit
variable [Dfr]
def xA (P:Program) (L:DL) (H:Hp):ResultVar->Option D
 | .tmp t=>D4 L t
 | .cell x t=>match D4 L x,N9 P t with
  |some (.cp k o),some (fl,m)=>(match A4 H k with
   |some (.ob _ d)=>(Jm (Ig d) o m).bind (I5 fl)
   |_=>none)
  |_,_=>none
def J1 (P:Program) (L:DL) (H:Hp):List ResultVar->Option (List D)
 |[]=>some []
 |r::rs=>match xA P L H r,J1 P L H rs with
  |some d,some ds=>bif d.one then some (d::ds)else none
  |_,_=>none
def Wt:List D->D
 |[d]=>d
 |ds=> .tu (Ag ds)
section
variable {P:Program} {n:Nat} {L:DL} {H:Hp} {S0:Nat->Prop} {g0 g:G} {w0 w:World} {nb:Nat} {a:Act} {Q:Exit->Act->World->Prop}
theorem St.fx (h:St n S0 g0 w0 L H nb a g w):Fr a n L g w:=⟨h.size,h.defers,h.fr⟩
theorem X1 {t:TypeId} {fl:Bool} {m b o:Nat} {r:List D} {d:D} {l:List Value} (ht:N9 P t=some (fl,m)) (ha:At w b o l) (hl:l.length=m) (hs:DD g.X g.N w r l) (ho:∀u∈l,u.oneCell'=true) (hf:I5 fl r=some d):∃v,Sm g w d v/\(loadVar t ⟨b,o,none⟩).run P w= .ok v w:=by
 obtain⟨td,h1,h2,h3⟩:=FT ht;unfold I5 at hf;cases fl with
 |true=>
  simp only[cond_true]at hf;split at hf
  ·rename_i d0;obtain⟨v,rfl,h4⟩:=S8 (DR.1 hs) hf;have hc:w.cell? ⟨b,o,none⟩=some v:=by simpa using ha 0 v rfl
   exact⟨v,h4,by simp [loadVar,Hz h1 h2,hc]⟩
  ·cases hf
 |false=>
  simp only[cond_false,Option.some.injEq]at hf;subst hf;refine⟨_,Tb hs ho,?_⟩;obtain⟨inf,hi,hz⟩:=ak.1 h3;have hag:(isAgg t).run P w= .ok true w:=by simp only[isAgg,Sem.run_bind,Aq h1,Result.andThen_ok];cases td<;>simp_all [TypeDesc.flat]
  have hld:=run_loadCells_list (P:=P) w ⟨b,o,none⟩ l (λj v hj=>by rw[Dm];exact ha j v hj);subst hl;simp [loadVar,hag,sizeOf,typeInfo,hi,hz,hld]
theorem qI (V:St n S0 g0 w0 L H nb a g w) {r:ResultVar} {d:D} (h:xA P L H r=some d):∃v,RV P a w r v/\Sm g w d v:=by
 cases r with
 |tmp t=>exact⟨_,RV.tmp V.fx.frm (V.fx.get.lk h),V.fx.get t d h⟩
 |cell x t=>
  simp only[xA]at h;split at h
  ·rename_i k o fl m hx ht;split at h
   ·rename_i ty d0 hk;obtain⟨r,h1,h2⟩:=be.1 h;obtain⟨b,c,k1,k2,k3,k4,k5⟩:=V.hs.os k _ hk;obtain⟨b',e1,e2⟩:=V.fx.get x _ hx;rw[k1]at e1;cases e1;have hxv:a.tmps.getD x undef=vP b o:=(List.cons.inj e2).1;obtain⟨q1,q2⟩:=Ib (Eu k4) h1;have ha:At w b 0 c.toList:=At.of_blk k3;have key:∃v,Sm g w d v/\(loadVar t ⟨b,o,none⟩).run P w= .ok v w:=by
     cases hm:m with
     |zero=>
      subst hm;exact X1 ht (l:=[]) (λi u hu=>by simp at hu) rfl (by simpa using q1) (by simp) h2
     |succ m'=>
      have q2':o+m<=c.toList.length:=by rw[aj (by omega)]at q2;simpa using q2
      refine X1 ht (l:=(c.toList.drop o).take m) ?_ (by simp at q2'⊢;omega) q1 (λu hu=>k5 u (cw (cv hu))) h2;have h3:c.toList=c.toList.take o++(c.toList.drop o).take m++(c.toList.drop o).drop m:=by rw[bw,dg,dg]
      have :=At.sub ha h3;rw[ao,ei (by omega),bu]at this;exact this
    obtain⟨v,h3,h4⟩:=key;exact⟨v,by simp only[RV,rv,hxv,asAddr,Sem.run_bind,Sem.run_pure,Result.andThen_ok,h4],h3⟩
   ·cases h
  ·cases h
theorem VA (V:St n S0 g0 w0 L H nb a g w):∀{rs:List ResultVar} {ds:List D},J1 P L H rs=some ds->∃vs,(rs.mapM (rv a.tmps)).run P w= .ok vs w/\CS g.X g.N w (Ag ds) true vs/\vs.length=ds.length/\∀d∈ds,d.one=true
 |[],ds,h=>by simp only[J1,Option.some.injEq]at h;subst h;exact⟨[],by simp,rfl,rfl,by simp⟩
 |r::rs,ds,h=>by
  simp only[J1]at h;split at h
  ·rename_i d ds' h1 h2;cases ho:d.one with
   |false=>rw[ho]at h;cases h
   |true=>
    rw[ho]at h;cases h;obtain⟨v,k1,k2⟩:=qI V h1;obtain⟨vs,k3,k4,k5,k6⟩:=VA V h2;unfold RV at k1;refine⟨v::vs,by simp [List.mapM_cons,k1,k3],⟨[v],vs,rfl,k2,k4⟩,by simp [k5],λe he=> ?_⟩;rcases ez.1 he with rfl|he
    ·exact ho
    ·exact k6 e he
  ·cases h
theorem eD (V:St n S0 g0 w0 L H nb a g w) {fn:Func} {ds:List D} (h:J1 P L H fn.results.toList=some ds):∃v,(results fn a.tmps).run P w= .ok v w/\Sm g w (Wt ds) v:=by
 obtain⟨vs,h1,h2,h3,h4⟩:=VA V h;have hr:(results fn a.tmps).run P w= .ok (if h:vs.toArray.size=1 then vs.toArray[0]else .tuple vs.toArray) w:=by rw[Ws,Array.mapM_eq_mapM_toList];simp [h1]
 refine⟨_,hr,?_⟩
 match ds,vs,h2,h3 with
 |[],[],h2,_=>exact⟨[],rfl,rfl⟩
 |[d],[v],h2,_=>
  obtain⟨l1,l2,e,k1,k2⟩:=h2;have :l2=[]:=k2;subst this;rw[fm]at e;subst e;exact k1
 |d::e::ds,u::v::vs,h2,_=>exact⟨_,h2,rfl⟩
def LJ:List D->Nat->DL
 |[],_=>[]
 |d::ds,i=>(i,d)::LJ ds (i+1)
def EP (H:Hp):Hc->Bool->Prop
 |[],_=>True
 |(k,o)::r,b=>A4 H k=some o/\EP H r b
def Gs (c:Hc):Hp:=c.map λp=>(p.1,some p.2)
theorem F4 {c:Hc} {k:Nat}:A4 (Gs c) k=Ev c k:=by
 induction c with
 |nil=>rfl
 |cons p c ih=>
  obtain⟨s,o⟩:=p;simp only[Gs,bg,A4,Fe,Ev]at ih⊢;by_cases e:s=k
  ·subst e;simp
  ·rw[BL e];exact ih
theorem CU {E : Value -> Ending} (hD : Dfr.ds = ([] : List Deferred)) {f : FuncId} {fn : Func} {code : Code} {c : Con} {nb : Nat} (hf : P.funcs[f]? = some fn) (hname : (fn.name == "runtime.NumGoroutine") = false) (hb : fn.body = some code) (hn : fn.ntmps = n) (hl : Nat.ble c.args.length n = true) (hone : c.args.all D.one = true) (hk : (Ax c.H0).all (Nat.blt · nb) = true)
  (h:∀(g0:G) (w0:World) (a:Act) (g:G) (w:World),(∀k v,g0.N k=some v->k∈Ax c.H0)->St n (c.foot g0) g0 w0 (LJ c.args 0) (Gs c.H0) nb a g w->code.wp P (bodyPost P fn (λe w'=>∃v,e=E v/\∃g',D7 c g0 w0 v g' w')) a w):XF E P f c:=by
 refine⟨⟨fn,hf,hname,by rw[hb];rfl⟩,λvs g w V hN hv=> ?_⟩;have hlen:∀{ds:List D} {vs:List Value},(∀d∈ds,d.one=true)->CS g.X g.N w (Ag ds) true vs->vs.length=ds.length:=by
  intro ds
  induction ds with
  |nil=>intro vs _ h;have :vs=[]:=h;subst this;rfl
  |cons d ds ih=>
   rintro vs ho ⟨l1,l2,rfl,h1,h2⟩;obtain⟨v,rfl⟩:=G8 h1 (ho d (bz ..));simp [ih (λe he=>ho e (a_ _ he)) h2]
 have ho:=ax.1 hone;have hvl:=hlen ho hv;refine kT hf hb hn (by rw[hvl];exact hl) hD λa hF=> ?_;refine h g w a g w hN ⟨hF.size,hF.defers,λt d ht=> ?_,?_,Go.refl _ _ _ λx ⟨k,o,h1,h2⟩=>V.own k o h1 x h2,V.wf,λk o hk b hb=> .inl ⟨k,o,by rw[<-F4];exact hk,hb⟩,λk v hkv=> ?_⟩
 ·have key : ∀ (ds : List D) (us : List Value) (i : Nat), (∀ d ∈ ds, d.one = true) -> CS g.X g.N w (Ag ds) true us -> (∀ s v, lk ((us.zipIdx i).map λp => (p.2, p.1)) s = some v -> a.tmps.getD s undef = v) -> D4 (LJ ds i) t = some d -> Sm g w d (a.tmps.getD t undef) := by
   intro ds
   induction ds with
   |nil=>intro us i _ _ _ ht;cases ht
   |cons e ds ih=>
    rintro us i ho ⟨l1,l2,rfl,h1,h2⟩ hg ht;obtain⟨v,rfl⟩:=G8 h1 (ho e (bz ..));simp only[LJ,D4]at ht;by_cases e':i=t
    ·subst e';simp at ht;subst ht;have :=hg i v (by simp [lk]);rw[this];exact h1
    ·rw[BL e']at ht;refine ih l2 (i+1) (λq hq=>ho q (a_ _ hq)) h2 (λs v hs=>hg s v ?_) ht;simp only[List.singleton_append,fv,bg,lk];have hne:¬i=s:=λes=>by
      subst es;have :∀(us:List Value) (j:Nat),i<j->lk ((us.zipIdx j).map λp=>(p.2,p.1)) i=none:=by
       intro us
       induction us with
       |nil=>intro j _;rfl
       |cons u us ih2=>
        intro j hj;simp only[fv,bg,lk];rw[BL (show¬j=i by omega)];exact ih2 (j+1) (by omega)
      rw[this l2 (i+1) (by omega)]at hs;cases hs
     rw[BL hne];exact hs
  exact key c.args vs 0 ho hv hF.get ht
 ·exact V.sub λk o hk=>by rw[<-F4];exact hk
 ·have :=ax.1 hk k (hN k v hkv);simpa[ay]using this
theorem kJ (hD : Dfr.ds = ([] : List Deferred)) {f : FuncId} {fn : Func} {code : Code} {c : Con} {nb : Nat} (hf : P.funcs[f]? = some fn) (hname : (fn.name == "runtime.NumGoroutine") = false) (hb : fn.body = some code) (hn : fn.ntmps = n) (hl : Nat.ble c.args.length n = true) (hone : c.args.all D.one = true) (hk : (Ax c.H0).all (Nat.blt · nb) = true)
  (h:∀(g0:G) (w0:World) (a:Act) (g:G) (w:World),(∀k v,g0.N k=some v->k∈Ax c.H0)->St n (c.foot g0) g0 w0 (LJ c.args 0) (Gs c.H0) nb a g w->code.wp P (bodyPost P fn (QK λv w'=>∃g',D7 c g0 w0 v g' w')) a w):ConOk P f c:=
 CU (E:= .returned) hD hf hname hb hn hl hone hk h
theorem tK (hD:Dfr.ds=([]:List Deferred)) {fn:Func} {c:Con} {ds:List D} {e:Exit} (he:e= .normal\/e= .ret) (V:St n (c.foot g0) g0 w0 L H nb a g w) (h:J1 P L H fn.results.toList=some ds) (hr:weak (Wt ds) c.res=c.res) (h1:EP H c.H1 true):bodyPost P fn (QK λv w'=>∃g',D7 c g0 w0 v g' w') e a w:=by
 obtain⟨v,h2,h3⟩:=eD V h;have h4:Sm g w c.res v:=hr▸Oj h3;have key:∀k o,Ev c.H1 k=some o->A4 H k=some o:=by
  have :∀(r:Hc),EP H r true->∀k o,Ev r k=some o->A4 H k=some o:=by
   intro r
   induction r with
   |nil=>intro _ k o h;cases h
   |cons p r ih=>
    obtain⟨s,u⟩:=p;intro hh k o h;simp only[Ev]at h;by_cases e:s=k
    ·subst e;simp at h;subst h;exact hh.1
    ·rw[BL e]at h;exact ih hh.2 k o h
  exact this c.H1 h1
 have post:∃g',D7 c g0 w0 v g' w:=⟨g,V.go,h4,V.hs.sub key,λk o hk b hb=>V.fp k o (key k o hk) b hb⟩;rcases he with rfl|rfl
 ·exact l9 hD V.fx.frm h2 post
 ·exact l8 hD V.fx.frm h2 post
theorem iC {x y:Code} {c:Operand} {t:Bool} (V:St n S0 g0 w0 L H nb a g w) (hc:Fc L c=some (.v (.bool t))) (ht:t=true->x.wp P Q a w) (hf:t=false->y.wp P Q a w):(Code.cond c x y).wp P Q a w:=
 Aae V.fx.frm (B2 V.fx.get hc) ht hf
theorem wJ {σ : Type} {code : Code} (m : σ -> Nat) (Li : σ -> DL) (Hi : σ -> Hp) (Pi : σ -> Prop) {nb' : Nat} (s0 : σ) (hP : Pi s0) (V : St n S0 g0 w0 (Li s0) (Hi s0) nb' a g w)
  (step:∀s a g w,Pi s->St n S0 g0 w0 (Li s) (Hi s) nb' a g w->code.wp P (Exit.then (λa' w'=>∃s',m s'<m s/\Pi s'/\∃g',St n S0 g0 w0 (Li s') (Hi s') nb' a' g' w') Q) a w):(Code.loop code).wp P Q a w:=by
 refine Zk (λk a w=>∃s,m s=k/\Pi s/\∃g,St n S0 g0 w0 (Li s) (Hi s) nb' a g w) (m s0) ⟨s0,rfl,hP,g,V⟩ ?_;rintro k a w ⟨s,rfl,hp,g,V⟩;refine wp_mono (step s a g w hp V) λe a w h=> ?_;cases e<;>first |exact h|skip;obtain⟨s',h1,h2,g',h3⟩:=h;exact⟨m s',h1,s',rfl,h2,g',h3⟩
end
end Go.Sx
namespace Go.Sx
open Go.Mi Go.RowKit
variable [Dfr]
def G3 (ρ:LO) (ks0:List Nat) (L':DL) (H':Hc) (nb':Nat):Bool:=
 let a:=Ax ρ
 HI a&&HI (ρ.map (·.2))&&(ks0.all λk=>CN k a&&Nat.beq (rn ρ k) k)&&(L'.all λp=>Fb a p.2)&&(H'.all λp=>CN p.1 a&&Fg a p.2)&&(a.all (Nat.blt · nb'))
section
variable {P:Program} {n:Nat} {L:DL} {H:Hp} {S0:Nat->Prop} {g0 g:G} {w0 w:World} {nb:Nat} {a:Act}
theorem OD:∀{L:DL} {t:Nat} {d:D},D4 L t=some d->(t,d)∈L
 |(s,u)::r,t,d,h=>by
  simp only[D4]at h;by_cases e:s=t
  ·subst e;simp at h;subst h;simp
  ·rw[BL e]at h;exact a_ _ (OD h)
theorem OE {r:D->D} {L:DL} {t:Nat}:D4 (L.map λp=>(p.1,r p.2)) t=(D4 L t).map r:=by
 induction L with
 |nil=>rfl
 |cons p L ih=>
  obtain⟨s,u⟩:=p;simp only[bg,D4];by_cases e:s=t
  ·subst e;simp
  ·rw[BL e];simpa using ih
theorem St.ren {ks0:List Nat} (Y:∀k v,g0.N k=some v->k∈ks0) (V:St n S0 g0 w0 L H nb a g w) (ρ:LO) (L':DL) (H':Hc) (nb':Nat) (hc:G3 ρ ks0 L' H' nb'=true) (hL:Bo L (Ax L')=L'.map λp=>(p.1,p.2.ren (rn ρ))) (hH:Oh H (rn ρ) H'):∃g',St n S0 g0 w0 L' (Gs H') nb' a g' w:=by
 simp only[G3,ap,ax]at hc;obtain⟨⟨⟨⟨⟨c1,c2⟩,c3⟩,c4⟩,c5⟩,c6⟩:=hc;have c1:=FL c1;have c2:=FL c2;have nm:∀{ks:List Nat} {d:D},Fb ks d=true->d.plain=true/\∀k∈d.nm,k∈ks:=λ{ks d} h=>by simp only[Fb,ap,ax]at h;exact⟨h.1,λk hk=>A1.1 (h.2 k hk)⟩
 have nmO:∀{ks:List Nat} {d:O},Fg ks d=true->d.plain=true/\∀k∈d.nm,k∈ks:=λ{ks d} h=>by simp only[Fg,ap,ax]at h;exact⟨h.1,λk hk=>A1.1 (h.2 k hk)⟩
 let g':G:=⟨λk=>if k∈Ax ρ then g.N (rn ρ k)else none,λk=>g.F (rn ρ k),g.X⟩
 have gN:∀k∈Ax ρ,g'.N k=g.N (rn ρ k):=λk hk=>ab hk;have hk0:∀k∈ks0,k∈Ax ρ/\rn ρ k=k:=λk hk=>by have :=c3 k hk;exact⟨A1.1 this.1,aq this.2⟩
 have hob:∀k o,A4 (Gs H') k=some o->k∈Ax ρ/\o.plain=true/\(∀j∈o.nm,j∈Ax ρ)/\A4 H (rn ρ k)=some (o.ren (rn ρ)):=λk o ho=>by rw[F4]at ho;have :=c5 _ (Kz ho);simp only at this;exact⟨A1.1 this.1,(nmO this.2).1,(nmO this.2).2,M3 hH ho⟩
 have hinj:∀i∈Ax ρ,∀j∈Ax ρ,rn ρ i=rn ρ j->i=j:=λi hi j hj e=>by have h1:=HN c2 (FC c1 hi);have h2:=HN c2 (FC c1 hj);rw[e,h2]at h1;exact(Option.some.inj h1).symm
 refine⟨g',V.size,V.defers,λt d ht=> ?_,⟨V.hs.wf,λk o ho=> ?_,λk o ho b hb=> ?_,λk o k' o' ho ho' hne b hb hb'=> ?_⟩,⟨V.go.ch,V.go.s,V.go.x,V.go.k,λk v hk=> ?_,λk v hk=> ?_⟩,V.wf0,λk o ho b hb=> ?_,λk v hk=> ?_⟩
 ·have h1:D4 (Bo L (Ax L')) t=some (d.ren (rn ρ)):=by rw[hL,OE,ht];rfl
  have h2:=V.fr t _ (Fl h1).2;obtain⟨p1,p2⟩:=nm (c4 _ (OD ht));exact(GD d _ _ p1 λk hk=>gN k (p2 k hk)).1 h2
 ·obtain⟨h1,h2,h3,h4⟩:=hob k o ho;exact(Kg h2 (λj hj=>gN j (h3 j hj)) (gN k h1) rfl rfl).1 (V.hs.os _ _ h4)
 ·exact V.hs.own _ _ (hob k o ho).2.2.2 b hb
 ·exact V.hs.dis _ _ _ _ (hob k o ho).2.2.2 (hob k' o' ho').2.2.2 (λe=>hne (hinj k (hob k o ho).1 k' (hob k' o' ho').1 e)) b hb hb'
 ·obtain⟨h1,h2⟩:=hk0 k (Y k v hk);rw[gN k h1,h2];exact V.go.n k v hk
 ·obtain⟨h1,h2⟩:=hk0 k (Y k v hk);show g.F (rn ρ k)=_;rw[h2];exact V.go.f k v hk
 ·exact V.fp _ _ (hob k o ho).2.2.2 b hb
 ·by_cases h:k∈Ax ρ
  ·have :=c6 k h;rw[ay]at this;exact this
  ·rw[show g'.N k=none from aj h]at hk;cases hk
def D.sb (d:D) (k:Nat) (q:Nat->D) (s:D):D:=match d with
 | .cons d ds=> .cons (d.sb k q s) (ds.sb k q s)
 | .ag d=> .ag (d.sb k q s)
 | .tu d=> .tu (d.sb k q s)
 | .fn f a b=> .fn f (a.sb k q s) (b.sb k q s)
 | .ifc t d=> .ifc t (d.sb k q s)
 | .im d o=> .im (d.sb k q s) o
 | .cp j o=>bif Nat.beq j k then q o else .cp j o
 | .sk j=>bif Nat.beq j k then s else .sk j
 |d=>d
theorem dQ {X X' : Nat -> Prop} {N : Nat -> Option Value} {k : Nat} {q : Nat -> D} {s : D} (hx : ∀ x, X' x -> X x) (hq : ∀ b o m, N k = some (vp b) -> CS X' N w (q o) m [vP b o]) (hs : ∀ v m, N k = some v -> v.oneCell' = true -> CS X' N w s m [v]) :
  ∀{d:D} {m:Bool} {l:List Value},CS X N w d m l->CS X' N w (d.sb k q s) m l:=by
 intro d
 induction d with
 |cons a b iha ihb=>rintro m l ⟨l1,l2,rfl,h1,h2⟩;exact⟨l1,l2,rfl,iha h1,ihb h2⟩
 |ag d ih=>rintro m l ⟨l',h1,h2,h3⟩;exact⟨l',ih h1,h2,h3⟩
 |tu d ih=>rintro m l ⟨l',h1,h2⟩;exact⟨l',ih h1,h2⟩
 |fn f a b iha ihb=>rintro m l ⟨va,vb,h1,h2,h3⟩;exact⟨va,vb,iha h1,ihb h2,h3⟩
 |ifc t d ih=>rintro m l ⟨v,h1,h2⟩;exact⟨v,ih h1,h2⟩
 |im d o ih=>rintro m l ⟨b,l',h1,h2,h3,h4,h5,h6⟩;exact⟨b,l',λh=>h1 (hx b h),h2,h3,h4,h5,ih h6⟩
 |cp j o=>
  intro m l h;simp only[D.sb];by_cases e:j=k
  ·subst e;simp only[et,cond_true];obtain⟨b,h1,rfl⟩:=h;exact hq b o m h1
  ·rw[BL e];exact h
 |sk j=>
  intro m l h;simp only[D.sb];by_cases e:j=k
  ·subst e;simp only[et,cond_true];obtain⟨v,h1,rfl,h2⟩:=h;exact hs v m h1 h2
  ·rw[BL e];exact h
 |_=>intro m l h;exact sU h hx
def O.sb (o:O) (k:Nat) (q:Nat->D) (s:D):O:=match o with
 | .ob ty d=> .ob ty (d.sb k q s)
 | .sl ty e xs=> .sl ty e xs
theorem St.drop (V : St n S0 g0 w0 L H nb a g w) (k : Nat) {o : O} (hk : A4 H k = some o) (q : Nat -> D) (s : D) {L' : DL} {H' : Hp} (hL : L' = L.map λp => (p.1, p.2.sb k q s)) (hH : H' = (k, none) :: H.map λp => (p.1, p.2.map (O.sb · k q s)))
  (hq:∀X',(∀x,X' x->g.X x/\x∉g.F k)->∀b o m,g.N k=some (vp b)->CS X' g.N w (q o) m [vP b o]) (hs:∀X',(∀x,X' x->g.X x/\x∉g.F k)->∀v m,g.N k=some v->v.oneCell'=true->CS X' g.N w s m [v]):∃g',St n S0 g0 w0 L' H' nb a g' w:=by
 subst hL;subst hH;have hx:∀x,(g.X x/\x∉g.F k)->g.X x:=λx h=>h.1;have hsem:=λ{d:D} {m:Bool} {l:List Value} (h:CS g.X g.N w d m l)=>dQ hx (hq (λx=>g.X x/\x∉g.F k) λ_ h=>h) (hs (λx=>g.X x/\x∉g.F k) λ_ h=>h) h;have hob:∀j u,A4 ((k,none)::H.map λp=>(p.1,p.2.map (O.sb · k q s))) j=some u->j≠k/\∃u',A4 H j=some u'/\u=u'.sb k q s:=by
  intro j u h;have h:=BS.1 h;simp only[Fe]at h;by_cases e:k=j
  ·subst e;simp at h
  ·rw[BL e]at h;refine⟨λh=>e h.symm,?_⟩;have :∀(H:Hp),Fe (H.map λp=>(p.1,p.2.map (O.sb · k q s))) j=some (some u)->∃u',Fe H j=some (some u')/\u=u'.sb k q s:=by
    intro H
    induction H with
    |nil=>intro h;cases h
    |cons p H ih=>
     obtain⟨s',p2⟩:=p;intro h;simp only[bg,Fe]at h⊢;by_cases e:s'=j
     ·subst e;simp only[et,cond_true,Option.some.injEq]at h⊢;obtain⟨u',h1,h2⟩:=ak.1 h;exact⟨u',h1,h2.symm⟩
     ·rw[BL e]at h⊢;exact ih h
   obtain⟨u',h1,h2⟩:=this H h;exact⟨u',BS.2 h1,h2⟩
 refine⟨⟨g.N,g.F,λx=>g.X x/\x∉g.F k⟩,V.size,V.defers,λt d ht=> ?_,⟨λx h=>V.hs.wf x h.1,λj u h=> ?_,λj u h b hb=> ?_,λj u j' u' h h' hne=> ?_⟩,⟨V.go.ch,V.go.s,λx h=>V.go.x x h.1,λx h1 h2=>⟨V.go.k x h1 h2,λh3=> ?_⟩,V.go.n,V.go.f⟩,V.wf0,λj u h b hb=> ?_,V.nm⟩
 ·rw[OE (r:=λd=>d.sb k q s)]at ht;obtain⟨d',h1,rfl⟩:=ak.1 ht;exact hsem (V.fr t d' h1)
 ·obtain⟨hne,u',h1,rfl⟩:=hob j u h;have :=V.hs.os j u' h1;cases u' with
  |ob ty ds=>obtain⟨b,c,k1,k2,k3,k4,k5⟩:=this;exact⟨b,c,k1,k2,k3,hsem k4,k5⟩
  |sl ty e xs=>
   obtain⟨v,ls,k1,k2,k3,k4,k5,k6⟩:=this;exact⟨v,ls,k1,k2,k3,k4,k5.mono (FY (S:=λ_=>False) ⟨Chp.refl _ _,λ_ h=>h.elim,λx h=> .inl (hx x h),λ_ _ h=>h⟩ e),k6⟩
 ·obtain⟨hne,u',h1,rfl⟩:=hob j u h;exact⟨V.hs.own j u' h1 b hb,V.hs.dis j u' k o h1 hk hne b hb⟩
 ·obtain⟨_,v,h1,rfl⟩:=hob j u h;obtain⟨_,v',h1',rfl⟩:=hob j' u' h';exact V.hs.dis j v j' v' h1 h1' hne
 ·rcases V.fp k o hk x h3 with h4|h4
  ·exact h2 h4
  ·have :=V.wf0 x h1;omega
 ·obtain⟨_,u',h1,rfl⟩:=hob j u h;exact V.fp j u' h1 b hb
theorem St.frz (V:St n S0 g0 w0 L H nb a g w) (k:Nat) {te:TypeId} {e:List Fk} {xs:List (RT e)} (nn:Bool) (hnn:nn=true->xs≠[]) (hk:A4 H k=some (.sl te e xs)) {L':DL} {H':Hp} (hL:L'=L.map λp=>(p.1,p.2.sb k (λo=> .cp k o) (.ls nn e xs))) (hH:H'=(k,none)::H.map λp=>(p.1,p.2.map (O.sb · k (λo=> .cp k o) (.ls nn e xs)))):∃g',St n S0 g0 w0 L' H' nb a g' w:=by
 refine V.drop k hk _ _ hL hH (λX' hX b o m h=>⟨b,h,rfl⟩) λX' hX v m h ho=> ?_;obtain⟨v',ls,k1,k2,k3,k4,k5,k6⟩:=V.hs.os k _ hk;rw[h]at k1;cases k1;refine⟨v,ls,rfl,⟨k4,by rw[Dj k5.row,k5.len],?_⟩,k5.mono (FY (S:=λ_=>False) ⟨Chp.refl _ _,λ_ h=>h.elim,λx h=> .inl (hX x h).1,λ_ _ h=>h⟩ e)⟩;rcases k3.2 with⟨rfl,h0⟩|⟨b,cap,cur,rfl,_,hb,hc,hc2,_,_⟩
 ·refine .inl ⟨h0,.inl ⟨?_,rfl⟩⟩;cases nn with
  |false=>rfl
  |true=>exact absurd (bm h0) (hnn rfl)
 ·have hbF:b∈g.F k:=by rw[k2];simp [C8]
  refine .inr ⟨b,0,cap,rfl,hc,hc2,λhx=>(hX b hx).2 hbF,(k3.lt b (by simp [C8])).2,?_⟩;rcases k3.at with⟨h1,_⟩|⟨b',cap',h1,_,h2⟩
  ·cases h1
  ·cases h1;exact h2
theorem St.imm (V:St n S0 g0 w0 L H nb a g w) (k:Nat) {ty:TypeId} {d:D} (hk:A4 H k=some (.ob ty d)) {L':DL} {H':Hp} (hL:L'=L.map λp=>(p.1,p.2.sb k (λo=> .im d o) (.sk k))) (hH:H'=(k,none)::H.map λp=>(p.1,p.2.map (O.sb · k (λo=> .im d o) (.sk k)))):∃g',St n S0 g0 w0 L' H' nb a g' w:=by
 refine V.drop k hk _ _ hL hH (λX' hX b o m h=> ?_) λX' hX v m h ho=>⟨v,h,rfl,ho⟩;obtain⟨b',c,k1,k2,k3,k4,k5⟩:=V.hs.os k _ hk;rw[h]at k1;cases k1;have hbF:b∈g.F k:=by rw[k2];simp
 exact⟨b,c.toList,λhx=>(hX b hx).2 hbF,(V.hs.os k _ hk).lt b hbF,rfl,At.of_blk k3,k5,sU k4 λx hx=>(hX x hx).1⟩
end
end Go.Sx
namespace Go.Sx
open Go.Mi Go.RowKit
variable [Dfr]
def mX (t:Nat) (s:D) (L:DL):DL:=L.map λp=>(p.1,bif Nat.beq p.1 t then s else p.2)
theorem Ky {t:Nat} {s:D}:∀{L:DL} {u:Nat} {d:D},D4 (mX t s L) u=some d->(u=t/\d=s)\/D4 L u=some d
 |[],_,_,h=>by cases h
 |(v,x)::L,u,d,h=>by
  simp only[mX,bg,D4]at h⊢;by_cases e:v=u
  ·subst e;simp only[et,cond_true,Option.some.injEq]at h⊢;by_cases e:v=t
   ·subst e;simp at h;exact .inl ⟨rfl,h.symm⟩
   ·rw[BL e]at h;exact .inr h
  ·rw[BL e]at h⊢;exact Ky (L:=L) h
section
variable {P:Program} {n:Nat} {L:DL} {H:Hp} {S0:Nat->Prop} {g0 g:G} {w0 w:World} {nb:Nat} {a:Act}
theorem St.nilk (V:St n S0 g0 w0 L H nb a g w) (t:Nat) (te:TypeId) (e:List Fk) (ht:D4 L t=some (.v (.slice none 0 0))) {L':DL} {H':Hp} (hL:L'=mX t (.sk nb) L) (hH:H'=(nb,some (.sl te e []))::H):∃g',St n S0 g0 w0 L' H' (nb+1) a g' w:=by
 subst hL;subst hH
 let g':G:=⟨λk=>if k=nb then some (.slice none 0 0)else g.N k,λk=>if k=nb then[]else g.F k,g.X⟩
 have hne:∀k v,g.N k=some v->k≠nb:=λk v h e=>by have :k<nb:=V.nm k v h;omega
 have gn:∀k,k≠nb->g'.N k=g.N k:=λk h=>aj h;have gf:∀k,k≠nb->g'.F k=g.F k:=λk h=>aj h;have gF:g'.F nb=[]:=ab rfl;have gN:g'.N nb=some (.slice none 0 0):=ab rfl;have hgo:Go (λ_=>False) g w g' w:=⟨Chp.refl _ _,λ_ h=>h.elim,λ_ h=> .inl h,λ_ h _=>h,λk v h=>(gn k (hne k v h)).trans h,λk v h=>gf k (hne k v h)⟩;have hl:∀k o,A4 ((nb,some (O.sl te e []))::H) k=some o->(k=nb/\o= .sl te e [])\/(k≠nb/\A4 H k=some o):=λk o h=>by
  have h:=BS.1 h;simp only[Fe]at h;by_cases e:nb=k
  ·subst e;simp at h;exact .inl ⟨rfl,h.symm⟩
  ·rw[BL e]at h;exact .inr ⟨λx=>e x.symm,BS.2 h⟩
 refine⟨g',V.size,V.defers,λu d hu=> ?_,⟨V.hs.wf,λk o h=> ?_,λk o h b hb=> ?_,λk o k' o' h h' hk b hb hb'=> ?_⟩,⟨V.go.ch,V.go.s,V.go.x,V.go.k,λk v hk=> ?_,λk v hk=> ?_⟩,V.wf0,λk o h b hb=> ?_,λk v h=> ?_⟩
 ·rcases Ky hu with⟨rfl,rfl⟩|h
  ·have h1:[a.tmps.getD u undef]=[Value.slice none 0 0]:=V.fr u _ ht;exact⟨_,gN,h1,rfl⟩
  ·exact(V.fr u d h).mv hgo
 ·rcases hl k o h with⟨rfl,rfl⟩|⟨h1,h2⟩
  ·exact⟨_,[],gN,gF,⟨by simp,.inl ⟨rfl,rfl⟩⟩,by simp [maxLen],aa,by simp⟩
  ·exact(V.hs.os k o h2).mv hgo λ_ _ h=>h
 ·rcases hl k o h with⟨rfl,rfl⟩|⟨h1,h2⟩
  ·rw[gF]at hb;cases hb
  ·rw[gf k h1]at hb;exact V.hs.own k o h2 b hb
 ·rcases hl k o h with⟨rfl,rfl⟩|⟨h1,h2⟩
  ·rw[gF]at hb;cases hb
  ·rcases hl k' o' h' with⟨rfl,rfl⟩|⟨h3,h4⟩
   ·rw[gF]at hb';cases hb'
   ·rw[gf k h1]at hb;rw[gf k' h3]at hb';exact V.hs.dis k o k' o' h2 h4 hk b hb hb'
 ·have :=V.go.n k v hk;exact(gn k (hne k v this)).trans this
 ·exact(gf k (hne k v (V.go.n k v hk))).trans (V.go.f k v hk)
 ·rcases hl k o h with⟨rfl,rfl⟩|⟨h1,h2⟩
  ·rw[gF]at hb;cases hb
  ·rw[gf k h1]at hb;exact V.fp k o h2 b hb
 ·by_cases e:k=nb
  ·subst e;exact dp _
  ·rw[gn k e]at h;exact Nat.lt_succ_of_lt (V.nm k v h)
end
end Go.Sx
namespace Go.Sx
open Go.Mi Go.RowKit
variable [Dfr]
def bX (C:List (Nat×Rx)) (i:Nat):Prop:=match lkR C i with
 |some (.call q)=>q.exp=q.exp
 |_=>False
section
variable {P:Program} {n:Nat} {L:DL} {H:Hp} {S0:Nat->Prop} {g0 g:G} {w0 w:World} {nb:Nat} {a:Act} {Q:Exit->Act->World->Prop}
theorem St.len (V:St n S0 g0 w0 L H nb a g w) (t:Nat) {nn:Bool} {e:List Fk} {xs:List (RT e)} (ht:D4 L t=some (.ls nn e xs)):xs.length<=9223372036854775807:=by obtain⟨u,ls,_,h2,_⟩:=V.fr t _ ht;exact h2.1
theorem St.lens (V:St n S0 g0 w0 L H nb a g w) (k:Nat) {te:TypeId} {e:List Fk} {xs:List (RT e)} (hk:A4 H k=some (.sl te e xs)):xs.length<=9223372036854775807:=by obtain⟨v,ls,_,_,_,h,_⟩:=V.hs.os k _ hk;exact h
end
theorem Ki {k:IntKind} {x:Int} (h:k.signed=false):0<=k.wrap x:=by
 have h8:=FQ x;have h16:=Gg x;have h32:=Zj x;cases k with
 |u8=>omega
 |u16=>omega
 |u32=>omega
 |u64=>simp only[IntKind.wrap,IntKind.bits,IntKind.signed];simp;omega
 |_=>cases h
theorem iD {p q:Int} (h1: -9223372036854775808<=p+q) (h2:p+q<=9223372036854775807):A6 .i64 p q=p+q:=Er h1 h2
theorem Nz {p q:Int} (h1: -9223372036854775808<=p-q) (h2:p-q<=9223372036854775807):EO .i64 p q=p-q:=Er h1 h2
theorem WK {p q:Int} (h1: -9223372036854775808<=p*q) (h2:p*q<=9223372036854775807):BE .i64 p q=p*q:=Er h1 h2
theorem g8 {p q:Int} (h1:0<=p):DY p q=p%q:=Int.tmod_eq_emod_of_nonneg h1
theorem wQ {p q:Int} (h1:0<=p) (h2:0<=q) (h3:p<=9223372036854775807):QU .i64 p q=p/q:=oH h1 h2 h3
end Go.Sx
namespace Go.Sx
open Go.Mi Go.RowKit
variable [Dfr]
noncomputable def AR {α:Type} (x:α):α:=Classical.choose (p:=λy=>y=x) ⟨x,rfl⟩
theorem Ab {α:Type} (x:α):AR x=x:=Classical.choose_spec (p:=λy=>y=x) ⟨x,rfl⟩
noncomputable def DX (P:Nat->Prop):Nat:=Classical.epsilon λk=>¬P k/\∀j,j<k->P j
theorem CB {P:Nat->Prop} {k:Nat} (h:¬P k) (h':∀j,j<k->P j):k=DX P:=by
 have :=Classical.epsilon_spec (p:=λk=>¬P k/\∀j,j<k->P j) ⟨k,h,h'⟩;unfold DX;rcases Nat.lt_trichotomy k (Classical.epsilon λk=>¬P k/\∀j,j<k->P j)with h1|h1|h1
 ·exact absurd (this.2 k h1) h
 ·exact h1
 ·exact absurd (h' _ h1) this.1
theorem Bf {P:Nat->Prop} {k:Nat} (hk:∀j,j<k->P j) (h:P k):∀j,j<k+1->P j:=λj hj=>by
 rcases Nat.lt_or_eq_of_le (Nat.le_of_lt_succ hj)with h1|h1
 ·exact hk j h1
 ·exact h1▸h
theorem St.wk {n:Nat} {L:DL} {H:Hp} {S0:Nat->Prop} {g0 g:G} {w0 w:World} {nb:Nat} {a:Act} (V:St n S0 g0 w0 L H nb a g w) (t:Nat) (e:D) {d:D} (ht:D4 L t=some d) {L':DL} (hL:L'=mX t (weak d e) L):St n S0 g0 w0 L' H nb a g w:=by
 subst hL;refine⟨V.size,V.defers,λu q hu=> ?_,V.hs,V.go,V.wf0,V.fp,V.nm⟩;rcases Ky hu with⟨rfl,rfl⟩|h
 ·exact Oj (V.fr u d ht)
 ·exact V.fr u q h
def nd (a:List D) (b:List (Option O)):Prop:=(a,b)=(a,b)
theorem Ka {b:Bool} (h:b=false):¬b=true:=by rw[h];decide
end Go.Sx
namespace Go.Sx
open Go.Mi Go.RowKit
variable [Dfr]
theorem WC {P:Program} {w:World} {r:Reach} {base:Nat} {t e:TypeId} {x:Addr} {len cap:Nat} (ht:P.underlying t=some (.slice e)) (h:Value.okWide P w r base t (.slice (some x) len cap)):x.spot=none/\x.block<w.heap.size/\len<=cap:=by
 simp only[Value.okWide,ht,Cell.okWide,Cell.ok]at h;obtain⟨h1,h2,h3,h4,row,cells,h5,_⟩:=h;refine⟨h4,?_,h1⟩;unfold World.shape? at h5;rcases ci x.block w.heap.size with h6|h6
 ·exact h6
 ·rw[eg h6]at h5;simp at h5
def g00:G:=⟨λ_=>none,λ_=>[],λ_=>False⟩
theorem Ab3 (w:World):HS (Ev []) g00 w:=⟨λx h=>h.elim,λk o h=>by simp [Ev]at h,λk o h=>by simp [Ev]at h,λk o k' o' h=>by simp [Ev]at h⟩
theorem iP {k:IntKind}:∀l:List Int,(l.map λx=>[Value.int k x]).flatten=l.map (Value.int k)
 |[]=>rfl
 |x::l=>by simp [iP l]
theorem fa1 {X:Nat->Prop} {N:Nat->Option Value} {w:World} {k:IntKind}:∀l:List Int,Fa2 (rS X N w [.int k]) l (l.map λx=>[Value.int k x])
 |[]=>trivial
 |_::l=>⟨⟨_,rfl,rfl⟩,fa1 l⟩
theorem wG {w:World} {k:IntKind} (l:List Int) {b o c:Nat} (hc:l.length<=c) (hm:c<=maxLen) (hb:b<w.heap.size) (hat:∀i u,l[i]? =some u->w.cell? ⟨b,o+i,none⟩=some (.int k u)):Sm g00 w (.ls false [.int k] l) (vS b o l.length c):=by
 refine⟨_,l.map λx=>[Value.int k x],rfl,⟨b_ hc hm,?_,.inr ⟨b,o,c,rfl,hc,hm,id,hb,λi u hu=> ?_⟩⟩,fa1 l⟩
 ·rw[iP,cg];exact(ga _).symm
 ·rw[iP,eo]at hu;obtain⟨y,hy,rfl⟩:=ak.1 hu;exact hat i y hy
theorem d6 {w : World} {a : Option Addr} {len cap : Nat} {zs : List Int} {k : IntKind} (h : (a = none /\ len = 0 /\ cap = 0 /\ zs = []) \/
  ∃x,a=some x/\len<=cap/\cap<=maxLen/\zs.length=cap/\(∀i,i<zs.length->w.cell? (x.add i)=some (.int k (zs.getD i 0)))/\∀n∈zs,(Lit.int k n).wf=true) (ho:∀x,a=some x->x.spot=none/\x.block<w.heap.size/\len<=cap):Sm g00 w (.ls false [.int k] (zs.take len:List Int)) (.slice a len cap):=by
 rcases h with⟨rfl,rfl,rfl,rfl⟩|⟨x,rfl,h1,h2,h3,h4,_⟩
 ·exact⟨_,[],rfl,Lsl.nil,aa⟩
 ·obtain⟨h5,h6,_⟩:=ho x rfl;obtain⟨b,o,s⟩:=x;simp only at h5;subst h5;have hl:(zs.take len).length=len:=by rw[ao];omega
  have key:=wG (w:=w) (k:=k) (zs.take len) (b:=b) (o:=o) (c:=cap) (by omega) h2 h6 λi u hu=>by
   have hi:i<len:=by
    rcases ci i len with h|h
    ·exact h
    ·rw[bf (by rw[hl];exact h)]at hu;cases hu
   rw[List.getElem?_take_of_lt hi]at hu;have :=h4 i (by omega);rw[al,hu,ej]at this;rw[<-Dm];exact this
  rw[hl]at key;exact key
theorem mI {c:Con} {w w':World} {g g':G} (h0:c.H0=[]) (h:Go (c.foot g) g w g' w'):Below w.heap.size w w':=
 ⟨h.ch.os,h.ch.tape,h.ch.output,h.ch.size,λk hk=>h.ch.blk k hk λ⟨j,o,h1,_⟩=>by rw[h0]at h1;simp [Ev]at h1⟩
theorem ZV {P:Program} {f:FuncId} {c:Con} (h:ConOk P f c) (h0:c.H0=[]) (hr:c.res= .v (.bool true)) {w:World} {vs:List Value} (hv:CS g00.X g00.N w (Ag c.args) true vs):Calls P f vs.toArray w λe w'=>e= .returned (.bool true)/\Below w.heap.size w w':=by refine(h.2 vs g00 w (by rw[h0];exact Ab3 w) (λk v hk=>by cases hk) hv).mono λe w' ⟨v,he,g',hp⟩=> ?_;have h1:=hp.r;rw[hr]at h1;have h2:v= .bool true:=Sm.eq h1;subst h2;exact⟨he,mI h0 hp.go⟩
end Go.Sx
namespace Go.Sx
open Go.Mi Go.RowKit
variable [Dfr]
def pn (v:Value):Ending:= .panicked [{v,recovered:=false}]
abbrev En:=XF pn
def Pn1 (P:Program) (o:Oper) (n:Nat) (L:List (Nat×Value)) (w:World) (R:Value->World->Prop):Prop:=
 ∀(a:Act) (K:Act->World->Prop) (Q:Exit->Act->World->Prop),Frm a n L->(∀v w',R v w'->Q (.panic [{v,recovered:=false}]) a w')->o.wp P a w K Q
theorem Mm {P : Program} {w : World} {n : Nat} {L : List (Nat × Value)} {ds : Option Tmp} {ty : TypeId} {pos : String} {af : Array Edge} {gu : Option (Nat × Bool)} {x : Operand} {xs : Array Operand} {ts : Array TypeId} {f : FuncId} {first captured : Array Value} {vs : List Value} {R : Value -> World -> Prop} (hx : ev L x = some (.func (.func f) first captured)) (hc : Go.Mi.Callee P f) (ha : m5 L xs.toList = some vs)
  (h:Calls P f ((first ++vs.toArray)++captured) w (λe w'=>∃v,e=pn v/\R v w')):Pn1 P ⟨ds,.call ⟨.value x,xs,ts⟩,ty,pos,af,gu⟩ n L w R:=by
 intro a K Q hF k;obtain⟨fn,h1,h2,h3⟩:=hc.ok;have hxs:xs.map a.eval=vs.toArray:=by have :=hF.evals ha;rw[<-this,<-il]
 simp only[Oper.wp,execOp,resolve,hF.eval hx,Deferred.ofValue,Sem.run_bind,Sem.run_pure,Result.andThen_ok,invoke,callFunc,run_program,h1,h2,h3,hxs];simp only[iv,if_false,Sem.run_pure,Oper.upon_enter];refine h.mono λe w' he=> ?_;obtain⟨v,rfl,hr⟩:=he;exact k v w' hr
theorem U1 {P:Program} {w:World} {n:Nat} {L:List (Nat×Value)} {ds:Option Tmp} {ty:TypeId} {pos:String} {af:Array Edge} {gu:Option (Nat×Bool)} {x:Operand} {t:TypeId} {v:Value} {R:Value->World->Prop} (hx:ev L x=some (.iface t v)) (h:R (.iface t v) w):Pn1 P ⟨ds,.panic x,ty,pos,af,gu⟩ n L w R:=by intro a K Q hF k;have :=k _ _ h;simpa[Oper.wp,execOp,hF.eval hx,run_panic_iface,Oper.upon]using this
def bP (P:Program) (n:Nat) (o:Oper) (L:DL) (H:Nat->Option O) (e:Eff) (d:D):Prop:=
 ∀ξ g w,HS (Cj (e.rd++Ax e.wr) H) g w->Hold L ξ g w->Pn1 P o n (LN L ξ) w λv w'=>∃g',Go (e.foot H g) g w g' w'/\Wf g' w'/\Sm g' w' d v
def Qn (q:Option CR) (L:DL) (H:Hp) (o:Oper):Option (Eff×D×List Prop):=match q,o.op with
 |some q,.call c=>(match c.callee with
  | .value f=>(match WU L f c.args.toList with
   |some (f,ays)=>bif Nat.beq f q.f&&q.chk&&ays.all D.one&&q.σ.isEmpty then some (q.eff,q.c.res.ren q.r,[q.need ays H])else none
   |none=>none)
  |_=>none)
 |none,.panic x=>(match Fc L x with
  |some (.v (.iface t v))=>some (⟨[],[],[],.top⟩,.v (.iface t v),[])
  |_=>none)
 |_,_=>none
theorem jA {P:Program} {n:Nat} {q:Option CR} (hc:∀r,q=some r->En P r.f r.c) {L:DL} {H:Hp} {o:Oper} {e:Eff} {d:D} {ps:List Prop} (h:Qn q L H o=some (e,d,ps)) (hp:AllP ps):e.nw=[]/\bP P n o L (A4 H) e d:=by
 obtain⟨ds,op,ty,pos,af,gu⟩:=o;unfold Qn at h;split at h
 ·rename_i q c hop;simp only at hop;subst hop;have hc:=hc q rfl;obtain⟨cl,xs,ts⟩:=c;split at h
  ·rename_i f hf;simp only at hf;subst hf;split at h
   ·rename_i f' ays hfn;cases hb:Nat.beq f' q.f&&q.chk&&ays.all D.one&&q.σ.isEmpty with
    |false=>rw[hb]at h;cases h
    |true=>
     rw[hb]at h;simp only[ap,ax,List.isEmpty_iff]at hb;obtain⟨⟨⟨b1,b2⟩,b3⟩,b4⟩:=hb;have b1:=aq b1;subst b1;cases h;have hq':=CRok.of b2;obtain⟨n1,n2⟩:=CR.need_of hp.1;have hnw:q.eff.nw=[]:=by simp only[CR.eff,b4,List.filterMap_nil]
     refine⟨hnw,λξ g w V hH=> ?_⟩;have fin:∀{vs:List Value},CS g.X g.N w (Ag ays) true vs->Calls P q.f vs.toArray w (λe w'=>∃v,e=pn v/\∃g',Go (q.eff.foot (A4 H) g) g w g' w'/\Wf g' w'/\Sm g' w' (q.c.res.ren q.r) v):=λhv=>by have :=LV (es:=q.c.args.map (D.ren q.r)) hv b3;rw[n1]at this;refine(LE hq' hc n2 V (λp hp=>by rw[hnw]at hp;cases hp) this).mono λe w' ⟨v,he,g',hpo⟩=>⟨v,he,g',hpo.go,hpo.hs.wf,hpo.r⟩
     unfold WU at hfn;split at hfn
     ·rename_i f0 first captured as' hx has;cases he:first.isEmpty&&captured.isEmpty with
      |false=>rw[he]at hfn;cases hfn
      |true=>
       rw[he]at hfn;simp only[cond_true,Option.some.injEq,Prod.mk.injEq]at hfn;obtain⟨rfl,rfl⟩:=hfn;rw[ap,fk,fk]at he;obtain⟨rfl,rfl⟩:=he;obtain⟨vs,k1,k2,_⟩:=EJ hH has;refine Mm (first := #[]) (captured:= #[]) (B2 hH hx) hc.1 k1 ?_;simpa using fin k2
     ·rename_i f0 a b as' hx has;split at hfn
      ·rename_i a' b' ha hb';simp only[Option.some.injEq,Prod.mk.injEq]at hfn;obtain⟨rfl,rfl⟩:=hfn;obtain⟨v,hv,va,vb,h1,h2,h3⟩:=Bh hH hx;cases(List.cons.inj h3).1;obtain⟨vs,k1,k2,_⟩:=EJ hH has;refine Mm hv hc.1 k1 ?_;have :=fin (EF (EF (HX ha h1) k2) (HX hb' h2));simpa using this
      ·cases hfn
     ·cases hfn
   ·cases h
  ·cases h
 ·rename_i x hop;simp only at hop;subst hop;split at h
  ·rename_i t v hx;cases h;refine⟨rfl,λξ g w V hH=>U1 (B2 hH hx) ⟨g,Go.refl _ _ _ (λx ⟨k,hk,_⟩=>by simp [Ax]at hk),V.wf,rfl⟩⟩
  ·cases h
 ·cases h
section
variable {P:Program} {n nb nb':Nat} {l:List Oper} {rows:List Rw} {L0:DL} {H0:Hp} {S0:Nat->Prop} {g0:G} {w0:World} {Q:Exit->Act->World->Prop} {a:Act} {w:World}
theorem wpOp_mono {ops:Array Oper} {i:Nat} {K K':Act->World->Prop} (h:∀a w,K a w->K' a w) (hh:wpOp P ops Q i K a w):wpOp P ops Q i K' a w:=by
 unfold wpOp at hh⊢;split
 ·rename_i e;rw[e]at hh;exact h _ _ hh
 ·rename_i o e;rw[e]at hh;simp only at hh;split
  ·rename_i hw;rw[ab hw]at hh;exact hh.imp (Oper.wp_mono h) id
  ·rename_i hw;rw[aj hw]at hh;exact h _ _ hh
abbrev StN (n:Nat) (S0:Nat->Prop) (g0:G) (w0:World) (a:Act) (g:G) (w:World):Prop:=SS n S0 g0 w0 (λ_=>none) (λ_=>none) (λ_=>True) a g w
theorem d9 (hc : ChkR n nb nb' l rows) {d : Nat -> Bool} {i : Nat} {o : Oper} {e : Eff} {dv : D} (hz : (l.zip rows)[i]? = some (o, some e)) (hdi : d i = false) (hcl : ∀ i' j, C7 l i' j -> d i' = true -> d j = true) (hah : ∀ j, C7 l i j -> d j = true)
  (hg:gW l (((l.zip rows).take i).foldl GV L0) o=some true) (hp:bP P n o (Bo (((l.zip rows).take i).foldl GV L0) (LL l o)) (A4 (((l.zip rows).take i).foldl Il H0)) e dv)
  (hend:∀a g w v,StN n S0 g0 w0 a g w->Sm g w dv v->Q (.panic [{v,recovered:=false}]) a w) {K:Act->World->Prop} (h:RI n S0 g0 w0 l rows L0 H0 nb d a w):wpOp P l.toArray Q i K a w:=by
 obtain⟨g,V,hfr,hHS,hfoot,hw⟩:=Wo hc hz hdi hcl hah h;have ho:l[i]? =some o:=(dw.1 hz).1;unfold wpOp;simp only[db,ho];rw[ab (hw true hg)];refine .inl (hp _ g w hHS hfr.get a K Q hfr.frm ?_);rintro v w' ⟨g',hgo,hwf,hsm⟩;have hfoot2:∀b,e.foot (lw d fH 0 (l.zip rows) (A4 H0)) g b->g.X b:=λb ⟨k,h1,o',h2,h3⟩=>V.hs.own k o' h2 b h3;refine hend a g' w' v ⟨V.size,V.defers,λt d ht=>by simp at ht,⟨hwf,λk o h=>by simp at h,λk o h=>by simp at h,λk o k' o' h=>by simp at h⟩,V.go.trans (hgo.mono hfoot hfoot2) V.wf0 ?_,V.wf0,λk o h=>by simp at h,λ_ _ _=>trivial⟩ hsm;rintro y ⟨k,_,o',h2,h3⟩;exact V.fp k o' h2 y h3
end
def G5 (ops:List Oper) (ex:Ex) (q:Option CR) (p dd:Nat):Nat->List Oper->DL->Hp->Nat->Option (List Rw×List Prop×D×Nat)
 |_,[],_,_,nb=>some ([],[],.top,nb)
 |i,o::os,L,H,nb=>bif dd.testBit i then(G5 ops ex q p dd (i+1) os (GV L (o,none)) H nb).map λr=>(none::r.1,r.2)else
  match gW ops L o with
  |none=>none
  |some false=>bif Nat.beq i p then none else(G5 ops ex q p dd (i+1) os (GV L (o,none)) H nb).map λr=>(none::r.1,r.2)
  |some true=>bif Nat.beq i p then(match Qn q (Bo L (LL ops o)) H o with
   |none=>none
   |some (e,d,ps)=>(G5 ops ex q p dd (i+1) os (GV L (o,some e)) (Il H (o,some e)) nb).map λr=>(some e::r.1,ps++r.2.1,d,r.2.2.2))else
   (match ex i (Bo L (LL ops o)) H nb o with
   |none=>none
   |some (e,ps)=>(G5 ops ex q p dd (i+1) os (GV L (o,some e)) (Il H (o,some e)) (nb+e.nw.length)).map λr=>(some e::r.1,ps++r.2.1,r.2.2))
theorem U2 {P : Program} {n : Nat} {ops : List Oper} {ex : Ex} {q : Option CR} {p dd : Nat} (hex : M4 P n ex) (hc : ∀ r, q = some r -> En P r.f r.c) : ∀ {os : List Oper} {i : Nat} {L : DL} {H : Hp} {nb : Nat} {rows : List Rw} {ps : List Prop} {d : D} {nb' : Nat}, G5 ops ex q p dd i os L H nb = some (rows, ps, d, nb') -> AllP ps ->
  ∀(j:Nat) (b:Oper×Rw),(os.zip rows)[j]? =some b->dd.testBit (i+j)=false->
   if i+j=p then ∃e,b.2=some e/\gW ops (((os.zip rows).take j).foldl GV L) b.1=some true/\bP P n b.1 (Bo (((os.zip rows).take j).foldl GV L) (LL ops b.1)) (A4 (((os.zip rows).take j).foldl Il H)) e d
   else M0 P n ops (((os.zip rows).take j).foldl GV L) (((os.zip rows).take j).foldl Il H) b:=by
 intro os
 induction os with
 |nil=>intro i L H nb rows ps d nb' _ _ j b hb;simp at hb
 |cons o os ih=>
  intro i L H nb rows ps d nb' h hp j b hb hdd;have tail : ∀ {r1 : Rw} {rows' : List Rw} {L' : DL} {H' : Hp} {nb2 : Nat} {ps' : List Prop} {d' : D}, rows = r1 :: rows' -> G5 ops ex q p dd (i + 1) os L' H' nb2 = some (rows', ps', d', nb') -> AllP ps' -> GV L (o, r1) = L' -> Il H (o, r1) = H' -> (∀ j', j = j' + 1 -> i + j = p -> d' = d) -> (j = 0 -> b = (o, r1) -> if i + 0 = p then ∃ e, b.2 = some e /\ gW ops L b.1 = some true /\ bP P n b.1 (Bo L (LL ops b.1)) (A4 H) e d else M0 P n ops L H b) ->
    if i+j=p then ∃e,b.2=some e/\gW ops ((((o::os).zip rows).take j).foldl GV L) b.1=some true/\bP P n b.1 (Bo ((((o::os).zip rows).take j).foldl GV L) (LL ops b.1)) (A4 ((((o::os).zip rows).take j).foldl Il H)) e d
    else M0 P n ops ((((o::os).zip rows).take j).foldl GV L) ((((o::os).zip rows).take j).foldl Il H) b:=by
   intro r1 rows' L' H' nb2 ps' d' hr hpl hp' hL hH hdt h0;subst hr;cases j with
   |zero=>
    have hb':(o,r1)=b:=by simpa using hb
    have :=h0 rfl hb'.symm;simpa using this
   |succ j'=>
    have hb':(os.zip rows')[j']? =some b:=by simpa using hb
    have :=ih hpl hp' j' b hb' (by rw[show i+1+j'=i+(j'+1) by omega];exact hdd);rw[show i+1+j'=i+(j'+1) by omega]at this;have e1:(((o::os).zip (r1::rows')).take (j'+1)).foldl GV L=((os.zip rows').take j').foldl GV L':=by rw[<-hL];rfl
    have e2:(((o::os).zip (r1::rows')).take (j'+1)).foldl Il H=((os.zip rows').take j').foldl Il H':=by rw[<-hH];rfl
    rw[e1,e2];by_cases hip:i+(j'+1)=p
    ·rw[ab hip]at this⊢;rw[hdt j' rfl hip]at this;exact this
    ·rw[aj hip]at this⊢;exact this
  simp only[G5]at h;cases hdi:dd.testBit i with
  |true=>
   rw[hdi]at h;simp only[cond_true]at h;obtain⟨⟨r1,r2,r3,r4⟩,h1,h2⟩:=ak.1 h;simp only[Prod.mk.injEq]at h2;obtain⟨h2a,rfl,rfl,rfl⟩:=h2;refine tail h2a.symm h1 hp rfl rfl (λ_ _ _=>rfl) λhj _=> ?_;subst hj;rw[ey,hdi]at hdd;cases hdd
  |false=>
   rw[hdi]at h;simp only[cond_false]at h;cases hg:gW ops L o with
   |none=>rw[hg]at h;cases h
   |some c=>
    rw[hg]at h;cases c with
    |false=>
     simp only at h;cases hip:Nat.beq i p with
     |true=>rw[hip]at h;cases h
     |false=>
      rw[hip]at h;simp only[cond_false]at h;obtain⟨⟨r1,r2,r3,r4⟩,h1,h2⟩:=ak.1 h;simp only[Prod.mk.injEq]at h2;obtain⟨h2a,rfl,rfl,rfl⟩:=h2;refine tail h2a.symm h1 hp rfl rfl (λ_ _ _=>rfl) λhj hb0=> ?_;subst hb0;rw[aj (λe=>by rw[ey]at e;rw[e,et]at hip;cases hip)];exact hg
    |true=>
     simp only at h;cases hip:Nat.beq i p with
     |true=>
      have hip':=aq hip;rw[hip]at h;simp only[cond_true]at h;cases he:Qn q (Bo L (LL ops o)) H o with
      |none=>rw[he]at h;cases h
      |some x=>
       obtain⟨e,d1,qs⟩:=x;rw[he]at h;simp only at h;obtain⟨⟨r1,r2,r3,r4⟩,h1,h2⟩:=ak.1 h;simp only[Prod.mk.injEq]at h2;obtain⟨h2a,rfl,rfl,rfl⟩:=h2;rw[AllP.append]at hp;refine tail h2a.symm h1 hp.2 rfl rfl (λj' hj hp2=>by omega) λhj hb0=> ?_;subst hb0;rw[ab (by omega)];exact⟨e,rfl,hg,(jA hc he hp.1).2⟩
     |false=>
      rw[hip]at h;simp only[cond_false]at h;cases he:ex i (Bo L (LL ops o)) H nb o with
      |none=>rw[he]at h;cases h
      |some x=>
       obtain⟨e,qs⟩:=x;rw[he]at h;simp only at h;obtain⟨⟨r1,r2,r3,r4⟩,h1,h2⟩:=ak.1 h;simp only[Prod.mk.injEq]at h2;obtain⟨h2a,rfl,rfl,rfl⟩:=h2;rw[AllP.append]at hp;refine tail h2a.symm h1 hp.2 rfl rfl (λ_ _ _=>rfl) λhj hb0=> ?_;subst hb0;rw[aj (λe=>by rw[ey]at e;rw[e,et]at hip;cases hip)];exact⟨hg,hex _ _ _ _ _ _ _ he hp.1⟩
def aM (dr:Bool) (ops:List Oper) (p dd:Nat):Bool:=(List.range ops.length).all λi=> !(dd.testBit i)||(bif dr then((Xu ops []).getD i 0).testBit p else Nat.blt p i)
def plP (n:Nat) (dr:Bool) (ops:List Oper) (ex:Ex) (q:Option CR) (p dd:Nat) (L:DL) (H:Hp) (nb:Nat):Option (List Prop×D):=match G5 ops ex q p dd 0 ops L H nb with
 |some (rows,ps,d,nb')=>bif Q0 n nb nb' ops rows&&aM dr ops p dd&&Nat.blt p ops.length&& !(dd.testBit p)then some (ps,d)else none
 |none=>none
section
variable {P:Program} {n:Nat} {ops:List Oper} {ex:Ex} {L:DL} {H:Hp} {nb:Nat} {S0:Nat->Prop} {g0 g:G} {w0 w:World} {Q:Exit->Act->World->Prop} {a:Act}
theorem Wu {id : Nat} {dr : Bool} (hm : P.follows .mixedOrders = true) (hex : M4 P n ex) {q : Option CR} (hc : ∀ r, q = some r -> En P r.f r.c) (p dd : Nat) {ps : List Prop} {d : D} (h : plP n dr ops ex q p dd L H nb = some (ps, d)) (hp : AllP ps) (V : St n S0 g0 w0 L H nb a g w)
  (hend:∀a g w v,StN n S0 g0 w0 a g w->Sm g w d v->Q (.panic [{v,recovered:=false}]) a w):(Code.region id ops.toArray dr).wp P Q a w:=by
 unfold plP at h;cases hx:G5 ops ex q p dd 0 ops L H nb with
 |none=>rw[hx]at h;cases h
 |some x=>
  obtain⟨rows,qs,d1,nb'⟩:=x;rw[hx]at h;simp only at h;cases hb:Q0 n nb nb' ops rows&&aM dr ops p dd&&Nat.blt p ops.length&& !(dd.testBit p)with
  |false=>rw[hb]at h;cases h
  |true=>
   rw[hb]at h;cases h;simp only[ap,fh,ay]at hb;obtain⟨⟨⟨b1,b2⟩,b3⟩,b4⟩:=hb;have hck:=ChkR.of b1;have rowAt:=λj b (hz:(ops.zip rows)[j]? =some b) (hd:dd.testBit j=false)=>by have :=U2 hex hc hx hp j b hz (by rw[bu];exact hd);rw[bu]at this;exact this
   have ini:∀w,St n S0 g0 w0 L H nb a g w->RI n S0 g0 w0 ops rows L H nb (λ_=>false) a w:=λw hs=>⟨g,hs.weak (λt d ht=>by rw[KY]at ht;exact ht) (λk o hk=>by rw[KY]at hk;exact hk) λk hk=> .inl hk⟩;obtain⟨op,rp,ho,hrp,hzp⟩:=Sn hck b3;obtain⟨e,he1,he2,he3⟩:∃e,rp=some e/\_/\_:=by have :=rowAt p (op,rp) hzp b4;rw[ab rfl]at this;exact this
   subst he1;have dead:∀i,i<ops.length->dd.testBit i=true->(bif dr then((Xu ops []).getD i 0).testBit p else Nat.blt p i)=true:=λi hi hd=>by have :=ax.1 b2 i (el.2 hi);rw[hd]at this;simpa using this
   cases dr with
   |true=>
    refine JB hm hck.back (λd a w=>RI n S0 g0 w0 ops rows L H nb d a w/\d p=false) (λd d' a w hd hI=>⟨NR hck.len hd hI.1,by rw[<-hd p b3];exact hI.2⟩) ⟨ini _ V.drew,rfl⟩ (λd i a w hi hdi hcl hah hI=> ?_) λa w hI=>by have :=hI.2;cases this
    by_cases hip:i=p
    ·subst hip;exact d9 hck hzp hdi hcl hah he2 he3 hend hI.1
    ·have hnd : dd.testBit i = false := by
      cases hd:dd.testBit i with
      |false=>rfl
      |true=>
       have h1:=OY ops ops [] (λj o hj=>by simpa using hj) (by simp) i p (dead i hi hd);have h2:=hah p h1;rw[hI.2]at h2;cases h2
     refine wpOp_mono (λa' w' hri=>⟨hri,?_⟩) (H5 hck (λb hb=>by have :=rowAt i b hb hnd;rwa [aj hip]at this) hi hdi hcl hah hI.1);show(bif Nat.beq p i then true else d p)=false;rw[BL (λe=>hip e.symm)];exact hI.2
   |false=>
    refine IV (λd a w=>RI n S0 g0 w0 ops rows L H nb d a w/\d p=false) ⟨ini _ V,rfl⟩ (λd d' a w hd hI=>⟨NR hck.len hd hI.1,by rw[<-hd p b3];exact hI.2⟩) (λi a w hi hI=> ?_) λa w hI=>by have :=hI.2;cases this
    have ahead_lt:∀i j,C7 ops i j->j<i:=λi j ha=>by
     induction ha with
     |edge h1 h2 h3=>exact hck.back _ _ h1 _ h2 h3
     |trans _ _ ih1 ih2=>omega
    have k1:Nat.blt i i=false:=by
     cases hb:Nat.blt i i with
     |false=>rfl
     |true=>rw[ay]at hb;omega
    have k2:∀i' j,C7 ops i' j->Nat.blt i' i=true->Nat.blt j i=true:=λi' j ha hi'=>by rw[ay]at hi'⊢;have :=ahead_lt _ _ ha;omega
    have k3:∀j,C7 ops i j->Nat.blt j i=true:=λj ha=>by rw[ay];exact ahead_lt _ _ ha
    have hpi:¬p<i:=λhlt=>by
     have :Nat.blt p i=true:=by rw[ay];exact hlt
     have h2:Nat.blt p i=false:=hI.2;rw[this]at h2;cases h2
    by_cases hip:i=p
    ·subst hip;exact d9 (d:=λj=>Nat.blt j i) hck hzp k1 k2 k3 he2 he3 hend hI.1
    ·have hnd : dd.testBit i = false := by
      cases hd:dd.testBit i with
      |false=>rfl
      |true=>
       have h1:=dead i hi hd;simp only[cond_false,ay]at h1;exact absurd h1 hpi
     refine wpOp_mono (λa' w' hri=>⟨hri,?_⟩) (H5 (d:=λj=>Nat.blt j i) hck (λb hb=>by have :=rowAt i b hb hnd;rwa [aj hip]at this) hi k1 k2 k3 hI.1);show(bif Nat.beq p i then true else Nat.blt p i)=false;rw[BL (λe=>hip e.symm)];exact hI.2
theorem oR (hD:Dfr.ds=([]:List Deferred)) {fn:Func} {c:Con} {v:Value} (hH:c.H1=[]) (V:StN n (c.foot g0) g0 w0 a g w) (hv:Sm g w c.res v):bodyPost P fn (λe w'=>∃v,e=pn v/\∃g',D7 c g0 w0 v g' w') (.panic [{v,recovered:=false}]) a w:=
 ⟨V.defers.trans hD,v,rfl,g,V.go,hv,⟨V.hs.wf,λk o h=>by rw[hH]at h;simp [Ev]at h,λk o h=>by rw[hH]at h;simp [Ev]at h,λk o k' o' h=>by rw[hH]at h;simp [Ev]at h⟩,λk o h=>by rw[hH]at h;simp [Ev]at h⟩
end
end Go.Sx
namespace Go.Sx
open Go.Mi Go.RowKit
variable [Dfr]
theorem AA {next:Act->World->Prop} {Q:Exit->Act->World->Prop} {c:List PanicEntry} {a:Act} {w:World} (h:Q (.panic c) a w):Exit.then next Q (.panic c) a w:=h
theorem BQ {id:Nat} {Q:Exit->Act->World->Prop} {c:List PanicEntry} {a:Act} {w:World} (h:Q (.panic c) a w):Exit.inBlock id Q (.panic c) a w:=h
theorem A7 {n : Nat} {L : DL} {H : Hp} {S0 : Nat -> Prop} {g0 g : G} {w0 w : World} {nb : Nat} {a : Act} {Q : Exit -> Act -> World -> Prop} {E : bU} (hm : E.P.follows .mixedOrders = true) (hZ : XA E.P E.Z) (C : List (Nat × Rx)) (hC : CsOk E.P C) (q : Option CR) (hq : ∀ r, q = some r -> En E.P r.f r.c) (p dd : Nat) (ps : List (Nat × Rx) -> List Prop) (d : D) {id : Nat} {dr : Bool} {ops : List Oper}
  (h:plP n dr ops (WY E C) q p dd L H nb=some (ps C,d)) (hp:AllP (ps C)) (V:St n S0 g0 w0 L H nb a g w) (hend:∀a g w v,StN n S0 g0 w0 a g w->Sm g w d v->Q (.panic [{v,recovered:=false}]) a w):(Code.region id ops.toArray dr).wp E.P Q a w:=
 Wu hm (HP hZ hC) hq p dd h hp V hend
theorem CC {P:Program} {n:Nat} {g0 g:G} {w0 w:World} {a:Act} (hD:Dfr.ds=([]:List Deferred)) {fn:Func} {c:Con} {v:Value} (V:StN n (c.foot g0) g0 w0 a g w) {d:D} (hv:Sm g w d v) (hd:d=c.res) (hH:c.H1=[]):bodyPost P fn (λe w'=>∃v,e=pn v/\∃g',D7 c g0 w0 v g' w') (.panic [{v,recovered:=false}]) a w:=
 oR hD hH V (hd▸hv)
theorem BH {b:Bool} (h:¬b=true):b=false:=by cases b<;>simp_all
theorem St.nilor {n : Nat} {L : DL} {H : Hp} {S0 : Nat -> Prop} {g0 g : G} {w0 w : World} {nb : Nat} {a : Act} (V : St n S0 g0 w0 L H nb a g w) (t : Nat) {e : List Fk} {xs : List (RT e)} (ht : D4 L t = some (.ls false e xs)) {L1 L2 : DL} (h1 : L1 = mX t (.v (.slice none 0 0)) L) (h2 : L2 = mX t (.ls true e xs) L) :
  (xs=[]/\St n S0 g0 w0 L1 H nb a g w)\/St n S0 g0 w0 L2 H nb a g w:=by
 subst h1;subst h2;obtain⟨v,ls,k1,k2,k3⟩:=V.fr t _ ht;rcases k2.at' with⟨h4,⟨_,h5⟩|h5⟩|h4
 ·refine .inl ⟨bm h4,V.size,V.defers,λu q hu=> ?_,V.hs,V.go,V.wf0,V.fp,V.nm⟩;rcases Ky hu with⟨rfl,rfl⟩|h
  ·show[a.tmps.getD u undef]=[Value.slice none 0 0];rw[k1,h5]
  ·exact V.fr u q h
 ·refine .inr ⟨V.size,V.defers,λu q hu=> ?_,V.hs,V.go,V.wf0,V.fp,V.nm⟩;rcases Ky hu with⟨rfl,rfl⟩|h
  ·exact⟨v,ls,k1,⟨k2.le,k2.len,.inl ⟨h4,.inr h5⟩⟩,k3⟩
  ·exact V.fr u q h
 ·refine .inr ⟨V.size,V.defers,λu q hu=> ?_,V.hs,V.go,V.wf0,V.fp,V.nm⟩;rcases Ky hu with⟨rfl,rfl⟩|h
  ·exact⟨v,ls,k1,⟨k2.le,k2.len,.inr h4⟩,k3⟩
  ·exact V.fr u q h
end Go.Sx
namespace Go.Sx
open Go.Mi Go.RowKit
variable [Dfr]
def v8 (nb:Nat):Nat->D->Option D
 |0,.cons (.v (.slice none 0 0)) ds=>some (.cons (.sk nb) ds)
 |i+1,.cons d ds=>(v8 nb i ds).map (.cons d ·)
 |_,_=>none
theorem v7 {X:Nat->Prop} {N N':Nat->Option Value} {w:World} {nb:Nat} (hn:∀k v,N k=some v->N' k=some v) (hb:N' nb=some (.slice none 0 0)):∀{i:Nat} {d d':D} {l:List Value},v8 nb i d=some d'->CS X N w d false l->CS X N' w d' false l:=by
 have mv:=λ(d:D) (m:Bool) (l:List Value) (h:CS X N w d m l)=>GY (X':=X) (S:=λ_=>False) ⟨Chp.refl _ _,λ_ h=>h.elim,λ_ h=> .inl h,hn⟩ d m l h;intro i
 induction i with
 |zero=>
  intro d d' l h hs;unfold v8 at h;split at h
  ·cases h;obtain⟨l1,l2,rfl,h1,h2⟩:=hs;exact⟨l1,l2,rfl,⟨_,hb,h1,rfl⟩,mv _ _ _ h2⟩
  ·rename_i e;cases e
  ·cases h
 |succ i ih=>
  intro d d' l h hs;unfold v8 at h;split at h
  ·rename_i e;cases e
  ·rename_i j d0 ds e;cases e;obtain⟨q,h1,rfl⟩:=ak.1 h;obtain⟨l1,l2,rfl,h2,h3⟩:=hs;exact⟨l1,l2,rfl,mv _ _ _ h2,ih h1 h3⟩
  ·cases h
section
variable {P:Program} {n:Nat} {L:DL} {H:Hp} {S0:Nat->Prop} {g0 g:G} {w0 w:World} {nb:Nat} {a:Act}
theorem St.nilob (V:St n S0 g0 w0 L H nb a g w) (k i:Nat) (te:TypeId) (e:List Fk) {ty:TypeId} {d d':D} (hk:A4 H k=some (.ob ty d)) (hd:v8 nb i d=some d') {H':Hp} (hH:H'=(nb,some (.sl te e []))::(k,some (.ob ty d'))::H):∃g',St n S0 g0 w0 L H' (nb+1) a g' w:=by
 subst hH
 let g':G:=⟨λk=>if k=nb then some (.slice none 0 0)else g.N k,λk=>if k=nb then[]else g.F k,g.X⟩
 have hne:∀k v,g.N k=some v->k≠nb:=λk v h e=>by have :k<nb:=V.nm k v h;omega
 have gn:∀k,k≠nb->g'.N k=g.N k:=λk h=>aj h;have gf:∀k,k≠nb->g'.F k=g.F k:=λk h=>aj h;have gF:g'.F nb=[]:=ab rfl;have gN:g'.N nb=some (.slice none 0 0):=ab rfl;have gm:∀k v,g.N k=some v->g'.N k=some v:=λk v h=>(gn k (hne k v h)).trans h;have hgo:Go (λ_=>False) g w g' w:=⟨Chp.refl _ _,λ_ h=>h.elim,λ_ h=> .inl h,λ_ h _=>h,gm,λk v h=>gf k (hne k v h)⟩;have knb:k≠nb:=by obtain⟨b,c,h1,_⟩:=V.hs.os k _ hk;exact hne k _ h1
 have hl:∀j o,A4 ((nb,some (O.sl te e []))::(k,some (O.ob ty d'))::H) j=some o->(j=nb/\o= .sl te e [])\/(j≠nb/\((j=k/\o= .ob ty d')\/(j≠k/\A4 H j=some o))):=λj o h=>by
  have h:=BS.1 h;simp only[Fe]at h;by_cases e1:nb=j
  ·subst e1;simp at h;exact .inl ⟨rfl,h.symm⟩
  ·rw[BL e1]at h;refine .inr ⟨λx=>e1 x.symm,?_⟩;by_cases e2:k=j
   ·subst e2;simp at h;exact .inl ⟨rfl,h.symm⟩
   ·rw[BL e2]at h;exact .inr ⟨λx=>e2 x.symm,BS.2 h⟩
 have old:∀j o,A4 ((nb,some (O.sl te e []))::(k,some (O.ob ty d'))::H) j=some o->j=nb\/(j≠nb/\∃u,A4 H j=some u):=λj o h=>by
  rcases hl j o h with⟨rfl,_⟩|⟨h1,⟨rfl,_⟩|⟨_,h2⟩⟩
  ·exact .inl rfl
  ·exact .inr ⟨h1,_,hk⟩
  ·exact .inr ⟨h1,_,h2⟩
 refine⟨g',V.size,V.defers,λu d hu=>(V.fr u d hu).mv hgo,⟨V.hs.wf,λj o h=> ?_,λj o h b hb=> ?_,λj o j' o' h h' hj b hb hb'=> ?_⟩,⟨V.go.ch,V.go.s,V.go.x,V.go.k,λj v hj=>gm j v (V.go.n j v hj),λj v hj=> ?_⟩,V.wf0,λj o h b hb=> ?_,λj v h=> ?_⟩
 ·rcases hl j o h with⟨rfl,rfl⟩|⟨h1,⟨rfl,rfl⟩|⟨_,h2⟩⟩
  ·exact⟨_,[],gN,gF,⟨by simp,.inl ⟨rfl,rfl⟩⟩,by simp [maxLen],aa,by simp⟩
  ·obtain⟨b,c,k1,k2,k3,k4,k5⟩:=V.hs.os j _ hk;exact⟨b,c,gm _ _ k1,(gf j h1).trans k2,k3,v7 gm gN hd k4,k5⟩
  ·exact(V.hs.os j o h2).mv hgo λ_ _ h=>h
 ·rcases old j o h with rfl|⟨h1,u,h2⟩
  ·rw[gF]at hb;cases hb
  ·rw[gf j h1]at hb;exact V.hs.own j u h2 b hb
 ·rcases old j o h with rfl|⟨h1,u,h2⟩
  ·rw[gF]at hb;cases hb
  ·rcases old j' o' h' with rfl|⟨h3,u',h4⟩
   ·rw[gF]at hb';cases hb'
   ·rw[gf j h1]at hb;rw[gf j' h3]at hb';exact V.hs.dis j u j' u' h2 h4 hj b hb hb'
 ·exact(gf j (hne j v (V.go.n j v hj))).trans (V.go.f j v hj)
 ·rcases old j o h with rfl|⟨h1,u,h2⟩
  ·rw[gF]at hb;cases hb
  ·rw[gf j h1]at hb;exact V.fp j u h2 b hb
 ·by_cases e:j=nb
  ·subst e;exact dp _
  ·rw[gn j e]at h;exact Nat.lt_succ_of_lt (V.nm j v h)
theorem St.alias (V:St n S0 g0 w0 L H nb a g w) (k:Nat) {o:O} (hk:A4 H k=some o) {L':DL} {H':Hp} (hL:L'=L.map λp=>(p.1,p.2.sb k (λo=> .cp nb o) (.sk nb))) (hH:H'=(k,none)::(nb,some (o.sb k (λo=> .cp nb o) (.sk nb)))::H.map λp=>(p.1,p.2.map (O.sb · k (λo=> .cp nb o) (.sk nb)))):∃g',St n S0 g0 w0 L' H' (nb+1) a g' w:=by
 subst hL;subst hH
 let g':G:=⟨λj=>if j=nb then g.N k else g.N j,λj=>if j=nb then g.F k else g.F j,g.X⟩
 have hne:∀j v,g.N j=some v->j≠nb:=λj v h e=>by have :j<nb:=V.nm j v h;omega
 have gn:∀j,j≠nb->g'.N j=g.N j:=λj h=>aj h;have gf:∀j,j≠nb->g'.F j=g.F j:=λj h=>aj h;have gF:g'.F nb=g.F k:=ab rfl;have gN:g'.N nb=g.N k:=ab rfl;have gm:∀j v,g.N j=some v->g'.N j=some v:=λj v h=>(gn j (hne j v h)).trans h;have hgo:Go (λ_=>False) g w g' w:=⟨Chp.refl _ _,λ_ h=>h.elim,λ_ h=> .inl h,λ_ h _=>h,gm,λj v h=>gf j (hne j v h)⟩;have ssb:∀{d:D} {m:Bool} {l:List Value},CS g.X g.N w d m l->CS g.X g'.N w (d.sb k (λo=> .cp nb o) (.sk nb)) m l:=λ{d m l} h=>by
  have h1:=GY hgo.goes d m l h;have hkk:∀v,g'.N k=some v->g'.N nb=some v:=λv hv=>by
   by_cases e:k=nb
   ·rw[<-e];exact hv
   ·rw[gN,<-gn k e];exact hv
  exact dQ (X':=g.X) (q:=λo=> .cp nb o) (s:= .sk nb) (λ_ h=>h) (λb o m h=>⟨b,hkk _ h,rfl⟩) (λv m h ho=>⟨v,hkk _ h,rfl,ho⟩) h1
 have osb:∀j u j',OS g w j u->g'.N j'=g.N j->g'.F j'=g.F j->OS g' w j' (u.sb k (λo=> .cp nb o) (.sk nb)):=λj u j' h e1 e2=>by
  cases u with
  |ob ty ds=>obtain⟨b,c,k1,k2,k3,k4,k5⟩:=h;exact⟨b,c,e1.trans k1,e2.trans k2,k3,ssb k4,k5⟩
  |sl ty e xs=>obtain⟨v,ls,k1,k2,k3,k4,k5,k6⟩:=h;exact⟨v,ls,e1.trans k1,e2.trans k2,k3,k4,k5.mono (FY hgo.goes e),k6⟩
 have hob:∀j u,A4 ((k,none)::(nb,some (o.sb k (λo=> .cp nb o) (.sk nb)))::H.map λp=>(p.1,p.2.map (O.sb · k (λo=> .cp nb o) (.sk nb)))) j=some u->j≠k/\((j=nb/\u=o.sb k (λo=> .cp nb o) (.sk nb))\/(j≠nb/\∃u',A4 H j=some u'/\u=u'.sb k (λo=> .cp nb o) (.sk nb))):=by
  intro j u h;have h:=BS.1 h;simp only[Fe]at h;by_cases e:k=j
  ·subst e;simp at h
  ·rw[BL e]at h;refine⟨λh=>e h.symm,?_⟩;simp only[cond_false]at h;by_cases e2:nb=j
   ·subst e2;simp at h;exact .inl ⟨rfl,h.symm⟩
   ·rw[BL e2]at h;refine .inr ⟨λh=>e2 h.symm,?_⟩;simp only[cond_false]at h;have :∀(H:Hp),Fe (H.map λp=>(p.1,p.2.map (O.sb · k (λo=> .cp nb o) (.sk nb)))) j=some (some u)->∃u',Fe H j=some (some u')/\u=u'.sb k (λo=> .cp nb o) (.sk nb):=by
     intro H
     induction H with
     |nil=>intro h;cases h
     |cons p H ih=>
      obtain⟨s',p2⟩:=p;intro h;simp only[bg,Fe]at h⊢;by_cases e:s'=j
      ·subst e;simp only[et,cond_true,Option.some.injEq]at h⊢;obtain⟨u',h1,h2⟩:=ak.1 h;exact⟨u',h1,h2.symm⟩
      ·rw[BL e]at h⊢;exact ih h
    obtain⟨u',h1,h2⟩:=this H h;exact⟨u',BS.2 h1,h2⟩
 -- whose name, whose thing
 have src:∀j u,A4 ((k,none)::(nb,some (o.sb k (λo=> .cp nb o) (.sk nb)))::H.map λp=>(p.1,p.2.map (O.sb · k (λo=> .cp nb o) (.sk nb)))) j=some u->∃i u',A4 H i=some u'/\u=u'.sb k (λo=> .cp nb o) (.sk nb)/\g'.N j=g.N i/\g'.F j=g.F i/\((j=nb/\i=k)\/(j≠nb/\i=j/\j≠k)):=λj u h=>by
  obtain⟨h1,⟨rfl,rfl⟩|⟨h2,u',h3,rfl⟩⟩:=hob j u h
  ·exact⟨k,o,hk,rfl,gN,gF,.inl ⟨rfl,rfl⟩⟩
  ·exact⟨j,u',h3,rfl,gn j h2,gf j h2,.inr ⟨h2,rfl,h1⟩⟩
 refine⟨g',V.size,V.defers,λt d ht=> ?_,⟨V.hs.wf,λj u h=> ?_,λj u h b hb=> ?_,λj u j' u' h h' hj b hb hb'=> ?_⟩,⟨V.go.ch,V.go.s,V.go.x,V.go.k,λj v hj=>gm j v (V.go.n j v hj),λj v hj=> ?_⟩,V.wf0,λj u h b hb=> ?_,λj v h=> ?_⟩
 ·rw[OE (r:=λd=>d.sb k (λo=> .cp nb o) (.sk nb))]at ht;obtain⟨d',h1,rfl⟩:=ak.1 ht;exact ssb (V.fr t d' h1)
 ·obtain⟨i,u',h1,rfl,e1,e2,_⟩:=src j u h;exact osb i u' j (V.hs.os i u' h1) e1 e2
 ·obtain⟨i,u',h1,_,_,e2,_⟩:=src j u h;rw[e2]at hb;exact V.hs.own i u' h1 b hb
 ·obtain⟨i,v,h1,_,_,e2,c1⟩:=src j u h;obtain⟨i',v',h1',_,_,e2',c1'⟩:=src j' u' h';rw[e2]at hb;rw[e2']at hb';refine V.hs.dis i v i' v' h1 h1' (λe=>hj ?_) b hb hb';rcases c1 with⟨a1,a2⟩|⟨a1,a2,a3⟩<;>rcases c1' with⟨b1,b2⟩|⟨b1,b2,b3⟩
  ·rw[a1,b1]
  ·exact absurd (by rw[<-b2,<-e,a2]) b3
  ·exact absurd (by rw[<-a2,e,b2]) a3
  ·rw[<-a2,e,b2]
 ·exact(gf j (hne j v (V.go.n j v hj))).trans (V.go.f j v hj)
 ·obtain⟨i,u',h1,_,_,e2,_⟩:=src j u h;rw[e2]at hb;exact V.fp i u' h1 b hb
 ·by_cases e:j=nb
  ·subst e;exact dp _
  ·rw[gn j e]at h;exact Nat.lt_succ_of_lt (V.nm j v h)
end
end Go.Sx
namespace Go.Sx
open Go.Mi Go.RowKit
variable [Dfr]
inductive R2 where
 |frz
 |at(p v:Nat)
 |ta
 |nn
 |mf
def AaM:List (Nat×R2)->Nat->Option R2
 |[],_=>none
 |(s,v)::r,t=>bif Nat.beq s t then some v else AaM r t
def xF (P:Program) (L:DL) (H:Hp) (t:TypeId) (x:Operand):Option (Eff×List Prop):=match Fc L x,bM P t with
 |some (.cp k o),some (len,m)=>(match A4 H k with
  |some (.ob _ d)=>(match Ig d with
   |[.ar kk n f]=>bif Nat.beq m 1&&Nat.beq o 0&&Nat.beq n len&&Nat.blt 0 len&&Nat.ble len 140737488355328 then some (⟨[],[(k,none)],[],.ls true [.int kk] ((List.range n).map f:List Int)⟩,[])else none
   |_=>none)
  |_=>none)
 |_,_=>none
def i9 (P:Program) (L:DL) (H:Hp) (t:TypeId) (x:Operand):Option (Eff×List Prop):=match Fc L x,bM P t with
 |some (.sk k),some (len,_)=>(match A4 H k with
  |some (.sl _ e xs)=>bif Nat.beq e.length 1 then some (⟨[k],[],[],.xp k 1 xs.length 0 0⟩,[len<=xs.length,0<xs.length])else none
  |_=>none)
 |some (.sv k o n),some (len,_)=>some (⟨[],[],[],.cp k o⟩,[len<=n])
 |_,_=>none
def jC (P:Program) (L:DL) (H:Hp) (t:TypeId) (x:Operand) (p v:Nat):Option (Eff×List Prop):=match Fc L x,N9 P t with
 |some (.cp k o),some (false,m)=>(match A4 H k with
  |some (.ob _ d)=>(match(Ig d)[p]? with
   |some (.ar kk q f)=>some (⟨[k],[],[],.ar kk m λj=>f (v+j)⟩,[o=T7 ((Ig d).take p)+v,v+m<=q])
   |_=>none)
  |_=>none)
 |some (.xp k mm _ i o),some (false,m)=>(match A4 H k with
  |some (.sl _ [.int kk] xs)=>bif Nat.beq mm 1&&Nat.beq o 0 then some (⟨[k],[],[],.ar kk m λj=>List.getD (α:=Int) xs (i+j) 0⟩,[i+m<=xs.length])else none
  |_=>none)
 |_,_=>none
def w8 (P:Program) (L:DL) (x:Operand) (T:TypeId) (ok:Bool):Option (Eff×List Prop):=match Fc L x,P.underlying T with
 |some (.v (.iface t v)),some (.int _)=>bif Nat.beq t T&&v.oneCell'&&ok then some (⟨[],[],[],.tu (Ag [.v v,.v (.bool true)])⟩,[])else none
 |_,_=>none
def xC (P:Program) (L:DL) (t:TypeId) (x:Operand):Option (Eff×List Prop):=match Fc L x,P.underlying t with
 |some (.v .nilIface),some (.interface _)=>some (⟨[],[],[],.v (.bool false)⟩,[])
 |_,_=>none
def xD (P:Program) (K:Kt) (t:TypeId) (x y:Operand):Option (Eff×List Prop):=match TC P K [] t x y 0 with
 |some (⟨[],[],[(_,.sl _ [.int k] xs)],_⟩,ps)=>some (⟨[],[],[],.ls false [.int k] xs⟩,ps)
 |_=>none
def xI (E:bU) (C:List (Nat×Rx)) (C2:List (Nat×R2)):Ex:=λi L H nb o=>match AaM C2 i with
 |none=>WY E C i L H nb o
 |some .frz=>(match o.op with
  | .slice t x none none none=>xF E.P L H t x
  | .sliceToArrayPointer t x=>i9 E.P L H t x
  |_=>none)
 |some (.at p v)=>(match o.op with
  | .load t x=>jC E.P L H t x p v
  |_=>none)
 |some .ta=>(match o.op with
  | .typeAssert x _ T ok=>w8 E.P L x T ok
  |_=>none)
 |some .nn=>(match o.op with
  | .binOp .neq t x (.const .nilIface) _=>xC E.P L t x
  |_=>none)
 |some .mf=>(match o.op with
  | .makeSlice t x y=>xD E.P E.K t x y
  |_=>none)
section
variable {P:Program} {n:Nat} {L:DL} {H:Hp} {ds:Option Nat} {ty:TypeId} {pos:String} {af:Array Edge} {gu:Option (Nat×Bool)} {X:Nat->Prop} {N:Nat->Option Value} {w:World}
theorem dA (d:D) (r:List D):T7 (d::r)=HT d+T7 r:=rfl
theorem XX:∀{ss:List D} {l:List Value} {p:Nat} {d:D},DD X N w ss l->ss[p]? =some d->CS X N w d false ((l.drop (T7 (ss.take p))).take (HT d))
 |[],_,_,_,_,h=>by simp at h
 |e::ss,l,0,d,⟨l1,l2,he,h1,h2⟩,h=>by
  simp at h;subst h;subst he;have hl:=GE h1;rw[gl,show T7 []=0 from rfl,ig,ck (by omega),bp (by omega)];exact h1
 |e::ss,l,p+1,d,⟨l1,l2,he,h1,h2⟩,h=>by subst he;have hl:=GE h1;rw[gd,dA,<-hl,<-List.drop_drop,List.drop_left];exact XX h2 (by simpa using h)
theorem Sd (k:IntKind) (n:Nat) (f:Nat->Int):((((List.range n).map f).map λz=>[Value.int k z])).flatten=cells k n f:=by
 have :∀l:List Nat,(((l.map f).map λz=>[Value.int k z])).flatten=l.map λi=>Value.int k (f i):=by
  intro l
  induction l with
  |nil=>rfl
  |cons a l ih=>rw[bg,bg,bc,ih];rfl
 exact this _
theorem dY {k:IntKind}:∀l:List Int,Fa2 (rS X N w [.int k]) (l:List (RT [.int k])) (l.map λz=>[Value.int k z])
 |[]=>trivial
 |a::l=>⟨⟨_,rfl,rfl⟩,dY l⟩
theorem qQ {t:TypeId} {x:Operand} {e:Eff} {ps:List Prop} (h:xF P L H t x=some (e,ps)):EOk P n ⟨ds,.slice t x none none none,ty,pos,af,gu⟩ L (A4 H) e:=by
 intro ξ g w V hH hn;unfold xF at h;split at h
 ·rename_i k o len m hx ha;split at h
  ·rename_i ty' d hk;split at h
   ·rename_i kk q f hd;cases hb:Nat.beq m 1&&Nat.beq o 0&&Nat.beq q len&&Nat.blt 0 len&&Nat.ble len 140737488355328 with
    |false=>rw[hb]at h;cases h
    |true=>
     rw[hb]at h;simp only[ap]at hb;obtain⟨⟨⟨⟨b1,b2⟩,b3⟩,b4⟩,b5⟩:=hb;obtain rfl:=aq b1;obtain rfl:=aq b2;obtain rfl:=aq b3;have b5:=bq b5;rw[ay]at b4;cases h;obtain⟨te,u1,u2⟩:=MZ ha;obtain⟨v,hv,b',k1,k2⟩:=Bh hH hx;cases(List.cons.inj k2).1;have hkk:Cj ([]++Ax [(k,(none:Option O))]) (A4 H) k=some (.ob ty' d):=by simp [Cj,Ax,CN,hk]
     obtain⟨b,c,e1,e2,e3,e4,e5⟩:=V.os k _ hkk;rw[k1]at e1;cases e1;have hbF:b'∈g.F k:=by rw[e2];simp
     have hcc:=Eu e4;rw[hd]at hcc;have hce:c.toList=cells kk q f:=DR.1 hcc;have hd2:=kF (P:=P) (n:=n) (w:=w) (ds:=ds) (ty:=ty) (pos:=pos) (af:=af) (gu:=gu) (lo:=none) (hi:=none) (mx:=none) u1 u2 hv (λa hF=>⟨E9 (x:=none) (i:=none) hH rfl a n hF,E9 (x:=none) (i:=none) hH rfl a n hF,E9 (x:=none) (i:=none) hH rfl a n hF⟩) ⟨aa,aa,aa,by simp,by simp [bl],by simp [bl],by simp [bl]⟩;rw[aj (show¬bl (none:Option Int) q=bl none 0 from by show¬q=0;omega)]at hd2;have hd2:Det P ⟨ds,.slice t x none none none,ty,pos,af,gu⟩ n (LN L ξ) w (vS b' 0 q q) w:=by simpa[bl]using hd2
     refine hd2.mono λv' w' ⟨f1,f2⟩=> ?_;subst f1;subst f2;have hfx:∀x,Eff.foot ⟨[],[(k,none)],[],.ls true [.int kk] ((List.range q).map f:List Int)⟩ (A4 H) g x↔x∈g.F k:=λx=>⟨λ⟨j,h1,q,h2,h3⟩=>by
      simp only[Ax,bg,fg,bo]at h1;subst h1;exact h3,λhx=>⟨k,by simp [Ax],_,hk,hx⟩⟩
     let g':G:=⟨g.N,g.F,λx=>g.X x/\x∉g.F k⟩
     have hgo:Go (Eff.foot ⟨[],[(k,none)],[],.ls true [.int kk] ((List.range q).map f:List Int)⟩ (A4 H) g) g w' g' w':=⟨Chp.refl _ _,λx hx=>V.own k _ hkk x ((hfx x).1 hx),λx hx=> .inl hx.1,λx h1 h2=>⟨h1,λh3=>h2 ((hfx x).2 h3)⟩,λ_ _ h=>h,λ_ _ _=>rfl⟩;have hno:∀j u,A4 (Eff.outs ⟨[],[(k,(none:Option O))],[],.ls true [.int kk] ((List.range q).map f:List Int)⟩) j≠some u:=λj u h=>by
      have h:=BS.1 h;simp only[Eff.outs,fg,fm,Fe]at h;by_cases e:k=j
      ·subst e;simp at h
      ·rw[BL e]at h;cases h
     have hlt:b'<w'.heap.size:=OS.lt (V.os k _ hkk) b' hbF;have hll:((List.range q).map f:List Int).length=q:=by simp
     refine⟨g',hgo,⟨_,((List.range q).map f).map λz=>[Value.int kk z],rfl,⟨?_,?_,.inr ⟨b',0,q,?_,?_,?_,λhx=>hx.2 hbF,hlt,?_⟩⟩,dY _⟩,⟨λx hx=>V.wf x hx.1,λj u h=>(hno j u h).elim,λj u h=>(hno j u h).elim,λj u _ _ h=>(hno j u h).elim⟩,λj u h=>(hno j u h).elim,λj u h=> .inl h⟩
     ·show((List.range q).map f:List Int).length<=maxLen;rw[hll];simp only[maxLen];omega
     ·rw[Sd,Bq];show q=((List.range q).map f:List Int).length*1;rw[hll];omega
     ·show _=vS b' 0 ((List.range q).map f:List Int).length q;rw[hll]
     ·show((List.range q).map f:List Int).length<=q;rw[hll];exact an _
     ·simp only[maxLen];omega
     ·rw[Sd,<-hce];exact At.of_blk e3
   ·cases h
  ·cases h
 ·cases h
theorem Mb (arr e:TypeId) (n:Nat) (a:Option Addr) (len cap:Nat) (h:P.underlying arr=some (.array n e)) (hn:n<=len):(Instr.arrayAt arr (.slice a len cap)).run P w= .ok (.pointer a) w:=by simp [Instr.arrayAt,Aq h,Nat.not_lt.2 hn]
theorem i8 {t:TypeId} {x:Operand} {e:Eff} {ps:List Prop} (h:i9 P L H t x=some (e,ps)) (hp:AllP ps):EOk P n ⟨ds,.sliceToArrayPointer t x,ty,pos,af,gu⟩ L (A4 H) e:=by
 unfold i9 at h;split at h
 ·rename_i k len m hx ha;split at h
  ·rename_i te' e' xs hk;cases hb:Nat.beq e'.length 1 with
   |false=>rw[hb]at h;cases h
   |true=>
    rw[hb]at h;cases h;obtain⟨te,u1,u2⟩:=MZ ha;refine EOk.rd λξ g w V hH=> ?_;obtain⟨v,hv,v',h1,h2,_⟩:=Bh hH hx;cases(List.cons.inj h2).1;obtain⟨v2,ls,k1,k2,k3,_⟩:=V.os k _ (by simp only[Cj,A1.2 (bo.2 rfl)];exact hk);rw[h1]at k1;cases k1;have p1:=hp.1;have p2:=hp.2.1;rcases k3.at with⟨rfl,h4,_⟩|⟨b,cap,rfl,_,_⟩
    ·omega
    ·exact⟨_,⟨p2,b,cap,h1,rfl⟩,Det.of_run λa hF=>by simp [execOp,hF.eval hv,Mb _ _ _ _ _ _ u1 p1]⟩
  ·cases h
 ·rename_i k o q len m hx ha;cases h;obtain⟨te,u1,u2⟩:=MZ ha;refine EOk.rd λξ g w V hH=> ?_;obtain⟨v,hv,b,c,h1,h2,h3,h4⟩:=Bh hH hx;cases(List.cons.inj h2).1;exact⟨_,⟨b,h1,rfl⟩,Det.of_run λa hF=>by simp [execOp,hF.eval hv,Mb _ _ _ _ _ _ u1 hp.1]⟩
 ·cases h
theorem jB {t:TypeId} {x:Operand} {p v0:Nat} {e:Eff} {ps:List Prop} (h:jC P L H t x p v0=some (e,ps)) (hp:AllP ps):EOk P n ⟨ds,.load t x,ty,pos,af,gu⟩ L (A4 H) e:=by
 unfold jC at h;split at h
 ·rename_i k o m hx ht;split at h
  ·rename_i ty' d hk;split at h
   ·rename_i kk q f hg;cases h;obtain⟨td,t1,t2,t3⟩:=FT ht;refine EOk.rd λξ g w V hH=> ?_;obtain⟨v,hv,b',e1,e2⟩:=Bh hH hx;cases(List.cons.inj e2).1;obtain⟨b,c,k1,k2,k3,k4,k5⟩:=V.os k _ (by simp only[Cj,A1.2 (bo.2 rfl)];exact hk);rw[k1]at e1;cases e1;have k6:(c.toList.drop (T7 ((Ig d).take p))).take q=cells kk q f:=XX (Eu k4) hg;have p1:=hp.1;have p2:=hp.2.1;refine⟨_,rfl,ON t1 t2 t3 hv (vs:=cells kk m λj=>f (v0+j)) (λj u hu=> ?_) Bq⟩;have hj:j<m:=by
     rcases ci j m with h'|h'
     ·exact h'
     ·rw[bf (by rw[Bq];exact h')]at hu;cases hu
    rw[Cc hj]at hu;cases hu;have h7:(cells kk q f)[v0+j]? =some (.int kk (f (v0+j))):=Cc (by omega);rw[<-k6,dc,ab (by omega),dh]at h7;rw[MM k3,<-gh,p1,gx];exact h7
   ·cases h
  ·cases h
 ·rename_i k mm nn i o m hx ht;split at h
  ·rename_i ty' kk xs hk;cases hb:Nat.beq mm 1&&Nat.beq o 0 with
   |false=>rw[hb]at h;cases h
   |true=>
    rw[hb,]at h;rw[ap]at hb;obtain rfl:=aq hb.1;obtain rfl:=aq hb.2;cases h;obtain⟨td,t1,t2,t3⟩:=FT ht;refine EOk.rd λξ g w V hH=> ?_;obtain⟨v,hv,hi,b,c,h1,h2⟩:=Bh hH hx;cases(List.cons.inj h2).1;obtain⟨v2,ls,k1,k2,k3,k4,k5,k6⟩:=V.os k _ (by simp only[Cj,A1.2 (bo.2 rfl)];exact hk);rw[h1]at k1;cases k1;obtain⟨vs,rfl,h4⟩:=Lg k5;have hvs:vs=List.map (Value.int kk) (xs:List Int):=OF h4;have p1:=hp.1;rcases k3.at with⟨hc,_⟩|⟨b',cap,hc,_,hat⟩
    ·cases hc
    ·cases hc;refine⟨_,rfl,ON t1 t2 t3 hv (vs:=cells kk m λj=>List.getD (α:=Int) xs (i+j) 0) (λj u hu=> ?_) Bq⟩;have hj:j<m:=by
      rcases ci j m with h'|h'
      ·exact h'
      ·rw[bf (by rw[Bq];exact h')]at hu;cases hu
     rw[Cc hj]at hu;cases hu;have hlt:i+j<List.length (α:=Int) xs:=ca (by omega) p1;have key:∀(l:List Int) (q:Nat),q<l.length->((l.map (Value.int kk)).map λv=>[v]).flatten[q]? =some (.int kk (l.getD q 0)):=by
      intro l q hq;have e:∀l:List Int,((l.map (Value.int kk)).map λv=>[v]).flatten=l.map (Value.int kk):=by
       intro l
       induction l with
       |nil=>rfl
       |cons a l ih=>rw[bg,bg,bc,ih];rfl
      rw[e,eo,am hq];simp [al,am hq]
     have :=hat (i+j) (.int kk (List.getD (α:=Int) xs (i+j) 0)) (by rw[hvs];exact key xs (i+j) hlt);rw[bu]at this;rw[ga,ey];exact this
  ·cases h
 ·cases h
theorem qG {x:Operand} {xT T:TypeId} {ok:Bool} {e:Eff} {ps:List Prop} {F:Nat->Option O} (h:w8 P L x T ok=some (e,ps)):EOk P n ⟨ds,.typeAssert x xT T ok,ty,pos,af,gu⟩ L F e:=by
 unfold w8 at h;split at h
 ·rename_i t v k hx hu;cases hb:Nat.beq t T&&v.oneCell'&&ok with
  |false=>rw[hb]at h;cases h
  |true=>
   rw[hb]at h;simp only[ap]at hb;obtain⟨⟨b1,b2⟩,rfl⟩:=hb;obtain rfl:=aq b1;cases h;refine EOk.rd λξ g w V hH=>⟨.tuple #[v,.bool true],⟨[v,.bool true],⟨[v],[.bool true],rfl,rfl,⟨[.bool true],[],rfl,rfl,rfl⟩⟩,rfl⟩,?_⟩;have hv:=B2 hH hx;exact Det.of_run λa hF=>by simp [execOp,hF.eval hv,Instr.typeAssert,Aq hu]
 ·cases h
theorem qK {t t':TypeId} {x:Operand} {e:Eff} {ps:List Prop} {F:Nat->Option O} (h:xC P L t x=some (e,ps)):EOk P n ⟨ds,.binOp .neq t x (.const .nilIface) t',ty,pos,af,gu⟩ L F e:=by
 unfold xC at h;split at h
 ·rename_i k hx hu;cases h;refine EOk.rd λξ g w V hH=>⟨_,rfl,?_⟩;have hvx:=B2 hH hx;have key:∀m,(Op.equalIn (m+1) t Value.nilIface Value.nilIface).run P w= .ok true w:=λm=>by simp [Op.equalIn,Aq hu]
  have he:(Op.equalIn Op.maxDepth t Value.nilIface Value.nilIface).run P w= .ok true w:=key 9999;refine Det.of_run λa hF=> ?_;have hc:a.eval (.const .nilIface)=Value.nilIface:=rfl;simp [execOp,hF.eval hvx,hc,binOp,eqGuard,Op.equal,he]
 ·cases h
theorem Z_ {K:Kt} {t:TypeId} {x y:Operand} {nb:Nat} {e:Eff} {ps:List Prop} (h:TC P K L t x y nb=some (e,ps)):∃te q xs,e=⟨[],[],[(nb,.sl te q xs)],.sk nb⟩:=by
 unfold TC at h;split at h
 ·split at h
  ·split at h
   ·rename_i inf a _ _ _ z _;cases hb:Nat.beq inf.size 1&&z.oneCell' with
    |false=>rw[hb]at h;cases h
    |true=>
     rw[hb]at h;obtain⟨q,_,h2⟩:=ak.1 h;simp only[Prod.mk.injEq]at h2;exact⟨_,_,_,h2.1.symm⟩
   ·cases h
  ·cases h
 ·cases h
theorem qN {K:Kt} {t:TypeId} {x y:Operand} {e:Eff} {ps:List Prop} (h:xD P K t x y=some (e,ps)) (hp:AllP ps):EOk P n ⟨ds,.makeSlice t x y,ty,pos,af,gu⟩ L (A4 H) e:=by
 unfold xD at h;split at h
 ·rename_i j te k xs rr qs he;cases h;obtain⟨te',q',xs',e1⟩:=Z_ he;intro ξ g w V hH hn;have hS0:HS (Cj ([]++Ax ([]:Hp)) (A4 H)) (⟨λ_=>none,g.F,g.X⟩:G) w:=⟨V.wf,λk o hk=>by simp [Cj,Ax,CN]at hk,λk o hk=>by simp [Cj,Ax,CN]at hk,λk o k' o' hk=>by simp [Cj,Ax,CN]at hk⟩;have h1:=VB (n:=n) (ds:=ds) (ty:=ty) (pos:=pos) (af:=af) (gu:=gu) (H:=A4 H) he hp ξ ⟨λ_=>none,g.F,g.X⟩ w (by simp only[Eff.mk.injEq]at e1;simpa[Ax]using hS0) (λ_ _ h=>by cases h) (λ_ _=>rfl);intro a KK Q hF hk;refine h1 a KK Q ⟨hF.size,hF.defers,λ_ _ h=>by cases h⟩ λv w' ⟨g',hpo⟩=>hk v w' ?_;cases e1;obtain⟨u,ls,n1,n2,n3,n4,n5,n6⟩:=hpo.hs.os 0 (.sl te [.int k] xs) rfl;have hr:v=u:=by obtain⟨u',h1,h2,_⟩:=hpo.r;rw[n1]at h1;cases h1;exact(List.cons.inj h2).1
  subst hr;have hno:∀j u,A4 (Eff.outs ⟨[],[],[],.ls false [.int k] xs⟩) j≠some u:=λj u h=>by simp [Eff.outs,A4,Fe]at h
  have hft:∀x,¬Eff.foot ⟨[],[],[],.ls false [.int k] xs⟩ (A4 H) g x:=λx ⟨k,hk,_⟩=>by simp [Ax]at hk
  have hft2:∀x,¬Eff.foot ⟨[],[],[(0,.sl te [.int k] xs)],.sk 0⟩ (A4 H) ⟨λ_=>none,g.F,g.X⟩ x:=λx ⟨k,hk,_⟩=>by simp [Ax]at hk
  refine⟨g,⟨⟨hpo.go.ch.os,hpo.go.ch.tape,hpo.go.ch.output,hpo.go.ch.size,λb hb _=>hpo.go.ch.blk b hb (hft2 b)⟩,λx hx=>(hft x hx).elim,λx hx=> .inl hx,λx hx _=>hx,λ_ _ h=>h,λ_ _ _=>rfl⟩,?_,⟨λx hx=>ca (V.wf x hx) hpo.go.ch.size,λj u h=>(hno j u h).elim,λj u h=>(hno j u h).elim,λj u j' u' h=>(hno j u h).elim⟩,λj u h=>(hno j u h).elim,λk v h=> .inl h⟩;refine⟨v,ls,rfl,⟨n4,by rw[Dj n5.row,n5.len],?_⟩,n5.mono (λ_ _ h=>h)⟩;rcases n3.2 with⟨e1,h0⟩|⟨b,cap,cur,e1,k2,k3,k4,k5,k6,k7⟩
  ·exact .inl ⟨h0,.inl ⟨rfl,e1⟩⟩
  ·refine .inr ⟨b,0,cap,e1,k4,k5,λhx=> ?_,OS.lt (hpo.hs.os 0 (.sl te [.int k] xs) rfl) b (by rw[n2,e1];simp [C8]),?_⟩
   ·have h4:=hpo.fp 0 (.sl te [.int k] xs) rfl b (by rw[n2,e1];simp [C8]);have h5:=V.wf b hx;rcases h4 with h4|h4
    ·exact hft2 b h4
    ·omega
   ·rcases n3.at with⟨e2,_⟩|⟨b',cap',e2,_,h3⟩
    ·rw[e1]at e2;cases e2
    ·rw[e1]at e2;cases e2;exact h3
 ·cases h
theorem qX {E:bU} {C:List (Nat×Rx)} {C2:List (Nat×R2)} (hZ:XA E.P E.Z) (hC:CsOk E.P C):M4 E.P n (xI E C C2):=by
 intro i L H nb o e ps h hp;unfold xI at h;split at h
 ·exact HP hZ hC i L H nb o e ps h hp
 ·obtain⟨ds,op,ty,pos,af,gu⟩:=o;simp only at h;split at h
  ·exact qQ h
  ·exact i8 h hp
  ·cases h
 ·obtain⟨ds,op,ty,pos,af,gu⟩:=o;simp only at h;split at h
  ·exact jB h hp
  ·cases h
 ·obtain⟨ds,op,ty,pos,af,gu⟩:=o;simp only at h;split at h
  ·exact qG h
  ·cases h
 ·obtain⟨ds,op,ty,pos,af,gu⟩:=o;simp only at h;split at h
  ·exact qK h
  ·cases h
 ·obtain⟨ds,op,ty,pos,af,gu⟩:=o;simp only at h;split at h
  ·exact qN h hp
  ·cases h
end
end Go.Sx
namespace Go.Sx
open Go.Mi Go.RowKit
variable [Dfr]
def uI:D->List D->D
 | .cons a b,e::es=> .cons (weak a e) (uI b es)
 |d,_=>d
theorem cD {X:Nat->Prop} {N:Nat->Option Value} {w:World} {d e:D} {l:List Value} (h:CS X N w d false l):CS X N w (weak d e) false l:=by
 unfold weak;split
 ·obtain⟨u,ls,h1,h2,h3⟩:=h;exact⟨u,ls,h1,h2.gen,h3⟩
 ·have :l=[vN]:=h;subst this;exact⟨_,[],rfl,Lsl.nil,aa⟩
 ·have :l=[vN]:=h;subst this;exact⟨_,rfl,rfl⟩
 ·split
  ·rename_i e2 xs a o q hq;obtain⟨u,ls,h1,h2,h3⟩:=h;subst h1;exact⟨u,rfl,(Ld (X:=X) (N:=N) (w:=w) (m:=false) (a:= .os _) (d:= .ls true _ _) ⟨u,ls,rfl,h2,h3⟩ hq).1⟩
  ·exact h
 ·exact h
theorem uH {X:Nat->Prop} {N:Nat->Option Value} {w:World}:∀{d:D} {es:List D} {l:List Value},CS X N w d false l->CS X N w (uI d es) false l:=by
 intro d
 induction d with
 |cons a b _ ih=>
  intro es l h;cases es with
  |nil=>exact h
  |cons e es=>
   obtain⟨l1,l2,rfl,h1,h2⟩:=h;exact⟨l1,l2,rfl,cD h1,ih h2⟩
 |_=>intro es l h;cases es<;>exact h
theorem St.wko {n:Nat} {L:DL} {H:Hp} {S0:Nat->Prop} {g0 g:G} {w0 w:World} {nb:Nat} {a:Act} (V:St n S0 g0 w0 L H nb a g w) (k:Nat) (es:List D) {ty:TypeId} {d:D} (hk:A4 H k=some (.ob ty d)) {H':Hp} (hH:H'=(k,some (.ob ty (uI d es)))::H):St n S0 g0 w0 L H' nb a g w:=by
 subst hH;have hl:∀j o,A4 ((k,some (.ob ty (uI d es)))::H) j=some o->(j=k/\o= .ob ty (uI d es))\/(j≠k/\A4 H j=some o):=λj o h=>by
  have h:=BS.1 h;simp only[Fe]at h;by_cases e:k=j
  ·subst e;simp at h;exact .inl ⟨rfl,h.symm⟩
  ·rw[BL e]at h;exact .inr ⟨λx=>e x.symm,BS.2 h⟩
 have old:∀j o,A4 ((k,some (.ob ty (uI d es)))::H) j=some o->∃u,A4 H j=some u:=λj o h=>by
  rcases hl j o h with⟨rfl,_⟩|⟨_,h⟩
  ·exact⟨_,hk⟩
  ·exact⟨_,h⟩
 refine⟨V.size,V.defers,V.fr,⟨V.hs.wf,λj o h=> ?_,λj o h b hb=> ?_,λj o j' o' h h' hj=> ?_⟩,V.go,V.wf0,λj o h b hb=> ?_,V.nm⟩
 ·rcases hl j o h with⟨rfl,rfl⟩|⟨_,h⟩
  ·obtain⟨b,c,h1,h2,h3,h4,h5⟩:=V.hs.os j _ hk;exact⟨b,c,h1,h2,h3,uH h4,h5⟩
  ·exact V.hs.os j o h
 ·obtain⟨u,hu⟩:=old j o h;exact V.hs.own j u hu b hb
 ·obtain⟨u,hu⟩:=old j o h;obtain⟨u',hu'⟩:=old j' o' h';exact V.hs.dis j u j' u' hu hu' hj
 ·obtain⟨u,hu⟩:=old j o h;exact V.fp j u hu b hb
end Go.Sx
namespace Go.Sx
open Go.Mi Go.RowKit
variable [Dfr]
def QT:D->Bool
 | .v _=>true
 | .ar _ _ _=>true
 | .nil=>true
 | .cons a b=>QT a&&QT b
 | .ag d=>QT d
 | .tu d=>QT d
 | .cp _ _=>true
 | .sk _=>true
 |_=>false
def fkI:Fk->Bool
 | .int _=>true
 | .bool=>true
 | .str=>true
 |_=>false
def tC:O->Bool
 | .ob _ d=>QT d
 | .sl _ e _=>e.all fkI
section
variable {P:Program} {X X':Nat->Prop} {N N':Nat->Option Value} {w w':World} {g g':G}
theorem S9:∀{d:D} {m:Bool} {l:List Value},QT d=true->(∀k∈d.nm,N' k=N k)->CS X N w d m l->CS X' N' w' d m l:=by
 intro d
 induction d with
 |v x=>intro m l _ _ h;exact h
 |ar k n f=>intro m l _ _ h;exact h
 |nil=>intro m l _ _ h;exact h
 |cons a b iha ihb=>
  intro m l hz hn h;simp only[QT,ap]at hz;obtain⟨l1,l2,rfl,h1,h2⟩:=h;exact⟨l1,l2,rfl,iha hz.1 (λk hk=>hn k (by simp only[D.nm,bn];exact .inl hk)) h1,ihb hz.2 (λk hk=>hn k (by simp only[D.nm,bn];exact .inr hk)) h2⟩
 |ag d ih=>intro m l hz hn h;obtain⟨l',h1,h2,h3⟩:=h;exact⟨l',ih hz hn h1,h2,h3⟩
 |tu d ih=>intro m l hz hn h;obtain⟨l',h1,h2⟩:=h;exact⟨l',ih hz hn h1,h2⟩
 |cp k o=>intro m l _ hn h;obtain⟨b,h1,h2⟩:=h;exact⟨b,(hn k (by simp [D.nm])).trans h1,h2⟩
 |sk k=>intro m l _ hn h;obtain⟨v,h1,h2⟩:=h;exact⟨v,(hn k (by simp [D.nm])).trans h1,h2⟩
 |_=>intro m l hz;cases hz
theorem iT {a:Fk} {x:a.T} {v:Value} (h:fkI a=true) (k:fS X N w a x v):fS X' N' w' a x v:=by cases a<;>first |exact k|cases h
theorem SD:∀{e:List Fk} {x:RT e} {l:List Value},e.all fkI=true->rS X N w e x l->rS X' N' w' e x l
 |[],x,l,_,h=>h
 |[a],x,l,hz,⟨v,h1,h2⟩=>⟨v,h1,iT (by simpa using hz) h2⟩
 |a::b::s,x,l,hz,⟨v,l',h1,h2,h3⟩=>by rw[List.all_cons,ap]at hz;exact⟨v,l',h1,iT hz.1 h2,SD (e:=b::s) hz.2 h3⟩
theorem f6 {k:Nat} {o:O} (hz:tC o=true) (hn:∀i∈o.nm,g'.N i=g.N i) (hk:g'.N k=g.N k) (hf:g'.F k=g.F k) (h:OS g w k o):OS g' w k o:=by
 cases o with
 |ob ty d=>
  obtain⟨b,c,h1,h2,h3,h4,h5⟩:=h;exact⟨b,c,hk.trans h1,hf.trans h2,h3,S9 hz hn h4,h5⟩
 |sl ty e xs=>
  obtain⟨v,ls,h1,h2,h3,h4,h5,h6⟩:=h;exact⟨v,ls,hk.trans h1,hf.trans h2,h3,h4,h5.mono λ_ _=>SD hz,h6⟩
theorem L8 {d:D} {m:Bool} {l:List Value} (hp:d.plain=true) (hn:∀k∈d.nm,N' k=N k) (hx:∀x,X' x->X x) (h:CS X N w d m l):CS X' N' w d m l:=by have h1:=(GD (X:=X) (N:=N) (N':=N) (w:=w) (r:=id) d m l hp λ_ _=>rfl).2 h;have h2:=(GD (X:=X) (N:=N) (N':=N') (w:=w) (r:=id) d m l hp hn).1 h1;exact GY (S:=λ_=>False) ⟨Chp.refl _ _,λ_ h=>h.elim,λx h=> .inl (hx x h),λ_ _ h=>h⟩ d m l h2
theorem T1 {k:Nat} {o:O} (hp:o.plain=true) (hn:∀i∈o.nm,g'.N i=g.N i) (hk:g'.N k=g.N k) (hf:g'.F k=g.F k) (hx:∀x,g'.X x->g.X x) (h:OS g w k o):OS g' w k o:=by
 have h1:OS (⟨g'.N,g'.F,g.X⟩:G) w k o:=by have h0:=(Kg (g:=g) (g':=g) (r:=id) hp (λ_ _=>rfl) rfl rfl rfl).2 h;exact(Kg (g:=g) (g':=(⟨g'.N,g'.F,g.X⟩:G)) (r:=id) hp hn hk hf rfl).1 h0
 have gs:XE g.X g'.N w (λ_=>False) g'.X g'.N w:=⟨Chp.refl _ _,λ_ h=>h.elim,λx h=> .inl (hx x h),λ_ _ h=>h⟩;cases o with
 |ob ty d=>
  obtain⟨b,c,h1,h2,h3,h4,h5⟩:=h1;exact⟨b,c,h1,h2,h3,GY gs _ _ _ h4,h5⟩
 |sl ty e xs=>
  obtain⟨v,ls,h1,h2,h3,h4,h5,h6⟩:=h1;exact⟨v,ls,h1,h2,h3,h4,h5.mono (FY gs _),h6⟩
theorem VO {j:Nat} {a2:List D}:∀{a1:List D} {vs:List Value},CS X N w (Ag (a1++ .sk j::a2)) true vs->∃v1 v v2,vs=v1++v::v2/\CS X N w (Ag a1) true v1/\N j=some v/\CS X N w (Ag a2) true v2
 |[],vs,⟨l1,l2,e,⟨v,h1,h2,_⟩,h3⟩=>⟨[],v,l2,by rw[e,h2];rfl,rfl,h1,h3⟩
 |d::a1,vs,⟨l1,l2,e,h1,h2⟩=>by obtain⟨v1,v,v2,e2,h3,h4,h5⟩:=VO h2;exact⟨l1++v1,v,v2,by rw[e,e2,bw],⟨l1,v1,rfl,h1,h3⟩,h4,h5⟩
def Yt (a1 a2:List D) (H0 H1:Hc) (res:D) (j:Nat):Bool:=
 (a1.all (Fb (Ax H0)))&&(a2.all (Fb (Ax H0)))&&(H0.all λp=>Fg (Ax H0) p.2)&& !(CN j (Ax H0))&& !(CN j (Ax H1))&&QT res&&Fb (Ax H1) res&&(H1.all λp=>tC p.2&&Fg (Ax H1) p.2)
theorem IF:∀{H:Hc} {k:Nat} {o:O},Ev H k=some o->(k,o)∈H
 |(s,u)::r,k,o,h=>by
  simp only[Ev]at h;by_cases e:s=k
  ·subst e;simp at h;subst h;exact bz ..
  ·rw[BL e]at h;exact a_ _ (IF h)
theorem ConOk.lend {f : FuncId} {a1 a2 : List D} {nn : Bool} {kk : IntKind} {xs : List Int} {H0 H1 : Hc} {res : D} (j te : Nat) (h : ConOk P f ⟨a1 ++ .ls nn [.int kk] xs :: a2, H0, res, H1⟩) (hnn : nn = true -> 0 < xs.length) (hk : Yt a1 a2 H0 H1 res j = true) :
  ConOk P f ⟨a1++ .sk j::a2,(j,.sl te [.int kk] xs)::H0,res,(j,.sl te [.int kk] xs)::H1⟩:=by
 refine⟨h.1,λvs g w V hN hv=> ?_⟩;simp only[Yt,ap,ax,fh]at hk;obtain⟨⟨⟨⟨⟨⟨⟨c1,c2⟩,c3⟩,c4⟩,c5⟩,c6⟩,c7⟩,c8⟩:=hk;have nj:∀{H:Hc},CN j (Ax H)=false->∀k o,Ev H k=some o->k≠j:=λ{H} hm k o hk e=>by subst e;have :k∈Ax H:=cr.2 ⟨_,IF hk,rfl⟩;rw[A1.2 this]at hm;cases hm
 have nmj:∀{H:Hc} {ks:List Nat},CN j (Ax H)=false->(∀k∈ks,CN k (Ax H)=true)->∀k∈ks,k≠j:=λhm hks k hk e=>by subst e;rw[hks k hk]at hm;cases hm
 have lk1:∀(H:Hc) k o,k≠j->(Ev ((j,.sl te [.int kk] xs)::H) k=some o↔Ev H k=some o):=λH k o hne=>by simp only[Ev];rw[BL (λe=>hne e.symm)];rfl
 have lkj:∀(H:Hc),Ev ((j,(.sl te [.int kk] xs:O))::H) j=some (.sl te [.int kk] xs):=λH=>by simp [Ev]
 obtain⟨v1,v,v2,rfl,s1,hNj,s2⟩:=VO hv;have hOj:=V.os j _ (lkj H0);obtain⟨v',ls,n1,n2,n3,n4,n5,n6⟩:=hOj;rw[hNj]at n1;cases n1;have hlt:∀b∈g.F j,b<w.heap.size:=OS.lt (V.os j _ (lkj H0))
 let gf:G:=⟨λk=>if k=j then none else g.N k,g.F,λx=>g.X x/\x∉g.F j⟩
 have fN:∀k,k≠j->gf.N k=g.N k:=λk hk=>aj hk;have ft1:∀x,Con.foot ⟨a1++ .ls nn [.int kk] xs::a2,H0,res,H1⟩ gf x->∃k o,k≠j/\Ev H0 k=some o/\x∈g.F k:=λx ⟨k,o,hk,hx⟩=>⟨k,o,nj c4 k o hk,hk,hx⟩;have ft:∀x,Con.foot ⟨a1++ .ls nn [.int kk] xs::a2,H0,res,H1⟩ gf x->Con.foot ⟨a1++ .sk j::a2,(j,.sl te [.int kk] xs)::H0,res,(j,.sl te [.int kk] xs)::H1⟩ g x:=λx hx=>by obtain⟨k,o,h1,h2,h3⟩:=ft1 x hx;exact⟨k,o,(lk1 H0 k o h1).2 h2,h3⟩
 have ftj:∀x,x∈g.F j->Con.foot ⟨a1++ .sk j::a2,(j,.sl te [.int kk] xs)::H0,res,(j,.sl te [.int kk] xs)::H1⟩ g x:=λx hx=>⟨j,_,lkj H0,hx⟩;have ftd:∀x,Con.foot ⟨a1++ .ls nn [.int kk] xs::a2,H0,res,H1⟩ gf x->x∉g.F j:=λx hx hj=>by obtain⟨k,o,h1,h2,h3⟩:=ft1 x hx;exact V.dis k o j _ ((lk1 H0 k o h1).2 h2) (lkj H0) h1 x h3 hj
 have hSf:HS (Ev H0) gf w:=by
  refine⟨λx hx=>V.wf x hx.1,λk o hk=> ?_,λk o hk b hb=> ?_,λk o k' o' hk hk'=> ?_⟩
  ·have hne:=nj c4 k o hk;have hc:=c3 (k,o) (IF hk);simp only[Fg,ap,ax]at hc;exact T1 hc.1 (λi hi=>fN i (nmj c4 hc.2 i hi)) (fN k hne) rfl (λx hx=>hx.1) (V.os k o ((lk1 H0 k o hne).2 hk))
  ·have hne:=nj c4 k o hk;exact⟨V.own k o ((lk1 H0 k o hne).2 hk) b hb,λhj=>V.dis k o j _ ((lk1 H0 k o hne).2 hk) (lkj H0) hne b hb hj⟩
  ·exact V.dis k o k' o' ((lk1 H0 k o (nj c4 k o hk)).2 hk) ((lk1 H0 k' o' (nj c4 k' o' hk')).2 hk')
 have hNf:∀k u,gf.N k=some u->k∈Ax H0:=λk u hk=>by
  by_cases e:k=j
  ·rw[e]at hk;simp [gf]at hk
  ·rw[fN k e]at hk;have :=hN k u hk;simp only[Ax,bg,ez]at this;exact this.resolve_left e
 have mvl:∀{ays:List D} {us:List Value},(∀d∈ays,Fb (Ax H0) d=true)->CS g.X g.N w (Ag ays) true us->CS gf.X gf.N w (Ag ays) true us:=by
  intro ays
  induction ays with
  |nil=>intro us _ h;exact h
  |cons d ays ih=>
   rintro us hc ⟨l1,l2,e,k1,k2⟩;have hd:=hc d (bz ..);simp only[Fb,ap,ax]at hd;exact⟨l1,l2,e,L8 hd.1 (λi hi=>fN i (nmj c4 hd.2 i hi)) (λx hx=>hx.1) k1,ih (λe he=>hc e (a_ _ he)) k2⟩
 have hls:CS gf.X gf.N w (.ls nn [.int kk] xs) true [v]:=by
  refine⟨v,ls,rfl,⟨n4,by rw[Dj n5.row,n5.len],?_⟩,n5.mono λ_ _=>SD rfl⟩;rcases n3.2 with⟨e1,h0⟩|⟨b,cap,cur,e1,k2,k3,k4,k5,k6,k7⟩
  ·cases nn with
   |true=>have h0:xs.length=0:=h0;have :=hnn rfl;omega
   |false=>exact .inl ⟨h0,.inl ⟨rfl,e1⟩⟩
  ·refine .inr ⟨b,0,cap,e1,k4,k5,λhx=>hx.2 (by rw[n2,e1];simp [C8]),hlt b (by rw[n2,e1];simp [C8]),?_⟩;rcases n3.at with⟨e2,_⟩|⟨b',cap',e2,_,h3⟩
   ·rw[e1]at e2;cases e2
   ·rw[e1]at e2;cases e2;exact h3
 have hv':CS gf.X gf.N w (Ag (a1++ .ls nn [.int kk] xs::a2)) true (v1++v::v2):=EF (mvl c1 s1) ⟨[v],v2,rfl,hls,mvl c2 s2⟩;refine(h.2 (v1++v::v2) gf w hSf hNf hv').mono λe w' he=> ?_;obtain⟨r,rfl,g',hp⟩:=he;have fj:∀b∈g.F j,b<w.heap.size:=hlt
 let gg:G:=⟨λk=>if k=j then g.N j else g'.N k,λk=>if k=j then g.F j else g'.F k,λx=>g'.X x\/x∈g.F j⟩
 have gN:∀k,k≠j->gg.N k=g'.N k:=λk hk=>aj hk;have gF:∀k,k≠j->gg.F k=g'.F k:=λk hk=>aj hk;have gNj:gg.N j=some v:=(ab rfl).trans hNj;have gFj:gg.F j=g.F j:=ab rfl;have chp:Chp (Con.foot ⟨a1++ .sk j::a2,(j,.sl te [.int kk] xs)::H0,res,(j,.sl te [.int kk] xs)::H1⟩ g) w w':=⟨hp.go.ch.os,hp.go.ch.tape,hp.go.ch.output,hp.go.ch.size,λb hb hn=>hp.go.ch.blk b hb λhh=>hn (ft b hh)⟩;refine⟨r,rfl,gg,⟨⟨chp,λx ⟨k,o,hk,hx⟩=>V.own k o hk x hx,λx hx=> ?_,λx hx hn=> ?_,λk u hk=> ?_,λk u hk=> ?_⟩,?_,⟨λx hx=> ?_,λk o hk=> ?_,λk o hk b hb=> ?_,λk o k' o' hk hk' hne b hb hb'=> ?_⟩,λk o hk b hb=> ?_⟩⟩
 ·rcases hx with hx|hx
  ·exact(hp.go.x x hx).imp (λh=>h.1) id
  ·exact .inl (V.own j _ (lkj H0) x hx)
 ·exact .inl (hp.go.k x ⟨hx,λhj=>hn (ftj x hj)⟩ λhh=>hn (ft x hh))
 ·by_cases e:k=j
  ·rw[e]at hk⊢;rw[gNj,<-hNj];exact hk
  ·rw[gN k e];exact hp.go.n k u ((fN k e).trans hk)
 ·by_cases e:k=j
  ·rw[e,gFj]
  ·rw[gF k e];exact hp.go.f k u ((fN k e).trans hk)
 ·simp only[Fb,ap,ax]at c7;exact S9 c6 (λi hi=>gN i (nmj c5 c7.2 i hi)) hp.r
 ·rcases hx with hx|hx
  ·exact hp.hs.wf x hx
  ·exact ca (fj x hx) hp.go.ch.size
 ·by_cases e:k=j
  ·subst e;rw[lkj]at hk;cases hk;exact⟨v,ls,gNj,gFj.trans n2,Own.mvp n3 hp.go.ch λb hb hh=>ftd b hh (by rw[n2];exact hb),n4,n5.mono λ_ _=>SD rfl,n6⟩
  ·have hk:=(lk1 H1 k o e).1 hk;have hc:=c8 (k,o) (IF hk);simp only[Fg,ap,ax]at hc;exact f6 hc.1 (λi hi=>gN i (nmj c5 hc.2.2 i hi)) (gN k e) (gF k e) (hp.hs.os k o hk)
 ·by_cases e:k=j
  ·subst e;rw[gFj]at hb;exact .inr hb
  ·rw[gF k e]at hb;exact .inl (hp.hs.own k o ((lk1 H1 k o e).1 hk) b hb)
 ·have key : ∀ k o b, k ≠ j -> Ev ((j, (.sl te [.int kk] xs : O)) :: H1) k = some o -> b ∈ gg.F k -> b ∈ g.F j -> False := λk o b e hk hb hj => by
   rw[gF k e]at hb;rcases hp.fp k o ((lk1 H1 k o e).1 hk) b hb with h1|h1
   ·exact ftd b h1 hj
   ·have :=fj b hj;omega
  by_cases e:k=j
  ·subst e;rw[gFj]at hb;exact key k' o' b (λx=>hne x.symm) hk' hb' hb
  ·by_cases e':k'=j
   ·subst e';rw[gFj]at hb';exact key k o b e hk hb hb'
   ·rw[gF k e]at hb;rw[gF k' e']at hb';exact hp.hs.dis k o k' o' ((lk1 H1 k o e).1 hk) ((lk1 H1 k' o' e').1 hk') hne b hb hb'
 ·by_cases e:k=j
  ·subst e;rw[gFj]at hb;exact .inl (ftj b hb)
  ·rw[gF k e]at hb;exact(hp.fp k o ((lk1 H1 k o e).1 hk) b hb).imp (ft b) id
end
end Go.Sx
namespace Go.Sx
open Go.Mi Go.RowKit
variable [Dfr]
section
variable {P:Program}
theorem pI {A B:Hc} {k:Nat} {o:O} (h:Ev A k=some o):Ev (A++B) k=some o:=by
 induction A with
 |nil=>cases h
 |cons p A ih=>
  obtain⟨s,u⟩:=p;simp only[gp,Ev]at h⊢;by_cases e:s=k
  ·subst e;simpa using h
  ·rw[BL e]at h⊢;exact ih h
theorem gL {A:Hc} {k:Nat} {o:O} (hk:CN k (Ax A)=false):Ev (A++[(k,o)]) k=some o:=by
 induction A with
 |nil=>simp [Ev]
 |cons p A ih=>
  obtain⟨s,u⟩:=p;have hne:¬s=k:=λe=>by subst e;rw[A1.2 (by simp [Ax])]at hk;cases hk
  simp only[gp,Ev];rw[BL hne];refine ih ?_;cases hm:CN k (Ax A)with
  |false=>rfl
  |true=>
   rw[A1.2 (by simp only[Ax,bg,ez];exact .inr (A1.1 hm))]at hk;cases hk
theorem ConOk.frz {f:FuncId} {ays:List D} {H0:Hc} (H1:Hc) (k te:Nat) (e:List Fk) (xs:List (RT e)) (h:ConOk P f ⟨ays,H0,.sk k,H1++[(k,.sl te e xs)]⟩) (hk:(!(CN k (Ax H1))&&H1.all λp=>Fg (Ax H1) p.2)=true):ConOk P f ⟨ays,H0,.ls false e xs,H1⟩:=by
 refine⟨h.1,λvs g w V hN hv=>(h.2 vs g w V hN hv).mono λr w' he=> ?_⟩;simp only[ap,ax,fh]at hk;obtain⟨c1,c2⟩:=hk;obtain⟨v,rfl,g',hp⟩:=he;have hl:=gL (A:=H1) (o:= .sl te e xs) c1;have up:∀j o,Ev H1 j=some o->Ev (H1++[(k,.sl te e xs)]) j=some o:=λj o hj=>pI hj;have ne:∀j o,Ev H1 j=some o->j≠k:=λj o hj e=>by subst e;have hm:j∈Ax H1:=cr.2 ⟨_,IF hj,rfl⟩;rw[A1.2 hm]at c1;cases c1
 let gg:G:=⟨g'.N,g'.F,λx=>g'.X x/\x∉g'.F k⟩
 obtain⟨u,ls,n1,n2,n3,n4,n5,n6⟩:=hp.hs.os k _ hl;have gs:XE g'.X g'.N w' (λ_=>False) gg.X gg.N w':=⟨Chp.refl _ _,λ_ h=>h.elim,λx h=> .inl h.1,λ_ _ h=>h⟩;have hr:v=u:=by obtain⟨u',h1,h2,_⟩:=hp.r;rw[n1]at h1;cases h1;exact(List.cons.inj h2).1
 refine⟨v,rfl,gg,⟨hp.go.ch,hp.go.s,λx hx=>hp.go.x x hx.1,λx hx hn=>⟨hp.go.k x hx hn,λhk=> ?_⟩,hp.go.n,hp.go.f⟩,?_,⟨λx hx=>hp.hs.wf x hx.1,λj o hj=> ?_,λj o hj b hb=>⟨hp.hs.own j o (up j o hj) b hb,λhk=>hp.hs.dis j o k _ (up j o hj) hl (ne j o hj) b hb hk⟩,λj o j' o' hj hj'=>hp.hs.dis j o j' o' (up j o hj) (up j' o' hj')⟩,λj o hj=>hp.fp j o (up j o hj)⟩
 ·rcases hp.fp k _ hl x hk with h1|h1
  ·exact hn h1
  ·have :=V.wf x hx;omega
 ·subst hr;refine⟨v,ls,rfl,⟨n4,by rw[Dj n5.row,n5.len],?_⟩,n5.mono (FY gs _)⟩;rcases n3.2 with⟨e1,h0⟩|⟨b,cap,cur,e1,k2,k3,k4,k5,k6,k7⟩
  ·exact .inl ⟨h0,.inl ⟨rfl,e1⟩⟩
  ·refine .inr ⟨b,0,cap,e1,k4,k5,λhx=>hx.2 (by rw[n2,e1];simp [C8]),OS.lt (hp.hs.os k _ hl) b (by rw[n2,e1];simp [C8]),?_⟩;rcases n3.at with⟨e2,_⟩|⟨b',cap',e2,_,h3⟩
   ·rw[e1]at e2;cases e2
   ·rw[e1]at e2;cases e2;exact h3
 ·have hc:=c2 (j,o) (IF hj);simp only[Fg,ap,ax]at hc;exact T1 (g:=g') (g':=gg) hc.1 (λ_ _=>rfl) rfl rfl (λx hx=>hx.1) (hp.hs.os j o (up j o hj))
end
end Go.Sx
namespace Go.Sx
open Go.Mi Go.RowKit
variable [Dfr]
theorem Te {β γ:Type} {d:Nat->Bool} {f:β->Nat->Option γ} {k:Nat}:∀{bs:List β} {i:Nat} {H:Nat->γ},(∀b∈bs,f b k=none)->lw d f i bs H k=H k
 |[],_,_,_=>rfl
 |b::bs,i,H,h=>by show lw d f (i+1) bs _ k=_;rw[Te (λc hc=>h c (a_ _ hc))];show(bif d i then(f b k).getD (H k)else H k)=H k;rw[h b (bz ..)];cases d i<;>rfl
def pH (nb:Nat) (d:D):Bool:=d.plain&&d.nm.all (Nat.blt · nb)
def gI (nb:Nat):Option O->Bool
 |some o=>o.plain&&o.nm.all (Nat.blt · nb)
 |none=>true
def Tp (ops:List Oper) (rows:List Rw) (L:DL) (H:Hp) (nb:Nat) (kL kH:List Nat) (d:D):Bool:=
 ((ops.zip rows).all λb=>(kL.all λt=>(fL b t).isNone)&&(kH.all λk=>(fH b k).isNone))&&((Bo L kL).all λp=>pH nb p.2)&&((FJ H kH).all λp=>Nat.blt p.1 nb&&gI nb p.2)&&pH nb d
section
variable {P:Program} {n:Nat} {S0:Nat->Prop} {g0:G} {w0:World} {l:List Oper} {rows:List Rw} {L0:DL} {H0:Hp} {nb nb':Nat} {Q:Exit->Act->World->Prop} {a:Act} {w:World}
theorem Vm:∀{L:DL} {t:Nat} {d:D},D4 L t=some d->(t,d)∈L
 |(s,u)::r,t,d,h=>by
  simp only[D4]at h;by_cases e:s=t
  ·subst e;simp at h;subst h;simp
  ·rw[BL e]at h;exact a_ _ (Vm h)
theorem Vl:∀{L:Hp} {t:Nat} {d:Option O},Fe L t=some d->(t,d)∈L
 |(s,u)::r,t,d,h=>by
  simp only[Fe]at h;by_cases e:s=t
  ·subst e;simp at h;subst h;simp
  ·rw[BL e]at h;exact a_ _ (Vl h)
theorem X6 (kL kH : List Nat) {dv : D} (hk : Tp l rows L0 H0 nb kL kH dv = true) (NLT : ∀ k u, g0.N k = some u -> k < nb) (hc : ChkR n nb nb' l rows) {d : Nat -> Bool} {i : Nat} {o : Oper} {e : Eff} (hz : (l.zip rows)[i]? = some (o, some e)) (hdi : d i = false) (hcl : ∀ i' j, C7 l i' j -> d i' = true -> d j = true) (hah : ∀ j, C7 l i j -> d j = true)
  (hg:gW l (((l.zip rows).take i).foldl GV L0) o=some true) (hp:bP P n o (Bo (((l.zip rows).take i).foldl GV L0) (LL l o)) (A4 (((l.zip rows).take i).foldl Il H0)) e dv)
  (hend:∀a g w v,St n S0 g0 w0 (Bo L0 kL) (FJ H0 kH) nb a g w->Sm g w dv v->Q (.panic [{v,recovered:=false}]) a w) {K:Act->World->Prop} (h:RI n S0 g0 w0 l rows L0 H0 nb d a w):wpOp P l.toArray Q i K a w:=by
 obtain⟨g,V,hfr,hHS,hfoot,hw⟩:=Wo hc hz hdi hcl hah h;simp only[Tp,ap,ax]at hk;obtain⟨⟨⟨c1,c2⟩,c3⟩,c4⟩:=hk;have ho:l[i]? =some o:=(dw.1 hz).1;unfold wpOp;simp only[db,ho];rw[ab (hw true hg)];refine .inl (hp _ g w hHS hfr.get a K Q hfr.frm ?_);rintro v w' ⟨g',hgo,hwf,hsm⟩;have hfoot2:∀b,e.foot (lw d fH 0 (l.zip rows) (A4 H0)) g b->g.X b:=λb ⟨k,h1,o',h2,h3⟩=>V.hs.own k o' h2 b h3;have hgo2:=hgo.mono hfoot hfoot2
 -- what is kept
 have eL:∀t dd,D4 (Bo L0 kL) t=some dd->lw d fL 0 (l.zip rows) (D4 L0) t=some dd:=λt dd ht=>by obtain⟨h1,h2⟩:=Fl ht;rw[Te λb hb=>fo.1 ((c1 b hb).1 t h1)];exact h2
 have eH:∀k oo,A4 (FJ H0 kH) k=some oo->k∈kH/\lw d fH 0 (l.zip rows) (A4 H0) k=some oo:=λk oo ht=>by obtain⟨h1,h2⟩:=My (BS.1 ht);rw[Te λb hb=>fo.1 ((c1 b hb).2 k h1)];exact⟨h1,BS.2 h2⟩
 have nwr:∀k,k∈kH->k∉Ax e.wr:=λk hk hm=>by have hb:=(c1 _ (List.mem_iff_getElem?.2 ⟨i,hz⟩)).2 k hk;have :Fe e.outs k=none:=fo.1 hb;refine HM.1 ?_ this;simp only[Ax,Eff.outs,ce,bn]at hm⊢;exact .inl hm
 let gg:G:=⟨λk=>if k<nb then g'.N k else none,g'.F,g'.X⟩
 have gN:∀k,k<nb->gg.N k=g'.N k:=λk hk=>ab hk;have nlt:∀{ks:List Nat},(∀k∈ks,Nat.blt k nb=true)->∀k∈ks,gg.N k=g'.N k:=λhk k h=>gN k (by have :=hk k h;rwa [ay]at this);have hSm:∀dd u,pH nb dd=true->Sm g' w' dd u->Sm gg w' dd u:=λdd u h1 h2=>by simp only[pH,ap,ax]at h1;exact L8 h1.1 (nlt h1.2) (λx hx=>hx) h2
 have hnf:∀k oo,A4 (FJ H0 kH) k=some oo->∀b∈g.F k,¬e.foot (lw d fH 0 (l.zip rows) (A4 H0)) g b:=λk oo hk b hb ⟨k',h1,o',h2,h3⟩=>by obtain⟨h4,h5⟩:=eH k oo hk;exact V.hs.dis k oo k' o' h5 h2 (λe'=>nwr k h4 (e'▸h1)) b hb h3
 have hOS:∀k oo,A4 (FJ H0 kH) k=some oo->OS g' w' k oo:=λk oo hk=>(V.hs.os k oo (eH k oo hk).2).mv hgo2 (hnf k oo hk);have hF:∀k oo,A4 (FJ H0 kH) k=some oo->g'.F k=g.F k:=λk oo hk=>by
  have :=V.hs.os k oo (eH k oo hk).2;cases oo with
  |ob ty ds=>obtain⟨b,c,h1,_⟩:=this;exact hgo2.f k _ h1
  |sl ty e xs=>obtain⟨u,ls,h1,_⟩:=this;exact hgo2.f k _ h1
 have hkO:∀k oo,A4 (FJ H0 kH) k=some oo->k<nb/\gI nb (some oo)=true:=λk oo hk=>by have :=c3 _ (Vl (BS.1 hk));simp only[ay]at this;exact this
 refine hend a gg w' v ⟨V.size,V.defers,λt dd ht=> ?_,⟨hwf,λk oo hk=> ?_,λk oo hk b hb=> ?_,λk oo k' oo' hk hk' hne=> ?_⟩,?_,V.wf0,λk oo hk b hb=> ?_,λk u hk=> ?_⟩ (hSm dv v c4 hsm)
 ·exact hSm dd _ (c2 _ (Vm ht)) ((V.fr t dd (eL t dd ht)).mv hgo2)
 ·obtain⟨h1,h2⟩:=hkO k oo hk;simp only[gI,ap,ax]at h2;exact T1 (g:=g') (g':=gg) h2.1 (nlt h2.2) (gN k h1) rfl (λx hx=>hx) (hOS k oo hk)
 ·rw[show gg.F k=g.F k from hF k oo hk]at hb;exact hgo2.k b (V.hs.own k oo (eH k oo hk).2 b hb) (hnf k oo hk b hb)
 ·rw[show gg.F k=g.F k from hF k oo hk,show gg.F k'=g.F k' from hF k' oo' hk'];exact V.hs.dis k oo k' oo' (eH k oo hk).2 (eH k' oo' hk').2 hne
 ·have h1:=V.go.trans hgo2 V.wf0 (λy ⟨k,_,o',h2,h3⟩=>V.fp k o' h2 y h3);refine⟨h1.ch,h1.s,h1.x,h1.k,λk u hk=> ?_,h1.f⟩;have hlt:k<nb:=by exact NLT k u hk
  exact(gN k hlt).trans (h1.n k u hk)
 ·rw[show gg.F k=g.F k from hF k oo hk]at hb;exact V.fp k oo (eH k oo hk).2 b hb
 ·by_cases hlt:k<nb
  ·exact hlt
  ·have :gg.N k=none:=aj hlt;rw[this]at hk;cases hk
end
def vQ (n:Nat) (dr:Bool) (ops:List Oper) (ex:Ex) (q:Option CR) (p dd:Nat) (L:DL) (H:Hp) (nb:Nat) (kL kH:List Nat):Option (List Prop×D):=match G5 ops ex q p dd 0 ops L H nb with
 |some (rows,ps,d,nb')=>bif Q0 n nb nb' ops rows&&aM dr ops p dd&&Nat.blt p ops.length&& !(dd.testBit p)&&Tp ops rows L H nb kL kH d then some (ps,d)else none
 |none=>none
section
variable {P:Program} {n:Nat} {ops:List Oper} {ex:Ex} {L:DL} {H:Hp} {nb:Nat} {S0:Nat->Prop} {g0 g:G} {w0 w:World} {Q:Exit->Act->World->Prop} {a:Act}
theorem UP (kL kH : List Nat) {id : Nat} {dr : Bool} (hm : P.follows .mixedOrders = true) (hex : M4 P n ex) {q : Option CR} (hc : ∀ r, q = some r -> En P r.f r.c) (p dd : Nat) {ps : List Prop} {d : D} (h : vQ n dr ops ex q p dd L H nb kL kH = some (ps, d)) (hp : AllP ps) (V : St n S0 g0 w0 L H nb a g w)
  (hend:∀a g w v,St n S0 g0 w0 (Bo L kL) (FJ H kH) nb a g w->Sm g w d v->Q (.panic [{v,recovered:=false}]) a w):(Code.region id ops.toArray dr).wp P Q a w:=by
 unfold vQ at h;cases hx:G5 ops ex q p dd 0 ops L H nb with
 |none=>rw[hx]at h;cases h
 |some x=>
  obtain⟨rows,qs,d1,nb'⟩:=x;rw[hx]at h;simp only at h;cases hb:Q0 n nb nb' ops rows&&aM dr ops p dd&&Nat.blt p ops.length&& !(dd.testBit p)&&Tp ops rows L H nb kL kH d1 with
  |false=>rw[hb]at h;cases h
  |true=>
   rw[hb]at h;cases h;simp only[ap,fh,ay]at hb;obtain⟨⟨⟨⟨b1,b2⟩,b3⟩,b4⟩,b5⟩:=hb;have hck:=ChkR.of b1;have rowAt:=λj b (hz:(ops.zip rows)[j]? =some b) (hd:dd.testBit j=false)=>by have :=U2 hex hc hx hp j b hz (by rw[bu];exact hd);rw[bu]at this;exact this
   have ini:∀w,St n S0 g0 w0 L H nb a g w->RI n S0 g0 w0 ops rows L H nb (λ_=>false) a w:=λw hs=>⟨g,hs.weak (λt d ht=>by rw[KY]at ht;exact ht) (λk o hk=>by rw[KY]at hk;exact hk) λk hk=> .inl hk⟩;obtain⟨op,rp,ho,hrp,hzp⟩:=Sn hck b3;obtain⟨e,he1,he2,he3⟩:∃e,rp=some e/\_/\_:=by have :=rowAt p (op,rp) hzp b4;rw[ab rfl]at this;exact this
   subst he1;have dead:∀i,i<ops.length->dd.testBit i=true->(bif dr then((Xu ops []).getD i 0).testBit p else Nat.blt p i)=true:=λi hi hd=>by have :=ax.1 b2 i (el.2 hi);rw[hd]at this;simpa using this
   cases dr with
   |true=>
    refine JB hm hck.back (λd a w=>RI n S0 g0 w0 ops rows L H nb d a w/\d p=false) (λd d' a w hd hI=>⟨NR hck.len hd hI.1,by rw[<-hd p b3];exact hI.2⟩) ⟨ini _ V.drew,rfl⟩ (λd i a w hi hdi hcl hah hI=> ?_) λa w hI=>by have :=hI.2;cases this
    by_cases hip:i=p
    ·subst hip;exact X6 kL kH b5 (λk u hk=>V.nm k u (V.go.n k u hk)) hck hzp hdi hcl hah he2 he3 hend hI.1
    ·have hnd : dd.testBit i = false := by
      cases hd:dd.testBit i with
      |false=>rfl
      |true=>
       have h1:=OY ops ops [] (λj o hj=>by simpa using hj) (by simp) i p (dead i hi hd);have h2:=hah p h1;rw[hI.2]at h2;cases h2
     refine wpOp_mono (λa' w' hri=>⟨hri,?_⟩) (H5 hck (λb hb=>by have :=rowAt i b hb hnd;rwa [aj hip]at this) hi hdi hcl hah hI.1);show(bif Nat.beq p i then true else d p)=false;rw[BL (λe=>hip e.symm)];exact hI.2
   |false=>
    refine IV (λd a w=>RI n S0 g0 w0 ops rows L H nb d a w/\d p=false) ⟨ini _ V,rfl⟩ (λd d' a w hd hI=>⟨NR hck.len hd hI.1,by rw[<-hd p b3];exact hI.2⟩) (λi a w hi hI=> ?_) λa w hI=>by have :=hI.2;cases this
    have ahead_lt:∀i j,C7 ops i j->j<i:=λi j ha=>by
     induction ha with
     |edge h1 h2 h3=>exact hck.back _ _ h1 _ h2 h3
     |trans _ _ ih1 ih2=>omega
    have k1:Nat.blt i i=false:=by
     cases hb:Nat.blt i i with
     |false=>rfl
     |true=>rw[ay]at hb;omega
    have k2:∀i' j,C7 ops i' j->Nat.blt i' i=true->Nat.blt j i=true:=λi' j ha hi'=>by rw[ay]at hi'⊢;have :=ahead_lt _ _ ha;omega
    have k3:∀j,C7 ops i j->Nat.blt j i=true:=λj ha=>by rw[ay];exact ahead_lt _ _ ha
    have hpi:¬p<i:=λhlt=>by
     have :Nat.blt p i=true:=by rw[ay];exact hlt
     have h2:Nat.blt p i=false:=hI.2;rw[this]at h2;cases h2
    by_cases hip:i=p
    ·subst hip;exact X6 kL kH b5 (λk u hk=>V.nm k u (V.go.n k u hk)) (d:=λj=>Nat.blt j i) hck hzp k1 k2 k3 he2 he3 hend hI.1
    ·have hnd : dd.testBit i = false := by
      cases hd:dd.testBit i with
      |false=>rfl
      |true=>
       have h1:=dead i hi hd;simp only[cond_false,ay]at h1;exact absurd h1 hpi
     refine wpOp_mono (λa' w' hri=>⟨hri,?_⟩) (H5 (d:=λj=>Nat.blt j i) hck (λb hb=>by have :=rowAt i b hb hnd;rwa [aj hip]at this) hi k1 k2 k3 hI.1);show(bif Nat.beq p i then true else Nat.blt p i)=false;rw[BL (λe=>hip e.symm)];exact hI.2
end
end Go.Sx
namespace Go.Sx
open Go.Mi Go.RowKit
variable [Dfr]
section
variable {P:Program} {g:G} {w:World} {H:Hp}
def mW (T:List Value->World->(Value->World->Prop)->Prop) (c:Con):Prop:=
 ∀vs g w,HS (Ev c.H0) g w->(∀k v,g.N k=some v->k∈Ax c.H0)->CS g.X g.N w (Ag c.args) true vs->T vs w λv w'=>∃g',D7 c g w v g' w'
theorem Xg {T : List Value -> World -> (Value -> World -> Prop) -> Prop} (hmono : ∀ {vs : List Value} {w : World} {R R' : Value -> World -> Prop}, T vs w R -> (∀ v w', R v w' -> R' v w') -> T vs w R') {q : CR} (hq : CRok q) (hc : mW T q.c) (hH0 : Oh H q.r q.c.H0) (V : HS (Cj (q.eff.rd ++ Ax q.eff.wr) (A4 H)) g w) (hnew : ∀ p ∈ q.eff.nw, g.N p.1 = none) {vs : List Value} (hv : CS g.X g.N w (Ag (q.c.args.map (D.ren q.r))) true vs) :
  T vs w (λv w'=>∃g',Post (A4 H) q.eff g w v g' w'):=by
 have hr1:∀k∈Ax q.ρ,q.r k=rn q.ρ k:=λk hk=>by simp only[CR.r,SG,hk,if_true]
 have hr2:∀k∈Ax q.σ,q.r k=rn q.σ k:=λk hk=>by simp only[CR.r,SG,(hq.new k hk).2,if_false]
 have nd1:(Ax q.ρ).Nodup:=by have :=hq.nod;simp only[Ax,ce]at this;exact(h_.1 this).1
 have nd2:(Ax q.σ).Nodup:=by have :=hq.nod;simp only[Ax,ce]at this;exact(h_.1 this).2.1
 have hinj:∀i∈Ax q.ρ,∀j∈Ax q.ρ,q.r i=q.r j->i=j:=λi hi j hj e=>by have h1:=HN hq.inj (FC nd1 hi);have h2:=HN hq.inj (FC nd1 hj);rw[<-hr1 i hi,e,hr1 j hj,h2]at h1;exact(Option.some.inj h1).symm
 have hwk:∀k∈Ax q.ρ,q.r k∈Ax q.eff.wr:=λk hk=>by simp only[CR.eff,Ax,ix];exact cr.2 ⟨_,FC nd1 hk,(hr1 k hk).symm⟩
 have hkw:∀k∈Ax q.eff.wr,∃j∈Ax q.ρ,k=q.r j:=λk hk=>by simp only[CR.eff,Ax,ix]at hk;obtain⟨p,hp,rfl⟩:=cr.1 hk;have h1:p.1∈Ax q.ρ:=cr.2 ⟨p,hp,rfl⟩;exact⟨p.1,h1,by rw[hr1 _ h1,Py nd1 hp];rfl⟩
 have obj:∀k o,Ev q.c.H0 k=some o->A4 H (q.r k)=some (o.ren q.r)/\Cj (q.eff.rd++Ax q.eff.wr) (A4 H) (q.r k)=some (o.ren q.r):=λk o ho=>by have h1:=M3 hH0 ho;exact⟨h1,by simp only[Cj,A1.2 (cz q.eff.rd (hwk k (hq.h0 k o ho).1)),h1,cond_true]⟩
 have hsome:∀k∈Ax q.ρ,∃v,g.N (q.r k)=some v:=λk hk=>by
  have :=GP.1 (hq.dom k hk);obtain⟨o,ho⟩:=dq.1 this;have h1:=V.os _ _ (obj k o ho).2;cases o with
  |ob ty ds=>obtain⟨b,c,k1,_⟩:=h1;exact⟨_,k1⟩
  |sl ty e xs=>obtain⟨b,c,k1,_⟩:=h1;exact⟨_,k1⟩
 -- what the callee sees
 let gc:G:=⟨λk=>if k∈Ax q.ρ then g.N (q.r k)else none,λk=>g.F (q.r k),g.X⟩
 have gcN:∀k∈Ax q.ρ,gc.N k=g.N (q.r k):=λk hk=>ab hk;have hSc:HS (Ev q.c.H0) gc w:=by
  refine⟨V.wf,λk o ho=> ?_,λk o ho b hb=> ?_,λk o k' o' ho ho' hne b hb hb'=> ?_⟩
  ·obtain⟨h1,h2,h3⟩:=hq.h0 k o ho;exact(Kg h2 (λj hj=>gcN j (h3 j hj)) (gcN k h1) rfl rfl).1 (V.os _ _ (obj k o ho).2)
  ·exact V.own _ _ (obj k o ho).2 b hb
  ·exact V.dis _ _ _ _ (obj k o ho).2 (obj k' o' ho').2 (λe=>hne (hinj k (hq.h0 k o ho).1 k' (hq.h0 k' o' ho').1 e)) b hb hb'
 have hvc:CS gc.X gc.N w (Ag q.c.args) true vs:=by rw[NC]at hv;refine(GD _ _ _ (J8 λd hd=>(hq.args d hd).1) λk hk=> ?_).1 hv;obtain⟨d,hd,hk⟩:=Qu hk;exact gcN k ((hq.args d hd).2 k hk)
 refine hmono (hc vs gc w hSc (λk v hk=> ?_) hvc) λv w' ⟨g',hp⟩=> ?_
 ·by_cases h:k∈Ax q.ρ
  ·exact hq.dom k h
  ·rw[show gc.N k=none from aj h]at hk;cases hk
 -- behind it
 have hnone:∀k∈Ax q.σ,g.N (q.r k)=none:=λk hk=>by obtain⟨o,ho⟩:=dq.1 (GP.1 (hq.new k hk).1);refine hnew (q.r k,o.ren q.r) ?_;simp only[CR.eff,ge];exact⟨_,FC nd2 hk,by rw[ho,ew,hr2 k hk]⟩
 let G':G:=⟨λk=>match g.N k with
  |some v=>some v
  |none=>(m0 q.σ k).bind g'.N,λk=>match g.N k with
  |some _=>g.F k
  |none=>match m0 q.σ k with
   |some j=>g'.F j
   |none=>g.F k,g'.X⟩
 have GN:∀k∈Ax (q.ρ++q.σ),g'.N k=G'.N (q.r k):=λk hk=>by
  simp only[Ax,ce,bn]at hk;rcases hk with hk|hk
  ·obtain⟨v,hv⟩:=hsome k hk;have h1:gc.N k=some v:=(gcN k hk).trans hv;rw[hp.go.n k v h1];simp only[G',hv]
  ·simp only[G',hnone k hk];rw[hr2 k hk,HN hq.inj2 (FC nd2 hk)];rfl
 have GF:∀k∈Ax (q.ρ++q.σ),g'.F k=G'.F (q.r k):=λk hk=>by
  simp only[Ax,ce,bn]at hk;rcases hk with hk|hk
  ·obtain⟨v,hv⟩:=hsome k hk;have h1:gc.N k=some v:=(gcN k hk).trans hv;rw[hp.go.f k v h1];simp only[G',hv];rfl
  ·simp only[G',hnone k hk];rw[hr2 k hk,HN hq.inj2 (FC nd2 hk)]
 have hft:∀b,q.c.foot gc b->q.eff.foot (A4 H) g b:=λb ⟨k,o,h1,h2⟩=>⟨q.r k,hwk k (hq.h0 k o h1).1,_,(obj k o h1).1,h2⟩;have hft2:∀b,q.eff.foot (A4 H) g b->q.c.foot gc b:=λb ⟨k,h1,o,h2,h3⟩=>by obtain⟨j,hj,rfl⟩:=hkw k h1;obtain⟨o',ho'⟩:=dq.1 (GP.1 (hq.dom j hj));exact⟨j,o',ho',h3⟩
 have houts:∀k o,A4 q.eff.outs k=some o->∃j o',j∈Ax (q.ρ++q.σ)/\k=q.r j/\Ev q.c.H1 j=some o'/\o=o'.ren q.r:=by
  intro k o h;have h:=BS.1 h;rw[Eff.outs,Kx]at h;cases hw:Fe q.eff.wr k with
  |some x=>
   rw[hw]at h;cases h;have :∀(a:LO),(∀p∈a,p∈q.ρ)->Fe (a.map λp=>(p.2,(Ev q.c.H1 p.1).map (O.ren q.r))) k=some (some o)->∃p∈q.ρ,p.2=k/\(Ev q.c.H1 p.1).map (O.ren q.r)=some o:=by
    intro a
    induction a with
    |nil=>intro _ h;cases h
    |cons p a ih=>
     intro hm h;simp only[bg,Fe]at h;by_cases e:p.2=k
     ·have hb:Nat.beq p.2 k=true:=by rw[e];exact et k
      rw[hb]at h;simp only[cond_true,Option.some.injEq]at h;exact⟨p,hm p (bz ..),e,h⟩
     ·rw[BL e]at h;exact ih (λp hp=>hm p (a_ _ hp)) h
   obtain⟨p,hp1,hp2,hp3⟩:=this q.ρ (λ_ h=>h) hw;obtain⟨o',h1,h2⟩:=ak.1 hp3;have h3:p.1∈Ax q.ρ:=cr.2 ⟨p,hp1,rfl⟩;exact⟨p.1,o',by simp only[Ax,ce,bn];exact .inl h3,by rw[hr1 _ h3,Py nd1 hp1,hp2],h1,h2.symm⟩
  |none=>
   rw[hw]at h;have :∀(a:List (Nat×O)),Fe (a.map λp=>(p.1,some p.2)) k=some (some o)->(k,o)∈a:=by
    intro a
    induction a with
    |nil=>intro h;cases h
    |cons p a ih=>
     intro h;obtain⟨s,u⟩:=p;simp only[bg,Fe]at h;by_cases e:s=k
     ·subst e;simp at h;subst h;simp
     ·rw[BL e]at h;exact a_ _ (ih h)
   have hm:=this _ h;simp only[CR.eff,ge]at hm;obtain⟨p,hp1,hp2⟩:=hm;obtain⟨o',h1,h2⟩:=ak.1 hp2;cases h2;have h3:p.1∈Ax q.σ:=cr.2 ⟨p,hp1,rfl⟩;exact⟨p.1,o',by simp only[Ax,ce,bn];exact .inr h3,by rw[hr2 _ h3,Py nd2 hp1],h1,rfl⟩
 refine⟨G',⟨⟨⟨hp.go.ch.os,hp.go.ch.tape,hp.go.ch.output,hp.go.ch.size,λb hb hn=>hp.go.ch.blk b hb λh=>hn (hft b h)⟩,λx hx=>hp.go.s x (hft2 x hx),hp.go.x,λx hx hn=>hp.go.k x hx λh=>hn (hft x h),λk u hk=>by simp only[G',hk],λk u hk=>by simp only[G',hk]⟩,?_,⟨hp.hs.wf,λk o h=> ?_,λk o h b hb=> ?_,λk o k' o' h h' hne b hb hb'=> ?_⟩,λk o h b hb=> ?_,λk u hk=> ?_⟩⟩
 ·exact(GD q.c.res _ _ hq.res.1 λk hk=>GN k (hq.res.2 k hk)).2 hp.r
 ·obtain⟨j,o',h1,rfl,h2,rfl⟩:=houts k o h;obtain⟨h3,h4,h5⟩:=hq.h1 j o' h2;exact(Kg h4 (λi hi=>GN i (h5 i hi)) (GN j h3) (GF j h3) rfl).2 (hp.hs.os j o' h2)
 ·obtain⟨j,o',h1,rfl,h2,rfl⟩:=houts k o h;rw[<-GF j h1]at hb;exact hp.hs.own j o' h2 b hb
 ·obtain⟨j,o2,h1,rfl,h2,rfl⟩:=houts k o h;obtain⟨j',o2',h1',rfl,h2',rfl⟩:=houts k' o' h';rw[<-GF j h1]at hb;rw[<-GF j' h1']at hb';exact hp.hs.dis j o2 j' o2' h2 h2' (λe=>hne (by rw[e])) b hb hb'
 ·obtain⟨j,o',h1,rfl,h2,rfl⟩:=houts k o h;rw[<-GF j h1]at hb;exact(hp.fp j o' h2 b hb).imp (hft b) id
 ·simp only[G']at hk;cases hg:g.N k with
  |some v=>rw[hg]at hk;simp only at hk;exact .inl hk
  |none=>
   rw[hg]at hk;simp only at hk;obtain⟨j,hj,_⟩:=be.1 hk;have hm:=Ts hj;have h3:j∈Ax q.σ:=cr.2 ⟨_,hm,rfl⟩;obtain⟨o,ho⟩:=dq.1 (GP.1 (hq.new j h3).1);refine .inr (cr.2 ⟨(k,o.ren q.r),?_,rfl⟩);simp only[CR.eff,ge];exact⟨_,hm,by rw[ho];rfl⟩
def RetD (P:Program) (f:FuncId) (u u':FrameMode) (vs:List Value) (w:World) (R:Value->World->Prop):Prop:=CallsD P f vs.toArray u w λe x w'=>∃v,e= .returned v/\x=u'/\R v w'
theorem RetD.mono {f:FuncId} {u u':FrameMode} {vs:List Value} {w:World} {R R':Value->World->Prop} (h:RetD P f u u' vs w R) (hr:∀v w',R v w'->R' v w'):RetD P f u u' vs w R':=
 CallsD.mono h λ_ _ w' ⟨v,h1,h2,h3⟩=>⟨v,h1,h2,hr v w' h3⟩
def NL (P:Program) (f:FuncId) (u u':FrameMode) (c:Con):Prop:=Go.Mi.Callee P f/\mW (RetD P f u u') c
def pnd (v:Value):FrameMode:= .panicking [{v,recovered:=false}]
def rcd (v:Value):FrameMode:= .panicking [{v,recovered:=true}]
def rcv:FrameMode->Option (Value×FrameMode)
 | .returning=>some (.nilIface,.returning)
 | .panicking [⟨v,false,false⟩]=>some (v,rcd v)
 |_=>none
theorem vC {u u' : FrameMode} {x : Value} (h : rcv u = some (x, u')) {c₀ : Frame} {cs : List Frame} (hu : c₀.mode = u) :
  (recoverD (c₀::cs)=none/\x= .nilIface/\u'=u)\/recoverD (c₀::cs)=some (x,{c₀ with mode:=u'}::cs):=by
 unfold rcv at h;split at h
 ·cases h;exact .inl ⟨by simp [recoverD,hu],rfl,rfl⟩
 ·cases h;exact .inr (by simp [recoverD,hu,rcd])
 ·cases h
theorem OO (hD : Dfr.ds = ([] : List Deferred)) {f : FuncId} {fn : Func} {rest : Code} {c : Con} {n nb id t0 t1 : Nat} {u u' : FrameMode} {x : Value} {ty ty' : TypeId} {ps ps' : String} {af af' : Array Edge} (hf : P.funcs[f]? = some fn) (hname : (fn.name == "runtime.NumGoroutine") = false)
  (hb:fn.body=some (.seq (.region id #[⟨some t0,.call ⟨.builtin .recover,#[],#[]⟩,ty,ps,af,none⟩,⟨some t1,.assign (.tmp t0),ty',ps',af',none⟩] false) rest)) (hn:fn.ntmps=n) (hl:Nat.ble c.args.length t1=true) (ht:Nat.blt t1 t0=true) (ht2:Nat.blt t0 n=true) (hone:c.args.all D.one=true) (hk:(Ax c.H0).all (Nat.blt · nb)=true) (hr:rcv u=some (x,u'))
  (h:∀(g0:G) (w0:World) (a:Act) (g:G) (w:World),(∀k v,g0.N k=some v->k∈Ax c.H0)->St n (c.foot g0) g0 w0 ((t1,.v x)::LJ c.args 0) (Gs c.H0) nb a g w->rest.wp P (bodyPost P fn (QK λv w'=>∃g',D7 c g0 w0 v g' w')) a w):NL P f u u' c:=by
 refine⟨⟨fn,hf,hname,by rw[hb];rfl⟩,λvs g w V hN hv=> ?_⟩;have hlen:∀{ds:List D} {vs:List Value},(∀d∈ds,d.one=true)->CS g.X g.N w (Ag ds) true vs->vs.length=ds.length:=by
  intro ds
  induction ds with
  |nil=>intro vs _ h;have :vs=[]:=h;subst this;rfl
  |cons d ds ih=>
   rintro vs ho ⟨l1,l2,rfl,h1,h2⟩;obtain⟨v,rfl⟩:=G8 h1 (ho d (bz ..));simp [ih (λe he=>ho e (a_ _ he)) h2]
 have ho:=ax.1 hone;have hvl:=hlen ho hv;have hl:=bq hl;rw[ay]at ht ht2
 let a0:Act:={tmps:=vs.toArray++Array.replicate (fn.ntmps-vs.toArray.size) undef,defers:=[]}
 have hF0:Frm a0 n (vs.zipIdx.map λp=>(p.2,p.1)):=by subst hn;exact Frm.enter hD (by omega)
 -- the first two
 let a1:Act:=(a0.put (some t0) x).put (some t1) x
 have get1:∀t,a1.tmps.getD t undef=if t=t1 then x else if t=t0 then x else a0.tmps.getD t undef:=λt=>by
  have hs:=hF0.size;by_cases e1:t=t1
  ·subst e1;simp [a1,Act.put,hs,show t<n by omega]
  ·rw[aj e1];have :a1.tmps.getD t undef=(a0.put (some t0) x).tmps.getD t undef:=by simp [a1,Act.put,dl (λe=>e1 e.symm:t1≠t)]
   rw[this];by_cases e0:t=t0
   ·subst e0;simp [Act.put,hs,ht2]
   ·rw[aj e0];simp [Act.put,dl (λe=>e0 e.symm:t0≠t)]
 have hSt:St n (c.foot g) g w ((t1,.v x)::LJ c.args 0) (Gs c.H0) nb a1 g w:=by
  refine⟨by simp [a1,Act.put,hF0.size],by simp [a1,Act.put,a0,hD],λt d ht'=> ?_,?_,Go.refl _ _ _ λx ⟨k,o,h1,h2⟩=>V.own k o h1 x h2,V.wf,λk o hk b hb=> .inl ⟨k,o,by rw[<-F4];exact hk,hb⟩,λk v hkv=> ?_⟩
  ·simp only[D4]at ht';by_cases e:t1=t
   ·subst e;simp at ht';subst ht';show[_]=[x];rw[get1,ab rfl]
   ·rw[BL e]at ht';have key:∀(ds:List D) (us:List Value) (i:Nat),(∀d∈ds,d.one=true)->CS g.X g.N w (Ag ds) true us->(∀s v,lk ((us.zipIdx i).map λp=>(p.2,p.1)) s=some v->a0.tmps.getD s undef=v)->D4 (LJ ds i) t=some d->Sm g w d (a0.tmps.getD t undef)/\t<i+ds.length:=by
     intro ds
     induction ds with
     |nil=>intro us i _ _ _ ht;cases ht
     |cons e ds ih=>
      rintro us i ho ⟨l1,l2,rfl,h1,h2⟩ hg ht;obtain⟨v,rfl⟩:=G8 h1 (ho e (bz ..));simp only[LJ,D4]at ht;by_cases e':i=t
      ·subst e';simp at ht;subst ht;have :=hg i v (by simp [lk]);rw[this];exact⟨h1,by simp⟩
      ·rw[BL e']at ht;have hg':∀s v,lk ((l2.zipIdx (i+1)).map λp=>(p.2,p.1)) s=some v->a0.tmps.getD s undef=v:=by
        intro s v hs;refine hg s v ?_;simp only[List.singleton_append,fv,bg,lk];have hne:¬i=s:=λes=>by
         subst es;have :∀(us:List Value) (j:Nat),i<j->lk ((us.zipIdx j).map λp=>(p.2,p.1)) i=none:=by
          intro us
          induction us with
          |nil=>intro j _;rfl
          |cons u us ih2=>
           intro j hj;simp only[fv,bg,lk];rw[BL (show¬j=i by omega)];exact ih2 (j+1) (by omega)
         rw[this l2 (i+1) (by omega)]at hs;cases hs
        rw[BL hne];exact hs
       obtain⟨q1,q2⟩:=ih l2 (i+1) (λq hq=>ho q (a_ _ hq)) h2 hg' ht;exact⟨q1,by simp only[aw];omega⟩
    obtain⟨q1,q2⟩:=key c.args vs 0 ho hv hF0.get ht';rw[get1,aj (λe'=>e e'.symm),aj (by omega)];exact q1
  ·exact V.sub λk o hk=>by rw[<-F4];exact hk
  ·have :=ax.1 hk k (hN k v hkv);simpa[ay]using this
 have hrest:=h g w a1 g w hN hSt;refine callsD_of_wpS hf hb λc₀ cs hu=> ?_;refine wpS_seq (wpS_region ?_);have hfin:∀cs',cs'={c₀ with mode:=u'}::cs->rest.wpS P (bodyPostS P fn c₀ cs λe x w'=>∃v,e= .returned v/\x=u'/\∃g',D7 c g w v g' w') a1 cs' w:=λcs' hcs=>by
  subst hcs;intro b k hb' hro;obtain⟨e,a',w',hq,harr⟩:=hrest b k ({c₀ with mode:=u'}::cs);refine⟨e,a',{c₀ with mode:=u'}::cs,w',?_,harr⟩;cases e with
  |normal=>obtain⟨h1,v,h2,v2,h3,h4⟩:=hq;cases h3;exact⟨h1,u',rfl,v,h2,v,rfl,rfl,h4⟩
  |ret=>obtain⟨h1,v,h2,v2,h3,h4⟩:=hq;cases h3;exact⟨h1,u',rfl,v,h2,v,rfl,rfl,h4⟩
  |panic Ag=>obtain⟨h1,v2,h3,_⟩:=hq;cases h3
  |exit id=>exact hq.elim
  |goto l=>exact hq.elim
  |outgrown=>obtain⟨v2,h3,_⟩:=hq;cases h3
 have hg0':(a0.put (some t0) x).eval (.tmp t0)=x:=by show(a0.put (some t0) x).tmps.getD t0 undef=x;simp [Act.put,hF0.size,ht2]
 have hcm:({c₀ with mode:=u}:Frame)=c₀:=by subst hu;rfl
 have hx:=vC hr (cs:=cs) hu;have hstep:wpOpsS P #[⟨some t0,.call ⟨.builtin .recover,#[],#[]⟩,ty,ps,af,none⟩,⟨some t1,.assign (.tmp t0),ty',ps',af',none⟩] (Exit.thenS (rest.wpS P (bodyPostS P fn c₀ cs λe x w'=>∃v,e= .returned v/\x=u'/\∃g',D7 c g w v g' w')) (bodyPostS P fn c₀ cs λe x w'=>∃v,e= .returned v/\x=u'/\∃g',D7 c g w v g' w')) [0,1] a0 (c₀::cs) w:=by
  rcases hx with⟨h1,h2,h3⟩|h1
  ·subst h2;simp only[wpOpsS,Region.wanted,execOp,resolve,invoke,builtin,db,gb,List.getElem?_cons_succ,Sem.run_bind,Sem.run_pure,Result.andThen_ok,h1,hg0',Oper.upon,if_true,Array.map_empty];exact hfin _ (by rw[h3,hcm])
  ·simp only[wpOpsS,Region.wanted,execOp,resolve,invoke,builtin,db,gb,List.getElem?_cons_succ,Sem.run_bind,Sem.run_pure,Result.andThen_ok,h1,hg0',Oper.upon,if_true,Array.map_empty];exact hfin _ rfl
 exact hstep
end
end Go.Sx
namespace Go.Sx
open Go.Mi Go.RowKit
variable [Dfr]
structure bV (S1:Nat->Prop) (g1:G) (w1:World) (S0:Nat->Prop) (g0:G) (w0:World):Prop where
 s:∀y,S1 y->S0 y\/w0.heap.size<=y
 go:Go S0 g0 w0 g1 w1
 wf:Wf g0 w0
def GR (H:Hp) (g:G):Nat->Prop:=λb=>∃k o,A4 H k=some o/\b∈g.F k
section
variable {P:Program} {n:Nat} {L:DL} {H:Hp} {S0:Nat->Prop} {g0 g:G} {w0 w:World} {nb:Nat} {a:Act} {Q:Exit->Act->World->Prop}
theorem NZ {t:Nat}:∀(us:List Value) (j:Nat),t<j->lk ((us.zipIdx j).map λp=>(p.2,p.1)) t=none
 |[],_,_=>rfl
 |u::us,j,h=>by simp only[fv,bg,lk];rw[BL (show¬j=t by omega)];exact NZ us (j+1) (by omega)
theorem St.begin (hD : Dfr.ds = ([] : List Deferred)) {c : Con} {vs : List Value} (hl : Nat.ble c.args.length n = true) (hone : c.args.all D.one = true) (hk : (Ax c.H0).all (Nat.blt · nb) = true) (V : HS (Ev c.H0) g w) (hN : ∀ k v, g.N k = some v -> k ∈ Ax c.H0) (hv : CS g.X g.N w (Ag c.args) true vs) :
  St n (c.foot g) g w (LJ c.args 0) (Gs c.H0) nb {tmps:=vs.toArray++Array.replicate (n-vs.toArray.size) undef,defers:=[]} g w:=by
 have hlen:∀{ds:List D} {vs:List Value},(∀d∈ds,d.one=true)->CS g.X g.N w (Ag ds) true vs->vs.length=ds.length:=by
  intro ds
  induction ds with
  |nil=>intro vs _ h;have :vs=[]:=h;subst this;rfl
  |cons d ds ih=>
   rintro vs ho ⟨l1,l2,rfl,h1,h2⟩;obtain⟨v,rfl⟩:=G8 h1 (ho d (bz ..));simp [ih (λe he=>ho e (a_ _ he)) h2]
 have ho:=ax.1 hone;have hvl:=hlen ho hv;have hl:=bq hl;have hF:Frm {tmps:=vs.toArray++Array.replicate (n-vs.toArray.size) undef,defers:=[]} n (vs.zipIdx.map λp=>(p.2,p.1)):=Frm.enter hD (by omega);refine⟨hF.size,hF.defers,λt d ht=> ?_,V.sub λk o hk=>by rw[<-F4];exact hk,Go.refl _ _ _ λx ⟨k,o,h1,h2⟩=>V.own k o h1 x h2,V.wf,λk o hk b hb=> .inl ⟨k,o,by rw[<-F4];exact hk,hb⟩,λk v hkv=> ?_⟩
 ·have key : ∀ (ds : List D) (us : List Value) (i : Nat), (∀ d ∈ ds, d.one = true) -> CS g.X g.N w (Ag ds) true us -> (∀ s v, lk ((us.zipIdx i).map λp => (p.2, p.1)) s = some v -> Array.getD (vs.toArray ++ Array.replicate (n - vs.toArray.size) undef) s undef = v) -> D4 (LJ ds i) t = some d -> Sm g w d (Array.getD (vs.toArray ++ Array.replicate (n - vs.toArray.size) undef) t undef) := by
   intro ds
   induction ds with
   |nil=>intro us i _ _ _ ht;cases ht
   |cons e ds ih=>
    rintro us i ho ⟨l1,l2,rfl,h1,h2⟩ hg ht;obtain⟨v,rfl⟩:=G8 h1 (ho e (bz ..));simp only[LJ,D4]at ht;by_cases e':i=t
    ·subst e';simp at ht;subst ht;have :=hg i v (by simp [lk]);rw[this];exact h1
    ·rw[BL e']at ht;have hg':∀s v,lk ((l2.zipIdx (i+1)).map λp=>(p.2,p.1)) s=some v->Array.getD (vs.toArray++Array.replicate (n-vs.toArray.size) undef) s undef=v:=by
      intro s v hs;refine hg s v ?_;simp only[List.singleton_append,fv,bg,lk];have hne:¬i=s:=λes=>by subst es;rw[NZ l2 (i+1) (by omega)]at hs;cases hs
      rw[BL hne];exact hs
     exact ih l2 (i+1) (λq hq=>ho q (a_ _ hq)) h2 hg' ht
  exact key c.args vs 0 ho hv hF.get ht
 ·have :=ax.1 hk k (hN k v hkv);simpa[ay]using this
theorem Dh (hD : Dfr.ds = ([] : List Deferred)) {f : FuncId} {fn : Func} {code : Code} {c : Con} {nb : Nat} (hf : P.funcs[f]? = some fn) (hname : (fn.name == "runtime.NumGoroutine") = false) (hb : fn.body = some code) (hn : fn.ntmps = n) (hl : Nat.ble c.args.length n = true) (hone : c.args.all D.one = true) (hk : (Ax c.H0).all (Nat.blt · nb) = true)
  (h:∀(g0:G) (w0:World) (a:Act) (g:G) (w:World),(∀k v,g0.N k=some v->k∈Ax c.H0)->St n (c.foot g0) g0 w0 (LJ c.args 0) (Gs c.H0) nb a g w->code.wp P (bodyPostD P fn (QK λv w'=>∃g',D7 c g0 w0 v g' w')) a w):ConOk P f c:=by
 refine⟨⟨fn,hf,hname,by rw[hb];rfl⟩,λvs g w V hN hv=> ?_⟩;subst hn;exact calls_of_wp_defers hf hb (h g w _ g w hN (St.begin hD hl hone hk V hN hv))
theorem Fz (hD0 : Dfr.ds = ([] : List Deferred)) {id t : Nat} {f : FuncId} {caps : List Operand} {cs : List D} {ty ty' : TypeId} {ps ps' : String} {af af' : Array Edge} (V : St n S0 g0 w0 L H nb a g w) (hc : U7 L caps = some cs) (ht : (D4 L t).isNone = true) (ht2 : Nat.blt t n = true)
  (h:∀(D:Dfr) (vs:List Value) (a':Act),D.ds=[⟨.fn (.func f) vs.toArray,#[]⟩]->CS g.X g.N w (Ag cs) true vs->bV (GR H g) g w S0 g0 w0-> @SS D n (GR H g) g w (D4 L) (A4 H) (· <nb) a' g w->Q .normal a' w):
  (Code.region id #[⟨some t,.makeFunc (.func f) #[] caps.toArray,ty,ps,af,none⟩,⟨none,.defer ⟨.value (.tmp t),#[],#[]⟩,ty',ps',af',none⟩] false).wp P Q a w:=by
 obtain⟨vs,hvs,hsem,_⟩:=EJ V.fx.get hc;have hev:caps.toArray.map a.eval=vs.toArray:=by have :=V.fx.frm.evals hvs;rw[<-this,<-il]
 have ht':D4 L t=none:=fo.1 ht;rw[ay]at ht2
 let a1:Act:=a.put (some t) (.func (.func f) #[] vs.toArray)
 have g1:a1.tmps.getD t undef= .func (.func f) #[] vs.toArray:=by simp [a1,Act.put,V.size,ht2]
 let dd:Deferred:=⟨.fn (.func f) vs.toArray,#[]⟩
 let a2:Act:={a1 with defers:=dd::a1.defers}
 have hSS: @SS ⟨[dd]⟩ n (GR H g) g w (D4 L) (A4 H) (· <nb) a2 g w:=by
  refine @SS.mk ⟨[dd]⟩ _ _ _ _ _ _ _ _ _ _ (by simp [a2,a1,Act.put,V.size]) (by show dd::a.defers=[dd];rw[V.defers,hD0]) (λu d hu=> ?_) V.hs (Go.refl _ _ _ λx ⟨k,o,h1,h2⟩=>V.hs.own k o h1 x h2) V.hs.wf (λk o hk b hb=> .inl ⟨k,o,hk,hb⟩) V.nm;have hne:t≠u:=λe=>by subst e;rw[ht']at hu;cases hu
  have :a1.tmps.getD u undef=a.tmps.getD u undef:=by simp [a1,Act.put,dl hne]
  show Sm g w d (a1.tmps.getD u undef);rw[this];exact V.fr u d hu
 have fin:=h ⟨[dd]⟩ vs a2 rfl hsem ⟨λy ⟨k,o,h1,h2⟩=>V.fp k o h1 y h2,V.go,V.wf0⟩ hSS;refine wp_region ?_;have key:wpOps P #[⟨some t,.makeFunc (.func f) #[] caps.toArray,ty,ps,af,none⟩,⟨none,.defer ⟨.value (.tmp t),#[],#[]⟩,ty',ps',af',none⟩] Q [0,1] a w:=by simp only[wpOps,Region.wanted,db,gb,List.getElem?_cons_succ,if_true,Oper.wp,execOp,Instr.makeFunc,Array.map_empty,Sem.run_bind,Sem.run_pure,Result.andThen_ok,Oper.upon_value,hev];have e1:(a.put (some t) (.func (.func f) #[] vs.toArray)).eval (.tmp t)= .func (.func f) #[] vs.toArray:=g1;simp only[resolve,e1,Deferred.ofValue,Sem.run_bind,Sem.run_pure,Result.andThen_ok,Oper.upon_defer,Array.map_empty,Array.append_empty];exact .inl (.inl fin)
 exact key
theorem ZY {f:FuncId} {xs:Array Value} (hc:Go.Mi.Callee P f):(invoke (.fn (.func f) xs) #[]).run P w= .ok (.enter f xs) w:=by obtain⟨fn,h1,h2,h3⟩:=hc.ok;simp only[invoke,callFunc,run_program,h1,h2,h3,Sem.run_bind,Result.andThen_ok,Array.empty_append];simp only[iv,if_false,Sem.run_pure]
theorem tM {S1 : Nat -> Prop} {g1 : G} {w1 : World} {fn : Func} {c : Con} {ds : List D} (hB : bV S1 g1 w1 (c.foot g0) g0 w0) (V : St n S1 g1 w1 L H nb a g w) (h : J1 P L H fn.results.toList = some ds) (hr : weak (Wt ds) c.res = c.res) (h1 : EP H c.H1 true) :
  ∃v,(results fn a.tmps).run P w= .ok v w/\∃g',D7 c g0 w0 v g' w:=by
 obtain⟨v,h2,h3⟩:=eD V h;have h4:Sm g w c.res v:=hr▸Oj h3;have key:∀k o,Ev c.H1 k=some o->A4 H k=some o:=by
  have :∀(r:Hc),EP H r true->∀k o,Ev r k=some o->A4 H k=some o:=by
   intro r
   induction r with
   |nil=>intro _ k o h;cases h
   |cons p r ih=>
    obtain⟨s,u⟩:=p;intro hh k o h;simp only[Ev]at h;by_cases e:s=k
    ·subst e;simp at h;subst h;exact hh.1
    ·rw[BL e]at h;exact ih hh.2 k o h
  exact this c.H1 h1
 refine⟨v,h2,g,hB.go.trans V.go hB.wf hB.s,h4,V.hs.sub key,λk o hk b hb=> ?_⟩;rcases V.fp k o (key k o hk) b hb with h5|h5
 ·exact hB.s b h5
 ·exact .inr (b_ hB.go.ch.size h5)
theorem Dx {S1 : Nat -> Prop} {g1 : G} {w1 : World} {fn : Func} {c : Con} {ds : List D} {u u' : FrameMode} {cs : List D} {vs : List Value} (q : CR) (Ho : Hp) (hB : bV S1 g1 w1 (c.foot g0) g0 w0) (V : St n S1 g1 w1 L H nb a g w) (hcv : CS g1.X g1.N w1 (Ag cs) true vs)
  (hu:u≠ .run) (hset:settle u'= .returning) (hq:q.chk=true) (hqs:q.σ=[]) (hc:NL P q.f u u' q.c) (hcs:cs=q.c.args.map (D.ren q.r)) (hH0:Oh H q.r q.c.H0) (hHo:Ho=q.eff.outs++H)
  (h:J1 P L Ho fn.results.toList=some ds) (hr:weak (Wt ds) c.res=c.res) (h1:EP Ho c.H1 true):
  Leaves P fn a.tmps (QK λv w'=>∃g',D7 c g0 w0 v g' w') [⟨.fn (.func q.f) vs.toArray,#[]⟩] u w:=by
 have hq':=CRok.of hq;have hv:CS g.X g.N w (Ag (q.c.args.map (D.ren q.r))) true vs:=by rw[<-hcs];exact GY V.go.goes _ _ _ hcv
 have hnw:q.eff.nw=[]:=by simp only[CR.eff,hqs,List.filterMap_nil]
 have hHS:HS (Cj (q.eff.rd++Ax q.eff.wr) (A4 H)) g w:=V.hs.sub λk o hk=>by
  unfold Cj at hk;cases hm:CN k (q.eff.rd++Ax q.eff.wr)with
  |true=>rw[hm]at hk;exact hk
  |false=>rw[hm]at hk;cases hk
 have hcall:=Xg (T:=RetD P q.f u u') (λ{_ _ _ _} h hr=>RetD.mono h hr) hq' hc.2 hH0 hHS (λp hp=>by rw[hnw]at hp;cases hp) hv;refine leaves_cons hu (ZY hc.1) (CallsD.mono hcall ?_);rintro e x w' ⟨v,rfl,rfl,g',hp⟩;simp only;rw[hset];have hS':St n S1 g1 w1 L Ho nb a g' w':=by
  have :=SS.step (dst:=none) (L':=D4 L) (H':=A4 Ho) (nm':=(· <nb)) V (λt ht=>by cases ht) hp (λt d ht=> .inr ⟨by simp,ht⟩) (λk o hk=> ?_) (λk hk=>hk.elim id λhk=>by rw[hnw]at hk;cases hk)
  ·exact this
  ·subst hHo;have hk:=BS.1 hk;rw[Kx]at hk;cases hm:Fe q.eff.outs k with
   |some o'=>rw[hm]at hk;cases hk;exact .inl (BS.2 hm)
   |none=>rw[hm]at hk;exact .inr ⟨λhh=>HM.1 hh hm,BS.2 hk⟩
 obtain⟨r,k1,k2⟩:=tM hB hS' h hr h1;exact⟨r,k1,r,rfl,k2⟩
theorem Ly {fn:Func} {R:Ending->World->Prop} {ds:List Deferred} {S1:Nat->Prop} {e:Exit} (he:e= .normal\/e= .ret) (V:St n S1 g0 w0 L H nb a g w) (hD:Dfr.ds=ds) (h:Leaves P fn a.tmps R ds .returning w):bodyPostD P fn R e a w:=by
 subst hD;have h2:Leaves P fn a.tmps R a.defers .returning w:=by rw[V.defers];exact h
 rcases he with rfl|rfl<;>exact h2
theorem J0 {fn:Func} {R:Ending->World->Prop} {ds:List Deferred} {S1:Nat->Prop} {v:Value} (V:St n S1 g0 w0 L H nb a g w) (hD:Dfr.ds=ds) (h:Leaves P fn a.tmps R ds (pnd v) w):bodyPostD P fn R (.panic [{v,recovered:=false}]) a w:=by subst hD;show Leaves P fn a.tmps R a.defers _ w;rw[V.defers];exact h
theorem Hj {E : bU} (hm : E.P.follows .mixedOrders = true) (hZ : XA E.P E.Z) (C : List (Nat × Rx)) (hC : CsOk E.P C) (q : Option CR) (hq : ∀ r, q = some r -> En E.P r.f r.c) (p dd : Nat) (ps : List (Nat × Rx) -> List Prop) (d : D) (kL kH : List Nat) (Lo : DL) (Ho : Hp) {id : Nat} {dr : Bool} {ops : List Oper}
  (h:vQ n dr ops (WY E C) q p dd L H nb kL kH=some (ps C,d)) (hp:AllP (ps C)) (hLo:Lo=Bo L kL) (hHo:Ho=FJ H kH) (V:St n S0 g0 w0 L H nb a g w) (hend:∀a g w v,St n S0 g0 w0 Lo Ho nb a g w->Sm g w d v->Q (.panic [{v,recovered:=false}]) a w):(Code.region id ops.toArray dr).wp E.P Q a w:=by
 subst hLo;subst hHo;exact UP kL kH hm (HP hZ hC) hq p dd h hp V hend
theorem Sm.v_of {x v:Value} (h:Sm g w (.v x) v):v=x:=(List.cons.inj h).1
end
end Go.Sx
namespace Go.Sx
open Go.Mi Go.RowKit
variable [Dfr]
def isN:D->Bool
 | .nil=>true
 |_=>false
def Lq (ks:List Nat) (H:Hp):D->D->D
 | .cons a b,d=>(match d with
  | .cons c e=> .cons (Lq ks H a c) (Lq ks H b e)
  |d=>d)
 | .im p _,d=>(match d with
  | .cp k o=>bif CN k ks then(match A4 H k with
   |some (.ob _ dk)=>bif isN p then .im .nil o else .im (Lq ks H p dk) o
   |_=> .cp k o)else .cp k o
  | .im dd o=>bif isN p then .im .nil o else .im (Lq ks H p dd) o
  |d=>d)
 | .top,d=>bif d.isOne then .top else d
 | .ls a e ys,d=>(match d with
  | .sk k=>bif CN k ks then(match A4 H k with
   |some (.sl _ e' xs)=> .ls false e' xs
   |_=> .sk k)else .sk k
  |d=>weak d (.ls a e ys))
 |p,d=>weak d p
def iL (ks:List Nat) (H:Hp):List D->List D->List D
 |p::ps,d::ds=>Lq ks H p d::iL ks H ps ds
 |_,ds=>ds
def xB (q:CR) (ks:List Nat) (L:DL) (H:Hp) (op:Op):Option (Eff×List Prop):=match op with
 | .call c=>(match c.callee with
  | .value f=>(match WU L f c.args.toList with
   |some (f,ays)=>bif Nat.beq f q.f&&q.c.H0.isEmpty&&q.c.H1.isEmpty&&QT q.c.res&&q.c.res.nm.isEmpty&&(q.c.args.all (Fb []))&&ays.all D.one then some (⟨ks,[],[],q.c.res⟩,[iL ks H q.c.args ays=q.c.args])else none
   |none=>none)
  |_=>none)
 |_=>none
section
variable {P:Program} {n:Nat} {L:DL} {H:Hp} {ds:Option Nat} {ty:TypeId} {pos:String} {af:Array Edge} {gu:Option (Nat×Bool)} {g:G} {w:World}
theorem Uj {X:Nat->Prop} {N:Nat->Option Value} {w:World} {d e:D} {m:Bool} {l:List Value} (h:CS X N w d m l):CS X N w (weak d e) m l:=by
 unfold weak;split
 ·obtain⟨u,ls,h1,h2,h3⟩:=h;exact⟨u,ls,h1,h2.gen,h3⟩
 ·have :l=[vN]:=h;subst this;exact⟨_,[],rfl,Lsl.nil,aa⟩
 ·have :l=[vN]:=h;subst this;exact⟨_,rfl,rfl⟩
 ·split
  ·rename_i q hq;obtain⟨u,ls,h1,h2,h3⟩:=h;subst h1;exact⟨u,rfl,(Ld (X:=X) (N:=N) (w:=w) (m:=m) (a:= .os _) (d:= .ls true _ _) ⟨u,ls,rfl,h2,h3⟩ hq).1⟩
  ·exact h
 ·exact h
def gfX (g:G) (ks:List Nat):Nat->Prop:=λx=>g.X x/\∀k∈ks,x∉g.F k
theorem S_ {d:D} {N N':Nat->Option Value} (h:d.nm=[]):∀k∈d.nm,N' k=N k:=λk hk=>by rw[h]at hk;cases hk
theorem qD {ks:List Nat} (V:HS (Cj ks (A4 H)) g w):∀{p d:D} {m:Bool} {l:List Value},CS g.X g.N w d m l->(Lq ks H p d).plain=true->(Lq ks H p d).nm=[]->CS (gfX g ks) (λ_=>none) w (Lq ks H p d) m l:=by
 have same:∀{d:D} {m:Bool} {l:List Value},CS g.X g.N w d m l->d.plain=true->d.nm=[]->CS (gfX g ks) (λ_=>none) w d m l:=λh hp hn=>L8 hp (S_ hn) (λx hx=>hx.1) h;intro p
 induction p with
 |cons a b iha ihb=>
  intro d m l h hp hn;cases d with
  |cons c e=>
   obtain⟨l1,l2,rfl,h1,h2⟩:=h;simp only[Lq,D.plain,ap,D.nm,List.append_eq_nil_iff]at hp hn⊢;exact⟨l1,l2,rfl,iha h1 hp.1 hn.1,ihb h2 hp.2 hn.2⟩
  |_=>exact same h hp hn
 |im p o ih=>
  intro d m l h hp hn;cases d with
  |cp k o'=>
   obtain⟨b,h1,rfl⟩:=h;simp only[Lq]at hp hn⊢;cases hm:CN k ks with
   |false=>simp [hm,D.nm]at hn
   |true=>
    simp only[hm,cond_true]at hp hn⊢;split at hp
    ·rename_i ty dk hk;rw[hk]at hn;obtain⟨b',c,k1,k2,k3,k4,k5⟩:=V.os k _ (by simp only[Cj,hm,cond_true];exact hk);rw[h1]at k1;cases k1;have hb:¬gfX g ks b:=λhx=>hx.2 k (A1.1 hm) (by rw[k2];simp);have hlt:b<w.heap.size:=OS.lt (V.os k (.ob ty dk) (by simp only[Cj,hm,cond_true];exact hk)) b (by rw[k2];simp);cases hp2:isN p with
     |true=>exact⟨b,[],hb,hlt,rfl,λi u hu=>by simp at hu,by simp,rfl⟩
     |false=>
      rw[hp2]at hp hn;exact⟨b,c.toList,hb,hlt,rfl,At.of_blk k3,k5,ih k4 hp hn⟩
    ·rename_i hno;split at hn
     ·rename_i ty dk hk;exact absurd hk (hno ty dk)
     ·simp [D.nm]at hn
  |im dd o'=>
   obtain⟨b,l',h1,h2,rfl,h3,h4,h5⟩:=h;simp only[Lq]at hp hn⊢;cases hp2:isN p with
   |true=>exact⟨b,[],λhx=>h1 hx.1,h2,rfl,λi u hu=>by simp at hu,by simp,rfl⟩
   |false=>
    simp only[hp2,cond_false,D.plain,D.nm]at hp hn⊢;exact⟨b,l',λhx=>h1 hx.1,h2,rfl,h3,h4,ih h5 hp hn⟩
  |_=>exact same h hp hn
 |top=>
  intro d m l h hp hn;simp only[Lq]at hp hn⊢;cases ho:d.isOne with
  |true=>simp only[cond_true];obtain⟨v,h1,_⟩:=Nf h ho;exact⟨v,h1⟩
  |false=>simp only[ho,cond_false]at hp hn⊢;exact same h hp hn
 |ls a e ys=>
  intro d m l h hp hn;cases d with
  |sk k=>
   obtain⟨v,h1,rfl,h2⟩:=h;simp only[Lq]at hp hn⊢;cases hm:CN k ks with
   |false=>simp [hm,D.nm]at hn
   |true=>
    simp only[hm,cond_true]at hp hn⊢;split at hp
    ·rename_i te e' xs hk;obtain⟨v',ls,k1,k2,k3,k4,k5,k6⟩:=V.os k _ (by simp only[Cj,hm,cond_true];exact hk);rw[h1]at k1;cases k1;have hp':e'.all Fk.flat=true:=hp;refine⟨v,ls,rfl,⟨k4,by rw[Dj k5.row,k5.len],?_⟩,k5.mono λx l hr=>(Ha e' x l hp').1 (FY (S:=λ_=>False) (w':=w) ⟨Chp.refl _ _,λ_ h=>h.elim,λx h=> .inl h.1,λ_ _ h=>h⟩ e' x l hr)⟩;rcases k3.2 with⟨rfl,h0⟩|⟨b,cap,cur,rfl,_,hb,hc,hc2,_,_⟩
     ·exact .inl ⟨h0,.inl ⟨rfl,rfl⟩⟩
     ·have hbF:b∈g.F k:=by rw[k2];simp [C8]
      refine .inr ⟨b,0,cap,rfl,hc,hc2,λhx=>hx.2 k (A1.1 hm) hbF,(k3.lt b (by simp [C8])).2,?_⟩;rcases k3.at with⟨h1',_⟩|⟨b',cap',h1',_,h2'⟩
      ·cases h1'
      ·cases h1';exact h2'
    ·rename_i hno;split at hn
     ·rename_i te e' xs hk;exact absurd hk (hno te e' xs)
     ·simp [D.nm]at hn
  |_=>exact same (Uj (e:= .ls a e ys) h) hp hn
 |_=>intro d m l h hp hn;exact same (Uj h) hp hn
theorem Qt {ks:List Nat}:∀{ays:List D} {vs:List Value},CS g.X g.N w (Ag ays) true vs->(∀d∈ays,Fb [] d=true)->CS (gfX g ks) (λ_=>none) w (Ag ays) true vs
 |[],vs,h,_=>h
 |d::ays,vs,⟨l1,l2,e,h1,h2⟩,hn=>by
  have h3:=hn d (bz ..);simp only[Fb,ap,ax]at h3;have h4:d.nm=[]:=List.eq_nil_iff_forall_not_mem.2 λk hk=>by have :=h3.2 k hk;cases this
  exact⟨l1,l2,e,L8 h3.1 (S_ h4) (λx hx=>hx.1) h1,Qt h2 λe he=>hn e (a_ _ he)⟩
theorem YK {ks:List Nat} (V:HS (Cj ks (A4 H)) g w):∀{ps ays:List D} {vs:List Value},CS g.X g.N w (Ag ays) true vs->(∀d∈iL ks H ps ays,Fb [] d=true)->CS (gfX g ks) (λ_=>none) w (Ag (iL ks H ps ays)) true vs
 |[],ays,vs,h,hn=>by
  have e:iL ks H [] ays=ays:=by cases ays<;>rfl
  rw[e]at hn⊢;exact Qt h hn
 |p::ps,[],vs,h,hn=>h
 |p::ps,d::ays,vs,⟨l1,l2,e,h1,h2⟩,hn=>by
  have h3:=hn (Lq ks H p d) (bz ..);simp only[Fb,ap,ax]at h3;have h4:(Lq ks H p d).nm=[]:=List.eq_nil_iff_forall_not_mem.2 λk hk=>by have :=h3.2 k hk;cases this
  exact⟨l1,l2,e,qD V h1 h3.1 h4,YK V h2 λe he=>hn e (a_ _ he)⟩
theorem qJ {q:CR} {ks:List Nat} {op:Op} {e:Eff} {ps:List Prop} (hc:ConOk P q.f q.c) (h:xB q ks L H op=some (e,ps)) (hp:AllP ps):EOk P n ⟨ds,op,ty,pos,af,gu⟩ L (A4 H) e:=by
 unfold xB at h;split at h
 ·rename_i c;obtain⟨cl,xs,ts⟩:=c;simp only at h;split at h
  ·rename_i f;split at h
   ·rename_i f' ays hfn;cases hb:Nat.beq f' q.f&&q.c.H0.isEmpty&&q.c.H1.isEmpty&&QT q.c.res&&q.c.res.nm.isEmpty&&(q.c.args.all (Fb []))&&ays.all D.one with
    |false=>rw[hb]at h;cases h
    |true=>
     rw[hb]at h;simp only[ap,ax,List.isEmpty_iff]at hb;obtain⟨⟨⟨⟨⟨⟨b1,b2⟩,b3⟩,b4⟩,b5⟩,b6⟩,b7⟩:=hb;have b1:=aq b1;subst b1;cases h;have hp:=hp.1;intro ξ g w V hH hn;have V:HS (Cj ks (A4 H)) g w:=by simpa[Ax]using V
     have fin:∀{vs:List Value},CS g.X g.N w (Ag ays) true vs->Calls P q.f vs.toArray w (QK λv w'=>∃g',Post (A4 H) ⟨ks,[],[],q.c.res⟩ g w v g' w'):=λ{vs} hv=>by
      have h1:=YK (ps:=q.c.args) V hv (by rw[hp];exact b6);rw[hp]at h1
      let gf:G:=⟨λ_=>none,g.F,gfX g ks⟩
      have hnone:∀k o,Ev q.c.H0 k≠some o:=λk o=>by rw[b2];simp [Ev]
      refine(hc.2 vs gf w ⟨λx hx=>V.wf x hx.1,λk o hk=>(hnone k o hk).elim,λk o hk=>(hnone k o hk).elim,λk o k' o' hk=>(hnone k o hk).elim⟩ (λk v hk=>by cases hk) h1).mono ?_;rintro en w' ⟨v,rfl,g',hpo⟩;have hf:∀x,¬q.c.foot gf x:=λx ⟨k,o,hk,_⟩=>hnone k o hk;have hno:∀j u,A4 (Eff.outs ⟨ks,[],[],q.c.res⟩) j≠some u:=λj u h=>by simp [Eff.outs,A4,Fe]at h
      have hft:∀x,¬Eff.foot ⟨ks,[],[],q.c.res⟩ (A4 H) g x:=λx ⟨k,hk,_⟩=>by simp [Ax]at hk
      refine⟨v,rfl,g,⟨⟨hpo.go.ch.os,hpo.go.ch.tape,hpo.go.ch.output,hpo.go.ch.size,λb hb _=>hpo.go.ch.blk b hb (hf b)⟩,λx hx=>(hft x hx).elim,λx hx=> .inl hx,λx hx _=>hx,λ_ _ h=>h,λ_ _ _=>rfl⟩,S9 b4 (S_ b5) hpo.r,⟨λx hx=>ca (V.wf x hx) hpo.go.ch.size,λj u h=>(hno j u h).elim,λj u h=>(hno j u h).elim,λj u _ _ h=>(hno j u h).elim⟩,λj u h=>(hno j u h).elim,λk v h=> .inl h⟩
     unfold WU at hfn;split at hfn
     ·rename_i f0 first captured as' hx has;cases he:first.isEmpty&&captured.isEmpty with
      |false=>rw[he]at hfn;cases hfn
      |true=>
       rw[he]at hfn;simp only[cond_true,Option.some.injEq,Prod.mk.injEq]at hfn;obtain⟨rfl,rfl⟩:=hfn;rw[ap,fk,fk]at he;obtain⟨rfl,rfl⟩:=he;obtain⟨vs,k1,k2,_⟩:=EJ hH has;refine Ms (first := #[]) (captured:= #[]) (B2 hH hx) hc.1 k1 ?_;simpa using fin k2
     ·rename_i f0 a b as' hx has;split at hfn
      ·rename_i a' b' ha hb';simp only[Option.some.injEq,Prod.mk.injEq]at hfn;obtain⟨rfl,rfl⟩:=hfn;obtain⟨v,hv,va,vb,h1,h2,h3⟩:=Bh hH hx;cases(List.cons.inj h3).1;obtain⟨vs,k1,k2,_⟩:=EJ hH has;refine Ms hv hc.1 k1 ?_;have :=fin (EF (EF (HX ha h1) k2) (HX hb' h2));simpa using this
      ·cases hfn
     ·cases hfn
   ·cases h
  ·cases h
 ·cases h
end
end Go.Sx
namespace Go.Sx
open Go.Mi Go.RowKit
variable [Dfr]
theorem AX {P:Program} {c:Code} {Q:Exit->Act->World->Prop} {n:Nat} {a:Act} {w:World} (h:c.wp P (Exit.then (Code.rounds P c Q n) Q) a w):Code.rounds P c Q (n+1) a w:=h
end Go.Sx
