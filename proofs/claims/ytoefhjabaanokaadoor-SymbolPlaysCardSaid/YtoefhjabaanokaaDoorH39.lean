/- The reference's comparing of terms: what it says of terms that may be. General lemmas. -/
import Derived.Test.YtoefhjabaanokaaDoorH38
set_option linter.unusedSimpArgs false
set_option linter.unusedVariables false
set_option linter.unnecessarySimpa false
namespace Go.Mi.Term
open Go.Mi Go.Proofs Go.RowKit
section
set_option maxRecDepth 100000
variable {ops:List Oper} {n:Nat} {B:Nat->BX XX} {i p b k o base:Nat} {L:TL TT} {ph:List Nat} {ρ:RX} {ns:List (Nat×Sp TT)} {ds:Option Tmp} {ty:TypeId} {pos:String} {af:Array Edge} {gu:Option (Nat×Bool)} {t:TypeId} {x y z:Operand} {kk nn:Int} {ks:List Tm}
theorem lI {w:World} {X:List Nat} {c:Array Value} (h:TmIs w X (.mk kk nn ks) (.agg c)):∃sl xs,c= #[vI kk,vI nn,sl]/\SlA w X sl ks.length xs/\IsTs w X ks xs:=by obtain⟨a1,a2,sl,e,h2⟩:=h;simp only[IsT]at h2;obtain⟨sl',xs,e2,h3,h4⟩:=h2;simp only[List.cons.injEq,Value.int.injEq,true_and,and_true]at e2;obtain⟨rfl,rfl,rfl⟩:=e2;cases e;exact⟨_,xs,rfl,h3,h4⟩
theorem gR (hB0:B p=stB ρ ns) (hop:ops.getD i default=⟨ds,.load 3 x,t,pos,af,gu⟩) (hx:spO L x=some (nwO k 0)) (hk:ns[k]? =some (26,tmS (.mk kk nn ks))):EOb Tryd.prog n ops XX B ⟨i,L,eI kk,ph,false⟩ p:=bN λξ g w hB hH=>by rw[hB0]at hB;have hB:StB ρ ns g w:=hB;rw[hop];obtain⟨vx,h1,b',h2,rfl⟩:=bH hx hH;obtain⟨b,c,h5,_,h7,h8⟩:=hB.cell k _ hk (show(26:Nat)≠0 by decide);rw[h5]at h2;cases h2;obtain⟨sl,xs,rfl,_⟩:=lI h8;exact⟨_,rfl,bJ Tryd.underlying3 rfl h1 (by rw[cG h7];rfl)⟩
theorem p9 (hB0:B p=stB ρ ns) (hop:ops.getD i default=⟨ds,.load 3 x,t,pos,af,gu⟩) (hx:spO L x=some (nwO k 1)) (hk:ns[k]? =some (26,tmS (.mk kk nn ks))):EOb Tryd.prog n ops XX B ⟨i,L,eI nn,ph,false⟩ p:=bN λξ g w hB hH=>by rw[hB0]at hB;have hB:StB ρ ns g w:=hB;rw[hop];obtain⟨vx,h1,b',h2,rfl⟩:=bH hx hH;obtain⟨b,c,h5,_,h7,h8⟩:=hB.cell k _ hk (show(26:Nat)≠0 by decide);rw[h5]at h2;cases h2;obtain⟨sl,xs,rfl,_⟩:=lI h8;exact⟨_,rfl,bJ Tryd.underlying3 rfl h1 (by rw[cG h7];rfl)⟩
theorem eh (hB0:B p=stB ρ ns) (hop:ops.getD i default=⟨ds,.load 24 x,t,pos,af,gu⟩) (hx:spO L x=some (nwO k 2)) (hk:ns[k]? =some (26,tmS (.mk kk nn ks))):EOb Tryd.prog n ops XX B ⟨i,L,tkS ks,ph,false⟩ p:=bN λξ g w hB hH=>by rw[hB0]at hB;have hB:StB ρ ns g w:=hB;rw[hop];obtain⟨vx,h1,b',h2,rfl⟩:=bH hx hH;obtain⟨b,c,h5,_,h7,h8⟩:=hB.cell k _ hk (show(26:Nat)≠0 by decide);rw[h5]at h2;cases h2;obtain⟨sl,xs,rfl,h9,h10⟩:=lI h8;exact⟨sl,⟨xs,h9,h10⟩,bJ u24 rfl h1 (by rw[cG h7];rfl)⟩
end
def eY (a b:Tm):Bool:=decide (txt a=txt b)
def fJ (l m:List Tm) (i:Nat):Bool:=decide ((l.take i).map txt=(m.take i).map txt)
theorem qC {l m:List Tm} {i:Nat} {a b:Tm} (ha:l[i]? =some a) (hb:m[i]? =some b) (h:fJ l m i=true):eY a b=fJ l m (i+1):=by have h:=zB h;unfold eY fJ;rw[dC ha,dC hb,AY,AY,h];simp
theorem sS {l m:List Tm} {i:Nat} (h:fJ l m i=false) (hl:i<=l.length) (he:l.length=m.length):fJ l m l.length=false:=by have h:=of_decide_eq_false h;refine decide_eq_false λh2=>h ?_;have :=zu (List.take i) h2;rw[<-List.map_take,<-List.map_take,List.take_take,List.take_take,Nat.min_eq_left hl]at this;exact this
def kx (l:List Tm) (t:Tm):Bool:=l.any λx=>eY x t
theorem qT (c:Bool) (k:Int):c=true\/(c=false/\k=3)\/(c=false/\¬k=3):=by cases c<;>simp<;>omega
theorem kw:∀x y:Tx,(eb x y=true/\eb y x=false)\/(eb y x=true/\eb x y=false)\/x=y
 |[],[]=> .inr (.inr rfl)
 |[],_::_=> .inl ⟨rfl,rfl⟩
 |_::_,[]=> .inr (.inl ⟨rfl,rfl⟩)
 |a::x,b::y=>by
  simp only[eb,z8,AJ,zD,Ay,zU,decide_eq_false_iff_not,beq_iff_eq,beq_eq_false_iff_ne,List.cons.injEq];have e1:a<b↔a.toNat<b.toNat:=Iff.rfl;have e2:b<a↔b.toNat<a.toNat:=Iff.rfl;have e3:a=b↔a.toNat=b.toNat:=⟨λh=>by rw[h],UInt8.toNat_inj.1⟩;have e4:b=a↔b.toNat=a.toNat:=⟨λh=>by rw[h],UInt8.toNat_inj.1⟩;rw[e1,e2];simp only[ne_eq,e3,e4];rcases Ax a.toNat b.toNat with h|h|h
  ·exact .inl ⟨.inl h,by omega,.inl (by omega)⟩
  ·rcases kw x y with⟨h1,h2⟩|⟨h1,h2⟩|h1
   ·exact .inl ⟨.inr ⟨h,h1⟩,by omega,.inr h2⟩
   ·exact .inr (.inl ⟨.inr ⟨h.symm,h1⟩,by omega,.inr h2⟩)
   ·exact .inr (.inr ⟨h,h1⟩)
  ·exact .inr (.inl ⟨.inl h,by omega,.inl (by omega)⟩)
theorem nZ (x y:Tx):fY 3 [x,y]=fY 3 [y,x]:=by
 simp only[fY,if_true];rcases kw x y with⟨h1,h2⟩|⟨h1,h2⟩|rfl
 ·rw[h1,h2];rfl
 ·rw[h1,h2];rfl
 ·rfl
theorem qM {n n':Int} {a b c d:Tm} (h1:txt a=txt d) (h2:txt b=txt c):txt (.mk 3 n [a,b])=txt (.mk 3 n' [c,d]):=by rw[fq (by decide),fq (by decide),<-lT,<-lT];simp only[Ad,A_,h1,h2];rw[nZ]
section
variable {k n n':Int} {ks ks':List Tm}
theorem tw {a b:Tm} (ha:Ok a) (hb:Ok b) (h:¬a.kind=b.kind):eY a b=false:=decide_eq_false λe=>h (eC ha hb e).1
theorem vq (ha:Ok (.mk k n ks)) (hb:Ok (.mk k n' ks')) (h:¬ks.length=ks'.length):eY (.mk k n ks) (.mk k n' ks')=false:=decide_eq_false λe=>h (by
 by_cases hk:k=1
 ·subst hk;rw[ha.atom,hb.atom]
 ·have :=zu List.length ((eC ha hb e).2.2 hk);simpa[Tm.kind,Tm.kids,lU]using this)
theorem tu (ha:Ok (.mk 1 n ks)) (hb:Ok (.mk 1 n' ks')) (h:¬n=n'):eY (.mk 1 n ks) (.mk 1 n' ks')=false:=decide_eq_false λe=>h ((eC ha hb e).2.1 rfl)
theorem vo (hn:k=1->n=n') (hl:ks.length=ks'.length) (h:fJ ks ks' ks.length=true):eY (.mk k n ks) (.mk k n' ks')=true:=by
 have h:=zB h;rw[Ae,hl,Ae]at h;refine decide_eq_true ?_;by_cases hk:k=1
 ·subst hk;rw[eQ,eQ,hn rfl]
 ·exact iN hk h
theorem xx (ha:Ok (.mk k n ks)) (hb:Ok (.mk k n' ks')) (hl:ks.length=ks'.length) (h:fJ ks ks' ks.length=false) (h3:¬k=3):eY (.mk k n ks) (.mk k n' ks')=false:=by
 have h:=of_decide_eq_false h;rw[Ae,hl,Ae]at h;refine decide_eq_false λe=>h ?_;by_cases hk:k=1
 ·subst hk;rw[ha.atom,hb.atom]
 ·have :=(eC ha hb e).2.2 hk;simpa[Tm.kind,Tm.kids,ei h3]using this
theorem xz {a b c d:Tm} (ha:Ok (.mk 3 n [a,b])) (hb:Ok (.mk 3 n' [c,d])) (h:fJ [a,b] [c,d] 2=false):eY (.mk 3 n [a,b]) (.mk 3 n' [c,d])=(eY a d&&eY b c):=by
 have h:=of_decide_eq_false h;unfold eY;rw[Bool.eq_iff_iff,zD];simp only[zU];constructor
 ·intro e;rcases xO ((eC ha hb e).2.2 (by simp [Tm.kind]))with h1|h1
  ·exact absurd (by simp [h1.1,h1.2]) h
  ·exact h1
 ·exact λ⟨h1,h2⟩=>qM h1 h2
end
end Go.Mi.Term
