/- Acts that a statement hands over, as they lie on the heap. General lemmas. -/
import Derived.Test.YtoefhjabaanokaaDoorF1
import Derived.Test.YtoefhjabaanokaaDoorH35
import Derived.ChangeArms
set_option linter.unusedSimpArgs false
set_option linter.unusedVariables false
set_option linter.unnecessarySimpa false
namespace Go.Mi.Term
open Go.Mi Go.Proofs Go.RowKit
section
variable {H:Type} {enc:TypeId×Value->H} {w:World} {base:Nat} {held:Bool}
theorem uG {a:Addr} {cs:List Value} (h:w.cells? base a 3=some cs):cs.length=3/\∀j,j<3->w.cell? (a.add j)=cs[j]? :=by
 unfold World.cells? at h;split at h
 ·refine⟨by simpa using mapM_some_length h,λj hj=>mapM_some_get h j j (by simp [hj])⟩
 ·cases h
theorem sW {x : Addr} : ∀ (n i0 : Nat), (∀ i, i < n -> ∃ a : Ac, ∀ j, j < 3 -> w.cell? ((x.add ((i0 + i) * 3)).add j) = (acv a)[j]?) ->
  ∃l:List Ac,l.length=n/\∀j,j<n*3->w.cell? (x.add (i0*3+j))=(acL l)[j]?
 |0,i0,_=>⟨[],rfl,by simp⟩
 |n+1,i0,h=>by
  obtain⟨a,h3⟩:=h 0 (by omega);obtain⟨l,k1,k4⟩:=sW n (i0+1) λi hi=>by have :=h (i+1) (by omega);rw[show i0+(i+1)=i0+1+i by omega]at this;exact this
  refine⟨a::l,by simp [k1],λj hj=> ?_⟩;have e:acL (a::l)=acv a++acL l:=rfl;have h2:(acv a).length=3:=rfl;rw[e];rcases zF j 3 with hj3|hj3
  ·rw[zL (by omega),<-h3 j hj3,Go.Deep.add_add];rw[show(i0+0)*3+j=i0*3+j by omega]
  ·rw[zM (by omega),h2,<-k4 (j-3) (by omega)];rw[show(i0+1)*3+(j-3)=i0*3+j by omega]
theorem pR:∀l:List Ac,(acL l).length=l.length*3
 |[]=>rfl
 |b::l=>by show(acv b++acL l).length=_;rw[zP,pR l];show 3+_=_;simp only[zZ];omega
theorem yA {α:Type} {l:List α} (h:l.length=3):∃a b c,l=[a,b,c]:=by
 match l,h with
 |[a,b,c],_=>exact⟨a,b,c,rfl⟩
theorem tZ {fuel:Nat} {cs:List Value} {x:DataW H×List MemPlace} (h:DataW.trod enc Tryd.prog w base (λ_=>true) held fuel 52 cs=some x):∃a:Ac,cs=acv a:=by
 obtain⟨xs,n,rfl,_,hl,hxl,hf⟩:=DataW.trod_struct u52 h;have hc:Tryd.prog.cellsOf 52=3:=by kernel_rfl
 have hc3:Tryd.prog.cellsOf 3=1:=by kernel_rfl
 have hc4:Tryd.prog.cellsOf 4=1:=by kernel_rfl
 rw[hc]at hl;obtain⟨a,b,c,rfl⟩:=yA hl;have f0:DataW.trod enc Tryd.prog w base (λ_=>true) held n 3 (([a,b,c].drop 0).take (Tryd.prog.cellsOf 3))=xs[0]? :=hf 0 _ rfl;have f1:DataW.trod enc Tryd.prog w base (λ_=>true) held n 3 (([a,b,c].drop 1).take (Tryd.prog.cellsOf 3))=xs[1]? :=hf 1 _ rfl;have f2:DataW.trod enc Tryd.prog w base (λ_=>true) held n 4 (([a,b,c].drop 2).take (Tryd.prog.cellsOf 4))=xs[2]? :=hf 2 _ rfl;have hxl:xs.length=3:=hxl;rw[zp (by omega)]at f0 f1 f2;simp only[hc3,hc4,List.drop_zero,List.drop_succ_cons,AV,List.take_zero]at f0 f1 f2;obtain⟨k,hk,_,_⟩:=DataW.trod_int Tryd.underlying3 f0;obtain⟨u,hu,_,_⟩:=DataW.trod_int Tryd.underlying3 f1;obtain⟨q,hq,_⟩:=DataW.trod_bool u4 f2;cases hk;cases hu;cases hq;exact⟨⟨k,u,q⟩,rfl⟩
theorem ql {v:Value} {d:DataW H} {ps:List MemPlace} (h:DataW.Trod enc Tryd.prog w base (λ_=>true) held 51 v d ps) (hv:v.cells= #[v]):∃l:List Ac,(acS l).hold ⟨[],[],[0],[]⟩ w v:=by
 obtain⟨fuel,h⟩:=h;rw[hv]at h;rcases DataW.trod_slice u51 h with⟨h1,_⟩|⟨a,len,cap,elems,rest,n,h0,h1,hx,hb,hl,hm,hel,hall,_,_⟩
 ·obtain rfl:v= .slice none 0 0:=by simpa using h1
  exact⟨[],.inl ⟨_,_,rfl,rfl⟩⟩
 ·cases h0;have hc:Tryd.prog.cellsOf 52=3:=by kernel_rfl
  rw[hc]at hall;have b:∀i,i<len->∃q:Ac,∀j,j<3->w.cell? ((a.add ((0+i)*3)).add j)=(acv q)[j]? :=by intro i hi;have h2:=hall i hi;have h3:elems[i]? =some (elems[i]'(by omega)):=zp (by omega);rw[h3,As]at h2;obtain⟨cs,h4,h5⟩:=h2;obtain⟨q,rfl⟩:=tZ h5;obtain⟨k1,k2⟩:=uG h4;refine⟨q,λj hj=> ?_⟩;rw[Aj];exact k2 j hj
  obtain⟨l,k1,k4⟩:=sW (x:=a) len 0 b;subst k1;obtain rfl:v= .slice (some a) l.length cap:=by simpa using h1
  refine⟨l,?_⟩;rcases Al l.length with h0|h0
  ·exact .inl ⟨some a,cap,by rw[h0],zR h0⟩
  ·have hlen:=pR l;have e0:=k4 0 (by omega);have e:(acL l)[0]? =some ((acL l)[0]'(by omega)):=zp (by omega);rw[e,show a.add (0*3+0)=a by simp [Addr.add]]at e0;have hp:=ol e0;have c:=World.block_lt_of_cell? w _ e0;refine .inr ⟨a.block,a.off,cap,by rw[<-hp],by simp,c,λj u hu=> ?_⟩;have hj:j<l.length*3:=by
    rcases zF j (acL l).length with h'|h'
    ·omega
    ·simp [zz h']at hu
   have :=k4 j hj;rw[hp,dz,Nat.zero_mul,Aj,hu]at this;exact this
end
end Go.Mi.Term
