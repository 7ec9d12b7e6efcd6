/- What Knows and Text return, of any terms. -/
import Derived.Test.YtoefhjabaanokaaDoorW17
import Derived.Test.YtoefhjabaanokaaDoorB3
set_option linter.unusedSimpArgs false
set_option linter.unusedVariables false
set_option linter.unnecessarySimpa false
namespace Go.Mi.Term
open Go.Mi Go.Proofs Go.RowKit
mutual
def cF:Tm->Nat
 | .mk _ _ ks=>1+co ks
def co:List Tm->Nat
 |[]=>0
 |t::ts=>cF t+co ts
end
mutual
theorem lw:(t:Tm)->(n:Nat)->cnt t n<=5000->cnt t n=n+cF t
 | .mk _ _ ks,n,h=>by simp only[cnt]at h⊢;rw[kF ks (n+1) h];simp only[cF];omega
theorem kF:(ts:List Tm)->(n:Nat)->eZ ts n<=5000->eZ ts n=n+co ts
 |[],n,_=>by simp [eZ,co]
 |t::ts,n,h=>by
  simp only[eZ]at h⊢;split at h
  ·omega
  ·rename_i hn;rw[zK hn];have h1:=ms ts (cnt t n);have h2:=lw t n (by omega);have h3:=kF ts (cnt t n) h;rw[h3,h2];simp only[co];omega
end
theorem iT {t:Tm} (h:may t=true):cF t<=5000:=by simp only[may,zD,zU]at h;have h1:=h.1;unfold size at h1;have h2:=lw t 0 (by omega);omega
mutual
theorem lg:(t:Tm)->cF (nrm t)=cF t
 | .mk _ _ ks=>by simp only[nrm,cF];rw[kp ks]
theorem kp:(ts:List Tm)->co (gS ts)=co ts
 |[]=>rfl
 |t::ts=>by simp only[gS,co];rw[lg t,kp ts]
end
mutual
theorem mQ:(t:Tm)->(jy t).length=cF t
 | .mk _ _ ks=>by simp only[jy,cF,zZ];rw[kY ks];omega
theorem kY:(ts:List Tm)->(kZ ts).length=co ts
 |[]=>rfl
 |t::ts=>by simp only[kZ,co,zP];rw[mQ t,kY ts]
end
theorem mq:∀(k u:Nat),u<10^(k+1)->(Lib.decDigits u).length<=k+1
 |0,u,h=>by rw[Lib.decDigits,dif_pos (by simpa using h)];simp
 |k+1,u,h=>by
  rw[Lib.decDigits];split
  ·simp
  ·simp only[zP,zZ,Az];have :=mq k (u/10) (by rw[Nat.pow_succ]at h;omega);omega
theorem td (k:Int):(dB k).length<=4:=by
 unfold dB
 repeat' split
 all_goals simp
theorem jZ (t:Tm):Ok t->cx t+1<=20*cF t:=by
 refine Tm.rec' (p:=λt=>Ok t->cx t+1<=20*cF t) ?_ t;intro k n ks ih ho;by_cases hk:k=1
 ·subst hk;obtain⟨_,_,hn⟩:=ho.named;have hn:=hn rfl;unfold cx;rw[eQ,Lib.itoa,zK (by omega)];have :=mq 9 n.toNat (by omega);simp only[zZ,cF];omega
 ·rw[fU hk (ho.more hk)];have hw:=td k;have hs:(ks.map cx).sum+ks.length<=20*co ks:=by
   have :∀l:List Tm,(∀t,t∈l->cx t+1<=20*cF t)->(l.map cx).sum+l.length<=20*co l:=by
    intro l
    induction l with
    |nil=>intro _;simp [co]
    |cons x l ihl=>
     intro h;have h1:=h x (by simp);have h2:=ihl λt ht=>h t (by simp [ht]);simp only[Ad,List.sum_cons,zZ,co];omega
   exact this ks λt ht=>ih t ht (ho.kid ht)
  simp only[cF];omega
theorem mO (t:Tm):cx (nrm t)=cx t:=by unfold cx;rw[oR]
theorem oP {T0:World->Prop}:∀{ts:List Tm},(∀t,t∈ts->WrT T0 t)->WrTs T0 ts
 |[],_=>by simp [WrTs]
 |t::ts,h=>by simp only[WrTs];exact⟨h t (by simp),oP λu hu=>h u (by simp [hu])⟩
def pU (T0:World->Prop):Prop:=∀n:Int,0<=n->n<=1073741824->yD T0 n
theorem xg {T0:World->Prop} (hit:pU T0) (t:Tm):Ok t->cx t<=1099511000000->WrT T0 t:=by
 refine Tm.rec' (p:=λt=>Ok t->cx t<=1099511000000->WrT T0 t) ?_ t;intro k n ks ih ho hl;obtain⟨h1,h9,hn⟩:=ho.named;simp only[WrT];refine⟨⟨⟨h1,h9⟩,λhk=> ?_,λhk=> ?_,λhk=> ?_,?_⟩,?_,?_⟩
 ·subst hk;have :=ho.atom;subst this;exact⟨by rw[zX rfl];exact hit n (hn rfl).1 (hn rfl).2,rfl⟩
 ·rw[z7];exact⟨ho.more hk,by have :=(ef ho).2.2.2;omega⟩
 ·subst hk;rw[z7];exact(ef ho).2.1 (by decide) (by decide) (by decide)
 ·by_cases hk:k=1
  ·subst hk;have :=ho.atom;subst this;simp
  ·have h2:=fU (n:=n) hk (ho.more hk);have h3:((ks.map nrm).map txt).map List.length=ks.map cx:=by rw[List.map_map,List.map_map];refine List.map_congr_left λt _=> ?_;simp only[Function.comp];exact mO t
   rw[h3,z7];omega
 ·have :=(ef ho).2.2.2;omega
 ·refine oP λt ht=>ih t ht (ho.kid ht) ?_;by_cases hk:k=1
  ·subst hk;have :=ho.atom;subst this;simp at ht
  ·have :=j0 (n:=n) hk ht;omega
theorem l6 {t:Tm} (h:may t=true):Ok t:=by simp only[may,zD]at h;exact(fW t 0 h.2).1
theorem rR {T0:World->Prop} (hit:pU T0) {t:Tm} (h:may t=true):WrT T0 t:=by have h1:=iT h;have h2:=jZ t (l6 h);exact xg hit t (l6 h) (by omega)
theorem pj {t:Tm} (h:may t=true):Fit (nrm t):=by have h1:=iT h;have h2:=jZ t (l6 h);exact⟨kr h,by rw[mO];omega⟩
theorem ll:∀(ts:List Tm) (r:Rw),AllFit r->AllFit (dc ts r)
 |[],_,h=>h
 |t::ts,r,h=>by
  simp only[dc];refine ll ts _ ?_;split
  ·rename_i hm;exact h.add (pj hm)
  ·exact h
theorem qL (known:List Tm):(lG known).length<=5000*known.length:=by
 unfold lG;rw[z7]
 induction known with
 |nil=>simp
 |cons t ts ih=>
  simp only[List.filter_cons];split
  ·rename_i hm;simp only[List.flatMap_cons,zP,zZ];rw[mQ,lg];have :=iT hm;omega
  ·simp only[zZ];omega
theorem qD {T0 : World -> Prop} {nb : Nat} (hT : ∀ w w', Below nb w w' -> T0 w -> T0 w') (hjoin : cK) (hclone : iL) (hit : pU T0) {W : Wd} {known : List Tm} {t : Tm} {k nm : Int} {ad ad2 : Option Addr} {cap l2 cap2 : Nat} {xs : List Value} (w0 : World) (hnb : nb <= w0.heap.size) (hw0 : T0 w0) (hkl : known.length <= 100000000)
  (hsl:0<known.length->∃b o,ad=some ⟨b,o,none⟩/\b∉([]:List Nat)/\At w0 b o xs) (hks:IsTs w0 [] known xs) (ht:IsT w0 [] t [.int .i64 k,.int .i64 nm,.slice ad2 l2 cap2]):
  ∃b:Bool,(b=true↔may t=true/\Der W (Kn known) (nrm t))/\Calls Tryd.prog 19 (List.toArray [.agg #[.bool W.dh,.bool W.kem],.slice ad known.length cap,.agg #[.int .i64 k,.int .i64 nm,.slice ad2 l2 cap2]]) w0 (Ret λv w'=>v= .bool b/\Gr w0 w'):=by
 obtain⟨f,g,b,h1,h2,h3⟩:=qr W known t;refine⟨b,h2,nP hT hjoin hclone h1 w0 hnb hw0 (by omega) (λr hr=>by have :=h3 r hr;have :=qL known;omega) (λt _ hm=>rR hit hm) (ll _ _ (by simp [AllFit])) (λhm=>rR hit hm) (λhm=>pj hm) hsl hks ht⟩
end Go.Mi.Term
