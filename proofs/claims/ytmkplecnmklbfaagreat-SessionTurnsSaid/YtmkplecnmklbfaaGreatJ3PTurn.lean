/- General lemmas, walks. -/
import Derived.LoopN
import Derived.Test.YtmkplecnmklbfaaGreatJ2PTurn
set_option maxRecDepth 100000
set_option maxHeartbeats 1000000
set_option linter.unusedSimpArgs false
set_option linter.unusedVariables false
set_option linter.unnecessarySimpa false
set_option linter.unusedSectionVars false
namespace Go.Sx
open Go.Mi Go.RowKit
variable [Dfr]
structure gY (S1:Nat→Prop) (g1:G) (w1:World) (S0:Nat→Prop) (g0:G) (w0:World):Prop where
 s:∀y,S1 y→S0 y∨w0.heap.size≤y
 go:Go S0 g0 w0 g1 w1
 wf:Wf g0 w0
def FG (H:Hp) (g:G):Nat→Prop:=fun b=>∃k o,AS H k=some o∧b∈g.F k
section
variable {P:Program} {n:Nat} {L:DL} {H:Hp} {S0:Nat→Prop} {g0 g:G} {w0 w:World} {nb:Nat} {a:Act} {Q:Exit→Act→World→Prop}
theorem NM {t:Nat}:∀(us:List Value) (j:Nat),t<j→lk ((us.zipIdx j).map fun p=>(p.2,p.1)) t=none
 |[],_,_=>rfl
 |u::us,j,h=>by
  simp only[List.zipIdx_cons,List.map_cons,lk]
  rw[Bb (show¬j=t by omega)]
  exact NM us (j+1) (by omega)
theorem St.begin (hD : Dfr.ds = ([] : List Deferred)) {c : Con} {vs : List Value} (hl : Nat.ble c.args.length n = true) (hone : c.args.all D.one = true) (hk : (An c.H0).all (Nat.blt · nb) = true) (hS : HS (DF c.H0) g w) (hN : ∀ k v, g.N k = some v → k ∈ An c.H0) (hv : B4 g.X g.N w (chain c.args) true vs) :
  St n (c.foot g) g w (La c.args 0) (FZ c.H0) nb {tmps:=vs.toArray++Array.replicate (n-vs.toArray.size) undef,defers:=[]} g w:=by
 have hlen:∀{ds:List D} {vs:List Value},(∀d∈ds,d.one=true)→B4 g.X g.N w (chain ds) true vs→vs.length=ds.length:=by
  intro ds
  induction ds with
  |nil=>intro vs _ h;have :vs=[]:=h;subst this;rfl
  |cons d ds ih=>
   rintro vs ho ⟨l1,l2,rfl,h1,h2⟩
   obtain⟨v,rfl⟩:=FU h1 (ho d (List.mem_cons_self ..))
   simp [ih (fun e he=>ho e (List.mem_cons_of_mem _ he)) h2]
 have ho:=List.all_eq_true.1 hone
 have hvl:=hlen ho hv
 have hl:=Nat.le_of_ble_eq_true hl
 have hF:Frm {tmps:=vs.toArray++Array.replicate (n-vs.toArray.size) undef,defers:=[]} n (vs.zipIdx.map fun p=>(p.2,p.1)):=Frm.enter hD (by omega)
 refine⟨hF.size,hF.defers,fun t d ht=> ?_,hS.sub fun k o hk=>by rw[←FY];exact hk,Go.refl _ _ _ fun x ⟨k,o,h1,h2⟩=>hS.own k o h1 x h2,hS.wf,fun k o hk b hb=> .inl ⟨k,o,by rw[←FY];exact hk,hb⟩,fun k v hkv=> ?_⟩
 ·have key : ∀ (ds : List D) (us : List Value) (i : Nat), (∀ d ∈ ds, d.one = true) → B4 g.X g.N w (chain ds) true us → (∀ s v, lk ((us.zipIdx i).map fun p => (p.2, p.1)) s = some v → Array.getD (vs.toArray ++ Array.replicate (n - vs.toArray.size) undef) s undef = v) → Do (La ds i) t = some d → Sm g w d (Array.getD (vs.toArray ++ Array.replicate (n - vs.toArray.size) undef) t undef) := by
   intro ds
   induction ds with
   |nil=>intro us i _ _ _ ht;cases ht
   |cons e ds ih=>
    rintro us i ho ⟨l1,l2,rfl,h1,h2⟩ hg ht
    obtain⟨v,rfl⟩:=FU h1 (ho e (List.mem_cons_self ..))
    simp only[La,Do]at ht
    by_cases e':i=t
    ·subst e'
     simp at ht
     subst ht
     have :=hg i v (by simp [lk])
     rw[this]
     exact h1
    ·rw[Bb e']at ht
     have hg':∀s v,lk ((l2.zipIdx (i+1)).map fun p=>(p.2,p.1)) s=some v→Array.getD (vs.toArray++Array.replicate (n-vs.toArray.size) undef) s undef=v:=by
      intro s v hs
      refine hg s v ?_
      simp only[List.singleton_append,List.zipIdx_cons,List.map_cons,lk]
      have hne:¬i=s:=fun es=>by subst es;rw[NM l2 (i+1) (by omega)]at hs;cases hs
      rw[Bb hne]
      exact hs
     exact ih l2 (i+1) (fun q hq=>ho q (List.mem_cons_of_mem _ hq)) h2 hg' ht
  exact key c.args vs 0 ho hv hF.get ht
 ·have :=List.all_eq_true.1 hk k (hN k v hkv)
  simpa[Nat.blt_eq]using this
theorem Fj (hD : Dfr.ds = ([] : List Deferred)) {f : FuncId} {fn : Func} {code : Code} {c : Con} {nb : Nat} (hf : P.funcs[f]? = some fn) (hname : (fn.name == "runtime.NumGoroutine") = false) (hb : fn.body = some code) (hn : fn.ntmps = n) (hl : Nat.ble c.args.length n = true) (hone : c.args.all D.one = true) (hk : (An c.H0).all (Nat.blt · nb) = true)
  (h:∀(g0:G) (w0:World) (a:Act) (g:G) (w:World),(∀k v,g0.N k=some v→k∈An c.H0)→St n (c.foot g0) g0 w0 (La c.args 0) (FZ c.H0) nb a g w→code.wp P (bodyPostD P fn (Rh fun v w'=>∃g',C6 c g0 w0 v g' w')) a w):ConOk P f c:=by
 refine⟨⟨fn,hf,hname,by rw[hb];rfl⟩,fun vs g w hS hN hv=> ?_⟩
 subst hn
 exact calls_of_wp_defers hf hb (h g w _ g w hN (St.begin hD hl hone hk hS hN hv))
theorem JL (hD0 : Dfr.ds = ([] : List Deferred)) {id t : Nat} {f : FuncId} {caps : List Operand} {cs : List D} {ty ty' : TypeId} {ps ps' : String} {af af' : Array Edge} (hS : St n S0 g0 w0 L H nb a g w) (hc : Wh L caps = some cs) (ht : (Do L t).isNone = true) (ht2 : Nat.blt t n = true)
  (h:∀(D:Dfr) (vs:List Value) (a':Act),D.ds=[⟨.fn (.func f) vs.toArray,#[]⟩]→B4 g.X g.N w (chain cs) true vs→gY (FG H g) g w S0 g0 w0→ @SS D n (FG H g) g w (Do L) (AS H) (· <nb) a' g w→Q .normal a' w):
  (Code.region id #[⟨some t,.makeFunc (.func f) #[] caps.toArray,ty,ps,af,none⟩,⟨none,.defer ⟨.value (.tmp t),#[],#[]⟩,ty',ps',af',none⟩] false).wp P Q a w:=by
 obtain⟨vs,hvs,hsem,_⟩:=DD hS.fx.get hc
 have hev:caps.toArray.map a.eval=vs.toArray:=by
  have :=hS.fx.frm.evals hvs
  rw[←this,←List.map_toArray]
 have ht':Do L t=none:=Option.isNone_iff_eq_none.1 ht
 rw[Nat.blt_eq]at ht2
 let a1:Act:=a.put (some t) (.func (.func f) #[] vs.toArray)
 have g1:a1.tmps.getD t undef= .func (.func f) #[] vs.toArray:=by simp [a1,Act.put,hS.size,ht2]
 let dd:Deferred:=⟨.fn (.func f) vs.toArray,#[]⟩
 let a2:Act:={a1 with defers:=dd::a1.defers}
 have hSS: @SS ⟨[dd]⟩ n (FG H g) g w (Do L) (AS H) (· <nb) a2 g w:=by
  refine @SS.mk ⟨[dd]⟩ _ _ _ _ _ _ _ _ _ _ (by simp [a2,a1,Act.put,hS.size]) (by show dd::a.defers=[dd];rw[hS.defers,hD0]) (fun u d hu=> ?_) hS.hs (Go.refl _ _ _ fun x ⟨k,o,h1,h2⟩=>hS.hs.own k o h1 x h2) hS.hs.wf (fun k o hk b hb=> .inl ⟨k,o,hk,hb⟩) hS.nm
  have hne:t≠u:=fun e=>by subst e;rw[ht']at hu;cases hu
  have :a1.tmps.getD u undef=a.tmps.getD u undef:=by simp [a1,Act.put,Array.getElem?_setIfInBounds_ne hne]
  show Sm g w d (a1.tmps.getD u undef)
  rw[this]
  exact hS.fr u d hu
 have fin:=h ⟨[dd]⟩ vs a2 rfl hsem ⟨fun y ⟨k,o,h1,h2⟩=>hS.fp k o h1 y h2,hS.go,hS.wf0⟩ hSS
 refine wp_region ?_
 have key:wpOps P #[⟨some t,.makeFunc (.func f) #[] caps.toArray,ty,ps,af,none⟩,⟨none,.defer ⟨.value (.tmp t),#[],#[]⟩,ty',ps',af',none⟩] Q [0,1] a w:=by
  simp only[wpOps,Region.wanted,List.getElem?_toArray,List.getElem?_cons_zero,List.getElem?_cons_succ,if_true,Oper.wp,execOp,Instr.makeFunc,Array.map_empty,Sem.run_bind,Sem.run_pure,Result.andThen_ok,Oper.upon_value,hev]
  have e1:(a.put (some t) (.func (.func f) #[] vs.toArray)).eval (.tmp t)= .func (.func f) #[] vs.toArray:=g1
  simp only[resolve,e1,Deferred.ofValue,Sem.run_bind,Sem.run_pure,Result.andThen_ok,Oper.upon_defer,Array.map_empty,Array.append_empty]
  exact .inl (.inl fin)
 exact key
theorem d5 {f:FuncId} {xs:Array Value} (hc:Go.Mi.Callee P f):(invoke (.fn (.func f) xs) #[]).run P w= .ok (.enter f xs) w:=by
 obtain⟨fn,h1,h2,h3⟩:=hc.ok
 simp only[invoke,callFunc,run_program,h1,h2,h3,Sem.run_bind,Result.andThen_ok,Array.empty_append]
 simp only[Bool.false_eq_true,if_false,Sem.run_pure]
theorem AaV {S1 : Nat → Prop} {g1 : G} {w1 : World} {fn : Func} {c : Con} {ds : List D} (hB : gY S1 g1 w1 (c.foot g0) g0 w0) (hS : St n S1 g1 w1 L H nb a g w) (h : I7 P L H fn.results.toList = some ds) (hr : weak (X8 ds) c.res = c.res) (h1 : DK H c.H1 true) :
  ∃v,(results fn a.tmps).run P w= .ok v w∧∃g',C6 c g0 w0 v g' w:=by
 obtain⟨v,h2,h3⟩:=kZ hS h
 have h4:Sm g w c.res v:=hr▸N4 h3
 have key:∀k o,DF c.H1 k=some o→AS H k=some o:=by
  have :∀(r:Hc),DK H r true→∀k o,DF r k=some o→AS H k=some o:=by
   intro r
   induction r with
   |nil=>intro _ k o h;cases h
   |cons p r ih=>
    obtain⟨s,u⟩:=p
    intro hh k o h
    simp only[DF]at h
    by_cases e:s=k
    ·subst e;simp at h;subst h;exact hh.1
    ·rw[Bb e]at h;exact ih hh.2 k o h
  exact this c.H1 h1
 refine⟨v,h2,g,hB.go.trans hS.go hB.wf hB.s,h4,hS.hs.sub key,fun k o hk b hb=> ?_⟩
 rcases hS.fp k o (key k o hk) b hb with h5|h5
 ·exact hB.s b h5
 ·exact .inr (Nat.le_trans hB.go.ch.size h5)
theorem Gt {S1 : Nat → Prop} {g1 : G} {w1 : World} {fn : Func} {c : Con} {ds : List D} {u u' : FrameMode} {cs : List D} {vs : List Value} (q : CR) (Ho : Hp) (hB : gY S1 g1 w1 (c.foot g0) g0 w0) (hS : St n S1 g1 w1 L H nb a g w) (hcv : B4 g1.X g1.N w1 (chain cs) true vs)
  (hu:u≠ .run) (hset:settle u'= .returning) (hq:q.chk=true) (hqs:q.σ=[]) (hc:Rj P q.f u u' q.c) (hcs:cs=q.c.args.map (D.ren q.r)) (hH0:Ri H q.r q.c.H0) (hHo:Ho=q.eff.outs++H)
  (h:I7 P L Ho fn.results.toList=some ds) (hr:weak (X8 ds) c.res=c.res) (h1:DK Ho c.H1 true):
  Leaves P fn a.tmps (Rh fun v w'=>∃g',C6 c g0 w0 v g' w') [⟨.fn (.func q.f) vs.toArray,#[]⟩] u w:=by
 have hq':=CRok.of hq
 have hv:B4 g.X g.N w (chain (q.c.args.map (D.ren q.r))) true vs:=by
  rw[←hcs];exact FM hS.go.goes _ _ _ hcv
 have hnw:q.eff.nw=[]:=by simp only[CR.eff,hqs,List.filterMap_nil]
 have hHS:HS (BF (q.eff.rd++An q.eff.wr) (AS H)) g w:=hS.hs.sub fun k o hk=>by
  unfold BF at hk
  cases hm:BM k (q.eff.rd++An q.eff.wr)with
  |true=>rw[hm]at hk;exact hk
  |false=>rw[hm]at hk;cases hk
 have hcall:=YV (T:=RetD P q.f u u') (fun {_ _ _ _} h hr=>RetD.mono h hr) hq' hc.2 hH0 hHS (fun p hp=>by rw[hnw]at hp;cases hp) hv
 refine leaves_cons hu (d5 hc.1) (CallsD.mono hcall ?_)
 rintro e x w' ⟨v,rfl,rfl,g',hp⟩
 simp only
 rw[hset]
 have hS':St n S1 g1 w1 L Ho nb a g' w':=by
  have :=SS.step (dst:=none) (L':=Do L) (H':=AS Ho) (nm':=(· <nb)) hS (fun t ht=>by cases ht) hp (fun t d ht=> .inr ⟨by simp,ht⟩) (fun k o hk=> ?_) (fun k hk=>hk.elim id fun hk=>by rw[hnw]at hk;cases hk)
  ·exact this
  ·subst hHo
   have hk:=BD.1 hk
   rw[JD]at hk
   cases hm:Es q.eff.outs k with
   |some o'=>rw[hm]at hk;cases hk;exact .inl (BD.2 hm)
   |none=>rw[hm]at hk;exact .inr ⟨fun hh=>Hs.1 hh hm,BD.2 hk⟩
 obtain⟨r,k1,k2⟩:=AaV hB hS' h hr h1
 exact⟨r,k1,r,rfl,k2⟩
theorem Qx {fn:Func} {R:Ending→World→Prop} {ds:List Deferred} {S1:Nat→Prop} {e:Exit} (he:e= .normal∨e= .ret) (hS:St n S1 g0 w0 L H nb a g w) (hD:Dfr.ds=ds) (h:Leaves P fn a.tmps R ds .returning w):bodyPostD P fn R e a w:=by
 subst hD
 have h2:Leaves P fn a.tmps R a.defers .returning w:=by rw[hS.defers];exact h
 rcases he with rfl|rfl<;>exact h2
theorem oD {fn:Func} {R:Ending→World→Prop} {ds:List Deferred} {S1:Nat→Prop} {v:Value} (hS:St n S1 g0 w0 L H nb a g w) (hD:Dfr.ds=ds) (h:Leaves P fn a.tmps R ds (pnd v) w):bodyPostD P fn R (.panic [{v,recovered:=false}]) a w:=by
 subst hD
 show Leaves P fn a.tmps R a.defers _ w
 rw[hS.defers]
 exact h
theorem Sm.v_of {x v:Value} (h:Sm g w (.v x) v):v=x:=(List.cons.inj h).1
end
end Go.Sx
namespace Go.Sx
open Go.Mi Go.RowKit
variable [Dfr]
def isN:D→Bool
 | .nil=>true
 |_=>false
def KP (ks:List Nat) (H:Hp):D→D→D
 | .cons a b,d=>(match d with
  | .cons c e=> .cons (KP ks H a c) (KP ks H b e)
  |d=>d)
 | .im p _,d=>(match d with
  | .cp k o=>bif BM k ks then(match AS H k with
   |some (.ob _ dk)=>bif isN p then .im .nil o else .im (KP ks H p dk) o
   |_=> .cp k o)else .cp k o
  | .im dd o=>bif isN p then .im .nil o else .im (KP ks H p dd) o
  |d=>d)
 | .top,d=>bif d.isOne then .top else d
 | .ls a e ys,d=>(match d with
  | .sk k=>bif BM k ks then(match AS H k with
   |some (.sl _ e' xs)=> .ls false e' xs
   |_=> .sk k)else .sk k
  |d=>weak d (.ls a e ys))
 |p,d=>weak d p
def nW (ks:List Nat) (H:Hp):List D→List D→List D
 |p::ps,d::ds=>KP ks H p d::nW ks H ps ds
 |_,ds=>ds
def Acm (q:CR) (ks:List Nat) (L:DL) (H:Hp) (op:Op):Option (Eff×List Prop):=match op with
 | .call c=>(match c.callee with
  | .value f=>(match YB L f c.args.toList with
   |some (f,ays)=>bif Nat.beq f q.f&&q.c.H0.isEmpty&&q.c.H1.isEmpty&&Rr q.c.res&&q.c.res.nm.isEmpty&&(q.c.args.all (D_ []))&&ays.all D.one then some (⟨ks,[],[],q.c.res⟩,[nW ks H q.c.args ays=q.c.args])else none
   |none=>none)
  |_=>none)
 |_=>none
def Ab7:List (Nat×CR×List Nat)→Nat→Option (CR×List Nat)
 |[],_=>none
 |(s,v)::r,t=>bif Nat.beq s t then some v else Ab7 r t
def C3Ok (P:Program):List (Nat×CR×List Nat)→Prop
 |[]=>True
 |(_,q,_)::r=>ConOk P q.f q.c∧C3Ok P r
theorem C3Ok.at {P:Program}:∀{C:List (Nat×CR×List Nat)} {i:Nat} {q:CR} {ks:List Nat},C3Ok P C→Ab7 C i=some (q,ks)→ConOk P q.f q.c
 |(s,x)::r,i,q,ks,h,hl=>by
  simp only[Ab7]at hl
  by_cases e:s=i
  ·subst e;simp at hl;subst hl;exact h.1
  ·rw[Bb e]at hl;exact h.2.at hl
section
variable {P:Program} {n:Nat} {L:DL} {H:Hp} {ds:Option Nat} {ty:TypeId} {pos:String} {af:Array Edge} {gu:Option (Nat×Bool)} {g:G} {w:World}
theorem Vl {X:Nat→Prop} {N:Nat→Option Value} {w:World} {d e:D} {m:Bool} {l:List Value} (h:B4 X N w d m l):B4 X N w (weak d e) m l:=by
 unfold weak
 split
 ·obtain⟨u,ls,h1,h2,h3⟩:=h;exact⟨u,ls,h1,h2.gen,h3⟩
 ·have :l=[vN]:=h
  subst this
  exact⟨_,[],rfl,Lsl.nil,trivial⟩
 ·have :l=[vN]:=h
  subst this
  exact⟨_,rfl,rfl⟩
 ·split
  ·rename_i q hq
   obtain⟨u,ls,h1,h2,h3⟩:=h
   subst h1
   exact⟨u,rfl,(Ko (X:=X) (N:=N) (w:=w) (m:=m) (a:= .os _) (d:= .ls true _ _) ⟨u,ls,rfl,h2,h3⟩ hq).1⟩
  ·exact h
 ·exact h
def gfX (g:G) (ks:List Nat):Nat→Prop:=fun x=>g.X x∧∀k∈ks,x∉g.F k
theorem Ud {d:D} {N N':Nat→Option Value} (h:d.nm=[]):∀k∈d.nm,N' k=N k:=fun k hk=>by rw[h]at hk;cases hk
theorem wO {ks:List Nat} (hS:HS (BF ks (AS H)) g w):∀{p d:D} {m:Bool} {l:List Value},B4 g.X g.N w d m l→(KP ks H p d).plain=true→(KP ks H p d).nm=[]→B4 (gfX g ks) (fun _=>none) w (KP ks H p d) m l:=by
 have same:∀{d:D} {m:Bool} {l:List Value},B4 g.X g.N w d m l→d.plain=true→d.nm=[]→B4 (gfX g ks) (fun _=>none) w d m l:=fun h hp hn=>Pv hp (Ud hn) (fun x hx=>hx.1) h
 intro p
 induction p with
 |cons a b iha ihb=>
  intro d m l h hp hn
  cases d with
  |cons c e=>
   obtain⟨l1,l2,rfl,h1,h2⟩:=h
   simp only[KP,D.plain,Bool.and_eq_true,D.nm,List.append_eq_nil_iff]at hp hn⊢
   exact⟨l1,l2,rfl,iha h1 hp.1 hn.1,ihb h2 hp.2 hn.2⟩
  |_=>exact same h hp hn
 |im p o ih=>
  intro d m l h hp hn
  cases d with
  |cp k o'=>
   obtain⟨b,h1,rfl⟩:=h
   simp only[KP]at hp hn⊢
   cases hm:BM k ks with
   |false=>simp [hm,D.nm]at hn
   |true=>
    simp only[hm,cond_true]at hp hn⊢
    split at hp
    ·rename_i ty dk hk
     rw[hk]at hn
     obtain⟨b',c,k1,k2,k3,k4,k5⟩:=hS.os k _ (by simp only[BF,hm,cond_true];exact hk)
     rw[h1]at k1
     cases k1
     have hb:¬gfX g ks b:=fun hx=>hx.2 k (AN.1 hm) (by rw[k2];simp)
     have hlt:b<w.heap.size:=OS.lt (hS.os k (.ob ty dk) (by simp only[BF,hm,cond_true];exact hk)) b (by rw[k2];simp)
     cases hp2:isN p with
     |true=>exact⟨b,[],hb,hlt,rfl,fun i u hu=>by simp at hu,by simp,rfl⟩
     |false=>
      rw[hp2]at hp hn
      exact⟨b,c.toList,hb,hlt,rfl,At.of_blk k3,k5,ih k4 hp hn⟩
    ·rename_i hno
     split at hn
     ·rename_i ty dk hk;exact absurd hk (hno ty dk)
     ·simp [D.nm]at hn
  |im dd o'=>
   obtain⟨b,l',h1,h2,rfl,h3,h4,h5⟩:=h
   simp only[KP]at hp hn⊢
   cases hp2:isN p with
   |true=>exact⟨b,[],fun hx=>h1 hx.1,h2,rfl,fun i u hu=>by simp at hu,by simp,rfl⟩
   |false=>
    simp only[hp2,cond_false,D.plain,D.nm]at hp hn⊢
    exact⟨b,l',fun hx=>h1 hx.1,h2,rfl,h3,h4,ih h5 hp hn⟩
  |_=>exact same h hp hn
 |top=>
  intro d m l h hp hn
  simp only[KP]at hp hn⊢
  cases ho:d.isOne with
  |true=>simp only[cond_true];obtain⟨v,h1,_⟩:=M5 h ho;exact⟨v,h1⟩
  |false=>simp only[ho,cond_false]at hp hn⊢;exact same h hp hn
 |ls a e ys=>
  intro d m l h hp hn
  cases d with
  |sk k=>
   obtain⟨v,h1,rfl,h2⟩:=h
   simp only[KP]at hp hn⊢
   cases hm:BM k ks with
   |false=>simp [hm,D.nm]at hn
   |true=>
    simp only[hm,cond_true]at hp hn⊢
    split at hp
    ·rename_i te e' xs hk
     obtain⟨v',ls,k1,k2,k3,k4,k5,k6⟩:=hS.os k _ (by simp only[BF,hm,cond_true];exact hk)
     rw[h1]at k1
     cases k1
     have hp':e'.all Fk.flat=true:=hp
     refine⟨v,ls,rfl,⟨k4,by rw[Cs k5.row,k5.len],?_⟩,k5.mono fun x l hr=>(FW e' x l hp').1 (ET (S:=fun _=>False) (w':=w) ⟨Chp.refl _ _,fun _ h=>h.elim,fun x h=> .inl h.1,fun _ _ h=>h⟩ e' x l hr)⟩
     rcases k3.2 with⟨rfl,h0⟩|⟨b,cap,cur,rfl,_,hb,hc,hc2,_,_⟩
     ·exact .inl ⟨h0,.inl ⟨rfl,rfl⟩⟩
     ·have hbF:b∈g.F k:=by rw[k2];simp [Cd]
      refine .inr ⟨b,0,cap,rfl,hc,hc2,fun hx=>hx.2 k (AN.1 hm) hbF,(k3.lt b (by simp [Cd])).2,?_⟩
      rcases k3.at with⟨h1',_⟩|⟨b',cap',h1',_,h2'⟩
      ·cases h1'
      ·cases h1';exact h2'
    ·rename_i hno
     split at hn
     ·rename_i te e' xs hk;exact absurd hk (hno te e' xs)
     ·simp [D.nm]at hn
  |_=>exact same (Vl (e:= .ls a e ys) h) hp hn
 |_=>intro d m l h hp hn;exact same (Vl h) hp hn
theorem QY {ks:List Nat}:∀{ays:List D} {vs:List Value},B4 g.X g.N w (chain ays) true vs→(∀d∈ays,D_ [] d=true)→B4 (gfX g ks) (fun _=>none) w (chain ays) true vs
 |[],vs,h,_=>h
 |d::ays,vs,⟨l1,l2,e,h1,h2⟩,hn=>by
  have h3:=hn d (List.mem_cons_self ..)
  simp only[D_,Bool.and_eq_true,List.all_eq_true]at h3
  have h4:d.nm=[]:=List.eq_nil_iff_forall_not_mem.2 fun k hk=>by have :=h3.2 k hk;cases this
  exact⟨l1,l2,e,Pv h3.1 (Ud h4) (fun x hx=>hx.1) h1,QY h2 fun e he=>hn e (List.mem_cons_of_mem _ he)⟩
theorem aW {ks:List Nat} (hS:HS (BF ks (AS H)) g w):∀{ps ays:List D} {vs:List Value},B4 g.X g.N w (chain ays) true vs→(∀d∈nW ks H ps ays,D_ [] d=true)→B4 (gfX g ks) (fun _=>none) w (chain (nW ks H ps ays)) true vs
 |[],ays,vs,h,hn=>by
  have e:nW ks H [] ays=ays:=by cases ays<;>rfl
  rw[e]at hn⊢
  exact QY h hn
 |p::ps,[],vs,h,hn=>h
 |p::ps,d::ays,vs,⟨l1,l2,e,h1,h2⟩,hn=>by
  have h3:=hn (KP ks H p d) (List.mem_cons_self ..)
  simp only[D_,Bool.and_eq_true,List.all_eq_true]at h3
  have h4:(KP ks H p d).nm=[]:=List.eq_nil_iff_forall_not_mem.2 fun k hk=>by have :=h3.2 k hk;cases this
  exact⟨l1,l2,e,wO hS h1 h3.1 h4,aW hS h2 fun e he=>hn e (List.mem_cons_of_mem _ he)⟩
theorem wW {q:CR} {ks:List Nat} {op:Op} {e:Eff} {ps:List Prop} (hc:ConOk P q.f q.c) (h:Acm q ks L H op=some (e,ps)) (hp:AllP ps):EOk P n ⟨ds,op,ty,pos,af,gu⟩ L (AS H) e:=by
 unfold Acm at h
 split at h
 ·rename_i c
  obtain⟨cl,xs,ts⟩:=c
  simp only at h
  split at h
  ·rename_i f
   split at h
   ·rename_i f' ays hfn
    cases hb:Nat.beq f' q.f&&q.c.H0.isEmpty&&q.c.H1.isEmpty&&Rr q.c.res&&q.c.res.nm.isEmpty&&(q.c.args.all (D_ []))&&ays.all D.one with
    |false=>rw[hb]at h;cases h
    |true=>
     rw[hb]at h
     simp only[Bool.and_eq_true,List.all_eq_true,List.isEmpty_iff]at hb
     obtain⟨⟨⟨⟨⟨⟨b1,b2⟩,b3⟩,b4⟩,b5⟩,b6⟩,b7⟩:=hb
     have b1:=Nat.eq_of_beq_eq_true b1
     subst b1
     cases h
     have hp:=hp.1
     intro ξ g w hS hH hn
     have hS:HS (BF ks (AS H)) g w:=by simpa[An]using hS
     have fin:∀{vs:List Value},B4 g.X g.N w (chain ays) true vs→Calls P q.f vs.toArray w (Rh fun v w'=>∃g',Post (AS H) ⟨ks,[],[],q.c.res⟩ g w v g' w'):=fun {vs} hv=>by
      have h1:=aW (ps:=q.c.args) hS hv (by rw[hp];exact b6)
      rw[hp]at h1
      let gf:G:=⟨fun _=>none,g.F,gfX g ks⟩
      have hnone:∀k o,DF q.c.H0 k≠some o:=fun k o=>by rw[b2];simp [DF]
      refine(hc.2 vs gf w ⟨fun x hx=>hS.wf x hx.1,fun k o hk=>(hnone k o hk).elim,fun k o hk=>(hnone k o hk).elim,fun k o k' o' hk=>(hnone k o hk).elim⟩ (fun k v hk=>by cases hk) h1).mono ?_
      rintro en w' ⟨v,rfl,g',hpo⟩
      have hf:∀x,¬q.c.foot gf x:=fun x ⟨k,o,hk,_⟩=>hnone k o hk
      have hno:∀j u,AS (Eff.outs ⟨ks,[],[],q.c.res⟩) j≠some u:=fun j u h=>by simp [Eff.outs,AS,Es]at h
      have hft:∀x,¬Eff.foot ⟨ks,[],[],q.c.res⟩ (AS H) g x:=fun x ⟨k,hk,_⟩=>by simp [An]at hk
      refine⟨v,rfl,g,⟨⟨hpo.go.ch.os,hpo.go.ch.tape,hpo.go.ch.output,hpo.go.ch.size,fun b hb _=>hpo.go.ch.blk b hb (hf b)⟩,fun x hx=>(hft x hx).elim,fun x hx=> .inl hx,fun x hx _=>hx,fun _ _ h=>h,fun _ _ _=>rfl⟩,Uc b4 (Ud b5) hpo.r,⟨fun x hx=>Nat.lt_of_lt_of_le (hS.wf x hx) hpo.go.ch.size,fun j u h=>(hno j u h).elim,fun j u h=>(hno j u h).elim,fun j u _ _ h=>(hno j u h).elim⟩,fun j u h=>(hno j u h).elim,fun k v h=> .inl h⟩
     unfold YB at hfn
     split at hfn
     ·rename_i f0 first captured as' hx has
      cases he:first.isEmpty&&captured.isEmpty with
      |false=>rw[he]at hfn;cases hfn
      |true=>
       rw[he]at hfn
       simp only[cond_true,Option.some.injEq,Prod.mk.injEq]at hfn
       obtain⟨rfl,rfl⟩:=hfn
       rw[Bool.and_eq_true,Array.isEmpty_iff,Array.isEmpty_iff]at he
       obtain⟨rfl,rfl⟩:=he
       obtain⟨vs,k1,k2,_⟩:=DD hH has
       refine LZ (first := #[]) (captured:= #[]) (Bo hH hx) hc.1 k1 ?_
       simpa using fin k2
     ·rename_i f0 a b as' hx has
      split at hfn
      ·rename_i a' b' ha hb'
       simp only[Option.some.injEq,Prod.mk.injEq]at hfn
       obtain⟨rfl,rfl⟩:=hfn
       obtain⟨v,hv,va,vb,h1,h2,h3⟩:=A4 hH hx
       cases(List.cons.inj h3).1
       obtain⟨vs,k1,k2,_⟩:=DD hH has
       refine LZ hv hc.1 k1 ?_
       have :=fin (Dy (Dy (GI ha h1) k2) (GI hb' h2))
       simpa using this
      ·cases hfn
     ·cases hfn
   ·cases h
  ·cases h
 ·cases h
end
end Go.Sx
namespace Go.Sx
open Go.Mi Go.RowKit
variable [Dfr]
theorem Ca {P:Program} {c:Code} {Q:Exit→Act→World→Prop} {n:Nat} {a:Act} {w:World} (h:c.wp P (Exit.then (Code.rounds P c Q n) Q) a w):Code.rounds P c Q (n+1) a w:=h
end Go.Sx
namespace Go.Sx
open Go.Mi Go.RowKit
variable [Dfr]
abbrev Sg:=DL×Hp
def Sp (n:Nat) (S0:Nat→Prop) (g0:G) (w0:World) (σ:Sg) (nb:Nat) (a:Act) (g:G) (w:World):Prop:=St n S0 g0 w0 σ.1 σ.2 nb a g w
abbrev Px:=Option (List Prop×DL×Hp×Nat)
def xS:Px→Sg
 |some (_,L,H,_)=>(L,H)
 |none=>([],[])
def xP (r:Px):Option (List Prop×Nat):=r.map fun x=>(x.1,x.2.2.2)
theorem iE {r:Px} {ps:List Prop} {nb:Nat} (h:xP r=some (ps,nb)):r=some (ps,(xS r).1,(xS r).2,nb):=by
 obtain⟨⟨p,L,H,m⟩,rfl,h2⟩:=Option.map_eq_some_iff.1 h
 simp only[Prod.mk.injEq]at h2
 obtain⟨rfl,rfl⟩:=h2
 rfl
abbrev vi (x:Int):D:= .v (.int .i64 x)
abbrev lb (x:List Int):D:= .ls false [.int .u8] x
theorem AD {p:Prop} (h:p:=by first |omega|(simp only[List.length_append,List.length_drop,List.length_take,List.length_replicate,List.length_cons,List.length_nil,List.length_map,List.length_range]<;>omega)|(simp<;>omega)):p:=h
theorem Ac {p:Prop} (h:p:=by omega):p:=h
theorem BC {p:Prop} (h:p:=by assumption):p:=h
theorem MW {p:Prop} (h:p:=by first |assumption|(simp<;>omega)):p:=h
section
variable {P:Program} {n:Nat} {L:DL} {H:Hp} {σ:Sg} {S0:Nat→Prop} {g0 g:G} {w0 w:World} {nb:Nat} {a:Act} {Q:Exit→Act→World→Prop}
theorem SS.sp (hS:St n S0 g0 w0 L H nb a g w):Sp n S0 g0 w0 (L,H) nb a g w:=hS
theorem Sp.st (hS:Sp n S0 g0 w0 σ nb a g w):St n S0 g0 w0 σ.1 σ.2 nb a g w:=hS
abbrev tK (n:Nat) (ops:List Oper) (ex:Ex) (σ:Sg) (nb:Nat) (kL kH:List Nat):Px:=plX n ops ex σ.1 σ.2 nb kL kH
theorem lB {id : Nat} {dr : Bool} {ops : List Oper} {ex : Ex} (hm : P.follows .mixedOrders = true) (hex : Nz P n ex) (ps : List Prop) (kL kH : List Nat) (nb' : Nat) (hp : AllP ps) (hS : Sp n S0 g0 w0 σ nb a g w) (hend : ∀ a g w, Sp n S0 g0 w0 (xS (tK n ops ex σ nb kL kH)) nb' a g w → Q .normal a w)
  (h:xP (tK n ops ex σ nb kL kH)=some (ps,nb')) (hle:Nat.ble nb nb'=true):(Code.region id ops.toArray dr).wp P Q a w:=
 VT hm hex (iE h) hp hle hS hend
theorem Sp.rv (hS:Sp n S0 g0 w0 σ nb a g w) (L':DL) (H':Hp) (hL:Bc σ.1 (An L')=L':=by kernel_rfl) (hH:IQ σ.2 (An H')=H':=by kernel_rfl):St n S0 g0 w0 L' H' nb a g w:=
 SS.weak hS (fun t d ht=>(Ef (ts:=An L') (by rw[hL];exact ht)).2) (fun k o hk=>IY (ts:=An H') (by rw[hH];exact hk)) fun _ h=>h
theorem WG {x y:Code} {c:Operand} (t:Bool) (hS:Sp n S0 g0 w0 σ nb a g w) (ht:t=true→x.wp P Q a w) (hf:t=false→y.wp P Q a w) (hc:Eb σ.1 c=some (.v (.bool t)):=by kernel_rfl):(Code.cond c x y).wp P Q a w:=
 nH hS.st hc ht hf
theorem AB {x y:Code} {c:Operand} (p:Prop) [Decidable p] (hS:Sp n S0 g0 w0 σ nb a g w) (ht:p→x.wp P Q a w) (hf:¬p→y.wp P Q a w) (hc:Eb σ.1 c=some (.v (.bool (decide p))):=by kernel_rfl):(Code.cond c x y).wp P Q a w:=
 nH hS.st hc (fun h=>ht (of_decide_eq_true h)) fun h=>hf (of_decide_eq_false h)
theorem Is {x y:Code} {c:Operand} (p:Prop) [Decidable p] (hS:Sp n S0 g0 w0 σ nb a g w) (ht:¬p→x.wp P Q a w) (hf:p→y.wp P Q a w) (hc:Eb σ.1 c=some (.v (.bool (!decide p))):=by kernel_rfl):(Code.cond c x y).wp P Q a w:=
 nH hS.st hc (fun h=>ht fun hp=>by rw[decide_eq_true hp]at h;cases h) fun h=>hf (by simpa using h)
theorem AQ {x y:Code} {c:Operand} (hS:Sp n S0 g0 w0 σ nb a g w) (h:x.wp P Q a w) (hc:Eb σ.1 c=some (.v (.bool true)):=by kernel_rfl):(Code.cond c x y).wp P Q a w:=
 nH hS.st hc (fun _=>h) fun h=>nomatch h
theorem Ai {x y:Code} {c:Operand} (hS:Sp n S0 g0 w0 σ nb a g w) (h:y.wp P Q a w) (hc:Eb σ.1 c=some (.v (.bool false)):=by kernel_rfl):(Code.cond c x y).wp P Q a w:=
 nH hS.st hc (fun h=>nomatch h) fun _=>h
theorem Sp.ren {ks0:List Nat} (hg0:∀k v,g0.N k=some v→k∈ks0) (hS:Sp n S0 g0 w0 σ nb a g w) (ρ:Ny) (L':DL) (H':Hc) (nb':Nat) (hc:Gy ρ ks0 L' H' nb'=true) (hL:Bc σ.1 (An L')=L'.map fun p=>(p.1,p.2.ren (rn ρ))) (hH:(H'.map fun p=>AS σ.2 (rn ρ p.1))=H'.map fun p=>some (p.2.ren (rn ρ))):∃g',St n S0 g0 w0 L' (FZ H') nb' a g' w:=by
 refine St.ren hg0 hS.st ρ L' H' nb' hc hL ?_
 clear hc hL
 induction H' with
 |nil=>trivial
 |cons p r ih=>
  obtain⟨j,o⟩:=p
  simp only[List.map_cons,List.cons.injEq]at hH
  exact⟨hH.1,ih hH.2⟩
theorem Sp.rn {ks0:List Nat} (hS:Sp n S0 g0 w0 σ nb a g w) (ρ:Ny) (L':DL) (H':Hc) (nb':Nat) (hg0:∀k v,g0.N k=some v→k∈ks0) (hc:Gy ρ ks0 L' H' nb'=true:=by kernel_rfl) (hL:Bc σ.1 (An L')=L'.map fun p=>(p.1,p.2.ren (rn ρ)):=by kernel_rfl) (hH:(H'.map fun p=>AS σ.2 (rn ρ p.1))=(H'.map fun p=>some (p.2.ren (rn ρ))):=by kernel_rfl):∃g',Sp n S0 g0 w0 (L',FZ H') nb' a g' w:=
 Sp.ren hg0 hS ρ L' H' nb' hc hL hH
theorem Ab5 {ι : Type} {code : Code} {ks0 : List Nat} (hg0 : ∀ k v, g0.N k = some v → k ∈ ks0) (hS : Sp n S0 g0 w0 σ nb a g w) (m : ι → Nat) (Li : ι → DL) (Hi : ι → Hc) (Pi : ι → Prop) (nb' : Nat) (s0 : ι) (ρ : Ny) (hP : Pi s0)
  (step:∀s a g w,Pi s→Sp n S0 g0 w0 (Li s,FZ (Hi s)) nb' a g w→code.wp P (Exit.then (fun a' w'=>∃s',m s'<m s∧Pi s'∧∃g',Sp n S0 g0 w0 (Li s',FZ (Hi s')) nb' a' g' w') Q) a w)
  (h1:Gy ρ ks0 (Li s0) (Hi s0) nb'=true:=by kernel_rfl) (h2:Bc σ.1 (An (Li s0))=(Li s0).map fun p=>(p.1,p.2.ren (rn ρ)):=by kernel_rfl) (h3:((Hi s0).map fun p=>AS σ.2 (rn ρ p.1))=((Hi s0).map fun p=>some (p.2.ren (rn ρ))):=by kernel_rfl):(Code.loop code).wp P Q a w:=by
 obtain⟨g',hS'⟩:=Sp.ren hg0 hS ρ (Li s0) (Hi s0) nb' h1 h2 h3
 exact Ab6 m Li (fun s=>FZ (Hi s)) Pi s0 hP hS' step
theorem AbW {ι : Type} {ks0 : List Nat} (hg0 : ∀ k v, g0.N k = some v → k ∈ ks0) (hS : Sp n S0 g0 w0 σ nb a g w) {m : ι → Nat} {Li : ι → DL} {Hi : ι → Hc} {Pi : ι → Prop} {nb' : Nat} {s : ι} (s' : ι) (ρ : Ny) (hm : m s' < m s) (hP : Pi s') (h1 : Gy ρ ks0 (Li s') (Hi s') nb' = true := by kernel_rfl) (h2 : Bc σ.1 (An (Li s')) = (Li s').map fun p => (p.1, p.2.ren (rn ρ)) := by kernel_rfl) (h3 : ((Hi s').map fun p => AS σ.2 (rn ρ p.1)) = ((Hi s').map fun p => some (p.2.ren (rn ρ))) := by kernel_rfl) :
  ∃s',m s'<m s∧Pi s'∧∃g',Sp n S0 g0 w0 (Li s',FZ (Hi s')) nb' a g' w:=by
 obtain⟨g',hS'⟩:=Sp.ren hg0 hS ρ (Li s') (Hi s') nb' h1 h2 h3
 exact⟨s',hm,hP,g',hS'⟩
def frd (nn:Bool):Option O→D
 |some (.sl _ e xs)=> .ls nn e xs
 |_=> .top
def Ael:Option O→Bool
 |some (.sl ..)=>true
 |_=>false
def obd:Option O→D
 |some (.ob _ d)=>d
 |_=> .nil
def oty:Option O→TypeId
 |some (.ob t _)=>t
 |_=>0
def wE:Option O→Bool
 |some (.ob ..)=>true
 |_=>false
theorem wD {o:Option O} (h:Ael o=true):∃te e xs,o=some (.sl te e xs):=by
 cases o with
 |none=>cases h
 |some o=>cases o with
  |ob=>cases h
  |sl te e xs=>exact⟨te,e,xs,rfl⟩
theorem Up {o:Option O} (h:wE o=true):o=some (.ob (oty o) (obd o)):=by
 cases o with
 |none=>cases h
 |some o=>cases o with
  |sl=>cases h
  |ob t d=>rfl
theorem Sp.fz (hS:Sp n S0 g0 w0 σ nb a g w) (k:Nat) (hk:Ael (AS σ.2 k)=true:=by kernel_rfl):∃g',Sp n S0 g0 w0 (σ.1.map fun p=>(p.1,p.2.sb k (fun o=> .cp k o) (frd false (AS σ.2 k))),(k,none)::σ.2.map fun p=>(p.1,p.2.map (O.sb · k (fun o=> .cp k o) (frd false (AS σ.2 k))))) nb a g' w:=by
 obtain⟨te,e,xs,h⟩:=wD hk
 rw[h]
 exact St.frz hS.st k false nofun h rfl rfl
theorem Sp.fy (hS:Sp n S0 g0 w0 σ nb a g w) (k:Nat) (te:TypeId) (e:List Fk) (xs:List (RT e)) (hx:xs≠[]) (hk:AS σ.2 k=some (.sl te e xs):=by kernel_rfl):∃g',Sp n S0 g0 w0 (σ.1.map fun p=>(p.1,p.2.sb k (fun o=> .cp k o) (.ls true e xs)),(k,none)::σ.2.map fun p=>(p.1,p.2.map (O.sb · k (fun o=> .cp k o) (.ls true e xs)))) nb a g' w:=
 St.frz hS.st k true (fun _=>hx) hk rfl rfl
theorem Sp.im (hS:Sp n S0 g0 w0 σ nb a g w) (k:Nat) (hk:wE (AS σ.2 k)=true:=by kernel_rfl):∃g',Sp n S0 g0 w0 (σ.1.map fun p=>(p.1,p.2.sb k (fun o=> .im (obd (AS σ.2 k)) o) (.sk k)),(k,none)::σ.2.map fun p=>(p.1,p.2.map (O.sb · k (fun o=> .im (obd (AS σ.2 k)) o) (.sk k)))) nb a g' w:=
 St.imm hS.st k (Up hk) rfl rfl
theorem Sp.wk (hS:Sp n S0 g0 w0 σ nb a g w) (t:Nat) (e:D) (ht:(Do σ.1 t).isSome=true:=by kernel_rfl):Sp n S0 g0 w0 (tH t (weak ((Do σ.1 t).getD .top) e) σ.1,σ.2) nb a g w:=by
 obtain⟨d,hd⟩:=Option.isSome_iff_exists.1 ht
 rw[hd]
 exact St.wk hS.st t e hd rfl
theorem Sp.wko (hS:Sp n S0 g0 w0 σ nb a g w) (k:Nat) (es:List D) (hk:wE (AS σ.2 k)=true:=by kernel_rfl):Sp n S0 g0 w0 (σ.1,(k,some (.ob (oty (AS σ.2 k)) (wkC (obd (AS σ.2 k)) es)))::σ.2) nb a g w:=
 St.wko hS.st k es (Up hk) rfl
theorem Sp.alias (hS:Sp n S0 g0 w0 σ nb a g w) (k:Nat) (hk:(AS σ.2 k).isSome=true:=by kernel_rfl):∃g',Sp n S0 g0 w0 (σ.1.map fun p=>(p.1,p.2.sb k (fun o=> .cp nb o) (.sk nb)),(k,none)::(nb,(AS σ.2 k).map (O.sb · k (fun o=> .cp nb o) (.sk nb)))::σ.2.map fun p=>(p.1,p.2.map (O.sb · k (fun o=> .cp nb o) (.sk nb)))) (nb+1) a g' w:=by
 obtain⟨o,ho⟩:=Option.isSome_iff_exists.1 hk
 rw[ho]
 exact St.alias hS.st k ho rfl rfl
theorem Sp.nilk (hS:Sp n S0 g0 w0 σ nb a g w) (t:Nat) (te:TypeId) (e:List Fk) (ht:Do σ.1 t=some (.v (.slice none 0 0)):=by kernel_rfl):∃g',Sp n S0 g0 w0 (tH t (.sk nb) σ.1,(nb,some (.sl te e []))::σ.2) (nb+1) a g' w:=
 St.nilk hS.st t te e ht rfl rfl
def AfD:Option D→Bool:=Option.isSome
theorem Sp.nilob (hS:Sp n S0 g0 w0 σ nb a g w) (k i:Nat) (te:TypeId) (e:List Fk) (hk:wE (AS σ.2 k)=true:=by kernel_rfl) (hd:AfD (nlD nb i (obd (AS σ.2 k)))=true:=by kernel_rfl):∃g',Sp n S0 g0 w0 (σ.1,(nb,some (.sl te e []))::(k,some (.ob (oty (AS σ.2 k)) ((nlD nb i (obd (AS σ.2 k))).getD .nil)))::σ.2) (nb+1) a g' w:=by
 obtain⟨d',h⟩:=Option.isSome_iff_exists.1 hd
 rw[h]
 exact St.nilob hS.st k i te e (Up hk) h rfl
theorem Sp.nilor (hS:Sp n S0 g0 w0 σ nb a g w) (t:Nat) (e:List Fk) (xs:List (RT e)) (ht:Do σ.1 t=some (.ls false e xs):=by kernel_rfl):(xs=[]∧Sp n S0 g0 w0 (tH t (.v (.slice none 0 0)) σ.1,σ.2) nb a g w)∨Sp n S0 g0 w0 (tH t (.ls true e xs) σ.1,σ.2) nb a g w:=
 St.nilor hS.st t ht rfl rfl
theorem CW (hD:Dfr.ds=([]:List Deferred)) {fn:Func} {c:Con} {e:Exit} (he:e= .normal∨e= .ret) (hS:Sp n (c.foot g0) g0 w0 σ nb a g w) (ds:List D) (Hx:Hp) (hr:weak (X8 ds) c.res=c.res) (h1:DK Hx c.H1 true) (h:I7 P σ.1 σ.2 fn.results.toList=some ds:=by kernel_rfl) (hx:IQ σ.2 (An Hx)=Hx:=by kernel_rfl):bodyPost P fn (Rh fun v w'=>∃g',C6 c g0 w0 v g' w') e a w:=by
 refine AaT hD he hS.st h hr ?_
 have key:∀(r:Hc),DK Hx r true→DK σ.2 r true:=by
  intro r
  induction r with
  |nil=>exact fun h=>h
  |cons p r ih=>
   obtain⟨k,o⟩:=p
   exact fun h=>⟨IY (ts:=An Hx) (by rw[hx];exact h.1),ih h.2⟩
 exact key _ h1
end
end Go.Sx
