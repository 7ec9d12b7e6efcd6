/- Texts that belong together: H27, H28, Y12, H29, Y13, H30, Y14. General lemmas and walks; no conditions. -/
import Derived.Test.YtoefhjabaanokaaDoorB8
import Derived.Test.YtoefhjabaanokaaDoorD7
import Derived.Test.YtoefhjabaanokaaDoorD4
set_option linter.unusedSimpArgs false
set_option linter.unusedVariables false
set_option linter.unnecessarySimpa false
namespace Go.Mi.Term
open Go.Mi Go.Proofs Go.RowKit
structure RY where
 P:Gh->World->Prop
 st:∀{g g':Gh} {w w':World} {C:List Nat},P g w->Ch C w w'->(∀c,c∈C->c∈g.X/\c∉g.Y)->g'.Y=g.Y->(∀x,x∈g'.X->x∈g.X\/w.heap.size<=x)->P g' w'
def RY.rx (κ:RY):RX:=⟨λg w=>g.F=[]/\κ.P g w,λ⟨h1,h2⟩ k hc hf hy hx _=>⟨hf.trans h1,κ.st h2 k (λc hm=>⟨(hc c hm).1,(hc c hm).2.2⟩) hy hx⟩⟩
def noY:RY:=⟨λ_ _=>True,λh _ _ _ _=>h⟩
def fO (b:Nat) (r:Rn) (q:Rv):RY:=⟨λg w=>(∀x,x∈q.F b->x∈g.Y)/\RunAt w g.X b r q,λ{g g'} _ _ _ ⟨h2,h3⟩ k hc hy hx=>⟨by rw[hy];exact h2,h3.mv k (λc hm=>⟨(hc c hm).1,λh=>(hc c hm).2 (h2 c h)⟩) hx λx hm=>by
 have :=h2 x hm;simp [Gh.X,hy,this]⟩⟩
def dW:RY:=⟨λg w=>0∈g.Y/\T0 w,λ{g g' w w' C} ⟨h1,h2⟩ k hc hy _=>⟨by rw[hy];exact h1,hT0 w w' (Ch.below k h2.size λy hm=>by
 rcases Al y with e|e
 ·subst e;exact absurd h1 (hc 0 hm).2
 ·exact e) h2⟩⟩
def d6 (κ κ':RY):RY:=⟨λg w=>κ.P g w/\κ'.P g w,λ⟨h1,h2⟩ k hc hy hx=>⟨κ.st h1 k hc hy hx,κ'.st h2 k hc hy hx⟩⟩
def du (κ:RY) (base e m:Nat) (v:Value) (l:Nat) (R:CX):RX:=⟨λg w=>κ.P g w/\base<=w.heap.size/\(∀y,y∈g.Y->y<base)/\g.F=bC v/\∃xs,Own w base e m v l xs/\R.R w g.X xs,λ{g g'} _ _ _ ⟨h1,h2,h3,h4,xs,h5,h6⟩ k hc hf hy hx _=>
 ⟨κ.st h1 k (λc hm=>⟨(hc c hm).1,(hc c hm).2.2⟩) hy hx,zy h2 k.size,by rw[hy];exact h3,hf.trans h4,xs,h5.mv k λb hb hm=>(hc b hm).2.1 (by rw[h4];exact hb),R.st h6 k (λy hy=>(hc y hy).1) hx⟩⟩
def fh (κ:RY) (base e m k:Nat) (l:Nat) (R:CX):RX:=⟨λg w=>∃v,g.N[k]? =some v/\(du κ base e m v l R).P g w,λ⟨v,h1,h2⟩ k hc hf hy hx hN=>⟨v,hN _ _ h1,(du κ base e m v l R).st h2 k hc hf hy hx hN⟩⟩
def dD (ts:List Tm):CX:=⟨λw X vs=>IsTs w X ts vs,λh k hy hx=>IsTs.mv k hy hx _ _ h⟩
def gT (ks:List Ky):CX:=⟨λw X vs=>AllIs (KyIs w X) ks vs,λh k hy hx=>h.imp λ_ _ e=>e.mv k hy hx⟩
def wV (m:Nat) (L:TL TT):TL TT->Prop
 |[]=>True
 |(t,s)::r=>(∃s0,lkS L t=some s0/\∀g w v,s0.hold g w v->s.hold ⟨g.F,g.M,g.Y,g.N.take m⟩ w v)/\wV m L r
theorem pC {m:Nat} {L:TL TT}:∀{L':TL TT} {t:Nat} {s:Sp TT},wV m L L'->lkS L' t=some s->∃s0,lkS L t=some s0/\∀g w v,s0.hold g w v->s.hold ⟨g.F,g.M,g.Y,g.N.take m⟩ w v
 |(u,v)::r,t,s,h,hs=>by
  simp only[lkS]at hs;by_cases e:u=t
  ·subst e;simp at hs;subst hs;exact h.1
  ·rw[el e]at hs;exact pC h.2 hs
 |[],t,s,_,hs=>by simp [lkS]at hs
theorem oo {m k:Nat} (hk:k<m) (g:Gh) (w:World) (v:Value) (h:(nwS k).hold g w v):(nwS k).hold ⟨g.F,g.M,g.Y,g.N.take m⟩ w v:=by show(g.N.take m)[k]? =some v;rw[AB hk];exact h
theorem SS.cut {L L':TL TT} {n m:Nat} {ρ ρ':RX} {ns l:List (Nat×Sp TT)} {g0 g:Gh} {w0 w:World} {a:Act} (h:SS L n (stB ρ (ns++l)) g0 w0 a g w) (hm:ns.length=m) (h0:g0.N=[]) (hρ:ρ.P g w->ρ'.P ⟨g.F,g.M,g.Y,g.N.take m⟩ w) (hns:∀(k:Nat) p,ns[k]? =some p->p.1≠0->∀g w v,p.2.hold g w v->p.2.hold ⟨g.F,g.M,g.Y,g.N.take m⟩ w v) (hL:wV m L L'):SS L' n (stB ρ' ns) g0 w0 a ⟨g.F,g.M,g.Y,g.N.take m⟩ w:=by
 have hb:StB ρ (ns++l) g w:=h.b;have d:∀(j:Nat) (b:Nat),(g.N.take m)[j]? =some (vp b)->j<m/\g.N[j]? =some (vp b):=λj b hj=>by
  rcases zF j m with h'|h'
  ·exact⟨h',by rw[AB h']at hj;exact hj⟩
  ·rw[zz (by rw[List.length_take];omega)]at hj;cases hj
 refine⟨⟨h.t.ch,h.t.sub,h.t.y,h.t.m,⟨g.N.take m,by simp [h0]⟩⟩,⟨⟨hb.wf.lt,hb.wf.dj⟩,λj b hj=>hb.pl j b (d j b hj).2,hρ hb.run,λj k b hj hk=>hb.nd j k b (d j b hj).2 (d k b hk).2,?_,λk p hp h0=> ?_⟩,h.f.size,h.f.defers,λt s hs=> ?_⟩
 ·have :=hb.len;rw[zP]at this;simp only[List.length_take];omega
 ·have e : k < ns.length := by
   rcases zF k ns.length with h'|h'
   ·exact h'
   ·rw[zz h']at hp;cases hp
  obtain⟨b,c,h1,h2,h3,h4⟩:=hb.cell k p (by rw[zL e];exact hp) h0;exact⟨b,c,by show(g.N.take m)[k]? =_;rw[AB (by omega)];exact h1,h2,h3,hns k p hp h0 _ _ _ h4⟩
 ·obtain⟨s0,h1,h2⟩:=pC hL hs;exact h2 g w _ (h.f.get t s0 h1)
theorem SS.openG {L:TL TT} {n k t base e m l:Nat} {κ:RY} {R:CX} {ns:List (Nat×Sp TT)} {g0 g:Gh} {w0 w:World} {a:Act} (h:SS L n (stB (fh κ base e m k l R) ns) g0 w0 a g w) (ht:lkS L t=some (nwS k)):∃v,SS ((t,eqS v)::L) n (stB (du κ base e m v l R) ns) g0 w0 a g w:=by
 obtain⟨v,h1,h2⟩:=h.b.run;refine⟨v,h.t,⟨h.b.wf,h.b.pl,h2,h.b.nd,h.b.len,h.b.cell⟩,h.f.size,h.f.defers,λt' s hs=> ?_⟩;simp only[lkS]at hs;by_cases e:t=t'
 ·subst e;simp at hs;subst hs;have h3:g.N[k]? =some (a.tmps.getD t undef):=h.f.get t _ ht;rw[h1]at h3;cases h3;rfl
 ·rw[el e]at hs;exact h.f.get t' s hs
section
set_option maxRecDepth 100000
variable {ops:List Oper} {n:Nat} {B:Nat->BX XX} {i p b k o:Nat} {L:TL TT} {ph:List Nat} {ρ:RX} {ns:List (Nat×Sp TT)} {ds:Option Tmp} {ty:TypeId} {pos:String} {af:Array Edge} {gu:Option (Nat×Bool)} {t:TypeId} {v:Value} {x y z:Operand} {κ:RY} {base e m l l2:Nat} {R R2 R3:CX}
theorem r3 {bytes : Nat} {zv : Value} {s2 : Sp TT} (hB0 : B p = stB (du κ base e m v l R) ns) (hB1 : B (p + 1) = stB (fh κ base e m ns.length (l + l2) R3) (ns ++ [(0, bB)])) (hk : ns.length = k) (hop : ops.getD i default = ⟨ds, .call ⟨.builtin .append, #[x, y], #[ty, ty]⟩, t, pos, af, gu⟩)
  (ht:Tryd.prog.underlying ty=some (.slice e)) (hi:(Tryd.prog.info? e).map (λi=>(i.size,i.bytes,i.zero))=some (m,bytes,some zv)) (hzs:zv.cells.size=m) (hm0:0<m) (hx:spO L x=some (eqS v)) (hy:spO L y=some s2) (hs:∀g w u,s2.hold g w u->∃b o cap ys,u= .slice (some ⟨b,o,none⟩) l2 cap/\At w b o ys/\ys.length=l2*m/\(∀u∈ys,u.oneCell'=true)/\R2.R w g.X ys)
  (hR:∀w X xs ys,R.R w X xs->R2.R w X ys->R3.R w X (xs++ys)) (hsz:(l+l2)*bytes<=140737488355328) (hsm:l+l2<=maxLen):EOb Tryd.prog n ops XX B ⟨i,L,nwS k,ph,true⟩ p:=by
 subst hk;intro ξ g w hB hH;rw[hB0]at hB;have hB:StB (du κ base e m v l R) ns g w:=hB;show Ok1 Tryd.prog (ops.getD i default) _ _ _ _;rw[hop];obtain⟨h1,h2,h3,h4,xs,h5,h6⟩:=hB.run;have e0:=bF (ξ:=ξ) hx;obtain⟨vy,e1,k1⟩:=bH hy hH;obtain⟨b1,o1,c1,ys,rfl,q,h,f,r⟩:=hs _ _ _ k1;have a:g.N.length=ns.length:=hB.len;refine(dH ht hi hzs hm0 e0 e1 h5 h q f hsz hsm h2).mono ?_;rintro v' w' ⟨hown,hch,ho⟩;have c:∀z,z∈bC v'->z∈g.F\/w.heap.size<=z:=λz hz=>by
  rcases ho with e|e
  ·rw[e]at hz;exact .inl (by rw[h4];exact hz)
  ·rw[e]at hz;exact .inr (by rw[zt.1 hz];exact zH _)
 have hX:∀z,z∈bC v'++(g.M++g.Y)->z∈g.X\/w.heap.size<=z:=λz hz=>by
  rcases zr.1 hz with hz|hz
  ·rcases c z hz with h3|h3
   ·exact .inl (by simp [Gh.X,h3])
   ·exact .inr h3
  ·exact .inl (by simp only[Gh.X,zr]at hz⊢;exact .inr hz)
 have d:∀z,z∈bC v->z∈g.X:=λz hz=>by simp [Gh.X,h4,hz]
 have j:∀z,z∈bC v->z∈g.X/\z∉g.Y:=λz hz=>⟨d z hz,λhm=>by have :=h3 z hm;have :=(Own.lt h5 z hz).1;omega⟩;obtain⟨t1,t2⟩:=hB.run' (ρ':=fh κ base e m ns.length (l+l2) R3) (g':=⟨bC v',g.M,g.Y,g.N++[v']⟩) (w':=w') (l:=[v']) (l':=[(0,bB)]) (by rw[h4];exact hch) c (λz hz=>(Own.lt hown z hz).2) rfl rfl rfl rfl (λu hu b'=>by
  rw[zt.1 hu];rcases Own.at hown with⟨rfl,_⟩|⟨_,_,rfl,_⟩<;>simp) (λu hu=>by rw[zt.1 hu]) ⟨v',by simp [<-a],κ.st h1 hch j rfl hX,zy h2 hch.size,h3,rfl,xs++ys,hown,hR _ _ _ _ (R.st h6 hch d hX) (R2.st r hch d hX)⟩
 exact⟨_,⟨t1,by show(B (p+1)).P _ _;rw[hB1];exact t2⟩,by show(g.N++[v'])[ns.length]? =some v';simp [<-a]⟩
end
end Go.Mi.Term
namespace Go.Mi.Term
open Go.Mi Go.Proofs Go.RowKit
abbrev kdS (ks:List Tm):Sp TT:= .pr ⟨λg w v=>∃xs,SlA w g.X v ks.length xs/\IsTs w g.X ks xs,λ⟨xs,h1,h2⟩ k=>⟨xs,h1.mv k.ch (Gh.sub _) k.X,IsTs.mv k.ch (Gh.sub _) k.X _ _ h2⟩⟩
abbrev plT (t : Tm) : Sp TT := .pr ⟨λg w v => ∃ b o vs, v = vP b o /\ b ∉ g.X /\ b < w.heap.size /\ At w b o vs /\ IsT w g.X t vs, λ⟨b, o, vs, h1, h2, h3, h4, h5⟩ k => ⟨b, o, vs, h1, λhm => by
  rcases k.X b hm with h6|h6
  ·exact h2 h6
  ·omega,zE h3 k.ch.size,h4.mv k.ch λhm=>h2 (Gh.sub _ b hm),IsT.mv k.ch (Gh.sub _) k.X _ _ h5⟩⟩
theorem dN {α:Type} {l:List α} {j:Nat} {a:α} (h:l[j]? =some a):j<l.length:=by
 rcases zF j l.length with h'|h'
 ·exact h'
 ·rw[zz h']at h;cases h
section
set_option maxRecDepth 100000
variable {ops:List Oper} {n:Nat} {B:Nat->BX XX} {i p b k o:Nat} {L:TL TT} {ph:List Nat} {ρ:RX} {ns:List (Nat×Sp TT)} {ds:Option Tmp} {ty:TypeId} {pos:String} {af:Array Edge} {gu:Option (Nat×Bool)} {t:TypeId} {v:Value} {x y z:Operand} {ks:List Tm}
theorem vO {kk nm:Int} (hop:ops.getD i default=⟨ds,.load 24 x,t,pos,af,gu⟩) (hB0:B p=stB ρ ns) (hx:spO L x=some (nwO k 2)) (hk:ns[k]? =some (26,tmS (.mk kk nm ks))):EOb Tryd.prog n ops XX B ⟨i,L,kdS ks,ph,false⟩ p:=bN λξ g w hB hH=>by rw[hB0]at hB;have hB:StB ρ ns g w:=hB;rw[hop];obtain⟨vx,h1,b',h2,rfl⟩:=bH hx hH;obtain⟨b,c,h5,_,h7,a1,a2,sl,e,h8⟩:=hB.cell k _ hk (show(26:Nat)≠0 by decide);rw[h5]at h2;cases h2;cases e;simp only[IsT]at h8;obtain⟨sl',xs,e2,h9,h10⟩:=h8;simp only[List.cons.injEq,and_true]at e2;obtain⟨_,_,rfl⟩:=e2;exact⟨_,⟨xs,h9,h10⟩,bJ u24 rfl h1 (by rw[cG h7];rfl)⟩
theorem tI (hop:ops.getD i default=⟨ds,.call ⟨.builtin .len,#[x],#[24]⟩,t,pos,af,gu⟩) (hx:spO L x=some (kdS ks)):EOb Tryd.prog n ops XX B ⟨i,L,eI ks.length,ph,false⟩ p:=bN λξ g w hB hH=>by
 rw[hop];obtain⟨vx,h1,xs,h2,_⟩:=bH hx hH;refine⟨_,rfl,?_⟩;rcases h2 with⟨rfl|⟨_,_,rfl⟩,h3,_⟩|⟨_,_,_,rfl,_⟩
 ·rw[h3];exact bW u24 h1
 ·rw[h3];exact bW u24 h1
 ·exact bW u24 h1
theorem vR {j:Nat} {u:Tm} (hop:ops.getD i default=⟨ds,.indexAddr 24 x y,t,pos,af,gu⟩) (hx:spO L x=some (kdS ks)) (hy:spO L y=some (eI j)) (hj:ks[j]? =some u):EOb Tryd.prog n ops XX B ⟨i,L,plT u,ph,false⟩ p:=bN λξ g w hB hH=>by
 rw[hop];have hjl:=dN hj;obtain⟨vx,h1,xs,h2,h3⟩:=bH hx hH;rcases h2 with⟨_,h4,_⟩|⟨b,o,cap,rfl,h4,h5,h6⟩
 ·omega
 ·obtain⟨vs,k1,k2⟩:=IsTs.at h3 h6 j u hj;exact⟨_,⟨b,_,vs,rfl,h4,h5,k2,k1⟩,dU u24 b6 h1 (bF hy) rfl hjl⟩
theorem xD {u:Tm} (hop:ops.getD i default=⟨ds,.load 26 x,t,pos,af,gu⟩) (hx:spO L x=some (plT u)):EOb Tryd.prog n ops XX B ⟨i,L,tmS u,ph,false⟩ p:=bN λξ g w hB hH=>by rw[hop];obtain⟨vx,h1,b,o,vs,rfl,h3,h4,h5,h6⟩:=bH hx hH;obtain⟨_,_,_,_,_,rfl⟩:=h6.form;exact⟨_,⟨_,_,_,rfl,h6⟩,cb u26 rfl b6 h1 h5 rfl⟩
theorem ws {kk nm:Int} {ks':List Tm} (hB0:B p=stB ρ ns) (hB1:B (p+1)=stB ρ (ns.set k (26,tmS (.mk kk nm ks)))) (hop:ops.getD i default=⟨ds,.store 24 x y,t,pos,af,gu⟩) (hx:spO L x=some (nwO k 2)) (hy:spO L y=some (kdS ks)) (hk:ns[k]? =some (26,tmS (.mk kk nm ks'))):EOb Tryd.prog n ops XX B ⟨i,L,bB,ph,true⟩ p:=by
 intro ξ g w hB hH;rw[hB0]at hB;have hB:StB ρ ns g w:=hB;show Ok1 Tryd.prog (ops.getD i default) _ _ _ _;rw[hop];obtain⟨vx,h1,b',h2,rfl⟩:=bH hx hH;obtain⟨vy,h3,xs,h4,h4'⟩:=bH hy hH;obtain⟨b,c,h5,h6,h7,a1,a2,sl,e,h8⟩:=hB.cell k _ hk (show(26:Nat)≠0 by decide);rw[h5]at h2;cases h2;cases e;simp only[IsT]at h8;obtain⟨sl',xs',e2,h9,h10⟩:=h8;simp only[List.cons.injEq,and_true,Value.int.injEq,true_and]at e2;obtain⟨rfl,rfl,rfl⟩:=e2;have h1c:vy.oneCell'=true:=by rcases h4 with⟨rfl|⟨_,_,rfl⟩,_⟩|⟨_,_,_,rfl,_⟩<;>rfl
 refine(dk fM h1 h3 h1c h7 (by simp)).mono ?_;intro _ w' hu;obtain⟨k1,k2⟩:=hB.upd (sp':=tmS (.mk a1 a2 ks)) hk (show(26:Nat)≠0 by decide) h5 (c:= #[.int .i64 a1,.int .i64 a2,vy]) (by simpa using hu) ⟨_,_,_,rfl,by simp only[IsT];exact⟨_,xs,rfl,h4,h4'⟩⟩;exact⟨g,⟨k1,by show(B (p+1)).P _ _;rw[hB1];exact k2⟩,zo⟩
end
theorem dC {α:Type} {l:List α} {j:Nat} {a:α} (h:l[j]? =some a):l.take (j+1)=l.take j++[a]:=by rw[AS,h];rfl
abbrev rwS (l:Nat) (R:CX):Sp TT:= .pr ⟨λg w v=>∃xs,SlA w g.X v l xs/\R.R w g.X xs,λ⟨xs,h1,h2⟩ k=>⟨xs,h1.mv k.ch (Gh.sub _) k.X,R.st h2 k.ch (Gh.sub _) k.X⟩⟩
theorem SS.freeze {L:TL TT} {n t base e m l:Nat} {κ:RY} {R:CX} {v:Value} {ns:List (Nat×Sp TT)} {g0 g:Gh} {w0 w:World} {a:Act} (h:SS L n (stB (du κ base e m v l R) ns) g0 w0 a g w) (ht:lkS L t=some (eqS v)):SS ((t,rwS l R)::L) n (stB κ.rx ns) g0 w0 a ⟨[],g.M,g.Y,g.N⟩ w:=by
 have hb:StB (du κ base e m v l R) ns g w:=h.b;obtain⟨h1,h2,h3,h4,xs,h5,h6⟩:=hb.run;have c:∀x,x∈(⟨[],g.M,g.Y,g.N⟩:Gh).X->x∈g.X:=λx hx=>by simp only[Gh.X,Au,zr]at hx⊢;exact .inr hx
 have hT:TT g w ⟨[],g.M,g.Y,g.N⟩ w:=⟨Ch.refl _ _,λx hx=> .inl (by simp at hx;simp [hx]),rfl,λ_ h=>h,⟨[],by simp⟩⟩;refine⟨h.t.trans hT,⟨⟨λx hx=>hb.wf.lt x (c x hx),λx hx=>⟨by simp,(hb.wf.dj x hx).2⟩⟩,hb.pl,⟨rfl,κ.st h1 (Ch.refl [] w) (by simp) rfl λx hx=> .inl (c x hx)⟩,hb.nd,hb.len,λk p hp h0=>(hb.cell k p hp h0).mv hT λ_ _ _=>rfl⟩,h.f.size,h.f.defers,λt' s hs=> ?_⟩;simp only[lkS]at hs;by_cases e:t=t'
 ·subst e;simp at hs;subst hs;have h7:a.tmps.getD t undef=v:=h.f.get t _ ht;refine⟨xs,?_,R.st h6 (Ch.refl [] w) (by simp) (λx hx=> .inl (c x hx))⟩;rw[h7];rcases Own.at h5 with⟨e1,e2,e3⟩|⟨b,d,e1,hc,e3⟩
  ·exact .inl ⟨.inl e1,e2,e3⟩
  ·obtain⟨d,rfl⟩:=Nat.le.dest hc;have i:b∈bC v:=by rw[e1];simp [bC]
   have j:=Own.lt h5 b i;refine .inr ⟨b,0,d,e1,λhm=> ?_,j.2,e3⟩;simp only[Gh.X,Au,zr]at hm;rcases hm with hm|hm
   ·exact(hb.wf.dj b hm).1 (by rw[h4];exact i)
   ·have :=h3 b hm;omega
 ·rw[el e]at hs;exact Sp.mv (h.f.get t' s hs) hT
theorem sQ {x:Tm} (g:Gh) (w:World) (u:Value) (h:(tfS [x]).hold g w u):∃b o cap ys,u= .slice (some ⟨b,o,none⟩) 1 cap/\At w b o ys/\ys.length=1*3/\(∀u∈ys,u.oneCell'=true)/\(dD [x]).R w g.X ys:=by obtain⟨b,o,cap,xs,e,_,_,_,h3,h4⟩:=h;exact⟨b,o,_,xs,e,h3,(IsTs.len h4).trans (by simp),IsTs.cells1 h4,h4⟩
theorem pO {ts us:List Tm} (w:World) (X:List Nat) (xs ys:List Value) (h:(dD ts).R w X xs) (k:(dD us).R w X ys):(dD (ts++us)).R w X (xs++ys):=IsTs.app h k
theorem kP {w:World} {base e m:Nat}:Own w base e m vN 0 []:=⟨by simp,.inl ⟨rfl,rfl⟩⟩
theorem SS.rxg {L:TL TT} {n:Nat} {κ:RY} {X:List Nat} {ns:List (Nat×Sp TT)} {g:Gh} {w0 w:World} {a:Act} (h:SS L n (stB κ.rx ns) ⟨[],[],X,[]⟩ w0 a g w):Gr w0 w:=h.gr0
end Go.Mi.Term
namespace Go.Mi.Term
open Go.Mi Go.Proofs Go.RowKit
set_option maxRecDepth 100000 in
set_option maxHeartbeats 4000000 in
theorem rF {kk nm:Int} {ks:List Tm} (hl:ks.length<=1000000) (ih:∀x,x∈ks->∀(X:List Nat) (v:Value) (w:World),(∀x,x∈X->x<w.heap.size)->TmIs w X x v->Calls Tryd.prog 63 (List.toArray [v]) w (Ret λv' w'=>Gr w w'/\TmIs w' X x v')) {X:List Nat} {v:Value} (w0:World) (hX:∀x,x∈X->x<w0.heap.size) (hv:TmIs w0 X (.mk kk nm ks) v):Calls Tryd.prog 63 (List.toArray [v]) w0 (Ret λv w'=>Gr w0 w'/\TmIs w' X (.mk kk nm ks) v):=by
 refine bY (F:=[]) (ρ:=du noY w0.heap.size 26 3 vN 0 (dD ([]))) [tmS (.mk kk nm ks)] hX ⟨zo,zH _,hX,rfl,[],kP,rfl⟩ ⟨hv,zo⟩ Tryd.func63 rfl Tryd.ntmps63 rfl λac hS=> ?_;refine wp_seq ?_;refine rx [e1 0 [(0,tmS (.mk kk nm ks))] (nwS 0),⟨1,[],nwS 1,[1],true⟩] [1,2] (Bl [stB (du noY w0.heap.size 26 3 vN 0 (dD ([]))) [],stB (du noY w0.heap.size 26 3 vN 0 (dD ([]))) [(26,tmS (.mk kk nm ks))],stB (du noY w0.heap.size 26 3 vN 0 (dD ([]))) [(26,tmS (.mk kk nm ks)),(26,cH 3)]]) 2 [(1,nwS 0),(2,nwS 1)] ⟨⟨cY rfl rfl rfl rfl (bT _).sized rfl,zo⟩,⟨cC rfl rfl rfl z26 rfl rfl,zo⟩,zo⟩ hS rfl λac g w hS=> ?_;refine wp_seq ?_;refine rz hS [] [1,2,3] [(1,nwS 0),(2,nwS 1),(3,eqS vN)] zo λac g w hS=> ?_;refine wp_seq ?_;refine wp_seq ?_;refine rz hS [e0 0 [(1,nwS 0)] (nwO 0 2),e0 1 [(6,nwO 0 2)] (kdS ks),e0 2 [(7,kdS ks)] (eI ks.length)] [1,2,3,7,8,9] [(1,nwS 0),(2,nwS 1),(3,eqS vN),(7,kdS ks),(8,eI ks.length),(9,eI 0)] ⟨⟨bE (k:=0) rfl rfl rfl rfl (by decide) (by kernel_rfl),zo⟩,⟨vO rfl rfl rfl rfl,zo⟩,⟨tI rfl rfl,zo⟩,zo⟩ λac g w hS=> ?_;refine bA ?_;refine wp_block ?_;refine ca (λa ac w=>∃(j:Nat) (u:Value) (g:Gh),a=ks.length-j/\(j<=ks.length)/\SS [(1,nwS 0),(2,nwS 1),(3,eqS u),(7,kdS ks),(8,eI ks.length),(9,eI j)] 22 (stB (du noY w0.heap.size 26 3 u j (dD (ks.take j))) [(26,tmS (.mk kk nm ks)),(26,cH 3)]) ⟨[],[],X,[]⟩ w0 ac g w) _ ⟨0,vN,_,rfl,zV _,hS.to ⟨rfl,rfl,rfl,rfl,rfl,rfl,zo⟩⟩ ?_;rintro _ ac w ⟨j,u,g,rfl,hj,hS⟩;refine wp_seq ?_;refine rz hS [] [1,2,3,7,8,9,10] [(1,nwS 0),(2,nwS 1),(3,eqS u),(7,kdS ks),(8,eI ks.length),(9,eI j),(10,eB (decide ((j:Int)<ks.length)))] zo λac g w hS=> ?_;refine wp_seq ?_;refine cr hS.f.frm rfl (λh=> ?_) (λh=> ?_)
 ·have hc:=zB h;clear h;have hc:=AA.1 hc;obtain⟨x,hx⟩:∃x,ks[j]? =some x:=⟨_,zp hc⟩;refine wp_skip ?_;refine wp_seq ?_;refine wp_block ?_;refine wp_seq ?_;refine rx [e0 0 [(7,kdS ks),(9,eI j)] (plT x),e0 1 [(11,plT x)] (tmS x),e1 2 [] (nwS 2),⟨3,[(5,nwS 2),(12,tmS x)],bB,[1],true⟩] [1,2,3,5,7,8,9] (Bl [stB (du noY w0.heap.size 26 3 u j (dD (ks.take j))) [(26,tmS (.mk kk nm ks)),(26,cH 3)],stB (du noY w0.heap.size 26 3 u j (dD (ks.take j))) [(26,tmS (.mk kk nm ks)),(26,cH 3),(26,cH 3)],stB (du noY w0.heap.size 26 3 u j (dD (ks.take j))) [(26,tmS (.mk kk nm ks)),(26,cH 3),(26,tmS x)]]) 2 [(1,nwS 0),(2,nwS 1),(3,eqS u),(5,nwS 2),(7,kdS ks),(8,eI ks.length),(9,eI j)] ⟨⟨vR rfl rfl rfl hx,zo⟩,⟨xD rfl rfl,zo⟩,⟨cC rfl rfl rfl z26 rfl rfl,zo⟩,⟨cB (k:=2) (m:=3) rfl rfl rfl rfl rfl rfl (by decide) b6 (cf 3) (bT _),zo⟩,zo⟩ hS rfl λac g w hS=> ?_;refine rx [e0 1 [(5,nwS 2)] (tmS x),e0 2 [(14,tmS x)] (tmS x),e0 3 [(15,tmS x)] (tfS [x]),e1 4 [(13,eqS u),(16,tfS [x])] (nwS 3)] [1,2,3,7,8,9] (Bl [stB (du noY w0.heap.size 26 3 u j (dD (ks.take j))) [(26,tmS (.mk kk nm ks)),(26,cH 3),(26,tmS x)],stB (fh noY w0.heap.size 26 3 3 (j+1) (dD (ks.take j++[x]))) [(26,tmS (.mk kk nm ks)),(26,cH 3),(26,tmS x),(0,bB)]]) 1 [(1,nwS 0),(2,nwS 1),(3,nwS 3),(7,kdS ks),(8,eI ks.length),(9,eI j)] ⟨⟨cg (k:=2) rfl rfl rfl rfl (by decide) u26 rfl b6 (bT _).sized,zo⟩,⟨bX rfl λξ g w hB hH=>a_ c63 rfl (ih x (zC hx) _ _ w hB.wf.lt (hH 14 _ rfl)),zo⟩,⟨de rfl rfl rfl,zo⟩,⟨r3 rfl rfl rfl rfl u24 kR rfl (by decide) rfl rfl (R2:=dD [x]) sQ pO (by omega) (by unfold maxLen;omega),zo⟩,zo⟩ hS rfl λac g w hS=> ?_;refine bR ?_;refine rz hS [e0 0 [(9,eI j)] (eI (((j:Nat):Int)+1))] [1,2,3,7,8,9] [(1,nwS 0),(2,nwS 1),(3,nwS 3),(7,kdS ks),(8,eI ks.length),(9,eI (((j:Nat):Int)+1))] ⟨⟨bN λξ g w hB hH=>⟨_,rfl,ci rfl rfl (bK (by omega) (by omega))⟩,zo⟩,zo⟩ λac g w hS=> ?_;refine bA ?_;obtain⟨u2,hS⟩:=hS.openG (t:=3) rfl;refine⟨_,?_,j+1,u2,_,rfl,hc,hS.cut (ns:=[(26,tmS (.mk kk nm ks)),(26,cH 3)]) (m:=2) rfl rfl (λh=>by rw[dC hx];exact h) (λk p hp _ _ _ _ hh=>by match k,hp with |0,hp=>cases hp;exact hh|1,hp=>cases hp;exact hh) ⟨⟨_,rfl,oo (by decide)⟩,⟨_,rfl,oo (by decide)⟩,⟨_,rfl,λ_ _ _ h=>h⟩,⟨_,rfl,λ_ _ _ h=>h⟩,⟨_,rfl,λ_ _ _ h=>h⟩,⟨_,rfl,λ_ _ _ h=>h⟩,zo⟩⟩;omega
 ·have hc:=of_decide_eq_false h;clear h;obtain rfl:j=ks.length:=by omega
  rw[Ae]at hS;refine wp_exit ?_;refine bM ?_;refine bM ?_;refine bZ ?_;refine wp_seq ?_;have hS:=hS.freeze (t:=3) rfl;refine rx [e0 1 [(1,nwS 0)] (nwO 0 2),e1 2 [(20,nwO 0 2),(19,kdS ks)] bB] [1,2,3,7,8] (Bl [stB noY.rx [(26,tmS (.mk kk nm ks)),(26,cH 3)],stB noY.rx [(26,tmS (.mk kk nm ks)),(26,cH 3)]]) 1 [(1,nwS 0),(2,nwS 1),(3,kdS ks),(7,kdS ks),(8,eI ks.length)] ⟨⟨bE (k:=0) rfl rfl rfl rfl (by decide) (by kernel_rfl),zo⟩,⟨ws (k:=0) rfl rfl rfl rfl rfl rfl,zo⟩,zo⟩ hS rfl λac g w hS=> ?_;refine wp_seq ?_;refine rx [e0 0 [(1,nwS 0)] (tmS (.mk kk nm ks)),e1 1 [(2,nwS 1),(21,tmS (.mk kk nm ks))] bB] [1,2,3,7,8] (Bl [stB noY.rx [(26,tmS (.mk kk nm ks)),(26,cH 3)],stB noY.rx [(26,tmS (.mk kk nm ks)),(26,tmS (.mk kk nm ks))]]) 1 [(1,nwS 0),(2,nwS 1),(3,kdS ks),(7,kdS ks),(8,eI ks.length)] ⟨⟨cg (k:=0) rfl rfl rfl rfl (by decide) u26 rfl b6 (bT _).sized,zo⟩,⟨cB (k:=1) (m:=3) rfl rfl rfl rfl rfl rfl (by decide) b6 (cf 3) (bT _),zo⟩,zo⟩ hS rfl λac g w hS=> ?_;refine wp_ret ?_;obtain⟨v0,c,b⟩:=hS.rv (x:=2) (k:=1) (m:=3) (ty:=26) rfl rfl (by decide) u26 rfl b6 (bT _).sized;exact bv hS.f.frm (bw Tryd.results63 c) ⟨hS.gr0,b.sub hS.sub0⟩
theorem lc (t:Tm):Few t->∀(X:List Nat) (v:Value) (w:World),(∀x,x∈X->x<w.heap.size)->TmIs w X t v->Calls Tryd.prog 63 (List.toArray [v]) w (Ret λv' w'=>Gr w w'/\TmIs w' X t v'):=by
 refine Tm.ind (p:=λt=>Few t->∀(X:List Nat) (v:Value) (w:World),(∀x,x∈X->x<w.heap.size)->TmIs w X t v->Calls Tryd.prog 63 (List.toArray [v]) w (Ret λv' w'=>Gr w w'/\TmIs w' X t v')) ?_ t;intro k nm ks ih ho X v w hX hv;cases ho with
 |mk h1 h2=>exact rF h1 (λx hx=>ih x hx (h2 x hx)) w hX hv
end Go.Mi.Term
namespace Go.Mi.Term
open Go.Mi Go.Proofs Go.RowKit
theorem jp {κ:RY} {base e m l:Nat} {v:Value} {R:CX} {b:Nat} {r:Rn} {q:Rv} (h:∀g w,κ.P g w->RunAt w g.X b r q):gp (du κ base e m v l R) b r q:=λg w k=>h g w k.1
theorem ny (b:Nat) (r:Rn) (q:Rv):∀g w,(fO b r q).P g w->RunAt w g.X b r q:=λ_ _ h=>h.2
theorem qV {w:World} {X X':List Nat} {l:Nat} {v:Value} {R:CX} (h:∃xs,SlA w X v l xs/\R.R w X xs) (hs:∀x,x∈X'->x∈X):∃xs,SlA w X' v l xs/\R.R w X' xs:=by obtain⟨xs,h1,h2⟩:=h;exact⟨xs,h1.mv (Ch.refl [] w) (by simp) λx hx=> .inl (hs x hx),R.st h2 (Ch.refl [] w) (by simp) λx hx=> .inl (hs x hx)⟩
section
set_option maxRecDepth 100000
variable {ops:List Oper} {n:Nat} {B:Nat->BX XX} {i p b k o:Nat} {L:TL TT} {ph:List Nat} {ρ:RX} {ns:List (Nat×Sp TT)} {ds:Option Tmp} {ty:TypeId} {pos:String} {af:Array Edge} {gu:Option (Nat×Bool)} {t:TypeId} {v:Value} {x y z:Operand} {r:Rn} {q:Rv}
theorem vM {j:Nat} {u:Tm} (hr:gp ρ b r q) (hB0:B p=stB ρ ns) (hop:ops.getD i default=⟨ds,.load 26 x,t,pos,af,gu⟩) (hx:spO L x=some (eP (bkV q.vk) (j*3))) (hj:r.known[j]? =some u):EOb Tryd.prog n ops XX B ⟨i,L,tmS u,ph,false⟩ p:=bN λξ g w hB hH=>by rw[hB0]at hB;have hB:StB ρ ns g w:=hB;rw[hop];have h:=hr g w hB.run;obtain⟨cap,_,hat⟩:=fy h.rs.kn (by have :=dN hj;omega);obtain⟨vs,k1,k2⟩:=IsTs.at h.rs.kt hat j u hj;obtain⟨_,_,_,_,_,rfl⟩:=k1.form;rw[Aj]at k2;exact⟨_,⟨_,_,_,rfl,k1⟩,cb u26 rfl b6 (bF hx) k2 rfl⟩
theorem vL {j:Nat} {e:Ky} (hr:gp ρ b r q) (hB0:B p=stB ρ ns) (hop:ops.getD i default=⟨ds,.load 58 x,t,pos,af,gu⟩) (hx:spO L x=some (eP (bkV q.vy) (j*6))) (hj:r.keys[j]? =some e):EOb Tryd.prog n ops XX B ⟨i,L,agS (cxK e),ph,false⟩ p:=bN λξ g w hB hH=>by rw[hB0]at hB;have hB:StB ρ ns g w:=hB;rw[hop];obtain⟨ts,k1,k2⟩:=r9 (hr g w hB.run).rs hj;obtain⟨_,_,_,_,_,rfl⟩:=k1.form;exact⟨_,⟨_,rfl,_,rfl,k1⟩,cb u58 rfl nW (bF hx) k2 rfl⟩
theorem tM {j:Nat} {e:Ky} (hr:gp ρ b r q) (hB0:B p=stB ρ ns) (hop:ops.getD i default=⟨ds,.load 26 x,t,pos,af,gu⟩) (hx:spO L x=some (eP (bkV q.vy) (j*6))) (hj:r.keys[j]? =some e):EOb Tryd.prog n ops XX B ⟨i,L,tmS e.t,ph,false⟩ p:=bN λξ g w hB hH=>by rw[hB0]at hB;have hB:StB ρ ns g w:=hB;rw[hop];obtain⟨ts,k1,k2⟩:=r9 (hr g w hB.run).rs hj;obtain⟨_,_,_,_,_,rfl⟩:=k1.form;exact⟨_,⟨_,_,_,rfl,k1⟩,cb u26 rfl b6 (bF hx) (k2.part 0 rfl) rfl⟩
theorem vJ {e:Ky} (hop:ops.getD i default=⟨ds,.load 26 x,t,pos,af,gu⟩) (hB0:B p=stB ρ ns) (hx:spO L x=some (nwO k 0)) (hk:ns[k]? =some (58,agS (cxK e))):EOb Tryd.prog n ops XX B ⟨i,L,tmS e.t,ph,false⟩ p:=bN λξ g w hB hH=>by rw[hB0]at hB;have hB:StB ρ ns g w:=hB;rw[hop];obtain⟨vx,h1,b',h2,rfl⟩:=bH hx hH;obtain⟨b,c,h5,_,h7,vs,e1,ts,rfl,h9⟩:=hB.cell k _ hk (show(58:Nat)≠0 by decide);rw[h5]at h2;cases h2;cases e1;obtain⟨_,_,_,_,_,rfl⟩:=h9.form;exact⟨_,⟨_,_,_,rfl,h9⟩,cb u26 rfl b6 h1 ((At.of_blk h7).part 0 rfl) rfl⟩
theorem wq {e:Ky} (hB0:B p=stB ρ ns) (hB1:B (p+1)=stB ρ (ns.set k (58,agS (cxK e)))) (hop:ops.getD i default=⟨ds,.store 26 x y,t,pos,af,gu⟩) (hx:spO L x=some (nwO k 0)) (hy:spO L y=some (tmS e.t)) (hk:ns[k]? =some (58,agS (cxK e))):EOb Tryd.prog n ops XX B ⟨i,L,bB,ph,true⟩ p:=by intro ξ g w hB hH;rw[hB0]at hB;have hB:StB ρ ns g w:=hB;show Ok1 Tryd.prog (ops.getD i default) _ _ _ _;rw[hop];obtain⟨vx,h1,b',h2,rfl⟩:=bH hx hH;obtain⟨vy,h3,h4⟩:=bH hy hH;obtain⟨a1,a2,ad,l,c',rfl,h4'⟩:=TmIs.cells h4;obtain⟨b,c,h5,_,h7,vs,e1,ts,rfl,h9⟩:=hB.cell k _ hk (show(58:Nat)≠0 by decide);rw[h5]at h2;cases h2;cases e1;obtain⟨_,_,_,_,_,rfl⟩:=h9.form;refine(fZ b6 h1 h3 rfl (by simp [Value.cells,Value.oneCell']) h7 (by simp)).mono ?_;intro _ w' hu;obtain⟨k1,k2⟩:=hB.upd (sp':=agS (cxK e)) hk (show(58:Nat)≠0 by decide) h5 hu ⟨_,rfl,_,rfl,h4'⟩;exact⟨g,⟨k1,by show(B (p+1)).P _ _;rw[hB1];exact k2⟩,zo⟩
theorem uL (hr:gp ρ b r q) (hB0:B p=stB ρ ns) (hop:ops.getD i default=⟨ds,.load 31 x,t,pos,af,gu⟩) (hx:spO L x=some (eP b 22)):EOb Tryd.prog n ops XX B ⟨i,L,agS (cxV [.bool r.dh,.bool r.kem]),ph,false⟩ p:=bN λξ g w hB hH=>by rw[hB0]at hB;have hB:StB ρ ns g w:=hB;rw[hop];exact⟨_,⟨_,rfl,rfl⟩,cb u31 rfl jx (bF hx) (At.part (vs:=rcl r q) (by have :=At.of_blk (hr g w hB.run).hb;simpa using this) 22 rfl) rfl⟩
end
theorem sV (u v:Bool):Agg 2 (agS (cxV [.bool u,.bool v])):=λg w x ⟨vs,h,h2⟩=>by obtain rfl:vs=[.bool u,.bool v]:=h2;exact⟨_,h,rfl,by simp [Value.oneCell']⟩
theorem w3 {e:Ky} (g:Gh) (w:World) (u:Value) (h:(slS (cxK e) 1).hold g w u):∃b o cap ys,u= .slice (some ⟨b,o,none⟩) 1 cap/\At w b o ys/\ys.length=1*6/\(∀u∈ys,u.oneCell'=true)/\(gT [e]).R w g.X ys:=by
 obtain⟨b,o,cap,vs,e,_,_,h3,h4⟩:=h;refine⟨b,o,_,vs,e,h3,KyIs.len _ _ h4,?_,AllIs.one h4⟩;obtain⟨ts,rfl,hsl⟩:=(h4:KyIs w g.X _ vs);obtain⟨_,_,_,_,_,rfl⟩:=hsl.form;intro u hu;simp only[zx,zr,zI,or_false]at hu;rcases hu with(rfl|rfl|rfl)|rfl|rfl|rfl<;>rfl
theorem yw {ks us:List Ky} (w:World) (X:List Nat) (xs ys:List Value) (h:(gT ks).R w X xs) (k:(gT us).R w X ys):(gT (ks++us)).R w X (xs++ys):=AllIs.app h k
theorem yz {g:Gh} {w:World} {v:Value} {us:List Value} (h:(agS (cxV us)).hold g w v):v= .agg us.toArray:=by obtain⟨vs,h1,h2⟩:=h;obtain rfl:vs=us:=h2;exact h1
end Go.Mi.Term
namespace Go.Mi.Term
open Go.Mi Go.Proofs Go.RowKit
set_option maxRecDepth 100000 in
set_option maxHeartbeats 4000000 in
theorem r_ {b:Nat} {r:Rn} {F X:List Nat} (w0:World) (hX:∀x,x∈X->x<w0.heap.size) (hr:RunIs b r F X w0) (hs:∀x,x∈F->x∈X) (h0:0<r.eps.length) (hl:r.known.length<=1000000) (hf:∀x∈r.known,Few x):Calls Tryd.prog 35 (List.toArray [vp b]) w0 (Ret λv w'=>Gr w0 w'/\∃xs,SlA w' X v r.known.length xs/\IsTs w' X r.known xs):=by
 obtain⟨q,rfl,h⟩:=hr;refine bY (F:=[]) (ρ:=du (fO b r q) w0.heap.size 26 3 vN 0 (dD [])) [eqS (vp b)] hX ⟨⟨hs,h⟩,zH _,hX,rfl,[],kP,rfl⟩ ⟨rfl,zo⟩ Tryd.func35 rfl Tryd.ntmps35 rfl λac hS=> ?_;refine wp_seq ?_;refine rz hS [] [0,2] [(0,eP b 0),(2,eqS vN)] zo λac g w hS=> ?_;refine wp_seq ?_;refine wp_seq ?_;refine rz hS [e0 1 [(5,eP b 0)] (eqS vf)] [0,2,6] [(0,eP b 0),(2,eqS vN),(6,eqS vf)] ⟨⟨bX rfl λξ g w hB hH=>a_ c58 rfl (c_ w hB.wf.lt ⟨_,rfl,hB.run.1.2⟩ hB.run.1.2.rs.sub h0),zo⟩,zo⟩ λac g w hS=> ?_;refine wp_cond_false (hS.f.frm.eval rfl) ?_;refine wp_skip ?_;refine wp_seq ?_;refine wp_seq ?_;refine rz hS [e0 3 [(9,eP b 17)] (eqS q.vk),e0 4 [(10,eqS q.vk)] (eI r.known.length)] [2,10,11,12] [(2,eqS vN),(10,eqS q.vk),(11,eI r.known.length),(12,eI 0)] ⟨⟨cV ((jp (ny _ _ _))) rfl rfl rfl u24 rfl rfl,zo⟩,⟨fi (e:=26) (m:=3) (jp (ny _ _ _)) rfl rfl rfl u24 (λ_ _ h=>⟨_,h.kn⟩),zo⟩,zo⟩ λac g w hS=> ?_;refine bA ?_;refine wp_block ?_;refine ca (λa ac w=>∃(j:Nat) (u:Value) (g:Gh),a=r.known.length-j/\(j<=r.known.length)/\SS [(2,eqS u),(10,eqS q.vk),(11,eI r.known.length),(12,eI j)] 23 (stB (du (fO b r q) w0.heap.size 26 3 u j (dD (r.known.take j))) []) ⟨[],[],X,[]⟩ w0 ac g w) _ ⟨0,vN,_,rfl,zV _,hS.to ⟨rfl,rfl,rfl,rfl,zo⟩⟩ ?_;rintro _ ac w ⟨j,u,g,rfl,hj,hS⟩;refine wp_seq ?_;refine rz hS [] [2,10,11,12,13] [(2,eqS u),(10,eqS q.vk),(11,eI r.known.length),(12,eI j),(13,eB (decide ((j:Int)<r.known.length)))] zo λac g w hS=> ?_;refine wp_seq ?_;refine cr hS.f.frm rfl (λh=> ?_) (λh=> ?_)
 ·have hc:=zB h;clear h;have hc:=AA.1 hc;obtain⟨x,hx⟩:∃x,r.known[j]? =some x:=⟨_,zp hc⟩;refine wp_skip ?_;refine wp_seq ?_;refine wp_block ?_;refine wp_seq ?_;refine rx [e0 0 [(10,eqS q.vk),(12,eI j)] (eP (bkV q.vk) (j*3)),e0 1 [(14,eP (bkV q.vk) (j*3))] (tmS x),e1 2 [] (nwS 0),⟨3,[(4,nwS 0),(15,tmS x)],bB,[1],true⟩] [2,4,10,11,12] (Bl [stB (du (fO b r q) w0.heap.size 26 3 u j (dD (r.known.take j))) [],stB (du (fO b r q) w0.heap.size 26 3 u j (dD (r.known.take j))) [(26,cH 3)],stB (du (fO b r q) w0.heap.size 26 3 u j (dD (r.known.take j))) [(26,tmS x)]]) 2 [(2,eqS u),(4,nwS 0),(10,eqS q.vk),(11,eI r.known.length),(12,eI j)] ⟨⟨iP (m:=3) (jp (ny _ _ _)) rfl rfl rfl rfl u24 b6 (λ_ _ h=>⟨_,h.kn⟩) hc,zo⟩,⟨vM (jp (ny _ _ _)) rfl rfl rfl hx,zo⟩,⟨cC rfl rfl rfl z26 rfl rfl,zo⟩,⟨cB (k:=0) (m:=3) rfl rfl rfl rfl rfl rfl (by decide) b6 (cf 3) (bT _),zo⟩,zo⟩ hS rfl λac g w hS=> ?_;refine rx [e0 1 [(4,nwS 0)] (tmS x),e0 2 [(17,tmS x)] (tmS x),e0 3 [(18,tmS x)] (tfS [x]),e1 4 [(16,eqS u),(19,tfS [x])] (nwS 1)] [2,10,11,12] (Bl [stB (du (fO b r q) w0.heap.size 26 3 u j (dD (r.known.take j))) [(26,tmS x)],stB (fh (fO b r q) w0.heap.size 26 3 1 (j+1) (dD (r.known.take j++[x]))) [(26,tmS x),(0,bB)]]) 1 [(2,nwS 1),(10,eqS q.vk),(11,eI r.known.length),(12,eI j)] ⟨⟨cg (k:=0) rfl rfl rfl rfl (by decide) u26 rfl b6 (bT _).sized,zo⟩,⟨bX rfl λξ g w hB hH=>a_ c63 rfl (lc x (hf x (zC hx)) _ _ w hB.wf.lt (hH 17 _ rfl)),zo⟩,⟨de rfl rfl rfl,zo⟩,⟨r3 rfl rfl rfl rfl u24 kR rfl (by decide) rfl rfl (R2:=dD [x]) sQ pO (by omega) (by unfold maxLen;omega),zo⟩,zo⟩ hS rfl λac g w hS=> ?_;refine bR ?_;refine rz hS [e0 0 [(12,eI j)] (eI (((j:Nat):Int)+1))] [2,10,11,12] [(2,nwS 1),(10,eqS q.vk),(11,eI r.known.length),(12,eI (((j:Nat):Int)+1))] ⟨⟨bN λξ g w hB hH=>⟨_,rfl,ci rfl rfl (bK (by omega) (by omega))⟩,zo⟩,zo⟩ λac g w hS=> ?_;refine bA ?_;obtain⟨u2,hS⟩:=hS.openG (t:=2) rfl;refine⟨_,?_,j+1,u2,_,rfl,hc,hS.cut (ns:=[]) (m:=0) rfl rfl (λh=>by rw[dC hx];exact h) (λk p hp=>by simp at hp) ⟨⟨_,rfl,λ_ _ _ h=>h⟩,⟨_,rfl,λ_ _ _ h=>h⟩,⟨_,rfl,λ_ _ _ h=>h⟩,⟨_,rfl,λ_ _ _ h=>h⟩,zo⟩⟩;omega
 ·have hc:=of_decide_eq_false h;clear h;obtain rfl:j=r.known.length:=by omega
  rw[Ae]at hS;have hS:=hS.freeze (t:=2) rfl;refine wp_exit ?_;refine bM ?_;refine bM ?_;refine bZ ?_;refine wp_seq ?_;refine rz hS [] [2,10,11] [(2,rwS r.known.length (dD r.known)),(10,eqS q.vk),(11,eI r.known.length)] zo λac g w hS=> ?_;refine wp_ret ?_;exact bv hS.f.frm (bw Tryd.results35 (RV.tmp hS.f.frm rfl)) ⟨hS.rxg,qV (hS.f.get 2 _ rfl) hS.sub0⟩
set_option maxRecDepth 100000 in
set_option maxHeartbeats 4000000 in
theorem um {b:Nat} {r:Rn} {F X:List Nat} (w0:World) (hX:∀x,x∈X->x<w0.heap.size) (hr:RunIs b r F X w0) (hs:∀x,x∈F->x∈X) (h0:0<r.eps.length) (hl:r.keys.length<=1000000) (hf:∀x∈r.keys,Few x.t):Calls Tryd.prog 30 (List.toArray [vp b]) w0 (Ret λv w'=>Gr w0 w'/\∃xs,SlA w' X v r.keys.length xs/\AllIs (KyIs w' X) r.keys xs):=by
 obtain⟨q,rfl,h⟩:=hr;refine bY (F:=[]) (ρ:=du (fO b r q) w0.heap.size 58 6 vN 0 (gT [])) [eqS (vp b)] hX ⟨⟨hs,h⟩,zH _,hX,rfl,[],kP,rfl⟩ ⟨rfl,zo⟩ Tryd.func30 rfl Tryd.ntmps30 rfl λac hS=> ?_;refine wp_seq ?_;refine rz hS [] [0,2] [(0,eP b 0),(2,eqS vN)] zo λac g w hS=> ?_;refine wp_seq ?_;refine wp_seq ?_;refine rz hS [e0 1 [(5,eP b 0)] (eqS vf)] [0,2,6] [(0,eP b 0),(2,eqS vN),(6,eqS vf)] ⟨⟨bX rfl λξ g w hB hH=>a_ c58 rfl (c_ w hB.wf.lt ⟨_,rfl,hB.run.1.2⟩ hB.run.1.2.rs.sub h0),zo⟩,zo⟩ λac g w hS=> ?_;refine wp_cond_false (hS.f.frm.eval rfl) ?_;refine wp_skip ?_;refine wp_seq ?_;refine wp_seq ?_;refine rz hS [e0 3 [(9,eP b 20)] (eqS q.vy),e0 4 [(10,eqS q.vy)] (eI r.keys.length)] [2,10,11,12] [(2,eqS vN),(10,eqS q.vy),(11,eI r.keys.length),(12,eI 0)] ⟨⟨cV ((jp (ny _ _ _))) rfl rfl rfl u53 rfl rfl,zo⟩,⟨fi (e:=58) (m:=6) (jp (ny _ _ _)) rfl rfl rfl u53 (λ_ _ h=>⟨_,h.ky⟩),zo⟩,zo⟩ λac g w hS=> ?_;refine bA ?_;refine wp_block ?_;refine ca (λa ac w=>∃(j:Nat) (u:Value) (g:Gh),a=r.keys.length-j/\(j<=r.keys.length)/\SS [(2,eqS u),(10,eqS q.vy),(11,eI r.keys.length),(12,eI j)] 26 (stB (du (fO b r q) w0.heap.size 58 6 u j (gT (r.keys.take j))) []) ⟨[],[],X,[]⟩ w0 ac g w) _ ⟨0,vN,_,rfl,zV _,hS.to ⟨rfl,rfl,rfl,rfl,zo⟩⟩ ?_;rintro _ ac w ⟨j,u,g,rfl,hj,hS⟩;refine wp_seq ?_;refine rz hS [] [2,10,11,12,13] [(2,eqS u),(10,eqS q.vy),(11,eI r.keys.length),(12,eI j),(13,eB (decide ((j:Int)<r.keys.length)))] zo λac g w hS=> ?_;refine wp_seq ?_;refine cr hS.f.frm rfl (λh=> ?_) (λh=> ?_)
 ·have hc:=zB h;clear h;have hc:=AA.1 hc;obtain⟨x,hx⟩:∃x,r.keys[j]? =some x:=⟨_,zp hc⟩;refine wp_skip ?_;refine wp_seq ?_;refine wp_block ?_;refine wp_seq ?_;refine rx [e0 0 [(10,eqS q.vy),(12,eI j)] (eP (bkV q.vy) (j*6)),e0 1 [(14,eP (bkV q.vy) (j*6))] (agS (cxK x)),e1 2 [] (nwS 0),⟨3,[(4,nwS 0),(15,agS (cxK x))],bB,[1],true⟩] [2,4,10,11,12] (Bl [stB (du (fO b r q) w0.heap.size 58 6 u j (gT (r.keys.take j))) [],stB (du (fO b r q) w0.heap.size 58 6 u j (gT (r.keys.take j))) [(58,cH 6)],stB (du (fO b r q) w0.heap.size 58 6 u j (gT (r.keys.take j))) [(58,agS (cxK x))]]) 2 [(2,eqS u),(4,nwS 0),(10,eqS q.vy),(11,eI r.keys.length),(12,eI j)] ⟨⟨iP (m:=6) (jp (ny _ _ _)) rfl rfl rfl rfl u53 nW (λ_ _ h=>⟨_,h.ky⟩) hc,zo⟩,⟨vL (jp (ny _ _ _)) rfl rfl rfl hx,zo⟩,⟨cC rfl rfl rfl z58 rfl rfl,zo⟩,⟨cB (k:=0) (m:=6) rfl rfl rfl rfl rfl rfl (by decide) nW (cf 6) (sU _),zo⟩,zo⟩ hS rfl λac g w hS=> ?_;refine wp_seq ?_;refine rx [e0 0 [(4,nwS 0)] (nwO 0 0),e0 1 [(16,nwO 0 0)] (tmS x.t),e0 2 [(17,tmS x.t)] (tmS x.t),e0 3 [(4,nwS 0)] (nwO 0 0),e1 4 [(19,nwO 0 0),(18,tmS x.t)] bB] [2,4,10,11,12] (Bl [stB (du (fO b r q) w0.heap.size 58 6 u j (gT (r.keys.take j))) [(58,agS (cxK x))],stB (du (fO b r q) w0.heap.size 58 6 u j (gT (r.keys.take j))) [(58,agS (cxK x))]]) 1 [(2,eqS u),(4,nwS 0),(10,eqS q.vy),(11,eI r.keys.length),(12,eI j)] ⟨⟨bE (k:=0) rfl rfl rfl rfl (by decide) (by kernel_rfl),zo⟩,⟨vJ rfl rfl rfl rfl,zo⟩,⟨bX rfl λξ g w hB hH=>a_ c63 rfl (lc x.t (hf x (zC hx)) _ _ w hB.wf.lt (hH 17 _ rfl)),zo⟩,⟨bE (k:=0) rfl rfl rfl rfl (by decide) (by kernel_rfl),zo⟩,⟨wq (k:=0) rfl rfl rfl rfl rfl rfl,zo⟩,zo⟩ hS rfl λac g w hS=> ?_;refine rx [e0 1 [(4,nwS 0)] (agS (cxK x)),e0 2 [(21,agS (cxK x))] (slS (cxK x) 1),e1 3 [(20,eqS u),(22,slS (cxK x) 1)] (nwS 1)] [2,10,11,12] (Bl [stB (du (fO b r q) w0.heap.size 58 6 u j (gT (r.keys.take j))) [(58,agS (cxK x))],stB (fh (fO b r q) w0.heap.size 58 6 1 (j+1) (gT (r.keys.take j++[x]))) [(58,agS (cxK x)),(0,bB)]]) 1 [(2,nwS 1),(10,eqS q.vy),(11,eI r.keys.length),(12,eI j)] ⟨⟨cg (k:=0) rfl rfl rfl rfl (by decide) u58 rfl nW (sU _).sized,zo⟩,⟨kO rfl rfl u53 w7 (by decide) (by decide) rfl (λ_ _ _ h=>so h),zo⟩,⟨r3 rfl rfl rfl rfl u53 yd rfl (by decide) rfl rfl (R2:=gT [x]) w3 yw (by omega) (by unfold maxLen;omega),zo⟩,zo⟩ hS rfl λac g w hS=> ?_;refine bR ?_;refine rz hS [e0 0 [(12,eI j)] (eI (((j:Nat):Int)+1))] [2,10,11,12] [(2,nwS 1),(10,eqS q.vy),(11,eI r.keys.length),(12,eI (((j:Nat):Int)+1))] ⟨⟨bN λξ g w hB hH=>⟨_,rfl,ci rfl rfl (bK (by omega) (by omega))⟩,zo⟩,zo⟩ λac g w hS=> ?_;refine bA ?_;obtain⟨u2,hS⟩:=hS.openG (t:=2) rfl;refine⟨_,?_,j+1,u2,_,rfl,hc,hS.cut (ns:=[]) (m:=0) rfl rfl (λh=>by rw[dC hx];exact h) (λk p hp=>by simp at hp) ⟨⟨_,rfl,λ_ _ _ h=>h⟩,⟨_,rfl,λ_ _ _ h=>h⟩,⟨_,rfl,λ_ _ _ h=>h⟩,⟨_,rfl,λ_ _ _ h=>h⟩,zo⟩⟩;omega
 ·have hc:=of_decide_eq_false h;clear h;obtain rfl:j=r.keys.length:=by omega
  rw[Ae]at hS;have hS:=hS.freeze (t:=2) rfl;refine wp_exit ?_;refine bM ?_;refine bM ?_;refine bZ ?_;refine wp_seq ?_;refine rz hS [] [2,10,11] [(2,rwS r.keys.length (gT r.keys)),(10,eqS q.vy),(11,eI r.keys.length)] zo λac g w hS=> ?_;refine wp_ret ?_;exact bv hS.f.frm (bw Tryd.results30 (RV.tmp hS.f.frm rfl)) ⟨hS.rxg,qV (hS.f.get 2 _ rfl) hS.sub0⟩
set_option maxRecDepth 100000 in
set_option maxHeartbeats 4000000 in
theorem qH {b:Nat} {r:Rn} {F X:List Nat} (w0:World) (hX:∀x,x∈X->x<w0.heap.size) (hr:RunIs b r F X w0) (hs:∀x,x∈F->x∈X) (h0:0<r.eps.length):Calls Tryd.prog 36 (List.toArray [vp b]) w0 (Ret λv w'=>Gr w0 w'/\v= .agg #[.bool r.dh,.bool r.kem]):=by obtain⟨q,rfl,h⟩:=hr;refine bY (F:=[]) (ρ:=cI b r q) [eP b 0] hX ⟨rfl,hs,h⟩ ⟨rfl,zo⟩ Tryd.func36 rfl Tryd.ntmps36 rfl λac hS=> ?_;refine wp_seq ?_;refine rx [e1 0 [] (nwS 0)] [0,2] (Bl [stB (cI b r q) [],stB (cI b r q) [(31,cH 2)]]) 1 [(0,eP b 0),(2,nwS 0)] ⟨⟨cC rfl rfl rfl z31 rfl rfl,zo⟩,zo⟩ hS rfl λac g w hS=> ?_;refine wp_seq ?_;refine wp_seq ?_;refine rz hS [e0 1 [(3,eP b 0)] (eqS vf)] [0,2,4] [(0,eP b 0),(2,nwS 0),(4,eqS vf)] ⟨⟨bX rfl λξ g w hB hH=>a_ c58 rfl (c_ w hB.wf.lt ⟨_,rfl,hB.run.2.2⟩ hB.run.2.2.rs.sub h0),zo⟩,zo⟩ λac g w hS=> ?_;refine wp_cond_false (hS.f.frm.eval rfl) ?_;refine wp_skip ?_;refine wp_seq ?_;refine rx [e0 3 [(8,eP b 22)] (agS (cxV [.bool r.dh,.bool r.kem])),e1 4 [(2,nwS 0),(9,agS (cxV [.bool r.dh,.bool r.kem]))] bB] [2] (Bl [stB (cI b r q) [(31,cH 2)],stB (cI b r q) [(31,agS (cxV [.bool r.dh,.bool r.kem]))]]) 1 [(2,nwS 0)] ⟨⟨uL (cz _ _ _) rfl rfl rfl,zo⟩,⟨cB (k:=0) (m:=2) rfl rfl rfl rfl rfl rfl (by decide) jx (cf 2) (sV _ _),zo⟩,zo⟩ hS rfl λac g w hS=> ?_;refine wp_ret ?_;obtain⟨v0,c,a⟩:=hS.rv (x:=2) (k:=0) (m:=2) (ty:=31) rfl rfl (by decide) u31 rfl jx (sV _ _).sized;exact bv hS.f.frm (bw Tryd.results36 c) ⟨hS.gr0,yz a⟩
end Go.Mi.Term
namespace Go.Mi.Term
open Go.Mi Go.Proofs Go.RowKit
def Rn.open? (r:Rn) (t:Tm):Prop:=may t=true/\Der r.wd (Kn r.known) (nrm t)
abbrev kbS (P:Prop):Sp TT:= .pr ⟨λ_ _ v=>∃c:Bool,v= .bool c/\(c=true↔P),λh _=>h⟩
theorem IsTs.sub0 {w:World} {X:List Nat} {ts:List Tm} {vs:List Value} (h:IsTs w X ts vs):IsTs w [] ts vs:=IsTs.sub h (by simp)
theorem qq {w:World} {X:List Nat} {b:Nat} {r:Rn} {q:Rv} {u:Tm} {v:Value} (h:RunAt w X b r q) (hw:T0 w) (hkl:r.known.length<=100000000) (hv:TmIs w X u v):Calls Tryd.prog 19 (List.toArray [.agg #[.bool r.dh,.bool r.kem],q.vk,v]) w (Ret λv w'=>Gr w w'/\∃c:Bool,v= .bool c/\(c=true↔r.open? u)):=by
 obtain⟨a1,a2,ad2,l2,c2,rfl,hT⟩:=TmIs.cells hv;have hk:=h.rs.kn;obtain⟨ad,cap,e,hsl⟩:∃ad cap,q.vk= .slice ad r.known.length cap/\(0<r.known.length->∃b o,ad=some ⟨b,o,none⟩/\b∉([]:List Nat)/\At w b o q.xk):=by
  rcases Own.at hk with⟨e1,e2,_⟩|⟨b',cap,e1,_,e3⟩
  ·exact⟨none,0,by rw[e1,e2],λh=>by omega⟩
  ·exact⟨_,cap,e1,λ_=>⟨b',0,rfl,by simp,e3⟩⟩
 rw[e];obtain⟨c,hc,hr⟩:=sY (W:=r.wd) w hw hkl hsl (IsTs.sub0 h.rs.kt) (IsT.sub hT (by simp));refine hr.mono λen w' he=> ?_;obtain⟨v,e1,e2,e3⟩:=he;exact⟨v,e1,e3,c,e2,hc⟩
section
set_option maxRecDepth 100000
variable {ops:List Oper} {n:Nat} {B:Nat->BX XX} {i p b:Nat} {L:TL TT} {ph:List Nat} {ns:List (Nat×Sp TT)} {ds:Option Tmp} {pos:String} {af:Array Edge} {gu:Option (Nat×Bool)} {t:TypeId} {x y z:Operand} {r:Rn} {q:Rv} {u:Tm}
theorem kz (b:Nat) (r:Rn) (q:Rv):gp (d6 (fO b r q) dW).rx b r q:=λ_ _ h=>h.2.1.2
theorem tP {ts:Array TypeId} (hkl:r.known.length<=100000000) (hB0:B p=stB (d6 (fO b r q) dW).rx ns) (hop:ops.getD i default=⟨ds,.call ⟨.value (.func 19),#[x,y,z],ts⟩,t,pos,af,gu⟩) (hx:spO L x=some (agS (cxV [.bool r.dh,.bool r.kem]))) (hy:spO L y=some (eqS q.vk)) (hz:spO L z=some (tmS u)):EOb Tryd.prog n ops XX B ⟨i,L,kbS (r.open? u),ph,false⟩ p:=fv λξ g w hB hH=>by rw[hB0]at hB;have hB:StB (d6 (fO b r q) dW).rx ns g w:=hB;rw[hop];obtain⟨vx,h1,vs,rfl,h2⟩:=bH hx hH;obtain rfl:vs=[.bool r.dh,.bool r.kem]:=h2;have h3:=bF (ξ:=ξ) hy;obtain⟨vz,h4,h5⟩:=bH hz hH;exact a_ c19 (by simp only[evs,h1,h3,h4]) (qq hB.run.2.1.2 hB.run.2.2.2 hkl h5)
end
end Go.Mi.Term
namespace Go.Mi.Term
open Go.Mi Go.Proofs Go.RowKit
set_option maxRecDepth 100000 in
set_option maxHeartbeats 4000000 in
theorem y3 {b:Nat} {r:Rn} {F X:List Nat} {k:Int} (w0:World) (hX:∀x,x∈X->x<w0.heap.size) (hr:RunIs b r F X w0) (hs:∀x,x∈F->x∈X) (h0:0<r.eps.length) (h1:k<0):Calls Tryd.prog 29 (List.toArray [vp b,vI k]) w0 (Ret λv w'=>Gr w0 w'/\v= .bool false):=by obtain⟨q,rfl,h⟩:=hr;refine bY (F:=[]) (ρ:=cI b r q) [eP b 0,eI k] hX ⟨rfl,hs,h⟩ ⟨rfl,rfl,zo⟩ Tryd.func29 rfl Tryd.ntmps29 rfl λac hS=> ?_;refine wp_seq ?_;refine rz hS [] [0,1,4] [(0,eP b 0),(1,eI k),(4,eqS vf)] zo λac g w hS=> ?_;refine wp_seq ?_;refine ry mo hS [e0 1 [(5,eP b 0)] (eqS vf),e0 5 [(8,eqS vt),(9,eI k)] (eqS vf)] [4] [(4,eqS vf)] ⟨⟨bX rfl λξ g w hB hH=>a_ c58 rfl (c_ w hB.wf.lt ⟨_,rfl,hB.run.2.2⟩ hB.run.2.2.rs.sub h0),zo⟩,⟨bI rfl rfl rfl (zu some (decide_eq_false (by omega))),zo⟩,zo⟩ λac g w hS=> ?_;refine wp_ret ?_;exact bv hS.f.frm (bw Tryd.results29 (RV.tmp hS.f.frm rfl)) ⟨hS.gr0,rfl⟩
set_option maxRecDepth 100000 in
set_option maxHeartbeats 4000000 in
theorem y2 {b:Nat} {r:Rn} {F X:List Nat} {k:Int} (w0:World) (hX:∀x,x∈X->x<w0.heap.size) (hr:RunIs b r F X w0) (hs:∀x,x∈F->x∈X) (h0:0<r.eps.length) (h1:0<=k) (h2:r.keys.length<=k):Calls Tryd.prog 29 (List.toArray [vp b,vI k]) w0 (Ret λv w'=>Gr w0 w'/\v= .bool false):=by obtain⟨q,rfl,h⟩:=hr;refine bY (F:=[]) (ρ:=cI b r q) [eP b 0,eI k] hX ⟨rfl,hs,h⟩ ⟨rfl,rfl,zo⟩ Tryd.func29 rfl Tryd.ntmps29 rfl λac hS=> ?_;refine wp_seq ?_;refine rz hS [] [0,1,4] [(0,eP b 0),(1,eI k),(4,eqS vf)] zo λac g w hS=> ?_;refine wp_seq ?_;refine ry mo hS [e0 1 [(5,eP b 0)] (eqS vf),e0 5 [(8,eqS vt),(9,eI k)] (eqS vt),e0 12 [(12,eqS vt),(16,eP b 20)] (eqS q.vy),e0 13 [(12,eqS vt),(17,eqS q.vy)] (eI r.keys.length),e0 14 [(12,eqS vt),(13,eI k),(18,eI r.keys.length)] (eqS vf)] [4] [(4,eqS vf)] ⟨⟨bX rfl λξ g w hB hH=>a_ c58 rfl (c_ w hB.wf.lt ⟨_,rfl,hB.run.2.2⟩ hB.run.2.2.rs.sub h0),zo⟩,⟨bI rfl rfl rfl (zu some (decide_eq_true (by omega))),zo⟩,⟨cV (cz _ _ _) rfl rfl rfl u53 rfl rfl,zo⟩,⟨fi (e:=58) (m:=6) (cz _ _ _) rfl rfl rfl u53 (λ_ _ h=>⟨_,h.ky⟩),zo⟩,⟨bI rfl rfl rfl (zu some (decide_eq_false (by omega))),zo⟩,zo⟩ λac g w hS=> ?_;refine wp_ret ?_;exact bv hS.f.frm (bw Tryd.results29 (RV.tmp hS.f.frm rfl)) ⟨hS.gr0,rfl⟩
set_option maxRecDepth 100000 in
set_option maxHeartbeats 4000000 in
theorem y1 {b:Nat} {r:Rn} {F X:List Nat} {k:Nat} {e:Ky} (w0:World) (hX:∀x,x∈X->x<w0.heap.size) (hr:RunIs b r F X w0) (hs:∀x,x∈F->x∈X) (h0:0<r.eps.length) (h00:0∈X) (hT:T0 w0) (hkl:r.known.length<=100000000) (hk2:k<r.keys.length) (he:r.keys[k]? =some e):Calls Tryd.prog 29 (List.toArray [vp b,vI k]) w0 (Ret λv w'=>Gr w0 w'/\∃c:Bool,v= .bool c/\(c=true↔r.open? e.t)):=by obtain⟨q,rfl,h⟩:=hr;refine bY (F:=[]) (ρ:=(d6 (fO b r q) dW).rx) [eqS (vp b),eI k] hX ⟨rfl,⟨hs,h⟩,h00,hT⟩ ⟨rfl,rfl,zo⟩ Tryd.func29 rfl Tryd.ntmps29 rfl λac hS=> ?_;refine wp_seq ?_;refine rz hS [] [0,1,4] [(0,eP b 0),(1,eI k),(4,eqS vf)] zo λac g w hS=> ?_;refine wp_seq ?_;refine ry mo hS [e0 1 [(5,eP b 0)] (eqS vf),e0 5 [(8,eqS vt),(9,eI k)] (eqS vt),e0 12 [(12,eqS vt),(16,eP b 20)] (eqS q.vy),e0 13 [(12,eqS vt),(17,eqS q.vy)] (eI r.keys.length),e0 14 [(12,eqS vt),(13,eI k),(18,eI r.keys.length)] (eqS vt),e0 20 [(21,eqS vt),(24,eP b 22)] (agS (cxV [.bool r.dh,.bool r.kem])),e0 24 [(21,eqS vt),(28,eP b 17)] (eqS q.vk),e0 28 [(21,eqS vt),(32,eP b 20)] (eqS q.vy),e0 30 [(21,eqS vt),(33,eqS q.vy),(34,eI k)] (eP (bkV q.vy) (k*6)),e0 32 [(21,eqS vt),(36,eP (bkV q.vy) (k*6+0))] (tmS e.t),e0 33 [(21,eqS vt),(25,agS (cxV [.bool r.dh,.bool r.kem])),(29,eqS q.vk),(37,tmS e.t)] (kbS (r.open? e.t))] [4] [(4,kbS (r.open? e.t))] ⟨⟨bX rfl λξ g w hB hH=>a_ c58 rfl (c_ w hB.wf.lt ⟨_,rfl,hB.run.2.1.2⟩ hB.run.2.1.2.rs.sub h0),zo⟩,⟨bI rfl rfl rfl (zu some (decide_eq_true (by omega))),zo⟩,⟨cV (kz _ _ _) rfl rfl rfl u53 rfl rfl,zo⟩,⟨fi (e:=58) (m:=6) (kz _ _ _) rfl rfl rfl u53 (λ_ _ h=>⟨_,h.ky⟩),zo⟩,⟨bI rfl rfl rfl (zu some (decide_eq_true (by omega))),zo⟩,⟨uL (kz _ _ _) rfl rfl rfl,zo⟩,⟨cV (kz _ _ _) rfl rfl rfl u24 rfl rfl,zo⟩,⟨cV (kz _ _ _) rfl rfl rfl u53 rfl rfl,zo⟩,⟨iP (m:=6) (kz _ _ _) rfl rfl rfl rfl u53 nW (λ_ _ h=>⟨_,h.ky⟩) hk2,zo⟩,⟨tM (kz _ _ _) rfl rfl rfl he,zo⟩,⟨tP hkl rfl rfl rfl rfl rfl,zo⟩,zo⟩ λac g w hS=> ?_;refine wp_ret ?_;exact bv hS.f.frm (bw Tryd.results29 (RV.tmp hS.f.frm rfl)) ⟨hS.gr0,hS.f.get 4 _ rfl⟩
def Rn.derP (r:Rn) (k:Int):Prop:=∃j e,k=(j:Nat)/\r.keys[j]? =some e/\r.open? e.t
theorem nB {b:Nat} {r:Rn} {F X:List Nat} {k:Int} (w0:World) (hX:∀x,x∈X->x<w0.heap.size) (hr:RunIs b r F X w0) (hs:∀x,x∈F->x∈X) (h0:0<r.eps.length) (h00:0∈X) (hT:T0 w0) (hkl:r.known.length<=100000000):Calls Tryd.prog 29 (List.toArray [vp b,vI k]) w0 (Ret λv w'=>Gr w0 w'/\∃c:Bool,v= .bool c/\(c=true↔r.derP k)):=by
 by_cases h1:k<0
 ·exact(y3 w0 hX hr hs h0 h1).mono λen w' ⟨v,e1,e2,e3⟩=>⟨v,e1,e2,false,e3,by simp [Rn.derP];intro j e;omega⟩
 ·by_cases h2:(r.keys.length:Int)<=k
  ·exact (y2 w0 hX hr hs h0 (by omega) h2).mono λen w' ⟨v, e1, e2, e3⟩ => ⟨v, e1, e2, false, e3, by
    simp only[Rn.derP,Bool.false_eq_true,false_iff];rintro⟨j,e,rfl,h3,_⟩;have :=dN h3;omega⟩
  ·obtain⟨j,rfl⟩:=Int.eq_ofNat_of_zero_le (show 0<=k by omega);have hj:j<r.keys.length:=by omega
   have he:=zp hj;exact(y1 w0 hX hr hs h0 h00 hT hkl hj he).mono λen w' ⟨v,e1,e2,c,e3,e4⟩=>⟨v,e1,e2,c,e3,e4.trans ⟨λh=>⟨j,_,rfl,he,h⟩,by
    rintro⟨j',e,h5,h6,h7⟩;obtain rfl:j=j':=by omega
    rw[he]at h6;cases h6;exact h7⟩⟩
end Go.Mi.Term
