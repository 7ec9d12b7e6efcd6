/- Texts that belong together: H18, H19, H20, H22, Y3, Y4, H23, Y5, H24, Y6. General lemmas and walks; no conditions. -/
import Derived.Test.YtoefhjabaanokaaDoorD4
import Derived.Test.YtoefhjabaanokaaDoorD3
set_option linter.unusedSimpArgs false
set_option linter.unusedVariables false
set_option linter.unnecessarySimpa false
namespace Go.Mi.Term
open Go.Mi Go.Proofs Go.RowKit
section
variable {α:Type}
def AllIs (R:α->List Value->Prop):List α->List Value->Prop
 |[],xs=>xs=[]
 |a::ls,xs=>∃u r,xs=u++r/\R a u/\AllIs R ls r
theorem AllIs.imp {R S:α->List Value->Prop} (h:∀a u,R a u->S a u):∀{ls:List α} {xs:List Value},AllIs R ls xs->AllIs S ls xs
 |[],_,k=>k
 |a::ls,_,⟨u,r,e,h1,h2⟩=>⟨u,r,e,h a u h1,AllIs.imp h h2⟩
theorem AllIs.app {R:α->List Value->Prop}:∀{ls bs:List α} {xs ys:List Value},AllIs R ls xs->AllIs R bs ys->AllIs R (ls++bs) (xs++ys)
 |[],bs,xs,ys,h,k=>by
  have :xs=[]:=h;subst this;exact k
 |a::ls,bs,_,ys,⟨u,r,rfl,h1,h2⟩,k=>⟨u,r++ys,by simp,h1,AllIs.app h2 k⟩
theorem AllIs.one {R:α->List Value->Prop} {a:α} {u:List Value} (h:R a u):AllIs R [a] u:=⟨u,[],by simp,h,rfl⟩
theorem AllIs.at {R:α->List Value->Prop} {m:Nat} (hm:∀a u,R a u->u.length=m):∀{ls:List α} {xs:List Value} {i:Nat} {a:α},AllIs R ls xs->ls[i]? =some a->∃x1 u x2,xs=x1++u++x2/\x1.length=i*m/\R a u/\AllIs R (ls.take i) x1/\AllIs R (ls.drop (i+1)) x2
 |[],_,i,a,_,h=>by simp at h
 |b::ls,_,0,a,⟨u,r,rfl,h1,h2⟩,h=>by
  simp at h;subst h;exact⟨[],u,r,by simp,by simp,h1,rfl,h2⟩
 |b::ls,_,i+1,a,⟨u,r,rfl,h1,h2⟩,h=>by obtain⟨x1,v,x2,rfl,k1,k2,k3,k4⟩:=AllIs.at hm h2 (by simpa using h);refine⟨u++x1,v,x2,by simp,?_,k2,⟨u,x1,rfl,h1,k3⟩,by simpa using k4⟩;rw[zP,hm b u h1,k1,Nat.add_mul];omega
end
def dhL (l:List (Nat×Nat)):List Value:=l.flatMap λp=>[vI p.1,vI p.2]
def EpIs (w:World) (X:List Nat) (e:Ep) (vs:List Value):Prop:=∃sl,vs=[sl,.bool e.kem,.bool e.rev]/\SlA w X sl e.dhs.length (dhL e.dhs)
def KyIs (w:World) (X:List Nat) (k:Ky) (vs:List Value):Prop:=∃ts,vs=ts++[vI k.ep,vI k.who,vI k.ix]/\IsT w X k.t ts
section
variable {w w':World} {X X' Y:List Nat}
theorem EpIs.mv {e:Ep} {vs:List Value} (h:EpIs w X e vs) (k:Ch Y w w') (hy:∀y,y∈Y->y∈X) (hx:∀x,x∈X'->x∈X\/w.heap.size<=x):EpIs w' X' e vs:=by obtain⟨sl,h1,h2⟩:=h;exact⟨sl,h1,h2.mv k hy hx⟩
theorem KyIs.mv {e:Ky} {vs:List Value} (h:KyIs w X e vs) (k:Ch Y w w') (hy:∀y,y∈Y->y∈X) (hx:∀x,x∈X'->x∈X\/w.heap.size<=x):KyIs w' X' e vs:=by obtain⟨sl,h1,h2⟩:=h;exact⟨sl,h1,IsT.mv k hy hx _ _ h2⟩
theorem EpIs.len (e:Ep) (u:List Value) (h:EpIs w X e u):u.length=3:=by obtain⟨_,rfl,_⟩:=h;rfl
theorem IsT.len3 {t:Tm} {vs:List Value} (h:IsT w X t vs):vs.length=3:=by obtain⟨_,_,_,_,_,rfl⟩:=h.form;rfl
theorem KyIs.len (e:Ky) (u:List Value) (h:KyIs w X e u):u.length=6:=by obtain⟨_,rfl,h2⟩:=h;simp [h2.len3]
end
structure T3 where
 k:Int
 n:Int
 ad:Option Addr
 l:Nat
 c:Nat
abbrev T3.l3 (t:T3):List Value:=[.int .i64 t.k,.int .i64 t.n,.slice t.ad t.l t.c]
structure Rv where
 rt:T3
 c0:T3
 c1:T3
 vk:Value
 ve:Value
 bm:Nat
 vy:Value
 vb:Value
 xk:List Value
 xe:List Value
 xy:List Value
def Rv.F (q:Rv) (b:Nat):List Nat:=b::q.bm::(bC q.vk++(bC q.ve++(bC q.vy++bC q.vb)))
def rcl (r:Rn) (q:Rv):List Value:=[vI r.acts,vI r.names,vI (r.id 0),vI (r.id 1),vI (r.x 0),vI (r.x 1),vI q.rt.k,vI q.rt.n,.slice q.rt.ad q.rt.l q.rt.c,vI q.c0.k,vI q.c0.n,.slice q.c0.ad q.c0.l q.c0.c,vI q.c1.k,vI q.c1.n,.slice q.c1.ad q.c1.l q.c1.c,
 vI (r.ix 0),vI (r.ix 1),q.vk,q.ve,.map (some q.bm),q.vy,q.vb,.bool r.dh,.bool r.kem]
structure RunRs (w:World) (X:List Nat) (b:Nat) (r:Rn) (q:Rv):Prop where
 rt:IsT w X r.root q.rt.l3
 c0:IsT w X (r.ch 0) q.c0.l3
 c1:IsT w X (r.ch 1) q.c1.l3
 kn:Own w 0 26 3 q.vk r.known.length q.xk
 kt:IsTs w X r.known q.xk
 ep:Own w 0 99 3 q.ve r.eps.length q.xe
 et:AllIs (EpIs w X) r.eps q.xe
 mp:IMapIs w q.bm r.rvd
 ky:Own w 0 58 6 q.vy r.keys.length q.xy
 yt:AllIs (KyIs w X) r.keys q.xy
 bh:Own w 0 4 1 q.vb r.behind.length (r.behind.map Value.bool)
 nd:(q.F b).Nodup
 sub:∀x,x∈q.F b->x∈X
structure RunAt (w:World) (X:List Nat) (b:Nat) (r:Rn) (q:Rv):Prop where
 hb:w.heap[b]? =some (.cells (rcl r q).toArray 92 (0,0))
 rs:RunRs w X b r q
def RunIs (b:Nat) (r:Rn) (F X:List Nat) (w:World):Prop:=∃q:Rv,F=q.F b/\RunAt w X b r q
theorem IMapIs.lt {w:World} {b:Nat} {m:ew} (h:IMapIs w b m):b<w.heap.size:=by obtain⟨es,c,h1,_⟩:=h;exact cO h1
section
variable {w w':World} {X X' C F:List Nat} {b:Nat} {r r':Rn} {q q':Rv}
theorem RunRs.lt (h:RunRs w X b r q) (hb:b<w.heap.size):∀x,x∈q.F b->x<w.heap.size:=by
 intro x hx;simp only[Rv.F,zx,zr]at hx;rcases hx with rfl|rfl|hx|hx|hx|hx
 ·exact hb
 ·exact h.mp.lt
 ·exact(h.kn.lt x hx).2
 ·exact(h.ep.lt x hx).2
 ·exact(h.ky.lt x hx).2
 ·exact(h.bh.lt x hx).2
theorem RunAt.lt (h:RunAt w X b r q):∀x,x∈q.F b->x<w.heap.size:=h.rs.lt (cO h.hb)
theorem RunRs.mv (h:RunRs w X b r q) (k:Ch C w w') (hc:∀c,c∈C->c∈X/\(c∉q.F b\/c=b)) (hx:∀x,x∈X'->x∈X\/w.heap.size<=x) (hs:∀x,x∈q.F b->x∈X'):RunRs w' X' b r q:=by
 have hy:∀y,y∈C->y∈X:=λy hy=>(hc y hy).1;have hnd:=h.nd;simp only[Rv.F,AP,zx,zr,not_or]at hnd;have e:∀x,x=q.bm\/x∈bC q.vk\/x∈bC q.ve\/x∈bC q.vy\/x∈bC q.vb->x∉C:=by
  intro x hx hm;have hF:x∈q.F b:=by simp only[Rv.F,zx,zr];exact .inr hx
  rcases(hc x hm).2 with h1|rfl
  ·exact h1 hF
  ·rcases hx with hx|hx|hx|hx|hx
   ·exact hnd.1.1 hx
   ·exact hnd.1.2.1 hx
   ·exact hnd.1.2.2.1 hx
   ·exact hnd.1.2.2.2.1 hx
   ·exact hnd.1.2.2.2.2 hx
 exact⟨IsT.mv k hy hx _ _ h.rt,IsT.mv k hy hx _ _ h.c0,IsT.mv k hy hx _ _ h.c1,h.kn.mv k λx hx=>e x (.inr (.inl hx)),IsTs.mv k hy hx _ _ h.kt,h.ep.mv k λx hx=>e x (.inr (.inr (.inl hx))),h.et.imp λ_ _ e=>e.mv k hy hx,
  h.mp.mv k (e _ (.inl rfl)),h.ky.mv k λx hx=>e x (.inr (.inr (.inr (.inl hx)))),h.yt.imp λ_ _ e=>e.mv k hy hx,h.bh.mv k λx hx=>e x (.inr (.inr (.inr (.inr hx)))),h.nd,hs⟩
theorem RunAt.mv (h:RunAt w X b r q) (k:Ch C w w') (hc:∀c,c∈C->c∈X/\c∉q.F b) (hx:∀x,x∈X'->x∈X\/w.heap.size<=x) (hs:∀x,x∈q.F b->x∈X'):RunAt w' X' b r q:=by refine⟨?_,h.rs.mv k (λc hm=>⟨(hc c hm).1,.inl (hc c hm).2⟩) hx hs⟩;rw[k.blk b (cO h.hb) λhm=>(hc b hm).2 (by simp [Rv.F])];exact h.hb
theorem RunIs.mv (h:RunIs b r F X w) (k:Ch C w w') (hc:∀c,c∈C->c∈X/\c∉F) (hx:∀x,x∈X'->x∈X\/w.heap.size<=x) (hs:∀x,x∈F->x∈X'):RunIs b r F X' w':=by obtain⟨q,rfl,h⟩:=h;exact⟨q,rfl,h.mv k hc hx hs⟩
theorem RunIs.lt (h:RunIs b r F X w):∀x,x∈F->x<w.heap.size:=by obtain⟨q,rfl,h⟩:=h;exact h.lt
theorem RunRs.upd (h : RunRs w X b r q) (k : Ch [b] w w') (e : q' = { q with rt := q'.rt, c0 := q'.c0, c1 := q'.c1 }) (er : r' = { r with acts := r'.acts, names := r'.names, id := r'.id, x := r'.x, root := r'.root, ch := r'.ch, ix := r'.ix, dh := r'.dh, kem := r'.kem })
  (k1:IsT w X r'.root q'.rt.l3) (k2:IsT w X (r'.ch 0) q'.c0.l3) (k3:IsT w X (r'.ch 1) q'.c1.l3):RunRs w' X b r' q'/\q'.F b=q.F b:=by
 have eF:q'.F b=q.F b:=by rw[e];rfl
 have hb:b∈X:=h.sub b (by simp [Rv.F]);have hy:∀y,y∈[b]->y∈X:=λy hy=>by rw[zt.1 hy];exact hb
 have hx:∀x,x∈X->x∈X\/w.heap.size<=x:=λ_ h=> .inl h;have h2:=h.mv k (λc hc=>⟨hy c hc,.inr (zt.1 hc)⟩) hx h.sub;refine⟨⟨IsT.mv k hy hx _ _ k1,IsT.mv k hy hx _ _ k2,IsT.mv k hy hx _ _ k3,?_,?_,?_,?_,?_,?_,?_,?_,by rw[eF];exact h.nd,by rw[eF];exact h.sub⟩,eF⟩
 ·rw[e,er];exact h2.kn
 ·rw[e,er];exact h2.kt
 ·rw[e,er];exact h2.ep
 ·rw[e,er];exact h2.et
 ·rw[e,er];exact h2.mp
 ·rw[e,er];exact h2.ky
 ·rw[e,er];exact h2.yt
 ·rw[e,er];exact h2.bh
end
def bS (b:Nat) (r:Rn):RX:=⟨λg w=>RunIs b r g.F g.X w,λ{g g'} _ _ _ h k hc hf _ hx _=>by
 rw[hf];exact h.mv k (λc hm=>⟨(hc c hm).1,(hc c hm).2.1⟩) hx λx hx=>by simp [Gh.X,hf,hx]⟩
end Go.Mi.Term
namespace Go.Mi.Term
open Go.Mi Go.Proofs Go.RowKit
def ft (b:Nat) (r:Rn) (q:Rv):RX:=⟨λg w=>g.F=q.F b/\RunAt w g.X b r q,λ{g g'} _ _ _ ⟨h1,h2⟩ k hc hf _ hx _=>⟨hf.trans h1,h2.mv k (λc hm=>⟨(hc c hm).1,by rw[<-h1];exact(hc c hm).2.1⟩) hx λx hm=>by simp [Gh.X,hf,h1,hm]⟩⟩
def gk (b:Nat) (r:Rn) (off k:Nat):RX:=⟨λg w=>∃(q:Rv) (v old:Value),g.F=q.F b/\g.N[k]? =some v/\(rcl r q)[off]? =some v/\w.heap[b]? =some (.cells ((rcl r q).set off old).toArray 92 (0,0))/\RunRs w g.X b r q,λ{g g'} w _ _ ⟨q,v,old,h1,h2,h3,h4,h5⟩ k hc hf _ hx hN=>by
 refine⟨q,v,old,hf.trans h1,hN _ _ h2,h3,?_,h5.mv k (λc hm=>⟨(hc c hm).1,.inl (by rw[<-h1];exact(hc c hm).2.1)⟩) hx λx hm=>by simp [Gh.X,hf,h1,hm]⟩;rw[k.blk b (cO h4) λhm=>(hc b hm).2.1 (by rw[h1];simp [Rv.F])];exact h4⟩
def mz (ρ:RX) (b:Nat) (r:Rn):Prop:=∀g w,ρ.P g w->∃q,RunAt w g.X b r q
theorem eg (b:Nat) (r:Rn):mz (bS b r) b r:=λ_ _ ⟨q,_,h⟩=>⟨q,h⟩
theorem SS.openR {L:TL TT} {n b:Nat} {r:Rn} {ns:List (Nat×Sp TT)} {g0 g:Gh} {w0 w:World} {a:Act} (h:SS L n (stB (bS b r) ns) g0 w0 a g w):∃q,SS L n (stB (ft b r q) ns) g0 w0 a g w:=by obtain⟨q,h1,h2⟩:=h.b.run;exact⟨q,h.t,⟨h.b.wf,h.b.pl,⟨h1,h2⟩,h.b.nd,h.b.len,h.b.cell⟩,h.f⟩
section
variable {ops:List Oper} {n:Nat} {B:Nat->BX XX} {i p b k o:Nat} {L:TL TT} {ph:List Nat} {ρ:RX} {ns:List (Nat×Sp TT)} {ds:Option Tmp} {ty:TypeId} {pos:String} {af:Array Edge} {gu:Option (Nat×Bool)} {t:TypeId} {r r':Rn} {q:Rv} {v:Value} {x y:Operand}
theorem mU {α:Type} {l:List α} {o:Nat} {v:α} (h:l[o]? =some v):l.set o v=l:=by
 apply List.ext_getElem?;intro j;have hl:o<l.length:=by
  rcases zF o l.length with h'|h'
  ·exact h'
  ·rw[zz h']at h;cases h
 by_cases e:o=j
 ·subst e;rw[List.getElem?_set_self hl,h]
 ·rw[List.getElem?_set_ne e]
theorem dL {d:TypeDesc} (hr:mz ρ b r) (hB0:B p=stB ρ ns) (hop:ops.getD i default=⟨ds,.load ty x,t,pos,af,gu⟩) (hx:spO L x=some (eP b k)) (ht:Tryd.prog.underlying ty=some d) (hf:TypeDesc.flat d=true) (hv:∀q,(rcl r q)[k]? =some v):EOb Tryd.prog n ops XX B ⟨i,L,eqS v,ph,false⟩ p:=bN λξ g w hB hH=>by rw[hB0]at hB;have hB:StB ρ ns g w:=hB;obtain⟨q,h⟩:=hr g w hB.run;rw[hop];exact⟨v,rfl,bJ ht hf (bF hx) (by rw[cG h.hb];simpa using hv q)⟩
theorem cJ {e len m j:Nat} (hop:ops.getD i default=⟨ds,.indexAddr ty x y,t,pos,af,gu⟩) (hx:spO L x=some (eP b o)) (hy:spO L y=some (eI (j:Int))) (ht:Tryd.prog.underlying ty=some (.array len e)) (hs:(Tryd.prog.info? e).map (·.size)=some m) (hj:j<len):EOb Tryd.prog n ops XX B ⟨i,L,eP b (o+j*m),ph,false⟩ p:=bN λξ g w hB hH=>by rw[hop];exact⟨_,rfl,iH ht hs (bF hx) (bF hy) hj⟩
theorem mY (hr:mz ρ b r) (hB0:B p=stB ρ ns) (hop:ops.getD i default=⟨ds,.load 26 x,t,pos,af,gu⟩) (hx:spO L x=some (eP b 6)):EOb Tryd.prog n ops XX B ⟨i,L,tmS r.root,ph,false⟩ p:=bN λξ g w hB hH=>by rw[hB0]at hB;have hB:StB ρ ns g w:=hB;obtain⟨q,h⟩:=hr g w hB.run;rw[hop];exact⟨_,⟨_,_,_,rfl,h.rs.rt⟩,cb Tryd.underlying26 rfl b6 (bF hx) (At.part (vs:=rcl r q) (by have :=At.of_blk h.hb;simpa using this) 6 rfl) rfl⟩
theorem kc {j:Nat} (hj:j<2) (hr:mz ρ b r) (hB0:B p=stB ρ ns) (hop:ops.getD i default=⟨ds,.load 26 x,t,pos,af,gu⟩) (hx:spO L x=some (eP b (9+j*3))):EOb Tryd.prog n ops XX B ⟨i,L,tmS (r.ch j),ph,false⟩ p:=bN λξ g w hB hH=>by
 rw[hB0]at hB;have hB:StB ρ ns g w:=hB;obtain⟨q,h⟩:=hr g w hB.run;rw[hop];have hat:At w b 0 (rcl r q):=by have :=At.of_blk h.hb;simpa using this
 have hj2:j=0\/j=1:=by omega
 rcases hj2 with rfl|rfl
 ·exact⟨_,⟨_,_,_,rfl,h.rs.c0⟩,cb Tryd.underlying26 rfl b6 (bF hx) (At.part (vs:=rcl r q) hat 9 rfl) rfl⟩
 ·exact⟨_,⟨_,_,_,rfl,h.rs.c1⟩,cb Tryd.underlying26 rfl b6 (bF hx) (At.part (vs:=rcl r q) hat 12 rfl) rfl⟩
theorem jG {g : Gh} {w w' : World} {q' : Rv} (hB : StB (bS b r) ns g w) (hF : g.F = q.F b) (hrs : RunRs w g.X b r q) (hu : Upd w w' b (rcl r' q').toArray 92) (e : q' = { q with rt := q'.rt, c0 := q'.c0, c1 := q'.c1 }) (er : r' = { r with acts := r'.acts, names := r'.names, id := r'.id, x := r'.x, root := r'.root, ch := r'.ch, ix := r'.ix, dh := r'.dh, kem := r'.kem })
  (k1:IsT w g.X r'.root q'.rt.l3) (k2:IsT w g.X (r'.ch 0) q'.c0.l3) (k3:IsT w g.X (r'.ch 1) q'.c1.l3):∃g',TT g w g' w'/\StB (bS b r') ns g' w':=by
 obtain⟨h1,h2⟩:=hrs.upd hu.ch e er k1 k2 k3;have hbF:b∈g.F:=by rw[hF];simp [Rv.F]
 obtain⟨t1,t2⟩:=hB.run' (ρ':=bS b r') (g':=g) (l:=[]) (l':=[]) (hu.ch.mono (by simp [hbF])) (λx hx=> .inl hx) (λx hx=>zE (hB.wf.lt x (by simp [Gh.X,hx])) hu.ch.size) rfl rfl (by simp) rfl (by simp) (by simp) ⟨q',by rw[h2];exact hF,hu.blk,h1⟩;exact⟨g,t1,by simpa using t2⟩
theorem gn (hB0 : B p = stB (bS b r) ns) (hB1 : B (p + 1) = stB (bS b r') ns) (hop : ops.getD i default = ⟨ds, .store ty x y, t, pos, af, gu⟩) (hs : (Tryd.prog.info? ty).map (·.size) = some 1) (hx : spO L x = some (eP b k)) (hy : spO L y = some (eqS v)) (h1 : v.oneCell' = true) (hk : k < 24) (hset : ∀ q, (rcl r q).set k v = rcl r' q)
  (er:r'={r with acts:=r'.acts,names:=r'.names,id:=r'.id,x:=r'.x,root:=r'.root,ch:=r'.ch,ix:=r'.ix,dh:=r'.dh,kem:=r'.kem}) (e1:r'.root=r.root) (e2:r'.ch=r.ch):EOb Tryd.prog n ops XX B ⟨i,L,bB,ph,true⟩ p:=by
 intro ξ g w hB hH;rw[hB0]at hB;have hB:StB (bS b r) ns g w:=hB;obtain⟨q,hF,h⟩:=hB.run;show Ok1 Tryd.prog (ops.getD i default) _ _ _ _;rw[hop];refine(dk hs (bF hx) (bF hy) h1 h.hb (by simp [rcl];exact hk)).mono ?_;intro _ w' hu;have hu:Upd w w' b (rcl r' q).toArray 92:=by
  have :(rcl r q).toArray.setIfInBounds k v=(rcl r' q).toArray:=by rw[<-hset q];simp
  rw[<-this];exact hu
 obtain⟨g',t1,t2⟩:=jG hB hF h.rs hu rfl er (by rw[e1];exact h.rs.rt) (by rw[e2];exact h.rs.c0) (by rw[e2];exact h.rs.c1);exact⟨g',⟨t1,by show(B (p+1)).P _ _;rw[hB1];exact t2⟩,zo⟩
theorem rX {u:Tm} (hB0:B p=stB (bS b r) ns) (hB1:B (p+1)=stB (bS b {r with root:=u}) ns) (hop:ops.getD i default=⟨ds,.store 26 x y,t,pos,af,gu⟩) (hx:spO L x=some (eP b 6)) (hy:spO L y=some (tmS u)):EOb Tryd.prog n ops XX B ⟨i,L,bB,ph,true⟩ p:=by intro ξ g w hB hH;rw[hB0]at hB;have hB:StB (bS b r) ns g w:=hB;obtain⟨q,hF,h⟩:=hB.run;show Ok1 Tryd.prog (ops.getD i default) _ _ _ _;rw[hop];obtain⟨vy,h1,h2⟩:=bH hy hH;obtain⟨a1,a2,ad,l,c,rfl,hT⟩:=TmIs.cells h2;refine(fZ b6 (bF hx) h1 rfl (by simp [Value.cells,Value.oneCell']) h.hb (by simp [rcl])).mono ?_;intro _ w' hu;obtain⟨g',t1,t2⟩:=jG (r':={r with root:=u}) (q':={q with rt:=⟨a1,a2,ad,l,c⟩}) hB hF h.rs hu rfl rfl hT h.rs.c0 h.rs.c1;exact⟨g',⟨t1,by show(B (p+1)).P _ _;rw[hB1];exact t2⟩,zo⟩
theorem rZ {u:Tm} {j:Nat} (hj:j<2) (hB0:B p=stB (bS b r) ns) (hB1:B (p+1)=stB (bS b {r with ch:=up r.ch j u}) ns) (hop:ops.getD i default=⟨ds,.store 26 x y,t,pos,af,gu⟩) (hx:spO L x=some (eP b (9+j*3))) (hy:spO L y=some (tmS u)):EOb Tryd.prog n ops XX B ⟨i,L,bB,ph,true⟩ p:=by
 intro ξ g w hB hH;rw[hB0]at hB;have hB:StB (bS b r) ns g w:=hB;obtain⟨q,hF,h⟩:=hB.run;show Ok1 Tryd.prog (ops.getD i default) _ _ _ _;rw[hop];obtain⟨vy,h1,h2⟩:=bH hy hH;obtain⟨a1,a2,ad,l,c,rfl,hT⟩:=TmIs.cells h2;refine(fZ b6 (bF hx) h1 rfl (by simp [Value.cells,Value.oneCell']) h.hb (by simp [rcl];omega)).mono ?_;intro _ w' hu;have hj2:j=0\/j=1:=by omega
 rcases hj2 with rfl|rfl
 ·obtain⟨g',t1,t2⟩:=jG (r':={r with ch:=up r.ch 0 u}) (q':={q with c0:=⟨a1,a2,ad,l,c⟩}) hB hF h.rs hu rfl rfl h.rs.rt hT h.rs.c1;exact⟨g',⟨t1,by show(B (p+1)).P _ _;rw[hB1];exact t2⟩,zo⟩
 ·obtain⟨g',t1,t2⟩:=jG (r':={r with ch:=up r.ch 1 u}) (q':={q with c1:=⟨a1,a2,ad,l,c⟩}) hB hF h.rs hu rfl rfl h.rs.rt h.rs.c0 hT;exact⟨g',⟨t1,by show(B (p+1)).P _ _;rw[hB1];exact t2⟩,zo⟩
theorem pk (hB0:B p=stB (gk b r o k) ns) (hB1:B (p+1)=stB (bS b r) ns) (hop:ops.getD i default=⟨ds,.store ty x y,t,pos,af,gu⟩) (hs:(Tryd.prog.info? ty).map (·.size)=some 1) (hx:spO L x=some (eP b o)) (hy:spO L y=some (nwS k)) (ho:o<24) (h1:∀w X q v,RunRs w X b r q->(rcl r q)[o]? =some v->v.oneCell'=true):EOb Tryd.prog n ops XX B ⟨i,L,bB,ph,true⟩ p:=by
 intro ξ g w hB hH;rw[hB0]at hB;have hB:StB (gk b r o k) ns g w:=hB;obtain⟨q,v,c,hF,hN,hv,hb,a⟩:=hB.run;show Ok1 Tryd.prog (ops.getD i default) _ _ _ _;rw[hop];obtain⟨vy,e1,e2⟩:=bH hy hH;have e2:g.N[k]? =some vy:=e2;rw[hN]at e2;cases e2;refine(dk hs (bF hx) e1 (h1 _ _ _ _ a hv) hb (by simp [rcl];exact ho)).mono ?_;intro _ w' hu;have hu:Upd w w' b (rcl r q).toArray 92:=by
  have :(((rcl r q).set o c).toArray).setIfInBounds o v=(rcl r q).toArray:=by rw[List.setIfInBounds_toArray,List.set_set,mU hv]
  rw[<-this];exact hu
 have d:b∈g.F:=by rw[hF];simp [Rv.F]
 obtain⟨t1,t2⟩:=hB.run' (ρ':=bS b r) (g':=g) (l:=[]) (l':=[]) (hu.ch.mono (by simp [d])) (λx hx=> .inl hx) (λx hx=>zE (hB.wf.lt x (by simp [Gh.X,hx])) hu.ch.size) rfl rfl (by simp) rfl (by simp) (by simp) ⟨q,hF,hu.blk,(a.upd hu.ch rfl rfl a.rt a.c0 a.c1).1⟩;have t2:StB (bS b r) ns g w':=by simpa using t2
 exact⟨g,⟨t1,by show(B (p+1)).P _ _;rw[hB1];exact t2⟩,zo⟩
def da (b:Nat) (r':Rn) (Y F:List Nat) (w:World) (post:List Nat->World->Value->Prop) (v:Value) (w':World):Prop:=∃F',Ch F w w'/\(∀x,x∈F'->x∈F\/w.heap.size<=x)/\RunIs b r' F' (F'++Y) w'/\post (F'++Y) w' v
theorem dA {s : Sp TT} {post : List Nat -> World -> Value -> Prop} (hB0 : B p = stB (bS b r) ns) (hB1 : B (p + 1) = stB (bS b r') ns) (hs : ∀ g w v, post g.X w v -> s.hold g w v)
  (h:∀ξ (g:Gh) w,Wf g w->RunIs b r g.F (g.F++(g.M++g.Y)) w->iK L ξ g w->Ok1 Tryd.prog (ops.getD i default) n (exL L ξ) w (da b r' (g.M++g.Y) g.F w post)):EOb Tryd.prog n ops XX B ⟨i,L,s,ph,true⟩ p:=by
 intro ξ g w hB hH;rw[hB0]at hB;have hB:StB (bS b r) ns g w:=hB;refine(h ξ g w hB.wf hB.run hH).mono ?_;rintro v w' ⟨F',k1,k2,k3,k4⟩;obtain⟨t1,t2⟩:=hB.run' (ρ':=bS b r') (g':=⟨F',g.M,g.Y,g.N⟩) (l:=[]) (l':=[]) k1 k2 k3.lt rfl rfl (by simp) rfl (by simp) (by simp) k3;have t2:StB (bS b r') ns ⟨F',g.M,g.Y,g.N⟩ w':=by simpa using t2
 exact⟨_,⟨t1,by show(B (p+1)).P _ _;rw[hB1];exact t2⟩,hs ⟨F',g.M,g.Y,g.N⟩ w' v k4⟩
end
theorem SS.post {L:TL TT} {n b:Nat} {r':Rn} {ns:List (Nat×Sp TT)} {F Y:List Nat} {g:Gh} {w0 w:World} {a:Act} {post:List Nat->World->Value->Prop} {v:Value} (h:SS L n (stB (bS b r') ns) ⟨F,[],Y,[]⟩ w0 a g w) (hp:post (g.F++Y) w v):da b r' Y F w0 post v w:=by
 have hY:g.Y=Y:=h.t.y;refine⟨g.F,h.t.ch.mono (by simp),λx hx=>by simpa using h.t.sub x (zw _ hx),?_,hp⟩;exact RunIs.mv h.b.run (Ch.refl [] w) (by simp) (λx hx=> .inl (by
  simp only[Gh.X,zr,hY]at hx⊢;rcases hx with hx|hx
  ·exact .inl hx
  ·exact .inr (.inr hx))) (λx hx=>zw _ hx)
end Go.Mi.Term
namespace Go.Mi.Term
open Go.Mi Go.Proofs Go.RowKit
structure CX where
 R:World->List Nat->List Value->Prop
 st:∀{w w':World} {X X' C:List Nat} {vs:List Value},R w X vs->Ch C w w'->(∀y,y∈C->y∈X)->(∀x,x∈X'->x∈X\/w.heap.size<=x)->R w' X' vs
def cxE (e:Ep):CX:=⟨λw X vs=>EpIs w X e vs,λh k hy hx=>h.mv k hy hx⟩
def cxK (e:Ky):CX:=⟨λw X vs=>KyIs w X e vs,λh k hy hx=>h.mv k hy hx⟩
def cxV (us:List Value):CX:=⟨λ_ _ vs=>vs=us,λh _ _ _=>h⟩
abbrev agS (R:CX):Sp TT:= .pr ⟨λg w v=>∃vs:List Value,v= .agg vs.toArray/\R.R w g.X vs,λ⟨vs,h1,h2⟩ k=>⟨vs,h1,R.st h2 k.ch (Gh.sub _) k.X⟩⟩
abbrev slS (R:CX) (m:Nat):Sp TT:= .pr ⟨λg w v=>∃b o cap vs,v= .slice (some ⟨b,o,none⟩) m (m+cap)/\b∉g.X/\b<w.heap.size/\At w b o vs/\R.R w g.X vs,λ⟨b,o,cap,vs,h1,h2,h3,h4,h5⟩ k=>
 ⟨b,o,cap,vs,h1,λhm=>by
  rcases k.X b hm with h6|h6
  ·exact h2 h6
  ·omega,zE h3 k.ch.size,h4.mv k.ch λhm=>h2 (Gh.sub _ b hm),R.st h5 k.ch (Gh.sub _) k.X⟩⟩
theorem yo {z a b c:Value}:Instr.fill (λi=>some (i*3,3)) ((Array.range (1*3)).map (z.cells[· %z.cells.size]!)) [(0,.agg #[a,b,c])]=some #[a,b,c]:=by simp [Instr.fill,Value.cells];apply Array.ext';simp [zO,z6,Ab,Ag]
theorem yn {z a b c d e f:Value}:Instr.fill (λi=>some (i*6,6)) ((Array.range (1*6)).map (z.cells[· %z.cells.size]!)) [(0,.agg #[a,b,c,d,e,f])]=some #[a,b,c,d,e,f]:=by simp [Instr.fill,Value.cells];apply Array.ext';simp [zO,z6,Ab,Ag]
section
variable {ops:List Oper} {n:Nat} {B:Nat->BX XX} {i p b k o:Nat} {L:TL TT} {ph:List Nat} {ρ:RX} {ns:List (Nat×Sp TT)} {ds:Option Tmp} {ty:TypeId} {pos:String} {af:Array Edge} {gu:Option (Nat×Bool)} {t:TypeId} {r r':Rn} {q:Rv} {v:Value} {x y:Operand}
theorem lJ {g:Gh} {w w':World} {b ty len:Nat} {c:Array Value} {R:CX} (hw:Wf g w) (h:NewB w w' b c ty) (hc:R.R w g.X c.toList):Gr w w'/\(slS R len).hold g w' (.slice (some ⟨b,0,none⟩) len len):=by refine⟨h.ch.gr,b,0,0,_,rfl,λhm=> ?_,h.lt,h.at,R.st hc h.ch (by simp) (λx hx=> .inl hx)⟩;have :=hw.lt b hm;have :=h.num;omega
set_option maxRecDepth 100000 in
theorem kO {R : CX} {e m : Nat} {z : Value} (hB0 : B p = stB ρ ns) (hop : ops.getD i default = ⟨ds, .buildSlice ty 1 #[(0, x)], t, pos, af, gu⟩) (hT : Tryd.prog.underlying ty = some (.slice e)) (hz : (Tryd.prog.info? e).map (λi => (i.size, i.zero)) = some (m, some z)) (hm : 1 * m ≠ 0) (hm2 : 1 * m <= 16777216) (h1 : spO L x = some (agS R))
  (hf:∀w X vs,R.R w X vs->Instr.fill (λi=>some (i*m,m)) ((Array.range (1*m)).map (z.cells[· %z.cells.size]!)) [(0,.agg vs.toArray)]=some vs.toArray):EOb Tryd.prog n ops XX B ⟨i,L,slS R 1,ph,false⟩ p:=fv λξ g w hB hH=>by
 rw[hB0]at hB;have hB:StB ρ ns g w:=hB;rw[hop];obtain⟨v1,e1,vs,rfl,k1⟩:=bH h1 hH;refine(bU hT hz (ps:=[(0,.agg vs.toArray)]) (by simp [evp,e1]) hm hm2 (hf _ _ _ k1)).mono ?_;rintro v w' ⟨b,rfl,hn⟩;exact lJ hB.wf hn (by simpa using k1)
set_option maxRecDepth 100000 in
theorem xG {u:Bool} (hB0:B p=stB ρ ns) (hop:ops.getD i default=⟨ds,.buildSlice 36 1 #[(0,x)],t,pos,af,gu⟩) (h1:spO L x=some (eqS (.bool u))):EOb Tryd.prog n ops XX B ⟨i,L,slS (cxV [.bool u]) 1,ph,false⟩ p:=fv λξ g w hB hH=>by rw[hB0]at hB;have hB:StB ρ ns g w:=hB;rw[hop];refine(bU Tryd.underlying36 zz4 (ps:=[(0,.bool u)]) (by simp [evp,bF h1]) (by decide) (by decide) (kC rfl)).mono ?_;rintro v w' ⟨b,rfl,hn⟩;exact lJ hB.wf hn rfl
theorem t7 {pre post old new:List Nat} {s:Nat} (h:(pre++(old++post)).Nodup) (hlt:∀x,x∈pre++(old++post)->x<s) (hn:new=old\/new=[s]):(pre++(new++post)).Nodup:=by
 rcases hn with rfl|rfl
 ·exact h
 ·simp only[AI,zr,zt,AP,zI,not_false_eq_true,List.nodup_nil,and_true,true_and]at h hlt⊢;refine⟨h.1,⟨h.2.1.2.1,?_⟩,?_⟩
  ·rintro a rfl c hc he;subst he;have :=hlt a (.inr (.inr hc));omega
  ·rintro a ha c (rfl|hc) he
   ·subst he;have :=hlt a (.inl ha);omega
   ·exact h.2.2 a ha c (.inr hc) he
theorem jP {g : Gh} {w w' : World} {pre post : List Nat} {v v' : Value} {q' : Rv} (hB : StB (ft b r q) ns g w) (hF : q.F b = pre ++ (bC v ++ post)) (hF' : q'.F b = pre ++ (bC v' ++ post)) (hc : Ch (bC v) w w') (ho : bC v' = bC v \/ bC v' = [w.heap.size]) (hlt : ∀ x, x ∈ bC v' -> x < w'.heap.size) (hv : ∀ b', v' ≠ vp b') (hbp : b ∈ pre)
  (hcl:rcl r q=(rcl r' q').set o v) (hcv:(rcl r' q')[o]? =some v')
  (hr:∀X',(∀x,x∈q'.F b->x∈X')->(∀x,x∈X'->x∈g.X\/w.heap.size<=x)->(q'.F b).Nodup->(∀x,x∈pre++post->x∉bC v)->(∀y,y∈bC v->y∈g.X)->RunRs w' X' b r' q'):
  ∃g',TT g w g' w'/\StB (gk b r' o ns.length) (ns++[(0,bB)]) g' w'/\g'.N[ns.length]? =some v':=by
 obtain⟨h1,h2⟩:=hB.run;have c:∀x,x∈q'.F b->x∈q.F b\/w.heap.size<=x:=by
  intro x hx;rw[hF']at hx;rw[hF];simp only[zr]at hx⊢;rcases hx with hx|hx|hx
  ·exact .inl (.inl hx)
  ·rcases ho with e|e
   ·rw[e]at hx;exact .inl (.inr (.inl hx))
   ·rw[e]at hx;exact .inr (by rw[zt.1 hx];exact zH _)
  ·exact .inl (.inr (.inr hx))
 have a:=h2.rs.nd;rw[hF]at a;have d:∀y,y∈bC v->y∈g.F:=λy hy=>by rw[h1,hF];simp [hy]
 have f:g.N.length=ns.length:=hB.len;have hX:∀x,x∈q'.F b++(g.M++g.Y)->x∈g.X\/w.heap.size<=x:=by
  intro x hx;rcases zr.1 hx with hx|hx
  ·rcases c x hx with h3|h3
   ·exact .inl (by simp [Gh.X,h1,h3])
   ·exact .inr h3
  ·exact .inl (by simp only[Gh.X,zr]at hx⊢;exact .inr hx)
 have h:=hr (q'.F b++(g.M++g.Y)) (λx hx=>zw _ hx) hX (by rw[hF'];exact t7 a (λx hx=>h2.lt x (by rw[hF];exact hx)) ho) (λx hx hm=>by
  simp only[AI,zr]at a;rcases zr.1 hx with hx|hx
  ·exact a.2.2 x hx x (.inl hm) rfl
  ·exact a.2.1.2.2 x hm x hx rfl) (λy hy=>by simp [Gh.X,d y hy])
 obtain⟨t1,t2⟩:=hB.run' (ρ':=gk b r' o ns.length) (g':=⟨q'.F b,g.M,g.Y,g.N++[v']⟩) (l:=[v']) (l':=[(0,bB)]) (hc.mono d) (λx hx=>by rw[h1];exact c x hx) (λx hx=>by
  rcases c x hx with h3|h3
  ·exact zE (h2.lt x h3) hc.size
  ·rw[hF']at hx;simp only[zr]at hx;rcases hx with hx|hx|hx
   ·exact zE (h2.lt x (by rw[hF];simp [hx])) hc.size
   ·exact hlt x hx
   ·exact zE (h2.lt x (by rw[hF];simp [hx])) hc.size) rfl rfl rfl rfl (λu hu b'=>by rw[zt.1 hu];exact hv b') (λu hu=>by rw[zt.1 hu]) ⟨q',v',v,rfl,by simp [<-f],hcv,by
   rw[hc.blk b (cO h2.hb) λhm=> ?_,h2.hb,hcl];simp only[AI,zr]at a;exact a.2.2 b hbp b (.inl hm) rfl,h⟩
 exact⟨_,t1,t2,by simp [<-f]⟩
theorem Own.nvp {w:World} {base m nn:Nat} {e:TypeId} {v:Value} {xs:List Value} (h:Own w base e m v nn xs) (b':Nat):v≠vp b':=by
 rcases h.at with⟨rfl,_⟩|⟨_,_,rfl,_⟩<;>simp
theorem wA {l:List Tm} (hB0:B p=stB (ft b r q) ns) (hB1:B (p+1)=stB (gk b (r.sees l) 17 ns.length) (ns++[(0,bB)])) (hop:ops.getD i default=⟨ds,.call ⟨.builtin .append,#[x,y],#[24,24]⟩,t,pos,af,gu⟩) (hx:spO L x=some (eqS q.vk)) (hy:spO L y=some (tlS l)\/spO L y=some (tfS l)) (hk:ns.length=k) (hsz:r.known.length+l.length<=1000000):EOb Tryd.prog n ops XX B ⟨i,L,nwS k,ph,true⟩ p:=by
 intro ξ g w hB hH;rw[hB0]at hB;have hB:StB (ft b r q) ns g w:=hB;show Ok1 Tryd.prog (ops.getD i default) _ _ _ _;rw[hop];have hl:∃vy,ev (exL L ξ) y=some vy/\∃b o cap xs,vy= .slice (some ⟨b,o,none⟩) l.length cap/\At w b o xs/\IsTs w g.X l xs:=by
  rcases hy with hy|hy
  ·obtain⟨vy,e1,b1,o1,c1,xs,e2,_,_,_,e3,e4⟩:=bH hy hH;exact⟨vy,e1,b1,o1,_,xs,e2,e3,e4⟩
  ·obtain⟨vy,e1,b1,o1,c1,xs,e2,_,_,_,e3,e4⟩:=bH hy hH;exact⟨vy,e1,b1,o1,_,xs,e2,e3,e4⟩
 obtain⟨vy,e1,b1,o1,c1,xs,rfl,d,c⟩:=hl;obtain⟨hF,h⟩:=hB.run;refine(dH Tryd.underlying24 kR rfl (by decide) (bF hx) e1 h.rs.kn ((IsTs.len c).trans (AO _ _)) d (IsTs.cells1 c) (by omega) (by unfold maxLen;omega) (zV _)).mono ?_;rintro v' w' ⟨hown,hch,ho⟩;obtain⟨g',k1,k2,k3⟩:=jP (r':=r.sees l) (q':={q with vk:=v',xk:=q.xk++xs}) (pre:=[b,q.bm]) (post:=bC q.ve++(bC q.vy++bC q.vb)) hB rfl rfl hch ho (λx hx=>(hown.lt x hx).2) (Own.nvp hown) (by simp) rfl (o:=17) rfl (λX' hs hx f a hy=>by
  have hr:=h.rs;exact⟨IsT.mv hch hy hx _ _ hr.rt,IsT.mv hch hy hx _ _ hr.c0,IsT.mv hch hy hx _ _ hr.c1,by simpa[Rn.sees]using hown,IsTs.app (IsTs.mv hch hy hx _ _ hr.kt) (IsTs.mv hch hy hx _ _ c),hr.ep.mv hch λx hx=>a x (by simp [hx]),hr.et.imp λ_ _ e=>e.mv hch hy hx,hr.mp.mv hch (a _ (by simp)),hr.ky.mv hch λx hx=>a x (by simp [hx]),hr.yt.imp λ_ _ e=>e.mv hch hy hx,hr.bh.mv hch λx hx=>a x (by simp [hx]),f,hs⟩)
 exact⟨g',⟨k1,by show(B (p+1)).P _ _;rw[hB1];exact k2⟩,by rw[<-hk];exact k3⟩
theorem oH {R:CX} {ξ:Nat->Value} {g:Gh} {w:World} {y:Operand} (hy:spO L y=some (slS R 1)) (hH:iK L ξ g w):∃b o cap vs,ev (exL L ξ) y=some (.slice (some ⟨b,o,none⟩) 1 cap)/\At w b o vs/\R.R w g.X vs:=by obtain⟨vy,e1,b1,o1,c1,xs,e2,_,_,e3,e4⟩:=bH hy hH;subst e2;exact⟨b1,o1,_,xs,e1,e3,e4⟩
theorem wB {e:Ep} (hB0:B p=stB (ft b r q) ns) (hB1:B (p+1)=stB (gk b (r.ended e) 18 ns.length) (ns++[(0,bB)])) (hop:ops.getD i default=⟨ds,.call ⟨.builtin .append,#[x,y],#[90,90]⟩,t,pos,af,gu⟩) (hx:spO L x=some (eqS q.ve)) (hy:spO L y=some (slS (cxE e) 1)) (hk:ns.length=k) (hsz:r.eps.length<=1000000):EOb Tryd.prog n ops XX B ⟨i,L,nwS k,ph,true⟩ p:=by
 intro ξ g w hB hH;rw[hB0]at hB;have hB:StB (ft b r q) ns g w:=hB;show Ok1 Tryd.prog (ops.getD i default) _ _ _ _;rw[hop];obtain⟨b1,o1,c1,xs,e1,f,a⟩:=oH hy hH;obtain⟨hF,h⟩:=hB.run;have a:EpIs w g.X e xs:=a;refine(dH (k:=1) Tryd.underlying90 yZ rfl (by decide) (bF hx) e1 h.rs.ep (EpIs.len e xs a) f (by
  obtain⟨sl,rfl,d⟩:=a;intro u hu;simp only[zx,zI,or_false]at hu;rcases hu with rfl|rfl|rfl
  ·rcases d with⟨rfl|⟨_,_,rfl⟩,_⟩|⟨_,_,_,rfl,_⟩<;>rfl
  ·rfl
  ·rfl) (by omega) (by unfold maxLen;omega) (zV _)).mono ?_
 rintro v' w' ⟨hown,hch,ho⟩;obtain⟨g',k1,k2,k3⟩:=jP (r':=r.ended e) (q':={q with ve:=v',xe:=q.xe++xs}) (pre:=[b,q.bm]++bC q.vk) (post:=bC q.vy++bC q.vb) hB (by simp [Rv.F]) (by simp [Rv.F]) hch ho (λx hx=>(hown.lt x hx).2) (Own.nvp hown) (by simp) rfl (o:=18) rfl (λX' hs hx j c hy=>by
  have hr:=h.rs;exact⟨IsT.mv hch hy hx _ _ hr.rt,IsT.mv hch hy hx _ _ hr.c0,IsT.mv hch hy hx _ _ hr.c1,hr.kn.mv hch λx hx=>c x (by simp [hx]),IsTs.mv hch hy hx _ _ hr.kt,by simpa[Rn.ended]using hown,AllIs.app (hr.et.imp λ_ _ e=>e.mv hch hy hx) (AllIs.one (a.mv hch hy hx)),hr.mp.mv hch (c _ (by simp)),hr.ky.mv hch λx hx=>c x (by simp [hx]),hr.yt.imp λ_ _ e=>e.mv hch hy hx,hr.bh.mv hch λx hx=>c x (by simp [hx]),j,hs⟩)
 exact⟨g',⟨k1,by show(B (p+1)).P _ _;rw[hB1];exact k2⟩,by rw[<-hk];exact k3⟩
theorem wz {e:Ky} (hB0:B p=stB (ft b r q) ns) (hB1:B (p+1)=stB (gk b {r with keys:=r.keys++[e]} 20 ns.length) (ns++[(0,bB)])) (hop:ops.getD i default=⟨ds,.call ⟨.builtin .append,#[x,y],#[53,53]⟩,t,pos,af,gu⟩) (hx:spO L x=some (eqS q.vy)) (hy:spO L y=some (slS (cxK e) 1)) (hk:ns.length=k) (hsz:r.keys.length<=1000000):EOb Tryd.prog n ops XX B ⟨i,L,nwS k,ph,true⟩ p:=by
 intro ξ g w hB hH;rw[hB0]at hB;have hB:StB (ft b r q) ns g w:=hB;show Ok1 Tryd.prog (ops.getD i default) _ _ _ _;rw[hop];obtain⟨b1,o1,c1,xs,e1,f,a⟩:=oH hy hH;obtain⟨hF,h⟩:=hB.run;have a:KyIs w g.X e xs:=a;refine(dH (k:=1) Tryd.underlying53 yd rfl (by decide) (bF hx) e1 h.rs.ky (KyIs.len e xs a) f (by
  obtain⟨sl,rfl,d⟩:=a;obtain⟨_,_,_,_,_,rfl⟩:=d.form;intro u hu;simp only[zx,zr,zI,or_false]at hu;rcases hu with(rfl|rfl|rfl)|rfl|rfl|rfl<;>rfl) (by omega) (by unfold maxLen;omega) (zV _)).mono ?_
 rintro v' w' ⟨hown,hch,ho⟩;obtain⟨g',k1,k2,k3⟩:=jP (r':={r with keys:=r.keys++[e]}) (q':={q with vy:=v',xy:=q.xy++xs}) (pre:=[b,q.bm]++(bC q.vk++bC q.ve)) (post:=bC q.vb) hB (by simp [Rv.F]) (by simp [Rv.F]) hch ho (λx hx=>(hown.lt x hx).2) (Own.nvp hown) (by simp) rfl (o:=20) rfl (λX' hs hx j c hy=>by
  have hr:=h.rs;exact⟨IsT.mv hch hy hx _ _ hr.rt,IsT.mv hch hy hx _ _ hr.c0,IsT.mv hch hy hx _ _ hr.c1,hr.kn.mv hch λx hx=>c x (by simp [hx]),IsTs.mv hch hy hx _ _ hr.kt,hr.ep.mv hch λx hx=>c x (by simp [hx]),hr.et.imp λ_ _ e=>e.mv hch hy hx,hr.mp.mv hch (c _ (by simp)),by simpa using hown,AllIs.app (hr.yt.imp λ_ _ e=>e.mv hch hy hx) (AllIs.one (a.mv hch hy hx)),hr.bh.mv hch λx hx=>c x (by simp [hx]),j,hs⟩)
 exact⟨g',⟨k1,by show(B (p+1)).P _ _;rw[hB1];exact k2⟩,by rw[<-hk];exact k3⟩
theorem wC {e:Bool} (hB0:B p=stB (ft b r q) ns) (hB1:B (p+1)=stB (gk b {r with behind:=r.behind++[e]} 21 ns.length) (ns++[(0,bB)])) (hop:ops.getD i default=⟨ds,.call ⟨.builtin .append,#[x,y],#[36,36]⟩,t,pos,af,gu⟩) (hx:spO L x=some (eqS q.vb)) (hy:spO L y=some (slS (cxV [.bool e]) 1)) (hk:ns.length=k) (hsz:r.behind.length<=1000000):EOb Tryd.prog n ops XX B ⟨i,L,nwS k,ph,true⟩ p:=by
 intro ξ g w hB hH;rw[hB0]at hB;have hB:StB (ft b r q) ns g w:=hB;show Ok1 Tryd.prog (ops.getD i default) _ _ _ _;rw[hop];obtain⟨b1,o1,c1,xs,e1,d,c⟩:=oH hy hH;obtain⟨hF,h⟩:=hB.run;have c:xs=[.bool e]:=c;subst c;refine(dH (k:=1) Tryd.underlying36 ii4 rfl (by decide) (bF hx) e1 h.rs.bh rfl d (by simp [Value.oneCell']) (by omega) (by unfold maxLen;omega) (zV _)).mono ?_;rintro v' w' ⟨hown,hch,ho⟩;obtain⟨g',k1,k2,k3⟩:=jP (r':={r with behind:=r.behind++[e]}) (q':={q with vb:=v'}) (pre:=[b,q.bm]++(bC q.vk++(bC q.ve++bC q.vy))) (post:=[]) hB (by simp [Rv.F]) (by simp [Rv.F]) hch ho (λx hx=>(hown.lt x hx).2) (Own.nvp hown) (by simp) rfl (o:=21) rfl (λX' hs hx f a hy=>by
  have hr:=h.rs;exact⟨IsT.mv hch hy hx _ _ hr.rt,IsT.mv hch hy hx _ _ hr.c0,IsT.mv hch hy hx _ _ hr.c1,hr.kn.mv hch λx hx=>a x (by simp [hx]),IsTs.mv hch hy hx _ _ hr.kt,hr.ep.mv hch λx hx=>a x (by simp [hx]),hr.et.imp λ_ _ e=>e.mv hch hy hx,hr.mp.mv hch (a _ (by simp)),hr.ky.mv hch λx hx=>a x (by simp [hx]),hr.yt.imp λ_ _ e=>e.mv hch hy hx,by simpa using hown,f,hs⟩)
 exact⟨g',⟨k1,by show(B (p+1)).P _ _;rw[hB1];exact k2⟩,by rw[<-hk];exact k3⟩
end
end Go.Mi.Term
namespace Go.Mi.Term
open Go.Mi Go.Proofs Go.RowKit
theorem gK {w:World} {base m nn:Nat} {e:TypeId} {v:Value} {xs:List Value} (h:Own w base e m v nn xs):v.oneCell'=true:=by
 rcases h.at with⟨rfl,_⟩|⟨_,_,rfl,_⟩<;>rfl
section
variable {w:World} {X:List Nat} {b:Nat} {r:Rn} {q:Rv} {v:Value}
theorem xU (h:RunRs w X b r q) (hv:(rcl r q)[17]? =some v):v.oneCell'=true:=by cases hv;exact gK h.kn
theorem xS (h:RunRs w X b r q) (hv:(rcl r q)[18]? =some v):v.oneCell'=true:=by cases hv;exact gK h.ep
theorem xR (h:RunRs w X b r q) (hv:(rcl r q)[20]? =some v):v.oneCell'=true:=by cases hv;exact gK h.ky
theorem xQ (h:RunRs w X b r q) (hv:(rcl r q)[21]? =some v):v.oneCell'=true:=by cases hv;exact gK h.bh
end
theorem SS.postT {L:TL TT} {n b:Nat} {r':Rn} {ns:List (Nat×Sp TT)} {F Y:List Nat} {g:Gh} {w0 w:World} {a:Act} {t:Tm} {v:Value} (h:SS L n (stB (bS b r') ns) ⟨F,[],Y,[]⟩ w0 a g w) (hp:TmIs w g.X t v):da b r' Y F w0 (λX w v=>TmIs w X t v) v w:=h.post (hp.sub λx hx=>by
 have hY:g.Y=Y:=h.t.y;simp only[Gh.X,zr,hY]at hx⊢;rcases hx with hx|hx
 ·exact .inl hx
 ·exact .inr (.inr hx))
def cI (b:Nat) (r:Rn) (q:Rv):RX:=⟨λg w=>g.F=[]/\(∀x,x∈q.F b->x∈g.Y)/\RunAt w g.X b r q,λ{g g'} _ _ _ ⟨h1,h2,h3⟩ k hc hf hy hx _=>⟨hf.trans h1,by rw[hy];exact h2,h3.mv k (λc hm=>⟨(hc c hm).1,λh=>(hc c hm).2.2 (h2 c h)⟩) hx λx hm=>by
 have :=h2 x hm;simp [Gh.X,hy,this]⟩⟩
def gp (ρ:RX) (b:Nat) (r:Rn) (q:Rv):Prop:=∀g w,ρ.P g w->RunAt w g.X b r q
theorem cz (b:Nat) (r:Rn) (q:Rv):gp (cI b r q) b r q:=λ_ _ h=>h.2.2
theorem fg (b:Nat) (r:Rn) (q:Rv):gp (ft b r q) b r q:=λ_ _ h=>h.2
theorem p42:Tryd.prog.underlying 42=some (.pointer (Tryd.prog.pointee 42)):=by kernel_rfl
theorem sC {n:Nat} {L:List (Nat×Value)} {w:World} {ds:Option Nat} {ty:TypeId} {pos:String} {af:Array Edge} {gu:Option (Nat×Bool)} {x y:Operand} {t':TypeId} {p:Option Addr} (hx:ev L x=some (.pointer p)) (hy:ev L y=some (.pointer none)):Det Tryd.prog ⟨ds,.binOp .eql 42 x y t',ty,pos,af,gu⟩ n L w (.bool p.isNone) w:=
 Det.of_run λa hF=>by have h:=run_eql_pointer_nil (P:=Tryd.prog) w 42 p p42;simp [execOp,hF.eval hx,hF.eval hy,eqGuard,h]
section
variable {ops:List Oper} {n:Nat} {B:Nat->BX XX} {i p b k o:Nat} {L:TL TT} {ph:List Nat} {ρ:RX} {ns:List (Nat×Sp TT)} {ds:Option Tmp} {ty:TypeId} {pos:String} {af:Array Edge} {gu:Option (Nat×Bool)} {t:TypeId} {r r':Rn} {q:Rv} {v:Value} {x y:Operand}
theorem cV {d:TypeDesc} (hr:gp ρ b r q) (hB0:B p=stB ρ ns) (hop:ops.getD i default=⟨ds,.load ty x,t,pos,af,gu⟩) (hx:spO L x=some (eP b k)) (ht:Tryd.prog.underlying ty=some d) (hf:TypeDesc.flat d=true) (hv:(rcl r q)[k]? =some v):EOb Tryd.prog n ops XX B ⟨i,L,eqS v,ph,false⟩ p:=bN λξ g w hB hH=>by rw[hB0]at hB;have hB:StB ρ ns g w:=hB;rw[hop];exact⟨v,rfl,bJ ht hf (bF hx) (by rw[cG (hr g w hB.run).hb];simpa using hv)⟩
theorem fi {e m l:Nat} (hr:gp ρ b r q) (hB0:B p=stB ρ ns) (hop:ops.getD i default=⟨ds,.call ⟨.builtin .len,#[x],#[ty]⟩,t,pos,af,gu⟩) (hx:spO L x=some (eqS v)) (ht:Tryd.prog.underlying ty=some (.slice e)) (hv:∀w X,RunRs w X b r q->∃xs,Own w 0 e m v l xs):EOb Tryd.prog n ops XX B ⟨i,L,eI l,ph,false⟩ p:=bN λξ g w hB hH=>by rw[hB0]at hB;have hB:StB ρ ns g w:=hB;rw[hop];obtain⟨xs,h⟩:=hv w _ (hr g w hB.run).rs;exact⟨_,rfl,gF ht (bF hx) h⟩
theorem lR {t':TypeId} {kk:IntKind} {u v:Int} {c:Bool} (hop:ops.getD i default=⟨ds,.binOp .eql ty x y t',t,pos,af,gu⟩) (hx:spO L x=some (eqS (.int kk u))) (hy:spO L y=some (eqS (.int kk v))) (h:decide (u=v)=c):EOb Tryd.prog n ops XX B ⟨i,L,eqS (.bool c),ph,false⟩ p:=bN λξ g w hB hH=>by rw[hop];exact⟨_,by rw[<-h];rfl,dQ (bF hx) (bF hy)⟩
theorem rg {t':TypeId} {pa:Option Addr} {c:Bool} (hop:ops.getD i default=⟨ds,.binOp .eql 42 x y t',t,pos,af,gu⟩) (hx:spO L x=some (eqS (.pointer pa))) (hy:spO L y=some (eqS (.pointer none))) (h:pa.isNone=c):EOb Tryd.prog n ops XX B ⟨i,L,eqS (.bool c),ph,false⟩ p:=bN λξ g w hB hH=>by rw[hop];exact⟨_,by rw[<-h];rfl,sC (bF hx) (bF hy)⟩
end
theorem f7 (e:Ep):Agg 3 (agS (cxE e)):=λg w v ⟨vs,h,h2⟩=>by
 obtain⟨sl,rfl,hsl⟩:=(h2:EpIs w g.X e vs);refine⟨_,h,rfl,?_⟩;intro u hu;simp only[zx,zI,or_false]at hu;rcases hu with rfl|rfl|rfl
 ·rcases hsl with⟨rfl|⟨_,_,rfl⟩,_⟩|⟨_,_,_,rfl,_⟩<;>rfl
 ·rfl
 ·rfl
theorem uY {z:Value} {e:Ep} {w:World} {X:List Nat} {vs:List Value} (h:(cxE e).R w X vs):Instr.fill (λi=>some (i*3,3)) ((Array.range (1*3)).map (z.cells[· %z.cells.size]!)) [(0,.agg vs.toArray)]=some vs.toArray:=by obtain⟨sl,rfl,_⟩:=(h:EpIs w X e vs);exact yo
theorem so {z:Value} {e:Ky} {w:World} {X:List Nat} {vs:List Value} (h:(cxK e).R w X vs):Instr.fill (λi=>some (i*6,6)) ((Array.range (1*6)).map (z.cells[· %z.cells.size]!)) [(0,.agg vs.toArray)]=some vs.toArray:=by obtain⟨ts,rfl,h2⟩:=(h:KyIs w X e vs);obtain⟨_,_,_,_,_,rfl⟩:=h2.form;exact yn
theorem n5 {r:Rn} {q:Rv} {j:Nat} (hj:j<2):(rcl r q)[2+j*1]? =some (vI (r.id j)):=by
 rcases(by omega:j=0\/j=1)with rfl|rfl<;>rfl
theorem j7 {r:Rn} {q:Rv} {j:Nat} (hj:j<2):(rcl r q)[4+j*1]? =some (vI (r.x j)):=by
 rcases(by omega:j=0\/j=1)with rfl|rfl<;>rfl
theorem rf {r:Rn} {q:Rv} {j:Nat} (hj:j<2):(rcl r q)[15+j*1]? =some (vI (r.ix j)):=by
 rcases(by omega:j=0\/j=1)with rfl|rfl<;>rfl
theorem vu {r:Rn} {q:Rv} {j v:Nat} (hj:j<2):(rcl r q).set (2+j*1) (vI v)=rcl {r with id:=up r.id j v} q:=by
 rcases(by omega:j=0\/j=1)with rfl|rfl<;>rfl
theorem uJ {r:Rn} {q:Rv} {j v:Nat} (hj:j<2):(rcl r q).set (4+j*1) (vI v)=rcl {r with x:=up r.x j v} q:=by
 rcases(by omega:j=0\/j=1)with rfl|rfl<;>rfl
theorem vr {r:Rn} {q:Rv} {j v:Nat} (hj:j<2):(rcl r q).set (15+j*1) (vI v)=rcl {r with ix:=up r.ix j v} q:=by
 rcases(by omega:j=0\/j=1)with rfl|rfl<;>rfl
theorem pH (r:Rn) (inp:List Tm):r.chains inp 0=r:=by simp [Rn.chains]
theorem jt (r:Rn) (inp:List Tm) (i:Nat):r.chains inp (i+1)={r.chains inp i with ch:=up (r.chains inp i).ch i (hT (inp++[cT 3,pT (r.x i)]))}:=by
 simp only[Rn.chains,Rn.mk.injEq,true_and,and_true];funext w;unfold up;by_cases h:w=i
 ·subst h;simp
 ·simp only[h,if_false];by_cases h2:w<i
  ·simp [h2,Ak h2]
  ·simp [h2,show¬w<i+1 by omega]
end Go.Mi.Term
namespace Go.Mi.Term
open Go.Mi Go.Proofs Go.RowKit
set_option maxRecDepth 100000 in
set_option maxHeartbeats 4000000 in
theorem gJ {b:Nat} {r:Rn} {F Y:List Nat} {l:List Tm} {v:Value} (w0:World) (hX:∀x,x∈F++Y->x<w0.heap.size) (hr:RunIs b r F (F++Y) w0) (hk:r.known.length+l.length<=1000000) (hv:TlIs w0 (F++Y) false l v):Calls Tryd.prog 51 (List.toArray [vp b,v]) w0 (Ret (da b (r.sees l) Y F w0 (λ_ _ _=>True))):=by refine bY (ρ:=bS b r) [eP b 0,tlS l] hX hr ⟨rfl,hv,zo⟩ Tryd.func51 rfl Tryd.ntmps51 rfl λac hS=> ?_;obtain⟨q,hS⟩:=hS.openR;refine rx [e0 4 [(7,eP b 17)] (eqS q.vk),e1 6 [(8,eqS q.vk),(9,tlS l)] (nwS 0),⟨9,[(12,eP b 17),(10,nwS 0)],bB,[1],true⟩] [] (Bl [stB (ft b r q) [],stB (gk b (r.sees l) 17 0) [(0,bB)],stB (bS b (r.sees l)) [(0,bB)]]) 2 [] ⟨⟨cV (fg _ _ _) rfl rfl rfl Tryd.underlying24 rfl rfl,zo⟩,⟨wA rfl rfl rfl rfl (.inl rfl) rfl hk,zo⟩,⟨pk (k:=0) rfl rfl rfl fM rfl rfl (by decide) (λ_ _ _ _ h hv=>xU h hv),zo⟩,zo⟩ hS rfl λac g w hS=> ?_;exact dv hS.f.frm (dt Tryd.results51) (hS.post zo)
set_option maxRecDepth 100000 in
set_option maxHeartbeats 4000000 in
theorem gP {b:Nat} {r:Rn} {F Y:List Nat} (w0:World) (hX:∀x,x∈F++Y->x<w0.heap.size) (hr:RunIs b r F (F++Y) w0) (hn:r.names<=1000000):Calls Tryd.prog 53 (List.toArray [vp b]) w0 (Ret (da b r.draw Y F w0 (λ_ _ v=>v=vI r.names))):=by refine bY (ρ:=bS b r) [eP b 0] hX hr ⟨rfl,zo⟩ Tryd.func53 rfl Tryd.ntmps53 rfl λac hS=> ?_;refine wp_seq ?_;refine rz hS [] [0,2] [(0,eP b 0),(2,eI 0)] zo λac g w hS=> ?_;refine wp_seq ?_;refine rx [e0 3 [(5,eP b 1)] (eI (r.names:Nat)),e0 4 [(6,eI (r.names:Nat))] (eI (((r.names:Nat):Int)+1)),e1 7 [(9,eP b 1),(7,eI (((r.names:Nat):Int)+1))] bB] [0,2] (Bl [stB (bS b r) [],stB (bS b r.draw) []]) 1 [(0,eP b 0),(2,eI 0)] ⟨⟨dL (eg _ _) rfl rfl rfl Tryd.underlying3 rfl (λ_=>rfl),zo⟩,⟨bN λξ g w hB hH=>⟨_,rfl,ci rfl rfl (bK (by omega) (by omega))⟩,zo⟩,⟨gn rfl rfl rfl sz3 rfl rfl rfl (by decide) (λ_=>rfl) rfl rfl rfl,zo⟩,zo⟩ hS rfl λac g w hS=> ?_;refine wp_seq ?_;refine rz hS [e0 3 [(12,eP b 1)] (eI ((r.names+1:Nat):Int)),e0 4 [(13,eI ((r.names+1:Nat):Int))] (eI (r.names:Nat))] [2] [(2,eI (r.names:Nat))] ⟨⟨dL (eg _ _) rfl rfl rfl Tryd.underlying3 rfl (λ_=>rfl),zo⟩,⟨bN λξ g w hB hH=>⟨_,rfl,eu rfl rfl ((bK (by omega) (by omega)).trans (by omega))⟩,zo⟩,zo⟩ λac g w hS=> ?_;refine wp_ret ?_;exact bv hS.f.frm (bw Tryd.results53 (RV.tmp hS.f.frm rfl)) (hS.post rfl)
set_option maxRecDepth 100000 in
set_option maxHeartbeats 4000000 in
theorem sa {b:Nat} {r:Rn} {F Y:List Nat} (w0:World) (hX:∀x,x∈F++Y->x<w0.heap.size) (hr:RunIs b r F (F++Y) w0) (hn:r.names<=900000) (hk:r.known.length<=900000):Calls Tryd.prog 56 (List.toArray [vp b]) w0 (Ret (da b r.drawKem Y F w0 (λX w v=>TmIs w X (kT r.names (r.names+1)) v))):=by refine bY (ρ:=bS b r) [eP b 0] hX hr ⟨rfl,zo⟩ Tryd.func56 rfl Tryd.ntmps56 rfl λac hS=> ?_;refine wp_seq ?_;refine rx [e1 0 [] (nwS 0)] [0,2] (Bl [stB (bS b r) [],stB (bS b r) [(26,cH 3)]]) 1 [(0,eP b 0),(2,nwS 0)] ⟨⟨cC rfl rfl rfl z26 rfl rfl,zo⟩,zo⟩ hS rfl λac g w hS=> ?_;refine wp_seq ?_;refine rx [e1 1 [(5,eP b 0)] (eI ((r).names)),⟨2,[(6,eI ((r).names))],tmS (aT ((r).names)),[1],false⟩,⟨4,[(8,eP b 0)],eI (((r).draw).names),[1],true⟩,⟨5,[(9,eI (((r).draw).names))],tmS (aT (((r).draw).names)),[2],false⟩,⟨6,[],nwS 1,[2],true⟩,⟨7,[],nwS 2,[3],true⟩,⟨8,[(3,nwS 1),(7,tmS (aT ((r).names)))],bB,[4],true⟩,⟨9,[(4,nwS 2),(10,tmS (aT (((r).draw).names)))],bB,[5],true⟩] [0,2,3,4] (Bl [stB (bS b r) [(26,cH 3)],stB (bS b ((r).draw)) [(26,cH 3)],stB (bS b (((r).draw).draw)) [(26,cH 3)],stB (bS b (((r).draw).draw)) [(26,cH 3),(26,cH 3)],stB (bS b (((r).draw).draw)) [(26,cH 3),(26,cH 3),(26,cH 3)],stB (bS b (((r).draw).draw)) [(26,cH 3),(26,tmS (aT ((r).names))),(26,cH 3)],stB (bS b (((r).draw).draw)) [(26,cH 3),(26,tmS (aT ((r).names))),(26,tmS (aT (((r).draw).names)))]]) 6 [(0,eP b 0),(2,nwS 0),(3,nwS 1),(4,nwS 2)] ⟨⟨dA (post:=λ_ _ v=>v=vI (r).names) rfl rfl (λ_ _ _ h=>h) λξ g w hw hr hH=>a_ c53 rfl (gP w hw.lt hr (by have :=hn;simp [Rn.draw];try omega)),zo⟩,⟨bX rfl λξ g w hB hH=>a_ c86 rfl (fp (a:=(r).names) w hB.wf.lt),zo⟩,⟨dA (post:=λ_ _ v=>v=vI ((r).draw).names) rfl rfl (λ_ _ _ h=>h) λξ g w hw hr hH=>a_ c53 rfl (gP w hw.lt hr (by have :=hn;simp [Rn.draw];try omega)),zo⟩,⟨bX rfl λξ g w hB hH=>a_ c86 rfl (fp (a:=((r).draw).names) w hB.wf.lt),zo⟩,⟨cC rfl rfl rfl z26 rfl rfl,zo⟩,⟨cC rfl rfl rfl z26 rfl rfl,zo⟩,⟨cB (k:=1) (m:=3) rfl rfl rfl rfl rfl rfl (by decide) b6 (cf 3) (bT _),zo⟩,⟨cB (k:=2) (m:=3) rfl rfl rfl rfl rfl rfl (by decide) b6 (cf 3) (bT _),zo⟩,zo⟩ hS rfl λac g w hS=> ?_;refine wp_seq ?_;refine rw_ mo [e0 1 [(3,nwS 1)] (tmS (aT ((r).names))),e0 2 [(12,tmS (aT ((r).names)))] (tfS [(aT ((r).names))]),e0 3 [(13,tfS [(aT ((r).names))])] (tmS (pT r.names)),e0 4 [(3,nwS 1)] (tmS (aT ((r).names))),e0 5 [(4,nwS 2)] (tmS (aT (((r).draw).names))),e0 6 [(15,tmS (aT ((r).names))),(16,tmS (aT (((r).draw).names)))] (tfS [(aT ((r).names)),(aT (((r).draw).names))]),e0 7 [(17,tfS [(aT ((r).names)),(aT (((r).draw).names))])] (tmS (ctT r.names (r.names+1))),e0 8 [(14,tmS (pT r.names)),(18,tmS (ctT r.names (r.names+1)))] (tfS [(pT r.names),(ctT r.names (r.names+1))]),e1 9 [(11,eP b 0),(19,tfS [(pT r.names),(ctT r.names (r.names+1))])] bB] [2,3,4] (Bl [stB (bS b (((r).draw).draw)) [(26,cH 3),(26,tmS (aT ((r).names))),(26,tmS (aT (((r).draw).names)))],stB (bS b ((((r).draw).draw).sees [(pT r.names),(ctT r.names (r.names+1))])) [(26,cH 3),(26,tmS (aT ((r).names))),(26,tmS (aT (((r).draw).names)))]]) 1 [(2,nwS 0),(3,nwS 1),(4,nwS 2)] ⟨⟨cg (k:=1) rfl rfl rfl rfl (by decide) Tryd.underlying26 rfl b6 (bT _).sized,zo⟩,⟨de rfl rfl rfl,zo⟩,⟨bX rfl λξ g w hB hH=>a_ c87 rfl (eO w hB.wf.lt (hH 13 _ rfl)),zo⟩,⟨cg (k:=1) rfl rfl rfl rfl (by decide) Tryd.underlying26 rfl b6 (bT _).sized,zo⟩,⟨cg (k:=2) rfl rfl rfl rfl (by decide) Tryd.underlying26 rfl b6 (bT _).sized,zo⟩,⟨cX rfl rfl rfl rfl,zo⟩,⟨bX rfl λξ g w hB hH=>a_ c87 rfl (eO w hB.wf.lt (hH 17 _ rfl)),zo⟩,⟨cX rfl rfl rfl rfl,zo⟩,⟨dA (post:=λ_ _ _=>True) rfl rfl (λ_ _ _ h=>h) λξ g w hw hr hH=>a_ c51 rfl (gJ w hw.lt hr (by have :=hk;simp [Rn.draw,Rn.sees];omega) (TlIs.gen (hH 19 _ rfl))),zo⟩,zo⟩ hS rfl λac g w hS=> ?_;refine wp_seq ?_;refine rx [e0 0 [(3,nwS 1)] (tmS (aT ((r).names))),e0 1 [(4,nwS 2)] (tmS (aT (((r).draw).names))),e0 2 [(21,tmS (aT ((r).names))),(22,tmS (aT (((r).draw).names)))] (tfS [(aT ((r).names)),(aT (((r).draw).names))]),e0 3 [(23,tfS [(aT ((r).names)),(aT (((r).draw).names))])] (tmS (kT r.names (r.names+1))),e1 4 [(2,nwS 0),(24,tmS (kT r.names (r.names+1)))] bB] [2] (Bl [stB (bS b ((((r).draw).draw).sees [(pT r.names),(ctT r.names (r.names+1))])) [(26,cH 3),(26,tmS (aT ((r).names))),(26,tmS (aT (((r).draw).names)))],stB (bS b ((((r).draw).draw).sees [(pT r.names),(ctT r.names (r.names+1))])) [(26,tmS (kT r.names (r.names+1))),(26,tmS (aT ((r).names))),(26,tmS (aT (((r).draw).names)))]]) 1 [(2,nwS 0)] ⟨⟨cg (k:=1) rfl rfl rfl rfl (by decide) Tryd.underlying26 rfl b6 (bT _).sized,zo⟩,⟨cg (k:=2) rfl rfl rfl rfl (by decide) Tryd.underlying26 rfl b6 (bT _).sized,zo⟩,⟨cX rfl rfl rfl rfl,zo⟩,⟨bX rfl λξ g w hB hH=>a_ c87 rfl (eO w hB.wf.lt (hH 23 _ rfl)),zo⟩,⟨cB (k:=0) (m:=3) rfl rfl rfl rfl rfl rfl (by decide) b6 (cf 3) (bT _),zo⟩,zo⟩ hS rfl λac g w hS=> ?_;refine wp_ret ?_;obtain⟨v0,d,c⟩:=hS.rv (x:=2) (k:=0) (m:=3) (ty:=26) rfl rfl (by decide) Tryd.underlying26 rfl b6 (bT _).sized;exact bv hS.f.frm (bw Tryd.results56 d) (hS.postT c)
end Go.Mi.Term
namespace Go.Mi.Term
open Go.Mi Go.Proofs Go.RowKit
set_option maxRecDepth 100000 in
set_option maxHeartbeats 4000000 in
theorem iI {b:Nat} {r:Rn} {F Y:List Nat} {inp:List Tm} {k:Nat} {e:Ep} {v v2:Value} (w0:World) (hX:∀x,x∈F++Y->x<w0.heap.size) (hr:RunIs b r F (F++Y) w0) (hl:inp.length<=1000) (hk1:k<=1000) (hep:r.eps.length<=1000000) (hv:TlIs w0 (F++Y) false inp v) (hv2:(agS (cxE e)).hold ⟨F,[],Y,[]⟩ w0 v2):Calls Tryd.prog 57 (List.toArray [vp b,v,vI k,v2]) w0 (Ret (da b (r.begin inp k e) Y F w0 (λ_ _ _=>True))):=by
 refine bY (ρ:=bS b r) [eP b 0,tlS inp,eI (k:Nat),agS (cxE e)] hX hr ⟨rfl,hv,rfl,hv2,zo⟩ Tryd.func57 rfl Tryd.ntmps57 rfl λac hS=> ?_;refine wp_seq ?_;refine rx [e1 0 [(3,agS (cxE e))] (nwS 0)] [0,1,2,7] (Bl [stB (bS b r) [],stB (bS b r) [(99,agS (cxE e))]]) 1 [(0,eP b 0),(1,tlS inp),(2,eI (k:Nat)),(7,nwS 0)] ⟨⟨cY rfl rfl rfl rfl (f7 _).sized rfl,zo⟩,zo⟩ hS rfl λac g w hS=> ?_;refine wp_seq ?_;refine rx [e0 3 [(11,eI (k:Nat))] (tmS (cT (k:Nat))),e0 4 [(12,tmS (cT (k:Nat)))] (tfS [(cT (k:Nat))]),e0 5 [(10,tlS inp),(13,tfS [(cT (k:Nat))])] (tmS (hT (inp++[cT k]))),e1 8 [(16,eP b 6),(14,tmS (hT (inp++[cT k])))] bB] [0,1,7] (Bl [stB (bS b r) [(99,agS (cxE e))],stB (bS b (r.rooted inp k)) [(99,agS (cxE e))]]) 1 [(0,eP b 0),(1,tlS inp),(7,nwS 0)] ⟨⟨bX rfl λξ g w hB hH=>a_ c52 rfl (qA (k:=(k:Nat)) w hB.wf.lt (by omega)),zo⟩,⟨de rfl rfl rfl,zo⟩,⟨bX rfl λξ g w hB hH=>a_ c88 rfl (nx w hB.wf.lt (by simp) (by simp;omega) (hH 10 _ rfl) (TlIs.gen (hH 13 _ rfl))),zo⟩,⟨rX rfl rfl rfl rfl rfl,zo⟩,zo⟩ hS rfl λac g w hS=> ?_;refine wp_seq ?_;refine wp_seq ?_;refine rz hS [] [0,1,7,17] [(0,eP b 0),(1,tlS inp),(7,nwS 0),(17,eI 0)] zo λac g w hS=> ?_;refine bA ?_;refine wp_block ?_;refine ca (λc ac w=>∃(i:Nat) (g:Gh),c=2-i/\(i<=2)/\SS [(0,eP b 0),(1,tlS inp),(7,nwS 0),(17,eI i)] 47 (stB (bS b ((r.rooted inp k).chains inp i)) [(99,agS (cxE e))]) ⟨F,[],Y,[]⟩ w0 ac g w) _ ⟨0,_,rfl,zV _,hS.toB (zu (λz=>stB (bS b z) _) (pH _ _).symm) ⟨rfl,rfl,rfl,rfl,zo⟩⟩ ?_;rintro _ ac w ⟨i,g,rfl,hi,hS⟩;refine wp_seq ?_;refine rz hS [] [0,1,7,17,18] [(0,eP b 0),(1,tlS inp),(7,nwS 0),(17,eI i),(18,eB (decide ((i:Int)<2)))] zo λac g w hS=> ?_;refine wp_seq ?_;refine cr hS.f.frm rfl (λh=> ?_) (λh=> ?_)
 ·have hc:=zB h;clear h;have hc:i<2:=by omega
  refine wp_skip ?_;refine wp_seq ?_;refine wp_block ?_;refine wp_seq ?_;refine rz hS [] [0,1,7,8,17] [(0,eP b 0),(1,tlS inp),(7,nwS 0),(8,eI i),(17,eI i)] zo λac g w hS=> ?_;refine rw_ mo [e0 3 [] (tmS (cT 3)),e0 8 [(27,eP b 4),(25,eI i)] (eP b (4+i*1)),e0 9 [(28,eP b (4+i*1))] (eI (r.x i:Nat)),e0 10 [(29,eI (r.x i:Nat))] (tmS (pT (r.x i:Nat))),e0 11 [(23,tmS (cT 3)),(30,tmS (pT (r.x i:Nat)))] (tfS [(cT 3),(pT (r.x i:Nat))]),e0 12 [(22,tlS inp),(31,tfS [(cT 3),(pT (r.x i:Nat))])] (tmS (hT (inp++[cT 3,pT (r.x i)]))),e0 15 [(34,eP b 9),(21,eI i)] (eP b (9+i*3)),e1 16 [(35,eP b (9+i*3)),(32,tmS (hT (inp++[cT 3,pT (r.x i)])))] bB] [0,1,7,17] (Bl [stB (bS b ((r.rooted inp k).chains inp i)) [(99,agS (cxE e))],stB (bS b {(r.rooted inp k).chains inp i with ch:=up ((r.rooted inp k).chains inp i).ch i (hT (inp++[cT 3,pT (r.x i)]))}) [(99,agS (cxE e))]]) 1 [(0,eP b 0),(1,tlS inp),(7,nwS 0),(17,eI i)] ⟨⟨bX rfl λξ g w hB hH=>a_ c52 rfl (qA (k:=3) w hB.wf.lt (by omega)),zo⟩,⟨cJ rfl rfl rfl Tryd.underlying56 sz3 hc,zo⟩,⟨dL (eg _ _) rfl rfl rfl Tryd.underlying3 rfl (λ_=>j7 hc),zo⟩,⟨bX rfl λξ g w hB hH=>a_ c54 rfl (lS (a:=(r.x i:Nat)) w hB.wf.lt),zo⟩,⟨cX rfl rfl rfl rfl,zo⟩,⟨bX rfl λξ g w hB hH=>a_ c88 rfl (nx w hB.wf.lt (by simp) (by simp;omega) (hH 22 _ rfl) (TlIs.gen (hH 31 _ rfl))),zo⟩,⟨cJ rfl rfl rfl Tryd.underlying64 b6 hc,zo⟩,⟨rZ hc rfl rfl rfl rfl rfl,zo⟩,zo⟩ hS rfl λac g w hS=> ?_;refine bR ?_;refine rz hS [e0 0 [(17,eI i)] (eI (((i:Nat):Int)+1))] [0,1,7,17] [(0,eP b 0),(1,tlS inp),(7,nwS 0),(17,eI (((i:Nat):Int)+1))] ⟨⟨bN λξ g w hB hH=>⟨_,rfl,ci rfl rfl (bK (by omega) (by omega))⟩,zo⟩,zo⟩ λac g w hS=> ?_;refine bA ?_;refine⟨_,?_,i+1,_,rfl,hc,hS.toB (zu (λz=>stB (bS b z) _) (jt _ _ _).symm) ⟨rfl,rfl,rfl,rfl,zo⟩⟩;omega
 ·have hc:=of_decide_eq_false h;clear h;obtain rfl:i=2:=by omega
  refine wp_exit ?_;refine bM ?_;refine bM ?_;refine bZ ?_;refine bA ?_;obtain⟨q,hS⟩:=hS.openR;refine rw_ mo [e0 4 [(40,eP b 18)] (eqS q.ve),e0 5 [(7,nwS 0)] (agS (cxE e)),e0 6 [(42,agS (cxE e))] (slS (cxE e) 1),e1 7 [(41,eqS q.ve),(43,slS (cxE e) 1)] (nwS 1),⟨10,[(46,eP b 18),(44,nwS 1)],bB,[1],true⟩] [0,1,7] (Bl [stB (ft b ((r.rooted inp k).chains inp 2) q) [(99,agS (cxE e))],stB (gk b (((r.rooted inp k).chains inp 2).ended e) 18 1) [(99,agS (cxE e)),(0,bB)],stB (bS b (r.begin inp k e)) [(99,agS (cxE e)),(0,bB)]]) 2 [(0,eP b 0),(1,tlS inp),(7,nwS 0)] ⟨⟨cV (fg _ _ _) rfl rfl rfl Tryd.underlying90 rfl rfl,zo⟩,⟨cg (k:=0) rfl rfl rfl rfl (by decide) Tryd.underlying99 rfl vl (f7 _).sized,zo⟩,⟨kO rfl rfl Tryd.underlying90 yE (by decide) (by decide) rfl (λ_ _ _ h=>uY h),zo⟩,⟨wB rfl rfl rfl rfl rfl rfl hep,zo⟩,⟨pk (k:=1) rfl rfl rfl xn rfl rfl (by decide) (λ_ _ _ _ h hv=>xS h hv),zo⟩,zo⟩ hS rfl λac g w hS=> ?_;exact dv hS.f.frm (dt Tryd.results57) (hS.post zo)
set_option maxRecDepth 100000 in
set_option maxHeartbeats 4000000 in
theorem c_ {b:Nat} {r:Rn} {F X:List Nat} (w0:World) (hX:∀x,x∈X->x<w0.heap.size) (hr:RunIs b r F X w0) (hs:∀x,x∈F->x∈X) (h0:0<r.eps.length):Calls Tryd.prog 58 (List.toArray [vp b]) w0 (Ret λv w'=>Gr w0 w'/\v= .bool false):=by obtain⟨q,rfl,h⟩:=hr;refine bY (F:=[]) (ρ:=cI b r q) [eP b 0] hX ⟨rfl,hs,h⟩ ⟨rfl,zo⟩ Tryd.func58 rfl Tryd.ntmps58 rfl λac hS=> ?_;refine wp_seq ?_;refine rz hS [] [0,2] [(0,eP b 0),(2,eqS vf)] zo λac g w hS=> ?_;refine wp_seq ?_;refine rz hS [e0 1 [(3,eP b 0)] (eqS vf),e0 6 [(5,eqS vf),(8,eP b 18)] (eqS q.ve),e0 7 [(5,eqS vf),(9,eqS q.ve)] (eI r.eps.length),e0 8 [(5,eqS vf),(10,eI r.eps.length)] (eqS vf)] [2] [(2,eqS vf)] ⟨⟨rg rfl rfl rfl rfl,zo⟩,⟨cV (cz _ _ _) rfl rfl rfl Tryd.underlying90 rfl rfl,zo⟩,⟨fi (e:=99) (m:=3) (cz _ _ _) rfl rfl rfl Tryd.underlying90 (λ_ _ h=>⟨_,h.ep⟩),zo⟩,⟨lR rfl rfl rfl (decide_eq_false (by omega)),zo⟩,zo⟩ λac g w hS=> ?_;refine wp_ret ?_;exact bv hS.f.frm (bw Tryd.results58 (RV.tmp hS.f.frm rfl)) ⟨hS.gr0,rfl⟩
set_option maxRecDepth 100000 in
set_option maxHeartbeats 4000000 in
theorem iE {b:Nat} {r:Rn} {F X:List Nat} (w0:World) (hX:∀x,x∈X->x<w0.heap.size) (hr:RunIs b r F X w0) (hs:∀x,x∈F->x∈X) (h0:0<r.eps.length) (h1:r.eps.length<=1000000):Calls Tryd.prog 39 (List.toArray [vp b]) w0 (Ret λv w'=>Gr w0 w'/\v=vI ((r.eps.length-1:Nat):Int)):=by obtain⟨q,rfl,h⟩:=hr;refine bY (F:=[]) (ρ:=cI b r q) [eP b 0] hX ⟨rfl,hs,h⟩ ⟨rfl,zo⟩ Tryd.func39 rfl Tryd.ntmps39 rfl λac hS=> ?_;refine wp_seq ?_;refine rz hS [] [0,2] [(0,eP b 0),(2,eI 0)] zo λac g w hS=> ?_;refine wp_seq ?_;refine wp_seq ?_;refine rz hS [e0 1 [(3,eP b 0)] (eqS vf)] [0,2,4] [(0,eP b 0),(2,eI 0),(4,eqS vf)] ⟨⟨bX rfl λξ g w hB hH=>a_ c58 rfl (c_ w hB.wf.lt ⟨_,rfl,hB.run.2.2⟩ hB.run.2.2.rs.sub h0),zo⟩,zo⟩ λac g w hS=> ?_;refine wp_cond_false (hS.f.frm.eval rfl) ?_;refine wp_skip ?_;refine wp_seq ?_;refine rz hS [e0 3 [(7,eP b 18)] (eqS q.ve),e0 4 [(8,eqS q.ve)] (eI r.eps.length),e0 5 [(9,eI r.eps.length)] (eI ((r.eps.length-1:Nat):Int))] [2] [(2,eI ((r.eps.length-1:Nat):Int))] ⟨⟨cV (cz _ _ _) rfl rfl rfl Tryd.underlying90 rfl rfl,zo⟩,⟨fi (e:=99) (m:=3) (cz _ _ _) rfl rfl rfl Tryd.underlying90 (λ_ _ h=>⟨_,h.ep⟩),zo⟩,⟨bN λξ g w hB hH=>⟨_,rfl,eu rfl rfl ((bK (by omega) (by omega)).trans (by omega))⟩,zo⟩,zo⟩ λac g w hS=> ?_;refine wp_ret ?_;exact bv hS.f.frm (bw Tryd.results39 (RV.tmp hS.f.frm rfl)) ⟨hS.gr0,rfl⟩
end Go.Mi.Term
namespace Go.Mi.Term
open Go.Mi Go.Proofs Go.RowKit
theorem iO:(Tryd.prog.info? 56).map (·.size)=some 2:=by kernel_rfl
theorem qF:(Tryd.prog.info? 56).map (λi=>(i.size,i.zero))=some (2,some (.agg #[(vI 0),(vI 0)])):=by kernel_rfl
theorem z56:(Tryd.prog.info? 56).bind (·.zero)=some (.agg #[(vI 0),(vI 0)]):=by kernel_rfl
theorem yW (w:World):∀fs,Tryd.prog.underlying 58=some (.struct fs)->(fs.mapM λf=>(do pure (f.offset,<-sizeOf f.type):Sem (Nat×Nat))).run Tryd.prog w= .ok #[(0,3),(3,1),(4,1),(5,1)] w:=by intro fs h;rw[Tryd.underlying58]at h;cases h;obtain⟨i1,h1,e1⟩:=zq.1 b6;obtain⟨i3,h3,e3⟩:=zq.1 sz3;simp [sizeOf,typeInfo,h1,h3,e1,e3]
theorem xJ (w:World):∀fs,Tryd.prog.underlying 99=some (.struct fs)->(fs.mapM λf=>(do pure (f.offset,<-sizeOf f.type):Sem (Nat×Nat))).run Tryd.prog w= .ok #[(0,1),(1,1),(2,1)] w:=by intro fs h;rw[Tryd.underlying99]at h;cases h;obtain⟨i1,h1,e1⟩:=zq.1 xm;obtain⟨i3,h3,e3⟩:=zq.1 sz4;simp [sizeOf,typeInfo,h1,h3,e1,e3]
theorem sr {a b:Int} {ad:Option Addr} {l c:Nat} {u v x:Int}:Instr.fill ((#[(0,3),(3,1),(4,1),(5,1)]:Array (Nat×Nat))[·]?) (Value.agg #[(Value.int .i64 0),(Value.int .i64 0),(Value.slice none 0 0),(Value.int .i64 0),(Value.int .i64 0),(Value.int .i64 0)]).cells [(0,.agg #[.int .i64 a,.int .i64 b,.slice ad l c]),(1,.int .i64 u),(2,.int .i64 v),(3,.int .i64 x)]=some #[.int .i64 a,.int .i64 b,.slice ad l c,.int .i64 u,.int .i64 v,.int .i64 x]:=by simp [Instr.fill,Value.cells]
theorem sq {ad:Option Addr} {l c:Nat} {u v:Bool}:Instr.fill ((#[(0,1),(1,1),(2,1)]:Array (Nat×Nat))[·]?) (Value.agg #[(Value.slice none 0 0),(Value.bool false),(Value.bool false)]).cells [(0,.slice ad l c),(1,.bool u),(2,.bool v)]=some #[.slice ad l c,.bool u,.bool v]:=by simp [Instr.fill,Value.cells]
theorem wQ {u v:Int}:Instr.fill (λi=>some (i*1,1)) (Value.agg #[(vI 0),(vI 0)]).cells [(0,.int .i64 u),(1,.int .i64 v)]=some #[.int .i64 u,.int .i64 v]:=by simp [Instr.fill,Value.cells]
theorem wO {z:Value} {a b:Int}:Instr.fill (λi=>some (i*2,2)) ((Array.range (1*2)).map (z.cells[· %z.cells.size]!)) [(0,.agg #[.int .i64 a,.int .i64 b])]=some #[.int .i64 a,.int .i64 b]:=by simp [Instr.fill,Value.cells];apply Array.ext';simp [zO,z6,Ab,Ag]
theorem sE {P : Program} {n : Nat} {L : List (Nat × Value)} {w : World} {ds : Option Nat} {ty : TypeId} {pos : String} {af : Array Edge} {gu : Option (Nat × Bool)} {t e len m : Nat} {z : Value} {parts : Array (Nat × Operand)} {ps : List (Nat × Value)} {cells : Array Value} (ht : P.underlying t = some (.array len e)) (hz : (P.info? t).bind (·.zero) = some z) (hs : (P.info? e).map (·.size) = some m)
  (hp:evp L parts.toList=some ps) (hf:Instr.fill (λi=>some (i*m,m)) z.cells ps=some cells):Det P ⟨ds,.build t parts,ty,pos,af,gu⟩ n L w (.agg cells) w:=
 Det.of_run λa hF=>by
  obtain⟨inf,hi,hz'⟩:=As.1 hz;obtain⟨inf2,hi2,hz2⟩:=zq.1 hs;subst hz2;have he:(parts.map λp=>(p.1,a.eval p.2)).toList=ps:=by rw[z6];exact iD hF hp
  have hzr:(zeroValue t).run P w= .ok z w:=by simp [zeroValue,typeInfo,hi,hz']
  have hsr:(sizeOf e).run P w= .ok inf2.size w:=by simp [sizeOf,typeInfo,hi2]
  simp only[execOp,Instr.build,Sem.run_bind,hzr,bQ ht,Result.andThen_ok,hsr,he,hf];rfl
theorem pQ (u v:Int):Agg 2 (agS (cxV [vI u,vI v])):=λg w x ⟨vs,h,h2⟩=>by obtain rfl:vs=[vI u,vI v]:=h2;exact⟨_,h,rfl,by simp [Value.oneCell']⟩
namespace Rn
abbrev kk (r:Rn) (j:Nat):Ky:=⟨r.key j,r.eps.length-1,j,r.ix j⟩
abbrev s1 (r:Rn) (j:Nat):Rn:={r with keys:=r.keys++[r.kk j]}
abbrev s2 (r:Rn) (j:Nat):Rn:={r.s1 j with behind:=r.behind++[r.last.rev]}
abbrev s3 (r:Rn) (j:Nat):Rn:={r.s2 j with ix:=up r.ix j (r.ix j+1)}
abbrev s4 (r:Rn) (j:Nat):Rn:={r.s3 j with ch:=up r.ch j (hT [r.ch j,cT 1])}
abbrev t1 (r:Rn) (j:Nat):Rn:={r.draw with x:=up r.x j r.names}
end Rn
theorem vC {r:Rn} {q:Rv} {j:Nat} (hj:j<2):(rcl (r.t1 j) q)[4+j*1]? =some (vI r.names):=by rw[j7 hj];simp [di]
theorem re {r:Rn} {q:Rv} {j:Nat} (hj:j<2):(rcl (r.drawX j) q)[4+j*1]? =some (vI r.names):=by rw[j7 hj];simp [Rn.drawX,di]
theorem rc {r:Rn} {q:Rv} {j:Nat} (hj:j<2):(rcl (r.drawX j) q)[4+(1-j)*1]? =some (vI (r.x (1-j))):=by rw[j7 (by omega)];simp [Rn.drawX,dx (show 1-j≠j by omega)]
def bkV:Value->Nat
 | .slice (some a) _ _=>a.block
 |_=>0
theorem fy {w:World} {base m n:Nat} {e:TypeId} {v:Value} {xs:List Value} (h:Own w base e m v n xs) (hn:0<n):∃cap,v= .slice (some ⟨bkV v,0,none⟩) n cap/\At w (bkV v) 0 xs:=by obtain⟨b,cap,rfl,h2,_⟩:=Own.form0 h hn;exact⟨_,rfl,h2⟩
section
variable {ops:List Oper} {n:Nat} {B:Nat->BX XX} {i p b k o:Nat} {L:TL TT} {ph:List Nat} {ρ:RX} {ns:List (Nat×Sp TT)} {ds:Option Tmp} {ty:TypeId} {pos:String} {af:Array Edge} {gu:Option (Nat×Bool)} {t:TypeId} {r r':Rn} {q:Rv} {v:Value} {x y x1 x2 x3 x4:Operand} {s:Sp TT}
set_option maxRecDepth 100000 in
theorem vW {u:Tm} {e1 e2 e3:Nat} (hop:ops.getD i default=⟨ds,.build 58 #[(0,x1),(1,x2),(2,x3),(3,x4)],t,pos,af,gu⟩) (h1:spO L x1=some (tmS u)) (h2:spO L x2=some (eI e1)) (h3:spO L x3=some (eI e2)) (h4:spO L x4=some (eI e3)):EOb Tryd.prog n ops XX B ⟨i,L,agS (cxK ⟨u,e1,e2,e3⟩),ph,false⟩ p:=bN λξ g w hB hH=>by rw[hop];obtain⟨v,k1,k2⟩:=bH h1 hH;obtain⟨a1,a2,ad,l,c,rfl,k3⟩:=TmIs.cells k2;have k4:=bF (ξ:=ξ) h2;have k5:=bF (ξ:=ξ) h3;have k6:=bF (ξ:=ξ) h4;exact⟨_,⟨_,rfl,_,rfl,k3⟩,cM (ps:=[(0,.agg #[.int .i64 a1,.int .i64 a2,.slice ad l c]),(1,vI e1),(2,vI e2),(3,vI e3)]) Tryd.underlying58 z58 (λw=>yW w _ Tryd.underlying58) (by simp [evp,k1,k4,k5,k6]) sr⟩
set_option maxRecDepth 100000 in
theorem ru {a1 a2:Nat} {c1 c2:Bool} (hop:ops.getD i default=⟨ds,.build 99 #[(0,x1),(1,x2),(2,x3)],t,pos,af,gu⟩) (h1:spO L x1=some (slS (cxV [vI a1,vI a2]) 1)) (h2:spO L x2=some (eqS (.bool c1))) (h3:spO L x3=some (eqS (.bool c2))):EOb Tryd.prog n ops XX B ⟨i,L,agS (cxE ⟨[(a1,a2)],c1,c2⟩),ph,false⟩ p:=bN λξ g w hB hH=>by rw[hop];obtain⟨v,k1,b1,o1,cap,vs,rfl,m1,m2,m3,m4⟩:=bH h1 hH;have m4:vs=[vI a1,vI a2]:=m4;subst m4;have k4:=bF (ξ:=ξ) h2;have k5:=bF (ξ:=ξ) h3;exact⟨_,⟨[.slice (some ⟨b1,o1,none⟩) 1 (1+cap),.bool c1,.bool c2],rfl,_,rfl,.inr ⟨b1,o1,cap,rfl,m1,m2,m3⟩⟩,cM (ps:=[(0,.slice (some ⟨b1,o1,none⟩) 1 (1+cap)),(1,.bool c1),(2,.bool c2)]) Tryd.underlying99 z99 (λw=>xJ w _ Tryd.underlying99) (by simp [evp,k1,k4,k5]) sq⟩
set_option maxRecDepth 100000 in
theorem d_ {a1 a2:Int} (hop:ops.getD i default=⟨ds,.build 56 #[(0,x1),(1,x2)],t,pos,af,gu⟩) (h1:spO L x1=some (eI a1)) (h2:spO L x2=some (eI a2)):EOb Tryd.prog n ops XX B ⟨i,L,agS (cxV [vI a1,vI a2]),ph,false⟩ p:=bN λξ g w hB hH=>by rw[hop];have k1:=bF (ξ:=ξ) h1;have k2:=bF (ξ:=ξ) h2;exact⟨_,⟨[vI a1,vI a2],rfl,rfl⟩,sE (ps:=[(0,vI a1),(1,vI a2)]) Tryd.underlying56 z56 sz3 (by simp [evp,k1,k2]) wQ⟩
theorem ml {z:Value} {a b:Int} {w:World} {X:List Nat} {vs:List Value} (h:(cxV [vI a,vI b]).R w X vs):Instr.fill (λi=>some (i*2,2)) ((Array.range (1*2)).map (z.cells[· %z.cells.size]!)) [(0,.agg vs.toArray)]=some vs.toArray:=by obtain rfl:vs=[vI a,vI b]:=h;exact wO
theorem gB {j:Nat} (hr:gp ρ b r q) (hB0:B p=stB ρ ns) (hop:ops.getD i default=⟨ds,.indexAddr 90 x y,t,pos,af,gu⟩) (hx:spO L x=some (eqS q.ve)) (hy:spO L y=some (eI j)) (hj:j<r.eps.length):EOb Tryd.prog n ops XX B ⟨i,L,eP (bkV q.ve) (j*3),ph,false⟩ p:=bN λξ g w hB hH=>by rw[hB0]at hB;have hB:StB ρ ns g w:=hB;rw[hop];obtain⟨cap,e,_⟩:=fy (hr g w hB.run).rs.ep (by omega);have hx:=bF (ξ:=ξ) hx;rw[e]at hx;refine⟨_,rfl,?_⟩;have :=dU (w:=w) (n:=n) (ds:=ds) (ty:=t) (pos:=pos) (af:=af) (gu:=gu) Tryd.underlying90 vl hx (bF hy) rfl hj;simpa using this
theorem u5 {w:World} {X:List Nat} {j:Nat} {e:Ep} (h:RunRs w X b r q) (hj:r.eps[j]? =some e):∃sl,w.cell? ⟨bkV q.ve,j*3,none⟩=some sl/\w.cell? ⟨bkV q.ve,j*3+1,none⟩=some (.bool e.kem)/\w.cell? ⟨bkV q.ve,j*3+2,none⟩=some (.bool e.rev)/\SlA w X sl e.dhs.length (dhL e.dhs):=by
 obtain⟨x1,u,x2,e1,e2,⟨sl,rfl,h3⟩,_⟩:=AllIs.at EpIs.len h.et hj;have hl:0<r.eps.length:=by
  rcases Al r.eps.length with h'|h'
  ·rw[zR h']at hj;simp at hj
  ·exact h'
 obtain⟨cap,_,hat⟩:=fy h.ep hl;have hk:∀k v,[sl,.bool e.kem,.bool e.rev][k]? =some v->w.cell? ⟨bkV q.ve,j*3+k,none⟩=some v:=λk v hv=>by have :=hat (j*3+k) v (by rw[e1,Aa,zM (by omega),e2,AC,zL];exact hv;rcases zF k 3 with h'|h';exact h';rw[zz h']at hv;cases hv);simpa using this
 exact⟨sl,hk 0 _ rfl,hk 1 _ rfl,hk 2 _ rfl,h3⟩
theorem o3 {j:Nat} {e:Ep} (hr:gp ρ b r q) (hB0:B p=stB ρ ns) (hop:ops.getD i default=⟨ds,.load 4 x,t,pos,af,gu⟩) (hx:spO L x=some (eP (bkV q.ve) (j*3+2))) (hj:r.eps[j]? =some e):EOb Tryd.prog n ops XX B ⟨i,L,eqS (.bool e.rev),ph,false⟩ p:=bN λξ g w hB hH=>by rw[hB0]at hB;have hB:StB ρ ns g w:=hB;rw[hop];obtain⟨_,_,_,h,_⟩:=u5 (hr g w hB.run).rs hj;exact⟨_,rfl,bJ Tryd.underlying4 rfl (bF hx) h⟩
theorem d7 {j:Nat} (hop:ops.getD i default=⟨ds,.indexAddr 56 x y,t,pos,af,gu⟩) (hB0:B p=stB ρ ns) (hx:spO L x=some (nwS k)) (hy:spO L y=some (eI (j:Int))) (hj:j<2) (hk:ns[k]? =some (ty,s)) (hty:ty≠0):EOb Tryd.prog n ops XX B ⟨i,L,nwO k j,ph,false⟩ p:=bN λξ g w hB hH=>by rw[hB0]at hB;have hB:StB ρ ns g w:=hB;rw[hop];obtain⟨vx,h1,h2⟩:=bH hx hH;obtain⟨b,c,h5,_⟩:=hB.cell k _ hk hty;have h2:g.N[k]? =some vx:=h2;rw[h5]at h2;cases h2;refine⟨vP b (0+j*1),⟨b,h5,by simp⟩,iH Tryd.underlying56 sz3 h1 (bF hy) hj⟩
theorem bP {j:Nat} {us:List Value} {d:TypeDesc} {T:TypeId} (hop:ops.getD i default=⟨ds,.load ty x,t,pos,af,gu⟩) (hB0:B p=stB ρ ns) (hx:spO L x=some (nwO k j)) (hk:ns[k]? =some (T,agS (cxV us))) (hT:T≠0) (ht:Tryd.prog.underlying ty=some d) (hf:TypeDesc.flat d=true) (hv:us[j]? =some v):EOb Tryd.prog n ops XX B ⟨i,L,eqS v,ph,false⟩ p:=bN λξ g w hB hH=>by rw[hB0]at hB;have hB:StB ρ ns g w:=hB;rw[hop];obtain⟨vx,h1,b',h2,rfl⟩:=bH hx hH;obtain⟨b,c,h5,_,h7,h8⟩:=hB.cell k _ hk hT;rw[h5]at h2;cases h2;obtain⟨vs,e,h9⟩:=h8;have h9:vs=us:=h9;subst h9;cases e;exact⟨v,rfl,bJ ht hf h1 (by rw[cG h7];simpa using hv)⟩
theorem rA {ts us:List Tm} (hB0:B p=stB ρ ns) (hop:ops.getD i default=⟨ds,.call ⟨.builtin .append,#[x,y],#[24,24]⟩,t,pos,af,gu⟩) (hx:spO L x=some (tfS ts)) (hy:spO L y=some (tfS us)) (h0:0<us.length) (hsz:ts.length+us.length<=1000000):EOb Tryd.prog n ops XX B ⟨i,L,tlS (ts++us),ph,false⟩ p:=fv λξ g w hB hH=>by
 rw[hB0]at hB;have hB:StB ρ ns g w:=hB;rw[hop];obtain⟨vx,e1,b1,o1,c1,xs,rfl,hc,_,_,hat,hts⟩:=bH hx hH;obtain⟨vy,e2,b2,o2,c2,ys,rfl,_,_,_,hat2,hts2⟩:=bH hy hH;obtain⟨inf,hi1,hz⟩:=zq.1 kR;simp only[Prod.mk.injEq]at hz;have hc:=hc rfl;obtain⟨v',w',hr,hown,hg⟩:=run_append_arg_grows (P:=Tryd.prog) w 24 t 26 inf _ 3 40 Tryd.underlying24 hi1 hz.2.2 hz.1 hz.2.1 rfl (by decide) ⟨b1,o1,none⟩ ts.length (ts.length+c1) xs ((IsTs.len hts).trans (AO _ _)) (λj u hu=>by rw[dz];exact hat j u hu) ⟨b2,o2,none⟩ us.length (us.length+c2) ys ((IsTs.len hts2).trans (AO _ _)) (λj u hu=>by rw[dz];exact hat2 j u hu) (by omega) (by unfold maxLen;omega) (by omega);have hd:Det Tryd.prog ⟨ds,.call ⟨.builtin .append,#[x,y],#[24,24]⟩,t,pos,af,gu⟩ n (exL L ξ) w v' w':=Det.of_run λa hF=>by simp [execOp,hF.eval e1,hF.eval e2,resolve,invoke,builtin,hr]
 refine hd.mono λv'' w'' ⟨q1,q2⟩=> ?_;subst q1;subst q2;have hch:=Ch.of_grown hg;obtain⟨b3,cap,e3,h6,h7⟩:=Own.form0 hown (by omega);have hlt:=Own.lt hown b3 h7;have hX:∀x,x∈g.X->x∈g.X\/w.heap.size<=x:=λx hx=> .inl hx;exact⟨hch.gr,b3,0,cap,_,by rw[zP];exact e3,(λh=>by cases h),λhm=>by have :=hB.wf.lt b3 hm;omega,hlt.2,h6,IsTs.app (IsTs.mv hch (by simp) hX _ _ hts) (IsTs.mv hch (by simp) hX _ _ hts2)⟩
end
theorem gO {r:Rn} (h0:0<r.eps.length):r.eps[r.eps.length-1]? =some r.last:=by unfold Rn.last;rw[zG,zp (show r.eps.length-1<r.eps.length by omega)];rfl
theorem sU (e:Ky):Agg 6 (agS (cxK e)):=λg w v ⟨vs,h,h2⟩=>by
 obtain⟨ts,rfl,hsl⟩:=(h2:KyIs w g.X e vs);obtain⟨_,_,_,_,_,rfl⟩:=hsl.form;refine⟨_,h,rfl,?_⟩;intro u hu;simp only[zx,zr,zI,or_false]at hu;rcases hu with(rfl|rfl|rfl)|rfl|rfl|rfl<;>rfl
end Go.Mi.Term
namespace Go.Mi.Term
open Go.Mi Go.Proofs Go.RowKit
set_option maxRecDepth 100000 in
set_option maxHeartbeats 4000000 in
theorem tB {b:Nat} {r:Rn} {F Y:List Nat} {j:Nat} (w0:World) (hX:∀x,x∈F++Y->x<w0.heap.size) (hr:RunIs b r F (F++Y) w0) (hj:j<2) (h0:0<r.eps.length) (h1:r.eps.length<=900000) (hn:r.names<=900000) (hk:r.known.length<=900000) (hky:r.keys.length<=900000) (hbh:r.behind.length<=900000) (hix:r.ix j<=900000):Calls Tryd.prog 59 (List.toArray [vp b,vI j]) w0 (Ret (da b (r.send j) Y F w0 (λ_ _ _=>True))):=by refine bY (ρ:=bS b r) [eP b 0,eI j] hX hr ⟨rfl,rfl,zo⟩ Tryd.func59 rfl Tryd.ntmps59 rfl λac hS=> ?_;refine wp_seq ?_;refine rw_ mo [⟨4,[(8,eP b 9),(6,eI j)],eP b (9+j*3),[0,1],false⟩,⟨5,[(9,eP b (9+j*3))],tmS (r.ch j),[0,1],false⟩,⟨6,[],tmS (cT 0),[0,1],false⟩,⟨7,[(10,tmS (r.ch j)),(11,tmS (cT 0))],tfS [(r.ch j),(cT 0)],[0,1],false⟩,⟨8,[(12,tfS [(r.ch j),(cT 0)])],tmS (r.key j),[0,1],false⟩,e1 9 [] (nwS 0),⟨10,[(4,nwS 0),(13,tmS (r.key j))],bB,[1],true⟩] [0,1,4] (Bl [stB (bS b r) [],stB (bS b r) [(26,cH 3)],stB (bS b r) [(26,tmS (r.key j))]]) 2 [(0,eP b 0),(1,eI j),(4,nwS 0)] ⟨⟨cJ rfl rfl rfl Tryd.underlying64 b6 hj,cJ rfl rfl rfl Tryd.underlying64 b6 hj,zo⟩,⟨kc (r:=r) hj (eg _ _) rfl rfl rfl,kc (r:=r) hj (eg _ _) rfl rfl rfl,zo⟩,⟨bX rfl λξ g w hB hH=>a_ c52 rfl (qA (k:=0) w hB.wf.lt (by omega)),bX rfl λξ g w hB hH=>a_ c52 rfl (qA (k:=0) w hB.wf.lt (by omega)),zo⟩,⟨cX rfl rfl rfl rfl,cX rfl rfl rfl rfl,zo⟩,⟨bX rfl λξ g w hB hH=>a_ c87 rfl (eO w hB.wf.lt (hH 12 _ rfl)),bX rfl λξ g w hB hH=>a_ c87 rfl (eO w hB.wf.lt (hH 12 _ rfl)),zo⟩,⟨cC rfl rfl rfl z26 rfl rfl,zo⟩,⟨cB (k:=0) (m:=3) rfl rfl rfl rfl rfl rfl (by decide) b6 (cf 3) (bT _),zo⟩,zo⟩ hS rfl λac g w hS=> ?_;refine wp_seq ?_;obtain⟨q,hS⟩:=hS.openR;refine rw_ mo [e0 4 [(17,eP b 20)] (eqS q.vy),e0 5 [(4,nwS 0)] (tmS (r.key j)),e0 7 [(20,eP b 0)] (eI ((r.eps.length-1:Nat):Int)),e0 13 [(26,eP b 15),(24,eI j)] (eP b (15+j*1)),e0 14 [(27,eP b (15+j*1))] (eI (r.ix j:Nat)),e0 15 [(19,tmS (r.key j)),(21,eI ((r.eps.length-1:Nat):Int)),(22,eI j),(28,eI (r.ix j:Nat))] (agS (cxK (r.kk j))),e0 16 [(29,agS (cxK (r.kk j)))] (slS (cxK (r.kk j)) 1),e1 17 [(18,eqS q.vy),(30,slS (cxK (r.kk j)) 1)] (nwS 1),⟨20,[(33,eP b 20),(31,nwS 1)],bB,[1],true⟩] [0,1,4] (Bl [stB (ft b r q) [(26,tmS (r.key j))],stB (gk b (r.s1 j) 20 1) [(26,tmS (r.key j)),(0,bB)],stB (bS b (r.s1 j)) [(26,tmS (r.key j)),(0,bB)]]) 2 [(0,eP b 0),(1,eI j),(4,nwS 0)] ⟨⟨cV (fg _ _ _) rfl rfl rfl Tryd.underlying53 rfl rfl,zo⟩,⟨cg (k:=0) rfl rfl rfl rfl (by decide) Tryd.underlying26 rfl b6 (bT _).sized,zo⟩,⟨bX rfl λξ g w hB hH=>a_ c39 rfl (iE (r:=r) w hB.wf.lt ⟨_,rfl,hB.run.2⟩ hB.run.2.rs.sub h0 (zy h1 (by decide))),zo⟩,⟨cJ rfl rfl rfl Tryd.underlying56 sz3 hj,zo⟩,⟨cV (fg _ _ _) rfl rfl rfl Tryd.underlying3 rfl (rf hj),zo⟩,⟨vW rfl rfl rfl rfl rfl,zo⟩,⟨kO rfl rfl Tryd.underlying53 w7 (by decide) (by decide) rfl (λ_ _ _ h=>so h),zo⟩,⟨wz rfl rfl rfl rfl rfl rfl (by omega),zo⟩,⟨pk (k:=1) rfl rfl rfl xu rfl rfl (by decide) (λ_ _ _ _ h hv=>xR h hv),zo⟩,zo⟩ hS rfl λac g w hS=> ?_;refine wp_seq ?_;obtain⟨q,hS⟩:=hS.openR;refine rw_ mo [e0 4 [(37,eP b 21)] (eqS q.vb),e0 8 [(41,eP b 18)] (eqS q.ve),e0 10 [(43,eP b 0)] (eI ((r.eps.length-1:Nat):Int)),e0 11 [(42,eqS q.ve),(44,eI ((r.eps.length-1:Nat):Int))] (eP (bkV q.ve) ((r.eps.length-1)*3)),e0 13 [(46,eP (bkV q.ve) ((r.eps.length-1)*3+2))] (eB r.last.rev),e0 14 [(47,eB r.last.rev)] (slS (cxV [.bool r.last.rev]) 1),e1 15 [(38,eqS q.vb),(48,slS (cxV [.bool r.last.rev]) 1)] (nwS 2),⟨18,[(51,eP b 21),(49,nwS 2)],bB,[1],true⟩] [0,1,4] (Bl [stB (ft b (r.s1 j) q) [(26,tmS (r.key j)),(0,bB)],stB (gk b (r.s2 j) 21 2) [(26,tmS (r.key j)),(0,bB),(0,bB)],stB (bS b (r.s2 j)) [(26,tmS (r.key j)),(0,bB),(0,bB)]]) 2 [(0,eP b 0),(1,eI j),(4,nwS 0)] ⟨⟨cV (fg _ _ _) rfl rfl rfl Tryd.underlying36 rfl rfl,zo⟩,⟨cV (fg _ _ _) rfl rfl rfl Tryd.underlying90 rfl rfl,zo⟩,⟨bX rfl λξ g w hB hH=>a_ c39 rfl (iE (r:=r.s1 j) w hB.wf.lt ⟨_,rfl,hB.run.2⟩ hB.run.2.rs.sub h0 (zy h1 (by decide))),zo⟩,⟨gB (fg _ _ _) rfl rfl rfl rfl (by show r.eps.length-1<r.eps.length;omega),zo⟩,⟨o3 (fg _ _ _) rfl rfl rfl (gO h0),zo⟩,⟨xG rfl rfl rfl,zo⟩,⟨wC rfl rfl rfl rfl rfl rfl (by show r.behind.length<=1000000;omega),zo⟩,⟨pk (k:=2) rfl rfl rfl xv rfl rfl (by decide) (λ_ _ _ _ h hv=>xQ h hv),zo⟩,zo⟩ hS rfl λac g w hS=> ?_;refine wp_seq ?_;refine rw_ mo [e0 4 [(55,eP b 15),(53,eI j)] (eP b (15+j*1)),e0 5 [(56,eP b (15+j*1))] (eI (r.ix j:Nat)),e0 6 [(57,eI (r.ix j:Nat))] (eI (((r.ix j:Nat):Int)+1)),e0 9 [(60,eP b 15),(53,eI j)] (eP b (15+j*1)),e1 10 [(61,eP b (15+j*1)),(58,eI (((r.ix j:Nat):Int)+1))] bB] [0,1,4] (Bl [stB (bS b (r.s2 j)) [(26,tmS (r.key j)),(0,bB),(0,bB)],stB (bS b (r.s3 j)) [(26,tmS (r.key j)),(0,bB),(0,bB)]]) 1 [(0,eP b 0),(1,eI j),(4,nwS 0)] ⟨⟨cJ rfl rfl rfl Tryd.underlying56 sz3 hj,zo⟩,⟨dL (eg _ _) rfl rfl rfl Tryd.underlying3 rfl (λ_=>rf hj),zo⟩,⟨bN λξ g w hB hH=>⟨_,rfl,ci rfl rfl (bK (by omega) (by omega))⟩,zo⟩,⟨cJ rfl rfl rfl Tryd.underlying56 sz3 hj,zo⟩,⟨gn rfl rfl rfl sz3 rfl rfl rfl (by omega) (λ_=>vr (v:=r.ix j+1) hj) rfl rfl rfl,zo⟩,zo⟩ hS rfl λac g w hS=> ?_;refine wp_seq ?_;refine rw_ mo [e0 6 [(67,eP b 9),(65,eI j)] (eP b (9+j*3)),e0 7 [(68,eP b (9+j*3))] (tmS (r.ch j)),e0 8 [] (tmS (cT 1)),e0 9 [(69,tmS (r.ch j)),(70,tmS (cT 1))] (tfS [(r.ch j),(cT 1)]),e0 10 [(71,tfS [(r.ch j),(cT 1)])] (tmS (hT [r.ch j,cT 1])),e0 13 [(74,eP b 9),(63,eI j)] (eP b (9+j*3)),e1 14 [(75,eP b (9+j*3)),(72,tmS (hT [r.ch j,cT 1]))] bB] [0,4] (Bl [stB (bS b (r.s3 j)) [(26,tmS (r.key j)),(0,bB),(0,bB)],stB (bS b (r.s4 j)) [(26,tmS (r.key j)),(0,bB),(0,bB)]]) 1 [(0,eP b 0),(4,nwS 0)] ⟨⟨cJ rfl rfl rfl Tryd.underlying64 b6 hj,zo⟩,⟨kc (r:=r.s3 j) hj (eg _ _) rfl rfl rfl,zo⟩,⟨bX rfl λξ g w hB hH=>a_ c52 rfl (qA (k:=1) w hB.wf.lt (by omega)),zo⟩,⟨cX rfl rfl rfl rfl,zo⟩,⟨bX rfl λξ g w hB hH=>a_ c87 rfl (eO w hB.wf.lt (hH 71 _ rfl)),zo⟩,⟨cJ rfl rfl rfl Tryd.underlying64 b6 hj,zo⟩,⟨rZ hj rfl rfl rfl rfl rfl,zo⟩,zo⟩ hS rfl λac g w hS=> ?_;refine rw_ mo [⟨1,[(4,nwS 0)],tmS (r.key j),[0,1],false⟩,e1 3 [(78,eP b 0)] (eI (r.names:Nat)),⟨4,[(79,eI (r.names:Nat))],tmS (aT (r.names:Nat)),[1],false⟩,⟨5,[(77,tmS (r.key j)),(80,tmS (aT (r.names:Nat)))],tfS [(r.key j),(aT (r.names:Nat))],[1],false⟩,⟨6,[(81,tfS [(r.key j),(aT (r.names:Nat))])],tmS (eT (r.key j) r.names),[1],false⟩,⟨7,[(82,tmS (eT (r.key j) r.names))],tfS [(eT (r.key j) r.names)],[1],false⟩,⟨8,[(76,eP b 0),(83,tfS [(eT (r.key j) r.names)])],bB,[1],true⟩] [] (Bl [stB (bS b (r.s4 j)) [(26,tmS (r.key j)),(0,bB),(0,bB)],stB (bS b ((r.s4 j).draw)) [(26,tmS (r.key j)),(0,bB),(0,bB)],stB (bS b (r.send j)) [(26,tmS (r.key j)),(0,bB),(0,bB)]]) 2 [] ⟨⟨cg (k:=0) rfl rfl rfl rfl (by decide) Tryd.underlying26 rfl b6 (bT _).sized,cg (k:=0) rfl rfl rfl rfl (by decide) Tryd.underlying26 rfl b6 (bT _).sized,zo⟩,⟨dA (post:=λ_ _ v=>v=vI (r.names:Nat)) rfl rfl (λ_ _ _ h=>h) λξ g w hw hr hH=>a_ c53 rfl (gP w hw.lt hr (by show r.names<=1000000;omega)),zo⟩,⟨bX rfl λξ g w hB hH=>a_ c86 rfl (fp (a:=(r.names:Nat)) w hB.wf.lt),zo⟩,⟨cX rfl rfl rfl rfl,zo⟩,⟨bX rfl λξ g w hB hH=>a_ c87 rfl (eO w hB.wf.lt (hH 81 _ rfl)),zo⟩,⟨de rfl rfl rfl,zo⟩,⟨dA (post:=λ_ _ _=>True) rfl rfl (λ_ _ _ h=>h) λξ g w hw hr hH=>a_ c51 rfl (gJ w hw.lt hr (by show r.known.length+1<=1000000;omega) (TlIs.gen (hH 83 _ rfl))),zo⟩,zo⟩ hS rfl λac g w hS=> ?_;exact dv hS.f.frm (dt Tryd.results59) (hS.post zo)
set_option maxRecDepth 100000 in
set_option maxHeartbeats 4000000 in
theorem th {b:Nat} {r:Rn} {F Y:List Nat} {j:Nat} {kem:Bool} (w0:World) (hX:∀x,x∈F++Y->x<w0.heap.size) (hr:RunIs b r F (F++Y) w0) (hj:j<2) (h1:r.eps.length<=900000) (hn:r.names<=800000) (hk:r.known.length<=800000):Calls Tryd.prog 60 (List.toArray [vp b,vI j,.bool kem]) w0 (Ret (da b (r.turn j kem) Y F w0 (λ_ _ _=>True))):=by
 refine bY (ρ:=bS b r) [eP b 0,eI j,eB kem] hX hr ⟨rfl,rfl,rfl,zo⟩ Tryd.func60 rfl Tryd.ntmps60 rfl λac hS=> ?_;refine wp_seq ?_;refine rw_ mo [e1 3 [(10,eP b 0)] (eI (r.names:Nat)),⟨6,[(13,eP b 4),(9,eI j)],eP b (4+j*1),[1],false⟩,⟨7,[(14,eP b (4+j*1)),(11,eI (r.names:Nat))],bB,[1],true⟩] [0,1,2] (Bl [stB (bS b r) [],stB (bS b r.draw) [],stB (bS b (r.t1 j)) []]) 2 [(0,eP b 0),(1,eI j),(2,eB kem)] ⟨⟨dA (post:=λ_ _ v=>v=vI (r.names:Nat)) rfl rfl (λ_ _ _ h=>h) λξ g w hw hr hH=>a_ c53 rfl (gP w hw.lt hr (by show r.names<=1000000;omega)),zo⟩,⟨cJ rfl rfl rfl Tryd.underlying56 sz3 hj,zo⟩,⟨gn rfl rfl rfl sz3 rfl rfl rfl (by omega) (λ_=>uJ (r:=r.draw) hj) rfl rfl rfl,zo⟩,zo⟩ hS rfl λac g w hS=> ?_;refine wp_seq ?_;refine rx [e0 5 [(19,eP b 4),(17,eI j)] (eP b (4+j*1)),e0 6 [(20,eP b (4+j*1))] (eI (r.names:Nat)),e0 7 [(21,eI (r.names:Nat))] (tmS (pT (r.names:Nat))),e0 8 [(22,tmS (pT (r.names:Nat)))] (tfS [(pT (r.names:Nat))]),e1 9 [(15,eP b 0),(23,tfS [(pT (r.names:Nat))])] bB] [0,1,2] (Bl [stB (bS b (r.t1 j)) [],stB (bS b (r.drawX j)) []]) 1 [(0,eP b 0),(1,eI j),(2,eB kem)] ⟨⟨cJ rfl rfl rfl Tryd.underlying56 sz3 hj,zo⟩,⟨dL (eg _ _) rfl rfl rfl Tryd.underlying3 rfl (λ_=>vC hj),zo⟩,⟨bX rfl λξ g w hB hH=>a_ c54 rfl (lS (a:=(r.names:Nat)) w hB.wf.lt),zo⟩,⟨de rfl rfl rfl,zo⟩,⟨dA (post:=λ_ _ _=>True) rfl rfl (λ_ _ _ h=>h) λξ g w hw hr hH=>a_ c51 rfl (gJ w hw.lt hr (by show r.known.length+1<=1000000;omega) (TlIs.gen (hH 23 _ rfl))),zo⟩,zo⟩ hS rfl λac g w hS=> ?_;refine wp_seq ?_;refine rw_ mo [⟨4,[(28,eP b 4),(26,eI j)],eP b (4+j*1),[0,1],false⟩,⟨5,[(29,eP b (4+j*1))],eI (r.names:Nat),[0,1],false⟩,⟨8,[(32,eI j)],eI ((1-j:Nat):Int),[0,1],false⟩,⟨11,[(35,eP b 4),(33,eI ((1-j:Nat):Int))],eP b (4+(1-j)*1),[0,1],false⟩,⟨12,[(36,eP b (4+(1-j)*1))],eI (r.x (1-j):Nat),[0,1],false⟩,⟨13,[(30,eI (r.names:Nat)),(37,eI (r.x (1-j):Nat))],agS (cxV [vI r.names,vI (r.x (1-j))]),[0,1],false⟩,e1 14 [] (nwS 0),⟨15,[(6,nwS 0),(38,agS (cxV [vI r.names,vI (r.x (1-j))]))],bB,[1],true⟩] [0,2,6] (Bl [stB (bS b (r.drawX j)) [],stB (bS b (r.drawX j)) [(56,cH 2)],stB (bS b (r.drawX j)) [(56,agS (cxV [vI r.names,vI (r.x (1-j))]))]]) 2 [(0,eP b 0),(2,eB kem),(6,nwS 0)] ⟨⟨cJ rfl rfl rfl Tryd.underlying56 sz3 hj,cJ rfl rfl rfl Tryd.underlying56 sz3 hj,zo⟩,⟨dL (eg _ _) rfl rfl rfl Tryd.underlying3 rfl (λ_=>re hj),dL (eg _ _) rfl rfl rfl Tryd.underlying3 rfl (λ_=>re hj),zo⟩,⟨bN λξ g w hB hH=>⟨_,rfl,eu rfl rfl ((bK (by omega) (by omega)).trans (by omega))⟩,bN λξ g w hB hH=>⟨_,rfl,eu rfl rfl ((bK (by omega) (by omega)).trans (by omega))⟩,zo⟩,⟨cJ rfl rfl rfl Tryd.underlying56 sz3 (by omega),cJ rfl rfl rfl Tryd.underlying56 sz3 (by omega),zo⟩,⟨dL (eg _ _) rfl rfl rfl Tryd.underlying3 rfl (λ_=>rc hj),dL (eg _ _) rfl rfl rfl Tryd.underlying3 rfl (λ_=>rc hj),zo⟩,⟨d_ rfl rfl rfl,d_ rfl rfl rfl,zo⟩,⟨cC rfl rfl rfl z56 rfl rfl,zo⟩,⟨cB (k:=0) (m:=2) rfl rfl rfl rfl rfl rfl (by decide) iO (cf 2) (pQ _ _),zo⟩,zo⟩ hS rfl λac g w hS=> ?_;refine wp_seq ?_;refine ry mo hS [e0 3 [(41,eP b 6)] (tmS r.root),e0 4 [(6,nwS 0)] (nwO 0 0),e0 5 [(43,nwO 0 0)] (eI (r.names:Nat)),e0 6 [(6,nwS 0)] (nwO 0 1),e0 7 [(45,nwO 0 1)] (eI (r.x (1-j):Nat)),e0 8 [(44,eI (r.names:Nat)),(46,eI (r.x (1-j):Nat))] (tmS (dT r.names (r.x (1-j)))),e0 9 [(42,tmS r.root),(47,tmS (dT r.names (r.x (1-j))))] (tfS [r.root,(dT r.names (r.x (1-j)))])] [0,2,6,7] [(0,eP b 0),(2,eB kem),(6,nwS 0),(7,tfS [r.root,(dT r.names (r.x (1-j)))])] ⟨⟨mY (r:=r.drawX j) (eg _ _) rfl rfl rfl,zo⟩,⟨d7 (j:=0) rfl rfl rfl rfl (by decide) rfl (by decide),zo⟩,⟨bP rfl rfl rfl rfl (by decide) Tryd.underlying3 rfl rfl,zo⟩,⟨d7 (j:=1) rfl rfl rfl rfl (by decide) rfl (by decide),zo⟩,⟨bP rfl rfl rfl rfl (by decide) Tryd.underlying3 rfl rfl,zo⟩,⟨bX rfl λξ g w hB hH=>a_ c55 rfl (pz w hB.wf.lt),zo⟩,⟨cX rfl rfl rfl rfl,zo⟩,zo⟩ λac g w hS=> ?_;refine wp_seq ?_;refine wp_seq ?_;refine rz hS [] [0,2,6,7,49] [(0,eP b 0),(2,eB kem),(6,nwS 0),(7,tfS [r.root,(dT r.names (r.x (1-j)))]),(49,eB kem)] zo λac g w hS=> ?_;refine bA ?_;refine cr hS.f.frm rfl (λh=> ?_) (λh=> ?_)
 ·have c:=h;clear h;subst c;refine rx [e1 2 [(51,eP b 0)] (tmS (kT (r.names+1) (r.names+2))),⟨3,[(52,tmS (kT (r.names+1) (r.names+2)))],tfS [(kT (r.names+1) (r.names+2))],[1],false⟩,⟨4,[(50,tfS [r.root,(dT r.names (r.x (1-j)))]),(53,tfS [(kT (r.names+1) (r.names+2))])],tlS [r.root,dT r.names (r.x (1-j)),kT (r.names+1) (r.names+2)],[1],false⟩] [0,2,6,7] (Bl [stB (bS b (r.drawX j)) [(56,agS (cxV [vI r.names,vI (r.x (1-j))]))],stB (bS b ((r.drawX j).drawKem)) [(56,agS (cxV [vI r.names,vI (r.x (1-j))]))]]) 1 [(0,eP b 0),(2,eqS vt),(6,nwS 0),(7,tlS [r.root,dT r.names (r.x (1-j)),kT (r.names+1) (r.names+2)])] ⟨⟨dA (post:=λX w v=>TmIs w X (kT (r.names+1) (r.names+2)) v) rfl rfl (λ_ _ _ h=>h) λξ g w hw hr hH=>a_ c56 rfl (sa (r:=r.drawX j) w hw.lt hr (by show r.names+1<=900000;omega) (by simp [Rn.drawX];omega)),zo⟩,⟨de rfl rfl rfl,zo⟩,⟨rA (ts:=[r.root,dT r.names (r.x (1-j))]) (us:=[kT (r.names+1) (r.names+2)]) rfl rfl rfl rfl (by simp) (by simp),zo⟩,zo⟩ hS rfl λac g w hS=> ?_;refine rx [e0 2 [(6,nwS 0)] (agS (cxV [vI r.names,vI (r.x (1-j))])),e0 3 [(57,agS (cxV [vI r.names,vI (r.x (1-j))]))] (slS (cxV [vI r.names,vI (r.x (1-j))]) 1),e0 5 [(58,slS (cxV [vI r.names,vI (r.x (1-j))]) 1),(59,eqS vt)] (agS (cxE ⟨[(r.names,r.x (1-j))],true,false⟩)),e1 6 [(55,eP b 0),(56,tlS [r.root,dT r.names (r.x (1-j)),kT (r.names+1) (r.names+2)]),(60,agS (cxE ⟨[(r.names,r.x (1-j))],true,false⟩))] bB] [] (Bl [stB (bS b ((r.drawX j).drawKem)) [(56,agS (cxV [vI r.names,vI (r.x (1-j))]))],stB (bS b (r.turn j true)) [(56,agS (cxV [vI r.names,vI (r.x (1-j))]))]]) 1 [] ⟨⟨cg (k:=0) rfl rfl rfl rfl (by decide) Tryd.underlying56 rfl iO (pQ _ _).sized,zo⟩,⟨kO rfl rfl Tryd.underlying97 qF (by decide) (by decide) rfl (λ_ _ _ h=>ml h),zo⟩,⟨ru rfl rfl rfl rfl,zo⟩,⟨dA (post:=λ_ _ _=>True) rfl rfl (λ_ _ _ h=>h) λξ g w hw hr hH=>a_ c57 rfl (iI (r:=(r.drawX j).drawKem) w hw.lt hr (by simp) (by decide) (by show r.eps.length<=1000000;omega) (TlIs.gen (hH 56 _ rfl)) (hH 60 _ rfl)),zo⟩,zo⟩ hS rfl λac g w hS=> ?_;exact dv hS.f.frm (dt Tryd.results60) (hS.post zo)
 ·have c:=h;clear h;subst c;refine wp_skip ?_;refine rx [e0 2 [(6,nwS 0)] (agS (cxV [vI r.names,vI (r.x (1-j))])),e0 3 [(57,agS (cxV [vI r.names,vI (r.x (1-j))]))] (slS (cxV [vI r.names,vI (r.x (1-j))]) 1),e0 5 [(58,slS (cxV [vI r.names,vI (r.x (1-j))]) 1),(59,eqS vf)] (agS (cxE ⟨[(r.names,r.x (1-j))],false,false⟩)),e1 6 [(55,eP b 0),(56,tfS [r.root,(dT r.names (r.x (1-j)))]),(60,agS (cxE ⟨[(r.names,r.x (1-j))],false,false⟩))] bB] [] (Bl [stB (bS b (r.drawX j)) [(56,agS (cxV [vI r.names,vI (r.x (1-j))]))],stB (bS b (r.turn j false)) [(56,agS (cxV [vI r.names,vI (r.x (1-j))]))]]) 1 [] ⟨⟨cg (k:=0) rfl rfl rfl rfl (by decide) Tryd.underlying56 rfl iO (pQ _ _).sized,zo⟩,⟨kO rfl rfl Tryd.underlying97 qF (by decide) (by decide) rfl (λ_ _ _ h=>ml h),zo⟩,⟨ru rfl rfl rfl rfl,zo⟩,⟨dA (post:=λ_ _ _=>True) rfl rfl (λ_ _ _ h=>h) λξ g w hw hr hH=>a_ c57 rfl (iI (r:=(r.drawX j)) w hw.lt hr (by simp) (by decide) (by show r.eps.length<=1000000;omega) (TlIs.gen (hH 56 _ rfl)) (hH 60 _ rfl)),zo⟩,zo⟩ hS rfl λac g w hS=> ?_;exact dv hS.f.frm (dt Tryd.results60) (hS.post zo)
end Go.Mi.Term
namespace Go.Mi.Term
open Go.Mi Go.Proofs Go.RowKit
theorem z3:(Tryd.prog.info? 3).bind (·.zero)=some (.int .i64 0):=by kernel_rfl
section
set_option maxRecDepth 100000
variable {ops:List Oper} {n:Nat} {B:Nat->BX XX} {i p b k o:Nat} {L:TL TT} {ph:List Nat} {ρ:RX} {ns:List (Nat×Sp TT)} {ds:Option Tmp} {ty:TypeId} {pos:String} {af:Array Edge} {gu:Option (Nat×Bool)} {t:TypeId} {r r':Rn} {q q':Rv} {v:Value} {x y z:Operand}
theorem mV {g:Gh} {w w':World} {c:Nat} (hB:StB (ft b r q) ns g w) (hc:Ch [c] w w') (hcF:c∈q.F b) (hcb:c≠b) (eF:q'.F b=q.F b) (ecl:rcl r' q'=rcl r q) (hrs:RunRs w' g.X b r' q'):∃g',TT g w g' w'/\StB (bS b r') ns g' w':=by obtain⟨hF,h⟩:=hB.run;obtain⟨t1,t2⟩:=hB.run' (ρ':=bS b r') (g':=g) (l:=[]) (l':=[]) (hc.mono (by rw[hF];simp;exact hcF)) (λx hx=> .inl hx) (λx hx=>zE (hB.wf.lt x (by simp [Gh.X,hx])) hc.size) rfl rfl (by simp) rfl (by simp) (by simp) ⟨q',by rw[eF];exact hF,by rw[ecl,hc.blk b (cO h.hb) (by simp;exact λe=>hcb e.symm)];exact h.hb,hrs⟩;exact⟨g,t1,by simpa using t2⟩
theorem lO {m:Int} (hr:gp ρ b r q) (hB0:B p=stB ρ ns) (hop:ops.getD i default=⟨ds,.lookup 89 x y false,t,pos,af,gu⟩) (hx:spO L x=some (eqS (.map (some q.bm)))) (hy:spO L y=some (eI m)):EOb Tryd.prog n ops XX B ⟨i,L,eI (itl r.rvd m),ph,false⟩ p:=bN λξ g w hB hH=>by rw[hB0]at hB;have hB:StB ρ ns g w:=hB;rw[hop];exact⟨_,rfl,qw Tryd.underlying89 Tryd.underlying3 z3 (bF hx) (bF hy) (hr g w hB.run).rs.mp⟩
theorem uR {m u:Int} (hB0:B p=stB (ft b r q) ns) (hB1:B (p+1)=stB (bS b {r with rvd:=ist r.rvd m u}) ns) (hop:ops.getD i default=⟨ds,.mapUpdate 89 x y z,t,pos,af,gu⟩) (hx:spO L x=some (eqS (.map (some q.bm)))) (hy:spO L y=some (eI m)) (hz:spO L z=some (eI u)):EOb Tryd.prog n ops XX B ⟨i,L,bB,ph,true⟩ p:=by
 intro ξ g w hB hH;rw[hB0]at hB;have hB:StB (ft b r q) ns g w:=hB;show Ok1 Tryd.prog (ops.getD i default) _ _ _ _;rw[hop];obtain⟨hF,h⟩:=hB.run;have hr:=h.rs;refine(kQ Tryd.underlying89 Tryd.underlying3 (bF hx) (bF hy) (bF hz) hr.mp).mono ?_;rintro _ w' ⟨k1,hch⟩;have a:=hr.nd;simp only[Rv.F,AP,zx,zr,not_or]at a;have c:q.bm∈q.F b:=by simp [Rv.F]
 have hy:∀y,y∈[q.bm]->y∈g.X:=λy hy=>by rw[zt.1 hy];exact hr.sub _ c
 have hx:∀x,x∈g.X->x∈g.X\/w.heap.size<=x:=λ_ h=> .inl h;have ne:∀x,x∈bC q.vk\/x∈bC q.ve\/x∈bC q.vy\/x∈bC q.vb->x∉[q.bm]:=λx hx hm=>by
  rw[zt.1 hm]at hx;rcases hx with hx|hx|hx|hx
  ·exact a.2.1.1 hx
  ·exact a.2.1.2.1 hx
  ·exact a.2.1.2.2.1 hx
  ·exact a.2.1.2.2.2 hx
 obtain⟨g',t1,t2⟩:=mV (r':={r with rvd:=ist r.rvd m u}) (q':=q) hB hch c (λe=>a.1.1 e.symm) rfl rfl ⟨IsT.mv hch hy hx _ _ hr.rt,IsT.mv hch hy hx _ _ hr.c0,IsT.mv hch hy hx _ _ hr.c1,hr.kn.mv hch λx hx=>ne x (.inl hx),IsTs.mv hch hy hx _ _ hr.kt,hr.ep.mv hch λx hx=>ne x (.inr (.inl hx)),hr.et.imp λ_ _ e=>e.mv hch hy hx,
  k1,hr.ky.mv hch λx hx=>ne x (.inr (.inr (.inl hx))),hr.yt.imp λ_ _ e=>e.mv hch hy hx,hr.bh.mv hch λx hx=>ne x (.inr (.inr (.inr hx))),hr.nd,hr.sub⟩
 exact⟨g',⟨t1,by show(B (p+1)).P _ _;rw[hB1];exact t2⟩,zo⟩
theorem pc {w w':World} {base e m nn c cap j:Nat} {xs:List Value} {u:Value} (h:Own w base e m (.slice (some ⟨c,0,none⟩) nn cap) nn xs) (hu:∀cur,w.heap[c]? =some (.cells cur e (0,0))->Upd w w' c (cur.setIfInBounds j u) e):Own w' base e m (.slice (some ⟨c,0,none⟩) nn cap) nn (xs.set j u):=by
 obtain⟨h1,h2⟩:=h;rcases h2 with⟨h2,_⟩|⟨c',cap',cur,h2,h3,h4,h5,h6,h7,h8⟩
 ·cases h2
 ·cases h2;refine⟨by simp [h1],.inr ⟨_,_,_,rfl,h3,(hu cur h4).blk,h5,h6,by simpa using h7,?_⟩⟩;rw[zO,List.take_set,h8]
theorem iS {α:Type}:∀{l:List α} {j:Nat} {a:α} {f:α->α},l[j]? =some a->l.modify j f=l.take j++([f a]++l.drop (j+1))
 |[],j,a,f,h=>by simp at h
 |c::l,0,a,f,h=>by simp at h;subst h;simp
 |c::l,j+1,a,f,h=>by simp [iS (l:=l) (f:=f) (by simpa using h)]
theorem ue (h0:0<r.eps.length) (hB0:B p=stB (ft b r q) ns) (hB1:B (p+1)=stB (bS b r.marked) ns) (hop:ops.getD i default=⟨ds,.store 4 x y,t,pos,af,gu⟩) (hx:spO L x=some (eP (bkV q.ve) ((r.eps.length-1)*3+2))) (hy:spO L y=some (eqS (.bool true))):EOb Tryd.prog n ops XX B ⟨i,L,bB,ph,true⟩ p:=by
 intro ξ g w hB hH;rw[hB0]at hB;have hB:StB (ft b r q) ns g w:=hB;show Ok1 Tryd.prog (ops.getD i default) _ _ _ _;rw[hop];obtain⟨hF,h⟩:=hB.run;have hr:=h.rs;obtain⟨v,k,_⟩:=fy hr.ep h0;have m:=hr.ep;rw[k]at m;obtain⟨e1,e2⟩:=m;rcases e2 with⟨e2,_⟩|⟨c',cap',cur,e2,e3,e4,e5,e6,e7,e8⟩
 ·cases e2
 cases e2;refine(dk sz4 (bF hx) (bF hy) rfl e4 (by omega)).mono ?_;intro _ w' hu;have d:bkV q.ve∈bC q.ve:=by rw[k];simp [bC,bkV]
 have l:bkV q.ve∈q.F b:=by simp [Rv.F,d]
 have f:=hr.nd;simp only[Rv.F,AP,zx,zr,not_or,AI]at f;have c:=hu.ch;have hy:∀y,y∈[bkV q.ve]->y∈g.X:=λy hy=>by rw[zt.1 hy];exact hr.sub _ l
 have hx:∀x,x∈g.X->x∈g.X\/w.heap.size<=x:=λ_ h=> .inl h;have o:Own w' 0 99 3 q.ve r.eps.length (q.xe.set ((r.eps.length-1)*3+2) (.bool true)):=by have :=pc (u:= .bool true) (j:=(r.eps.length-1)*3+2) (w':=w') (show Own w 0 99 3 (.slice (some ⟨bkV q.ve,0,none⟩) r.eps.length v) r.eps.length q.xe by rw[<-k];exact hr.ep) (λcur' hc=>by rw[e4]at hc;cases hc;exact hu);rw[<-k]at this;exact this
 obtain⟨x1,u,x2,f1,f2,f3,f4,f5⟩:=AllIs.at EpIs.len hr.et (gO h0);obtain⟨sl,rfl,A⟩:=f3;have z:q.xe.set ((r.eps.length-1)*3+2) (.bool true)=x1++([sl,.bool r.last.kem,.bool true]++x2):=by rw[f1,<-f2];simp [List.set_append]
 have C:AllIs (EpIs w g.X) r.marked.eps (q.xe.set ((r.eps.length-1)*3+2) (.bool true)):=by rw[z];show AllIs (EpIs w g.X) (r.eps.modify _ _) _;rw[iS (gO h0)];exact f4.app ((AllIs.one (a:={r.last with rev:=true}) ⟨sl,rfl,A⟩).app f5)
 have s:r.marked.eps.length=r.eps.length:=by simp [Rn.marked]
 obtain⟨g',t1,t2⟩:=mV (r':=r.marked) (q':={q with xe:=q.xe.set ((r.eps.length-1)*3+2) (.bool true)}) hB c l (λe=>f.1.2.2.1 (e▸d)) rfl rfl ⟨IsT.mv c hy hx _ _ hr.rt,IsT.mv c hy hx _ _ hr.c0,IsT.mv c hy hx _ _ hr.c1,hr.kn.mv c λx hx hm=>f.2.2.2.2 x hx _ (.inl d) (zt.1 hm),IsTs.mv c hy hx _ _ hr.kt,by rw[s];exact o,C.imp λ_ _ e=>e.mv c hy hx,
  hr.mp.mv c (λhm=>f.2.1.2.1 (by rw[zt.1 hm];exact d)),hr.ky.mv c λx hx hm=>f.2.2.2.1.2.2 _ d x (.inl hx) (zt.1 hm).symm,hr.yt.imp λ_ _ e=>e.mv c hy hx,hr.bh.mv c λx hx hm=>f.2.2.2.1.2.2 _ d x (.inr hx) (zt.1 hm).symm,hr.nd,hr.sub⟩
 exact⟨g',⟨t1,by show(B (p+1)).P _ _;rw[hB1];exact t2⟩,zo⟩
theorem bE {T f o:Nat} {s:Sp TT} (hop:ops.getD i default=⟨ds,.fieldAddr T x f,t,pos,af,gu⟩) (hB0:B p=stB ρ ns) (hx:spO L x=some (nwS k)) (hk:ns[k]? =some (ty,s)) (hty:ty≠0) (hf:ut Tryd.prog T f=some o):EOb Tryd.prog n ops XX B ⟨i,L,nwO k o,ph,false⟩ p:=bN λξ g w hB hH=>by
 rw[hB0]at hB;have hB:StB ρ ns g w:=hB;rw[hop];obtain⟨vx,h1,h2⟩:=bH hx hH;obtain⟨b,c,h5,_⟩:=hB.cell k _ hk hty;have h2:g.N[k]? =some vx:=h2;rw[h5]at h2;cases h2;unfold ut at hf;split at hf
 ·rename_i fs hu;split at hf
  ·rename_i fd hfd;split at hf
   ·rename_i m hm;cases hf;refine⟨vP b (0+fd.offset),⟨b,h5,by simp⟩,gG hu hfd hm h1⟩
   ·cases hf
  ·cases hf
 ·cases hf
end
theorem ed (u v:Int) (c:Bool):Agg 3 (agS (cxV [vI u,vI v,.bool c])):=λg w x ⟨vs,h,h2⟩=>by obtain rfl:vs=[vI u,vI v,.bool c]:=h2;exact⟨_,h,rfl,by simp [Value.oneCell']⟩
structure fD (r:Rn):Prop where
 h0:0<r.eps.length
 h1:r.eps.length<=700000
 hn:r.names<=700000
 hk:r.known.length<=700000
 hy:r.keys.length<=700000
 hb:r.behind.length<=700000
 hx:∀j,r.ix j<=700000
 hm:∀k,0<=itl r.rvd k/\itl r.rvd k<=700000
 ha:r.acts<=700000
theorem oT {r:Rn} (h:fD r) (j:Nat) (k:Int):0<=itl (ist r.rvd (r.id j:Nat) (itl r.rvd (r.id j:Nat)+1)) k/\itl (ist r.rvd (r.id j:Nat) (itl r.rvd (r.id j:Nat)+1)) k<=700001:=by
 by_cases e:k=(r.id j:Nat)
 ·subst e;rw[iV];have :=h.hm (r.id j:Nat);omega
 ·rw[iW e];have :=h.hm k;omega
namespace Rn
abbrev v1 (r:Rn) (j:Nat):Rn:=r.sees [aT (r.id j),aT (r.x j),r.root,r.ch 0,r.ch 1]
abbrev v2 (r:Rn) (j:Nat):Rn:=(r.v1 j).told (r.id j)
abbrev v3 (r:Rn) (j:Nat):Rn:=(r.v2 j).told (r.x j)
end Rn
end Go.Mi.Term
namespace Go.Mi.Term
open Go.Mi Go.Proofs Go.RowKit
set_option maxRecDepth 100000 in
set_option maxHeartbeats 4000000 in
theorem pZ {b:Nat} {r:Rn} {F Y:List Nat} {j:Nat} (w0:World) (hX:∀x,x∈F++Y->x<w0.heap.size) (hr:RunIs b r F (F++Y) w0) (hj:j<2) (hs:fD r):Calls Tryd.prog 61 (List.toArray [vp b,vI j]) w0 (Ret (da b (r.reveal j) Y F w0 (λ_ _ _=>True))):=by refine bY (ρ:=bS b r) [eP b 0,eI j] hX hr ⟨rfl,rfl,zo⟩ Tryd.func61 rfl Tryd.ntmps61 rfl λac hS=> ?_;refine wp_seq ?_;refine rw_ mo [e0 5 [(8,eP b 2),(6,eI j)] (eP b (2+j*1)),e0 6 [(9,eP b (2+j*1))] (eI (r.id j:Nat)),e0 7 [(10,eI (r.id j:Nat))] (tmS (aT (r.id j:Nat))),e0 12 [(15,eP b 4),(13,eI j)] (eP b (4+j*1)),e0 13 [(16,eP b (4+j*1))] (eI (r.x j:Nat)),e0 14 [(17,eI (r.x j:Nat))] (tmS (aT (r.x j:Nat))),e0 18 [(21,eP b 6)] (tmS r.root),e0 23 [(26,eP b 9)] (tmS (r.ch 0)),e0 28 [(31,eP b 12)] (tmS (r.ch 1)),e0 29 [(11,tmS (aT (r.id j:Nat))),(18,tmS (aT (r.x j:Nat))),(22,tmS r.root),(27,tmS (r.ch 0)),(32,tmS (r.ch 1))] (tfS [(aT (r.id j:Nat)),(aT (r.x j:Nat)),r.root,(r.ch 0),(r.ch 1)]),e1 30 [(4,eP b 0),(33,tfS [(aT (r.id j:Nat)),(aT (r.x j:Nat)),r.root,(r.ch 0),(r.ch 1)])] bB] [0,1] (Bl [stB (bS b r) [],stB (bS b (r.v1 j)) []]) 1 [(0,eP b 0),(1,eI j)] ⟨⟨cJ rfl rfl rfl Tryd.underlying56 sz3 hj,zo⟩,⟨dL (eg _ _) rfl rfl rfl Tryd.underlying3 rfl (λ_=>n5 hj),zo⟩,⟨bX rfl λξ g w hB hH=>a_ c86 rfl (fp (a:=(r.id j:Nat)) w hB.wf.lt),zo⟩,⟨cJ rfl rfl rfl Tryd.underlying56 sz3 hj,zo⟩,⟨dL (eg _ _) rfl rfl rfl Tryd.underlying3 rfl (λ_=>j7 hj),zo⟩,⟨bX rfl λξ g w hB hH=>a_ c86 rfl (fp (a:=(r.x j:Nat)) w hB.wf.lt),zo⟩,⟨mY (eg _ _) rfl rfl rfl,zo⟩,⟨kc (j:=0) (by decide) (eg _ _) rfl rfl rfl,zo⟩,⟨kc (j:=1) (by decide) (eg _ _) rfl rfl rfl,zo⟩,⟨m0 rfl rfl rfl rfl rfl rfl rfl,zo⟩,⟨dA (post:=λ_ _ _=>True) rfl rfl (λ_ _ _ h=>h) λξ g w hw hr hH=>a_ c51 rfl (gJ w hw.lt hr (by show r.known.length+5<=1000000;have :=hs.hk;omega) (TlIs.gen (hH 33 _ rfl))),zo⟩,zo⟩ hS rfl λac g w hS=> ?_;refine wp_seq ?_;obtain⟨q,hS⟩:=hS.openR;refine rw_ mo [e0 3 [(37,eP b 19)] (eqS (.map (some q.bm))),e0 8 [(42,eP b 2),(40,eI j)] (eP b (2+j*1)),e0 9 [(43,eP b (2+j*1))] (eI (r.id j:Nat)),e0 10 [(38,eqS (.map (some q.bm))),(44,eI (r.id j:Nat))] (eI (itl r.rvd ((r.id j:Nat):Int))),e0 11 [(45,eI (itl r.rvd ((r.id j:Nat):Int)))] (eI (itl r.rvd ((r.id j:Nat):Int)+1)),e1 12 [(38,eqS (.map (some q.bm))),(44,eI (r.id j:Nat)),(46,eI (itl r.rvd ((r.id j:Nat):Int)+1))] bB] [0,1] (Bl [stB (ft b (r.v1 j) q) [],stB (bS b (r.v2 j)) []]) 1 [(0,eP b 0),(1,eI j)] ⟨⟨cV (fg _ _ _) rfl rfl rfl Tryd.underlying89 rfl rfl,zo⟩,⟨cJ rfl rfl rfl Tryd.underlying56 sz3 hj,zo⟩,⟨cV (fg _ _ _) rfl rfl rfl Tryd.underlying3 rfl (n5 hj),zo⟩,⟨lO (r:=r.v1 j) (fg _ _ _) rfl rfl rfl rfl,zo⟩,⟨bN λξ g w hB hH=>⟨_,rfl,ci rfl rfl (bK (by have :=hs.hm (r.id j);omega) (by have :=hs.hm (r.id j);omega))⟩,zo⟩,⟨uR rfl rfl rfl rfl rfl rfl,zo⟩,zo⟩ hS rfl λac g w hS=> ?_;refine wp_seq ?_;obtain⟨q,hS⟩:=hS.openR;refine rw_ mo [e0 3 [(49,eP b 19)] (eqS (.map (some q.bm))),e0 8 [(54,eP b 4),(52,eI j)] (eP b (4+j*1)),e0 9 [(55,eP b (4+j*1))] (eI (r.x j:Nat)),e0 10 [(50,eqS (.map (some q.bm))),(56,eI (r.x j:Nat))] (eI (itl (r.v2 j).rvd ((r.x j:Nat):Int))),e0 11 [(57,eI (itl (r.v2 j).rvd ((r.x j:Nat):Int)))] (eI (itl (r.v2 j).rvd ((r.x j:Nat):Int)+1)),e1 12 [(50,eqS (.map (some q.bm))),(56,eI (r.x j:Nat)),(58,eI (itl (r.v2 j).rvd ((r.x j:Nat):Int)+1))] bB] [0] (Bl [stB (ft b (r.v2 j) q) [],stB (bS b (r.v3 j)) []]) 1 [(0,eP b 0)] ⟨⟨cV (fg _ _ _) rfl rfl rfl Tryd.underlying89 rfl rfl,zo⟩,⟨cJ rfl rfl rfl Tryd.underlying56 sz3 hj,zo⟩,⟨cV (fg _ _ _) rfl rfl rfl Tryd.underlying3 rfl (j7 hj),zo⟩,⟨lO (r:=r.v2 j) (fg _ _ _) rfl rfl rfl rfl,zo⟩,⟨bN λξ g w hB hH=>⟨_,rfl,ci rfl rfl (bK (by have h9:=oT hs j (r.x j);exact by revert h9;show 0<=itl (r.v2 j).rvd ((r.x j:Nat):Int)/\itl (r.v2 j).rvd ((r.x j:Nat):Int)<=700001->_;omega) (by have h9:=oT hs j (r.x j);exact by revert h9;show 0<=itl (r.v2 j).rvd ((r.x j:Nat):Int)/\itl (r.v2 j).rvd ((r.x j:Nat):Int)<=700001->_;omega))⟩,zo⟩,⟨uR rfl rfl rfl rfl rfl rfl,zo⟩,zo⟩ hS rfl λac g w hS=> ?_;refine bA ?_;obtain⟨q,hS⟩:=hS.openR;refine rw_ mo [e0 3 [(61,eP b 18)] (eqS q.ve),e0 5 [(63,eP b 0)] (eI ((r.eps.length-1:Nat):Int)),e0 6 [(62,eqS q.ve),(64,eI ((r.eps.length-1:Nat):Int))] (eP (bkV q.ve) ((r.eps.length-1)*3)),e1 8 [(66,eP (bkV q.ve) ((r.eps.length-1)*3+2))] bB] [] (Bl [stB (ft b (r.v3 j) q) [],stB (bS b (r.reveal j)) []]) 1 [] ⟨⟨cV (fg _ _ _) rfl rfl rfl Tryd.underlying90 rfl rfl,zo⟩,⟨bX rfl λξ g w hB hH=>a_ c39 rfl (iE (r:=r.v3 j) w hB.wf.lt ⟨_,rfl,hB.run.2⟩ hB.run.2.rs.sub hs.h0 (zy hs.h1 (by decide))),zo⟩,⟨gB (fg _ _ _) rfl rfl rfl rfl (by have :=hs.h0;show r.eps.length-1<r.eps.length;omega),zo⟩,⟨ue (r:=r.v3 j) hs.h0 rfl rfl rfl rfl rfl,zo⟩,zo⟩ hS rfl λac g w hS=> ?_;exact dv hS.f.frm (dt Tryd.results61) (hS.post zo)
end Go.Mi.Term
