/- Texts that belong together: H31, Y15, S9, H32, Y16, H33, Y17, H34, Y18, Y19. General lemmas and walks; no conditions. -/
import Derived.Test.YtoefhjabaanokaaDoorD8
import Derived.Test.YtoefhjabaanokaaDoorB2
import Derived.Test.YtoefhjabaanokaaDoorD5
import Derived.Test.YtoefhjabaanokaaDoorD6
set_option linter.unusedSimpArgs false
set_option linter.unusedVariables false
set_option linter.unnecessarySimpa false
namespace Go.Mi.Term
open Go.Mi Go.Proofs Go.RowKit
theorem z92:(Tryd.prog.info? 92).bind (·.zero)=some (.agg #[vI 0,vI 0,vI 0,vI 0,vI 0,vI 0,vI 0,vI 0,vN,vI 0,vI 0,vN,vI 0,vI 0,vN,vI 0,vI 0,vN,vN,.map none,vN,vN,.bool false,.bool false]):=by kernel_rfl
theorem xt:(Tryd.prog.info? 64).map (·.size)=some 6:=by kernel_rfl
theorem yT (w:World):∀fs,Tryd.prog.underlying 92=some (.struct fs)->(fs.mapM λf=>(do pure (f.offset,<-sizeOf f.type):Sem (Nat×Nat))).run Tryd.prog w= .ok #[(0,1),(1,1),(2,2),(4,2),(6,3),(9,6),(15,2),(17,1),(18,1),(19,1),(20,1),(21,1),(22,2)] w:=by intro fs h;rw[Tryd.underlying92]at h;cases h;obtain⟨i1,h1,e1⟩:=zq.1 sz3;obtain⟨i2,h2,e2⟩:=zq.1 iO;obtain⟨i3,h3,e3⟩:=zq.1 b6;obtain⟨i4,h4,e4⟩:=zq.1 xt;obtain⟨i5,h5,e5⟩:=zq.1 fM;obtain⟨i6,h6,e6⟩:=zq.1 xn;obtain⟨i7,h7,e7⟩:=zq.1 yJ;obtain⟨i8,h8,e8⟩:=zq.1 xu;obtain⟨i9,h9,e9⟩:=zq.1 xv;obtain⟨i10,h10,e10⟩:=zq.1 jx;simp [sizeOf,typeInfo,h1,h2,h3,h4,h5,h6,h7,h8,h9,h10,e1,e2,e3,e4,e5,e6,e7,e8,e9,e10]
def kK (m:Nat):Rv:=⟨⟨0,0,none,0,0⟩,⟨0,0,none,0,0⟩,⟨0,0,none,0,0⟩,vN,vN,m,vN,vN,[],[],[]⟩
theorem wP {m:Nat}:Instr.fill ((#[(0,1),(1,1),(2,2),(4,2),(6,3),(9,6),(15,2),(17,1),(18,1),(19,1),(20,1),(21,1),(22,2)]:Array (Nat×Nat))[·]?) (Value.agg #[vI 0,vI 0,vI 0,vI 0,vI 0,vI 0,vI 0,vI 0,vN,vI 0,vI 0,vN,vI 0,vI 0,vN,vI 0,vI 0,vN,vN,.map none,vN,vN,.bool false,.bool false]).cells [(9,.map (some m))]=some (rcl Rn.bare (kK m)).toArray:=by simp [Instr.fill,Value.cells,rcl,Rn.bare,kK]
def ot (k:Nat):RX:=⟨λg w=>∃m,g.N[k]? =some (.map (some m))/\g.F=[m]/\IMapIs w m [],λ⟨m,h1,h2,h3⟩ k hc hf hy hx hN=>⟨m,hN _ _ h1,hf.trans h2,h3.mv k λhm=>(hc m hm).2.1 (by rw[h2];simp)⟩⟩
def pJ (k:Nat) (r:Rn):RX:=⟨λg w=>∃b,g.N[k]? =some (.map (some b))/\RunIs b r g.F g.X w,λ{g g'} w w' C ⟨b,h1,h2⟩ k hc hf hy hx hN=>⟨b,hN _ _ h1,(bS b r).st h2 k hc hf hy hx hN⟩⟩
abbrev brS (k:Nat):Sp TT:= .pr ⟨λg _ v=>∃m,g.N[k]? =some (.map (some m))/\v= .agg (rcl Rn.bare (kK m)).toArray,λ⟨m,h1,h2⟩ h=>⟨m,iR h1 h,h2⟩⟩
abbrev ptS (k:Nat):Sp TT:= .pr ⟨λg _ v=>∃m,g.N[k]? =some (.map (some m))/\v=vp m,λ⟨m,h1,h2⟩ h=>⟨m,iR h1 h,h2⟩⟩
theorem SS.born {L:TL TT} {n t k:Nat} {r:Rn} {ns:List (Nat×Sp TT)} {g0 g:Gh} {w0 w:World} {a:Act} (h:SS L n (stB (pJ k r) ns) g0 w0 a g w) (ht:lkS L t=some (ptS k)):∃b,SS ((t,eqS (vp b))::L) n (stB (bS b r) ns) g0 w0 a g w:=by
 obtain⟨b,h1,h2⟩:=h.b.run;refine⟨b,h.t,⟨h.b.wf,h.b.pl,h2,h.b.nd,h.b.len,h.b.cell⟩,h.f.size,h.f.defers,λt' s hs=> ?_⟩;simp only[lkS]at hs;by_cases e:t=t'
 ·subst e;simp at hs;subst hs;obtain⟨m,h3,h4⟩:=h.f.get t _ ht;rw[h1]at h3;cases h3;exact h4
 ·rw[el e]at hs;exact h.f.get t' s hs
section
set_option maxRecDepth 100000
variable {ops:List Oper} {n:Nat} {B:Nat->BX XX} {i p b k o:Nat} {L:TL TT} {ph:List Nat} {ρ:RX} {ns:List (Nat×Sp TT)} {ds:Option Tmp} {ty:TypeId} {pos:String} {af:Array Edge} {gu:Option (Nat×Bool)} {t:TypeId} {x y:Operand}
theorem uf (hB0:B p=stB noR []) (hB1:B (p+1)=stB (ot 0) [(0,bB)]) (hop:ops.getD i default=⟨ds,.makeMap 89 none,t,pos,af,gu⟩):EOb Tryd.prog n ops XX B ⟨i,L,nwS 0,ph,true⟩ p:=by
 intro ξ g w hB hH;rw[hB0]at hB;have hB:StB noR [] g w:=hB;show Ok1 Tryd.prog (ops.getD i default) _ _ _ _;rw[hop];have hd:Det Tryd.prog ⟨ds,.makeMap 89 none,t,pos,af,gu⟩ n (exL L ξ) w (.map (some w.heap.size)) (w.alloc (.map #[] 0)):=Det.of_run λa hF=>by have hr:(Instr.makeMap 89 none).run Tryd.prog w= .ok (.map (some w.heap.size)) (w.alloc (.map #[] 0)):=rfl;simp [execOp,hr]
 refine hd.mono λv' w' ⟨h1,h2⟩=> ?_;subst h1;have b:Ch [] w w':=by rw[h2];exact Gr.ch ((Below.refl w.heap.size w).alloc (zH _) _)
 have hF:g.F=[]:=hB.run;have hN:g.N=[]:=zR hB.len;have hm:IMapIs w' w.heap.size []:=by rw[h2];refine⟨#[],0,?_,rfl⟩;show(w.heap.push _)[w.heap.size]? =_;simp
 obtain⟨t1,t2⟩:=hB.run' (ρ':=ot 0) (g':=⟨[w.heap.size],g.M,g.Y,g.N++[.map (some w.heap.size)]⟩) (w':=w') (l:=[.map (some w.heap.size)]) (l':=[(0,bB)]) (by rw[hF];exact b) (λx hx=> .inr (by rw[zt.1 hx];exact zH _)) (λx hx=>by rw[zt.1 hx];exact hm.lt) rfl rfl rfl rfl (λu hu b'=>by rw[zt.1 hu];simp) (λu hu=>by rw[zt.1 hu]) ⟨_,by simp [hN],rfl,hm⟩;exact⟨_,⟨t1,by show(B (p+1)).P _ _;rw[hB1];exact t2⟩,by show(g.N++[_])[0]? =some _;simp [hN]⟩
theorem vX (hB0:B p=stB (ot 0) ns) (hop:ops.getD i default=⟨ds,.build 92 #[(9,x)],t,pos,af,gu⟩) (hx:spO L x=some (nwS 0)):EOb Tryd.prog n ops XX B ⟨i,L,brS 0,ph,false⟩ p:=bN λξ g w hB hH=>by rw[hB0]at hB;have hB:StB (ot 0) ns g w:=hB;rw[hop];obtain⟨m,h1,_⟩:=hB.run;obtain⟨vx,h2,h3⟩:=bH hx hH;have h3:g.N[0]? =some vx:=h3;rw[h1]at h3;cases h3;exact⟨_,⟨m,h1,rfl⟩,cM (ps:=[(9,.map (some m))]) Tryd.underlying92 z92 (λw=>yT w _ Tryd.underlying92) (by simp [evp,h2]) wP⟩
theorem ww (hB0:B p=stB (ot 0) [(0,bB)]) (hB1:B (p+1)=stB (pJ 1 Rn.bare) [(0,bB),(0,bB)]) (hop:ops.getD i default=⟨ds,.box 92 x,t,pos,af,gu⟩) (hx:spO L x=some (brS 0)):EOb Tryd.prog n ops XX B ⟨i,L,ptS 1,ph,true⟩ p:=by
 intro ξ g w hB hH;rw[hB0]at hB;have hB:StB (ot 0) [(0,bB)] g w:=hB;show Ok1 Tryd.prog (ops.getD i default) _ _ _ _;rw[hop];obtain⟨m,h1,hF,hm⟩:=hB.run;obtain⟨vx,h2,m',h3,rfl⟩:=bH hx hH;rw[h1]at h3;cases h3;refine(dG h2).mono ?_;rintro v' w' ⟨b,rfl,hn⟩;have a:g.N.length=1:=hB.len;have hb:=hn.num;have c:=hm.lt;have hX:∀x,x∈b::m::(g.M++g.Y)->x∈g.X\/w.heap.size<=x:=λx hx=>by
  simp only[zx]at hx;rcases hx with rfl|rfl|hx
  ·exact .inr (by omega)
  ·exact .inl (by simp [Gh.X,hF])
  ·exact .inl (by simp only[Gh.X,hF];simp at hx⊢;exact .inr hx)
 have h0:∀X,IsT w' X (.mk 0 0 []) [vI 0,vI 0,vN]:=λX=>by simp only[IsT,IsTs];exact⟨_,[],rfl,.inl ⟨.inl rfl,rfl,rfl⟩,rfl⟩
 obtain⟨t1,t2⟩:=hB.run' (ρ':=pJ 1 Rn.bare) (g':=⟨[b,m],g.M,g.Y,g.N++[.map (some b)]⟩) (w':=w') (l:=[.map (some b)]) (l':=[(0,bB)]) (hn.ch.mono (by simp)) (λx hx=>by
  simp only[zx,zI,or_false]at hx;rcases hx with rfl|rfl
  ·exact .inr (by omega)
  ·exact .inl (by simp [hF])) (λx hx=>by
  simp only[zx,zI,or_false]at hx;rcases hx with rfl|rfl
  ·exact hn.lt
  ·exact zE c hn.ch.size) rfl rfl rfl rfl (λu hu b'=>by rw[zt.1 hu];simp) (λu hu=>by rw[zt.1 hu]) ⟨b,by rw[zM (by omega),a];rfl,kK m,rfl,hn.blk,h0 _,h0 _,h0 _,kP,by simp [Rn.bare,kK,IsTs],kP,rfl,hm.mv hn.ch (by simp),kP,rfl,kP,by
   simp [Rv.F,kK,bC];omega,λx hx=>by simp [Rv.F,kK,bC]at hx;simp [Gh.X];rcases hx with h|h<;>simp [h]⟩
 exact⟨_,⟨t1,by show(B (p+1)).P _ _;rw[hB1];exact t2⟩,b,by show(g.N++[_])[1]? =some _;rw[zM (by omega),a];rfl,rfl⟩
end
theorem StB.adopt2 {ρ:RX} {ns:List (Nat×Sp TT)} {g:Gh} {w w':World} {b8 b9:Nat} {us vs:List Value} (h:StB ρ ns g w) (k:Gr w w') (h8:w.heap.size<=b8) (h9:w.heap.size<=b9) (hne:b8≠b9) (c8:w'.heap[b8]? =some (.cells us.toArray 56 (0,0))) (c9:w'.heap[b9]? =some (.cells vs.toArray 56 (0,0))):TT g w ⟨g.F,b8::b9::g.M,g.Y,g.N++[vp b8,vp b9]⟩ w'/\StB ρ (ns++[(56,agS (cxV us)),(56,agS (cxV vs))]) ⟨g.F,b8::b9::g.M,g.Y,g.N++[vp b8,vp b9]⟩ w':=by
 have ht:TT g w ⟨g.F,b8::b9::g.M,g.Y,g.N++[vp b8,vp b9]⟩ w':=by
  refine⟨k.ch.mono (by simp),λx hx=> ?_,rfl,λx hx=>by simp [hx],⟨_,rfl⟩⟩;simp only[zr,zx]at hx⊢;rcases hx with hx|rfl|rfl|hx
  ·exact .inl (.inl hx)
  ·exact .inr h8
  ·exact .inr h9
  ·exact .inl (.inr hx)
 have a:∀(j:Nat) b',(g.N++[vp b8,vp b9])[j]? =some (vp b')->(g.N[j]? =some (vp b')/\j<g.N.length/\b'<w.heap.size)\/(j=g.N.length/\b'=b8)\/(j=g.N.length+1/\b'=b9):=by
  intro j b' hj;rcases zF j g.N.length with hl|hl
  ·rw[zL hl]at hj;exact .inl ⟨hj,hl,h.pl j b' hj⟩
  ·rw[zM hl]at hj;obtain⟨d,hd⟩:∃d,j-g.N.length=d:=⟨_,rfl⟩;rw[hd]at hj
   match d,hd,hj with
   |0,hd,hj=>simp at hj;exact .inr (.inl ⟨by omega,hj.symm⟩)
   |1,hd,hj=>simp at hj;exact .inr (.inr ⟨by omega,hj.symm⟩)
   |d+2,_,hj=>simp at hj
 have l8:=cO c8;have l9:=cO c9;have ks:=k.size;refine⟨ht,⟨⟨λx hx=> ?_,λx hx=> ?_⟩,λj b' hj=> ?_,ρ.st h.run k.ch (by simp) rfl rfl ht.X (λ_ _=>ht.nth),λj j' b' hj b=> ?_,by simp [h.len],λj p hp h0=> ?_⟩⟩
 ·have :=h.wf.lt x;simp only[Gh.X,zr,zx]at hx this;rcases hx with hx|(rfl|rfl|hx)|hx
  ·have :=this (.inl hx);omega
  ·exact l8
  ·exact l9
  ·have :=this (.inr (.inl hx));omega
  ·have :=this (.inr (.inr hx));omega
 ·simp only[zx]at hx;rcases hx with rfl|rfl|hx
  ·exact⟨λhf=>by have :=h.wf.lt x (by simp [Gh.X,hf]);omega,λhf=>by have :=h.wf.lt x (by simp [Gh.X,hf]);omega⟩
  ·exact⟨λhf=>by have :=h.wf.lt x (by simp [Gh.X,hf]);omega,λhf=>by have :=h.wf.lt x (by simp [Gh.X,hf]);omega⟩
  ·exact h.wf.dj x hx
 ·rcases a j b' hj with⟨_,_,h3⟩|⟨_,rfl⟩|⟨_,rfl⟩
  ·omega
  ·exact l8
  ·exact l9
 ·rcases a j b' hj with⟨h1,h2,h3⟩|⟨h1,h3⟩|⟨h1,h3⟩<;>rcases a j' b' b with⟨k1,k2,k3⟩|⟨k1,k3⟩|⟨k1,k3⟩
  ·exact h.nd j j' b' h1 k1
  all_goals omega
 ·have hlen:=h.len;rcases zF j ns.length with hl|hl
  ·rw[zL hl]at hp;exact(h.cell j p hp h0).mv ht λ_ _ hb=>k.block _ hb
  ·rw[zM hl]at hp;obtain⟨d,hd⟩:∃d,j-ns.length=d:=⟨_,rfl⟩;rw[hd]at hp
   match d,hd,hp with
   |0,hd,hp=>
    simp at hp;subst hp;exact⟨b8,_,by show(g.N++[vp b8,vp b9])[j]? =_;rw[show j=g.N.length by omega];simp,by simp,c8,us,rfl,rfl⟩
   |1,hd,hp=>
    simp at hp;subst hp;exact⟨b9,_,by show(g.N++[vp b8,vp b9])[j]? =_;rw[show j=g.N.length+1 by omega];simp,by simp,c9,vs,rfl,rfl⟩
   |d+2,_,hp=>simp at hp
def Zr (w1:World) (H:Nat->Value) (w:World) (j:Nat):Prop:=∀b,H j=vp b->w1.heap.size<=b/\w.heap[b]? =some (.cells #[vI 0,vI 0] 56 (0,0))
def C13 (w1:World) (us vs:List Value):Nat->(Nat->Value)->World->Prop
 |0,H,w=>Zr w1 H w 8/\Zr w1 H w 9/\∀b,H 8=vp b->H 9≠vp b
 |1,H,w=>∃b8 b9,H 8=vp b8/\H 9=vp b9/\w1.heap.size<=b8/\w1.heap.size<=b9/\b8≠b9/\w.heap[b8]? =some (.cells us.toArray 56 (0,0))/\w.heap[b9]? =some (.cells #[vI 0,vI 0] 56 (0,0))
 |_,H,w=>∃b8 b9,H 8=vp b8/\H 9=vp b9/\w1.heap.size<=b8/\w1.heap.size<=b9/\b8≠b9/\w.heap[b8]? =some (.cells us.toArray 56 (0,0))/\w.heap[b9]? =some (.cells vs.toArray 56 (0,0))
def W13 (w1:World) (us vs:List Value) (p:Nat) (H:Nat->Value) (w:World):Prop:=Gr w1 w/\C13 w1 us vs p H w
section
variable {P:Program} {n:Nat} {l:List Oper} {a:Act} {w:World} {L0:List (Nat×Value)} {Q:Exit->Act->World->Prop}
theorem lN {rows : List HRow} {id : Nat} (hm : P.follows .mixedOrders = true) (Wd : Nat -> (Nat -> Value) -> World -> Prop) (ss fl : List Nat) (Ft : Nat -> Value -> World -> Prop) (G : World -> World -> Prop) (qb : Nat) (st : ∀ j v w w', Ft j v w -> G w w' -> Ft j v w') (hok : lY n ss l rows = true) (hF : Frm a n L0) (h0 : Wd 0 (λ_ => undef) { w with drawn := w.drawn + 1 })
  (hobs:GObs P n Wd ss fl Ft G qb L0 rows 0 l rows)
  (hend:∀a' w' H,Wd ss.length H w'->Frm a' n (g8 H l rows++L0)->Q .normal a' w'):
  (Code.region id l.toArray true).wp P Q a w:=by
 simp only[lY,zD]at hok;have ok:=OkAll.of hok.1;refine wp_region_any hm ?_;refine oj ok (okHs.of hok.2) st hobs (λH a' w' hd=>hend a' w' H hd.wd (hd.frm ok)) _ _ 0 (λ_=>undef) _ _ ?_ ?_
 ·have h0' : ∀ j, (Array.replicate l.toArray.size false).getD j false = false := by intro j;simp only[AE,AK];split<;>rfl
  refine⟨by simp,λi o _ h=> ?_,by omega,λk s _=> ?_,hF.size,hF.defers,h0,λ_ j _ h=> ?_,λi o r d _ _ h=> ?_,λs v hs _=>hF.get s v hs⟩
  ·rw[h0']at h;simp at h
  ·rw[h0'];simp
  ·rw[h0']at h;simp at h
  ·rw[h0']at h;simp at h
 ·unfold left;have :=AG (l:=List.range l.length) (p:=λi=> !(Array.replicate l.toArray.size false).getD i false);simpa using this
end
def F13 (_:Nat) (v:Value) (_:World):Prop:=∃b,v=vp b
def G13 (_ _:World):Prop:=True
section
set_option maxRecDepth 100000
variable {n:Nat} {L0:List (Nat×Value)} {rows:List HRow} {i p:Nat} {o:Oper} {r:HRow} {H:Nat->Value} {w w' w1:World} {v:Value} {us vs:List Value} {g:Gh} {b:Nat} {rn:Rn} {ns:List (Nat×Sp TT)} {ds:Option Tmp} {pos:String} {af:Array Edge} {gu:Option (Nat×Bool)} {t:TypeId} {x y:Operand}
theorem uK (hB:StB (bS b rn) ns g w1) (k:Gr w1 w):∃q,At w b 0 (rcl rn q):=by obtain⟨q,_,h⟩:=hB.run;refine⟨q,?_⟩;have :=At.of_blk (show w.heap[b]? =_ by rw[k.block _ (cO h.hb)];exact h.hb);simpa using this
theorem yh (hz:fV L0 r.zs) (hg:o.guard=none) (hm:cv i [10,11]=false) (hf:cv i [8,9]=false) (h:∀H w,Gr w1 w->Det Tryd.prog o n (r.fr rows H) w (r.out H) w):GOb Tryd.prog n (W13 w1 us vs) [10,11] [8,9] F13 G13 0 L0 rows i o r:=
 ⟨hz,λp _ H w hW _=>by simp only[hg];exact Det.og (λ_=>trivial) hm hf hW (h H w hW.1)⟩
theorem yi (hi:i=8\/i=9) (hz:fV L0 r.zs) (hp:r.ph=[0]) (ho:o=⟨ds,.alloc 56,t,pos,af,none⟩) (hout:∀H,r.out H=H i):GOb Tryd.prog n (W13 w1 us vs) [10,11] [8,9] F13 G13 0 L0 rows i o r:=
 ⟨hz,λp hp' H w hW _=>by
  rw[hp]at hp';obtain rfl:=ce hp';subst ho;show Ok1 _ _ _ _ _ _;refine(ez z56).mono ?_;rintro v w' ⟨b,rfl,hn⟩;obtain⟨k1,k2,k3,k4⟩:=hW;have hb:=hn.num;have hs:=k1.size;have up:∀j,j≠i->Zr w1 H w j->Zr w1 (d9 H i (vp b)) w' j:=λj hj hz b' hb'=>by rw[eL hj]at hb';obtain⟨m1,m2⟩:=hz b' hb';exact⟨m1,by rw[hn.ch.gr.block _ (cO m2)];exact m2⟩
  have me:Zr w1 (d9 H i (vp b)) w' i:=λb' hb'=>by rw[f_]at hb';cases hb';exact⟨by omega,hn.blk⟩
  have lt:∀j b',Zr w1 H w j->H j=vp b'->b'<b:=λj b' hz e=>by have :=cO (hz b' e).2;omega
  refine R2.flo (by rcases hi with rfl|rfl<;>rfl) (by rcases hi with rfl|rfl<;>rfl) ⟨k1.trans hn.ch.gr,?_⟩ (by rw[hout,f_]) zo ⟨b,rfl⟩;rcases hi with rfl|rfl
  ·refine⟨me,up 9 (by decide) k3,λb' h1 h2=> ?_⟩;rw[f_]at h1;rw[eL (by decide)]at h2;cases h1;exact absurd (lt 9 _ k3 h2) (by omega)
  ·refine⟨up 8 (by decide) k2,me,λb' h1 h2=> ?_⟩;rw[f_]at h2;rw[eL (by decide)]at h1;cases h2;exact absurd (lt 8 _ k2 h1) (by omega)⟩
theorem wH {a c:Int} (hi:i=10) (hz:fV L0 r.zs) (hp:r.ph=[0]) (hh:8∈r.hs/\9∈r.hs) (ho:o=⟨ds,.store 56 x y,t,pos,af,none⟩) (hx:∀H,ev (r.fr rows H) x=some (H 8)) (hy:∀H,ev (r.fr rows H) y=some (.agg #[vI a,vI c])) (hout:∀H,r.out H=H i):GOb Tryd.prog n (W13 w1 [vI a,vI c] vs) [10,11] [8,9] F13 G13 0 L0 rows i o r:=
 ⟨hz,λp hp' H w hW hF=>by
  rw[hp]at hp';obtain rfl:=ce hp';subst ho;subst hi;show Ok1 _ _ _ _ _ _;obtain⟨b8,e8⟩:=hF (zH _) 8 hh.1 (by decide) rfl;obtain⟨b9,e9⟩:=hF (zH _) 9 hh.2 (by decide) rfl;obtain⟨k1,k2,k3,k4⟩:=hW;obtain⟨m1,m2⟩:=k2 _ e8;obtain⟨m3,m4⟩:=k3 _ e9;have hne:b8≠b9:=λe=>k4 b8 e8 (by rw[e9,e]);have hx:=hx H;rw[e8]at hx;refine(dM iO hx (hy H) rfl (by simp [Value.oneCell']) m2 rfl).mono ?_;intro v w' hu;refine R2.eff rfl ⟨?_,b8,b9,by rw[eL (by decide)];exact e8,by rw[eL (by decide)];exact e9,m1,m3,hne,hu.blk,by rw[hu.other _ (λe=>hne e.symm)];exact m4⟩ (by rw[hout,f_]) (λh=>by omega) rfl;exact⟨hu.os.trans k1.os,hu.tape.trans k1.tape,hu.output.trans k1.output,by rw[hu.size];exact k1.size,λb' hb'=>by rw[hu.other _ (by omega)];exact k1.block _ hb'⟩⟩
theorem wG {a c:Int} (hi:i=11) (hz:fV L0 r.zs) (hp:r.ph=[1]) (ho:o=⟨ds,.store 56 x y,t,pos,af,none⟩) (hx:∀H,ev (r.fr rows H) x=some (H 9)) (hy:∀H,ev (r.fr rows H) y=some (.agg #[vI a,vI c])) (hout:∀H,r.out H=H i):GOb Tryd.prog n (W13 w1 us [vI a,vI c]) [10,11] [8,9] F13 G13 0 L0 rows i o r:=
 ⟨hz,λp hp' H w hW hF=>by
  rw[hp]at hp';obtain rfl:=ce hp';subst ho;subst hi;show Ok1 _ _ _ _ _ _;obtain⟨k1,b8,b9,e8,e9,m1,m3,hne,m2,m4⟩:=hW;have hx:=hx H;rw[e9]at hx;refine(dM iO hx (hy H) rfl (by simp [Value.oneCell']) m4 rfl).mono ?_;intro v w' hu;refine R2.eff rfl ⟨?_,b8,b9,by rw[eL (by decide)];exact e8,by rw[eL (by decide)];exact e9,m1,m3,hne,by rw[hu.other _ hne];exact m2,hu.blk⟩ (by rw[hout,f_]) (λh=>by omega) rfl;exact⟨hu.os.trans k1.os,hu.tape.trans k1.tape,hu.output.trans k1.output,by rw[hu.size];exact k1.size,λb' hb'=>by rw[hu.other _ (by omega)];exact k1.block _ hb'⟩⟩
theorem yk {L:TL TT} {ρ:RX} {g0:Gh} {w0:World} {a a':Act} {kem:Bool} {L2:List (Nat×Value)} (h:SS L n (stB ρ ns) g0 w0 a g w1) (hW:W13 w1 us vs 2 H w') (hF:Frm a' n L2) (h0:lk L2 0=some (.bool kem)) (h3:lk L2 3=some (vp b)) (h6:lk L2 6=some (H 8)) (h7:lk L2 7=some (H 9)) (hl:ns.length=2):∃g',SS [(0,eqS (.bool kem)),(3,eqS (vp b)),(6,nwS 2),(7,nwS 3)] n (stB ρ (ns++[(56,agS (cxV us)),(56,agS (cxV vs))])) g0 w0 a' g' w':=by
 obtain⟨k1,b8,b9,e8,e9,m1,m3,hne,m2,m4⟩:=hW;obtain⟨t1,t2⟩:=StB.adopt2 h.b k1 m1 m3 hne m2 m4;have hlen:g.N.length=2:=h.b.len.trans hl;refine⟨_,h.t.trans t1,t2,hF.size,hF.defers,λt s hs=> ?_⟩;simp only[lkS]at hs;by_cases c0:0=t
 ·subst c0;simp at hs;subst hs;exact hF.get 0 _ h0
 rw[el c0]at hs;by_cases c3:3=t
 ·subst c3;simp at hs;subst hs;exact hF.get 3 _ h3
 rw[el c3]at hs;by_cases c6:6=t
 ·subst c6;simp at hs;subst hs;have :=hF.get 6 _ h6;rw[this,e8];show(g.N++[vp b8,vp b9])[2]? =some (vp b8);rw[<-hlen];simp
 rw[el c6]at hs;by_cases c7:7=t
 ·subst c7;simp at hs;subst hs;have :=hF.get 7 _ h7;rw[this,e9];show(g.N++[vp b8,vp b9])[3]? =some (vp b9);rw[show 3=g.N.length+1 by omega];simp
 rw[el c7]at hs;simp at hs
end
theorem nH (i:Nat):(Rn.consts i).sees [cT i]=Rn.consts (i+1):=by simp [Rn.consts,Rn.sees,Ag]
namespace Rn
abbrev E0 (i:Nat):Rn:=(consts 4).ends i
abbrev E1 (i:Nat):Rn:=(E0 i).draw.draw
abbrev E2 (i:Nat):Rn:={E1 i with id:=up (E0 i).id i (E0 i).names}
abbrev E3 (i:Nat):Rn:={E2 i with x:=up (E0 i).x i ((E0 i).names+1)}
end Rn
theorem kN (i:Nat):(Rn.E0 i).names=2*i:=by simp [Rn.E0,Rn.ends,Rn.consts,Rn.sees,Rn.bare]
theorem lm (i:Nat):(Rn.E3 i).sees [pT (Rn.E0 i).names,pT ((Rn.E0 i).names+1)]=Rn.E0 (i+1):=by
 have hn:=kN i;simp only[Rn.sees,Rn.draw,hn];simp only[Rn.E0,Rn.ends,Rn.mk.injEq,true_and,and_true,Ag,List.flatMap_append,Aa];refine⟨by simp [Rn.consts,Rn.sees,Rn.bare];omega,?_,?_,by simp⟩
 ·funext w;unfold up;by_cases h:w=i
  ·subst h;simp
  ·simp only[h,if_false];by_cases h2:w<i
   ·simp [h2,Ak h2]
   ·simp [h2,show¬w<i+1 by omega]
 ·funext w;unfold up;by_cases h:w=i
  ·subst h;simp
  ·simp only[h,if_false];by_cases h2:w<i
   ·simp [h2,Ak h2]
   ·simp [h2,show¬w<i+1 by omega]
theorem vE {i:Nat} {q:Rv} (hi:i<2):(rcl (Rn.E3 i) q)[2+i*1]? =some (vI (Rn.E0 i).names):=by rw[n5 hi];simp [di]
theorem vD {i:Nat} {q:Rv} (hi:i<2):(rcl (Rn.E3 i) q)[4+i*1]? =some (vI ((Rn.E0 i).names+1:Nat)):=by rw[j7 hi];simp [di]
theorem zr0 {w1 w:World} {j:Nat}:Zr w1 (λ_=>undef) w j:=λb h=>by simp [undef]at h
theorem xl {w1:World} {us vs:List Value}:W13 w1 us vs 0 (λ_=>undef) {w1 with drawn:=w1.drawn+1}:=⟨(Ch.drew w1).gr,zr0,zr0,λb h=>by simp [undef]at h⟩
theorem nQ:∀i,(Rn.E0 i).known.length=4+2*i
 |0=>by simp [Rn.E0,Rn.ends,Rn.consts,Rn.sees,Rn.bare]
 |i+1=>by rw[<-lm i];have :=nQ i;simp only[Rn.sees,zP,zZ,Az];show(Rn.E0 i).known.length+2=_;omega
theorem E0_z:Rn.E0 0=Rn.consts 4:=by simp [Rn.E0,Rn.ends]
theorem wR {z:Value} {a b c d e f:Int}:Instr.fill (λi=>some (i*2,2)) ((Array.range (3*2)).map (z.cells[· %z.cells.size]!)) [(0,.agg #[.int .i64 a,.int .i64 b]),(1,.agg #[.int .i64 c,.int .i64 d]),(2,.agg #[.int .i64 e,.int .i64 f])]=some #[.int .i64 a,.int .i64 b,.int .i64 c,.int .i64 d,.int .i64 e,.int .i64 f]:=by simp [Instr.fill,Value.cells];apply Array.ext';simp [zO,z6,Ab,Ag]
section
set_option maxRecDepth 100000
variable {ops:List Oper} {n:Nat} {B:Nat->BX XX} {i p b k o:Nat} {L:TL TT} {ph:List Nat} {ρ:RX} {ns:List (Nat×Sp TT)} {ds:Option Tmp} {ty:TypeId} {pos:String} {af:Array Edge} {gu:Option (Nat×Bool)} {t:TypeId} {x x1 x2 x3:Operand}
theorem o8 {a1 a2 b1 b2 c1 c2:Int} (hB0:B p=stB ρ ns) (hop:ops.getD i default=⟨ds,.buildSlice 97 3 #[(0,x1),(1,x2),(2,x3)],t,pos,af,gu⟩) (h1:spO L x1=some (agS (cxV [vI a1,vI a2]))) (h2:spO L x2=some (agS (cxV [vI b1,vI b2]))) (h3:spO L x3=some (agS (cxV [vI c1,vI c2]))):EOb Tryd.prog n ops XX B ⟨i,L,slS (cxV [vI a1,vI a2,vI b1,vI b2,vI c1,vI c2]) 3,ph,false⟩ p:=fv λξ g w hB hH=>by rw[hB0]at hB;have hB:StB ρ ns g w:=hB;rw[hop];obtain⟨v1,e1,vs1,rfl,k1⟩:=bH h1 hH;obtain⟨v2,e2,vs2,rfl,k2⟩:=bH h2 hH;obtain⟨v3,e3,vs3,rfl,k3⟩:=bH h3 hH;obtain rfl:vs1=[vI a1,vI a2]:=k1;obtain rfl:vs2=[vI b1,vI b2]:=k2;obtain rfl:vs3=[vI c1,vI c2]:=k3;refine(bU Tryd.underlying97 qF (ps:=[(0,.agg #[vI a1,vI a2]),(1,.agg #[vI b1,vI b2]),(2,.agg #[vI c1,vI c2])]) (by simp [evp,e1,e2,e3]) (by decide) (by decide) wR).mono ?_;rintro v w' ⟨b,rfl,hn⟩;exact lJ hB.wf hn rfl
theorem o9 {a1 a2 a3 a4 a5 a6:Nat} {c1 c2:Bool} (hop:ops.getD i default=⟨ds,.build 99 #[(0,x1),(1,x2),(2,x3)],t,pos,af,gu⟩) (h1:spO L x1=some (slS (cxV [vI a1,vI a2,vI a3,vI a4,vI a5,vI a6]) 3)) (h2:spO L x2=some (eqS (.bool c1))) (h3:spO L x3=some (eqS (.bool c2))):EOb Tryd.prog n ops XX B ⟨i,L,agS (cxE ⟨[(a1,a2),(a3,a4),(a5,a6)],c1,c2⟩),ph,false⟩ p:=bN λξ g w hB hH=>by rw[hop];obtain⟨v,k1,b1,o1,cap,vs,rfl,m1,m2,m3,m4⟩:=bH h1 hH;obtain rfl:vs=[vI a1,vI a2,vI a3,vI a4,vI a5,vI a6]:=m4;have k4:=bF (ξ:=ξ) h2;have k5:=bF (ξ:=ξ) h3;exact⟨_,⟨[.slice (some ⟨b1,o1,none⟩) 3 (3+cap),.bool c1,.bool c2],rfl,_,rfl,.inr ⟨b1,o1,cap,rfl,m1,m2,m3⟩⟩,cM (ps:=[(0,.slice (some ⟨b1,o1,none⟩) 3 (3+cap)),(1,.bool c1),(2,.bool c2)]) Tryd.underlying99 z99 (λw=>xJ w _ Tryd.underlying99) (by simp [evp,k1,k4,k5]) sq⟩
end
theorem pf {L:TL TT} {n b:Nat} {r:Rn} {ns:List (Nat×Sp TT)} {X:List Nat} {g:Gh} {w0 w:World} {a:Act} (h:SS L n (stB (bS b r) ns) ⟨[],[],X,[]⟩ w0 a g w):∃b' F,vp b=vp b'/\Gr w0 w/\(∀x,x∈F->w0.heap.size<=x)/\RunIs b' r F (F++X) w:=by
 have hY:g.Y=X:=h.t.y;refine⟨b,g.F,rfl,h.gr0,λx hx=> ?_,?_⟩
 ·rcases h.t.sub x (zw _ hx)with h1|h1
  ·simp at h1
  ·exact h1
 ·exact RunIs.mv h.b.run (Ch.refl [] w) (by simp) (λx hx => .inl (by
   simp only[Gh.X,zr,hY]at hx⊢;rcases hx with hx|hx
   ·exact .inl hx
   ·exact .inr (.inr hx))) (λx hx=>zw _ hx)
end Go.Mi.Term
namespace Go.Mi.Term
open Go.Mi Go.Proofs Go.RowKit
set_option maxRecDepth 100000 in
set_option maxHeartbeats 4000000 in
theorem wc {X:List Nat} {kem:Bool} (w0:World) (hX:∀x,x∈X->x<w0.heap.size):Calls Tryd.prog 25 (List.toArray [.bool kem]) w0 (Ret λv w'=>∃b F,v=vp b/\Gr w0 w'/\(∀x,x∈F->w0.heap.size<=x)/\RunIs b (Rn.new kem) F (F++X) w'):=by
 refine dI [eqS (.bool kem)] hX ⟨rfl,zo⟩ Tryd.func25 rfl Tryd.ntmps25 rfl λac hS=> ?_;refine wp_seq ?_;refine rz hS [] [0,2] [(0,eB kem),(2,eqS (Value.pointer none))] zo λac g w hS=> ?_;refine wp_seq ?_;refine rx [e1 0 [] (nwS 0),⟨1,[(9,nwS 0)],brS 0,[1],false⟩,⟨2,[(10,brS 0)],ptS 1,[1],true⟩] [0,2,3] (Bl [stB noR [],stB (ot 0) [(0,bB)],stB (pJ 1 Rn.bare) [(0,bB),(0,bB)]]) 2 [(0,eB kem),(2,eqS (Value.pointer none)),(3,ptS 1)] ⟨⟨uf rfl rfl rfl,zo⟩,⟨vX rfl rfl rfl,zo⟩,⟨ww rfl rfl rfl rfl,zo⟩,zo⟩ hS rfl λac g w hS=> ?_;obtain⟨b,hS⟩:=hS.born (t:=3) rfl;refine wp_seq ?_;refine wp_seq ?_;refine rz hS [] [0,2,3,12] [(0,eB kem),(2,eqS (Value.pointer none)),(3,eP b 0),(12,eI 0)] zo λac g w hS=> ?_;refine bA ?_;refine wp_block ?_;refine ca (λc ac w=>∃(i:Nat) (g:Gh),c=4-i/\(i<=4)/\SS [(0,eB kem),(3,eP b 0),(12,eI i)] 108 (stB (bS b (Rn.consts i)) [(0,bB),(0,bB)]) ⟨[],[],X,[]⟩ w0 ac g w) _ ⟨0,_,rfl,zV _,hS.to ⟨rfl,rfl,rfl,zo⟩⟩ ?_;rintro _ ac w ⟨i,g,rfl,hi,hS⟩;refine wp_seq ?_;refine rz hS [] [0,3,12,13] [(0,eB kem),(3,eP b 0),(12,eI i),(13,eB (decide ((i:Int)<4)))] zo λac g w hS=> ?_;refine wp_seq ?_;refine cr hS.f.frm rfl (λh=> ?_) (λh=> ?_)
 ·have hc:=zB h;clear h;have hc:i<4:=by omega
  refine wp_skip ?_;refine wp_seq ?_;refine wp_block ?_;refine wp_seq ?_;refine rz hS [] [0,3,4,12] [(0,eB kem),(3,eP b 0),(4,eI i),(12,eI i)] zo λac g w hS=> ?_;refine rx [e0 2 [(16,eI i)] (tmS (cT i)),e0 3 [(17,tmS (cT i))] (tfS [(cT i)]),e1 4 [(15,eP b 0),(18,tfS [(cT i)])] bB] [0,3,12] (Bl [stB (bS b (Rn.consts i)) [(0,bB),(0,bB)],stB (bS b ((Rn.consts i).sees [cT i])) [(0,bB),(0,bB)]]) 1 [(0,eB kem),(3,eP b 0),(12,eI i)] ⟨⟨bX rfl λξ g w hB hH=>a_ c52 rfl (qA (k:=i) w hB.wf.lt (by omega)),zo⟩,⟨de rfl rfl rfl,zo⟩,⟨dA (post:=λ_ _ _=>True) rfl rfl (λ_ _ _ h=>h) λξ g w hw hr hH=>a_ c51 rfl (gJ w hw.lt hr (by show(Rn.consts i).known.length+1<=1000000;simp [Rn.consts,Rn.sees,Rn.bare];omega) (TlIs.gen (hH 18 _ rfl))),zo⟩,zo⟩ hS rfl λac g w hS=> ?_;refine bR ?_;refine rz hS [e0 0 [(12,eI i)] (eI (((i:Nat):Int)+1))] [0,3,12] [(0,eB kem),(3,eP b 0),(12,eI (((i:Nat):Int)+1))] ⟨⟨bN λξ g w hB hH=>⟨_,rfl,ci rfl rfl (bK (by omega) (by omega))⟩,zo⟩,zo⟩ λac g w hS=> ?_;refine bA ?_;refine⟨_,?_,i+1,_,rfl,hc,hS.toB (zu (λz=>stB (bS b z) _) (nH _)) ⟨rfl,rfl,rfl,zo⟩⟩;omega
 ·have hc:=of_decide_eq_false h;clear h;obtain rfl:i=4:=by omega
  refine wp_exit ?_;refine bM ?_;refine bM ?_;refine bZ ?_;refine wp_seq ?_;refine wp_seq ?_;refine rz hS [] [0,3,21] [(0,eB kem),(3,eP b 0),(21,eI 0)] zo λac g w hS=> ?_;refine bA ?_;refine wp_block ?_;refine ca (λc ac w=>∃(i:Nat) (g:Gh),c=2-i/\(i<=2)/\SS [(0,eB kem),(3,eP b 0),(21,eI i)] 108 (stB (bS b (Rn.E0 i)) [(0,bB),(0,bB)]) ⟨[],[],X,[]⟩ w0 ac g w) _ ⟨0,_,rfl,zV _,hS.toB (zu (λz=>stB (bS b z) _) E0_z.symm) ⟨rfl,rfl,rfl,zo⟩⟩ ?_;rintro _ ac w ⟨i,g,rfl,hi,hS⟩;refine wp_seq ?_;refine rz hS [] [0,3,21,22] [(0,eB kem),(3,eP b 0),(21,eI i),(22,eB (decide ((i:Int)<2)))] zo λac g w hS=> ?_;refine wp_seq ?_;refine cr hS.f.frm rfl (λh=> ?_) (λh=> ?_)
  ·have hc:=zB h;clear h;have hc:i<2:=by omega
   refine wp_skip ?_;refine wp_seq ?_;refine wp_block ?_;refine wp_seq ?_;refine rz hS [] [0,3,5,21] [(0,eB kem),(3,eP b 0),(5,eI i),(21,eI i)] zo λac g w hS=> ?_;refine wp_seq ?_;refine rw_ mo [e1 5 [(28,eP b 0)] (eI ((Rn.E0 i).names:Nat)),⟨7,[(30,eP b 0)],eI ((Rn.E0 i).names+1:Nat),[1],true⟩,⟨10,[(33,eP b 2),(25,eI i)],eP b (2+i*1),[2],false⟩,⟨11,[(34,eP b (2+i*1)),(29,eI ((Rn.E0 i).names:Nat))],bB,[2],true⟩,⟨14,[(36,eP b 4),(27,eI i)],eP b (4+i*1),[3],false⟩,⟨15,[(37,eP b (4+i*1)),(31,eI ((Rn.E0 i).names+1:Nat))],bB,[3],true⟩] [0,3,5,21] (Bl [stB (bS b (Rn.E0 i)) [(0,bB),(0,bB)],stB (bS b ((Rn.E0 i).draw)) [(0,bB),(0,bB)],stB (bS b (Rn.E1 i)) [(0,bB),(0,bB)],stB (bS b (Rn.E2 i)) [(0,bB),(0,bB)],stB (bS b (Rn.E3 i)) [(0,bB),(0,bB)]]) 4 [(0,eB kem),(3,eP b 0),(5,eI i),(21,eI i)] ⟨⟨dA (post:=λ_ _ v=>v=vI ((Rn.E0 i).names:Nat)) rfl rfl (λ_ _ _ h=>h) λξ g w hw hr hH=>a_ c53 rfl (gP w hw.lt hr (by show(Rn.E0 i).names<=1000000;rw[kN];omega)),zo⟩,⟨dA (post:=λ_ _ v=>v=vI ((Rn.E0 i).names+1:Nat)) rfl rfl (λ_ _ _ h=>h) λξ g w hw hr hH=>a_ c53 rfl (gP w hw.lt hr (by show(Rn.E0 i).names+1<=1000000;rw[kN];omega)),zo⟩,⟨cJ rfl rfl rfl Tryd.underlying56 sz3 hc,zo⟩,⟨gn rfl rfl rfl sz3 rfl rfl rfl (by omega) (λ_=>vu (r:=Rn.E1 i) hc) rfl rfl rfl,zo⟩,⟨cJ rfl rfl rfl Tryd.underlying56 sz3 hc,zo⟩,⟨gn rfl rfl rfl sz3 rfl rfl rfl (by omega) (λ_=>uJ (r:=Rn.E2 i) hc) rfl rfl rfl,zo⟩,zo⟩ hS rfl λac g w hS=> ?_;refine rw_ mo [e0 5 [(42,eP b 2),(40,eI i)] (eP b (2+i*1)),e0 6 [(43,eP b (2+i*1))] (eI ((Rn.E0 i).names:Nat)),e0 7 [(44,eI ((Rn.E0 i).names:Nat))] (tmS (pT ((Rn.E0 i).names:Nat))),e0 12 [(49,eP b 4),(47,eI i)] (eP b (4+i*1)),e0 13 [(50,eP b (4+i*1))] (eI ((Rn.E0 i).names+1:Nat)),e0 14 [(51,eI ((Rn.E0 i).names+1:Nat))] (tmS (pT ((Rn.E0 i).names+1:Nat))),e0 15 [(45,tmS (pT ((Rn.E0 i).names:Nat))),(52,tmS (pT ((Rn.E0 i).names+1:Nat)))] (tfS [(pT ((Rn.E0 i).names:Nat)),(pT ((Rn.E0 i).names+1:Nat))]),e1 16 [(38,eP b 0),(53,tfS [(pT ((Rn.E0 i).names:Nat)),(pT ((Rn.E0 i).names+1:Nat))])] bB] [0,3,21] (Bl [stB (bS b (Rn.E3 i)) [(0,bB),(0,bB)],stB (bS b ((Rn.E3 i).sees [pT (Rn.E0 i).names,pT ((Rn.E0 i).names+1)])) [(0,bB),(0,bB)]]) 1 [(0,eB kem),(3,eP b 0),(21,eI i)] ⟨⟨cJ rfl rfl rfl Tryd.underlying56 sz3 hc,zo⟩,⟨dL (eg _ _) rfl rfl rfl Tryd.underlying3 rfl (λ_=>vE hc),zo⟩,⟨bX rfl λξ g w hB hH=>a_ c54 rfl (lS (a:=((Rn.E0 i).names:Nat)) w hB.wf.lt),zo⟩,⟨cJ rfl rfl rfl Tryd.underlying56 sz3 hc,zo⟩,⟨dL (eg _ _) rfl rfl rfl Tryd.underlying3 rfl (λ_=>vD hc),zo⟩,⟨bX rfl λξ g w hB hH=>a_ c54 rfl (lS (a:=((Rn.E0 i).names+1:Nat)) w hB.wf.lt),zo⟩,⟨cX rfl rfl rfl rfl,zo⟩,⟨dA (post:=λ_ _ _=>True) rfl rfl (λ_ _ _ h=>h) λξ g w hw hr hH=>a_ c51 rfl (gJ w hw.lt hr (by show(Rn.E0 i).known.length+2<=1000000;rw[nQ];omega) (TlIs.gen (hH 53 _ rfl))),zo⟩,zo⟩ hS rfl λac g w hS=> ?_;refine bR ?_;refine rz hS [e0 0 [(21,eI i)] (eI (((i:Nat):Int)+1))] [0,3,21] [(0,eB kem),(3,eP b 0),(21,eI (((i:Nat):Int)+1))] ⟨⟨bN λξ g w hB hH=>⟨_,rfl,ci rfl rfl (bK (by omega) (by omega))⟩,zo⟩,zo⟩ λac g w hS=> ?_;refine bA ?_;refine⟨_,?_,i+1,_,rfl,hc,hS.toB (zu (λz=>stB (bS b z) _) (lm _)) ⟨rfl,rfl,rfl,zo⟩⟩;omega
  ·have hc:=of_decide_eq_false h;clear h;obtain rfl:i=2:=by omega
   refine wp_exit ?_;refine bM ?_;refine bM ?_;refine bZ ?_;refine wp_seq ?_;have hS:=hS.to (L':=[(0,eqS (.bool kem)),(3,eP b 0)]) ⟨rfl,rfl,zo⟩;have hS:SS _ _ (stB (bS b (Rn.E0 2)) [(0,bB),(0,bB)]) _ _ _ _ _:=hS;refine lN mo (W13 w [vI ((Rn.E0 2).id 0),vI ((Rn.E0 2).id 1)] [vI ((Rn.E0 2).x 0),vI ((Rn.E0 2).x 1)]) [10,11] [8,9] F13 G13 0 (λ_ _ _ _ h _=>h) (rows:=[hr_ [] [(3,vP b 0)] [0] (vP b 0),hr_ [(0,56)] [] [0] (vP b 0),hr_ [(1,57)] [] [0] (vP b 2),hr_ [(2,58)] [] [0] (.agg #[vI ((Rn.E0 2).id 0),vI ((Rn.E0 2).id 1)]),hr_ [] [(3,vP b 0)] [0,1] (vP b 0),hr_ [(4,60)] [] [0,1] (vP b 0),hr_ [(5,61)] [] [0,1] (vP b 4),hr_ [(6,62)] [] [0,1] (.agg #[vI ((Rn.E0 2).x 0),vI ((Rn.E0 2).x 1)]),⟨[],[],[0],[8],λH=>H 8,λ_ _ h_=>h_ 8 (by simp)⟩,⟨[],[],[0],[9],λH=>H 9,λ_ _ h_=>h_ 9 (by simp)⟩,⟨[(8,6),(3,59)],[],[0],[8,9,10],λH=>H 10,λ_ _ h_=>h_ 10 (by simp)⟩,⟨[(9,7),(7,63)],[],[1],[9,11],λH=>H 11,λ_ _ h_=>h_ 11 (by simp)⟩]) (L0:=[(0,.bool kem),(3,vP b 0)]) (by kernel_rfl) hS.f.frm xl ⟨GOb.pure (λ_=>trivial) ⟨rfl,zo⟩ rfl rfl rfl (λ_ _=>bD rfl),GOb.pure (λ_=>trivial) zo rfl rfl rfl (λ_ _=>d_nil rfl),GOb.pure (λ_=>trivial) zo rfl rfl rfl (λ_ _=>bG Tryd.underlying92 iO rfl rfl rfl),yh zo rfl rfl rfl (λH w k=>by obtain⟨q,hq⟩:=uK hS.b k;exact cb Tryd.underlying56 rfl iO rfl (hq.part 2 rfl) rfl),GOb.pure (λ_=>trivial) ⟨rfl,zo⟩ rfl rfl rfl (λ_ _=>bD rfl),GOb.pure (λ_=>trivial) zo rfl rfl rfl (λ_ _=>d_nil rfl),GOb.pure (λ_=>trivial) zo rfl rfl rfl (λ_ _=>bG Tryd.underlying92 iO rfl rfl rfl),yh zo rfl rfl rfl (λH w k=>by obtain⟨q,hq⟩:=uK hS.b k;exact cb Tryd.underlying56 rfl iO rfl (hq.part 4 rfl) rfl),yi (.inl rfl) zo rfl rfl (λ_=>rfl),yi (.inr rfl) zo rfl rfl (λ_=>rfl),wH rfl zo rfl ⟨by simp,by simp⟩ rfl (λ_=>rfl) (λ_=>rfl) (λ_=>rfl),wG rfl zo rfl rfl (λ_=>rfl) (λ_=>rfl) (λ_=>rfl),zo⟩ (λac w2 H hW hF=> ?_);obtain⟨g,hS⟩:=yk hS hW hF rfl rfl rfl rfl rfl;clear hW hF;refine wp_seq ?_;refine ry mo hS [e0 0 [(6,nwS 2)] (nwO 2 0),e0 1 [(64,nwO 2 0)] (eI ((Rn.E0 2).id 0)),e0 2 [(7,nwS 3)] (nwO 3 1),e0 3 [(66,nwO 3 1)] (eI ((Rn.E0 2).x 1)),e0 4 [(65,eI ((Rn.E0 2).id 0)),(67,eI ((Rn.E0 2).x 1))] (tmS (dT ((Rn.E0 2).id 0) ((Rn.E0 2).x 1))),e0 5 [(7,nwS 3)] (nwO 3 0),e0 6 [(69,nwO 3 0)] (eI ((Rn.E0 2).x 0)),e0 7 [(6,nwS 2)] (nwO 2 1),e0 8 [(71,nwO 2 1)] (eI ((Rn.E0 2).id 1)),e0 9 [(70,eI ((Rn.E0 2).x 0)),(72,eI ((Rn.E0 2).id 1))] (tmS (dT ((Rn.E0 2).x 0) ((Rn.E0 2).id 1))),e0 10 [(7,nwS 3)] (nwO 3 0),e0 11 [(74,nwO 3 0)] (eI ((Rn.E0 2).x 0)),e0 12 [(7,nwS 3)] (nwO 3 1),e0 13 [(76,nwO 3 1)] (eI ((Rn.E0 2).x 1)),e0 14 [(75,eI ((Rn.E0 2).x 0)),(77,eI ((Rn.E0 2).x 1))] (tmS (dT ((Rn.E0 2).x 0) ((Rn.E0 2).x 1))),e0 15 [(68,tmS (dT ((Rn.E0 2).id 0) ((Rn.E0 2).x 1))),(73,tmS (dT ((Rn.E0 2).x 0) ((Rn.E0 2).id 1))),(78,tmS (dT ((Rn.E0 2).x 0) ((Rn.E0 2).x 1)))] (tfS [(dT ((Rn.E0 2).id 0) ((Rn.E0 2).x 1)),(dT ((Rn.E0 2).x 0) ((Rn.E0 2).id 1)),(dT ((Rn.E0 2).x 0) ((Rn.E0 2).x 1))])] [0,3,6,7,8] [(0,eB kem),(3,eP b 0),(6,nwS 2),(7,nwS 3),(8,tfS [(dT ((Rn.E0 2).id 0) ((Rn.E0 2).x 1)),(dT ((Rn.E0 2).x 0) ((Rn.E0 2).id 1)),(dT ((Rn.E0 2).x 0) ((Rn.E0 2).x 1))])] ⟨⟨d7 (k:=2) (j:=0) rfl rfl rfl rfl (by decide) rfl (by decide),zo⟩,⟨bP (k:=2) (j:=0) rfl rfl rfl rfl (by decide) Tryd.underlying3 rfl rfl,zo⟩,⟨d7 (k:=3) (j:=1) rfl rfl rfl rfl (by decide) rfl (by decide),zo⟩,⟨bP (k:=3) (j:=1) rfl rfl rfl rfl (by decide) Tryd.underlying3 rfl rfl,zo⟩,⟨bX rfl λξ g w hB hH=>a_ c55 rfl (pz (a:=((Rn.E0 2).id 0)) (b:=((Rn.E0 2).x 1)) w hB.wf.lt),zo⟩,⟨d7 (k:=3) (j:=0) rfl rfl rfl rfl (by decide) rfl (by decide),zo⟩,⟨bP (k:=3) (j:=0) rfl rfl rfl rfl (by decide) Tryd.underlying3 rfl rfl,zo⟩,⟨d7 (k:=2) (j:=1) rfl rfl rfl rfl (by decide) rfl (by decide),zo⟩,⟨bP (k:=2) (j:=1) rfl rfl rfl rfl (by decide) Tryd.underlying3 rfl rfl,zo⟩,⟨bX rfl λξ g w hB hH=>a_ c55 rfl (pz (a:=((Rn.E0 2).x 0)) (b:=((Rn.E0 2).id 1)) w hB.wf.lt),zo⟩,⟨d7 (k:=3) (j:=0) rfl rfl rfl rfl (by decide) rfl (by decide),zo⟩,⟨bP (k:=3) (j:=0) rfl rfl rfl rfl (by decide) Tryd.underlying3 rfl rfl,zo⟩,⟨d7 (k:=3) (j:=1) rfl rfl rfl rfl (by decide) rfl (by decide),zo⟩,⟨bP (k:=3) (j:=1) rfl rfl rfl rfl (by decide) Tryd.underlying3 rfl rfl,zo⟩,⟨bX rfl λξ g w hB hH=>a_ c55 rfl (pz (a:=((Rn.E0 2).x 0)) (b:=((Rn.E0 2).x 1)) w hB.wf.lt),zo⟩,⟨rr rfl rfl rfl rfl rfl,zo⟩,zo⟩ λac g w hS=> ?_;refine wp_seq ?_;refine wp_seq ?_;refine rz hS [] [0,3,6,7,8,80] [(0,eB kem),(3,eP b 0),(6,nwS 2),(7,nwS 3),(8,tfS [(dT ((Rn.E0 2).id 0) ((Rn.E0 2).x 1)),(dT ((Rn.E0 2).x 0) ((Rn.E0 2).id 1)),(dT ((Rn.E0 2).x 0) ((Rn.E0 2).x 1))]),(80,eB kem)] zo λac g w hS=> ?_;refine bA ?_;refine cr hS.f.frm rfl (λh=> ?_) (λh=> ?_)
   ·have d:=h;clear h;subst d;refine rx [e1 2 [(82,eP b 0)] (tmS (kT 4 5)),⟨3,[(83,tmS (kT 4 5))],tfS [(kT 4 5)],[1],false⟩,⟨4,[(81,tfS [(dT ((Rn.E0 2).id 0) ((Rn.E0 2).x 1)),(dT ((Rn.E0 2).x 0) ((Rn.E0 2).id 1)),(dT ((Rn.E0 2).x 0) ((Rn.E0 2).x 1))]),(84,tfS [(kT 4 5)])],tlS ([dT ((Rn.E0 2).id 0) ((Rn.E0 2).x 1),dT ((Rn.E0 2).x 0) ((Rn.E0 2).id 1),dT ((Rn.E0 2).x 0) ((Rn.E0 2).x 1)]++[kT 4 5]),[1],false⟩] [0,3,6,7,8] (Bl [stB (bS b (Rn.E0 2)) [(0,bB),(0,bB),(56,agS (cxV [vI ((Rn.E0 2).id 0),vI ((Rn.E0 2).id 1)])),(56,agS (cxV [vI ((Rn.E0 2).x 0),vI ((Rn.E0 2).x 1)]))],stB (bS b ((Rn.E0 2).drawKem)) [(0,bB),(0,bB),(56,agS (cxV [vI ((Rn.E0 2).id 0),vI ((Rn.E0 2).id 1)])),(56,agS (cxV [vI ((Rn.E0 2).x 0),vI ((Rn.E0 2).x 1)]))]]) 1 [(0,eqS vt),(3,eP b 0),(6,nwS 2),(7,nwS 3),(8,tlS ([dT ((Rn.E0 2).id 0) ((Rn.E0 2).x 1),dT ((Rn.E0 2).x 0) ((Rn.E0 2).id 1),dT ((Rn.E0 2).x 0) ((Rn.E0 2).x 1)]++[kT 4 5]))] ⟨⟨dA (post:=λX w v=>TmIs w X (kT 4 5) v) rfl rfl (λ_ _ _ h=>h) λξ g w hw hr hH=>a_ c56 rfl (sa (r:=Rn.E0 2) w hw.lt hr (by decide) (by decide)),zo⟩,⟨de rfl rfl rfl,zo⟩,⟨rA (ts:=[dT ((Rn.E0 2).id 0) ((Rn.E0 2).x 1),dT ((Rn.E0 2).x 0) ((Rn.E0 2).id 1),dT ((Rn.E0 2).x 0) ((Rn.E0 2).x 1)]) (us:=[kT 4 5]) rfl rfl rfl rfl (by decide) (by decide),zo⟩,zo⟩ hS rfl λac g w hS=> ?_;refine wp_seq ?_;refine rx [e0 2 [(6,nwS 2)] (nwO 2 0),e0 3 [(88,nwO 2 0)] (eI ((Rn.E0 2).id 0)),e0 4 [(7,nwS 3)] (nwO 3 1),e0 5 [(90,nwO 3 1)] (eI ((Rn.E0 2).x 1)),e0 6 [(89,eI ((Rn.E0 2).id 0)),(91,eI ((Rn.E0 2).x 1))] (agS (cxV [vI ((Rn.E0 2).id 0),vI ((Rn.E0 2).x 1)])),e0 7 [(7,nwS 3)] (nwO 3 0),e0 8 [(93,nwO 3 0)] (eI ((Rn.E0 2).x 0)),e0 9 [(6,nwS 2)] (nwO 2 1),e0 10 [(95,nwO 2 1)] (eI ((Rn.E0 2).id 1)),e0 11 [(94,eI ((Rn.E0 2).x 0)),(96,eI ((Rn.E0 2).id 1))] (agS (cxV [vI ((Rn.E0 2).x 0),vI ((Rn.E0 2).id 1)])),e0 12 [(7,nwS 3)] (nwO 3 0),e0 13 [(98,nwO 3 0)] (eI ((Rn.E0 2).x 0)),e0 14 [(7,nwS 3)] (nwO 3 1),e0 15 [(100,nwO 3 1)] (eI ((Rn.E0 2).x 1)),e0 16 [(99,eI ((Rn.E0 2).x 0)),(101,eI ((Rn.E0 2).x 1))] (agS (cxV [vI ((Rn.E0 2).x 0),vI ((Rn.E0 2).x 1)])),e0 17 [(92,agS (cxV [vI ((Rn.E0 2).id 0),vI ((Rn.E0 2).x 1)])),(97,agS (cxV [vI ((Rn.E0 2).x 0),vI ((Rn.E0 2).id 1)])),(102,agS (cxV [vI ((Rn.E0 2).x 0),vI ((Rn.E0 2).x 1)]))] (slS (cxV [vI ((Rn.E0 2).id 0),vI ((Rn.E0 2).x 1),vI ((Rn.E0 2).x 0),vI ((Rn.E0 2).id 1),vI ((Rn.E0 2).x 0),vI ((Rn.E0 2).x 1)]) 3),e0 19 [(103,slS (cxV [vI ((Rn.E0 2).id 0),vI ((Rn.E0 2).x 1),vI ((Rn.E0 2).x 0),vI ((Rn.E0 2).id 1),vI ((Rn.E0 2).x 0),vI ((Rn.E0 2).x 1)]) 3),(104,eqS vt)] (agS (cxE ⟨[(((Rn.E0 2).id 0),((Rn.E0 2).x 1)),(((Rn.E0 2).x 0),((Rn.E0 2).id 1)),(((Rn.E0 2).x 0),((Rn.E0 2).x 1))],true,false⟩)),e1 20 [(86,eP b 0),(87,tlS ([dT ((Rn.E0 2).id 0) ((Rn.E0 2).x 1),dT ((Rn.E0 2).x 0) ((Rn.E0 2).id 1),dT ((Rn.E0 2).x 0) ((Rn.E0 2).x 1)]++[kT 4 5])),(105,agS (cxE ⟨[(((Rn.E0 2).id 0),((Rn.E0 2).x 1)),(((Rn.E0 2).x 0),((Rn.E0 2).id 1)),(((Rn.E0 2).x 0),((Rn.E0 2).x 1))],true,false⟩))] bB] [0,3] (Bl [stB (bS b ((Rn.E0 2).drawKem)) [(0,bB),(0,bB),(56,agS (cxV [vI ((Rn.E0 2).id 0),vI ((Rn.E0 2).id 1)])),(56,agS (cxV [vI ((Rn.E0 2).x 0),vI ((Rn.E0 2).x 1)]))],stB (bS b (Rn.new true)) [(0,bB),(0,bB),(56,agS (cxV [vI ((Rn.E0 2).id 0),vI ((Rn.E0 2).id 1)])),(56,agS (cxV [vI ((Rn.E0 2).x 0),vI ((Rn.E0 2).x 1)]))]]) 1 [(0,eqS vt),(3,eP b 0)] ⟨⟨d7 (k:=2) (j:=0) rfl rfl rfl rfl (by decide) rfl (by decide),zo⟩,⟨bP (k:=2) (j:=0) rfl rfl rfl rfl (by decide) Tryd.underlying3 rfl rfl,zo⟩,⟨d7 (k:=3) (j:=1) rfl rfl rfl rfl (by decide) rfl (by decide),zo⟩,⟨bP (k:=3) (j:=1) rfl rfl rfl rfl (by decide) Tryd.underlying3 rfl rfl,zo⟩,⟨d_ rfl rfl rfl,zo⟩,⟨d7 (k:=3) (j:=0) rfl rfl rfl rfl (by decide) rfl (by decide),zo⟩,⟨bP (k:=3) (j:=0) rfl rfl rfl rfl (by decide) Tryd.underlying3 rfl rfl,zo⟩,⟨d7 (k:=2) (j:=1) rfl rfl rfl rfl (by decide) rfl (by decide),zo⟩,⟨bP (k:=2) (j:=1) rfl rfl rfl rfl (by decide) Tryd.underlying3 rfl rfl,zo⟩,⟨d_ rfl rfl rfl,zo⟩,⟨d7 (k:=3) (j:=0) rfl rfl rfl rfl (by decide) rfl (by decide),zo⟩,⟨bP (k:=3) (j:=0) rfl rfl rfl rfl (by decide) Tryd.underlying3 rfl rfl,zo⟩,⟨d7 (k:=3) (j:=1) rfl rfl rfl rfl (by decide) rfl (by decide),zo⟩,⟨bP (k:=3) (j:=1) rfl rfl rfl rfl (by decide) Tryd.underlying3 rfl rfl,zo⟩,⟨d_ rfl rfl rfl,zo⟩,⟨o8 rfl rfl rfl rfl rfl,zo⟩,⟨o9 rfl rfl rfl rfl,zo⟩,⟨dA (post:=λ_ _ _=>True) rfl rfl (λ_ _ _ h=>h) λξ g w hw hr hH=>a_ c57 rfl (iI (r:=(Rn.E0 2).drawKem) (k:=0) w hw.lt hr (by simp [Rn.inp0]) (by decide) (by decide) (TlIs.gen (hH 87 _ rfl)) (hH 105 _ rfl)),zo⟩,zo⟩ hS rfl λac g w hS=> ?_;refine wp_seq ?_;refine rz hS [] [0,2,3] [(0,eqS vt),(2,eP b 0),(3,eP b 0)] zo λac g w hS=> ?_;refine wp_ret ?_;exact bv hS.f.frm (bw Tryd.results25 (RV.tmp hS.f.frm rfl)) (pf hS)
   ·have d:=h;clear h;subst d;refine wp_skip ?_;refine wp_seq ?_;refine rx [e0 2 [(6,nwS 2)] (nwO 2 0),e0 3 [(88,nwO 2 0)] (eI ((Rn.E0 2).id 0)),e0 4 [(7,nwS 3)] (nwO 3 1),e0 5 [(90,nwO 3 1)] (eI ((Rn.E0 2).x 1)),e0 6 [(89,eI ((Rn.E0 2).id 0)),(91,eI ((Rn.E0 2).x 1))] (agS (cxV [vI ((Rn.E0 2).id 0),vI ((Rn.E0 2).x 1)])),e0 7 [(7,nwS 3)] (nwO 3 0),e0 8 [(93,nwO 3 0)] (eI ((Rn.E0 2).x 0)),e0 9 [(6,nwS 2)] (nwO 2 1),e0 10 [(95,nwO 2 1)] (eI ((Rn.E0 2).id 1)),e0 11 [(94,eI ((Rn.E0 2).x 0)),(96,eI ((Rn.E0 2).id 1))] (agS (cxV [vI ((Rn.E0 2).x 0),vI ((Rn.E0 2).id 1)])),e0 12 [(7,nwS 3)] (nwO 3 0),e0 13 [(98,nwO 3 0)] (eI ((Rn.E0 2).x 0)),e0 14 [(7,nwS 3)] (nwO 3 1),e0 15 [(100,nwO 3 1)] (eI ((Rn.E0 2).x 1)),e0 16 [(99,eI ((Rn.E0 2).x 0)),(101,eI ((Rn.E0 2).x 1))] (agS (cxV [vI ((Rn.E0 2).x 0),vI ((Rn.E0 2).x 1)])),e0 17 [(92,agS (cxV [vI ((Rn.E0 2).id 0),vI ((Rn.E0 2).x 1)])),(97,agS (cxV [vI ((Rn.E0 2).x 0),vI ((Rn.E0 2).id 1)])),(102,agS (cxV [vI ((Rn.E0 2).x 0),vI ((Rn.E0 2).x 1)]))] (slS (cxV [vI ((Rn.E0 2).id 0),vI ((Rn.E0 2).x 1),vI ((Rn.E0 2).x 0),vI ((Rn.E0 2).id 1),vI ((Rn.E0 2).x 0),vI ((Rn.E0 2).x 1)]) 3),e0 19 [(103,slS (cxV [vI ((Rn.E0 2).id 0),vI ((Rn.E0 2).x 1),vI ((Rn.E0 2).x 0),vI ((Rn.E0 2).id 1),vI ((Rn.E0 2).x 0),vI ((Rn.E0 2).x 1)]) 3),(104,eqS vf)] (agS (cxE ⟨[(((Rn.E0 2).id 0),((Rn.E0 2).x 1)),(((Rn.E0 2).x 0),((Rn.E0 2).id 1)),(((Rn.E0 2).x 0),((Rn.E0 2).x 1))],false,false⟩)),e1 20 [(86,eP b 0),(87,tfS [(dT ((Rn.E0 2).id 0) ((Rn.E0 2).x 1)),(dT ((Rn.E0 2).x 0) ((Rn.E0 2).id 1)),(dT ((Rn.E0 2).x 0) ((Rn.E0 2).x 1))]),(105,agS (cxE ⟨[(((Rn.E0 2).id 0),((Rn.E0 2).x 1)),(((Rn.E0 2).x 0),((Rn.E0 2).id 1)),(((Rn.E0 2).x 0),((Rn.E0 2).x 1))],false,false⟩))] bB] [0,3] (Bl [stB (bS b (Rn.E0 2)) [(0,bB),(0,bB),(56,agS (cxV [vI ((Rn.E0 2).id 0),vI ((Rn.E0 2).id 1)])),(56,agS (cxV [vI ((Rn.E0 2).x 0),vI ((Rn.E0 2).x 1)]))],stB (bS b (Rn.new false)) [(0,bB),(0,bB),(56,agS (cxV [vI ((Rn.E0 2).id 0),vI ((Rn.E0 2).id 1)])),(56,agS (cxV [vI ((Rn.E0 2).x 0),vI ((Rn.E0 2).x 1)]))]]) 1 [(0,eqS vf),(3,eP b 0)] ⟨⟨d7 (k:=2) (j:=0) rfl rfl rfl rfl (by decide) rfl (by decide),zo⟩,⟨bP (k:=2) (j:=0) rfl rfl rfl rfl (by decide) Tryd.underlying3 rfl rfl,zo⟩,⟨d7 (k:=3) (j:=1) rfl rfl rfl rfl (by decide) rfl (by decide),zo⟩,⟨bP (k:=3) (j:=1) rfl rfl rfl rfl (by decide) Tryd.underlying3 rfl rfl,zo⟩,⟨d_ rfl rfl rfl,zo⟩,⟨d7 (k:=3) (j:=0) rfl rfl rfl rfl (by decide) rfl (by decide),zo⟩,⟨bP (k:=3) (j:=0) rfl rfl rfl rfl (by decide) Tryd.underlying3 rfl rfl,zo⟩,⟨d7 (k:=2) (j:=1) rfl rfl rfl rfl (by decide) rfl (by decide),zo⟩,⟨bP (k:=2) (j:=1) rfl rfl rfl rfl (by decide) Tryd.underlying3 rfl rfl,zo⟩,⟨d_ rfl rfl rfl,zo⟩,⟨d7 (k:=3) (j:=0) rfl rfl rfl rfl (by decide) rfl (by decide),zo⟩,⟨bP (k:=3) (j:=0) rfl rfl rfl rfl (by decide) Tryd.underlying3 rfl rfl,zo⟩,⟨d7 (k:=3) (j:=1) rfl rfl rfl rfl (by decide) rfl (by decide),zo⟩,⟨bP (k:=3) (j:=1) rfl rfl rfl rfl (by decide) Tryd.underlying3 rfl rfl,zo⟩,⟨d_ rfl rfl rfl,zo⟩,⟨o8 rfl rfl rfl rfl rfl,zo⟩,⟨o9 rfl rfl rfl rfl,zo⟩,⟨dA (post:=λ_ _ _=>True) rfl rfl (λ_ _ _ h=>h) λξ g w hw hr hH=>a_ c57 rfl (iI (r:=(Rn.E0 2)) (k:=0) w hw.lt hr (by simp [Rn.inp0]) (by decide) (by decide) (TlIs.gen (hH 87 _ rfl)) (hH 105 _ rfl)),zo⟩,zo⟩ hS rfl λac g w hS=> ?_;refine wp_seq ?_;refine rz hS [] [0,2,3] [(0,eqS vf),(2,eP b 0),(3,eP b 0)] zo λac g w hS=> ?_;refine wp_ret ?_;exact bv hS.f.frm (bw Tryd.results25 (RV.tmp hS.f.frm rfl)) (pf hS)
end Go.Mi.Term
namespace Go.Mi.Term
open Go.Mi Go.Proofs Go.RowKit
structure Good (r:Rn):Prop where
 inv:∃G rv S cl pos,Inv r G rv S cl pos
 sz:Sz r r.acts
 ac:r.acts<=60
theorem Good.new (kem:Bool):Good (Rn.new kem):=by
 have e:(Rn.new kem).acts=0:=by cases kem<;>rfl
 exact⟨⟨_,_,_,_,_,Inv.new kem⟩,by rw[e];exact Sz.new kem,by rw[e];decide⟩
theorem Good.small {r:Rn} (h:Good r):fD r:=by have s:=h.sz;have ha:=h.ac;exact⟨s.ne.1,by have :=s.ne;omega,by have :=s.nm;omega,by have :=s.nk;omega,by have :=s.nq;omega,by have :=s.nb;omega,λj=>by have :=s.ix j;omega,λk=>by have :=s.tm k;omega,by omega⟩
theorem Rn.doAct_eq (r:Rn) (kind who:Int) (kem:Bool):(r.refuses kind who=true/\r.doAct kind who kem=r)\/(r.refuses kind who=false/\r.acts<60/\((∃j:Nat,who=j/\j<2/\kind=1/\r.doAct kind who kem=r.count.send j)\/(∃j:Nat,who=j/\j<2/\kind=2/\r.doAct kind who kem=r.count.turn j kem)\/(∃j:Nat,who=j/\j<2/\kind=3/\r.doAct kind who kem=r.count.reveal j)\/(kind=4/\r.doAct kind who kem={r.count with dh:=true})\/(kind=5/\r.doAct kind who kem={r.count with kem:=true}))):=by
 unfold Rn.doAct;cases hr:r.refuses kind who with
 |true=>exact .inl ⟨rfl,zX rfl⟩
 |false=>
  refine .inr ⟨rfl,?_⟩;rw[zK (by simp)];simp only[Rn.refuses,AJ,decide_eq_false_iff_not,Ay]at hr;obtain⟨⟨⟨h1,h2⟩,h3⟩,h4⟩:=hr;refine⟨by omega,?_⟩;have hj:kind<=3->∃j:Nat,who=j/\j<2:=λhk=>by
   rcases h3 with h3|h3
   ·exact absurd hk h3
   ·exact⟨who.toNat,by omega,by omega⟩
  unfold Rn.act;by_cases e1:kind=1
  ·obtain⟨j,h5,h6⟩:=hj (by omega);exact .inl ⟨j,h5,h6,e1,by rw[zX e1,h5];simp⟩
  by_cases e2:kind=2
  ·obtain⟨j,h5,h6⟩:=hj (by omega);exact .inr (.inl ⟨j,h5,h6,e2,by rw[zK e1,zX e2,h5];simp⟩)
  by_cases e3:kind=3
  ·obtain⟨j,h5,h6⟩:=hj (by omega);exact .inr (.inr (.inl ⟨j,h5,h6,e3,by rw[zK e1,zK e2,zX e3,h5];simp⟩))
  by_cases e4:kind=4
  ·exact .inr (.inr (.inr (.inl ⟨e4,by rw[zK e1,zK e2,zK e3,zX e4]⟩)))
  ·exact .inr (.inr (.inr (.inr ⟨by omega,by rw[zK e1,zK e2,zK e3,zK e4]⟩)))
theorem Good.doAct {r:Rn} (h:Good r) (kind who:Int) (kem:Bool):Good (r.doAct kind who kem):=by
 obtain⟨G,rv,S,cl,pos,hi⟩:=h.inv;have hz:=h.sz;have hn:=hz.nm;have hic:Inv r.count G rv S cl pos:=hi.world _ _ _;have hzc:Sz r.count r.acts:=hz.world _ _ _;rcases r.doAct_eq kind who kem with⟨_,e⟩|⟨_,ha,⟨j,_,hj,_,e⟩|⟨j,_,hj,_,e⟩|⟨j,_,hj,_,e⟩|⟨_,e⟩|⟨_,e⟩⟩
 ·rw[e];exact h
 ·rw[e];exact⟨⟨_,_,_,_,_,hic.send hj (by show r.names<1000000;omega)⟩,hzc.send (by omega) hj,ha⟩
 ·rw[e];obtain⟨G',cl',k⟩:=hic.turn hj kem (by show r.names<900000;omega);have ea:(r.count.turn j kem).acts=r.acts+1:=by cases kem<;>rfl
  exact⟨⟨_,_,_,_,_,k⟩,by rw[ea];exact hzc.turn (by omega) kem,by rw[ea];exact ha⟩
 ·rw[e];obtain⟨G',rv',k⟩:=hic.reveal hj;exact⟨⟨_,_,_,_,_,k⟩,hzc.reveal (by omega),ha⟩
 ·rw[e];exact⟨⟨_,_,_,_,_,hic.world _ _ _⟩,hzc.mono.world _ _ _,ha⟩
 ·rw[e];exact⟨⟨_,_,_,_,_,hic.world _ _ _⟩,hzc.mono.world _ _ _,ha⟩
theorem Fine.may {m c:Nat} {t:Tm} (h:Fine m c t) (h1:m<100) (h2:c<=5000):may t=true:=wo (zy h.nd h2) (h.sh 0 (by omega))
theorem Good.kn {r:Rn} (h:Good r):Kn r.known=λt=>t∈r.known:=by have ha:=h.ac;funext u;refine propext ⟨?_,λhu=>⟨u,hu,(h.sz.kn u hu).may (by omega) (by omega),(h.sz.kn u hu).nm.symm⟩⟩;rintro⟨v,hv,_,rfl⟩;rw[(h.sz.kn v hv).nm];exact hv
theorem Good.key {r:Rn} (h:Good r) {j:Nat} {e:Ky} (he:r.keys[j]? =some e):r.open? e.t↔r.cleanB j=false:=by obtain⟨G,rv,S,cl,pos,hi⟩:=h.inv;obtain⟨s,e',_,h2,_,h3,_⟩:=hi.law (dN he);rw[he]at h2;cases h2;have ha:=h.ac;have hf:=h.sz.ky e (zC he);unfold Rn.open?;rw[h.kn,hf.nm,<-h3];exact⟨λk=>k.2,λk=>⟨hf.may (by omega) (by omega),k⟩⟩
theorem Good.der {r:Rn} (h:Good r) (k:Int):r.derP k↔(0<=k/\k<r.keys.length)/\r.cleanZ k=false:=by
 unfold Rn.derP Rn.cleanZ;constructor
 ·rintro⟨j,e,rfl,h1,h2⟩;have :=dN h1;have hh:(0:Int)<=(j:Int)/\(j:Int)<r.keys.length:=by omega
  exact⟨hh,by rw[zX hh];simpa using(h.key h1).1 h2⟩
 ·rintro⟨h1,h2⟩;rw[zX h1]at h2;have hj:k.toNat<r.keys.length:=by omega
  exact⟨k.toNat,_,by omega,zp hj,(h.key (zp hj)).2 h2⟩
theorem Good.pre {r:Rn} (h:Good r):0<r.eps.length/\(∀k,0<=itl r.rvd k/\itl r.rvd k<=700001)/\(∀e∈r.eps,e.dhs.length<=1000000)/\r.eps.length<=1000000/\r.behind.length=r.keys.length/\∀e∈r.keys,e.ep<r.eps.length:=by obtain⟨G,rv,S,cl,pos,hi⟩:=h.inv;have s:=h.small;refine⟨s.h0,λk=>by have :=s.hm k;omega,λe he=>by have :=h.sz.dl e he;omega,by have :=s.h1;omega,by rw[hi.bln,hi.len],λe he=> ?_⟩;obtain⟨j,hj⟩:=An.1 he;obtain⟨s,e',_,h2,h3,_,_,h6,_⟩:=hi.at (dN hj);rw[hj]at h2;cases h2;omega
def vd (b:Nat) (r':Rn) (Y F:List Nat) (w0:World) (val:Value) (v:Value) (w':World):Prop:=v=val/\∃F',Ch F w0 w'/\(∀x,x∈F'->x∈F\/w0.heap.size<=x)/\RunIs b r' F' (F'++Y) w'
theorem u7 {b:Nat} {r:Rn} {F Y:List Nat} {kd wh:Int} {c:Bool} (hg:Good r) (w0:World) (hX:∀x,x∈F++Y->x<w0.heap.size) (hr:RunIs b r F (F++Y) w0):Calls Tryd.prog 27 (List.toArray [vp b,.agg #[vI kd,vI wh,.bool c]]) w0 (Ret (vd b (r.doAct kd wh c) Y F w0 (vI (if r.refuses kd wh then 1 else 0)))):=by
 have hs:=hg.small;have a:∀{r':Rn} {n:Int},r.doAct kd wh c=r'->(if r.refuses kd wh then(1:Int)else 0)=n->Calls Tryd.prog 27 (List.toArray [vp b,.agg #[vI kd,vI wh,.bool c]]) w0 (Ret (da b r' Y F w0 (λ_ _ v=>v=vI n)))->Calls Tryd.prog 27 (List.toArray [vp b,.agg #[vI kd,vI wh,.bool c]]) w0 (Ret (vd b (r.doAct kd wh c) Y F w0 (vI (if r.refuses kd wh then 1 else 0)))):=by intro r' n e1 e2 h;refine h.mono λen w' he=> ?_;obtain⟨v,h1,F',h2,h3,h4,h5⟩:=he;exact⟨v,h1,by rw[e2];exact h5,F',h2,h3,by rw[e1];exact h4⟩
 rcases r.doAct_eq kd wh c with⟨hf,e⟩|⟨hf,ha,⟨j,hw,hj,hk,e⟩|⟨j,hw,hj,hk,e⟩|⟨j,hw,hj,hk,e⟩|⟨hk,e⟩|⟨hk,e⟩⟩
 ·have e2:(if r.refuses kd wh then(1:Int)else 0)=1:=by rw[hf];rfl
  simp only[Rn.refuses,z8,zU,zD]at hf;by_cases h1:kd<1
  ·exact a e e2 (y9 w0 hX hr hs h1)
  by_cases h2:5<kd
  ·exact a e e2 (y8 w0 hX hr hs h2)
  by_cases h3:kd<=3
  ·by_cases h4:wh<0
   ·exact a e e2 (y7 w0 hX hr hs (by omega) h3 h4)
   by_cases h5:2<=wh
   ·exact a e e2 (y6 w0 hX hr hs (by omega) h3 h5)
   ·exact a e e2 (y5 w0 hX hr hs (by omega) h3 (by omega) (by omega) (by omega))
  ·exact a e e2 (y4 w0 hX hr hs (by omega) (by omega) (by omega))
 all_goals have e2:(if r.refuses kd wh then(1:Int)else 0)=0:=by rw[hf];rfl
 ·subst hw;subst hk;exact a e e2 (zd w0 hX hr hs hj ha (by omega))
 ·subst hw;subst hk;exact a e e2 (zc w0 hX hr hs hj ha (by omega))
 ·subst hw;subst hk;exact a e e2 (zb w0 hX hr hs hj ha (by omega))
 ·subst hk;exact a e e2 (za w0 hX hr hs ha)
 ·subst hk;exact a e e2 (y_ w0 hX hr hs ha)
end Go.Mi.Term
namespace Go.Mi.Term
open Go.Mi Go.Proofs Go.RowKit
def mu (κ:RY) (base:Nat):RX:=⟨λg w=>g.F=[]/\κ.P g w/\base<=w.heap.size/\∀y,y∈g.Y->y<base,λ⟨h1,h2,h3,h4⟩ k hc hf hy hx _=>⟨hf.trans h1,κ.st h2 k (λc hm=>⟨(hc c hm).1,(hc c hm).2.2⟩) hy hx,zy h3 k.size,by rw[hy];exact h4⟩⟩
def fS (κ:RY) (base b:Nat) (r:Rn):RX:=⟨λg w=>κ.P g w/\base<=w.heap.size/\(∀y,y∈g.Y->y<base)/\(∀x,x∈g.F->base<=x)/\RunIs b r g.F g.X w,λ{g g'} w w' C ⟨h1,h2,h3,h4,h5⟩ k hc hf hy hx hN=>⟨κ.st h1 k (λc hm=>⟨(hc c hm).1,(hc c hm).2.2⟩) hy hx,zy h2 k.size,by rw[hy];exact h3,by rw[hf];exact h4,(bS b r).st h5 k hc hf hy hx hN⟩⟩
def r7 (κ:RY) (base k:Nat) (r:Rn):RX:=⟨λg w=>∃b,g.N[k]? =some (.map (some b))/\(fS κ base b r).P g w,λ⟨b,h1,h2⟩ k hc hf hy hx hN=>⟨b,hN _ _ h1,(fS κ base b _).st h2 k hc hf hy hx hN⟩⟩
theorem SS.bornL {L:TL TT} {n t k base:Nat} {κ:RY} {r:Rn} {ns:List (Nat×Sp TT)} {g0 g:Gh} {w0 w:World} {a:Act} (h:SS L n (stB (r7 κ base k r) ns) g0 w0 a g w) (ht:lkS L t=some (ptS k)):∃b,SS ((t,eqS (vp b))::L) n (stB (fS κ base b r) ns) g0 w0 a g w:=by
 obtain⟨b,h1,h2⟩:=h.b.run;refine⟨b,h.t,⟨h.b.wf,h.b.pl,h2,h.b.nd,h.b.len,h.b.cell⟩,h.f.size,h.f.defers,λt' s hs=> ?_⟩;simp only[lkS]at hs;by_cases e:t=t'
 ·subst e;simp at hs;subst hs;obtain⟨m,h3,h4⟩:=h.f.get t _ ht;rw[h1]at h3;cases h3;exact h4
 ·rw[el e]at hs;exact h.f.get t' s hs
theorem xK (w:World):∀fs,Tryd.prog.underlying 47=some (.struct fs)->(fs.mapM λf=>(do pure (f.offset,<-sizeOf f.type):Sem (Nat×Nat))).run Tryd.prog w= .ok #[(0,1),(1,1),(2,1)] w:=by intro fs h;rw[Tryd.underlying47]at h;cases h;obtain⟨i1,h1,e1⟩:=zq.1 sz3;obtain⟨i3,h3,e3⟩:=zq.1 sz4;simp [sizeOf,typeInfo,h1,h3,e1,e3]
section
set_option maxRecDepth 100000
variable {ops:List Oper} {n:Nat} {B:Nat->BX XX} {i p b k o base:Nat} {L:TL TT} {ph:List Nat} {ρ:RX} {ns:List (Nat×Sp TT)} {ds:Option Tmp} {ty:TypeId} {pos:String} {af:Array Edge} {gu:Option (Nat×Bool)} {t:TypeId} {x y z x1 x2 x3:Operand} {κ:RY} {r:Rn}
theorem uQ {kem:Bool} {ts:Array TypeId} (hB0:B p=stB (mu κ base) ns) (hB1:B (p+1)=stB (r7 κ base ns.length (Rn.new kem)) (ns++[(0,bB)])) (hk:ns.length=k) (hop:ops.getD i default=⟨ds,.call ⟨.value (.func 25),#[x],ts⟩,t,pos,af,gu⟩) (hx:spO L x=some (eqS (.bool kem))):EOb Tryd.prog n ops XX B ⟨i,L,ptS k,ph,true⟩ p:=by
 subst hk;intro ξ g w hB hH;rw[hB0]at hB;have hB:StB (mu κ base) ns g w:=hB;show Ok1 Tryd.prog (ops.getD i default) _ _ _ _;rw[hop];obtain⟨h1,h2,h3,h4⟩:=hB.run;have a:g.N.length=ns.length:=hB.len;refine(a_ c25 (by simp only[evs,bF hx]) (wc (X:=g.X) (kem:=kem) w hB.wf.lt)).mono ?_;rintro v w' ⟨b,F,rfl,hgr,hF,hr⟩;have hX:∀x,x∈F++(g.M++g.Y)->x∈g.X\/w.heap.size<=x:=λx hx=>by
  rcases zr.1 hx with hx|hx
  ·exact .inr (hF x hx)
  ·exact .inl (by simp only[Gh.X,h1,Au];exact hx)
 obtain⟨t1,t2⟩:=hB.run' (ρ':=r7 κ base ns.length (Rn.new kem)) (g':=⟨F,g.M,g.Y,g.N++[.map (some b)]⟩) (w':=w') (l:=[.map (some b)]) (l':=[(0,bB)]) (by rw[h1];exact hgr.ch) (λx hx=> .inr (hF x hx)) (λx hx=>hr.lt x hx) rfl rfl rfl rfl (λu hu b'=>by rw[zt.1 hu];simp) (λu hu=>by rw[zt.1 hu]) ⟨b,by simp [<-a],κ.st h2 hgr.ch (by simp) rfl hX,zy h3 hgr.size,h4,λx hx=>zy h3 (hF x hx),by
  have e:g.X=g.M++g.Y:=by simp [Gh.X,h1]
  rw[e]at hr;exact hr⟩
 exact⟨_,⟨t1,by show(B (p+1)).P _ _;rw[hB1];exact t2⟩,b,by show(g.N++[_])[ns.length]? =some _;simp [<-a],rfl⟩
theorem wv {kd wh m:Int} {c:Bool} {ts:Array TypeId} (hg:Good r) (hB0:B p=stB (fS κ base b r) ns) (hB1:B (p+1)=stB (fS κ base b (r.doAct kd wh c)) ns) (hop:ops.getD i default=⟨ds,.call ⟨.value (.func 27),#[x,y],ts⟩,t,pos,af,gu⟩) (hx:spO L x=some (eqS (vp b))) (hy:spO L y=some (agS (cxV [vI kd,vI wh,.bool c]))) (hm:(if r.refuses kd wh then(1:Int)else 0)=m):EOb Tryd.prog n ops XX B ⟨i,L,eI m,ph,true⟩ p:=by
 intro ξ g w hB hH;rw[hB0]at hB;have hB:StB (fS κ base b r) ns g w:=hB;show Ok1 Tryd.prog (ops.getD i default) _ _ _ _;rw[hop];obtain⟨h1,h2,h3,h4,h5⟩:=hB.run;obtain⟨vy,e2,vs,rfl,e3⟩:=bH hy hH;obtain rfl:vs=[vI kd,vI wh,.bool c]:=e3;refine(a_ c27 (by simp only[evs,bF hx,e2]) (u7 (kd:=kd) (wh:=wh) (c:=c) hg w hB.wf.lt h5)).mono ?_;rintro v w' ⟨hv,F',k1,k2,k3⟩;have hX:∀x,x∈F'++(g.M++g.Y)->x∈g.X\/w.heap.size<=x:=λx hx=>by
  rcases zr.1 hx with hx|hx
  ·rcases k2 x hx with h|h
   ·exact .inl (by simp [Gh.X,h])
   ·exact .inr h
  ·exact .inl (by simp only[Gh.X,zr]at hx⊢;exact .inr hx)
 obtain⟨t1,t2⟩:=hB.run' (ρ':=fS κ base b (r.doAct kd wh c)) (g':=⟨F',g.M,g.Y,g.N⟩) (l:=[]) (l':=[]) k1 k2 k3.lt rfl rfl (by simp) rfl (by simp) (by simp) ⟨κ.st h1 k1 (λc hm=>⟨by simp [Gh.X,hm],λhy=>by have :=h3 c hy;have :=h4 c hm;omega⟩) rfl hX,zy h2 k1.size,h3,λx hx=>by
  rcases k2 x hx with h|h
  ·exact h4 x h
  ·omega,k3⟩
 have t2:StB (fS κ base b (r.doAct kd wh c)) ns ⟨F',g.M,g.Y,g.N⟩ w':=by simpa using t2
 exact⟨_,⟨t1,by show(B (p+1)).P _ _;rw[hB1];exact t2⟩,by rw[<-hm];exact hv⟩
theorem r6 {g:Gh}:∀x,x∈g.F->x∈g.X:=λx hx=>by simp [Gh.X,hx]
theorem o7 {kk:Int} {c:Bool} {ts:Array TypeId} (hg:Good r) (hB0:B p=stB (fS κ base b r) ns) (hop:ops.getD i default=⟨ds,.call ⟨.value (.func 28),#[x,y],ts⟩,t,pos,af,gu⟩) (hx:spO L x=some (eqS (vp b))) (hy:spO L y=some (eI kk)) (hc:r.cleanZ kk=c):EOb Tryd.prog n ops XX B ⟨i,L,eqS (.bool c),ph,false⟩ p:=fv λξ g w hB hH=>by rw[hB0]at hB;have hB:StB (fS κ base b r) ns g w:=hB;rw[hop,<-hc];obtain⟨p1,p2,p3,p4,p5,p6⟩:=hg.pre;exact a_ c28 (by simp only[evs,bF hx,bF hy]) (nJ w hB.wf.lt hB.run.2.2.2.2 r6 p1 p2 p3 p4 p5 p6)
theorem tS {kk:Int} {ts:Array TypeId} (hg:Good r) (hB0:B p=stB (fS (d6 κ dW) base b r) ns) (hop:ops.getD i default=⟨ds,.call ⟨.value (.func 29),#[x,y],ts⟩,t,pos,af,gu⟩) (hx:spO L x=some (eqS (vp b))) (hy:spO L y=some (eI kk)):EOb Tryd.prog n ops XX B ⟨i,L,eqS (.bool (decide (0<=kk/\kk<r.keys.length)&& !r.cleanZ kk)),ph,false⟩ p:=fv λξ g w hB hH=>by rw[hB0]at hB;have hB:StB (fS (d6 κ dW) base b r) ns g w:=hB;rw[hop];have s:=hg.small;refine(a_ c29 (by simp only[evs,bF hx,bF hy]) (nB (k:=kk) w hB.wf.lt hB.run.2.2.2.2 r6 s.h0 (by have :=hB.run.1.2.1;simp [Gh.X,this]) hB.run.1.2.2 (by have :=s.hk;omega))).mono ?_;rintro v w' ⟨h1,c,rfl,h2⟩;refine⟨h1,?_⟩;show Value.bool c=Value.bool _;rw[hg.der]at h2;congr 1;rw[Bool.eq_iff_iff,h2,zD,zU,Aq]
theorem uM {kk:Int} {c:Bool} {ts:Array TypeId} (hg:Good r) (hB0:B p=stB (fS (d6 κ dW) base b r) ns) (hop:ops.getD i default=⟨ds,.call ⟨.value (.func 29),#[x,y],ts⟩,t,pos,af,gu⟩) (hx:spO L x=some (eqS (vp b))) (hy:spO L y=some (eI kk)) (hc:(decide (0<=kk/\kk<r.keys.length)&& !r.cleanZ kk)=c):EOb Tryd.prog n ops XX B ⟨i,L,eqS (.bool c),ph,false⟩ p:=hc▸tS hg hB0 hop hx hy
theorem n8 {kd:Int} (hop:ops.getD i default=⟨ds,.build 47 #[(0,x1)],t,pos,af,gu⟩) (h1:spO L x1=some (eI kd)):EOb Tryd.prog n ops XX B ⟨i,L,agS (cxV [vI kd,vI 0,.bool false]),ph,false⟩ p:=bN λξ g w hB hH=>by rw[hop];have k1:=bF (ξ:=ξ) h1;exact⟨_,⟨_,rfl,rfl⟩,cM (ps:=[(0,vI kd)]) Tryd.underlying47 z47 (λw=>xK w _ Tryd.underlying47) (by simp [evp,k1]) (by simp [Instr.fill,Value.cells])⟩
theorem vZ {kd wh:Int} {c:Bool} (hop:ops.getD i default=⟨ds,.build 47 #[(0,x1),(1,x2),(2,x3)],t,pos,af,gu⟩) (h1:spO L x1=some (eI kd)) (h2:spO L x2=some (eI wh)) (h3:spO L x3=some (eqS (.bool c))):EOb Tryd.prog n ops XX B ⟨i,L,agS (cxV [vI kd,vI wh,.bool c]),ph,false⟩ p:=bN λξ g w hB hH=>by rw[hop];have k1:=bF (ξ:=ξ) h1;have k2:=bF (ξ:=ξ) h2;have k3:=bF (ξ:=ξ) h3;exact⟨_,⟨_,rfl,rfl⟩,cM (ps:=[(0,vI kd),(1,vI wh),(2,.bool c)]) Tryd.underlying47 z47 (λw=>xK w _ Tryd.underlying47) (by simp [evp,k1,k2,k3]) (by simp [Instr.fill,Value.cells])⟩
end
end Go.Mi.Term
namespace Go.Mi.Term
open Go.Mi Go.Proofs Go.RowKit
set_option maxRecDepth 100000 in
set_option maxHeartbeats 4000000 in
theorem pM {X:List Nat} (w0:World) (hX:∀x,x∈X->x<w0.heap.size) (h00:0∈X) (hT:T0 w0):Calls Tryd.prog 24 (List.toArray []) w0 (Ret λv w'=>Gr w0 w'/\v= .bool true):=by refine bY (F:=[]) (ρ:=mu (d6 noY dW) w0.heap.size) [] hX ⟨rfl,⟨zo,h00,hT⟩,zH _,hX⟩ zo Tryd.func24 rfl Tryd.ntmps24 rfl λac hS=> ?_;refine wp_seq ?_;refine rz hS [] [0] [(0,eqS vf)] zo λac g w hS=> ?_;refine wp_seq ?_;refine rx [e1 0 [] (ptS 0)] [0,1] (Bl [stB (mu (d6 noY dW) w0.heap.size) [],stB (r7 (d6 noY dW) w0.heap.size 0 (Rn.new false)) [(0,bB)]]) 1 [(0,eqS vf),(1,ptS 0)] ⟨⟨uQ rfl rfl rfl rfl rfl,zo⟩,zo⟩ hS rfl λac g w hS=> ?_;obtain⟨b,hS⟩:=hS.bornL (t:=1) rfl;refine wp_seq ?_;refine wp_seq ?_;refine rx [e0 1 [(3,eP b 0)] (eqS vf),e0 4 [(5,eqS vf)] (agS (cxV [vI 1,vI 0,.bool false])),e1 5 [(5,eqS vf),(6,eP b 0),(7,agS (cxV [vI 1,vI 0,.bool false]))] (eI 0),⟨10,[(11,eqS vf)],agS (cxV [vI 9,vI 0,.bool false]),[1],false⟩,⟨11,[(11,eqS vf),(12,eP b 0),(13,agS (cxV [vI 9,vI 0,.bool false]))],eI 1,[1],true⟩] [0,1,16] (Bl [stB (fS (d6 noY dW) w0.heap.size b (Rn.new false)) [(0,bB)],stB (fS (d6 noY dW) w0.heap.size b ((Rn.new false).doAct 1 0 false)) [(0,bB)],stB (fS (d6 noY dW) w0.heap.size b (((Rn.new false).doAct 1 0 false).doAct 9 0 false)) [(0,bB)]]) 2 [(0,eqS vf),(1,eP b 0),(16,eqS vf)] ⟨⟨rg rfl rfl rfl rfl,zo⟩,⟨n8 rfl rfl,zo⟩,⟨wv (kd:=1) (wh:=0) (c:=false) (Good.new false) rfl rfl rfl rfl rfl rfl,zo⟩,⟨n8 rfl rfl,zo⟩,⟨wv (kd:=9) (wh:=0) (c:=false) ((Good.new false).doAct 1 0 false) rfl rfl rfl rfl rfl rfl,zo⟩,zo⟩ hS rfl λac g w hS=> ?_;refine wp_cond_false (hS.f.frm.eval rfl) ?_;refine wp_skip ?_;refine wp_seq ?_;refine wp_seq ?_;refine rx [e0 1 [(17,eP b 0)] (eqS vt),e0 5 [(20,eqS vf),(21,eP b 0)] (eqS vf),e0 9 [(24,eqS vf)] (agS (cxV [vI 4,vI 0,.bool false])),e1 10 [(24,eqS vf),(25,eP b 0),(26,agS (cxV [vI 4,vI 0,.bool false]))] (eI 0)] [0,1,29] (Bl [stB (fS (d6 noY dW) w0.heap.size b (((Rn.new false).doAct 1 0 false).doAct 9 0 false)) [(0,bB)],stB (fS (d6 noY dW) w0.heap.size b ((((Rn.new false).doAct 1 0 false).doAct 9 0 false).doAct 4 0 false)) [(0,bB)]]) 1 [(0,eqS vf),(1,eP b 0),(29,eqS vf)] ⟨⟨o7 (((Good.new false).doAct 1 0 false).doAct 9 0 false) rfl rfl rfl rfl (by kernel_rfl),zo⟩,⟨uM (((Good.new false).doAct 1 0 false).doAct 9 0 false) rfl rfl rfl rfl (by kernel_rfl),zo⟩,⟨n8 rfl rfl,zo⟩,⟨wv (kd:=4) (wh:=0) (c:=false) (((Good.new false).doAct 1 0 false).doAct 9 0 false) rfl rfl rfl rfl rfl rfl,zo⟩,zo⟩ hS rfl λac g w hS=> ?_;refine wp_cond_false (hS.f.frm.eval rfl) ?_;refine wp_skip ?_;refine wp_seq ?_;refine rz hS [e0 1 [(30,eP b 0)] (eqS vf),e0 5 [(33,eqS vt),(34,eP b 0)] (eqS vt)] [0] [(0,eqS vt)] ⟨⟨o7 ((((Good.new false).doAct 1 0 false).doAct 9 0 false).doAct 4 0 false) rfl rfl rfl rfl (by kernel_rfl),zo⟩,⟨uM ((((Good.new false).doAct 1 0 false).doAct 9 0 false).doAct 4 0 false) rfl rfl rfl rfl (by kernel_rfl),zo⟩,zo⟩ λac g w hS=> ?_;refine wp_ret ?_;exact bv hS.f.frm (bw Tryd.results24 (RV.tmp hS.f.frm rfl)) ⟨hS.gr0,rfl⟩
end Go.Mi.Term
namespace Go.Mi.Term
open Go.Mi Go.Proofs Go.RowKit
end Go.Mi.Term
namespace Go.Mi.Term
open Go.Mi Go.Proofs Go.RowKit
end Go.Mi.Term
namespace Go.Mi.Term
open Go.Mi Go.Proofs Go.RowKit
def hl1 (kem:Bool) (j:Nat):Rn:=(Rn.new kem).doAct 2 (j:Nat) false
def hl2 (kem:Bool) (j:Nat):Rn:=(hl1 kem j).doAct 2 ((1-j:Nat):Int) false
def hl3 (kem:Bool) (j:Nat):Rn:=(hl2 kem j).doAct 1 (j:Nat) false
def hl4 (kem:Bool) (j:Nat):Rn:=(hl3 kem j).doAct 3 (j:Nat) false
def hl5 (kem:Bool) (j:Nat):Rn:=(hl4 kem j).doAct 1 (j:Nat) false
def hq (kem:Bool) (j:Nat):Nat->Rn
 |0=>(hl5 kem j).doAct 2 (j:Nat) false
 |i+1=>(hq kem j i).doAct 1 ((i:Int)%2) false
theorem g1 (kem:Bool) (j:Nat):Good (hl1 kem j):=(Good.new kem).doAct _ _ _
theorem g2 (kem:Bool) (j:Nat):Good (hl2 kem j):=(g1 kem j).doAct _ _ _
theorem g3 (kem:Bool) (j:Nat):Good (hl3 kem j):=(g2 kem j).doAct _ _ _
theorem g4 (kem:Bool) (j:Nat):Good (hl4 kem j):=(g3 kem j).doAct _ _ _
section
set_option maxRecDepth 100000
variable {ops:List Oper} {n:Nat} {B:Nat->BX XX} {i p b k o base:Nat} {L:TL TT} {ph:List Nat} {ρ:RX} {ns:List (Nat×Sp TT)} {ds:Option Tmp} {ty:TypeId} {pos:String} {af:Array Edge} {gu:Option (Nat×Bool)} {t:TypeId} {x y z:Operand} {κ:RY} {r:Rn}
theorem vY {ts:Array TypeId} (hB0:B p=stB (mu (d6 κ dW) base) ns) (hop:ops.getD i default=⟨ds,.call ⟨.value (.func 24),#[],ts⟩,t,pos,af,gu⟩):EOb Tryd.prog n ops XX B ⟨i,L,eqS (.bool true),ph,false⟩ p:=fv λξ g w hB hH=>by rw[hB0]at hB;have hB:StB (mu (d6 κ dW) base) ns g w:=hB;rw[hop];exact a_ c24 rfl (pM w hB.wf.lt (by have :=hB.run.2.1.2.1;simp [Gh.X,this]) hB.run.2.1.2.2)
end
end Go.Mi.Term
namespace Go.Mi.Term
open Go.Mi Go.Proofs Go.RowKit
end Go.Mi.Term
namespace Go.Mi.Term
open Go.Mi Go.Proofs Go.RowKit
end Go.Mi.Term
