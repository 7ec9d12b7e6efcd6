/- Texts that belong together: Y1, H21, Y2. General lemmas and walks; no conditions. -/
import Derived.Test.YtoefhjabaanokaaDoorE1
import Derived.Test.YtoefhjabaanokaaDoorD2
import Derived.Lib.AppendZerosOnto
set_option linter.unusedSimpArgs false
set_option linter.unusedVariables false
set_option linter.unnecessarySimpa false
namespace Go.Mi.Term
open Go.Mi Go.Proofs Go.RowKit
theorem uZ {a b:Int}:Instr.fill ((#[(0,1),(1,1),(2,1)]:Array (Nat×Nat))[·]?) (Value.agg #[.int .i64 0,.int .i64 0,.slice none 0 0]).cells [(0,.int .i64 a),(1,.int .i64 b)]=some #[.int .i64 a,.int .i64 b,.slice none 0 0]:=by simp [Instr.fill,Value.cells]
theorem px {a:Int} {ad:Option Addr} {l c:Nat}:Instr.fill ((#[(0,1),(1,1),(2,1)]:Array (Nat×Nat))[·]?) (Value.agg #[.int .i64 0,.int .i64 0,.slice none 0 0]).cells [(0,.int .i64 a),(2,.slice ad l c)]=some #[.int .i64 a,.int .i64 0,.slice ad l c]:=by simp [Instr.fill,Value.cells]
theorem TlIs.tm {w:World} {X:List Nat} {f:Bool} {ts:List Tm} {v:Value} (h:TlIs w X f ts v) (k:Int):∃ad l c,v= .slice ad l c/\IsT w X (.mk k 0 ts) [.int .i64 k,.int .i64 0,.slice ad l c]:=by obtain⟨b,o,cap,xs,rfl,_,h1,h2,h3,h4⟩:=h;refine⟨_,_,_,rfl,?_⟩;simp only[IsT];exact⟨_,xs,rfl,.inr ⟨b,o,cap,rfl,h1,h2,h3⟩,h4⟩
set_option maxRecDepth 100000 in
set_option maxHeartbeats 4000000 in
theorem fp {X:List Nat} {a:Nat} (w0:World) (hX:∀x,x∈X->x<w0.heap.size):Calls Tryd.prog 86 (List.toArray [.int .i64 a]) w0 (Ret λv w'=>Gr w0 w'/\TmIs w' X (aT a) v):=by refine dI [eI a] hX ⟨rfl,zo⟩ Tryd.func86 rfl Tryd.ntmps86 rfl λac hS=> ?_;refine wp_seq ?_;refine rx [e1 0 [] (nwS 0)] [0,2] (Bl [stB noR [],stB noR [(26,cH 3)]]) 1 [(0,eI a),(2,nwS 0)] ⟨⟨cC rfl rfl rfl z26 rfl rfl,zo⟩,zo⟩ hS rfl λac g w hS=> ?_;refine wp_seq ?_;refine rx [e0 1 [(3,eI a)] (tmS (aT a)),e1 2 [(2,nwS 0),(4,tmS (aT a))] bB] [2] (Bl [stB noR [(26,cH 3)],stB noR [(26,tmS (aT a))]]) 1 [(2,nwS 0)] ⟨⟨bN λξ g w hB hH=>⟨_,⟨_,_,_,rfl,np _ _ _⟩,cM u26 z26 (λw=>qg w _ u26) rfl uZ⟩,zo⟩,⟨cB (k:=0) (m:=3) rfl rfl rfl rfl rfl rfl (by decide) b6 (cf 3) (bT _),zo⟩,zo⟩ hS rfl λac g w hS=> ?_;refine wp_ret ?_;obtain⟨v0,hv0,ht0⟩:=hS.rv (x:=2) (k:=0) (m:=3) (ty:=26) rfl rfl (by decide) u26 rfl b6 (bT _).sized;exact bv hS.f.frm (bw Tryd.results86 hv0) ⟨hS.gr0,ht0.sub hS.sub0⟩
set_option maxRecDepth 100000 in
set_option maxHeartbeats 4000000 in
theorem eO {X:List Nat} {k:Int} {f:Bool} {ts:List Tm} {v:Value} (w0:World) (hX:∀x,x∈X->x<w0.heap.size) (h:TlIs w0 X f ts v):Calls Tryd.prog 87 (List.toArray [.int .i64 k,v]) w0 (Ret λv w'=>Gr w0 w'/\TmIs w' X (.mk k 0 ts) v):=by
 refine dI [eI k,tlS ts] hX ⟨rfl,h.gen,zo⟩ Tryd.func87 rfl Tryd.ntmps87 rfl λac hS=> ?_;refine wp_seq ?_;refine rx [e1 0 [] (nwS 0)] [0,1,4] (Bl [stB noR [],stB noR [(26,cH 3)]]) 1 [(0,eI k),(1,tlS ts),(4,nwS 0)] ⟨⟨cC rfl rfl rfl z26 rfl rfl,zo⟩,zo⟩ hS rfl λac g w hS=> ?_;refine wp_seq ?_;refine rx [e0 2 [(5,eI k),(6,tlS ts)] (tmS (.mk k 0 ts)),e1 3 [(4,nwS 0),(7,tmS (.mk k 0 ts))] bB] [4] (Bl [stB noR [(26,cH 3)],stB noR [(26,tmS (.mk k 0 ts))]]) 1 [(4,nwS 0)] ⟨⟨bN λξ g w hB hH=>by
  obtain⟨ad,l,c,e,hT⟩:=TlIs.tm (hH 6 _ rfl) k;refine⟨_,⟨_,_,_,rfl,hT⟩,cM (ps:=[(0,.int .i64 k),(2,.slice ad l c)]) u26 z26 (λw=>qg w _ u26) ?_ px⟩;rw[<-e];rfl,zo⟩,⟨cB (k:=0) (m:=3) rfl rfl rfl rfl rfl rfl (by decide) b6 (cf 3) (bT _),zo⟩,zo⟩ hS rfl λac g w hS=> ?_
 refine wp_ret ?_;obtain⟨v0,b,a⟩:=hS.rv (x:=4) (k:=0) (m:=3) (ty:=26) rfl rfl (by decide) u26 rfl b6 (bT _).sized;exact bv hS.f.frm (bw Tryd.results87 b) ⟨hS.gr0,a.sub hS.sub0⟩
set_option maxRecDepth 100000 in
set_option maxHeartbeats 4000000 in
theorem qA {X:List Nat} {k:Nat} (w0:World) (hX:∀x,x∈X->x<w0.heap.size) (hk:k<=1000):Calls Tryd.prog 52 (List.toArray [.int .i64 k]) w0 (Ret λv w'=>Gr w0 w'/\TmIs w' X (cT k) v):=by refine dI [eI k] hX ⟨rfl,zo⟩ Tryd.func52 rfl Tryd.ntmps52 rfl λac hS=> ?_;refine wp_seq ?_;refine rx [e1 0 [] (nwS 0)] [0,2] (Bl [stB noR [],stB noR [(26,cH 3)]]) 1 [(0,eI k),(2,nwS 0)] ⟨⟨cC rfl rfl rfl z26 rfl rfl,zo⟩,zo⟩ hS rfl λac g w hS=> ?_;refine wp_seq ?_;refine rx [e0 1 [(3,eI k)] (eI (1000001+k:Nat)),e0 2 [(4,eI (1000001+k:Nat))] (tmS (aT (1000001+k:Nat))),e1 3 [(2,nwS 0),(5,tmS (aT (1000001+k:Nat)))] bB] [2] (Bl [stB noR [(26,cH 3)],stB noR [(26,tmS (aT (1000001+k:Nat)))]]) 1 [(2,nwS 0)] ⟨⟨bN λξ g w hB hH=>⟨_,rfl,ci rfl rfl (bK (by omega) (by omega))⟩,zo⟩,⟨bX rfl λξ g w hB hH=>a_ c86 rfl (fp (a:=(1000001+k:Nat)) w hB.wf.lt),zo⟩,⟨cB (k:=0) (m:=3) rfl rfl rfl rfl rfl rfl (by decide) b6 (cf 3) (bT _),zo⟩,zo⟩ hS rfl λac g w hS=> ?_;refine wp_ret ?_;obtain⟨v0,c,b⟩:=hS.rv (x:=2) (k:=0) (m:=3) (ty:=26) rfl rfl (by decide) u26 rfl b6 (bT _).sized;exact bv hS.f.frm (bw Tryd.results52 c) ⟨hS.gr0,b.sub hS.sub0⟩
set_option maxRecDepth 100000 in
set_option maxHeartbeats 4000000 in
theorem lS {X:List Nat} {a:Nat} (w0:World) (hX:∀x,x∈X->x<w0.heap.size):Calls Tryd.prog 54 (List.toArray [.int .i64 a]) w0 (Ret λv w'=>Gr w0 w'/\TmIs w' X (pT a) v):=by refine dI [eI a] hX ⟨rfl,zo⟩ Tryd.func54 rfl Tryd.ntmps54 rfl λac hS=> ?_;refine wp_seq ?_;refine rx [e1 0 [] (nwS 0)] [0,2] (Bl [stB noR [],stB noR [(26,cH 3)]]) 1 [(0,eI a),(2,nwS 0)] ⟨⟨cC rfl rfl rfl z26 rfl rfl,zo⟩,zo⟩ hS rfl λac g w hS=> ?_;refine wp_seq ?_;refine rx [e0 1 [(3,eI a)] (tmS (aT a)),e0 2 [(4,tmS (aT a))] (tfS [(aT a)]),e0 3 [(5,tfS [(aT a)])] (tmS (bL (aT a))),e1 4 [(2,nwS 0),(6,tmS (bL (aT a)))] bB] [2] (Bl [stB noR [(26,cH 3)],stB noR [(26,tmS (bL (aT a)))]]) 1 [(2,nwS 0)] ⟨⟨bX rfl λξ g w hB hH=>a_ c86 rfl (fp (a:=a) w hB.wf.lt),zo⟩,⟨de rfl rfl rfl,zo⟩,⟨bX rfl λξ g w hB hH=>a_ c87 rfl (eO w hB.wf.lt (hH 5 _ rfl)),zo⟩,⟨cB (k:=0) (m:=3) rfl rfl rfl rfl rfl rfl (by decide) b6 (cf 3) (bT _),zo⟩,zo⟩ hS rfl λac g w hS=> ?_;refine wp_ret ?_;obtain⟨v0,hv0,ht0⟩:=hS.rv (x:=2) (k:=0) (m:=3) (ty:=26) rfl rfl (by decide) u26 rfl b6 (bT _).sized;exact bv hS.f.frm (bw Tryd.results54 hv0) ⟨hS.gr0,ht0.sub hS.sub0⟩
set_option maxRecDepth 100000 in
set_option maxHeartbeats 4000000 in
theorem pz {X:List Nat} {a b:Nat} (w0:World) (hX:∀x,x∈X->x<w0.heap.size):Calls Tryd.prog 55 (List.toArray [.int .i64 a,.int .i64 b]) w0 (Ret λv w'=>Gr w0 w'/\TmIs w' X (dT a b) v):=by refine dI [eI a,eI b] hX ⟨rfl,rfl,zo⟩ Tryd.func55 rfl Tryd.ntmps55 rfl λac hS=> ?_;refine wp_seq ?_;refine rx [e1 0 [] (nwS 0)] [0,1,4] (Bl [stB noR [],stB noR [(26,cH 3)]]) 1 [(0,eI a),(1,eI b),(4,nwS 0)] ⟨⟨cC rfl rfl rfl z26 rfl rfl,zo⟩,zo⟩ hS rfl λac g w hS=> ?_;refine wp_seq ?_;refine rx [e0 1 [(5,eI a)] (tmS (aT a)),e0 3 [(7,eI b)] (tmS (aT b)),e0 4 [(6,tmS (aT a)),(8,tmS (aT b))] (tfS [(aT a),(aT b)]),e0 5 [(9,tfS [(aT a),(aT b)])] (tmS (.mk 3 0 [(aT a),(aT b)])),e1 6 [(4,nwS 0),(10,tmS (.mk 3 0 [(aT a),(aT b)]))] bB] [4] (Bl [stB noR [(26,cH 3)],stB noR [(26,tmS (.mk 3 0 [(aT a),(aT b)]))]]) 1 [(4,nwS 0)] ⟨⟨bX rfl λξ g w hB hH=>a_ c86 rfl (fp (a:=a) w hB.wf.lt),zo⟩,⟨bX rfl λξ g w hB hH=>a_ c86 rfl (fp (a:=b) w hB.wf.lt),zo⟩,⟨cX rfl rfl rfl rfl,zo⟩,⟨bX rfl λξ g w hB hH=>a_ c87 rfl (eO w hB.wf.lt (hH 9 _ rfl)),zo⟩,⟨cB (k:=0) (m:=3) rfl rfl rfl rfl rfl rfl (by decide) b6 (cf 3) (bT _),zo⟩,zo⟩ hS rfl λac g w hS=> ?_;refine wp_ret ?_;obtain⟨v0,d,c⟩:=hS.rv (x:=4) (k:=0) (m:=3) (ty:=26) rfl rfl (by decide) u26 rfl b6 (bT _).sized;exact bv hS.f.frm (bw Tryd.results55 d) ⟨hS.gr0,c.sub hS.sub0⟩
end Go.Mi.Term
namespace Go.Mi.Term
open Go.Mi Go.Proofs Go.RowKit
abbrev owS (base n:Nat):Sp TT:= .pr ⟨λg w v=>∃xs,Own w base 26 3 v n xs/\∀b,b∈bC v->b∉g.X,λ⟨xs,h1,h2⟩ k=>⟨xs,h1.mv k.ch λb hb hm=>h2 b hb (Gh.sub _ b hm),λb hb hm=>by
 rcases k.X b hm with h3|h3
 ·exact h2 b hb h3
 ·have :=(h1.lt b hb).2;omega⟩⟩
abbrev plS (ts:List Tm):Sp TT:= .pr ⟨λg w v=>∃b o u,v=vP b o/\b∉g.X/\b<w.heap.size/\w.cell? ⟨b,o,none⟩=some u/\TlIs w g.X false ts u,λ{g w g' w' v} ⟨b,o,u,h1,h2,hb,h3,h4⟩ k=>by
 refine⟨b,o,u,h1,λhm=> ?_,zE hb k.ch.size,by rw[World.cell?_of_block (k.ch.blk b hb λhm=>h2 (Gh.sub _ b hm))];exact h3,h4.mv k.ch (Gh.sub _) k.X⟩;rcases k.X b hm with h6|h6
 ·exact h2 h6
 ·omega⟩
abbrev ssS (xs:List (List Tm)):Sp TT:= .pr ⟨λg w v=>∃b cap,v= .slice (some ⟨b,0,none⟩) xs.length cap/\b∉g.X/\b<w.heap.size/\∀i ts,xs[i]? =some ts->∃u,w.cell? ⟨b,i,none⟩=some u/\TlIs w g.X false ts u,λ{g w g' w' v} ⟨b,cap,h1,h2,h3,h4⟩ k=>
 ⟨b,cap,h1,λhm=>by
  rcases k.X b hm with h6|h6
  ·exact h2 h6
  ·omega,zE h3 k.ch.size,λi ts hi=>by
   obtain⟨u,h5,h6⟩:=h4 i ts hi;exact⟨u,by rw[World.cell?_of_block (k.ch.blk b h3 λhm=>h2 (Gh.sub _ b hm))];exact h5,h6.mv k.ch (Gh.sub _) k.X⟩⟩⟩
def loR (base:Nat):RX:=⟨λg w=>g.F=[]/\base<=w.heap.size,λh k _ hf _ _ _=>⟨hf.trans h.1,zy h.2 k.size⟩⟩
def fI (base k:Nat) (ts:List Tm):RX:=⟨λg w=>base<=w.heap.size/\∃v xs,g.N[k]? =some v/\g.F=bC v/\Own w base 26 3 v ts.length xs/\IsTs w g.X ts xs,λ{g g'} _ _ _ ⟨h0,v,xs,h1,h2,h3,h4⟩ k hc hf hy hx hN=>⟨zy h0 k.size,v,xs,hN _ _ h1,hf.trans h2,h3.mv k λb hb hm=>(hc b hm).2.1 (by rw[h2];exact hb),IsTs.mv k (λy hy=>(hc y hy).1) hx _ _ h4⟩⟩
theorem rK {n m:Nat} {L:List (Nat×Value)} {w:World} {ds:Option Nat} {ty:TypeId} {pos:String} {af:Array Edge} {gu:Option (Nat×Bool)} {x y:Operand} (hx:ev L x=some (.slice none 0 0)) (hy:ev L y=some (vI m)) (h0:0<m) (h1:m<=1000000):Ok1 Tryd.prog ⟨ds,.call ⟨.builtin .append,#[x,y],#[24,3]⟩,ty,pos,af,gu⟩ n L w λv w'=>Gr w w'/\∃xs,Own w' w.heap.size 26 3 v m xs:=by
 obtain⟨c,f,hz⟩:=zq.1 kR;simp only[Prod.mk.injEq]at hz;obtain⟨e1,e2,e3⟩:=hz;have hr:=Lib.run_append_grow_zeros (P:=Tryd.prog) w 24 3 ty 26 c _ .i64 .i64 u24 Tryd.underlying3 f e3 none 0 0 [] (run_firstCells_none w.drew _ 0 0 0) m h0 (by omega) (by omega) (by omega) (by rw[e2];omega) (by have :=growslice_fits (need:=0+m) (old:=0) (bytes:=c.bytes) (by omega) (by rw[e2];omega);exact this);have hd:Det Tryd.prog ⟨ds,.call ⟨.builtin .append,#[x,y],#[24,3]⟩,ty,pos,af,gu⟩ n L w _ _:=Det.of_run λa hF=>by simp only[execOp,resolve,invoke,builtin];simp [hF.eval hx,hF.eval hy,hr];exact⟨rfl,rfl⟩
 refine hd.mono λv' w'' ⟨q1,q2⟩=> ?_;subst q1;subst q2;obtain⟨G,hG⟩:∃G,G=grownCap w m 0 26:=⟨_,rfl⟩;have d:m<=grownCap w m 0 26:=grownCap_ge w _ _ _;have b:=grownCap_le_maxLen w m 0 26 (by unfold maxLen;omega);rw[<-hG]at d b⊢;have g:Ch [] w w.drew:=Ch.drew w;have e:NewB w.drew (w.drew.alloc (.cells (Builtin.zeroCells (Value.agg #[(Value.int .i64 0),(Value.int .i64 0),(Value.slice none 0 0)]).cells m++Builtin.zeroCells (Value.agg #[(Value.int .i64 0),(Value.int .i64 0),(Value.slice none 0 0)]).cells (G-m)) 26)) w.heap.size _ 26:=⟨rfl,rfl⟩;refine⟨(g.trans e.ch).gr,_,?_,.inr ⟨_,G,_,rfl,zH _,e.blk,d,b,?_,rfl⟩⟩
 ·simp only[Array.toList_append,List.length_take,zP,AU,size_zeroCells,Value.cells];simp
  try omega
 ·simp [size_zeroCells,Value.cells]
  try omega
theorem Own.form0 {w:World} {base m n:Nat} {e:TypeId} {v:Value} {xs:List Value} (h:Own w base e m v n xs) (hn:0<n):∃b cap,v= .slice (some ⟨b,0,none⟩) n (n+cap)/\At w b 0 xs/\b∈bC v:=by
 rcases h.at with⟨_,h1,_⟩|⟨b,cap,rfl,hc,h2⟩
 ·omega
 ·obtain⟨cap,rfl⟩:=Nat.le.dest hc;exact⟨b,cap,rfl,h2,by simp [bC]⟩
theorem wU {P:Program} {n:Nat} {L:List (Nat×Value)} {w:World} {ds:Option Nat} {ty:TypeId} {pos:String} {af:Array Edge} {gu:Option (Nat×Bool)} {x h:Operand} {t e:TypeId} {q b o l cap:Nat} (ht:P.underlying t=some (.slice e)) (hs:(P.info? e).map (·.size)=some q) (hx:ev L x=some (.slice (some ⟨b,o,none⟩) l cap)) (hh:ev L h=some (.int .i64 0)):Det P ⟨ds,.slice t x none (some h) none,ty,pos,af,gu⟩ n L w (.slice (some ⟨b,o,none⟩) 0 cap) w:=
 Det.of_run λa hF=>by obtain⟨inf,hi,hz⟩:=zq.1 hs;simp [execOp,hF.eval hx,hF.eval hh,Instr.sliceAt,Instr.slice,bQ ht,Instr.sliceBounds,Instr.sliceBound,asIntOf,sizeOf,typeInfo,hi];intro _;rfl
theorem Own.nil0 {w:World} {base m:Nat} {v:Value} {xs:List Value} (h0:0<m) (h:Own w base 26 3 v m xs):∃b cap,v= .slice (some ⟨b,0,none⟩) m cap/\Own w base 26 3 (.slice (some ⟨b,0,none⟩) 0 cap) 0 []:=by
 rcases h.2 with⟨_,h1⟩|⟨b,cap,cur,h1,h2,h3,h4,h5,h6,h7⟩
 ·omega
 ·exact⟨b,cap,h1,by simp,.inr ⟨b,cap,cur,rfl,h2,h3,zV _,h5,h6,by simp⟩⟩
section
variable {ops:List Oper} {n:Nat} {B:Nat->BX XX} {i p k m:Nat} {L:TL TT} {ph:List Nat} {ρ:RX} {ns:List (Nat×Sp TT)} {ds:Option Tmp} {ty:TypeId} {pos:String} {af:Array Edge} {gu:Option (Nat×Bool)} {t:TypeId} {x y:Operand} {base:Nat}
theorem tR (hB0:B p=stB (loR base) ns) (hop:ops.getD i default=⟨ds,.call ⟨.builtin .append,#[x,y],#[24,3]⟩,t,pos,af,gu⟩) (hx:spO L x=some (eqS (.slice none 0 0))) (hy:spO L y=some (eI m)) (h0:0<m) (h1:m<=1000000):EOb Tryd.prog n ops XX B ⟨i,L,owS base m,ph,false⟩ p:=fv λξ g w hB hH=>by
 rw[hB0]at hB;have hB:StB (loR base) ns g w:=hB;rw[hop];refine(rK (bF hx) (bF hy) h0 h1).mono λv w' ⟨k1,xs,k2⟩=>⟨k1,xs,?_,λb hb hm=> ?_⟩
 ·rcases k2.2 with⟨_,e⟩|⟨b,cap,cur,q1,q2,q3⟩
  ·omega
  ·exact⟨k2.1,.inr ⟨b,cap,cur,q1,zy hB.run.2 q2,q3⟩⟩
 ·have :=(k2.lt b hb).1;have :=hB.wf.lt b hm;omega
set_option maxRecDepth 100000 in
theorem xF (hop:ops.getD i default=⟨ds,.slice 24 x none (some y) none,t,pos,af,gu⟩) (hx:spO L x=some (owS base m)) (hy:spO L y=some (eI 0)) (h0:0<m):EOb Tryd.prog n ops XX B ⟨i,L,owS base 0,ph,false⟩ p:=bN λξ g w hB hH=>by rw[hop];obtain⟨v,e1,xs,k1,k2⟩:=bH hx hH;have hy:=bF (ξ:=ξ) hy;obtain⟨b,cap,rfl,k3⟩:=Own.nil0 h0 k1;refine⟨_,⟨_,k3,λb' hb'=>k2 b' (by simpa[bC]using hb')⟩,?_⟩;exact wU u24 b6 e1 hy
theorem rp {xs:List (List Tm)} {j:Nat} (hop:ops.getD i default=⟨ds,.indexAddr 146 x y,t,pos,af,gu⟩) (hx:spO L x=some (ssS xs)) (hy:spO L y=some (eI j)) (hj:j<xs.length):EOb Tryd.prog n ops XX B ⟨i,L,plS (xs.getD j []),ph,false⟩ p:=bN λξ g w hB hH=>by rw[hop];obtain⟨v,e1,b,cap,rfl,k1,k2,k3⟩:=bH hx hH;obtain⟨u,k4,k5⟩:=k3 j _ (zp hj);refine⟨_,⟨b,j,u,rfl,k1,k2,k4,?_⟩,by have :=dU (w:=w) (n:=n) (ds:=ds) (ty:=t) (pos:=pos) (af:=af) (gu:=gu) Tryd.underlying146 fM e1 (bF hy) rfl hj;simpa using this⟩;simpa[zG,zp hj]using k5
theorem rm {ts:List Tm} (hop:ops.getD i default=⟨ds,.load 24 x,t,pos,af,gu⟩) (hx:spO L x=some (plS ts)):EOb Tryd.prog n ops XX B ⟨i,L,tlS ts,ph,false⟩ p:=bN λξ g w hB hH=>by rw[hop];obtain⟨v,e1,b,o,u,rfl,k1,k2,k3,k4⟩:=bH hx hH;exact⟨u,k4,bJ u24 rfl e1 k3⟩
theorem vH {ts:List Tm} (hop:ops.getD i default=⟨ds,.call ⟨.builtin .len,#[x],#[24]⟩,t,pos,af,gu⟩) (hx:spO L x=some (tlS ts)):EOb Tryd.prog n ops XX B ⟨i,L,eI ts.length,ph,false⟩ p:=bN λξ g w hB hH=>by rw[hop];obtain⟨v,e1,b,o,cap,xs,rfl,_⟩:=bH hx hH;exact⟨_,rfl,bW u24 e1⟩
theorem oZ {xs:List (List Tm)} (hop:ops.getD i default=⟨ds,.call ⟨.builtin .len,#[x],#[146]⟩,t,pos,af,gu⟩) (hx:spO L x=some (ssS xs)):EOb Tryd.prog n ops XX B ⟨i,L,eI xs.length,ph,false⟩ p:=bN λξ g w hB hH=>by rw[hop];obtain⟨v,e1,b,cap,rfl,_⟩:=bH hx hH;exact⟨_,rfl,bW Tryd.underlying146 e1⟩
theorem ug (hB0:B p=stB (loR base) []) (hB1:B (p+1)=stB (fI base 0 []) [(0,bB)]) (h:∀ξ (g:Gh) w,StB (loR base) [] g w->iK L ξ g w->Ok1 Tryd.prog (ops.getD i default) n (exL L ξ) w λv w'=>Gr w w'/\Own w' w.heap.size 26 3 v 0 []):EOb Tryd.prog n ops XX B ⟨i,L,nwS 0,ph,true⟩ p:=by
 intro ξ g w hB hH;rw[hB0]at hB;have hB:StB (loR base) [] g w:=hB;show Ok1 Tryd.prog (ops.getD i default) _ _ _ _;refine(h ξ g w hB hH).mono λv w' ⟨k1,k3⟩=> ?_;have hF:g.F=[]:=hB.run.1;have hN:g.N=[]:=zR hB.len;have hlo:∀b,b∈bC v->w.heap.size<=b:=λb hb=>(k3.lt b hb).1;obtain⟨t1,t2⟩:=hB.run' (ρ':=fI base 0 []) (g':=⟨bC v,g.M,g.Y,g.N++[v]⟩) (w':=w') (l:=[v]) (l':=[(0,bB)]) (by rw[hF];exact k1.ch) (λx hx=> .inr (hlo x hx)) (λx hx=>(k3.lt x hx).2) rfl rfl rfl rfl (λu hu b'=>by
  rw[zt.1 hu];rcases k3.at with⟨rfl,_⟩|⟨_,_,rfl,_⟩<;>simp) (λu hu=>by rw[zt.1 hu]) ⟨zy hB.run.2 k1.size,v,[],by simp [hN],rfl,by
  rcases k3.2 with e|⟨b,cap,cur,q1,q2,q3⟩
  ·exact⟨k3.1,.inl e⟩
  ·exact⟨k3.1,.inr ⟨b,cap,cur,q1,zy hB.run.2 q2,q3⟩⟩,by simp [IsTs]⟩
 exact⟨_,⟨t1,by show(B (p+1)).P _ _;rw[hB1];exact t2⟩,by show(g.N++[v])[0]? =some v;simp [hN]⟩
theorem x0 {ts us:List Tm} {k':Nat} (hB0:B p=stB (fI base k ts) ns) (hB1:B (p+1)=stB (fI base k' (ts++us)) (ns++[(0,bB)])) (hk:ns.length=k') (hop:ops.getD i default=⟨ds,.call ⟨.builtin .append,#[x,y],#[24,24]⟩,t,pos,af,gu⟩) (hx:spO L x=some (nwS k)) (hy:spO L y=some (tlS us)) (hsz:ts.length+us.length<=1000000):EOb Tryd.prog n ops XX B ⟨i,L,nwS k',ph,true⟩ p:=by
 subst hk;intro ξ g w hB hH;rw[hB0]at hB;have hB:StB (fI base k ts) ns g w:=hB;show Ok1 Tryd.prog (ops.getD i default) _ _ _ _;rw[hop];obtain⟨h0,v,xs,h1,h2,h3,h4⟩:=hB.run;obtain⟨vx,e0,a⟩:=bH hx hH;have a:g.N[k]? =some vx:=a;rw[h1]at a;cases a;obtain⟨vy,e1,b1,o1,c1,ys,rfl,_,_,_,h,d⟩:=bH hy hH;have b:g.N.length=ns.length:=hB.len;refine(dH u24 kR rfl (by decide) e0 e1 h3 ((IsTs.len d).trans (AO _ _)) h (IsTs.cells1 d) (by omega) (by unfold maxLen;omega) h0).mono ?_;rintro v' w' ⟨hown,hch,ho⟩;have c:∀z,z∈bC v'->z∈g.F\/w.heap.size<=z:=λz hz=>by
  rcases ho with e|e
  ·rw[e]at hz;exact .inl (by rw[h2];exact hz)
  ·rw[e]at hz;exact .inr (by rw[zt.1 hz];exact zH _)
 have hX:∀z,z∈bC v'++(g.M++g.Y)->z∈g.X\/w.heap.size<=z:=λz hz=>by
  rcases zr.1 hz with hz|hz
  ·rcases c z hz with h3|h3
   ·exact .inl (by simp [Gh.X,h3])
   ·exact .inr h3
  ·exact .inl (by simp only[Gh.X,zr]at hz⊢;exact .inr hz)
 have f:∀z,z∈bC v->z∈g.X:=λz hz=>by simp [Gh.X,h2,hz]
 obtain⟨t1,t2⟩:=hB.run' (ρ':=fI base ns.length (ts++us)) (g':=⟨bC v',g.M,g.Y,g.N++[v']⟩) (w':=w') (l:=[v']) (l':=[(0,bB)]) (by rw[h2];exact hch) c (λz hz=>(hown.lt z hz).2) rfl rfl rfl rfl (λu hu b'=>by
  rw[zt.1 hu];rcases hown.at with⟨rfl,_⟩|⟨_,_,rfl,_⟩<;>simp) (λu hu=>by rw[zt.1 hu]) ⟨zy h0 hch.size,v',xs++ys,by simp [<-b],rfl,by simpa using hown,IsTs.app (IsTs.mv hch f hX _ _ h4) (IsTs.mv hch f hX _ _ d)⟩
 exact⟨_,⟨t1,by show(B (p+1)).P _ _;rw[hB1];exact t2⟩,by show(g.N++[v'])[ns.length]? =some v';simp [<-b]⟩
end
def eE (xs:List (List Tm)) (j:Nat):List Tm:=(xs.take j).flatten
theorem lx {xs:List (List Tm)} {j:Nat} (h:j<xs.length):eE xs (j+1)=eE xs j++xs.getD j []:=by unfold eE;rw[AS,List.flatten_append,zp h,zG,zp h];simp
theorem kJ (xs:List (List Tm)):eE xs xs.length=xs.flatten:=by simp [eE]
theorem pI (xs:List (List Tm)) (j:Nat):(eE xs j).length<=xs.flatten.length:=by
 have :xs.flatten=eE xs j++(xs.drop j).flatten:=by rw[eE,<-List.flatten_append,List.take_append_drop]
 rw[this,zP];omega
theorem kI {xs:List (List Tm)} {j:Nat} (h:j<xs.length):((eE xs j).length:Int)+((xs.getD j []).length:Int)=((eE xs (j+1)).length:Nat):=by rw[lx h];simp
theorem qv {xs:List (List Tm)} {j base:Nat} (h:j<xs.length):stB (fI base (j+1) (eE xs j++xs.getD j [])) (List.replicate (j+1) (0,bB)++[(0,bB)])=stB (fI base (j+1) (eE xs (j+1))) (List.replicate (j+1+1) (0,bB)):=by rw[lx h,<-List.replicate_succ']
theorem SS.toB {L L':TL TT} {n:Nat} {B B':BX XX} {g0 g:Gh} {w0 w:World} {a:Act} (h:SS L n B g0 w0 a g w) (e:B=B') (k:tk L L'):SS L' n B' g0 w0 a g w:=e▸h.to k
theorem sk {L:TL TT} {n k x:Nat} {X:List Nat} {ts:List Tm} {ns:List (Nat×Sp TT)} {g:Gh} {w0 w:World} {a:Act} (h:SS L n (stB (fI w0.heap.size k ts) ns) ⟨[],[],X,[]⟩ w0 a g w) (hX:∀x,x∈X->x<w0.heap.size) (hx:lkS L x=some (nwS k)) (h0:0<ts.length):Gr w0 w/\TlIs w X false ts (a.tmps.getD x undef):=by obtain⟨_,v,xs,h1,h2,h3,h4⟩:=h.b.run;have h5:g.N[k]? =some (a.tmps.getD x undef):=h.f.get x _ hx;rw[h1]at h5;cases h5;obtain⟨b,cap,e,h6,h7⟩:=Own.form0 h3 h0;have :=Own.lt h3 b h7;exact⟨h.gr0,b,0,cap,xs,e,(λh=>by cases h),λhm=>by have :=hX b hm;omega,this.2,h6,IsTs.sub h4 h.sub0⟩
theorem sj {L:TL TT} {n x:Nat} {X:List Nat} {xs:List (List Tm)} {ns:List (Nat×Sp TT)} {g:Gh} {w0 w:World} {a:Act} (h:SS L n (stB (fI w0.heap.size xs.length (eE xs xs.length)) ns) ⟨[],[],X,[]⟩ w0 a g w) (hX:∀x,x∈X->x<w0.heap.size) (hx:lkS L x=some (nwS xs.length)) (h0:0<xs.flatten.length):Gr w0 w/\TlIs w X false xs.flatten (a.tmps.getD x undef):=by rw[<-kJ]at h0⊢;exact sk h hX hx h0
theorem si {L:TL TT} {n x base:Nat} {X:List Nat} {B:BX XX} {g:Gh} {w0 w:World} {a:Act} (h:SS L n B ⟨[],[],X,[]⟩ w0 a g w) (hx:lkS L x=some (owS base 0)):Gr w0 w/\Own w base 26 3 (a.tmps.getD x undef) 0 []:=by obtain⟨xs,h1,_⟩:=h.f.get x _ hx;have :xs=[]:=zR (by have :=h1.1;omega);subst this;exact⟨h.gr0,h1⟩
section
variable {P:Program} {n:Nat} {L:List (Nat×Value)} {w:World} {ds:Option Nat} {ty:TypeId} {pos:String} {af:Array Edge} {gu:Option (Nat×Bool)} {x h:Operand} {t e:TypeId}
theorem sD (hT:P.underlying t=some (.slice e)) (hx:ev L x=some (.slice none 0 0)):Det P ⟨ds,.call ⟨.builtin .cap,#[x],#[t]⟩,ty,pos,af,gu⟩ n L w (.int .i64 0) w:=
 Det.of_run λa hF=>by simp [execOp,hF.eval hx,resolve,invoke,builtin,Builtin.cap_,bQ hT,goInt]
theorem sA {q:Nat} (ht:P.underlying t=some (.slice e)) (hs:(P.info? e).map (·.size)=some q) (hx:ev L x=some (.slice none 0 0)) (hh:ev L h=some (.int .i64 0)):Det P ⟨ds,.slice t x none (some h) none,ty,pos,af,gu⟩ n L w (.slice none 0 0) w:=
 Det.of_run λa hF=>by obtain⟨inf,hi,hz⟩:=zq.1 hs;simp [execOp,hF.eval hx,hF.eval hh,Instr.sliceAt,Instr.slice,bQ ht,Instr.sliceBounds,Instr.sliceBound,asIntOf,sizeOf,typeInfo,hi]
end
theorem wN {z:Value} {a b:Option Addr} {l1 l2 c1 c2:Nat}:Instr.fill (λi=>some (i*1,1)) ((Array.range (2*1)).map (z.cells[· %z.cells.size]!)) [(0,.slice a l1 c1),(1,.slice b l2 c2)]=some #[.slice a l1 c1,.slice b l2 c2]:=by simp [Instr.fill,Value.cells];apply Array.ext';simp [zO,z6,Ab,Ag]
set_option maxRecDepth 100000 in
theorem xH {ops:List Oper} {n:Nat} {B:Nat->BX XX} {i p:Nat} {L:TL TT} {ph:List Nat} {ρ:RX} {ns:List (Nat×Sp TT)} {ds:Option Tmp} {pos:String} {af:Array Edge} {gu:Option (Nat×Bool)} {t:TypeId} {x y:Operand} {ts us:List Tm} (hB0:B p=stB ρ ns) (hop:ops.getD i default=⟨ds,.buildSlice 146 2 #[(0,x),(1,y)],t,pos,af,gu⟩) (hx:spO L x=some (tlS ts)) (hy:spO L y=some (tlS us)):EOb Tryd.prog n ops XX B ⟨i,L,ssS [ts,us],ph,false⟩ p:=fv λξ g w hB hH=>by
 rw[hB0]at hB;have hB:StB ρ ns g w:=hB;rw[hop];obtain⟨v1,e1,k1⟩:=bH hx hH;obtain⟨v2,e2,k2⟩:=bH hy hH;have k1':=k1;have k2':=k2;obtain⟨_,_,_,_,rfl,_⟩:=k1';obtain⟨_,_,_,_,rfl,_⟩:=k2';refine(bU Tryd.underlying146 yG (ps:=[(0,.slice _ _ _),(1,.slice _ _ _)]) (by simp [evp,e1,e2];exact⟨⟨rfl,rfl,rfl⟩,rfl,rfl,rfl⟩) (by decide) (by decide) wN).mono ?_;rintro v w' ⟨b,rfl,hn⟩;have hx:∀x,x∈g.X->x∈g.X\/w.heap.size<=x:=λx hx=> .inl hx;refine⟨hn.ch.gr,b,2,rfl,λhm=> ?_,hn.lt,λi ts' hi=> ?_⟩
 ·have :=hB.wf.lt b hm;have :=hn.num;omega
 ·have ha:=hn.at
  match i,hi with
  |0,hi=>simp at hi;subst hi;exact⟨_,by simpa using ha 0 _ rfl,k1.mv hn.ch (by simp) hx⟩
  |1,hi=>simp at hi;subst hi;exact⟨_,by simpa using ha 1 _ rfl,k2.mv hn.ch (by simp) hx⟩
  |i+2,hi=>simp at hi
end Go.Mi.Term
namespace Go.Mi.Term
open Go.Mi Go.Proofs Go.RowKit
set_option maxRecDepth 100000 in
set_option maxHeartbeats 4000000 in
theorem ur {m:Nat} (w0:World) (h0:0<m) (h1:m<=1000000):Calls Tryd.prog 107 (List.toArray [.slice none 0 0,vI m]) w0 (Ret λv w'=>Gr w0 w'/\Own w' w0.heap.size 26 3 v 0 []):=by
 refine bY (X:=[]) (F:=[]) (ρ:=loR w0.heap.size) [eqS (.slice none 0 0),eI m] (by simp) ⟨rfl,zH _⟩ ⟨rfl,rfl,zo⟩ Tryd.func107 rfl Tryd.ntmps107 rfl λac hS=> ?_;refine wp_seq ?_;refine rz hS [] [0,1,4] [(0,eqS vN),(1,eI m),(4,eqS vN)] zo λac g w hS=> ?_;refine wp_seq ?_;refine wp_seq ?_;refine rz hS [] [0,1,4,6] [(0,eqS vN),(1,eI m),(4,eqS vN),(6,eB (decide ((m:Int)<0)))] zo λac g w hS=> ?_;refine bA ?_;refine cr hS.f.frm rfl (λh=> ?_) (λh=> ?_)
 ·have a:=zB h;clear h;omega
 ·have a:=of_decide_eq_false h;clear h;refine wp_skip ?_;refine wp_seq ?_;refine wp_seq ?_;refine rz hS [e0 2 [(9,eqS vN)] (eI 0),e0 4 [(11,eqS vN)] (eI 0),e0 5 [(10,eI 0),(12,eI 0)] (eI 0),e0 6 [(8,eI m),(13,eI 0)] (eI m)] [0,1,4] [(0,eqS vN),(1,eI m),(4,eqS vN)] ⟨⟨bN λξ g w hB hH=>⟨_,rfl,sD u24 rfl⟩,zo⟩,⟨bN λξ g w hB hH=>⟨_,rfl,bW u24 rfl⟩,zo⟩,⟨bN λξ g w hB hH=>⟨_,rfl,eu rfl rfl (by decide)⟩,zo⟩,⟨bN λξ g w hB hH=>⟨_,rfl,eu rfl rfl ((bK (by omega) (by omega)).trans (by omega))⟩,zo⟩,zo⟩ λac g w hS=> ?_;refine wp_seq ?_;refine rz hS [] [0,1,4,16] [(0,eqS vN),(1,eI m),(4,eqS vN),(16,eB (decide ((0:Int)<m)))] zo λac g w hS=> ?_;refine bA ?_;refine cr hS.f.frm rfl (λh=> ?_) (λh=> ?_)
  ·have b:=zB h;clear h;refine rz hS [e0 2 [(18,eqS vN)] (eI 0),e0 3 [(17,eqS vN),(19,eI 0)] (eqS vN),e0 5 [(20,eqS vN),(21,eI m)] (owS w0.heap.size m),e0 7 [(23,eqS vN)] (eI 0),e0 8 [(22,owS w0.heap.size m),(24,eI 0)] (owS w0.heap.size 0)] [0,4] [(0,owS w0.heap.size 0),(4,eqS vN)] ⟨⟨bN λξ g w hB hH=>⟨_,rfl,sD u24 rfl⟩,zo⟩,⟨bN λξ g w hB hH=>⟨_,rfl,sA u24 b6 rfl rfl⟩,zo⟩,⟨tR rfl rfl rfl rfl h0 h1,zo⟩,⟨bN λξ g w hB hH=>⟨_,rfl,bW u24 rfl⟩,zo⟩,⟨xF rfl rfl rfl h0,zo⟩,zo⟩ λac g w hS=> ?_;refine wp_seq ?_;refine rz hS [] [4] [(4,owS w0.heap.size 0)] zo λac g w hS=> ?_;refine wp_ret ?_;exact bv hS.f.frm (bw Tryd.results107 (RV.tmp hS.f.frm rfl)) (si hS rfl)
  ·have b:=of_decide_eq_false h;clear h;omega
set_option maxRecDepth 100000 in
set_option maxHeartbeats 4000000 in
theorem qy {X:List Nat} {xs:List (List Tm)} {v:Value} (w0:World) (hX:∀x,x∈X->x<w0.heap.size) (hl:xs.length<=1000) (h0:0<xs.flatten.length) (h1:xs.flatten.length<=1000000) (hv:(ssS xs).hold ⟨[],[],X,[]⟩ w0 v):Calls Tryd.prog 100 (List.toArray [v]) w0 (Ret λv w'=>Gr w0 w'/\TlIs w' X false xs.flatten v):=by
 refine bY (X:=X) (F:=[]) (ρ:=loR w0.heap.size) [ssS xs] hX ⟨rfl,zH _⟩ ⟨hv,zo⟩ Tryd.func100 rfl Tryd.ntmps100 rfl λac hS=> ?_;refine wp_seq ?_;refine rz hS [] [0,2] [(0,ssS xs),(2,eqS vN)] zo λac g w hS=> ?_;refine wp_seq ?_;refine rz hS [] [0,2,3] [(0,ssS xs),(2,eqS vN),(3,eI 0)] zo λac g w hS=> ?_;refine wp_seq ?_;refine wp_seq ?_;refine rz hS [e0 1 [(9,ssS xs)] (eI xs.length)] [0,2,3,9,10,11] [(0,ssS xs),(2,eqS vN),(3,eI 0),(9,ssS xs),(10,eI xs.length),(11,eI 0)] ⟨⟨oZ rfl rfl,zo⟩,zo⟩ λac g w hS=> ?_;refine bA ?_;refine wp_block ?_;refine ca (λa ac w=>∃(j:Nat) (g:Gh),a=xs.length-j/\(j<=xs.length)/\SS [(0,ssS xs),(3,eI ((eE xs j).length)),(9,ssS xs),(10,eI xs.length),(11,eI j)] 36 (stB (loR w0.heap.size) []) ⟨[],[],X,[]⟩ w0 ac g w) _ ⟨0,_,rfl,zV _,hS.to ⟨rfl,rfl,rfl,rfl,rfl,zo⟩⟩ ?_;rintro _ ac w ⟨j,g,rfl,hj,hS⟩;refine wp_seq ?_;refine rz hS [] [0,3,9,10,11,12] [(0,ssS xs),(3,eI ((eE xs j).length)),(9,ssS xs),(10,eI xs.length),(11,eI j),(12,eB (decide ((j:Int)<xs.length)))] zo λac g w hS=> ?_;refine wp_seq ?_;refine cr hS.f.frm rfl (λh=> ?_) (λh=> ?_)
 ·have hc:=zB h;clear h;have hc:=AA.1 hc;refine wp_skip ?_;refine wp_seq ?_;refine wp_block ?_;refine wp_seq ?_;refine rz hS [e0 0 [(9,ssS xs),(11,eI j)] (plS (xs.getD j [])),e0 1 [(13,plS (xs.getD j []))] (tlS (xs.getD j []))] [0,3,5,9,10,11] [(0,ssS xs),(3,eI ((eE xs j).length)),(5,tlS (xs.getD j [])),(9,ssS xs),(10,eI xs.length),(11,eI j)] ⟨⟨rp rfl rfl rfl (by omega),zo⟩,⟨rm rfl rfl,zo⟩,zo⟩ λac g w hS=> ?_;refine wp_seq ?_;refine rz hS [e0 2 [(16,tlS (xs.getD j []))] (eI ((xs.getD j []).length)),e0 3 [(15,eI ((eE xs j).length)),(17,eI ((xs.getD j []).length))] (eI ((((eE xs j).length:Nat):Int)+(((xs.getD j []).length:Nat):Int)))] [0,3,9,10,11] [(0,ssS xs),(3,eI ((((eE xs j).length:Nat):Int)+(((xs.getD j []).length:Nat):Int))),(9,ssS xs),(10,eI xs.length),(11,eI j)] ⟨⟨vH rfl rfl,zo⟩,⟨bN λξ g w hB hH=>⟨_,rfl,ci rfl rfl (bK (by omega) (by have :=kI hc;have :=pI xs (j+1);omega))⟩,zo⟩,zo⟩ λac g w hS=> ?_;refine wp_seq ?_;refine rz hS [] [0,3,9,10,11,20] [(0,ssS xs),(3,eI ((((eE xs j).length:Nat):Int)+(((xs.getD j []).length:Nat):Int))),(9,ssS xs),(10,eI xs.length),(11,eI j),(20,eB (decide ((((eE xs j).length:Nat):Int)+(((xs.getD j []).length:Nat):Int)<0)))] zo λac g w hS=> ?_;refine bA ?_;refine cr hS.f.frm rfl (λh=> ?_) (λh=> ?_)
  ·have b:=zB h;clear h;omega
  ·have b:=of_decide_eq_false h;clear h;refine wp_skip ?_;refine bR ?_;refine rz hS [e0 0 [(11,eI j)] (eI (((j:Nat):Int)+1))] [0,3,9,10,11] [(0,ssS xs),(3,eI ((((eE xs j).length:Nat):Int)+(((xs.getD j []).length:Nat):Int))),(9,ssS xs),(10,eI xs.length),(11,eI (((j:Nat):Int)+1))] ⟨⟨bN λξ g w hB hH=>⟨_,rfl,ci rfl rfl (bK (by omega) (by have :=hl;omega))⟩,zo⟩,zo⟩ λac g w hS=> ?_;refine bA ?_;refine⟨_,?_,j+1,_,rfl,hc,hS.to ⟨rfl,zu (λz:Int=>some (eI z)) (kI hc),rfl,rfl,rfl,zo⟩⟩;omega
 ·have hc:=of_decide_eq_false h;clear h;obtain rfl:j=xs.length:=by omega
  refine wp_exit ?_;refine bM ?_;refine bM ?_;refine bZ ?_;refine wp_seq ?_;refine rx [e1 1 [(23,eI ((eE xs xs.length).length))] (nwS 0)] [0,3,6,9,10,11] (Bl [stB (loR w0.heap.size) [],stB (fI w0.heap.size 0 []) [(0,bB)]]) 1 [(0,ssS xs),(3,eI ((eE xs xs.length).length)),(6,nwS 0),(9,ssS xs),(10,eI xs.length),(11,eI xs.length)] ⟨⟨ug rfl rfl λξ g w hB hH=>a_ zl rfl (ur w (by rw[kJ];exact h0) (by rw[kJ];exact h1)),zo⟩,zo⟩ hS rfl λac g w hS=> ?_;refine wp_seq ?_;refine wp_seq ?_;refine rz hS [e0 1 [(25,ssS xs)] (eI xs.length)] [0,3,6,9,10,11,25,26,27] [(0,ssS xs),(3,eI ((eE xs xs.length).length)),(6,nwS 0),(9,ssS xs),(10,eI xs.length),(11,eI xs.length),(25,ssS xs),(26,eI xs.length),(27,eI 0)] ⟨⟨oZ rfl rfl,zo⟩,zo⟩ λac g w hS=> ?_;refine bA ?_;refine wp_block ?_;refine ca (λa ac w=>∃(j:Nat) (g:Gh),a=xs.length-j/\(j<=xs.length)/\SS [(6,nwS j),(25,ssS xs),(26,eI xs.length),(27,eI j)] 36 (stB (fI w0.heap.size j (eE xs j)) (List.replicate (j+1) (0,bB))) ⟨[],[],X,[]⟩ w0 ac g w) _ ⟨0,_,rfl,zV _,hS.to ⟨rfl,rfl,rfl,rfl,zo⟩⟩ ?_;rintro _ ac w ⟨j,g,rfl,hj,hS⟩;refine wp_seq ?_;refine rz hS [] [6,25,26,27,28] [(6,nwS j),(25,ssS xs),(26,eI xs.length),(27,eI j),(28,eB (decide ((j:Int)<xs.length)))] zo λac g w hS=> ?_;refine wp_seq ?_;refine cr hS.f.frm rfl (λh=> ?_) (λh=> ?_)
  ·have hc:=zB h;clear h;have hc:=AA.1 hc;refine wp_skip ?_;refine wp_seq ?_;refine wp_block ?_;refine wp_seq ?_;refine rz hS [e0 0 [(25,ssS xs),(27,eI j)] (plS (xs.getD j [])),e0 1 [(29,plS (xs.getD j []))] (tlS (xs.getD j []))] [6,8,25,26,27] [(6,nwS j),(8,tlS (xs.getD j [])),(25,ssS xs),(26,eI xs.length),(27,eI j)] ⟨⟨rp rfl rfl rfl (by omega),zo⟩,⟨rm rfl rfl,zo⟩,zo⟩ λac g w hS=> ?_;refine rx [e1 2 [(31,nwS j),(32,tlS (xs.getD j []))] (nwS (j+1))] [6,25,26,27] (Bl [stB (fI w0.heap.size j (eE xs j)) (List.replicate (j+1) (0,bB)),stB (fI w0.heap.size (j+1) (eE xs j++xs.getD j [])) (List.replicate (j+1) (0,bB)++[(0,bB)])]) 1 [(6,nwS (j+1)),(25,ssS xs),(26,eI xs.length),(27,eI j)] ⟨⟨x0 rfl rfl (by simp) rfl rfl rfl (by have :=kI hc;have :=pI xs (j+1);omega),zo⟩,zo⟩ hS rfl λac g w hS=> ?_;refine bR ?_;refine rz hS [e0 0 [(27,eI j)] (eI (((j:Nat):Int)+1))] [6,25,26,27] [(6,nwS (j+1)),(25,ssS xs),(26,eI xs.length),(27,eI (((j:Nat):Int)+1))] ⟨⟨bN λξ g w hB hH=>⟨_,rfl,ci rfl rfl (bK (by omega) (by have :=hl;omega))⟩,zo⟩,zo⟩ λac g w hS=> ?_;refine bA ?_;refine⟨_,?_,j+1,_,rfl,hc,hS.toB (qv hc) ⟨rfl,rfl,rfl,rfl,zo⟩⟩;omega
  ·have hc:=of_decide_eq_false h;clear h;obtain rfl:j=xs.length:=by omega
   refine wp_exit ?_;refine bM ?_;refine bM ?_;refine bZ ?_;refine wp_seq ?_;refine rz hS [] [2,6,25,26,27] [(2,nwS xs.length),(6,nwS xs.length),(25,ssS xs),(26,eI xs.length),(27,eI xs.length)] zo λac g w hS=> ?_;refine wp_ret ?_;exact bv hS.f.frm (bw Tryd.results100 (RV.tmp hS.f.frm rfl)) (sj hS hX rfl h0)
set_option maxRecDepth 100000 in
set_option maxHeartbeats 4000000 in
theorem nx {X:List Nat} {ts us:List Tm} {v v2:Value} (w0:World) (hX:∀x,x∈X->x<w0.heap.size) (h0:0<(ts++us).length) (h1:(ts++us).length<=1000000) (hv:TlIs w0 X false ts v) (hv2:TlIs w0 X false us v2):Calls Tryd.prog 88 (List.toArray [v,v2]) w0 (Ret λv w'=>Gr w0 w'/\TmIs w' X (hT (ts++us)) v):=by refine dI [tlS ts,tlS us] hX ⟨hv,hv2,zo⟩ Tryd.func88 rfl Tryd.ntmps88 rfl λac hS=> ?_;refine wp_seq ?_;refine rx [e1 0 [] (nwS 0)] [0,1,4] (Bl [stB noR [],stB noR [(26,cH 3)]]) 1 [(0,tlS ts),(1,tlS us),(4,nwS 0)] ⟨⟨cC rfl rfl rfl z26 rfl rfl,zo⟩,zo⟩ hS rfl λac g w hS=> ?_;refine wp_seq ?_;refine rx [e0 2 [(5,tlS ts),(6,tlS us)] (ssS [ts,us]),e0 3 [(7,ssS [ts,us])] (tlS (ts++us)),e0 4 [(8,tlS (ts++us))] (tmS (hT (ts++us))),e1 5 [(4,nwS 0),(9,tmS (hT (ts++us)))] bB] [4] (Bl [stB noR [(26,cH 3)],stB noR [(26,tmS (hT (ts++us)))]]) 1 [(4,nwS 0)] ⟨⟨xH rfl rfl rfl rfl,zo⟩,⟨bX rfl λξ g w hB hH=>a_ zn rfl (by have :=qy (xs:=[ts,us]) w hB.wf.lt (by simp) (by simpa using h0) (by simpa using h1) (hH 7 _ rfl);rw[show[ts,us].flatten=ts++us by simp]at this;exact this),zo⟩,⟨bX rfl λξ g w hB hH=>a_ c87 rfl (eO w hB.wf.lt (hH 8 _ rfl)),zo⟩,⟨cB (k:=0) (m:=3) rfl rfl rfl rfl rfl rfl (by decide) b6 (cf 3) (bT _),zo⟩,zo⟩ hS rfl λac g w hS=> ?_;refine wp_ret ?_;obtain⟨v0,b,a⟩:=hS.rv (x:=4) (k:=0) (m:=3) (ty:=26) rfl rfl (by decide) u26 rfl b6 (bT _).sized;exact bv hS.f.frm (bw Tryd.results88 b) ⟨hS.gr0,a.sub hS.sub0⟩
end Go.Mi.Term
