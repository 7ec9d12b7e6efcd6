/- General lemmas, walks. -/
import Derived.RangeFuncFrom
import Derived.RangeFuncLeaves
import Derived.TacticsIn
import Derived.OrdersIn
import Derived.Test.YtmkplecnmklbfaaGreatProg
import Derived.RangeFuncBox
import Derived.Shelf.Abstract
import Derived.WalkKit
import Derived.OwnWalkIn
import Derived.TacticsInMore
import Derived.LoopNIn
import Derived.LoopIn
import Derived.Shelf.RegionOpenPlain
import Derived.Deep.RegionLaw
import Derived.RegionIn
import Derived.Shelf.RegionOpen
import Derived.Test.YtmkplecnmklbfaaGreatJ3PSpoilt
set_option maxRecDepth 100000
set_option maxHeartbeats 1000000
set_option linter.unusedSimpArgs false
set_option linter.unusedVariables false
set_option linter.unnecessarySimpa false
set_option linter.unusedSectionVars false
namespace Go.Sx
open Go.Mi Go.RowKit
variable [Dfr]
structure Kc (B:Nat) (w w':World):Prop where
 os:w'.os=w.os
 tape:w'.tape=w.tape
 output:w'.output=w.output
 size:w.heap.size<=w'.heap.size
 cells:∀(b:Nat) (o:Obj),w.heap[b]? =some o->o.isCells=true->w'.heap[b]? =some o
 old:∀b,b<B->w'.heap[b]? =w.heap[b]?
theorem Kc.cell {B:Nat} {w w':World} (h:Kc B w w') {a:Addr} {v:Value} (hc:w.cell? a=some v):w'.cell? a=some v:=by obtain⟨o,h1,h2⟩:=cells_of_cell hc;rw[<-hc];exact World.cell?_of_block ((h.cells _ _ h1 h2).trans h1.symm)
theorem Kc.of_grown {B:Nat} {w w':World} {row:Option Nat} (hg:w.grownBy w' row) (hB:B<=w.heap.size) (hr:∀r,row=some r->B<=r/\∃o:Obj,w.heap[r]? =some o/\o.isCells=false):Kc B w w':=by
 refine⟨hg.os,hg.tape,hg.output,hg.size,λb o hb ho=> ?_,λb hb=>hg.block b (by omega) λe=> ?_⟩
 ·refine(hg.block b ?_ λe=> ?_).trans hb
  ·rcases ci b w.heap.size with h|h
   ·exact h
   ·rw[eg h]at hb;cases hb
  ·obtain⟨_,o',h1,h2⟩:=hr b e.symm;rw[hb]at h1;cases h1;rw[ho]at h2;cases h2
 ·have :=(hr b e.symm).1;omega
section
variable {X:Nat->Prop} {N:Nat->Option Value} {B:Nat} {w w':World}
theorem At.kc {b o:Nat} {vs:List Value} (k:Kc B w w') (h:At w b o vs):At w' b o vs:=λi u hu=>k.cell (h i u hu)
theorem Lsl.kc {nn:Bool} {n m:Nat} {v:Value} {cs:List Value} (k:Kc B w w') (h:Lsl X w nn n v m cs):Lsl X w' nn n v m cs:=
 ⟨h.le,h.len,h.at'.imp id λ⟨b,o,c,h0,h1,h2,h3,h4,h5⟩=>⟨b,o,c,h0,h1,h2,h3,ca h4 k.size,At.kc k h5⟩⟩
theorem iZ (k:Kc B w w'):∀(a:Fk) (x:a.T) (v:Value),fS X N w a x v->fS X N w' a x v:=by
 intro a
 induction a with
 |sl e ih=>rintro x v ⟨vs,h1,h2⟩;exact⟨vs,h1.kc k,h2.mono ih⟩
 |os e ih=>
  intro x v h;cases x with
  |none=>exact h
  |some xs=>obtain⟨vs,h1,h2⟩:=h;exact⟨vs,h1.kc k,h2.mono ih⟩
 |_=>exact λx v h=>h
theorem Ya (k:Kc B w w'):∀(e:List Fk) (x:RT e) (l:List Value),rS X N w e x l->rS X N w' e x l
 |[],x,l,h=>h
 |[a],x,l,⟨v,h1,h2⟩=>⟨v,h1,iZ k _ _ _ h2⟩
 |a::b::s,x,l,⟨v,l',h1,h2,h3⟩=>⟨v,l',h1,iZ k _ _ _ h2,Ya k (b::s) _ _ h3⟩
theorem dR (k:Kc B w w'):∀(d:D) (m:Bool) (l:List Value),CS X N w d m l->CS X N w' d m l:=by
 intro d
 induction d with
 |ls nn e xs=>rintro m l ⟨v,ls,h2,h3,h4⟩;exact⟨v,ls,h2,h3.kc k,h4.mono (Ya k e)⟩
 |os e o=>rintro m l ⟨v,h2,h3⟩;exact⟨v,h2,iZ k _ _ _ h3⟩
 |cons d ds ih1 ih2=>rintro m l ⟨l1,l2,rfl,h1,h2⟩;exact⟨l1,l2,rfl,ih1 _ _ h1,ih2 _ _ h2⟩
 |ag d ih=>rintro m l ⟨l',h1,h2,h3⟩;exact⟨l',ih _ _ h1,h2,h3⟩
 |tu d ih=>rintro m l ⟨l',h1,h2⟩;exact⟨l',ih _ _ h1,h2⟩
 |fn f a b iha ihb=>rintro m l ⟨va,vb,h1,h2,h3⟩;exact⟨va,vb,iha _ _ h1,ihb _ _ h2,h3⟩
 |ifc t d ih=>rintro m l ⟨v,h1,h2⟩;exact⟨v,ih _ _ h1,h2⟩
 |im d o ih=>rintro m l ⟨b,l',h2,h3,h4,h5,h7,h6⟩;exact⟨b,l',h2,ca h3 k.size,h4,At.kc k h5,h7,ih _ _ h6⟩
 |ip e x o=>rintro m l ⟨b,o0,l',h2,h3,h4,h5,h6⟩;exact⟨b,o0,l',h2,ca h3 k.size,h4,At.kc k h5,Ya k _ _ _ h6⟩
 |_=>exact λm l h=>h
theorem OS.kc {g:G} {k:Nat} {o:O} (c:Kc B w w') (h:OS g w k o):OS g w' k o:=by
 cases o with
 |ob ty ds=>obtain⟨b,cs,h1,h2,h3,h4,h5⟩:=h;exact⟨b,cs,h1,h2,c.cells _ _ h3 rfl,dR c _ _ _ h4,h5⟩
 |sl ty e xs=>
  obtain⟨v,ls,h1,h2,h3,h4,h5,h6⟩:=h;exact⟨v,ls,h1,h2,⟨h3.1,h3.2.imp id λ⟨b,cap,cur,k0,k1,k2,k3⟩=>⟨b,cap,cur,k0,k1,c.cells _ _ k2 rfl,k3⟩⟩,h4,h5.mono (Ya c e),h6⟩
theorem SS.kc {n:Nat} {S0:Nat->Prop} {g0:G} {w0:World} {L:Nat->Option D} {H:Nat->Option O} {nm:Nat->Prop} {a:Act} {g:G} (k:Kc w0.heap.size w w') (h:SS n S0 g0 w0 L H nm a g w):SS n S0 g0 w0 L H nm a g w':=
 ⟨h.size,h.defers,λt d ht=>dR k _ _ _ (h.fr t d ht),⟨λx hx=>ca (h.hs.wf x hx) k.size,λi o hi=>(h.hs.os i o hi).kc k,h.hs.own,h.hs.dis⟩,
  ⟨⟨k.os.trans h.go.ch.os,k.tape.trans h.go.ch.tape,k.output.trans h.go.ch.output,b_ h.go.ch.size k.size,λb hb hn=>(k.old b hb).trans (h.go.ch.blk b hb hn)⟩,h.go.s,h.go.x,h.go.k,h.go.n,h.go.f⟩,h.wf0,h.fp,h.nm⟩
end
def ndf (o:Oper):Bool:=match o.op with
 | .defer _=>false
 |_=>true
section
variable {P:Program} {a:Act} {w:World} {next:Act->World->Prop} {Q:Exit->Act->World->Prop} {r m:Nat}
theorem kU {f:FuncId} {args:Array Value} {R:Ending->World->Prop} (h:Calls P f args w R):CallsIn (Fence.wide.inRound r) m P f args w R:=
 ⟨aa,λcs _=>let⟨e,w',fr,k,s,x⟩:=h cs;⟨e,w',fr,k,comesIn_wide.2 s,x⟩⟩
theorem nX {row:String} {args:Array Value} {R:Value->World->Prop} (h:Rows P row args w R):RowsIn (Fence.wide.inRound r) m P row args w R:=
 λc cs _=>let⟨v,w',k,s⟩:=h c cs;⟨v,w',k,stepsIn_wide.2 s⟩
theorem oV {o:Oper} (hd:ndf o=true) (h:o.wp P a w next Q):o.wpIn (Fence.wide.inRound r) m P a w next Q:=by
 refine⟨λ_ _=>trivial,?_⟩;have e:Oper.semAt (Fence.wide.inRound r).round a.eval o=execOp a.eval o:=Oper.semAt_eq _ _ _ λc hc=>by simp only[ndf,hc]at hd;cases hd
 rw[e];unfold Oper.wp at h;generalize(execOp a.eval o).run P w=res at h⊢;unfold Oper.upon at h;unfold Oper.uponIn;split at h
 ·exact h
 ·exact h
 ·exact h
 ·exact⟨(λhx=>by cases hx),kU h⟩
 ·exact⟨(λhx=>by cases hx),nX h⟩
 ·exact h
 ·exact h.elim
theorem Tj {ops:Array Oper} (hQ:¬LetsOut Q):∀{l:List Oper} {a:Act} {w:World},l.all ndf=true->wpList P ops Q l a w->wpListIn (Fence.wide.inRound r) m P ops Q l a w
 |[],a,w,_,h=>h
 |o::l,a,w,hl,h=>by
  simp only[List.all_cons,ap]at hl;unfold wpList at h;unfold wpListIn;split at h
  ·rename_i hw;rw[ab hw];rcases h with h|⟨_,h⟩
   ·exact Oper.wpIn_mono (λa w h=>Tj hQ hl.2 h) (oV hl.1 h)
   ·exact absurd h hQ
  ·rename_i hw;rw[aj hw];exact⟨λ_ _=>trivial,Tj hQ hl.2 h⟩
end
section
variable {P:Program} {Q:Exit->Act->World->Prop} {l:List Oper}
theorem UN {a : Act} {w : World} (I : (Nat -> Bool) -> Act -> World -> Prop)
  (h0:I (λ_=>false) a w) (hcg:∀d d' a w,(∀i,i<l.length->d i=d' i)->I d a w->I d' a w)
  (hstep:∀i a w,i<l.length->I (λj=>Nat.blt j i) a w->wpOp P l.toArray Q i (λa' w'=>I (λj=>bif Nat.beq j i then true else Nat.blt j i) a' w') a w)
  (hend:∀a w,I (λ_=>true) a w->Q .normal a w):wpList P l.toArray Q l a w:=by
 have main:∀(os:List Oper) (i:Nat) (a:Act) (w:World),(∀(j:Nat) o,os[j]? =some o->l[i+j]? =some o)->i+os.length=l.length->I (λj=>Nat.blt j i) a w->wpList P l.toArray Q os a w:=by
  intro os
  induction os with
  |nil=>
   intro i a w _ hl h;refine hend a w (hcg _ _ a w (λj hj=> ?_) h);show Nat.blt j i=true;rw[ay];simp at hl;omega
  |cons o os ih=>
   intro i a w ho hl h;simp only[aw]at hl;have hs:=hstep i a w (by omega) h;have hi:l[i]? =some o:=by simpa using ho 0 o rfl
   unfold wpOp at hs;simp only[db,hi]at hs;unfold wpList;have hn:∀a' w',I (λj=>bif Nat.beq j i then true else Nat.blt j i) a' w'->wpList P l.toArray Q os a' w':=λa' w' h'=>by
    refine ih (i+1) a' w' (λj o' hj=> ?_) (by omega) (hcg _ _ _ _ (λj _=> ?_) h')
    ·rw[show i+1+j=i+(j+1) by omega];exact ho (j+1) o' (by simpa using hj)
    ·show _=Nat.blt j (i+1);by_cases hji:j=i
     ·subst hji;simp [ay]
     ·rw[BL hji];simp only[cond_false];cases h1:Nat.blt j i with
      |true=>rw[ay]at h1;symm;rw[ay];omega
      |false=>
       cases h2:Nat.blt j (i+1)with
       |false=>rfl
       |true=>
        rw[ay]at h2;have :Nat.blt j i=true:=by rw[ay];omega
        rw[this]at h1;cases h1
   split
   ·rename_i hw;rw[ab hw]at hs;rcases hs with hs|hs
    ·exact .inl (Oper.wp_mono hn hs)
    ·exact .inr hs
   ·rename_i hw;rw[aj hw]at hs;exact hn _ _ hs
 refine main l 0 a w (λj o h=>by simpa using h) (by simp) ?_;refine hcg _ _ a w (λi _=> ?_) h0;cases h:Nat.blt i 0 with
 |false=>rfl
 |true=>rw[ay]at h;omega
end
section
variable {P:Program} {n:Nat} {S0:Nat->Prop} {g0 g:G} {w0 w:World} {a:Act} {Q:Exit->Act->World->Prop}
theorem ZF {L : DL} {H : Hp} {nb : Nat} {kL kH : List Nat} {ops : List Oper} {ex : Ex} {r m id : Nat} (hex : M4 P n ex) {ps : List Prop} {Lo : DL} {Ho : Hp} {nb' : Nat} (h : plX n ops ex L H nb kL kH = some (ps, Lo, Ho, nb')) (hp : AllP ps) (hle : Nat.ble nb nb' = true) (hnd : ops.all ndf = true) (hQ : ¬ LetsOut Q) (V : St n S0 g0 w0 L H nb a g w)
  (hend:∀a g w,St n S0 g0 w0 Lo Ho nb' a g w->Q .normal a w):(Code.region id ops.toArray false).wpIn (Fence.wide.inRound r) m P Q a w:=by
 obtain⟨rows,hc,hr,h1,h2⟩:=fK hex h hp;have hle:=bq hle;have fin:∀a w,RI n S0 g0 w0 ops rows L H nb (λ_=>true) a w->Q .normal a w:=λa w ⟨g,hs⟩=>hend a g w (hs.weak (λt d ht=>by rw[Tf,<-Qi];exact h1 t d ht) (λk o hk=>by rw[Tf,<-Qj];exact h2 k o hk) λk hk=>by
  rcases hk with hk|⟨i,b,hb,_,hk⟩
  ·exact ca hk hle
  ·obtain⟨_,hz⟩:=dw.1 hb;exact(hc.name b.2 (ee hz) k hk).2)
 have ini:∀w,St n S0 g0 w0 L H nb a g w->RI n S0 g0 w0 ops rows L H nb (λ_=>false) a w:=λw hs=>⟨g,hs.weak (λt d ht=>by rw[KY]at ht;exact ht) (λk o hk=>by rw[KY]at hk;exact hk) λk hk=> .inl hk⟩;refine wpIn_region_lit (Tj hQ hnd ?_);refine UN (RI n S0 g0 w0 ops rows L H nb) (ini _ V) (λd d' a w hd=>NR hc.len hd) (λi a w hi hri=> ?_) fin;have ahead_lt:∀i j,C7 ops i j->j<i:=λi j ha=>by
  induction ha with
  |edge h1 h2 h3=>exact hc.back _ _ h1 _ h2 h3
  |trans _ _ ih1 ih2=>omega
 refine H5 hc (λb hb=>hr.at i b hb) hi ?_ (λi' j ha hi'=> ?_) (λj ha=> ?_) hri
 ·cases hb:Nat.blt i i with
  |false=>rfl
  |true=>rw[ay]at hb;omega
 ·rw[ay]at hi'⊢;have :=ahead_lt _ _ ha;omega
 ·rw[ay];exact ahead_lt _ _ ha
theorem Qh {H:Hp} {b:Nat} (h:HS (A4 H) g w) (hb:GR H g b):∃o:Obj,w.heap[b]? =some o/\o.isCells=true:=by
 obtain⟨k,o,h1,h2⟩:=hb;have hos:=h.os k o h1;cases o with
 |ob ty ds=>obtain⟨b',c,k1,k2,k3,_⟩:=hos;rw[k2,bo]at h2;subst h2;exact⟨_,k3,rfl⟩
 |sl ty e xs=>
  obtain⟨v,ls,k1,k2,k3,_⟩:=hos;rw[k2]at h2;rcases k3.2 with⟨rfl,_⟩|⟨b',cap,cur,rfl,_,k4,_⟩
  ·simp [C8]at h2
  ·simp [C8]at h2;subst h2;exact⟨_,k4,rfl⟩
def sM (n:Nat) (S1:Nat->Prop) (g1:G) (w1:World) (ks0:List Nat) (L:DL) (Hn:Hc) (nb:Nat):Exit->Act->World->Prop
 | .normal,a',w'=>∃g' H' nb' ρ,St n S1 g1 w1 [] H' nb' a' g' w'/\G3 ρ ks0 L Hn nb=true/\Bo L (Ax L)=L.map (λp=>(p.1,p.2.ren (rn ρ)))/\(Hn.map λp=>A4 H' (rn ρ p.1))=Hn.map λp=>some (p.2.ren (rn ρ))
 |_,_,_=>False
theorem uY {S1:Nat->Prop} {g1:G} {w1:World} {ks0:List Nat} {L:DL} {Hn:Hc} {nb bk:Nat}:¬LetsOut (Exit.inBlock bk (sM n S1 g1 w1 ks0 L Hn nb)):=λ⟨_,_,h⟩=>h
theorem AbX {S1:Nat->Prop} {g1:G} {w1:World} {ks0:List Nat} {L:DL} {Hn:Hc} {nb nb':Nat} {σ:Sg} (V:Sp n S1 g1 w1 σ nb' a g w) (ρ:LO) (h1:G3 ρ ks0 L Hn nb=true:=by kernel_rfl) (h2:Bo L (Ax L)=L.map (λp=>(p.1,p.2.ren (rn ρ))):=by kernel_rfl) (h3:(Hn.map λp=>A4 σ.2 (rn ρ p.1))=(Hn.map λp=>some (p.2.ren (rn ρ))):=by kernel_rfl):sM n S1 g1 w1 ks0 L Hn nb .normal a w:=
 ⟨g,σ.2,nb',ρ,SS.weak V (λt d h=>by cases h) (λ_ _ h=>h) (λ_ h=>h),h1,h2,h3⟩
theorem T2 {H:Hp} {r:Nat->Nat}:∀{H':Hc},(H'.map λp=>A4 H (r p.1))=(H'.map λp=>some (p.2.ren r))->Oh H r H'
 |[],_=>trivial
 |(j,o)::R,h=>by simp only[bg,List.cons.injEq]at h;exact⟨h.1,T2 h.2⟩
theorem SS.lt0 {L:Nat->Option D} {H:Nat->Option O} {nm:Nat->Prop} (h:SS n S0 g0 w0 L H nm a g w):w0.heap.size<=w.heap.size:=h.go.ch.size
theorem St.based {S1:Nat->Prop} {L L1:DL} {H H1:Hp} {nb nb1:Nat} {a1:Act} {g1:G} {w1:World} (h:St n S0 g0 w0 L H nb a g w) (hf:∀x,S1 x->S0 x\/w0.heap.size<=x) (k:St n S1 g w L1 H1 nb1 a1 g1 w1):St n S0 g0 w0 L H1 nb1 a g1 w1:=
 ⟨h.size,h.defers,λt d ht=>(h.fr t d ht).mv k.go,k.hs,h.go.trans k.go h.wf0 hf,h.wf0,λi o hi b hb=>(k.fp i o hi b hb).elim (hf b) λhx=> .inr (b_ h.lt0 hx),k.nm⟩
theorem oG {α : Type} {L : DL} {nb t x y i1 i2 bk m gf N : Nat} {ops : List Oper} {ty : TypeId} {pos : String} {af : Array Edge} {lb : Array Value} {Kp : World -> World -> Prop} {S Sp : List α -> Prop} {ks0 : List Nat}
  (hD:Dfr.ds=([]:List Deferred)) (Y:∀k v,g0.N k=some v->k∈ks0) (Hi:List α->Hc) (V:St n S0 g0 w0 L (Gs (Hi [])) nb a g w) (hx:Nat.blt x n=true) (hy:Nat.blt y n=true) (hL:(Ax L).all (λu=> !(Nat.beq u x||Nat.beq u y))=true)
  (hev:a.tmps.getD t undef= .func (.func gf) #[] lb) (hcal:Go.Mi.Callee P gf) (enc:α->Value) (hseq:SeqStopsK Fence.wide m P gf lb (λz=> #[enc z]) Kp S Sp N w)
  (hKt:∀{A B C:World},Kp A B->Kp B C->Kp A C) (hKb:∀(W:World) (l:Nat) (o o':Obj),W.heap[l]? =some o->o.isCells=false->Kp W (W.putObj l o'))
  (hKp:∀pre g1 W g2 W',St n S0 g0 w0 L (Gs (Hi pre)) nb a g1 W->Go (GR (Gs (Hi pre)) g1) g1 W g2 W'->Kp W W')
  (hKr:Kp w w) (hKg:∀(W W':World) row,Kp w W->W.grownBy W' row->(∀r,row=some r->∃o:Obj,W.heap[r]? =some o/\o.isCells=false)->Kp w W')
  (dv:α->D) (hdv:∀pre z g1 W,St n S0 g0 w0 L (Gs (Hi pre)) nb a g1 W->Kp w W->Sm g1 W (dv z) (enc z))
  (hbody:∀(r:Nat) pre (z:α) g1 W a1,pre.length<N->St n (GR (Gs (Hi pre)) g1) g1 W ((y,dv z)::L) (Gs (Hi pre)) nb a1 g1 W->(Code.region i2 ops.toArray false).wpIn (Fence.wide.inRound r) (m+1-1-1) P (Exit.inBlock bk (sM n (GR (Gs (Hi pre)) g1) g1 W ks0 L (Hi (pre++[z])) nb)) a1 W)
  (hdone:∀(D:Dfr) (Dk:Nat) xs a' g1 W,D.ds=[⟨.collected Dk,#[]⟩]->w0.heap.size<=Dk->S xs->W.heap[Dk]? =some (.deferred (some []))->bV (GR (Gs (Hi xs)) g1) g1 W S0 g0 w0-> @SS D n (GR (Gs (Hi xs)) g1) g1 W (D4 L) (A4 (Gs (Hi xs))) (· <nb) a' g1 W->Q .normal a' W):
  (Code.rangeFunc (.tmp t) #[x] (Code.region i1 #[⟨some y,.assign (.tmp x),ty,pos,af,none⟩] false) (Code.block bk (Code.region i2 ops.toArray false))).wp P Q a w:=by
 rw[ay]at hx hy;have hLn:∀u d,D4 L u=some d->u≠x/\u≠y:=λu d hu=>by have :=ax.1 hL u (cr.2 ⟨_,OD hu,rfl⟩);simp only[fh,Bool.or_eq_false_iff]at this;exact⟨Nat.ne_of_beq_eq_false this.1,Nat.ne_of_beq_eq_false this.2⟩
 have rebase:∀{pre:List α} {g1:G} {W:World} (z:α),St n S0 g0 w0 L (Gs (Hi pre)) nb a g1 W->Kp w W->St n (GR (Gs (Hi pre)) g1) g1 W ((y,dv z)::L) (Gs (Hi pre)) nb (({tmps:=a.tmps.setIfInBounds x (enc z),defers:=[]}:Act).put (some y) (enc z)) g1 W:=λ{pre g1 W} z h hkp=>by
  refine⟨by simp [Act.put,h.size],by simp [Act.put,hD],λu d hu=> ?_,h.hs,Go.refl _ _ _ λq ⟨k,o,h1,h2⟩=>h.hs.own k o h1 q h2,h.hs.wf,λk o hk b hb=> .inl ⟨k,o,hk,hb⟩,h.nm⟩;simp only[D4]at hu;by_cases e:y=u
  ·subst e;simp only[et,cond_true,Option.some.injEq]at hu;subst hu;have :(({tmps:=a.tmps.setIfInBounds x (enc z),defers:=[]}:Act).put (some y) (enc z)).tmps.getD y undef=enc z:=by simp [Act.put,h.size,hy]
   rw[this];exact hdv pre z g1 W h hkp
  ·rw[BL e]at hu;have hne:=hLn u d hu;have :(({tmps:=a.tmps.setIfInBounds x (enc z),defers:=[]}:Act).put (some y) (enc z)).tmps.getD u undef=a.tmps.getD u undef:=by simp [Act.put,dl e,dl (λq=>hne.1 q.symm:x≠u)]
   rw[this];exact h.fr u d hu
 refine(wpIn_wide (n:=m+1)).1 ?_;refine wpIn_rangeFunc_ownF rfl (by omega) (gf:=gf) (lb:=lb) hev aa (λargs W=> ?_) (hseq:SeqStopsK Fence.wide (m+1-1) P gf lb (λz=> #[enc z]) Kp S Sp N w) hKt (λW l o o' _ h1 h2 _=>hKb W l o o' h1 h2) (Below.refl _ _) (λz=>rfl)
  (λpre W=>∃g1,St n S0 g0 w0 L (Gs (Hi pre)) nb a g1 W/\Kp w W) (λ_ _ _=>False) (λs W W' row ⟨g1,h,hkp⟩ hg hr=>⟨g1,SS.kc (Kc.of_grown hg h.lt0 λr e=>⟨b_ V.lt0 (hr r e).1,(hr r e).2⟩) h,hKg _ _ _ hkp hg λr e=>(hr r e).2⟩) (λ_ _ _ _ _ h=>h.elim) ⟨g,V,hKr⟩
  (λz=>({tmps:=a.tmps.setIfInBounds x (enc z),defers:=[]}:Act).put (some y) (enc z)) (λl z W K hK=> ?_) (λl pre z W ⟨g1,h,hkp⟩ hlen=> ?_) (λDk xs W hDk hSx ⟨g1,h,_⟩ hk=> ?_) (λ_ _ _ _ _ _ h=>h.elim)
 ·obtain⟨fn,h1,h2,h3⟩:=hcal.ok;simp only[callFunc,run_program,h1,h2,h3,Sem.run_bind,Result.andThen_ok];simp only[iv,if_false,Sem.run_pure]
 ·refine wpIn_region_lit (l:=[⟨some y,.assign (.tmp x),ty,pos,af,none⟩]) ?_;refine wpListIn_step λK' hK'=> ?_;have e:(({tmps:=a.tmps.setIfInBounds x (enc z),defers:=[]}:Act)).eval (.tmp x)=enc z:=by simp [Act.eval,V.size,hx]
  simp only[Region.wanted,if_true];refine⟨λ_ _=>trivial,?_⟩;rw[Oper.semAt_eq _ _ _ (by intro c hc;cases hc)];have e2:(#[x].zip #[enc z]).foldl (λt (p:Tmp×Value)=>t.setIfInBounds p.1 p.2) a.tmps=a.tmps.setIfInBounds x (enc z):=by simp
  simp only[execOp];exact hK' _ _ (wpListIn_nil (by
   have :=hK;simpa[Exit.then,Act.eval,V.size,hx]using this))
 ·refine wpIn_mono (wpIn_block (hbody l pre z g1 W _ hlen (rebase z h hkp))) ?_;intro e a' W' hq;cases e with
  |normal=>
   obtain⟨g2,H',nb',ρ,k,c1,c2,c3⟩:=hq;have hf:∀q,GR (Gs (Hi pre)) g1 q->S0 q\/w0.heap.size<=q:=λq ⟨i,o,h1,h2⟩=>h.fp i o h1 q h2;have hb:=h.based hf k;refine⟨⟨k.go.ch.size,λi o hi ho=> ?_⟩,hKp pre g1 W g2 W' h k.go,?_⟩
   ·refine(k.go.ch.blk i ?_ λhfi=> ?_).trans hi
    ·rcases ci i W.heap.size with h'|h'
     ·exact h'
     ·rw[eg h']at hi;cases hi
    ·obtain⟨o',h1,h2⟩:=Qh h.hs hfi;rw[hi]at h1;cases h1;rw[ho]at h2;cases h2
   ·obtain⟨g3,h3⟩:=St.ren Y hb ρ L (Hi (pre++[z])) nb c1 c2 (T2 c3);exact⟨g3,h3,hKt hkp (hKp pre g1 W g2 W' h k.go)⟩
  |_=>exact hq.elim
 ·refine hdone ⟨[⟨.collected Dk,#[]⟩]⟩ Dk xs _ g1 W rfl (b_ V.lt0 hDk) hSx hk ⟨λq ⟨i,o,h1,h2⟩=>h.fp i o h1 q h2,h.go,h.wf0⟩ ?_;refine @SS.mk ⟨[⟨.collected Dk,#[]⟩]⟩ _ _ _ _ _ _ _ _ _ _ h.size ?_ h.fr h.hs (Go.refl _ _ _ λq ⟨i,o,h1,h2⟩=>h.hs.own i o h1 q h2) h.hs.wf (λi o hi b hb=> .inl ⟨i,o,hi,hb⟩) h.nm;show _::a.defers=_;rw[h.defers,hD];rfl
theorem aO (hD : Dfr.ds = ([] : List Deferred)) (m : Nat) {f : FuncId} {fn : Func} {code : Code} {c : Con} {nb : Nat} (hf : P.funcs[f]? = some fn) (hname : (fn.name == "runtime.NumGoroutine") = false) (hb : fn.body = some code) (hn : fn.ntmps = n) (hl : Nat.ble c.args.length n = true) (hone : c.args.all D.one = true) (hk : (Ax c.H0).all (Nat.blt · nb) = true)
  (h:∀(g0:G) (w0:World) (a:Act) (g:G) (w:World),(∀k v,g0.N k=some v->k∈Ax c.H0)->St n (c.foot g0) g0 w0 (LJ c.args 0) (Gs c.H0) nb a g w->code.wp P (bodyPostM Fence.wide m P fn (QK λv w'=>∃g',D7 c g0 w0 v g' w')) a w):ConOk P f c:=by
 refine⟨⟨fn,hf,hname,by rw[hb];rfl⟩,λvs g w V hN hv=> ?_⟩;subst hn;exact callsIn_wide.1 (callsIn_of_wp_marks (n:=m) hf hb aa (wpIn_wide.2 (h g w _ g w hN (St.begin hD hl hone hk V hN hv))))
theorem unb {Dk nb:Nat} {H1:Hp} {g1:G} {w1:World} {σ:Sg} (hk:w1.heap[Dk]? =some (.deferred (some []))) (hH:HS (A4 H1) g1 w1) (hB:bV (GR H1 g1) g1 w1 S0 g0 w0) (V:Sp n (GR H1 g1) g1 w1 σ nb a g w):Sp n S0 g0 w0 σ nb a g w/\w.heap[Dk]? =some (.deferred (some [])):=by
 have hlt:Dk<w1.heap.size:=by
  rcases ci Dk w1.heap.size with h'|h'
  ·exact h'
  ·rw[eg h']at hk;cases hk
 have k:=V.st;refine⟨⟨k.size,k.defers,k.fr,k.hs,hB.go.trans k.go hB.wf hB.s,hB.wf,λi o hi b hb=>(k.fp i o hi b hb).elim (hB.s b) λhx=> .inr (b_ hB.go.ch.size hx),k.nm⟩,(k.go.ch.blk Dk hlt λhf=> ?_).trans hk⟩;obtain⟨o,o1,o2⟩:=Qh hH hf;rw[hk]at o1;cases o1;cases o2
theorem AaZ {m Dk : Nat} {fn : Func} {c : Con} {e : Exit} {σ : Sg} {nb : Nat} (hD : Dfr.ds = [⟨.collected Dk, #[]⟩]) (hDk : w0.heap.size <= Dk) (hk : w.heap[Dk]? = some (.deferred (some []))) (he : e = .normal \/ e = .ret) (V : Sp n (c.foot g0) g0 w0 σ nb a g w) (ds : List D) (Hx : Hp) (hr : weak (Wt ds) c.res = c.res) (h1 : EP Hx c.H1 true) (h : J1 P σ.1 σ.2 fn.results.toList = some ds := by kernel_rfl) (hx : FJ σ.2 (Ax Hx) = Hx := by kernel_rfl) :
  bodyPostM Fence.wide m P fn (QK λv w'=>∃g',D7 c g0 w0 v g' w') e a w:=by
 have key:∀(r:Hc),EP Hx r true->EP σ.2 r true:=by
  intro r
  induction r with
  |nil=>exact λh=>h
  |cons p r ih=>
   obtain⟨k,o⟩:=p;exact λh=>⟨JV (ts:=Ax Hx) (by rw[hx];exact h.1),ih h.2⟩
 have hS1:=SS.kc (Kc.of_grown (grownBy_putObj' w Dk (.deferred none)) V.st.go.ch.size (λr e=>by cases e;exact⟨hDk,_,hk,rfl⟩)) V.st;obtain⟨r,k1,k2⟩:=tM (c:=c) (g1:=g0) (w1:=w0) ⟨λ_ h=> .inl h,Go.refl _ _ _ hS1.go.s,hS1.wf0⟩ hS1 h hr (key _ h1);have h2:LeavesInM Fence.wide m P fn a.tmps (QK λv w'=>∃g',D7 c g0 w0 v g' w') a.defers .returning w:=by rw[V.st.defers,hD];exact⟨nofun,.inl ⟨Dk,w.putObj Dk (.deferred none),rfl,run_takeDeferred hk,⟨r,k1,r,rfl,k2⟩⟩⟩
 rcases he with rfl|rfl<;>exact h2
end
end Go.Sx
namespace Go.Sx
open Go.Mi Go.RowKit
variable [Dfr]
end Go.Sx
namespace Go.Sx
open Go.Mi Go.RowKit
variable [Dfr]
section
variable {P:Program} {n:Nat} {L:DL} {H:Hp} {σ:Sg} {S0:Nat->Prop} {g0 g:G} {w0 w:World} {nb:Nat} {a:Act} {Q:Exit->Act->World->Prop} [Dfr]
def tH (H:Hp):Hc->List (Option O)
 |[]=>[]
 |p::r=>A4 H p.1::tH H r
def tG:Hc->List (Option O)
 |[]=>[]
 |p::r=>some p.2::tG r
theorem tF (H:Hp):∀r:Hc,tH H r=tG r->EP H r true
 |[],_=>trivial
 |(_,_)::r,h=>by obtain⟨h1,h2⟩:=List.cons.inj h;exact⟨h1,tF H r h2⟩
def z9 (P:Program) (σ:Sg) (fn:Func) (r:D):Option D:=(J1 P σ.1 σ.2 fn.results.toList).map λds=>weak (Wt ds) r
theorem iV (hD:Dfr.ds=([]:List Deferred)) {fn:Func} {c:Con} {e:Exit} (he:e= .normal\/e= .ret) (V:Sp n (c.foot g0) g0 w0 σ nb a g w) (hr:z9 P σ fn c.res=some c.res:=by kernel_rfl) (h1:tH σ.2 c.H1=tG c.H1:=by kernel_rfl):bodyPost P fn (QK λv w'=>∃g',D7 c g0 w0 v g' w') e a w:=by obtain⟨ds,h2,h3⟩:=ak.1 hr;exact tK hD he V.st h2 h3 (tF _ _ h1)
theorem tL {T:Type} {m v:T} (hm:m=v) {cf:T->Con} (hD:Dfr.ds=([]:List Deferred)) {fn:Func} {e:Exit} (he:e= .normal\/e= .ret) (V:Sp n ((cf m).foot g0) g0 w0 σ nb a g w) (hr:z9 P σ fn (cf v).res=some (cf v).res:=by kernel_rfl) (h1:tH σ.2 (cf v).H1=tG (cf v).H1:=by kernel_rfl):bodyPost P fn (QK λv w'=>∃g',D7 (cf m) g0 w0 v g' w') e a w:=by subst hm;exact iV hD he V hr h1
theorem Sp.len (V:Sp n S0 g0 w0 σ nb a g w) (t:Nat) {nn:Bool} {e:List Fk} {xs:List (RT e)} (ht:D4 σ.1 t=some (.ls nn e xs)):xs.length<=9223372036854775807:=V.st.len t ht
theorem Sp.lens (V:Sp n S0 g0 w0 σ nb a g w) (k:Nat) {te:TypeId} {e:List Fk} {xs:List (RT e)} (hk:A4 σ.2 k=some (.sl te e xs)):xs.length<=9223372036854775807:=V.st.lens k hk
theorem cy (nb : Nat) {f : FuncId} {fn : Func} {code : Code} {c : Con} (hf : P.funcs[f]? = some fn) (hb : fn.body = some code) (hn : fn.ntmps = n)
  (h:∀{g0:G} {w0:World} {a:Act} {g:G} {w:World},(∀k v,g0.N k=some v->k∈Ax c.H0)->Sp n (c.foot g0) g0 w0 (LJ c.args 0,Gs c.H0) nb a g w->code.wp P (bodyPost P fn (QK λv w'=>∃g',D7 c g0 w0 v g' w')) a w) (hD:Dfr.ds=([]:List Deferred):=by rfl) (hname:(fn.name== "runtime.NumGoroutine")=false:=by rfl) (hl:Nat.ble c.args.length n=true:=by rfl) (hone:c.args.all D.one=true:=by rfl) (hk:(Ax c.H0).all (Nat.blt · nb)=true:=by rfl):ConOk P f c:=
 kJ hD hf hname hb hn hl hone hk λ_ _ _ _ _ h0 V=>h h0 V
theorem iax {p q r:Int} (h:(-9223372036854775808<=p+q/\p+q<=9223372036854775807)/\p+q=r:=by omega):A6 .i64 p q=r:=(iD h.1.1 h.1.2).trans h.2
theorem isx {p q r:Int} (h:(-9223372036854775808<=p-q/\p-q<=9223372036854775807)/\p-q=r:=by omega):EO .i64 p q=r:=(Nz h.1.1 h.1.2).trans h.2
theorem imx {p q r:Int} (h:(-9223372036854775808<=p*q/\p*q<=9223372036854775807)/\p*q=r:=by omega):BE .i64 p q=r:=(WK h.1.1 h.1.2).trans h.2
abbrev Cq (a:List D) (h:Hc) (r:D):Con:=⟨a,h,r,h⟩
end
end Go.Sx
namespace Go.Sx
open Go.Mi Go.RowKit
variable [Dfr]
inductive Rk where
 |no
 |x (r:Rx)
 |y (r:R2)
 |z (q:CR) (ks:List Nat)
def Acb (P:Program):Rk->Prop
 | .x (.call q)=>ConOk P q.f q.c
 | .z q _=>ConOk P q.f q.c
 |_=>True
structure Rp (P:Program)where
 k:Rk
 ps:List Prop
 h:AllP ps
 ok:Acb P k
abbrev Rs (P:Program):=List (Nat×Rp P)
def lkP {P:Program}:Rs P->Nat->Option (Rp P)
 |[],_=>none
 |(s,v)::r,t=>bif Nat.beq s t then some v else lkP r t
def vY:List Prop->List Prop->List Prop
 |[],r=>r
 |p::l,r=>p::vY l r
theorem Yk:∀{l r:List Prop},AllP l->AllP r->AllP (vY l r)
 |[],_,_,h=>h
 |_::_,_,h,k=>⟨h.1,Yk h.2 k⟩
def mY {P:Program}:Rs P->List Prop
 |[]=>[]
 |p::r=>vY p.2.ps (mY r)
theorem IX {P:Program}:∀C:Rs P,AllP (mY C)
 |[]=>trivial
 |p::r=>Yk p.2.h (IX r)
def T_ (E:bU) {P:Program} (C:Rs P):Ex:=λi L H nb o=>match lkP C i with
 |none=>tU E L H nb o.op
 |some r=>match r.k with
  | .no=>tU E L H nb o.op
  | .x q=>WY E [(i,q)] i L H nb o
  | .y q=>xI E [] [(i,q)] i L H nb o
  | .z q ks=>xB q ks L H o.op
theorem J2 {n:Nat} {E:bU} {P:Program} (hZ:XA E.P E.Z) (hP:E.P=P) (C:Rs P):M4 E.P n (T_ E C):=by
 subst hP;intro i L H nb o e ps h hp;unfold T_ at h;split at h
 ·exact HP (C:=[]) hZ aa i L H nb o e ps h hp
 ·rename_i r _;obtain⟨k,qs,hq,ok⟩:=r;simp only at h;split at h
  ·exact HP (C:=[]) hZ aa i L H nb o e ps h hp
  ·rename_i q _;refine HP (C:=[(i,q)]) hZ ?_ i L H nb o e ps h hp;cases q<;>first |exact aa|exact⟨ok,aa⟩
  ·exact qX (C:=[]) hZ aa i L H nb o e ps h hp
  ·obtain⟨ds,op,ty,pos,af,gu⟩:=o;exact qJ ok h hp
def kpL (ops:List Oper) (L:DL) (tg:List Nat):List Nat:=
 let ns:=ops.filterMap (·.dst)
 let rd:=ops.flatMap (LL ops)
 (ns++(Ax L).filter λt=> !CN t ns).filter λt=>cond (CN t ns&&CN t rd) (CN t tg) (!CN t tg)
abbrev T9 (n:Nat) (ops:List Oper) (ex:Ex) (σ:Sg) (nb:Nat) (tg:List Nat) (nb':Nat):Px:=plX n ops ex σ.1 σ.2 nb (kpL ops σ.1 tg) (List.range nb')
section
variable {P:Program} {n:Nat} {L:DL} {H:Hp} {σ:Sg} {S0:Nat->Prop} {g0 g:G} {w0 w:World} {nb:Nat} {a:Act} {Q:Exit->Act->World->Prop}
theorem NT {id : Nat} {dr : Bool} {ops : List Oper} {ex : Ex} (hm : P.follows .mixedOrders = true) (hex : M4 P n ex) (ps : List Prop) (hp : AllP ps) (tg : List Nat) (nb' : Nat) (V : Sp n S0 g0 w0 σ nb a g w) (hend : ∀ {a g w}, Sp n S0 g0 w0 (xS (T9 n ops ex σ nb tg nb')) nb' a g w -> Q .normal a w)
  (h:xP (T9 n ops ex σ nb tg nb')=some (ps,nb')) (hle:Nat.ble nb nb'=true):(Code.region id ops.toArray dr).wp P Q a w:=
 UM hm hex (cB h) hp hle V λ_ _ _ h=>hend h
def mS (ps:List Prop) (h:AllP ps):Rp P:=⟨.no,ps,h,aa⟩
def OZ (p:Prop) (h:p):Rp P:=⟨.no,[p],⟨h,aa⟩,aa⟩
def NI (p:Prop) (h:p:=by omega):Rp P:=⟨.no,[p],⟨h,aa⟩,aa⟩
def Jo (z:Int) (ps:List Prop) (h:AllP ps):Rp P:=⟨.x (.oi z),ps,h,aa⟩
def TX (b:Bool) (ps:List Prop) (h:AllP ps):Rp P:=⟨.x (.ob b),ps,h,aa⟩
def HU (d:D) (ps:List Prop) (h:AllP ps):Rp P:=⟨.x (.ov d),ps,h,aa⟩
def QQ:Rp P:=⟨.x .own,[],aa,aa⟩
def QP (r:R2) (ps:List Prop) (h:AllP ps):Rp P:=⟨.y r,ps,h,aa⟩
def AC {f:FuncId} {c:Con} (h:ConOk P f c) (ρ σ:LO):Rp P:=⟨.x (.call ⟨f,c,ρ,σ⟩),[CR.exp ⟨f,c,ρ,σ⟩=CR.exp ⟨f,c,ρ,σ⟩],⟨rfl,aa⟩,h⟩
def AS {f:FuncId} {c:Con} (h:ConOk P f c):Rp P:=AC h [] []
def Jp {f:FuncId} {c:Con} (h:ConOk P f c) (ρ σ:LO) (ays:List D) (os:List (Option O)):Rp P:=⟨.x (.call ⟨f,c,ρ,σ⟩),[nd ays os],⟨rfl,aa⟩,h⟩
def Kf {f:FuncId} {c:Con} (h:ConOk P f c) (ks:List Nat) (ays:List D):Rp P:=⟨.z ⟨f,c,[],[]⟩ ks,[ays=ays],⟨rfl,aa⟩,h⟩
def AN (i m:Nat) (h:i<m:=by omega):Rp P:=⟨.no,[0<=(i:Int)/\(i:Int)<(m:Int)],⟨⟨dt i,Int.ofNat_lt.2 h⟩,aa⟩,aa⟩
def Sk (i:Int) (m:Nat) (h:0<=i/\i<m:=by omega):Rp P:=⟨.no,[0<=i/\i<m],⟨h,aa⟩,aa⟩
def FA (p q r:Nat) (h:p+q=r/\r<=9223372036854775807:=by omega):Rp P:=⟨.x (.oi r),[A6 .i64 p q=r],⟨iax ⟨⟨by omega,by omega⟩,by omega⟩,aa⟩,aa⟩
abbrev CF (p:Nat) (h:p+1=p+1/\p+1<=9223372036854775807:=by omega):Rp P:=FA p 1 (p+1) h
def HV (p q r:Nat) (h:p*q=r/\r<=9223372036854775807:=by omega):Rp P:=⟨.x (.oi r),[BE .i64 p q=r],⟨by
 have h1:(p:Int)*q=r:=by rw[<-h.1];exact(fa p q).symm
 exact imx ⟨⟨by omega,by omega⟩,h1⟩,aa⟩,aa⟩
def Ie (p q r:Nat) (h:q+r=p/\p<=9223372036854775807:=by omega):Rp P:=⟨.x (.oi r),[EO .i64 p q=r],⟨isx ⟨⟨by omega,by omega⟩,by omega⟩,aa⟩,aa⟩
def Rja (p q:Int) (h: -9223372036854775808<=p+q/\p+q<=9223372036854775807:=by omega):Rp P:=⟨.x (.oi (p+q)),[A6 .i64 p q=p+q],⟨iD h.1 h.2,aa⟩,aa⟩
def Ub (p q:Int) (h: -9223372036854775808<=p-q/\p-q<=9223372036854775807:=by omega):Rp P:=⟨.x (.oi (p-q)),[EO .i64 p q=p-q],⟨Nz h.1 h.2,aa⟩,aa⟩
def M6 (p q:Nat) (h:0<q:=by omega):Rp P:=⟨.x (.oi ((p%q:Nat):Int)),[DY p q=((p%q:Nat):Int),(q:Int)≠0],⟨(g8 (dt p)).trans (Int.natCast_emod p q).symm,by omega,aa⟩,aa⟩
def V9 (p q:Nat) (h:0<q/\p<=9223372036854775807:=by omega):Rp P:=⟨.x (.oi ((p/q:Nat):Int)),[QU .i64 p q=((p/q:Nat):Int),(q:Int)≠0],⟨(wQ (dt p) (dt q) (by omega)).trans (Int.natCast_ediv p q).symm,by omega,aa⟩,aa⟩
def If (q:Nat):Rp P:=⟨.no,[0<=(q:Int)],⟨dt q,aa⟩,aa⟩
def Jn (p:Nat) (h:p<=18446744073709551615:=by omega):Rp P:=⟨.x (.oi p),[IntKind.wrap .u64 p=p],⟨Uf (by omega) (by omega),aa⟩,aa⟩
def Rwi (p:Nat) (h:p<=9223372036854775807:=by omega):Rp P:=⟨.x (.oi p),[IntKind.wrap .i64 p=p],⟨Er (by omega) (by omega),aa⟩,aa⟩
def Ga {p:Prop} [Decidable p] (h:p):Rp P:=⟨.x (.ob true),[decide p=true],⟨decide_eq_true h,aa⟩,aa⟩
def CH {p:Prop} [Decidable p] (h:¬p):Rp P:=⟨.x (.ob false),[decide p=false],⟨decide_eq_false h,aa⟩,aa⟩
def bN {p:Prop} [Decidable p] (h:¬p):Rp P:=⟨.x (.ob true),[(!decide p)=true],⟨by rw[decide_eq_false h];rfl,aa⟩,aa⟩
def Gd {p:Prop} [Decidable p] (h:p):Rp P:=⟨.x (.ob false),[(!decide p)=false],⟨by rw[decide_eq_true h];rfl,aa⟩,aa⟩
def GJ (p q k:Nat) (h:(p+q)*k<=140737488355328:=by first |omega|(simp only[ah,au,ao,az,aw,av,cg,d_]<;>omega)|(simp<;>omega)) (hk:Nat.blt 0 k=true:=by rfl):Rp P:=⟨.no,[p+q<=9223372036854775807,(p+q)*k<=140737488355328],⟨by
 have h1:0<k:=by simpa using hk
 have h2:(p+q)*1<=(p+q)*k:=Nat.mul_le_mul_left _ h1;omega,h,aa⟩,aa⟩
theorem AbN (h m:Nat) (hh:h<=m):FG none (some (h:Int)) none m m:=⟨aa,dt h,aa,nofun,br _,hh,an _⟩
def Zi (h m:Nat) (hh:h<=m:=by omega):Rp P:=⟨.no,[FG none (some (h:Int)) none m m],⟨AbN h m hh,aa⟩,aa⟩
theorem AbL (l m:Nat) (hh:l<=m):FG (some (l:Int)) none none m m:=⟨dt l,aa,aa,nofun,hh,an _,an _⟩
def NJ (l m:Nat) (hh:l<=m:=by omega):Rp P:=⟨.no,[FG (some (l:Int)) none none m m],⟨AbL l m hh,aa⟩,aa⟩
theorem AbM (l h m:Nat) (hh:l<=h/\h<=m):FG (some (l:Int)) (some (h:Int)) none m m:=⟨dt l,dt h,aa,nofun,hh.1,hh.2,an _⟩
def zN (l h m:Nat) (hh:l<=h/\h<=m:=by omega):Rp P:=⟨.no,[FG (some (l:Int)) (some (h:Int)) none m m],⟨AbM l h m hh,aa⟩,aa⟩
def Rmn (p q:Nat):Rp P:=⟨.x (.oi ((min p q:Nat):Int)),[(if(q:Int)<p then(q:Int)else p)=((min p q:Nat):Int)],⟨by split<;>omega,aa⟩,aa⟩
def Rmx (p q:Nat):Rp P:=⟨.x (.oi ((max p q:Nat):Int)),[(if(q:Int)>p then(q:Int)else p)=((max p q:Nat):Int)],⟨by split<;>omega,aa⟩,aa⟩
def mT (x b:Nat) (h:b*x<=281474976710656/\x<=9223372036854775807:=by omega):Rp P:=⟨.no,[(x:Int)=x,0<=(x:Int),b*x<=281474976710656,(x:Int)<=9223372036854775807],⟨rfl,dt x,h.1,by omega,aa⟩,aa⟩
def U3 (H:Hp):List Nat->Hc
 |[]=>[]
 |k::r=>match A4 H k with
  |some o=>(k,o)::U3 H r
  |none=>U3 H r
def Nx {ι:Type} (n:Nat) (S0:Nat->Prop) (g0:G) (w0:World) (σ:Sg) (kL kH:List Nat) (nb:Nat) (F:ι->Nat×DL×Hc×Prop) (s:ι):Act->World->Prop:=λa w=>
 ∃s',(F s').1<(F s).1/\(F s').2.2.2/\∃g',Sp n S0 g0 w0 ((F s').2.1++Bo σ.1 kL,Gs ((F s').2.2.1++U3 σ.2 kH)) nb a g' w
theorem AD {ι : Type} {code : Code} {ks0 : List Nat} (Y : ∀ k v, g0.N k = some v -> k ∈ ks0) (V : Sp n S0 g0 w0 σ nb a g w) (F : ι -> Nat × DL × Hc × Prop) (kL kH : List Nat) (nb' : Nat) (s0 : ι) (ρ : LO) (hP : (F s0).2.2.2)
  (step:∀s a g w,(F s).2.2.2->Sp n S0 g0 w0 ((F s).2.1++Bo σ.1 kL,Gs ((F s).2.2.1++U3 σ.2 kH)) nb' a g w->code.wp P (Exit.then (Nx n S0 g0 w0 σ kL kH nb' F s) Q) a w)
  (h1:G3 ρ ks0 ((F s0).2.1++Bo σ.1 kL) ((F s0).2.2.1++U3 σ.2 kH) nb'=true:=by kernel_rfl) (h2:Bo σ.1 (Ax ((F s0).2.1++Bo σ.1 kL))=(((F s0).2.1++Bo σ.1 kL).map λp=>(p.1,p.2.ren (rn ρ))):=by kernel_rfl) (h3:(((F s0).2.2.1++U3 σ.2 kH).map λp=>A4 σ.2 (rn ρ p.1))=(((F s0).2.2.1++U3 σ.2 kH).map λp=>some (p.2.ren (rn ρ))):=by kernel_rfl):(Code.loop code).wp P Q a w:=
 wI Y V (λs=>(F s).1) (λs=>(F s).2.1++Bo σ.1 kL) (λs=>(F s).2.2.1++U3 σ.2 kH) (λs=>(F s).2.2.2) nb' s0 ρ hP step h1 h2 h3
theorem Av {ι : Type} {σ' : Sg} {ks0 : List Nat} {kL kH : List Nat} {nb' : Nat} {F : ι -> Nat × DL × Hc × Prop} {s : ι} (Y : ∀ k v, g0.N k = some v -> k ∈ ks0) (V : Sp n S0 g0 w0 σ nb a g w) (s' : ι) (ρ : LO) (hP : (F s').2.2.2) (hm : (F s').1 < (F s).1 := by dsimp only <;> omega)
  (h1:G3 ρ ks0 ((F s').2.1++Bo σ'.1 kL) ((F s').2.2.1++U3 σ'.2 kH) nb'=true:=by kernel_rfl) (h2:Bo σ.1 (Ax ((F s').2.1++Bo σ'.1 kL))=(((F s').2.1++Bo σ'.1 kL).map λp=>(p.1,p.2.ren (rn ρ))):=by kernel_rfl) (h3:(((F s').2.2.1++U3 σ'.2 kH).map λp=>A4 σ.2 (rn ρ p.1))=(((F s').2.2.1++U3 σ'.2 kH).map λp=>some (p.2.ren (rn ρ))):=by kernel_rfl):Nx n S0 g0 w0 σ' kL kH nb' F s a w:=
 v9 Y V (m:=λs=>(F s).1) (Li:=λs=>(F s).2.1++Bo σ'.1 kL) (Hi:=λs=>(F s).2.2.1++U3 σ'.2 kH) (Pi:=λs=>(F s).2.2.2) (s:=s) s' ρ hm hP h1 h2 h3
theorem Bp {σ:Type} {st:Nat->σ->σ} {F:Nat->σ} {s s':σ} {i:Nat} (hq:s=F i) (hF:F (i+1)=st i (F i)) (h:s'=st i s):s'=F (i+1):=by rw[h,hq,hF]
theorem SU {α0 α1:Type} {a0:α0} {a1:α1} {t:α0×α1} (h:(a0,a1)=t):t.1=a0/\t.2=a1:=by cases h;exact⟨rfl,rfl⟩
theorem fE {α0 α1 α2:Type} {a0:α0} {a1:α1} {a2:α2} {t:α0×α1×α2} (h:(a0,a1,a2)=t):t.1=a0/\t.2.1=a1/\t.2.2=a2:=by cases h;exact⟨rfl,rfl,rfl⟩
def s5 (ρ:LO):Nat->Nat:=λk=>(m0 ρ k).getD k
theorem Sp.rx {ks0 : List Nat} (V : Sp n S0 g0 w0 σ nb a g w) (ρ : LO) (kL kH : List Nat) (nb' : Nat) (Y : ∀ k v, g0.N k = some v -> k ∈ ks0)
  (hc:G3 ρ ks0 ((Bo σ.1 kL).map λp=>(p.1,p.2.ren (s5 ρ))) (kH.filterMap λk=>(A4 σ.2 (Go.Sx.rn ρ k)).map λo=>(k,o.ren (s5 ρ))) nb'=true:=by kernel_rfl)
  (hL:Bo σ.1 (Ax ((Bo σ.1 kL).map λp=>(p.1,p.2.ren (s5 ρ))))=(((Bo σ.1 kL).map λp=>(p.1,p.2.ren (s5 ρ))).map λp=>(p.1,p.2.ren (Go.Sx.rn ρ))):=by kernel_rfl)
  (hH:((kH.filterMap λk=>(A4 σ.2 (Go.Sx.rn ρ k)).map λo=>(k,o.ren (s5 ρ))).map λp=>A4 σ.2 (Go.Sx.rn ρ p.1))=((kH.filterMap λk=>(A4 σ.2 (Go.Sx.rn ρ k)).map λo=>(k,o.ren (s5 ρ))).map λp=>some (p.2.ren (Go.Sx.rn ρ))):=by kernel_rfl):
  ∃g',Sp n S0 g0 w0 ((Bo σ.1 kL).map λp=>(p.1,p.2.ren (s5 ρ)),Gs (kH.filterMap λk=>(A4 σ.2 (Go.Sx.rn ρ k)).map λo=>(k,o.ren (s5 ρ)))) nb' a g' w:=
 Sp.ren Y V ρ _ _ nb' hc hL hH
theorem Sp.ch (V:Sp n S0 g0 w0 σ nb a g w) (k:Nat) (o o':O) (e:o'=o) (h:A4 σ.2 k=some o':=by kernel_rfl):Sp n S0 g0 w0 (σ.1,(k,some o)::σ.2) nb a g w:=
 SS.weak V (λ_ _ h=>h) (λj q hj=>by
  by_cases hk:k=j
  ·subst hk;simp only[A4,Fe,et,cond_true,ej,Option.some.injEq]at hj;rw[<-hj,<-e];exact h
  ·simp only[A4,Fe]at hj;rw[BL hk]at hj;exact hj) λ_ h=>h
theorem Sp.cl (V:Sp n S0 g0 w0 σ nb a g w) (t:Nat) (d d':D) (e:d'=d) (h:D4 σ.1 t=some d':=by kernel_rfl):Sp n S0 g0 w0 ((t,d)::σ.1,σ.2) nb a g w:=
 SS.weak V (λj q hj=>by
  by_cases hk:t=j
  ·subst hk;simp only[D4,et,cond_true,Option.some.injEq]at hj;rw[<-hj,<-e];exact h
  ·simp only[D4]at hj;rw[BL hk]at hj;exact hj) (λ_ _ h=>h) λ_ h=>h
section
variable {c x y z:Code} {b:Nat} {K R:Act->World->Prop} {K1 K2:Act->World->Prop}
theorem Ao (h:x.wp P (Exit.then (y.wp P Q) Q) a w):(Code.seq x y).wp P Q a w:=wp_seq h
theorem xV (h:Q .normal a w):Code.skip.wp P Q a w:=wp_skip h
theorem cnc (h:Q (.exit b) a w):(Code.exit b).wp P Q a w:=wp_exit h
theorem AU (h:Q .ret a w):Code.ret.wp P Q a w:=wp_ret h
theorem BK (h:c.wp P (Exit.inBlock b Q) a w):(Code.block b c).wp P Q a w:=wp_block h
theorem DF (h:R a w):(Code.exit b).wp P (Exit.then K1 (Exit.then K2 (Exit.inBlock b (Exit.then R Q)))) a w:=wp_exit (EY (EY (Gy (Ae h))))
theorem V8 {d:Nat} (h:R a w):(Code.exit b).wp P (Exit.then K1 (Exit.then K2 (Exit.inBlock b (Exit.inBlock d (Exit.then R Q))))) a w:=wp_exit (EY (EY (Gy (TU (Ae h)))))
theorem I8 (h:x.wp P (Exit.then (y.wp P Q) Q) a w):(Code.exit b).wp P (Exit.then K1 (Exit.then K2 (Exit.inBlock b (Exit.then ((Code.seq x y).wp P Q) Q)))) a w:=DF (wp_seq h)
theorem BR (h:K a w):Code.skip.wp P (Exit.then K Q) a w:=wp_skip (Ae h)
theorem DZ (h:x.wp P (Exit.then (y.wp P Q) Q) a w):Code.skip.wp P (Exit.then ((Code.seq x y).wp P Q) Q) a w:=wp_skip (Ae (wp_seq h))
theorem B6 (h:c.wp P (Exit.inBlock b (Exit.then (y.wp P Q) Q)) a w):Code.skip.wp P (Exit.then ((Code.seq (Code.block b c) y).wp P Q) Q) a w:=wp_skip (Ae (wp_seq (wp_block h)))
theorem Cn (h:K a w):Exit.inBlock b (Exit.then K Q) .normal a w:=TU (Ae h)
theorem CV (h:x.wp P (Exit.then (y.wp P Q) Q) a w):Exit.then ((Code.seq x y).wp P Q) Q .normal a w:=Ae (wp_seq h)
theorem Fa (h:Q .ret a w):Exit.then (Code.ret.wp P Q) Q .normal a w:=Ae (wp_ret h)
theorem He (h:x.wp P (Exit.then (y.wp P (Exit.then (z.wp P Q) Q)) (Exit.then (z.wp P Q) Q)) a w):(Code.seq (Code.seq x y) z).wp P Q a w:=wp_seq (wp_seq h)
theorem GT (h:K a w):Code.skip.wp P (Exit.inBlock b (Exit.then K Q)) a w:=wp_skip (TU (Ae h))
end
theorem BN {fn:Func} {cn:Con} (V:Sp n (cn.foot g0) g0 w0 σ nb a g w) (hr:z9 P σ fn cn.res=some cn.res:=by kernel_rfl) (h1:tH σ.2 cn.H1=tG cn.H1:=by kernel_rfl) (hD:Dfr.ds=([]:List Deferred):=by rfl):bodyPost P fn (QK λv w'=>∃g',D7 cn g0 w0 v g' w') .ret a w:=iV hD (.inr rfl) V hr h1
theorem bY {fn:Func} {cn:Con} (V:Sp n (cn.foot g0) g0 w0 σ nb a g w) (hr:z9 P σ fn cn.res=some cn.res:=by kernel_rfl) (h1:tH σ.2 cn.H1=tG cn.H1:=by kernel_rfl) (hD:Dfr.ds=([]:List Deferred):=by rfl):bodyPost P fn (QK λv w'=>∃g',D7 cn g0 w0 v g' w') .normal a w:=iV hD (.inl rfl) V hr h1
theorem BX {T:Type} {m v:T} (hm:m=v) {cf:T->Con} {fn:Func} (V:Sp n ((cf m).foot g0) g0 w0 σ nb a g w) (hr:z9 P σ fn (cf v).res=some (cf v).res:=by kernel_rfl) (h1:tH σ.2 (cf v).H1=tG (cf v).H1:=by kernel_rfl) (hD:Dfr.ds=([]:List Deferred):=by rfl):bodyPost P fn (QK λv w'=>∃g',D7 (cf m) g0 w0 v g' w') .ret a w:=tL hm hD (.inr rfl) V hr h1
theorem iO {T:Type} {m v:T} (hm:m=v) {cf:T->Con} {fn:Func} (V:Sp n ((cf m).foot g0) g0 w0 σ nb a g w) (hr:z9 P σ fn (cf v).res=some (cf v).res:=by kernel_rfl) (h1:tH σ.2 (cf v).H1=tG (cf v).H1:=by kernel_rfl) (hD:Dfr.ds=([]:List Deferred):=by rfl):bodyPost P fn (QK λv w'=>∃g',D7 (cf m) g0 w0 v g' w') .normal a w:=tL hm hD (.inl rfl) V hr h1
end
end Go.Sx
namespace Go.Sx.Tryz
open Go.Mi Go.RowKit Go.Sx Go.Proofs
abbrev AO:=ConOk Tryz.prog
def Z0:Zt:=[(3,[.v (.int .i64 0)]),
 (5,[.v (.int .u8 0)]),
 (22,[.v (.slice none 0 0)]),
 (35,[.v (.int .i64 0),.v (.int .i64 0),.v (.slice none 0 0)]),
 (39,[.v (.pointer none),.v (.pointer none),.v (.int .i64 0),.v (.int .i64 0),.v (.slice none 0 0),.v (.int .i64 0),.v (.int .i64 0),.v (.slice none 0 0),.v (.slice none 0 0)]),
 (44,[.v (.int .i64 0)]),
 (48,[.v (.int .i64 0),.v (.int .i64 0),.v (.slice none 0 0),.v (.slice none 0 0)]),
 (76,[.v (.pointer none)]),
 (80,[.v (.slice none 0 0),.v (.bool false),.v (.bool false),.v (.pointer none),.v (.pointer none),.v (.pointer none),.v (.int .i64 0),.v (.slice none 0 0),.v (.int .i64 0),.v (.int .i64 0),.v (.slice none 0 0)]),
 (86,[.v (.int .i64 0),.v (.int .i64 0),.v (.slice none 0 0)]),
 (97,[.v (.slice none 0 0)]),
 (115,[.v (.slice none 0 0),.v (.int .i64 0),.v (.int .i64 0),.v (.int .i64 0),.v (.slice none 0 0),.v (.slice none 0 0)]),
 (122,[.v (.slice none 0 0),.v (.int .i64 0)]),
 (126,[.v (.int .i64 0),.v (.int .i64 0),.v (.int .i64 0),.v (.int .i64 0),.v (.slice none 0 0),.v (.slice none 0 0),.v (.pointer none),.v (.slice none 0 0)]),
 (129,[.v (.slice none 0 0)]),
 (133,[.v (.int .i64 0),.v (.int .i64 0),.v (.int .i64 0),.v (.slice none 0 0)]),
 (148,[.v (.pointer none)]),
 (172,[.v (.slice none 0 0),.v (.pointer none)]),
 (177,[.ar .u32 8 (λ_=>0)]),
 (179,[.ar .u32 8 (λ_=>0),.v (.slice none 0 0),.v (.int .u64 0)]),
 (181,[.v (.pointer none),.v (.pointer none)]),
 (182,[.ar .u8 64 (λ_=>0)]),
 (187,[.v (.int .i64 0),.v (.int .i64 0),.v (.int .i64 0),.v (.slice none 0 0)]),
 (188,[.v (.slice none 0 0)]),
 (197,[.ar .u64 80 (λ_=>0)]),
 (199,[.ar .u64 8 (λ_=>0)]),
 (201,[.ar .u32 64 (λ_=>0)]),
 (205,[.v (.pointer none)]),
 (210,[.v (.int .u16 0)]),
 (212,[.ar .u16 256 (λ_=>0)]),
 (214,[.ar .u16 768 (λ_=>0)]),
 (233,[.ar .u32 128 (λ_=>0)]),
 (241,[.ar .u8 16 (λ_=>0)]),
 (248,[.ar .u64 25 (λ_=>0)]),
 (250,[.ar .u64 25 (λ_=>0),.v (.int .i64 0),.v (.int .i64 0)]),
 (258,[.ar .u8 256 (λ_=>0),.ar .u8 240 (λ_=>0)]),
 (260,[.ar .u8 4 (λ_=>0)]),
 (263,[.ar .u64 25 (λ_=>0)]),
 (266,[.v .nilFunc,.v .nilFunc,.v .nilFunc]),
 (267,[.ar .u64 24 (λ_=>0)]),
 (270,[.v (.pointer none)]),
 (273,[.ar .u64 5 (λ_=>0)])]
def K0:Kt:=[(3,[.int .i64]),(5,[.int .u8]),(22,[.sl (.int .u8)]),(48,[.int .i64,.int .i64,.sl (.int .u8),.sl (.int .u8)]),(76,[.ref]),(86,[.int .i64,.int .i64,.sl (.sl (.int .u8))]),(133,[.int .i64,.int .i64,.int .i64,.sl (.int .u8)]),(148,[.ref]),(205,[.ref]),(210,[.int .u16])]
def K1:Kt:=(22,[.os (.int .u8)])::K0
noncomputable def E0:bU:=⟨Tryz.prog,Z0,K0⟩
noncomputable def E1:bU:=⟨Tryz.prog,Z0,K1⟩
set_option maxRecDepth 100000 in
theorem hZ:XA Tryz.prog Z0:=⟨⟨by kernel_rfl,by kernel_rfl⟩,⟨by kernel_rfl,by kernel_rfl⟩,⟨by kernel_rfl,by kernel_rfl⟩,⟨by kernel_rfl,by kernel_rfl⟩,⟨by kernel_rfl,by kernel_rfl⟩,⟨by kernel_rfl,by kernel_rfl⟩,⟨by kernel_rfl,by kernel_rfl⟩,⟨by kernel_rfl,by kernel_rfl⟩,⟨by kernel_rfl,by kernel_rfl⟩,⟨by kernel_rfl,by kernel_rfl⟩,⟨by kernel_rfl,by kernel_rfl⟩,⟨by kernel_rfl,by kernel_rfl⟩,⟨by kernel_rfl,by kernel_rfl⟩,⟨by kernel_rfl,by kernel_rfl⟩,⟨by kernel_rfl,by kernel_rfl⟩,⟨by kernel_rfl,by kernel_rfl⟩,⟨by kernel_rfl,by kernel_rfl⟩,⟨by kernel_rfl,by kernel_rfl⟩,⟨by kernel_rfl,by kernel_rfl⟩,⟨by kernel_rfl,by kernel_rfl⟩,⟨by kernel_rfl,by kernel_rfl⟩,⟨by kernel_rfl,by kernel_rfl⟩,⟨by kernel_rfl,by kernel_rfl⟩,⟨by kernel_rfl,by kernel_rfl⟩,⟨by kernel_rfl,by kernel_rfl⟩,⟨by kernel_rfl,by kernel_rfl⟩,⟨by kernel_rfl,by kernel_rfl⟩,⟨by kernel_rfl,by kernel_rfl⟩,⟨by kernel_rfl,by kernel_rfl⟩,⟨by kernel_rfl,by kernel_rfl⟩,⟨by kernel_rfl,by kernel_rfl⟩,⟨by kernel_rfl,by kernel_rfl⟩,⟨by kernel_rfl,by kernel_rfl⟩,⟨by kernel_rfl,by kernel_rfl⟩,⟨by kernel_rfl,by kernel_rfl⟩,⟨by kernel_rfl,by kernel_rfl⟩,⟨by kernel_rfl,by kernel_rfl⟩,⟨by kernel_rfl,by kernel_rfl⟩,⟨by kernel_rfl,by kernel_rfl⟩,⟨by kernel_rfl,by kernel_rfl⟩,⟨by kernel_rfl,by kernel_rfl⟩,⟨by kernel_rfl,by kernel_rfl⟩,aa⟩
theorem mo:Tryz.prog.follows .mixedOrders=true:=by kernel_rfl
section
variable [Dfr]
theorem r0 {n:Nat} {σ:Sg} {S0:Nat->Prop} {g0 g:G} {w0 w:World} {nb:Nat} {a:Act} {Q:Exit->Act->World->Prop} (kL kH:List Nat) (nb':Nat) {id:Nat} {dr:Bool} {ops:List Oper} (V:Sp n S0 g0 w0 σ nb a g w) (hend:∀{a g w},Sp n S0 g0 w0 (xS (mZ n ops (WY E0 []) σ nb kL kH)) nb' a g w->Q .normal a w) (h:xP (mZ n ops (WY E0 []) σ nb kL kH)=some ([],nb'):=by kernel_rfl) (hle:Nat.ble nb nb'=true:=by kernel_rfl):(Code.region id ops.toArray dr).wp Tryz.prog Q a w:=eF mo (HP (C:=[]) hZ (show CsOk Tryz.prog []from aa)) [] kL kH nb' aa V (λ_ _ _ h=>hend h) h hle
theorem s0 {n:Nat} {σ:Sg} {S0:Nat->Prop} {g0 g:G} {w0 w:World} {nb:Nat} {a:Act} {Q:Exit->Act->World->Prop} (kL kH:List Nat) (nb':Nat) {id:Nat} {dr:Bool} {ops:List Oper} {y:Code} (V:Sp n S0 g0 w0 σ nb a g w) (hend:∀{a g w},Sp n S0 g0 w0 (xS (mZ n ops (WY E0 []) σ nb kL kH)) nb' a g w->y.wp Tryz.prog Q a w) (h:xP (mZ n ops (WY E0 []) σ nb kL kH)=some ([],nb'):=by kernel_rfl) (hle:Nat.ble nb nb'=true:=by kernel_rfl):(Code.seq (Code.region id ops.toArray dr) y).wp Tryz.prog Q a w:=wp_seq (eF mo (HP (C:=[]) hZ (show CsOk Tryz.prog []from aa)) [] kL kH nb' aa V (λ_ _ _ h=>Ae (hend h)) h hle)
theorem v0 {n:Nat} {σ:Sg} {S0:Nat->Prop} {g0 g:G} {w0 w:World} {nb:Nat} {a:Act} {Q:Exit->Act->World->Prop} (kL kH:List Nat) (nb':Nat) {id:Nat} {dr:Bool} {ops:List Oper} {y:Code} (V:Sp n S0 g0 w0 σ nb a g w) (hend:∀{a g w},Sp n S0 g0 w0 (xS (mZ n ops (WY E1 []) σ nb kL kH)) nb' a g w->y.wp Tryz.prog Q a w) (h:xP (mZ n ops (WY E1 []) σ nb kL kH)=some ([],nb'):=by kernel_rfl) (hle:Nat.ble nb nb'=true:=by kernel_rfl):(Code.seq (Code.region id ops.toArray dr) y).wp Tryz.prog Q a w:=wp_seq (eF mo (HP (C:=[]) hZ (show CsOk Tryz.prog []from aa)) [] kL kH nb' aa V (λ_ _ _ h=>Ae (hend h)) h hle)
theorem Aw {n:Nat} {σ:Sg} {S0:Nat->Prop} {g0 g:G} {w0 w:World} {nb:Nat} {a:Act} {Q:Exit->Act->World->Prop} (C:Rs Tryz.prog) (tg:List Nat) (nb':Nat) {id:Nat} {dr:Bool} {ops:List Oper} (V:Sp n S0 g0 w0 σ nb a g w) (hend:∀{a g w},Sp n S0 g0 w0 (xS (T9 n ops (T_ E0 C) σ nb tg nb')) nb' a g w->Q .normal a w) (h:xP (T9 n ops (T_ E0 C) σ nb tg nb')=some (mY C,nb'):=by kernel_rfl) (hle:Nat.ble nb nb'=true:=by kernel_rfl):(Code.region id ops.toArray dr).wp Tryz.prog Q a w:=NT mo (J2 (E:=E0) hZ rfl C) _ (IX C) tg nb' V hend h hle
theorem CW {n:Nat} {σ:Sg} {S0:Nat->Prop} {g0 g:G} {w0 w:World} {nb:Nat} {a:Act} {Q:Exit->Act->World->Prop} (tg:List Nat) (nb':Nat) {id:Nat} {dr:Bool} {ops:List Oper} (V:Sp n S0 g0 w0 σ nb a g w) (hend:∀{a g w},Sp n S0 g0 w0 (xS (T9 n ops (T_ E0 ([]:Rs Tryz.prog)) σ nb tg nb')) nb' a g w->Q .normal a w) (h:xP (T9 n ops (T_ E0 ([]:Rs Tryz.prog)) σ nb tg nb')=some (mY ([]:Rs Tryz.prog),nb'):=by kernel_rfl) (hle:Nat.ble nb nb'=true:=by kernel_rfl):(Code.region id ops.toArray dr).wp Tryz.prog Q a w:=NT mo (J2 (E:=E0) hZ rfl ([]:Rs Tryz.prog)) _ (IX ([]:Rs Tryz.prog)) tg nb' V hend h hle
theorem Ay {n:Nat} {σ:Sg} {S0:Nat->Prop} {g0 g:G} {w0 w:World} {nb:Nat} {a:Act} {Q:Exit->Act->World->Prop} (C:Rs Tryz.prog) (tg:List Nat) (nb':Nat) {id:Nat} {dr:Bool} {ops:List Oper} {y:Code} (V:Sp n S0 g0 w0 σ nb a g w) (hend:∀{a g w},Sp n S0 g0 w0 (xS (T9 n ops (T_ E0 C) σ nb tg nb')) nb' a g w->y.wp Tryz.prog Q a w) (h:xP (T9 n ops (T_ E0 C) σ nb tg nb')=some (mY C,nb'):=by kernel_rfl) (hle:Nat.ble nb nb'=true:=by kernel_rfl):(Code.seq (Code.region id ops.toArray dr) y).wp Tryz.prog Q a w:=wp_seq (NT mo (J2 (E:=E0) hZ rfl C) _ (IX C) tg nb' V (λh=>Ae (hend h)) h hle)
theorem Ak {n:Nat} {σ:Sg} {S0:Nat->Prop} {g0 g:G} {w0 w:World} {nb:Nat} {a:Act} {Q:Exit->Act->World->Prop} (tg:List Nat) (nb':Nat) {id:Nat} {dr:Bool} {ops:List Oper} {y:Code} (V:Sp n S0 g0 w0 σ nb a g w) (hend:∀{a g w},Sp n S0 g0 w0 (xS (T9 n ops (T_ E0 ([]:Rs Tryz.prog)) σ nb tg nb')) nb' a g w->y.wp Tryz.prog Q a w) (h:xP (T9 n ops (T_ E0 ([]:Rs Tryz.prog)) σ nb tg nb')=some (mY ([]:Rs Tryz.prog),nb'):=by kernel_rfl) (hle:Nat.ble nb nb'=true:=by kernel_rfl):(Code.seq (Code.region id ops.toArray dr) y).wp Tryz.prog Q a w:=wp_seq (NT mo (J2 (E:=E0) hZ rfl ([]:Rs Tryz.prog)) _ (IX ([]:Rs Tryz.prog)) tg nb' V (λh=>Ae (hend h)) h hle)
theorem Gc {n:Nat} {σ:Sg} {S0:Nat->Prop} {g0 g:G} {w0 w:World} {nb:Nat} {a:Act} {Q:Exit->Act->World->Prop} (C:Rs Tryz.prog) (tg:List Nat) (nb':Nat) {id:Nat} {dr:Bool} {ops:List Oper} (V:Sp n S0 g0 w0 σ nb a g w) (hend:∀{a g w},Sp n S0 g0 w0 (xS (T9 n ops (T_ E1 C) σ nb tg nb')) nb' a g w->Q .normal a w) (h:xP (T9 n ops (T_ E1 C) σ nb tg nb')=some (mY C,nb'):=by kernel_rfl) (hle:Nat.ble nb nb'=true:=by kernel_rfl):(Code.region id ops.toArray dr).wp Tryz.prog Q a w:=NT mo (J2 (E:=E1) hZ rfl C) _ (IX C) tg nb' V hend h hle
theorem ugQ {n:Nat} {σ:Sg} {S0:Nat->Prop} {g0 g:G} {w0 w:World} {nb:Nat} {a:Act} {Q:Exit->Act->World->Prop} (tg:List Nat) (nb':Nat) {id:Nat} {dr:Bool} {ops:List Oper} (V:Sp n S0 g0 w0 σ nb a g w) (hend:∀{a g w},Sp n S0 g0 w0 (xS (T9 n ops (T_ E1 ([]:Rs Tryz.prog)) σ nb tg nb')) nb' a g w->Q .normal a w) (h:xP (T9 n ops (T_ E1 ([]:Rs Tryz.prog)) σ nb tg nb')=some (mY ([]:Rs Tryz.prog),nb'):=by kernel_rfl) (hle:Nat.ble nb nb'=true:=by kernel_rfl):(Code.region id ops.toArray dr).wp Tryz.prog Q a w:=NT mo (J2 (E:=E1) hZ rfl ([]:Rs Tryz.prog)) _ (IX ([]:Rs Tryz.prog)) tg nb' V hend h hle
theorem DG {n:Nat} {σ:Sg} {S0:Nat->Prop} {g0 g:G} {w0 w:World} {nb:Nat} {a:Act} {Q:Exit->Act->World->Prop} (C:Rs Tryz.prog) (tg:List Nat) (nb':Nat) {id:Nat} {dr:Bool} {ops:List Oper} {y:Code} (V:Sp n S0 g0 w0 σ nb a g w) (hend:∀{a g w},Sp n S0 g0 w0 (xS (T9 n ops (T_ E1 C) σ nb tg nb')) nb' a g w->y.wp Tryz.prog Q a w) (h:xP (T9 n ops (T_ E1 C) σ nb tg nb')=some (mY C,nb'):=by kernel_rfl) (hle:Nat.ble nb nb'=true:=by kernel_rfl):(Code.seq (Code.region id ops.toArray dr) y).wp Tryz.prog Q a w:=wp_seq (NT mo (J2 (E:=E1) hZ rfl C) _ (IX C) tg nb' V (λh=>Ae (hend h)) h hle)
theorem CK {n:Nat} {σ:Sg} {S0:Nat->Prop} {g0 g:G} {w0 w:World} {nb:Nat} {a:Act} {Q:Exit->Act->World->Prop} (tg:List Nat) (nb':Nat) {id:Nat} {dr:Bool} {ops:List Oper} {y:Code} (V:Sp n S0 g0 w0 σ nb a g w) (hend:∀{a g w},Sp n S0 g0 w0 (xS (T9 n ops (T_ E1 ([]:Rs Tryz.prog)) σ nb tg nb')) nb' a g w->y.wp Tryz.prog Q a w) (h:xP (T9 n ops (T_ E1 ([]:Rs Tryz.prog)) σ nb tg nb')=some (mY ([]:Rs Tryz.prog),nb'):=by kernel_rfl) (hle:Nat.ble nb nb'=true:=by kernel_rfl):(Code.seq (Code.region id ops.toArray dr) y).wp Tryz.prog Q a w:=wp_seq (NT mo (J2 (E:=E1) hZ rfl ([]:Rs Tryz.prog)) _ (IX ([]:Rs Tryz.prog)) tg nb' V (λh=>Ae (hend h)) h hle)
theorem rI {n:Nat} {σ:Sg} {S0:Nat->Prop} {g0 g:G} {w0 w:World} {nb:Nat} {a:Act} {Q:Exit->Act->World->Prop} (C:List (Nat×Rx)) (hC:CsOk Tryz.prog C) (ps:List (Nat×Rx)->List Prop) (kL kH:List Nat) (nb':Nat) {id r m:Nat} {ops:List Oper} (hp:AllP (ps C)) (V:Sp n S0 g0 w0 σ nb a g w) (hQ:¬LetsOut Q) (hend:∀a g w,Sp n S0 g0 w0 (xS (mZ n ops (WY E0 C) σ nb kL kH)) nb' a g w->Q .normal a w) (hnd:ops.all ndf=true:=by kernel_rfl) (h:xP (mZ n ops (WY E0 C) σ nb kL kH)=some (ps C,nb'):=by kernel_rfl) (hle:Nat.ble nb nb'=true:=by kernel_rfl):(Code.region id ops.toArray false).wpIn (Fence.wide.inRound r) m Tryz.prog Q a w:=ZF (HP hZ hC) (cB h) hp hle hnd hQ V.st hend
end
end Go.Sx.Tryz
namespace Go.Sx.Tryz
open Go.Mi Go.RowKit Go.Sx Go.Proofs Go.Shelf
attribute [local go_sem] Oper.semAt_some
def pcV (b o len sz j:Nat):Value:= .slice (some ⟨b,o+j*sz,none⟩) (min sz (len-j*sz)) (min sz (len-j*sz))
def Kp2 (Bs Bn:Nat) (A B:World):Prop:=(∀v,A.cell? ⟨Bs,0,none⟩=some v->B.cell? ⟨Bs,0,none⟩=some v)/\∀v,A.cell? ⟨Bn,0,none⟩=some v->B.cell? ⟨Bn,0,none⟩=some v
set_option maxRecDepth 100000 in
set_option maxHeartbeats 4000000 in
theorem aT (n l Bs Bn b o len cap sz K : Nat) (hn : 1 <= n) (h1 : 1 <= sz) (hsz : sz <= 1000000) (hl : len <= 1000000) (hlc : len <= cap) (hc63 : cap <= 9223372036854775807) (hK : ∀ k, k < K ↔ k * sz < len) (J Jx : List Nat -> World -> Prop)
  (hY:∀pre x W,J pre W->pre.length<K->YieldAt Fence.wide (n-1) Tryz.prog l #[pcV b o len sz x] W λe W'=>
   (e= .returned (.bool true)/\J (pre++[x]) W'/\Kp2 Bs Bn W W')\/(e= .returned (.bool false)/\Jx (pre++[x]) W'))
  (W:World) (hBs:W.cell? ⟨Bs,0,none⟩=some (.slice (some ⟨b,o,none⟩) len cap)) (hBn:W.cell? ⟨Bn,0,none⟩=some (.int .i64 sz)) (h0:J [] W) (hJ:∀s A,J s A->J s A.drew):
  CallsIn Fence.wide n Tryz.prog 157 #[.func (.yield l) #[] #[],.pointer (some ⟨Bs,0,none⟩),.pointer (some ⟨Bn,0,none⟩)] W λe W'=>(∃v,e= .returned v)/\((J (List.range K) W')\/(∃pre,Jx pre W')):=by
 have mixed:=mo;refine callsIn_of_wp Tryz.func157 rfl aa ?_ rfl;simp only[Tryz.ntmps157,List.size_toArray,aw,av,Nat.reduceAdd,Nat.reduceSub,Array.replicate_succ,Array.replicate_zero,List.push_toArray,List.append_toArray,dx,gp]
 gi_wp2
 gi_loopw [4] (λi wr=>∃k q:Nat,k<=K/\q=k*sz/\q<=len+sz/\i= .int .i64 q/\J (List.range k) wr/\Kp2 Bs Bn W wr)
  (λi _=>len-(intOf i).toNat)
 case atStart=>exact⟨0,0,br _,by simp,by omega,by simp,h0,λ_ h=>h,λ_ h=>h⟩
 case round=>
  obtain⟨k,q,hk,hq,hql,rfl,hJs,hnx⟩:=hrel;have hcs:=hnx.1 _ hBs;have hcn:=hnx.2 _ hBn;by_cases hlt:q<len
  ·have hkK:k<K:=(hK k).2 (hq▸hlt);have hcs1:wr.drew.cell? ⟨Bs,0,none⟩=some (.slice (some ⟨b,o,none⟩) len cap):=hcs;have hcn1:wr.drew.cell? ⟨Bn,0,none⟩=some (.int .i64 sz):=hcn;obtain⟨fn,tmps,assign,body,hy,hR⟩:=hY _ k wr.drew (hJ _ _ hJs) (by rw[d_];exact hkK);unfold pcV at hy;rw[<-hq]at hy;have HQ:Hid (q=k*sz):=hq;have HY:Hid (∀m,m=min sz (len-q)->(Instr.yield l #[.slice (some ⟨b,o+q,none⟩) m m]).run Tryz.prog wr.drew= .ok (.round l fn tmps assign body) wr.drew):=λm h=>by rw[h];exact hy
   clear hq hy hJs
   gi_wp2
   first |gi_region|gi_region_o
   gi_wp2
   all_goals (rw[HY.out _ (by omega)])
   all_goals gi_wp2
   all_goals refine hR.mono ?_
   all_goals rintro e W3 (⟨rfl,hJ3,hk3⟩|⟨rfl,hJx3⟩)
   case' inl.inl=>have hcn3:=hk3.2 _ hcn1
   case' inr.inl=>have hcn3:=hk3.2 _ hcn1
   case inl.inr=>
    gi_wp2
    refine bodyPost_ret (results_none rfl _ _ _) rfl ?_;exact⟨⟨_,rfl⟩,.inr ⟨_,hJx3⟩⟩
   case inr.inr=>
    gi_wp2
    refine bodyPost_ret (results_none rfl _ _ _) rfl ?_;exact⟨⟨_,rfl⟩,.inr ⟨_,hJx3⟩⟩
   all_goals gi_wp2
   all_goals go_roundw
   all_goals first
    |exact⟨k+1,q+sz,by omega,by rw[HQ.out,fb],by omega,by simp,by rw[List.range_succ];exact hJ3,⟨λv h=>hk3.1 _ (hnx.1 _ h),λv h=>hk3.2 _ (hnx.2 _ h)⟩⟩
    |(simp [intOf];omega)
  ·have hKk : k = K := by
    rcases ci k K with h|h
    ·exact absurd (hq▸(hK k).1 h) hlt
    ·omega
   subst hKk;have HQ:Hid (q=k*sz):=hq;clear hq
   gi_wp2
   go_end0
   exact⟨⟨_,rfl⟩,.inl hJs⟩
theorem Kp2.t {Bs Bn:Nat} {A B C:World} (h:Kp2 Bs Bn A B) (k:Kp2 Bs Bn B C):Kp2 Bs Bn A C:=⟨λv x=>k.1 v (h.1 v x),λv x=>k.2 v (h.2 v x)⟩
theorem VP {W:World} {b l:Nat} {o o':Obj} {v:Value} (h1:W.heap[l]? =some o) (h2:o.isCells=false) (h:W.cell? ⟨b,0,none⟩=some v):(W.putObj l o').cell? ⟨b,0,none⟩=some v:=by obtain⟨q,k1,k2⟩:=cells_of_cell h;rw[<-h];refine World.cell?_of_block (World.putObj_heap_other λe=> ?_);subst e;rw[h1]at k1;cases k1;rw[h2]at k2;cases k2
section
variable {n:Nat} {S0:Nat->Prop} {g0 g:G} {w0 w:World} {a:Act} {Q:Exit->Act->World->Prop}
def itD (xs:Ad) (sz:Nat):D:= .fn 157 .nil (Ag [.im (Ag [.ls false Bb xs]) 0,.im (Ag [.v (.int .i64 ((sz:Nat):Int))]) 0])
theorem UY {L : DL} {nb t x y i1 i2 bk m K : Nat} {ops : List Oper} {ty : TypeId} {pos : String} {af : Array Edge} {ks0 : List Nat} (xs : Ad) (sz : Nat) (h1 : 1 <= sz) (hsz : sz <= 1000000) (hlen : xs.length <= 1000000) (hK : ∀ k, k < K ↔ k * sz < xs.length)
  (hD:Dfr.ds=([]:List Deferred)) (Y:∀k v,g0.N k=some v->k∈ks0) (Hi:List Nat->Hc) (V:St n S0 g0 w0 L (Gs (Hi [])) nb a g w) (hx:Nat.blt x n=true) (hy:Nat.blt y n=true) (hL:(Ax L).all (λu=> !(Nat.beq u x||Nat.beq u y))=true) (ht:D4 L t=some (itD xs sz)) (hn0:xs≠[])
  (hbody:∀(r:Nat) (pre:List Nat) (z:Nat) g1 W a1,pre.length<K->St n (GR (Gs (Hi pre)) g1) g1 W ((y,.ls false Bb ((xs.drop (z*sz)).take sz))::L) (Gs (Hi pre)) nb a1 g1 W->(Code.region i2 ops.toArray false).wpIn (Fence.wide.inRound r) (m+1-1-1) Tryz.prog (Exit.inBlock bk (sM n (GR (Gs (Hi pre)) g1) g1 W ks0 L (Hi (pre++[z])) nb)) a1 W)
  (hdone:∀(D:Dfr) (Dk:Nat) a' g1 W,D.ds=[⟨.collected Dk,#[]⟩]->w0.heap.size<=Dk->W.heap[Dk]? =some (.deferred (some []))->HS (A4 (Gs (Hi (List.range K)))) g1 W->bV (GR (Gs (Hi (List.range K))) g1) g1 W S0 g0 w0-> @SS D n (GR (Gs (Hi (List.range K))) g1) g1 W (D4 L) (A4 (Gs (Hi (List.range K)))) (· <nb) a' g1 W->Q .normal a' W) (hm:1<=m):
  (Code.rangeFunc (.tmp t) #[x] (Code.region i1 #[⟨some y,.assign (.tmp x),ty,pos,af,none⟩] false) (Code.block bk (Code.region i2 ops.toArray false))).wp Tryz.prog Q a w:=by
 obtain⟨va,vb,ha,hb,hv⟩:=V.fr t _ ht;have ha:va=[]:=ha;subst ha;obtain⟨l1,l2,rfl,⟨Bs,c1,x1,x2,rfl,x4,x5,x6⟩,l3,l4,rfl,⟨Bn,c2,y1,y2,rfl,y4,y5,y6⟩,hl4⟩:=hb;have hl4:l4=[]:=hl4;subst hl4;have hv:a.tmps.getD t undef= .func (.func 157) #[] #[vP Bs 0,vP Bn 0]:=(List.cons.inj hv).1;obtain⟨q1,q2,e1,⟨sv,ls,e2,e3,e4⟩,q3⟩:=x6;have q3:q2=[]:=q3;subst q3;subst e2;subst e1;obtain⟨r1,r2,e5,q4,q5⟩:=y6;have q5:r2=[]:=q5;have q4:r1=[.int .i64 ((sz:Nat):Int)]:=q4;subst q5;subst q4;subst e5;have hcs:w.cell? ⟨Bs,0,none⟩=some sv:=x4 0 sv rfl;have hcn:w.cell? ⟨Bn,0,none⟩=some (.int .i64 ((sz:Nat):Int)):=y4 0 _ rfl;rcases e3.at' with⟨hz,_⟩|⟨b,o,cap,rfl,k1,k2,k3,k4,k5⟩
 ·exact absurd (bm hz) hn0
 have flat:ls.flatten=xs.map (Value.int .u8):=by
  have :∀{xs:Ad} {ls:List (List Value)},Fa2 (rS g.X g.N w Bb) xs ls->ls.flatten=xs.map (Value.int .u8):=by
   intro xs
   induction xs with
   |nil=>intro ls h;cases ls with
    |nil=>rfl
    |cons=>exact h.elim
   |cons x xs ih=>intro ls h;cases ls with
    |nil=>exact h.elim
    |cons l ls=>
     obtain⟨⟨v,h1,h2⟩,h3⟩:=h;have h2:v= .int .u8 x:=h2;rw[bc,h1,h2,ih h3];rfl
  exact this e4
 have imB:∀{pre:List Nat} {g1:G} {W:World},St n S0 g0 w0 L (Gs (Hi pre)) nb a g1 W->¬g1.X Bs/\¬g1.X Bn/\Bs<W.heap.size/\Bn<W.heap.size/\∃sv' ls',W.cell? ⟨Bs,0,none⟩=some sv'/\Lsl g1.X W false xs.length sv' 1 ls'.flatten/\Fa2 (rS g1.X g1.N W Bb) xs ls':=λ{pre g1 W} h=>by
  obtain⟨va,vb,ha,hb,hv2⟩:=h.fr t _ ht;obtain⟨l1,l2,rfl,⟨Bs',c1',x1',x2',rfl,x4',x5',x6'⟩,l3,l4,rfl,⟨Bn',c2',y1',y2',rfl,y4',y5',y6'⟩,hl4⟩:=hb;have hl4:l4=[]:=hl4;subst hl4;rw[hv]at hv2;have hv2:=(List.cons.inj hv2).1;injection hv2 with _ _ hv3
  simp at hv3;obtain⟨rfl,rfl⟩:=hv3;obtain⟨q1,q2,e1,⟨sv',ls',e2,e3,e4⟩,q3⟩:=x6';have q3:q2=[]:=q3;subst q3;subst e2;subst e1;exact⟨x1',y1',x2',y2',sv',ls',x4' 0 sv' rfl,e3,e4⟩
 have hcap:xs.length<=cap:=k1;refine oG (α:=Nat) (m:=m) (lb:= #[vP Bs 0,vP Bn 0]) (gf:=157) (Kp:=Kp2 Bs Bn) (S:=λq=>q=List.range K) (Sp:=λ_=>True) (N:=K) hD Y Hi V hx hy hL hv ⟨⟨_,Tryz.func157,rfl,rfl⟩⟩ (pcV b o xs.length sz) ?_ Kp2.t ?_ ?_ ⟨λ_ h=>h,λ_ h=>h⟩ ?_ (λz=> .ls false Bb ((xs.drop (z*sz)).take sz)) ?_ hbody ?_
 ·intro l J Jx W hW hJ hJx hY h0;refine(aT m l Bs Bn b o xs.length cap sz K hm h1 hsz hlen hcap k2 hK J Jx hY W ((hW.cell (p:=⟨Bs,0,none⟩) x2).trans hcs) ((hW.cell (p:=⟨Bn,0,none⟩) y2).trans hcn) h0 (λs A hs=>hJ s A A.drew none hs ⟨rfl,rfl,rfl,an _,λ_ _ _=>rfl⟩ λr e=>by cases e)).mono ?_;rintro e W' ⟨hv,hj|⟨pre,hj⟩⟩
  ·exact⟨hv,.inl ⟨_,rfl,hj⟩⟩
  ·exact⟨hv,.inr ⟨_,aa,hj⟩⟩
 ·exact λW l o o' h1 h2=>⟨λv h=>VP h1 h2 h,λv h=>VP h1 h2 h⟩
 ·intro pre g1 W g2 W' h hgo;obtain⟨i1,i2,i3,i4,_⟩:=imB h;exact⟨λv hv=>by rw[<-hv];exact World.cell?_of_block (hgo.ch.blk Bs i3 λhf=>i1 (hgo.s _ hf)),λv hv=>by rw[<-hv];exact World.cell?_of_block (hgo.ch.blk Bn i4 λhf=>i2 (hgo.s _ hf))⟩
 ·exact λW W' row h hg hr=>⟨λv hv=>cell_kept (h.1 v hv) hg hr,λv hv=>cell_kept (h.2 v hv) hg hr⟩
 ·intro pre z g1 W h hkp;obtain⟨_,_,_,_,sv',ls',i5,i6,i7⟩:=imB h;have e:=(hkp.1 _ hcs).symm.trans i5;cases e;rcases i6.at' with⟨hz,_⟩|⟨b',o',c',e',j1,j2,j3,j4,j5⟩
  ·exact absurd (bm hz) hn0
  ·cases e';have hrow:=i7.row;have hl':ls'.length=xs.length:=i7.len.symm;have EK:((xs.drop (z*sz)).take sz).length=min sz (xs.length-z*sz):=by rw[ao,au]
   have hfl:((ls'.drop (z*sz)).take sz).flatten=(ls'.flatten.drop (z*sz)).take sz:=by rw[Lu sz (λl hl=>hrow l (cw hl)),Lw (z*sz) hrow]
   have key:∀ys:List (RT Bb),ys.length=min sz (xs.length-z*sz)->Fa2 (rS g1.X g1.N W Bb) ys ((ls'.drop (z*sz)).take sz)->Sm g1 W (.ls false Bb ys) (pcV b o xs.length sz z):=by
    intro ys hy hF;refine⟨_,(ls'.drop (z*sz)).take sz,rfl,⟨?_,?_,.inr ⟨b,o+z*sz,min sz (xs.length-z*sz),?_,?_,?_,j3,j4,?_⟩⟩,hF⟩
    ·rw[hy];show _<=9223372036854775807;omega
    ·rw[hfl,hy,ao,au,i6.len,ga];exact(ga _).symm
    ·rw[hy];rfl
    ·rw[hy];exact an _
    ·show _<=9223372036854775807;omega
    ·intro i u hu;rw[hfl,dc]at hu;split at hu
     ·rw[dh]at hu;have :=j5 _ _ hu;rw[show o+z*sz+i=o+(z*sz+i) by omega];exact this
     ·cases hu
   exact key _ EK ((i7.drop _).take _)
 ·intro D Dk qs a' g1 W h1 h2 h3 h4 h5 h6;subst h3;exact hdone D Dk a' g1 W h1 h2 h4 h6.hs h5 h6
end
end Go.Sx.Tryz
