/- Texts that belong together: G0, H13, H15, H16. General lemmas and walks; no conditions. -/
import Derived.Test.YtoefhjabaanokaaDoorB4
import Derived.Test.YtoefhjabaanokaaDoorB2
import Derived.ArgAppend
import Derived.Test.YtoefhjabaanokaaDoorD1
set_option linter.unusedSimpArgs false
set_option linter.unusedVariables false
set_option linter.unnecessarySimpa false
namespace Go.Mi
open Go.RowKit
section
variable {P:Program} {n:Nat} {L:List (Nat×Value)} {w:World} {ds:Option Nat} {ty:TypeId} {pos:String} {af:Array Edge} {gu:Option (Nat×Bool)}
theorem gC {t e : TypeId} {m : Nat} (hT : P.underlying t = some (.slice e)) (hs : (P.info? e).map (·.size) = some m) :
    Ok1 P ⟨ds,.buildSlice t 0 #[],ty,pos,af,gu⟩ n L w λv' w'=>∃b,v'= .slice (some ⟨b,0,none⟩) 0 0/\NewB w w' b #[] e:=by
  obtain⟨inf,hi,hz⟩:=zq.1 hs;have hd : Det P ⟨ds, .buildSlice t 0 #[], ty, pos, af, gu⟩ n L w (.slice (some ⟨w.heap.size, 0, none⟩) 0 0) (w.alloc (.cells #[] e)) := Det.of_run λa hF => by
    have hz0:Array.range 0= #[]:=by apply Array.ext';simp
    simp [execOp,Instr.buildSlice,bQ hT,sizeOf,typeInfo,hi,Instr.fill,newRow,hz0]
  exact hd.mono λv' w' ⟨h1,h2⟩=>⟨_,h1,rfl,h2⟩
theorem dH {s x : Operand} {t e : TypeId} {z : Value} {base m bytes n' k c b o : Nat} {v : Value} {xs news : List Value} (ht : P.underlying t = some (.slice e)) (hi : (P.info? e).map (λi => (i.size, i.bytes, i.zero)) = some (m, bytes, some z))
    (hzs:z.cells.size=m) (hm0:0<m) (hs:ev L s=some v) (hx:ev L x=some (.slice (some ⟨b,o,none⟩) k c)) (hown:Own w base e m v n' xs)
    (hl:news.length=k*m) (hn:At w b o news) (h1:∀u∈news,u.oneCell'=true) (hby:(n'+k)*bytes<=140737488355328) (h63:n'+k<=maxLen) (hbase:base<=w.heap.size):
    Ok1 P ⟨ds,.call ⟨.builtin .append,#[s,x],#[t,t]⟩,ty,pos,af,gu⟩ n L w λv' w'=>Own w' base e m v' (n'+k) (xs++news)/\Ch (bC v) w w'/\(bC v'=bC v\/bC v'=[w.heap.size]):=by
  obtain⟨inf,hi1,hz⟩:=zq.1 hi;simp only[Prod.mk.injEq]at hz;exact lf ht hi1 hz.2.2 hz.1 hz.2.1 hzs hm0 hs hx hown hl hn h1 h63 hby hbase
theorem i_ {s x : Operand} {t e : TypeId} {m : Nat} {v : Value} {base n' : Nat} {xs : List Value} (ht : P.underlying t = some (.slice e)) (hz : (P.info? e).map (·.size) = some m) (hs : ev L s = some v) (hx : ev L x = some (.slice none 0 0)) (hown : Own w base e m v n' xs) :
    Det P ⟨ds,.call ⟨.builtin .append,#[s,x],#[t,t]⟩,ty,pos,af,gu⟩ n L w v w:=
  Det.of_run λa hF => by
    obtain⟨inf,hi,hzz⟩:=zq.1 hz;have hr : (Builtin.append_ #[t, t] ty #[v, .slice none 0 0]).run P w = .ok v w := by
      rcases hown.at with⟨rfl,_⟩|⟨b,cap,rfl,hc,_⟩
      · simp [Builtin.append_,run_underlying ht,sizeOf,typeInfo,hi,Builtin.lenOf,Builtin.firstCells,loadCells,loadCellsFrom]
      · simp [Builtin.append_,run_underlying ht,sizeOf,typeInfo,hi,Builtin.lenOf,Builtin.firstCells,loadCells,loadCellsFrom,hc,storeCells]
    simp [execOp,hF.eval hs,hF.eval hx,resolve,invoke,builtin,hr]
end
end Go.Mi
namespace Go.Mi.Term
open Go.Mi Go.Proofs Go.RowKit
theorem qh {w : World} {base b n m : Nat} {vs : List Value} {e : TypeId} (hb : w.heap[b]? = some (.cells vs.toArray e (0, 0))) (hl : vs.length = n * m) (hn : n <= maxLen) (h : base <= b) : Own w base e m (.slice (some ⟨b, 0, none⟩) n n) n vs := by refine⟨hl,.inr ⟨b,n,vs.toArray,rfl,h,hb,zH _,hn,by simpa using hl,?_⟩⟩;rw[List.take_of_length_le (by simp [hl])]
theorem IsT.sub {w:World} {X X':List Nat} {t:Tm} {vs:List Value} (h:IsT w X t vs) (hx:∀x,x∈X'->x∈X):IsT w X' t vs:=IsT.mv (Ch.refl [] w) (by simp) (λx hm=> .inl (hx x hm)) t vs h
theorem IsTs.sub {w:World} {X X':List Nat} {t:List Tm} {vs:List Value} (h:IsTs w X t vs) (hx:∀x,x∈X'->x∈X):IsTs w X' t vs:=IsTs.mv (Ch.refl [] w) (by simp) (λx hm=> .inl (hx x hm)) t vs h
theorem IsTs.one {w : World} {X : List Nat} {t : Tm} {vs : List Value} (h : IsT w X t vs) : IsTs w X [t] vs := by simp only[IsTs];exact⟨vs,[],by simp,h,rfl⟩
theorem np (w : World) (X : List Nat) (n : Int) : IsT w X (.mk 1 n []) [.int .i64 1, .int .i64 n, .slice none 0 0] := by simp only[IsT,IsTs];exact⟨_,[],rfl,.inl ⟨.inl rfl,rfl,rfl⟩,rfl⟩
theorem IsT.cells1 {w : World} {X : List Nat} {t : Tm} {vs : List Value} (h : IsT w X t vs) : ∀ u ∈ vs, u.oneCell' = true := by
  cases t;simp only[IsT]at h;obtain⟨sl,xs,rfl,h1,_⟩:=h;intro u hu;simp at hu;rcases hu with rfl|rfl|rfl
  · rfl
  · rfl
  · rcases h1 with⟨rfl|⟨a,cap,rfl⟩,_⟩|⟨b,o,cap,rfl,_⟩<;>rfl
end Go.Mi.Term
namespace Go.Mi.Term
open Go.Mi Go.Proofs Go.RowKit
section
variable {P:Program} {n:Nat} {L:List (Nat×Value)} {w:World} {ds:Option Nat} {ty:TypeId} {pos:String} {af:Array Edge} {gu:Option (Nat×Bool)}
theorem t6 {s x : Operand} {t e : TypeId} {z : Value} {base base2 m bytes n' k : Nat} {v lv : Value} {xs news : List Value} (ht : P.underlying t = some (.slice e)) (hi : (P.info? e).map (λi => (i.size, i.bytes, i.zero)) = some (m, bytes, some z))
    (hzs:z.cells.size=m) (hm0:0<m) (hs:ev L s=some v) (hx:ev L x=some lv) (hown:Own w base e m v n' xs) (hown2:Own w base2 e m lv k news)
    (h1:∀u∈news,u.oneCell'=true) (hby:(n'+k)*bytes<=140737488355328) (h63:n'+k<=maxLen) (hbase:base<=w.heap.size):
    Ok1 P ⟨ds,.call ⟨.builtin .append,#[s,x],#[t,t]⟩,ty,pos,af,gu⟩ n L w λv' w'=>Own w' base e m v' (n'+k) (xs++news)/\Ch (bC v) w w'/\(bC v'=bC v\/bC v'=[w.heap.size]):=by
  rcases hown2.at with⟨rfl,rfl,rfl⟩|⟨b,cap,rfl,hc,ha⟩
  · have hi' : (P.info? e).map (·.size) = some m := by obtain⟨inf,h1,h2⟩:=zq.1 hi;simp only[Prod.mk.injEq]at h2;rw[h1];simp [h2.1]
    exact(i_ ht hi' hs hx hown).mono λv' w' ⟨e1,e2⟩=>by subst e1;subst e2;exact⟨by simpa using hown,Ch.refl _ _,.inl rfl⟩
  · exact dH ht hi hzs hm0 hs hx hown (by have :=hown2.1;omega) ha h1 hby h63 hbase
end
theorem IsTs.cells1 {w : World} {X : List Nat} : ∀ {ts : List Tm} {xs : List Value}, IsTs w X ts xs -> ∀ u ∈ xs, u.oneCell' = true
  |[],_,h=>by simp only[IsTs]at h;subst h;simp
  | t :: ts, _, h => by
    simp only[IsTs]at h;obtain⟨a,r,rfl,h2,h3⟩:=h;intro u hu;rcases zr.1 hu with hu|hu
    · exact h2.cells1 u hu
    · exact IsTs.cells1 h3 u hu
theorem qg (w : World) : ∀ fs, Tryd.prog.underlying 26 = some (.struct fs) -> (fs.mapM λf => (do pure (f.offset, <- sizeOf f.type) : Sem (Nat × Nat))).run Tryd.prog w = .ok #[(0, 1), (1, 1), (2, 1)] w := by intro fs h;rw[Tryd.underlying26]at h;cases h;obtain⟨i1,h1,e1⟩:=zq.1 sz3;obtain⟨i3,h3,e3⟩:=zq.1 fM;simp [sizeOf,typeInfo,h1,h3,e1,e3]
theorem wM {z : Value} {a b : Int} {ad : Option Addr} {l c : Nat} : Instr.fill (λi => some (i * 3, 3)) ((Array.range (1 * 3)).map (z.cells[· % z.cells.size]!)) [(0, .agg #[.int .i64 a, .int .i64 b, .slice ad l c])] = some #[.int .i64 a, .int .i64 b, .slice ad l c] := by simp [Instr.fill,Value.cells];apply Array.ext';simp [zO,z6,Ab,Ag]
theorem wL {z : Value} {a b a' b' : Int} {ad ad' : Option Addr} {l c l' c' : Nat} : Instr.fill (λi => some (i * 3, 3)) ((Array.range (2 * 3)).map (z.cells[· % z.cells.size]!)) [(0, .agg #[.int .i64 a, .int .i64 b, .slice ad l c]), (1, .agg #[.int .i64 a', .int .i64 b', .slice ad' l' c'])] = some #[.int .i64 a, .int .i64 b, .slice ad l c, .int .i64 a', .int .i64 b', .slice ad' l' c'] := by simp [Instr.fill,Value.cells];apply Array.ext';simp [zO,z6,Ab,Ag]
end Go.Mi.Term
namespace Go.Mi
open Go.RowKit
section
variable {P:Program} {n:Nat} {L:List (Nat×Value)} {w:World} {ds:Option Nat} {ty:TypeId} {pos:String} {af:Array Edge} {gu:Option (Nat×Bool)}
theorem Ch.of_grown {w w':World} (h:w.grownBy w' none):Ch [] w w':=⟨h.os,h.tape,h.output,h.size,λg hg _=>h.block g hg (by simp)⟩
theorem lW {s x : Operand} {t e : TypeId} {z : Value} {base m bytes k b : Nat} {lv : Value} {news : List Value} (ht : P.underlying t = some (.slice e)) (hi : (P.info? e).map (λi => (i.size, i.bytes, i.zero)) = some (m, bytes, some z))
    (hzs:z.cells.size=m) (hm0:0<m) (hs:ev L s=some (.slice (some ⟨b,0,none⟩) 0 0)) (hx:ev L x=some lv) (hb:w.heap[b]? =some (.cells #[] e (0,0))) (hbb:base<=b) (hl:news.length=k*m)
    (hsrc:(lv= .slice none 0 0/\k=0/\news=[])\/∃a cap,lv= .slice (some a) k cap/\∀j u,news[j]? =some u->w.cell? (a.add j)=some u)
    (h1:∀u∈news,u.oneCell'=true) (hby:k*bytes<=140737488355328) (h63:k<=maxLen) (hbase:base<=w.heap.size):
    Ok1 P ⟨ds,.call ⟨.builtin .append,#[s,x],#[t,t]⟩,ty,pos,af,gu⟩ n L w λv' w'=>Own w' base e m v' k news/\Ch [] w w'/\(bC v'=[b]\/bC v'=[w.heap.size]):=by
  have c:Own w base e m (.slice (some ⟨b,0,none⟩) 0 0) 0 []:=⟨by simp,.inr ⟨b,0,#[],rfl,hbb,hb,zH _,by simp,by simp,by simp⟩⟩;obtain⟨f,d,hz⟩:=zq.1 hi;simp only[Prod.mk.injEq]at hz;rcases hsrc with⟨rfl,rfl,rfl⟩|⟨a2,cap,rfl,hat⟩
  · have o : (P.info? e).map (·.size) = some m := by rw [d]; simp [hz.1]
    exact(i_ ht o hs hx c).mono λv' w' ⟨e1,e2⟩=>by subst e1;subst e2;exact⟨by simpa using c,Ch.refl _ _,.inl rfl⟩
  · obtain ⟨v', w', hr, h2, _, _, h5⟩ := run_append_own_at (P := P) w base t ty e f z m bytes ht d hz.2.2 hz.1 hz.2.1 hzs hm0 _ 0 [] c a2 k cap news hl hat h1 (by omega) (by rw [Aj]; exact hby) hbase
    have p : Ch [] w w' := by
      rcases Al k with hk|hk
      · subst hk
        have hn:news=[]:=zR (by omega);subst hn;have h:=run_append_room_cells (P:=P) w t ty e f ht d b 0 0 0 a2 0 cap [] (by simp) (by simp) (by simp) (by omega) (by simp) (by simp);rw[h]at hr;injection hr with e1 e2
        rw[<-e2];exact Ch.refl _ _
      · obtain ⟨v2, w2, h, _, hg⟩ := run_append_arg_grows (P := P) w t ty e f z m bytes ht d hz.2.2 hz.1 hz.2.1 hzs hm0 ⟨b, 0, none⟩ 0 0 [] (by simp) (by simp) a2 k cap news hl hat (by omega) (by omega) (by rw [Aj]; exact hby)
        rw[h]at hr;injection hr with e1 e2
        rw[<-e2];exact Ch.of_grown hg
    have hd : Det P ⟨ds, .call ⟨.builtin .append, #[s, x], #[t, t]⟩, ty, pos, af, gu⟩ n L w v' w' := Det.of_run λa hF => by simp [execOp,hF.eval hs,hF.eval hx,resolve,invoke,builtin,hr]
    refine hd.mono λl w'' ⟨q1,q2⟩=> ?_;subst q1;subst q2;refine⟨by simpa using h2,p,?_⟩;have ob : ∀ g, l.ownBlock = some g -> bC l = [g] := by
      intro g;cases l with
      |slice a _ _=>cases a<;>simp [Value.ownBlock,bC]
      |_=>simp [Value.ownBlock]
    rcases h5 with h5|h5
    · exact .inl (ob _ h5)
    · exact .inr (ob _ h5)
end
end Go.Mi
namespace Go.Mi.Term
open Go.Mi Go.Proofs Go.RowKit
structure Gh where
 F:List Nat
 M:List Nat
 Y:List Nat
 N:List Value
def Gh.X (g:Gh):List Nat:=g.F++(g.M++g.Y)
structure TT (g:Gh) (w:World) (g':Gh) (w':World):Prop where
 ch:Ch (g.F++g.M) w w'
 sub:∀x,x∈g'.F++g'.M->x∈g.F++g.M\/w.heap.size<=x
 y:g'.Y=g.Y
 m:∀x,x∈g.M->x∈g'.M
 n:∃l,g'.N=g.N++l
theorem TT.trans {g g' g'':Gh} {w w' w'':World} (h:TT g w g' w') (k:TT g' w' g'' w''):TT g w g'' w'':=by
 obtain⟨l,hl⟩:=h.n;obtain⟨l',hl'⟩:=k.n;refine⟨⟨k.ch.os.trans h.ch.os,k.ch.tape.trans h.ch.tape,k.ch.output.trans h.ch.output,zy h.ch.size k.ch.size,λb hb hn=> ?_⟩,λx hx=> ?_,k.y.trans h.y,λx hx=>k.m x (h.m x hx),⟨l++l',by rw[hl',hl,Aa]⟩⟩
 ·rw[k.ch.blk b (zE hb h.ch.size) λhm=> ?_,h.ch.blk b hb hn];rcases h.sub b hm with h1|h1
  ·exact hn h1
  ·omega
 ·rcases k.sub x hx with h1|h1
  ·exact h.sub x h1
  ·exact .inr (zy h.ch.size h1)
theorem TT.X {g g':Gh} {w w':World} (h:TT g w g' w'):∀x,x∈g'.X->x∈g.X\/w.heap.size<=x:=by
 intro x hx;unfold Gh.X at hx⊢;rw[<-Aa,zr]at hx;rw[<-Aa,zr];rcases hx with hx|hx
 ·rcases h.sub x hx with h1|h1
  ·exact .inl (.inl h1)
  ·exact .inr h1
 ·rw[h.y]at hx;exact .inl (.inr hx)
theorem Gh.sub (g:Gh):∀y,y∈g.F++g.M->y∈g.X:=λy hy=>by unfold Gh.X;rw[<-Aa,zr];exact .inl hy
structure Wf (g:Gh) (w:World):Prop where
 lt:∀x,x∈g.X->x<w.heap.size
 dj:∀x,x∈g.M->x∉g.F/\x∉g.Y
def XX (g:Gh) (w:World) (g':Gh) (w':World):Prop:=g'=g/\Gr w w'
theorem XX.tt {g g':Gh} {w w':World} (h:XX g w g' w'):TT g w g' w':=by obtain⟨rfl,h⟩:=h;exact⟨h.ch.mono (by simp),λx hx=> .inl hx,rfl,λ_ h=>h,⟨[],by simp⟩⟩
theorem Wf.gr {g:Gh} {w w':World} (h:Wf g w) (k:w.heap.size<=w'.heap.size):Wf g w':=⟨λx hx=>zE (h.lt x hx) k,h.dj⟩
theorem RR:kM XX TT:=⟨λg w=>⟨rfl,Gr.refl w⟩,XX.tt,TT.trans,λg w=>⟨rfl,(Ch.drew w).gr⟩⟩
def TmIs (w:World) (X:List Nat) (t:Tm) (v:Value):Prop:=∃k n sl,v= .agg #[.int .i64 k,.int .i64 n,sl]/\IsT w X t [.int .i64 k,.int .i64 n,sl]
def TlIs (w:World) (X:List Nat) (full:Bool) (ts:List Tm) (v:Value):Prop:=∃b o cap xs,v= .slice (some ⟨b,o,none⟩) ts.length (ts.length+cap)/\(full=true->cap=0)/\b∉X/\b<w.heap.size/\At w b o xs/\IsTs w X ts xs
theorem TmIs.mv {w w':World} {X X' Y:List Nat} {t:Tm} {v:Value} (h:TmIs w X t v) (k:Ch Y w w') (hy:∀y,y∈Y->y∈X) (hx:∀x,x∈X'->x∈X\/w.heap.size<=x):TmIs w' X' t v:=by obtain⟨a,b,c,rfl,h⟩:=h;exact⟨a,b,c,rfl,IsT.mv k hy hx _ _ h⟩
theorem TlIs.gen {w:World} {X:List Nat} {f:Bool} {ts:List Tm} {v:Value} (h:TlIs w X f ts v):TlIs w X false ts v:=by obtain⟨b,o,cap,xs,h0,_,h1⟩:=h;exact⟨b,o,cap,xs,h0,(λh=>by cases h),h1⟩
theorem TlIs.mv {w w':World} {X X' Y:List Nat} {f:Bool} {ts:List Tm} {v:Value} (h:TlIs w X f ts v) (k:Ch Y w w') (hy:∀y,y∈Y->y∈X) (hx:∀x,x∈X'->x∈X\/w.heap.size<=x):TlIs w' X' f ts v:=by
 obtain⟨b,o,cap,xs,rfl,hc,h1,h2,h3,h4⟩:=h;refine⟨b,o,cap,xs,rfl,hc,λhm=> ?_,zE h2 k.size,h3.mv k λhm=>h1 (hy b hm),IsTs.mv k hy hx _ _ h4⟩;rcases hx b hm with h5|h5
 ·exact h1 h5
 ·omega
abbrev tmS (t:Tm):Sp TT:= .pr ⟨λg w v=>TmIs w g.X t v,λh k=>h.mv k.ch (Gh.sub _) k.X⟩
abbrev tlS (ts:List Tm):Sp TT:= .pr ⟨λg w v=>TlIs w g.X false ts v,λh k=>h.mv k.ch (Gh.sub _) k.X⟩
abbrev tfS (ts:List Tm):Sp TT:= .pr ⟨λg w v=>TlIs w g.X true ts v,λh k=>h.mv k.ch (Gh.sub _) k.X⟩
theorem iR {g g':Gh} {w w':World} {k:Nat} {v:Value} (hv:g.N[k]? =some v) (h:TT g w g' w'):g'.N[k]? =some v:=by
 obtain⟨l,hl⟩:=h.n;rw[hl,zL]
 ·exact hv
 ·rcases zF k g.N.length with h'|h'
  ·exact h'
  ·rw[zz h']at hv;cases hv
abbrev nwS (k:Nat):Sp TT:= .pr ⟨λg _ v=>g.N[k]? =some v,iR⟩
abbrev nwO (k o:Nat):Sp TT:= .pr ⟨λg _ v=>∃b,g.N[k]? =some (vp b)/\v=vP b o,λ⟨b,h1,h2⟩ h=>⟨b,iR h1 h,h2⟩⟩
abbrev cH (m:Nat):Sp TT:= .pr ⟨λ_ _ v=>∃c:Array Value,v= .agg c/\c.size=m,λh _=>h⟩
abbrev bB:Sp TT:= .pr ⟨λ_ _ _=>True,λ_ _=>trivial⟩
abbrev eqS (v:Value):Sp TT:= .eq v
abbrev eI (n:Int):Sp TT:=eqS (vI n)
abbrev eP (b o:Nat):Sp TT:=eqS (vP b o)
abbrev eB (b:Bool):Sp TT:=eqS (vB b)
structure RX where
 P:Gh->World->Prop
 st:∀{g g':Gh} {w w':World} {C:List Nat},P g w->Ch C w w'->(∀c,c∈C->c∈g.X/\c∉g.F/\c∉g.Y)->g'.F=g.F->g'.Y=g.Y->(∀x,x∈g'.X->x∈g.X\/w.heap.size<=x)->(∀(k:Nat) v,g.N[k]? =some v->g'.N[k]? =some v)->P g' w'
def noR:RX:=⟨λg _=>g.F=[],λh _ _ hf _ _ _=>hf.trans h⟩
theorem cO {w:World} {b:Nat} {o:Obj} (h:w.heap[b]? =some o):b<w.heap.size:=by
 rcases zF b w.heap.size with h'|h'
 ·exact h'
 ·rw[zY h']at h;cases h
def CellIs (g:Gh) (w:World) (k:Nat) (p:Nat×Sp TT):Prop:=∃(b:Nat) (c:Array Value),g.N[k]? =some (vp b)/\b∈g.M/\w.heap[b]? =some (.cells c p.1 (0,0))/\p.2.hold g w (.agg c)
structure StB (ρ:RX) (ns:List (Nat×Sp TT)) (g:Gh) (w:World):Prop where
 wf:Wf g w
 pl:∀(j:Nat) b,g.N[j]? =some (vp b)->b<w.heap.size
 run:ρ.P g w
 nd:∀(j k:Nat) b,g.N[j]? =some (vp b)->g.N[k]? =some (vp b)->j=k
 len:g.N.length=ns.length
 cell:∀k p,ns[k]? =some p->p.1≠0->CellIs g w k p
theorem TT.nth {g g':Gh} {w w':World} (h:TT g w g' w') {k:Nat} {v:Value} (hv:g.N[k]? =some v):g'.N[k]? =some v:=by
 obtain⟨l,hl⟩:=h.n;rw[hl,zL]
 ·exact hv
 ·rcases zF k g.N.length with h'|h'
  ·exact h'
  ·rw[zz h']at hv;cases hv
theorem CellIs.mv {g g':Gh} {w w':World} {k:Nat} {p:Nat×Sp TT} (h:CellIs g w k p) (t:TT g w g' w') (hb:∀b,g.N[k]? =some (vp b)->b<w.heap.size->w'.heap[b]? =w.heap[b]?):CellIs g' w' k p:=by obtain⟨b,c,h1,h2,h3,h4⟩:=h;exact⟨b,c,t.nth h1,t.m _ h2,by rw[hb b h1 (cO h3)];exact h3,Sp.mv h4 t⟩
theorem StB.gr {ρ:RX} {ns:List (Nat×Sp TT)} {g:Gh} {w w':World} (h:StB ρ ns g w) (k:Gr w w'):StB ρ ns g w':=⟨h.wf.gr k.size,λj b hj=>zE (h.pl j b hj) k.size,ρ.st h.run k.ch (by simp) rfl rfl (λ_ hx=> .inl hx) (λ_ _ h=>h),h.nd,h.len,λj p hp h0=>(h.cell j p hp h0).mv (XX.tt ⟨rfl,k⟩) λ_ _ hb=>k.block _ hb⟩
def stB (ρ:RX) (ns:List (Nat×Sp TT)):BX XX:=⟨λg w=>StB ρ ns g w,λh k=>by
 obtain⟨rfl,k⟩:=k;exact h.gr k⟩
structure SS (L:TL TT) (n:Nat) (B:BX XX) (g0:Gh) (w0:World) (a:Act) (g:Gh) (w:World):Prop where
 t:TT g0 w0 g w
 b:B.P g w
 f:Fr a n L g w
section
variable {P:Program} {ops:List Oper} {n:Nat} {L0 Lo:TL TT} {g0 g:Gh} {w0 w:World} {a:Act} {Q:Exit->Act->World->Prop} {id:Nat}
theorem rgl {B0 : BX XX} (E : List (Ef TT)) (keep : List Nat) (B : Nat -> BX XX) (pe : Nat) (hpl : kH P ops L0 E keep = some (E.map (·.L), Lo)) (hck : (ga n ops && phL 0 E && Nat.beq (jm 0 E) pe) = true) (hobs : EObs P n ops XX B E) (hS : SS L0 n B0 g0 w0 a g w) (h0 : B 0 = B0)
  (hend:∀a g w,SS Lo n (B pe) g0 w0 a g w->Q .normal a w):(Code.region id ops.toArray false).wp P Q a w:=
 n3 RR E B pe hpl hck hobs (by rw[h0];exact hS.b) hS.f λa' g' w' k1 k2 k3=>hend a' g' w' ⟨hS.t.trans k1,k2,k3⟩
theorem rga {B0 : BX XX} (hm : P.follows .mixedOrders = true) (E : List (Ef TT)) (keep : List Nat) (B : Nat -> BX XX) (pe : Nat) (hpl : kH P ops L0 E keep = some (E.map (·.L), Lo)) (hck : (iw n (ssT E) ops (ii ops E) && Nat.beq (ssT E).length pe) = true) (hobs : EObs P n ops XX B E) (hS : SS L0 n B0 g0 w0 a g w) (h0 : B 0 = B0)
  (hend:∀a g w,SS Lo n (B pe) g0 w0 a g w->Q .normal a w):(Code.region id ops.toArray true).wp P Q a w:=
 n4 RR hm E B pe hpl hck hobs (by rw[h0];exact hS.b) hS.f λa' g' w' k1 k2 k3=>hend a' g' w' ⟨hS.t.trans k1,k2,k3⟩
abbrev e0 (i:Nat) (L:TL TT) (s:Sp TT):Ef TT:=⟨i,L,s,[0],false⟩
abbrev e1 (i:Nat) (L:TL TT) (s:Sp TT):Ef TT:=⟨i,L,s,[0],true⟩
theorem yP {B0 : BX XX} (hS : SS L0 n B0 g0 w0 a g w) (E : List (Ef TT)) (keep : List Nat) (hpl : kH P ops L0 E keep = some (E.map (·.L), Lo)) (hck : (ga n ops && phL 0 E && Nat.beq (jm 0 E) 0) = true) (hobs : EObs P n ops XX (λ_ => B0) E)
  (hend:∀a g w,SS Lo n B0 g0 w0 a g w->Q .normal a w):(Code.region id ops.toArray false).wp P Q a w:=rgl E keep (λ_=>B0) 0 hpl hck hobs hS rfl hend
theorem yQ {B0 : BX XX} (hm : P.follows .mixedOrders = true) (hS : SS L0 n B0 g0 w0 a g w) (E : List (Ef TT)) (keep : List Nat) (hpl : kH P ops L0 E keep = some (E.map (·.L), Lo)) (hck : (iw n (ssT E) ops (ii ops E) && Nat.beq (ssT E).length 0) = true) (hobs : EObs P n ops XX (λ_ => B0) E)
  (hend:∀a g w,SS Lo n B0 g0 w0 a g w->Q .normal a w):(Code.region id ops.toArray true).wp P Q a w:=rga hm E keep (λ_=>B0) 0 hpl hck hobs hS rfl hend
variable {B:Nat->BX XX} {i p:Nat} {L:TL TT} {ph:List Nat} {s:Sp TT} {ρ:RX} {ns:List (Nat×Sp TT)}
theorem rx {B0:BX XX} (E:List (Ef TT)) (keep:List Nat) (B:Nat->BX XX) (pe:Nat) (Lo:TL TT) (hobs:EObs P n ops XX B E) (hS:SS L0 n B0 g0 w0 a g w) (h0:B 0=B0) (hend:∀a g w,SS Lo n (B pe) g0 w0 a g w->Q .normal a w) (hpl:kH P ops L0 E keep=some (E.map (·.L),Lo):=by kernel_rfl) (hck:(ga n ops&&phL 0 E&&Nat.beq (jm 0 E) pe)=true:=by kernel_rfl):(Code.region id ops.toArray false).wp P Q a w:=rgl E keep B pe hpl hck hobs hS h0 hend
theorem rw_ {B0:BX XX} (hm:P.follows .mixedOrders=true) (E:List (Ef TT)) (keep:List Nat) (B:Nat->BX XX) (pe:Nat) (Lo:TL TT) (hobs:EObs P n ops XX B E) (hS:SS L0 n B0 g0 w0 a g w) (h0:B 0=B0) (hend:∀a g w,SS Lo n (B pe) g0 w0 a g w->Q .normal a w) (hpl:kH P ops L0 E keep=some (E.map (·.L),Lo):=by kernel_rfl) (hck:(iw n (ssT E) ops (ii ops E)&&Nat.beq (ssT E).length pe)=true:=by kernel_rfl):(Code.region id ops.toArray true).wp P Q a w:=rga hm E keep B pe hpl hck hobs hS h0 hend
theorem rz {B0:BX XX} (hS:SS L0 n B0 g0 w0 a g w) (E:List (Ef TT)) (keep:List Nat) (Lo:TL TT) (hobs:EObs P n ops XX (λ_=>B0) E) (hend:∀a g w,SS Lo n B0 g0 w0 a g w->Q .normal a w) (hpl:kH P ops L0 E keep=some (E.map (·.L),Lo):=by kernel_rfl) (hck:(ga n ops&&phL 0 E&&Nat.beq (jm 0 E) 0)=true:=by kernel_rfl):(Code.region id ops.toArray false).wp P Q a w:=yP hS E keep hpl hck hobs hend
theorem ry {B0:BX XX} (hm:P.follows .mixedOrders=true) (hS:SS L0 n B0 g0 w0 a g w) (E:List (Ef TT)) (keep:List Nat) (Lo:TL TT) (hobs:EObs P n ops XX (λ_=>B0) E) (hend:∀a g w,SS Lo n B0 g0 w0 a g w->Q .normal a w) (hpl:kH P ops L0 E keep=some (E.map (·.L),Lo):=by kernel_rfl) (hck:(iw n (ssT E) ops (ii ops E)&&Nat.beq (ssT E).length 0)=true:=by kernel_rfl):(Code.region id ops.toArray true).wp P Q a w:=yQ hm hS E keep hpl hck hobs hend
theorem fv (h:∀ξ (g:Gh) w,(B p).P g w->iK L ξ g w->Ok1 P (ops.getD i default) n (exL L ξ) w λv w'=>Gr w w'/\s.hold g w' v):EOb P n ops XX B ⟨i,L,s,ph,false⟩ p:=λξ g w hB hH=>(h ξ g w hB hH).mono λv w' ⟨h1,h2⟩=>⟨g,⟨rfl,h1⟩,h2⟩
theorem bN (h:∀ξ (g:Gh) w,(B p).P g w->iK L ξ g w->∃v,s.hold g w v/\Det P (ops.getD i default) n (exL L ξ) w v w):EOb P n ops XX B ⟨i,L,s,ph,false⟩ p:=fv λξ g w hB hH=>by
 obtain⟨v,h1,h2⟩:=h ξ g w hB hH;exact h2.mono λv' w' ⟨e1,e2⟩=>by subst e1;subst e2;exact⟨Gr.refl _,h1⟩
theorem StB.new {g:Gh} {w w':World} {b ty:Nat} {c:Array Value} {sp:Sp TT} (h:StB ρ ns g w) (k:NewB w w' b c ty) (hs:sp.hold g w (.agg c)):TT g w ⟨g.F,b::g.M,g.Y,g.N++[vp b]⟩ w'/\StB ρ (ns++[(ty,sp)]) ⟨g.F,b::g.M,g.Y,g.N++[vp b]⟩ w':=by
 have hb:b=w.heap.size:=k.num;have hsz:w'.heap.size=w.heap.size+1:=by rw[k.eq];simp
 have d:=k.blk;have ht:TT g w ⟨g.F,b::g.M,g.Y,g.N++[vp b]⟩ w':=by
  refine⟨k.ch.mono (by simp),λx hx=> ?_,rfl,λx hx=>zN _ hx,⟨_,rfl⟩⟩;simp only[zr,zx]at hx⊢;rcases hx with hx|rfl|hx
  ·exact .inl (.inl hx)
  ·exact .inr (by omega)
  ·exact .inl (.inr hx)
 have hold:∀(j:Nat) b',(g.N++[vp b])[j]? =some (vp b')->(j<g.N.length/\g.N[j]? =some (vp b')/\b'<b)\/(j=g.N.length/\b'=b):=by
  intro j b' hj;rcases zF j g.N.length with hl|hl
  ·rw[zL hl]at hj;have :=h.pl j b' hj;exact .inl ⟨hl,hj,by omega⟩
  ·rw[zM hl]at hj;rcases Al (j-g.N.length)with h0|h0
   ·rw[h0]at hj;simp at hj;exact .inr ⟨by omega,hj.symm⟩
   ·rw[zz (by simp only[Ar];omega)]at hj;cases hj
 refine⟨ht,⟨⟨λx hx=> ?_,λx hx=> ?_⟩,λj b' hj=> ?_,ρ.st h.run k.ch (by simp) rfl rfl ht.X (λ_ _=>ht.nth),λj j' b' hj a=> ?_,by simp [h.len],λj p hp h0=> ?_⟩⟩
 ·have :=h.wf.lt x;simp only[Gh.X,zr,zx]at hx this;rcases hx with hx|(rfl|hx)|hx
  ·have :=this (.inl hx);omega
  ·omega
  ·have :=this (.inr (.inl hx));omega
  ·have :=this (.inr (.inr hx));omega
 ·rcases zx.1 hx with rfl|hx
  ·exact⟨λhf=>by have :=h.wf.lt x (by simp [Gh.X,hf]);omega,λhf=>by have :=h.wf.lt x (by simp [Gh.X,hf]);omega⟩
  ·exact h.wf.dj x hx
 ·rcases hold j b' hj with⟨_,_,h3⟩|⟨_,h3⟩<;>omega
 ·rcases hold j b' hj with⟨h1,h2,h3⟩|⟨h1,h3⟩<;>rcases hold j' b' a with⟨k1,k2,k3⟩|⟨k1,k3⟩
  ·exact h.nd j j' b' h2 k2
  ·omega
  ·omega
  ·omega
 ·rcases zF j ns.length with hl|hl
  ·rw[zL hl]at hp;exact(h.cell j p hp h0).mv ht λ_ _ hb=>k.ch.gr.block _ hb
  ·rw[zM hl]at hp;have hj:j-ns.length=0:=by
    rcases Al (j-ns.length)with h'|h'
    ·exact h'
    ·rw[zz (by simp only[Ar];omega)]at hp;cases hp
   rw[hj]at hp;cases hp;have e:j=g.N.length:=by have :=h.len;omega
   exact⟨b,c,by simp [e],by simp,d,Sp.mv hs ht⟩
theorem StB.upd {g:Gh} {w w':World} {b ty k:Nat} {c:Array Value} {sp sp':Sp TT} (h:StB ρ ns g w) (hk:ns[k]? =some (ty,sp)) (hty:ty≠0) (hb:g.N[k]? =some (vp b)) (hu:Upd w w' b c ty) (hs:sp'.hold g w (.agg c)):TT g w g w'/\StB ρ (ns.set k (ty,sp')) g w':=by
 have hbM:b∈g.M:=by obtain⟨b',c',h1,h2,_⟩:=h.cell k _ hk hty;rw[hb]at h1;cases h1;exact h2
 have ht:TT g w g w':=⟨hu.ch.mono (by simp [hbM]),λx hx=> .inl hx,rfl,λ_ hx=>hx,⟨[],by simp⟩⟩;have hkl:k<g.N.length:=by
  rcases zF k g.N.length with h'|h'
  ·exact h'
  ·rw[zz h']at hb;cases hb
 refine⟨ht,⟨h.wf.gr hu.ch.size,λj b hj=>zE (h.pl j b hj) hu.ch.size,ρ.st h.run hu.ch (λy hy=>by rw[zt.1 hy];exact⟨by simp [Gh.X,hbM],h.wf.dj b hbM⟩) rfl rfl (λ_ hx=> .inl hx) (λ_ _ h=>h),h.nd,by simp [h.len],λj p hp h0=> ?_⟩⟩;by_cases e:j=k
 ·subst e;rw[List.getElem?_set_self (by rw[<-h.len];exact hkl)]at hp;cases hp;exact⟨b,c,hb,hbM,hu.blk,Sp.mv hs ht⟩
 ·rw[List.getElem?_set_ne (λe'=>e e'.symm)]at hp;refine(h.cell j p hp h0).mv ht λb' hb' _=>hu.other _ λe'=> ?_;subst e';exact e (h.nd _ _ _ hb' hb)
theorem StB.run' {ρ' : RX} {g g' : Gh} {w w' : World} (h : StB ρ ns g w) (hc : Ch g.F w w') (hF : ∀ x, x ∈ g'.F -> x ∈ g.F \/ w.heap.size <= x) (hl : ∀ x, x ∈ g'.F -> x < w'.heap.size) (hM : g'.M = g.M) (hY : g'.Y = g.Y) {l : List Value} {l' : List (Nat × Sp TT)} (hN : g'.N = g.N ++ l) (hlen : l.length = l'.length) (hp0 : ∀ v, v ∈ l -> ∀ b, v ≠ vp b) (hl0 : ∀ p, p ∈ l' -> p.1 = 0) (hr : ρ'.P g' w') :
  TT g w g' w'/\StB ρ' (ns++l') g' w':=by
 have ht:TT g w g' w':=⟨hc.mono (by simp;exact λy hy=> .inl hy),λx hx=>by
  rw[zr,hM]at hx;rcases hx with hx|hx
  ·rcases hF x hx with h1|h1
   ·exact .inl (zw _ h1)
   ·exact .inr h1
  ·exact .inl (zA _ hx),hY,λx hx=>by rw[hM];exact hx,⟨l,hN⟩⟩
 have a:∀(j:Nat) b',g'.N[j]? =some (vp b')->g.N[j]? =some (vp b'):=by
  intro j b' hj;rw[hN]at hj;rcases zF j g.N.length with hl|hl
  ·rwa [zL hl]at hj
  ·rw[zM hl]at hj;exact absurd rfl (hp0 _ (zC hj) b')
 refine⟨ht,⟨⟨λx hx=> ?_,λx hx=> ?_⟩,λj b hj=>zE (h.pl j b (a j b hj)) hc.size,hr,λj j' b hj d=>h.nd j j' b (a j b hj) (a j' b d),by rw[hN,zP,zP,h.len,hlen],λj p hp h0=> ?_⟩⟩
 ·have h1:=h.wf.lt x;simp only[Gh.X,zr,hM,hY]at hx h1;rcases hx with hx|hx
  ·exact hl x hx
  ·exact zE (h1 (.inr hx)) hc.size
 ·rw[hM]at hx;rw[hY];refine⟨λhf=> ?_,(h.wf.dj x hx).2⟩;rcases hF x hf with h1|h1
  ·exact(h.wf.dj x hx).1 h1
  ·have :=h.wf.lt x (by simp [Gh.X,hx]);omega
 ·rcases zF j ns.length with hl|hl
  ·rw[zL hl]at hp;obtain⟨b,c,k1,k2,k3,k4⟩:=h.cell j p hp h0;exact⟨b,c,ht.nth k1,ht.m _ k2,by rw[hc.blk b (cO k3) (h.wf.dj b k2).1];exact k3,Sp.mv k4 ht⟩
  ·rw[zM hl]at hp;exact absurd (hl0 p (zC hp)) h0
end
end Go.Mi.Term
namespace Go.Mi.Term
open Go.Mi Go.Proofs Go.RowKit
section
variable {P:Program} {ops:List Oper} {n:Nat} {B:Nat->BX XX} {i p k m:Nat} {L:TL TT} {ph:List Nat} {s sp sp0:Sp TT} {ρ ρ':RX} {ns:List (Nat×Sp TT)} {ds:Option Tmp} {ty:TypeId} {pos:String} {af:Array Edge} {gu:Option (Nat×Bool)} {t:TypeId}
def Agg (m:Nat) (s:Sp TT):Prop:=∀g w v,s.hold g w v->∃c:Array Value,v= .agg c/\c.size=m/\∀u,u∈c.toList->u.oneCell'=true
def lB (m:Nat) (s:Sp TT):Prop:=∀g w v,s.hold g w v->∃c:Array Value,v= .agg c/\c.size=m
theorem Agg.sized (h:Agg m s):lB m s:=λg w v hv=>by obtain⟨c,h1,h2,_⟩:=h g w v hv;exact⟨c,h1,h2⟩
theorem cf (m:Nat):lB m (cH m):=λ_ _ _ h=>h
theorem bT (t:Tm):Agg 3 (tmS t):=λg w v ⟨a,b,c,h,h2⟩=>by obtain⟨_,_,ad,l,cp,he⟩:=h2.form;simp only[List.cons.injEq,and_true]at he;obtain⟨_,_,rfl⟩:=he;exact⟨_,h,rfl,by simp [Value.oneCell']⟩
theorem cC {z:Array Value} (hB0:B p=stB ρ ns) (hB1:B (p+1)=stB ρ (ns++[(ty,cH m)])) (hop:ops.getD i default=⟨ds,.alloc ty,t,pos,af,gu⟩) (hz:(P.info? ty).bind (·.zero)=some (.agg z)) (hm:z.size=m) (hk:ns.length=k):EOb P n ops XX B ⟨i,L,nwS k,ph,true⟩ p:=by
 subst hk;intro ξ g w hB hH;rw[hB0]at hB;have hB:StB ρ ns g w:=hB;show Ok1 P (ops.getD i default) _ _ _ _;rw[hop];refine(ez hz).mono ?_;rintro v w' ⟨b,rfl,hn⟩;obtain⟨h1,h2⟩:=hB.new hn (sp:=cH m) ⟨z,rfl,hm⟩;refine⟨_,⟨h1,?_⟩,?_⟩
 ·show(B (p+1)).P _ _;rw[hB1];exact h2
 ·show(g.N++[vp b])[ns.length]? =some (vp b);rw[<-hB.len];simp
theorem cY {x:Operand} (hB0:B p=stB ρ ns) (hB1:B (p+1)=stB ρ (ns++[(ty,sp)])) (hop:ops.getD i default=⟨ds,.box ty x,t,pos,af,gu⟩) (hx:spO L x=some sp) (ha:lB m sp) (hk:ns.length=k):EOb P n ops XX B ⟨i,L,nwS k,ph,true⟩ p:=by
 subst hk;intro ξ g w hB hH;rw[hB0]at hB;have hB:StB ρ ns g w:=hB;show Ok1 P (ops.getD i default) _ _ _ _;rw[hop];obtain⟨v,h1,h2⟩:=bH hx hH;obtain⟨c,rfl,_⟩:=ha _ _ _ h2;refine(dG h1).mono ?_;rintro v w' ⟨b,rfl,hn⟩;obtain⟨h1,h2⟩:=hB.new hn (sp:=sp) h2;refine⟨_,⟨h1,?_⟩,?_⟩
 ·show(B (p+1)).P _ _;rw[hB1];exact h2
 ·show(g.N++[vp b])[ns.length]? =some (vp b);rw[<-hB.len];simp
theorem cB {x y:Operand} (hB0:B p=stB ρ ns) (hB1:B (p+1)=stB ρ (ns.set k (ty,sp))) (hop:ops.getD i default=⟨ds,.store ty x y,t,pos,af,gu⟩) (hx:spO L x=some (nwS k)) (hy:spO L y=some sp) (hk:ns[k]? =some (ty,sp0)) (hty:ty≠0) (hs:(P.info? ty).map (·.size)=some m) (h0:lB m sp0) (ha:Agg m sp):EOb P n ops XX B ⟨i,L,bB,ph,true⟩ p:=by intro ξ g w hB hH;rw[hB0]at hB;have hB:StB ρ ns g w:=hB;show Ok1 P (ops.getD i default) _ _ _ _;rw[hop];obtain⟨vx,h1,h2⟩:=bH hx hH;obtain⟨vy,h3,h4⟩:=bH hy hH;obtain⟨b,c,h5,h6,h7,h8⟩:=hB.cell k _ hk hty;have h2:g.N[k]? =some vx:=h2;rw[h5]at h2;cases h2;obtain⟨c',rfl,h9,h10⟩:=ha _ _ _ h4;obtain⟨c2,e,h11⟩:=h0 _ _ _ h8;cases e;refine(dM hs h1 h3 h9 h10 h7 h11).mono ?_;intro v w' hu;obtain⟨k1,k2⟩:=hB.upd hk hty h5 hu h4;exact⟨g,⟨k1,by show(B (p+1)).P _ _;rw[hB1];exact k2⟩,zo⟩
theorem cg {x:Operand} {d:TypeDesc} (hB0:B p=stB ρ ns) (hop:ops.getD i default=⟨ds,.load ty x,t,pos,af,gu⟩) (hx:spO L x=some (nwS k)) (hk:ns[k]? =some (ty,sp)) (hty:ty≠0) (ht:P.underlying ty=some d) (hf:TypeDesc.flat d=false) (hs:(P.info? ty).map (·.size)=some m) (ha:lB m sp):EOb P n ops XX B ⟨i,L,sp,ph,false⟩ p:=bN λξ g w hB hH=>by rw[hB0]at hB;have hB:StB ρ ns g w:=hB;rw[hop];obtain⟨vx,h1,h2⟩:=bH hx hH;obtain⟨b,c,h5,h6,h7,h8⟩:=hB.cell k _ hk hty;have h2:g.N[k]? =some vx:=h2;rw[h5]at h2;cases h2;obtain⟨c2,e,h11⟩:=ha _ _ _ h8;cases e;exact⟨_,h8,eA ht hf hs h1 h7 h11⟩
end
theorem TmIs.cells {w:World} {X:List Nat} {t:Tm} {v:Value} (h:TmIs w X t v):∃k n ad l c,v= .agg #[.int .i64 k,.int .i64 n,.slice ad l c]/\IsT w X t [.int .i64 k,.int .i64 n,.slice ad l c]:=by obtain⟨a,b,sl,rfl,h2⟩:=h;obtain⟨_,_,ad,l,cp,he⟩:=h2.form;simp only[List.cons.injEq,and_true]at he;obtain⟨_,_,rfl⟩:=he;exact⟨_,_,_,_,_,rfl,h2⟩
theorem wK {z : Value} {a1 a2 a3 b1 b2 b3 : Int} {d1 d2 d3 : Option Addr} {l1 l2 l3 c1 c2 c3 : Nat} : Instr.fill (λi => some (i * 3, 3)) ((Array.range (3 * 3)).map (z.cells[· % z.cells.size]!)) [(0, .agg #[.int .i64 a1, .int .i64 b1, .slice d1 l1 c1]), (1, .agg #[.int .i64 a2, .int .i64 b2, .slice d2 l2 c2]), (2, .agg #[.int .i64 a3, .int .i64 b3, .slice d3 l3 c3])] =
  some #[.int .i64 a1,.int .i64 b1,.slice d1 l1 c1,.int .i64 a2,.int .i64 b2,.slice d2 l2 c2,.int .i64 a3,.int .i64 b3,.slice d3 l3 c3]:=by
 simp [Instr.fill,Value.cells];apply Array.ext';simp [zO,z6,Ab,Ag]
theorem wI {z : Value} {a1 a2 a3 a4 a5 b1 b2 b3 b4 b5 : Int} {d1 d2 d3 d4 d5 : Option Addr} {l1 l2 l3 l4 l5 c1 c2 c3 c4 c5 : Nat} : Instr.fill (λi => some (i * 3, 3)) ((Array.range (5 * 3)).map (z.cells[· % z.cells.size]!)) [(0, .agg #[.int .i64 a1, .int .i64 b1, .slice d1 l1 c1]), (1, .agg #[.int .i64 a2, .int .i64 b2, .slice d2 l2 c2]), (2, .agg #[.int .i64 a3, .int .i64 b3, .slice d3 l3 c3]), (3, .agg #[.int .i64 a4, .int .i64 b4, .slice d4 l4 c4]), (4, .agg #[.int .i64 a5, .int .i64 b5, .slice d5 l5 c5])] =
  some #[.int .i64 a1,.int .i64 b1,.slice d1 l1 c1,.int .i64 a2,.int .i64 b2,.slice d2 l2 c2,.int .i64 a3,.int .i64 b3,.slice d3 l3 c3,.int .i64 a4,.int .i64 b4,.slice d4 l4 c4,.int .i64 a5,.int .i64 b5,.slice d5 l5 c5]:=by
 simp [Instr.fill,Value.cells];apply Array.ext';simp [zO,z6,Ab,Ag]
section
variable {ops:List Oper} {n:Nat} {B:Nat->BX XX} {i p:Nat} {L:TL TT} {ph:List Nat} {ρ:RX} {ns:List (Nat×Sp TT)} {ds:Option Tmp} {pos:String} {af:Array Edge} {gu:Option (Nat×Bool)} {t:TypeId}
theorem bX {P:Program} {s:Sp TT} (hB0:B p=stB ρ ns) (h:∀ξ (g:Gh) w,StB ρ ns g w->iK L ξ g w->Ok1 P (ops.getD i default) n (exL L ξ) w λv w'=>Gr w w'/\s.hold g w' v):EOb P n ops XX B ⟨i,L,s,ph,false⟩ p:=fv λξ g w hB hH=>h ξ g w (by rw[hB0]at hB;exact hB) hH
theorem gZ {P:Program} {s:Sp TT} (hB0:B p=stB ρ ns) (h:∀ξ (g:Gh) w,StB ρ ns g w->iK L ξ g w->∃v,s.hold g w v/\Det P (ops.getD i default) n (exL L ξ) w v w):EOb P n ops XX B ⟨i,L,s,ph,false⟩ p:=bN λξ g w hB hH=>h ξ g w (by rw[hB0]at hB;exact hB) hH
theorem j2 {g:Gh} {w w':World} {b len:Nat} {c:Array Value} {ts:List Tm} (hw:Wf g w) (h:NewB w w' b c 26) (hl:len=ts.length) (hc:IsTs w g.X ts c.toList):Gr w w'/\TlIs w' g.X true ts (.slice (some ⟨b,0,none⟩) len len):=by subst hl;refine⟨h.ch.gr,b,0,0,_,rfl,λ_=>rfl,λhm=> ?_,h.lt,h.at,IsTs.mv h.ch (by simp) (λx hx=> .inl hx) _ _ hc⟩;have :=hw.lt b hm;have :=h.num;omega
set_option maxRecDepth 100000 in
theorem de {x1:Operand} {t1:Tm} (hB0:B p=stB ρ ns) (hop:ops.getD i default=⟨ds,.buildSlice 24 1 #[(0,x1)],t,pos,af,gu⟩) (h1:spO L x1=some (tmS t1)):EOb Tryd.prog n ops XX B ⟨i,L,tfS [t1],ph,false⟩ p:=fv λξ g w hB hH=>by rw[hB0]at hB;have hB:StB ρ ns g w:=hB;rw[hop];obtain⟨v1,e1,k1⟩:=bH h1 hH;obtain⟨a1,b1,d1,l1,c1,rfl,i1⟩:=TmIs.cells k1;refine(bU Tryd.underlying24 qG (ps:=[(0,.agg #[.int .i64 a1,.int .i64 b1,.slice d1 l1 c1])]) (by simp [evp,e1]) (by decide) (by decide) wM).mono ?_;rintro v w' ⟨b,rfl,hn⟩;exact j2 hB.wf hn rfl (by simpa using IsTs.one i1)
theorem IsTs.cons {w:World} {X:List Nat} {t:Tm} {ts:List Tm} {a r:List Value} (h:IsT w X t a) (k:IsTs w X ts r):IsTs w X (t::ts) (a++r):=by simp only[IsTs];exact⟨a,r,rfl,h,k⟩
set_option maxRecDepth 100000 in
theorem cX {x1 x2:Operand} {t1 t2:Tm} (hB0:B p=stB ρ ns) (hop:ops.getD i default=⟨ds,.buildSlice 24 2 #[(0,x1),(1,x2)],t,pos,af,gu⟩) (h1:spO L x1=some (tmS t1)) (h2:spO L x2=some (tmS t2)):EOb Tryd.prog n ops XX B ⟨i,L,tfS [t1,t2],ph,false⟩ p:=fv λξ g w hB hH=>by rw[hB0]at hB;have hB:StB ρ ns g w:=hB;rw[hop];obtain⟨v1,e1,k1⟩:=bH h1 hH;obtain⟨v2,e2,k2⟩:=bH h2 hH;obtain⟨a1,b1,d1,l1,c1,rfl,i1⟩:=TmIs.cells k1;obtain⟨a2,b2,d2,l2,c2,rfl,i2⟩:=TmIs.cells k2;refine(bU Tryd.underlying24 qG (ps:=[(0,.agg #[.int .i64 a1,.int .i64 b1,.slice d1 l1 c1]),(1,.agg #[.int .i64 a2,.int .i64 b2,.slice d2 l2 c2])]) (by simp [evp,e1,e2]) (by decide) (by decide) wL).mono ?_;rintro v w' ⟨b,rfl,hn⟩;exact j2 hB.wf hn rfl (by simpa using IsTs.cons i1 (IsTs.one i2))
set_option maxRecDepth 100000 in
theorem rr {x1 x2 x3:Operand} {t1 t2 t3:Tm} (hB0:B p=stB ρ ns) (hop:ops.getD i default=⟨ds,.buildSlice 24 3 #[(0,x1),(1,x2),(2,x3)],t,pos,af,gu⟩) (h1:spO L x1=some (tmS t1)) (h2:spO L x2=some (tmS t2)) (h3:spO L x3=some (tmS t3)):EOb Tryd.prog n ops XX B ⟨i,L,tfS [t1,t2,t3],ph,false⟩ p:=fv λξ g w hB hH=>by rw[hB0]at hB;have hB:StB ρ ns g w:=hB;rw[hop];obtain⟨v1,e1,k1⟩:=bH h1 hH;obtain⟨v2,e2,k2⟩:=bH h2 hH;obtain⟨v3,e3,k3⟩:=bH h3 hH;obtain⟨a1,b1,d1,l1,c1,rfl,i1⟩:=TmIs.cells k1;obtain⟨a2,b2,d2,l2,c2,rfl,i2⟩:=TmIs.cells k2;obtain⟨a3,b3,d3,l3,c3,rfl,i3⟩:=TmIs.cells k3;refine(bU Tryd.underlying24 qG (ps:=[(0,.agg #[.int .i64 a1,.int .i64 b1,.slice d1 l1 c1]),(1,.agg #[.int .i64 a2,.int .i64 b2,.slice d2 l2 c2]),(2,.agg #[.int .i64 a3,.int .i64 b3,.slice d3 l3 c3])]) (by simp [evp,e1,e2,e3]) (by decide) (by decide) wK).mono ?_;rintro v w' ⟨b,rfl,hn⟩;exact j2 hB.wf hn rfl (by simpa using IsTs.cons i1 (IsTs.cons i2 (IsTs.one i3)))
set_option maxRecDepth 100000 in
theorem m0 {x1 x2 x3 x4 x5:Operand} {t1 t2 t3 t4 t5:Tm} (hB0:B p=stB ρ ns) (hop:ops.getD i default=⟨ds,.buildSlice 24 5 #[(0,x1),(1,x2),(2,x3),(3,x4),(4,x5)],t,pos,af,gu⟩) (h1:spO L x1=some (tmS t1)) (h2:spO L x2=some (tmS t2)) (h3:spO L x3=some (tmS t3)) (h4:spO L x4=some (tmS t4)) (h5:spO L x5=some (tmS t5)):EOb Tryd.prog n ops XX B ⟨i,L,tfS [t1,t2,t3,t4,t5],ph,false⟩ p:=fv λξ g w hB hH=>by rw[hB0]at hB;have hB:StB ρ ns g w:=hB;rw[hop];obtain⟨v1,e1,k1⟩:=bH h1 hH;obtain⟨v2,e2,k2⟩:=bH h2 hH;obtain⟨v3,e3,k3⟩:=bH h3 hH;obtain⟨v4,e4,k4⟩:=bH h4 hH;obtain⟨v5,e5,k5⟩:=bH h5 hH;obtain⟨a1,b1,d1,l1,c1,rfl,i1⟩:=TmIs.cells k1;obtain⟨a2,b2,d2,l2,c2,rfl,i2⟩:=TmIs.cells k2;obtain⟨a3,b3,d3,l3,c3,rfl,i3⟩:=TmIs.cells k3;obtain⟨a4,b4,d4,l4,c4,rfl,i4⟩:=TmIs.cells k4;obtain⟨a5,b5,d5,l5,c5,rfl,i5⟩:=TmIs.cells k5;refine(bU Tryd.underlying24 qG (ps:=[(0,.agg #[.int .i64 a1,.int .i64 b1,.slice d1 l1 c1]),(1,.agg #[.int .i64 a2,.int .i64 b2,.slice d2 l2 c2]),(2,.agg #[.int .i64 a3,.int .i64 b3,.slice d3 l3 c3]),(3,.agg #[.int .i64 a4,.int .i64 b4,.slice d4 l4 c4]),(4,.agg #[.int .i64 a5,.int .i64 b5,.slice d5 l5 c5])]) (by simp [evp,e1,e2,e3,e4,e5]) (by decide) (by decide) wI).mono ?_;rintro v w' ⟨b,rfl,hn⟩;exact j2 hB.wf hn rfl (by simpa using IsTs.cons i1 (IsTs.cons i2 (IsTs.cons i3 (IsTs.cons i4 (IsTs.one i5)))))
end
section
variable {P:Program} {f:FuncId} {fn:Func} {c:Code} {n:Nat} {X:List Nat} {w0:World}
def pt (g:Gh) (w:World):List (Sp TT)->List Value->Prop
 |[],[]=>True
 |s::ss,v::vs=>s.hold g w v/\pt g w ss vs
 |_,_=>False
def qB (k:Nat):List (Sp TT)->TL TT
 |[]=>[]
 |s::ss=>(k,s)::qB (k+1) ss
theorem lz {g:Gh} {w:World}:∀{ss:List (Sp TT)} {vs:List Value} {k:Nat},pt g w ss vs->∀t s,lkS (qB k ss) t=some s->∃v,lk ((vs.zipIdx k).map λp=>(p.2,p.1)) t=some v/\s.hold g w v
 |[],[],_,_,t,s,h=>by simp [qB,lkS]at h
 |s::ss,v::vs,k,h,t,u,hu=>by
  simp only[qB,lkS]at hu;simp only[List.zipIdx_cons,Ad,lk];by_cases e:k=t
  ·subst e;simp at hu;subst hu;exact⟨v,by simp,h.1⟩
  ·rw[el e]at hu⊢;exact lz h.2 t u hu
 |[],_::_,_,h,_,_,_=>h.elim
 |_::_,[],_,h,_,_,_=>h.elim
theorem bY {vs : List Value} (ss : List (Sp TT)) {ρ : RX} {F : List Nat} {R : Ending -> World -> Prop} (hX : ∀ x, x ∈ F ++ X -> x < w0.heap.size) (hr : ρ.P ⟨F, [], X, []⟩ w0) (hL : pt ⟨F, [], X, []⟩ w0 ss vs) (hf : P.funcs[f]? = some fn) (hb : fn.body = some c) (hn : fn.ntmps = n) (hl : Nat.ble vs.length n = true)
  (h:∀a,SS (qB 0 ss) n (stB ρ []) ⟨F,[],X,[]⟩ w0 a ⟨F,[],X,[]⟩ w0->c.wp P (bodyPost P fn R) a w0):Calls P f vs.toArray w0 R:=
 cq hf hb hn hl λa hF=>h a ⟨XX.tt ⟨rfl,Gr.refl w0⟩,⟨⟨by simpa[Gh.X]using hX,by simp⟩,by simp,hr,by simp,rfl,by simp⟩,hF.size,hF.defers,λt s hs=>by
  obtain⟨v,h1,h2⟩:=lz hL t s hs;rw[hF.get t v h1];exact h2⟩
theorem dI {vs : List Value} (ss : List (Sp TT)) {R : Ending -> World -> Prop} (hX : ∀ x, x ∈ X -> x < w0.heap.size) (hL : pt ⟨[], [], X, []⟩ w0 ss vs) (hf : P.funcs[f]? = some fn) (hb : fn.body = some c) (hn : fn.ntmps = n) (hl : Nat.ble vs.length n = true)
  (h:∀a,SS (qB 0 ss) n (stB noR []) ⟨[],[],X,[]⟩ w0 a ⟨[],[],X,[]⟩ w0->c.wp P (bodyPost P fn R) a w0):Calls P f vs.toArray w0 R:=
 bY ss (by simpa using hX) rfl hL hf hb hn hl h
def tk (L:TL TT):TL TT->Prop
 |[]=>True
 |(t,s)::r=>lkS L t=some s/\tk L r
theorem oV {L:TL TT}:∀{L':TL TT} {t:Nat} {s:Sp TT},tk L L'->lkS L' t=some s->lkS L t=some s
 |(u,v)::r,t,s,h,hs=>by
  simp only[lkS]at hs;by_cases e:u=t
  ·subst e;simp at hs;subst hs;exact h.1
  ·rw[el e]at hs;exact oV h.2 hs
 |[],t,s,_,hs=>by simp [lkS]at hs
theorem SS.to {L L':TL TT} {B:BX XX} {g0 g:Gh} {a:Act} {w:World} (h:SS L n B g0 w0 a g w) (k:tk L L'):SS L' n B g0 w0 a g w:=⟨h.t,h.b,h.f.size,h.f.defers,λt s hs=>h.f.get t s (oV k hs)⟩
def Bl (l:List (BX XX)) (p:Nat):BX XX:=l.getD p (stB noR [])
theorem SS.gr0 {L:TL TT} {B:BX XX} {a:Act} {g:Gh} {w:World} (h:SS L n B ⟨[],[],X,[]⟩ w0 a g w):Gr w0 w:=(h.t.ch.mono (by simp)).gr
theorem SS.sub0 {L:TL TT} {B:BX XX} {a:Act} {F:List Nat} {g:Gh} {w:World} (h:SS L n B ⟨F,[],X,[]⟩ w0 a g w):∀x,x∈X->x∈g.X:=λx hx=>by have :g.Y=X:=h.t.y;simp [Gh.X,this,hx]
theorem TmIs.sub {w:World} {X X':List Nat} {t:Tm} {v:Value} (h:TmIs w X t v) (k:∀x,x∈X'->x∈X):TmIs w X' t v:=h.mv (Ch.refl [] w) (by simp) λx hx=> .inl (k x hx)
theorem SS.rv {L:TL TT} {ρ:RX} {ns:List (Nat×Sp TT)} {g0 g:Gh} {w:World} {a:Act} {x k m:Nat} {ty:TypeId} {sp:Sp TT} {d:TypeDesc} (h:SS L n (stB ρ ns) g0 w0 a g w) (hx:lkS L x=some (nwS k)) (hk:ns[k]? =some (ty,sp)) (hty:ty≠0) (ht:P.underlying ty=some d) (hf:TypeDesc.flat d=false) (hs:(P.info? ty).map (·.size)=some m) (ha:lB m sp):∃v,RV P a w (.cell x ty) v/\sp.hold g w v:=by obtain⟨b,c,h5,h6,h7,h8⟩:=h.b.cell k _ hk hty;have h2:g.N[k]? =some (a.tmps.getD x undef):=h.f.get x _ hx;rw[h5]at h2;obtain⟨c2,e,h11⟩:=ha _ _ _ h8;cases e;refine⟨_,RV.cellA ht hf hs h.f.frm ?_ h7 h11,h8⟩;rw[md,hx];simp only[zW,Sp.val];exact h2.symm
end
section
variable {ops:List Oper} {n:Nat} {B:Nat->BX XX} {i p:Nat} {L:TL TT} {ph:List Nat} {ds:Option Tmp} {pos:String} {af:Array Edge} {gu:Option (Nat×Bool)} {t ty:TypeId} {x y:Operand}
theorem bI {t':TypeId} {bo:BinOp} {kk:IntKind} {u v:Int} {c:Bool} (hop:ops.getD i default=⟨ds,.binOp bo ty x y t',t,pos,af,gu⟩) (hx:spO L x=some (eqS (.int kk u))) (hy:spO L y=some (eqS (.int kk v))) (h:fo bo u v=some c):EOb Tryd.prog n ops XX B ⟨i,L,eqS (.bool c),ph,false⟩ p:=bN λξ g w hB hH=>by
 rw[hop];have h1:eS Tryd.prog L (.binOp bo ty x y t')=some (eqS (.bool c)):=by simp only[eS,hx,hy,eqK,decide_true,cond_true,h,zW]
 exact u6 h1 hH
end
end Go.Mi.Term
