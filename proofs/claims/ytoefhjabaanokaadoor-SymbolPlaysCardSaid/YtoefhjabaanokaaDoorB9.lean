/- Texts that belong together: H10, W14. General lemmas and walks; no conditions. -/
import Derived.Test.YtoefhjabaanokaaDoorE2
import Derived.Test.YtoefhjabaanokaaDoorB6
set_option linter.unusedSimpArgs false
set_option linter.unusedVariables false
set_option linter.unnecessarySimpa false
namespace Go.Mi
open Go.RowKit
theorem Ch.trans' {Y Z : List Nat} {a b c : World} (h : Ch Y a b) (k : Ch Z b c) (hz : ∀ z, z ∈ Z -> z ∈ Y \/ a.heap.size <= z) : Ch Y a c :=
  ⟨k.os.trans h.os,k.tape.trans h.tape,k.output.trans h.output,zy h.size k.size,λi hi hn=>(k.blk i (zE hi h.size) λhm=>by rcases hz i hm with h|h;exact hn h;omega).trans (h.blk i hi hn)⟩
section
variable {P:Program} {n:Nat} {L:List (Nat×Value)} {w:World} {ds:Option Nat} {ty:TypeId} {pos:String} {af:Array Edge} {gu:Option (Nat×Bool)}
theorem nc {s x : Operand} {t e : TypeId} {z : Value} {base bytes n' c b o : Nat} {v u : Value} {xs : List Value} (ht : P.underlying t = some (.slice e)) (hi : (P.info? e).map (λi => (i.size, i.bytes, i.zero)) = some (1, bytes, some z))
    (hzs:z.cells.size=1) (hs:ev L s=some v) (hx:ev L x=some (.slice (some ⟨b,o,none⟩) 1 c)) (hown:Own w base e 1 v n' xs)
    (hn:At w b o [u]) (h1:u.oneCell'=true) (hby:(n'+1)*bytes<=140737488355328) (h63:n'+1<=maxLen) (hbase:base<=w.heap.size):
    Ok1 P ⟨ds,.call ⟨.builtin .append,#[s,x],#[t,t]⟩,ty,pos,af,gu⟩ n L w λv' w'=>Own w' base e 1 v' (n'+1) (xs++[u])/\Ch (bC v) w w'/\(bC v'=bC v\/bC v'=[w.heap.size])/\(∀g,g∈bC v->At w' g 0 xs):=by
  obtain⟨m,p,hz⟩:=zq.1 hi;simp only[Prod.mk.injEq]at hz;obtain⟨f,C,D⟩:=hz;have hl:[u].length=1*1:=rfl;have y:∀(j:Nat) (q:Value),[u][j]? =some q->w.cell? ((⟨b,o,none⟩:Addr).add j)=some q:=λj q hq=>by rw[dz];exact hn j q hq
  have E:∀q∈[u],q.oneCell'=true:=λq hq=>by simp at hq;subst hq;exact h1
  obtain⟨v',w',hr,h2,h3,h4,h5⟩:=run_append_own_at (P:=P) w base t ty e m z 1 bytes ht p D f C hzs (by omega) v n' xs hown ⟨b,o,none⟩ 1 c [u] hl y E h63 hby hbase;have A : ∀ g, g ∈ bC v -> At w' g 0 xs := by
    intro g hg;rcases hown.2 with⟨rfl,rfl⟩|⟨g',cap,cur,rfl,hbg,hgb,hnc,hcm,hcs,htake⟩
    · simp [bC]at hg
    · simp only [bC, zt] at hg
      subst hg;have l : At w g 0 xs := by
        rcases hown.at with⟨h,_⟩|⟨b',cap',h,_,ha⟩
        · cases h
        · cases h;exact ha
      by_cases hroom:n'+1<=cap
      · have d := run_append_room (P := P) w t ty e m ht p g n' cap cur hgb ⟨b, o, none⟩ 1 c [u] (by rw [f]; rfl) y E hroom (by rw [f, hcs]; simp; omega)
        rw[hr]at d;cases d;rcases Own.at h2 with⟨h,_⟩|⟨b',cap',h,_,ha⟩
        · cases h
        · cases h
          exact(At.app.1 ha).1
      · have r : ∀ (j : Nat) (q : Value), xs[j]? = some q -> w.cell? ((⟨g, 0, none⟩ : Addr).add j) = some q := λj q hq => by rw [dz]; exact l j q hq
        have d:=run_append_grow (P:=P) w t ty e m z ht p D ⟨g,0,none⟩ n' cap xs (by rw[f];exact hown.1) r ⟨b,o,none⟩ 1 c [u] (by rw[f];rfl) y (by omega) (by simp only[maxLen]at h63;omega) (by rw[C];exact growslice_fits (by simp only[maxLen]at h63;omega) hby);rw[hr]at d;cases d;have hg' : g < w.heap.size := by
          rcases zF g w.heap.size with h'|h'
          · exact h'
          · rw[zY h']at hgb;cases hgb
        refine l.mv (Y:=[]) ⟨rfl,rfl,rfl,by simp,λk hk _=>heap_alloc_old w.drew _ k hk⟩ (by simp)
  have hd : Det P ⟨ds, .call ⟨.builtin .append, #[s, x], #[t, t]⟩, ty, pos, af, gu⟩ n L w v' w' := Det.of_run λa hF => by simp [execOp,hF.eval hs,hF.eval hx,resolve,invoke,builtin,hr]
  refine hd.mono λB w'' ⟨ha,hb⟩=> ?_;subst ha;subst hb;have ob : ∀ u : Value, ∀ g, u.ownBlock = some g ↔ bC u = [g] := by
    intro u g;cases u with
    |slice a _ _=>cases a<;>simp [Value.ownBlock,bC]
    |_=>simp [Value.ownBlock,bC]
  have F : ∀ u : Value, u.ownBlock = none ↔ bC u = [] := by
    intro u;cases u with
    |slice a _ _=>cases a<;>simp [Value.ownBlock,bC]
    |_=>simp [Value.ownBlock,bC]
  refine⟨h2,⟨h3.os,h3.tape,h3.output,h3.size,λg hg hn=>h3.block g hg λhe=>hn ?_⟩,?_,A⟩
  · rw[(ob v g).1 he.symm];simp
  · rcases h5 with h5 | h5
    · left
      cases hv:v.ownBlock with
      |none=>rw[(F v).1 hv,(F B).1 (h5.trans hv)]
      |some g=>rw[(ob v g).1 hv,(ob B g).1 (h5.trans hv)]
    · right;exact(ob B _).1 h5
end
end Go.Mi
namespace Go.Mi.Term
open Go.Mi Go.Proofs Go.RowKit
structure RwIs (w : World) (base : Nat) (X : List Nat) (br bm : Nat) (lv : Value) (r : Rw) : Prop where
  st:w.heap[br]? =some (.cells #[lv,.map (some bm)] 118 (0,0))
  met:MapIs w bm r.met
  own:∃xs,Own w base 83 1 lv r.l.length xs/\IsNs w (bC lv++X) r.l xs
  nr:br∉bC lv
  nm:bm∉bC lv
  ne:br≠bm
theorem RwIs.lt {w : World} {base : Nat} {X : List Nat} {br bm : Nat} {lv : Value} {r : Rw} (h : RwIs w base X br bm lv r) : br < w.heap.size := by
  rcases zF br w.heap.size with h'|h'
  · exact h'
  · have :=h.st;rw[zY h']at this;cases this
theorem RwIs.mv {w w' : World} {base : Nat} {X Y : List Nat} {br bm : Nat} {lv : Value} {r : Rw} (h : RwIs w base X br bm lv r) (k : Ch Y w w') (hy : ∀ y, y ∈ Y -> y ∈ X) (h1 : br ∉ Y) (h2 : bm ∉ Y) (h3 : ∀ y, y ∈ bC lv -> y ∉ Y) : RwIs w' base X br bm lv r := by obtain⟨xs,h4,h5⟩:=h.own;exact⟨k.blk0 h.st h1,h.met.mv k h2,⟨xs,h4.mv k h3,IsNs.mv k (λy hm=>zA _ (hy y hm)) (λx hx=> .inl hx) _ _ h5⟩,h.nr,h.nm,h.ne⟩
def RwTo (w w' : World) (base : Nat) (X : List Nat) (br bm : Nat) (lv : Value) (r r' : Rw) (lv' : Value) : Prop :=
  RwIs w' base X br bm lv' r' /\ Ch (br :: bm :: bC lv) w w' /\ (bC lv' = bC lv \/ ∀ y, y ∈ bC lv' -> w.heap.size <= y) /\ r.l.length <= r'.l.length /\
    (∀g xs0,g≠br->g≠bm->(g∈bC lv->xs0.length<=r.l.length)->At w g 0 xs0->At w' g 0 xs0)
theorem RwTo.refl {w : World} {base : Nat} {X : List Nat} {br bm : Nat} {lv : Value} {r : Rw} (h : RwIs w base X br bm lv r) : RwTo w w base X br bm lv r r lv :=
  ⟨h,Ch.refl _ _,.inl rfl,zH _,λ_ _ _ _ _ h=>h⟩
theorem RwTo.trans {w w1 w2 : World} {base : Nat} {X : List Nat} {br bm : Nat} {lv lv1 lv2 : Value} {r r1 r2 : Rw} (h : RwTo w w1 base X br bm lv r r1 lv1) (k : RwTo w1 w2 base X br bm lv1 r1 r2 lv2) : RwTo w w2 base X br bm lv r r2 lv2 := by
  obtain⟨_,h2,h3,h4,h5⟩:=h;obtain⟨k1,k2,k3,k4,k5⟩:=k;refine⟨k1,h2.trans' k2 λy hy=> ?_,?_,by omega,λg xs0 hg1 hg2 hl ha=> ?_⟩
  · simp only [zx] at hy ⊢
    rcases hy with hy|hy|hy
    · exact .inl (.inl hy)
    · exact .inl (.inr (.inl hy))
    · rcases h3 with h3 | h3
      · rw[h3]at hy;exact .inl (.inr (.inr hy))
      · exact .inr (h3 y hy)
  · rcases k3 with k3 | k3
    · rw[k3];exact h3
    · exact .inr λy hy=>zy h2.size (k3 y hy)
  · refine k5 g xs0 hg1 hg2 (λhm => ?_) (h5 g xs0 hg1 hg2 hl ha)
    rcases h3 with h3|h3
    · rw[h3]at hm;have :=hl hm;omega
    · have := h3 g hm
      cases xs0 with
      |nil=>simp
      |cons x xs0=>have :=ha.lt;omega
theorem RwTo.ns {w w' : World} {base : Nat} {X : List Nat} {br bm : Nat} {lv lv' : Value} {r r' : Rw} (h : RwTo w w' base X br bm lv r r' lv') (hr : br ∈ X) (hm : bm ∈ X) {ts : List Tm} {xs : List Value} (hn : IsNs w (bC lv ++ X) ts xs) : IsNs w' (bC lv' ++ X) ts xs := by
  refine IsNs.mv h.2.1 (λy hy=> ?_) (λx hx=> ?_) _ _ hn
  · simp only [zx, zr] at hy ⊢
    rcases hy with rfl|rfl|hy
    · exact .inr hr
    · exact .inr hm
    · exact .inl hy
  · simp only [zr] at hx ⊢
    rcases hx with hx|hx
    · rcases h.2.2.1 with h3 | h3
      · rw[h3]at hx;exact .inl (.inl hx)
      · exact .inr (h3 x hx)
    · exact .inl (.inr hx)
theorem RwTo.n {w w' : World} {base : Nat} {X : List Nat} {br bm : Nat} {lv lv' : Value} {r r' : Rw} (h : RwTo w w' base X br bm lv r r' lv') (hr : br ∈ X) (hm : bm ∈ X) {t : Tm} {v : Value} (hn : IsN w (bC lv ++ X) t v) : IsN w' (bC lv' ++ X) t v := by have :=h.ns hr hm (IsNs.one hn);simp only[IsNs]at this;obtain⟨v',_,h1,h2,rfl⟩:=this;cases h1;exact h2
theorem rG {w w' : World} {g : Nat} {xs xs0 : List Value} (h : At w g 0 xs) (h' : At w' g 0 xs) (hl : xs0.length <= xs.length) (h0 : At w g 0 xs0) : At w' g 0 xs0 := λi u hu => by
  have hi : i < xs.length := by
    rcases zF i xs0.length with h|h
    · omega
    · rw[zz h]at hu;cases hu
  have h1:=h i _ (zp hi);rw[h0 i u hu]at h1;cases h1;exact h' i _ (zp hi)
end Go.Mi.Term
namespace Go.Mi
open Go.RowKit
theorem dt {P : Program} {a : Act} {w : World} {fn : Func} (h : fn.results = #[]) : (results fn a.tmps).run P w = .ok (.tuple #[]) w := by rw[gY,h];simp
end Go.Mi
namespace Go.Mi.Term
open Go.Mi Go.Proofs Go.RowKit
set_option linter.unusedVariables false
theorem qp {w:World} {b:Nat} {x:Obj} (h:w.heap[b]? =some x):b<w.heap.size:=by
 rcases zF b w.heap.size with h'|h'
 ·exact h'
 ·rw[zY h']at h;cases h
theorem qi {w:World} {base m n:Nat} {e:TypeId} {v:Value} {xs:List Value} (h:Own w base e m v n xs):v.oneCell'=true:=by
 rcases h.at with⟨rfl,_⟩|⟨b,cap,rfl,_⟩<;>rfl
theorem rH {w:World} {base m n g:Nat} {e:TypeId} {v:Value} {xs:List Value} (h:Own w base e m v n xs) (hg:g∈bC v):At w g 0 xs:=by
 rcases h.at with⟨rfl,_⟩|⟨b,cap,rfl,_,ha⟩
 ·simp [bC]at hg
 ·simp [bC]at hg;subst hg;exact ha
set_option maxRecDepth 100000 in
set_option maxHeartbeats 4000000 in
theorem f8 {base:Nat} {X:List Nat} {br bm bn:Nat} {lv:Value} {r:Rw} {n:Tm} (w0:World) (hbase:base<=w0.heap.size) (hX1:br∈X) (hX2:bm∈X) (hr:RwIs w0 base X br bm lv r) (hn1:IsN w0 (bC lv++X) n (.pointer (some ⟨bn,0,none⟩))) (hlen:r.l.length<=1099511627776):
 Calls Tryd.prog 79 (List.toArray [.pointer (some ⟨br,0,none⟩),.pointer (some ⟨bn,0,none⟩)]) w0 (Ret λv w'=>v= .tuple #[]/\∃lv',RwTo w0 w' base X br bm lv r (r.add n) lv'):=by
 obtain⟨i,c,⟨xs,e,p⟩,M,L,Q⟩:=hr;have I:=e;have d:∀g f,g≠br->g≠bm->(g∈bC lv->f.length<=r.l.length)->At w0 g 0 f->At w0 g 0 f:=λ_ _ _ _ _ h=>h;obtain⟨bn',kn,nn,sn,he,N,j⟩:=hn1.form;cases he;simp only[zr,not_or]at N;have hbn1:=N.1;have hbnm:bn≠bm:=λh=>N.2 (h▸hX2);refine cq Tryd.func79 rfl Tryd.ntmps79 rfl λac hF=> ?_;have hC:Ch (br::bm::bC lv) w0 w0:=Ch.refl _ _;have hF:=hF.sub (L':=[(0,(vp br)),(1,(vp bn))]) ⟨rfl,rfl,zo⟩;refine wp_seq ?_;obtain⟨G,z⟩:∃A:(Nat->Value)->World->Prop,A=λ_ w=>(Ch (br::bm::bC lv) w0 w)/\(w.heap[br]? =some (.cells #[lv,(Value.map (some bm))] 118 (0,0)))/\(MapIs w bm r.met)/\(At w bn 0 [(vI kn),(vI nn),sn,(vT (txt n))])/\(Own w base 83 1 lv r.l.length xs)/\(IsNs w (bC lv++X) r.l xs)/\(IsN w (bC lv++X) n (.pointer (some ⟨bn,0,none⟩)))/\(∀g f,g≠br->g≠bm->(g∈bC lv->f.length<=r.l.length)->At w0 g 0 f->At w g 0 f)/\True:=⟨_,rfl⟩;refine eU mo (λp_ H_ w_=>(([G]:List ((Nat->Value)->World->Prop)).getD p_ (λ_ _=>True)) H_ w_) [] (rows:=[hr_ [] [(0,(vp br))] [0] (vp br),hr_ [(0,4)] [] [0] (vp br),hr_ [(1,5)] [] [0] (vP br 1),hr_ [(2,6)] [] [0] (Value.map (some bm)),hr_ [] [(1,(vp bn))] [0] (vp bn),hr_ [(4,8)] [] [0] (vp bn),hr_ [(5,9)] [] [0] (vP bn 3),hr_ [(6,10)] [] [0] (vT (txt n)),hr_ [(3,7),(7,11)] [] [0] (vI (tl r.met (txt n))),hr_ [(8,12)] [] [0] (vB (decide ((tl r.met (txt n))=0)))]) (by kernel_rfl) hF (λH_=> ?_) ?_ ?_
 ·have a:=Ch.drew w0;have B:G H_ {w0 with drawn:=w0.drawn+1}:=by rw[z];exact⟨hC.trans (a.mono (by intro y hy;first |(simp at hy;done)|(simpa using hy;done)|(simp [hy];done)|(simp at hy;simp [hy];done))),Ch.blk0 a i (by first |assumption|(simp<;>omega)),c.mv a (by first |assumption|(simp<;>omega)),j.mv a (by first |assumption|(simp<;>omega)),e.mv a (λb hb=>by first |(simp;done)|(simp;intro h;subst h;contradiction)),IsNs.mv a (λy hy=>by first |(simp at hy;done)|(simp at hy;subst hy;simp [hX1,hX2])) (λx hx=> .inl hx) _ _ p,IsN.mv a (λy hy=>by first |(simp at hy;done)|(simp at hy;subst hy;simp [hX1,hX2])) (λx hx=> .inl hx) _ _ hn1,(λg f q s C D=>(d g f q s C D).mv a (by first |(simp;done)|(simp [q,s];done))),zo⟩
  exact B
 ·refine⟨?_,?_,?_,?_,?_,?_,?_,?_,?_,?_,zo⟩
  ·exact HOb.pure ⟨rfl,zo⟩ rfl rfl (λ_ _=>bD rfl)
  ·exact HOb.pure zo rfl rfl (λ_ _=>d_nil rfl)
  ·exact HOb.pure zo rfl rfl (λ_ _=>bG Tryd.underlying118 (m:=0) mP rfl rfl rfl)
  ·exact HOb.fact z zo rfl rfl rfl rfl (λH1 w ⟨_,i,_⟩=>bJ Tryd.underlying114 rfl rfl ((At.of_blk i) 1 _ rfl))
  ·exact HOb.pure ⟨rfl,zo⟩ rfl rfl (λ_ _=>bD rfl)
  ·exact HOb.pure zo rfl rfl (λ_ _=>d_nil rfl)
  ·exact HOb.pure zo rfl rfl (λ_ _=>bG Tryd.underlying112 (m:=0) sz9 rfl rfl rfl)
  ·exact HOb.fact z zo rfl rfl rfl rfl (λH1 w ⟨_,_,_,j,_⟩=>bJ Tryd.underlying9 rfl rfl (j 3 _ rfl))
  ·exact HOb.fact z zo rfl rfl rfl rfl (λH1 w ⟨_,_,c,_⟩=>iG (m:=r.met) (k:=txt n) Tryd.underlying114 Tryd.underlying9 (by kernel_rfl) rfl rfl c)
  ·exact HOb.pure zo rfl rfl (λ_ _=>dQ rfl rfl)
 ·intro ac w H1 hW hF;replace hW:G H1 w:=hW;rw[z]at hW;obtain⟨hC,i,c,j,e,p,hn1,d,_⟩:=hW;clear z G;have hF:=hF.sub (L':=[(0,(vp br)),(1,(vp bn)),(13,(vB (decide ((tl r.met (txt n))=0))))]) ⟨rfl,rfl,rfl,zo⟩;refine bA ?_;refine cr hF rfl (λh=> ?_) (λh=> ?_)
  ·have h0:=zB h;clear h;refine wp_seq ?_;obtain⟨E,t⟩:∃A:(Nat->Value)->World->Prop,A=λ_ w=>(Ch (br::bm::bC lv) w0 w)/\(w.heap[br]? =some (.cells #[lv,(Value.map (some bm))] 118 (0,0)))/\(MapIs w bm r.met)/\(At w bn 0 [(vI kn),(vI nn),sn,(vT (txt n))])/\(Own w base 83 1 lv r.l.length xs)/\(IsNs w (bC lv++X) r.l xs)/\(IsN w (bC lv++X) n (.pointer (some ⟨bn,0,none⟩)))/\(∀g f,g≠br->g≠bm->(g∈bC lv->f.length<=r.l.length)->At w0 g 0 f->At w g 0 f)/\True:=⟨_,rfl⟩;obtain⟨H,F⟩:∃A:(Nat->Value)->World->Prop,A=λ_ w=>(Ch (br::bm::bC lv) w0 w)/\(w.heap[br]? =some (.cells #[lv,(Value.map (some bm))] 118 (0,0)))/\(MapIs w bm (st r.met (txt n) 1))/\(At w bn 0 [(vI kn),(vI nn),sn,(vT (txt n))])/\(Own w base 83 1 lv r.l.length xs)/\(IsNs w (bC lv++X) r.l xs)/\(IsN w (bC lv++X) n (.pointer (some ⟨bn,0,none⟩)))/\(∀g f,g≠br->g≠bm->(g∈bC lv->f.length<=r.l.length)->At w0 g 0 f->At w g 0 f)/\True:=⟨_,rfl⟩;refine eU mo (λp_ H_ w_=>(([E,H]:List ((Nat->Value)->World->Prop)).getD p_ (λ_ _=>True)) H_ w_) [10] (rows:=[hr_ [] [(0,(vp br))] [0] (vp br),hr_ [(0,14)] [] [0] (vp br),hr_ [(1,15)] [] [0] (vP br 1),hr_ [(2,16)] [] [0] (Value.map (some bm)),hr_ [] [(1,(vp bn))] [0] (vp bn),hr_ [(4,18)] [] [0] (vp bn),hr_ [(5,19)] [] [0] (vP bn 3),hr_ [(6,20)] [] [0] (vT (txt n)),hr_ [(3,17),(7,21)] [] [0] (vI (tl r.met (txt n))),hr_ [(8,22)] [] [0] (vI 1),⟨[(3,17),(7,21),(9,23)],[],[0],[10],λH2=>H2 10,λH2 K_ h_=>by simp only[h_ 10 (by simp)]⟩]) (by kernel_rfl) hF (λH_=> ?_) ?_ ?_
   ·have a:=Ch.drew w;have B:E H_ {w with drawn:=w.drawn+1}:=by rw[t];exact⟨hC.trans (a.mono (by intro y hy;first |(simp at hy;done)|(simpa using hy;done)|(simp [hy];done)|(simp at hy;simp [hy];done))),Ch.blk0 a i (by first |assumption|(simp<;>omega)),c.mv a (by first |assumption|(simp<;>omega)),j.mv a (by first |assumption|(simp<;>omega)),e.mv a (λb hb=>by first |(simp;done)|(simp;intro h;subst h;contradiction)),IsNs.mv a (λy hy=>by first |(simp at hy;done)|(simp at hy;subst hy;simp [hX1,hX2])) (λx hx=> .inl hx) _ _ p,IsN.mv a (λy hy=>by first |(simp at hy;done)|(simp at hy;subst hy;simp [hX1,hX2])) (λx hx=> .inl hx) _ _ hn1,(λg f q s C D=>(d g f q s C D).mv a (by first |(simp;done)|(simp [q,s];done))),zo⟩
    exact B
   ·refine⟨?_,?_,?_,?_,?_,?_,?_,?_,?_,?_,?_,zo⟩
    ·exact HOb.pure ⟨rfl,zo⟩ rfl rfl (λ_ _=>bD rfl)
    ·exact HOb.pure zo rfl rfl (λ_ _=>d_nil rfl)
    ·exact HOb.pure zo rfl rfl (λ_ _=>bG Tryd.underlying118 (m:=0) mP rfl rfl rfl)
    ·exact HOb.fact t zo rfl rfl rfl rfl (λH2 w ⟨_,i,_⟩=>bJ Tryd.underlying114 rfl rfl ((At.of_blk i) 1 _ rfl))
    ·exact HOb.pure ⟨rfl,zo⟩ rfl rfl (λ_ _=>bD rfl)
    ·exact HOb.pure zo rfl rfl (λ_ _=>d_nil rfl)
    ·exact HOb.pure zo rfl rfl (λ_ _=>bG Tryd.underlying112 (m:=0) sz9 rfl rfl rfl)
    ·exact HOb.fact t zo rfl rfl rfl rfl (λH2 w ⟨_,_,_,j,_⟩=>bJ Tryd.underlying9 rfl rfl (j 3 _ rfl))
    ·exact HOb.fact t zo rfl rfl rfl rfl (λH2 w ⟨_,_,c,_⟩=>iG (m:=r.met) (k:=txt n) Tryd.underlying114 Tryd.underlying9 (by kernel_rfl) rfl rfl c)
    ·refine⟨zo,λY J H2 w hW=> ?_⟩;obtain rfl:=ce J;have V:=hW;replace hW:E H2 w:=hW;rw[t]at hW;obtain⟨hC,i,c,j,e,p,hn1,d,_⟩:=hW;exact Det.ohc rfl V (yq (y:=1) (ci rfl rfl (bK (by omega) (by omega))) (by omega))
    ·refine⟨zo,λY J H2 w hW=> ?_⟩;obtain rfl:=ce J;replace hW:E H2 w:=hW;rw[t]at hW;obtain⟨hC,i,c,j,e,p,hn1,d,_⟩:=hW;refine Ok1.mono (iv (m:=r.met) (k:=txt n) (v:=1) Tryd.underlying114 Tryd.underlying9 rfl rfl rfl c) ?_;rintro v_ w' ⟨c,hch0_⟩;have a:Ch [bm] _ w':=hch0_;have hC:=hC.trans (a.mono (by intro y hy;first |(simp at hy;done)|(simpa using hy;done)|(simp [hy];done)|(simp at hy;simp [hy];done)));have i:=Ch.blk0 a i (by first |assumption|(simp<;>omega));have j:=j.mv a (by first |assumption|(simp<;>omega));have e:=e.mv a (λb hb=>by first |(simp;done)|(simp;intro h;subst h;contradiction));have p:IsNs w' (bC lv++X) r.l xs:=IsNs.mv a (λy hy=>by first |(simp at hy;done)|(simp at hy;subst hy;simp [hX1,hX2])) (λx hx=> .inl hx) _ _ p;have hn1:IsN w' (bC lv++X) n (.pointer (some ⟨bn,0,none⟩)):=IsN.mv a (λy hy=>by first |(simp at hy;done)|(simp at hy;subst hy;simp [hX1,hX2])) (λx hx=> .inl hx) _ _ hn1;have d:=(λg f q s C D=>(d g f q s C D).mv a (by first |(simp;done)|(simp [q,s];done)));have B:H (d9 H2 10 v_) w':=by rw[F];exact⟨hC,i,c,j,e,p,hn1,d,zo⟩
     exact kB rfl ⟨B,rfl⟩
   ·intro ac w H2 hW hF;replace hW:H H2 w:=hW;rw[F]at hW;obtain⟨hC,i,c,j,e,p,hn1,d,_⟩:=hW;clear t E F H;have hF:=hF.sub (L':=[(0,(vp br)),(1,(vp bn)),(13,(vB (decide ((tl r.met (txt n))=0))))]) ⟨rfl,rfl,rfl,zo⟩;refine bA ?_;refine wp_region_lit ?_;refine wl (bD rfl) rfl hF (λac hF=> ?_);refine wl (bD rfl) rfl hF (λac hF=> ?_);refine wl (d_nil rfl) rfl hF (λac hF=> ?_);refine wl (bG Tryd.underlying118 (m:=0) dd rfl rfl rfl) rfl hF (λac hF=> ?_);refine wl (bJ Tryd.underlying110 rfl rfl ((At.of_blk i) 0 _ rfl)) rfl hF (λac hF=> ?_);refine wl (bD rfl) rfl hF (λac hF=> ?_);refine wlR (bU (cells:= #[(vp bn)]) Tryd.underlying110 mA rfl (by decide) (by decide) (by exact kC rfl)) rfl hF ?_;rintro _ w ac ⟨b1,rfl,hnb_⟩ hF;have a:Ch [] _ w:=hnb_.ch;have S:=hnb_.lo hC.size;have hC:=hC.trans (a.mono (by intro y hy;first |(simp at hy;done)|(simpa using hy;done)|(simp [hy];done)|(simp at hy;simp [hy];done)));have i:=Ch.blk0 a i (by first |assumption|(simp<;>omega));have c:=c.mv a (by simp<;>omega);have j:=j.mv a (by first |assumption|(simp<;>omega));have e:=e.mv a (λb hb=>by first |(simp;done)|(simp;intro h;subst h;contradiction));have p:IsNs w (bC lv++X) r.l xs:=IsNs.mv a (λy hy=>by first |(simp at hy;done)|(simp at hy;subst hy;simp [hX1,hX2])) (λx hx=> .inl hx) _ _ p;have hn1:IsN w (bC lv++X) n (.pointer (some ⟨bn,0,none⟩)):=IsN.mv a (λy hy=>by first |(simp at hy;done)|(simp at hy;subst hy;simp [hX1,hX2])) (λx hx=> .inl hx) _ _ hn1;have d:=(λg f q s C D=>(d g f q s C D).mv a (by first |(simp;done)|(simp [q,s];done)));have hib1:b1<w.heap.size:=hnb_.lt;have lob1:w0.heap.size<=b1:=S;have T:At w b1 0 [(vp bn)]:=hnb_.at;refine wlR (nc (b:=b1) (o:=0) (u:= .pointer (some ⟨bn,0,none⟩)) Tryd.underlying110 yc rfl rfl rfl e T rfl (by omega) (by unfold maxLen;omega) (zy hbase hC.size)) rfl hF ?_;rintro lv1 w ac ⟨e,hch0_,hob,hkp⟩ hF;have a:Ch (bC lv) _ w:=hch0_;have hsz_:=hC.size;have R:∀x,x∈bC lv1++X->x∈bC lv++X\/_<=x:=λx hx=>by
     rcases zr.1 hx with hx|hx
     ·rcases hob with hob|hob
      ·rw[hob]at hx;exact .inl (zw _ hx)
      ·rw[hob]at hx;simp at hx;exact .inr (Ba hx.symm)
     ·exact .inl (zA _ hx)
    have hbr_:=i;have O:br∉bC lv1:=λhy=>by
     have W:=qp i;rcases hob with hob|hob
     ·rw[hob]at hy;exact M hy
     ·rw[hob]at hy;simp at hy;omega
    have P:bm∉bC lv1:=λhy=>by
     have W:=c.lt;rcases hob with hob|hob
     ·rw[hob]at hy;exact L hy
     ·rw[hob]at hy;simp at hy;omega
    have U:bC lv1=bC lv\/∀y,y∈bC lv1->w0.heap.size<=y:=by
     rcases hob with hob|hob
     ·exact .inl hob
     ·refine .inr λy hy=> ?_;rw[hob]at hy;simp at hy;omega
    have hC:=hC.trans (a.mono (by intro y hy;first |(simp at hy;done)|(simpa using hy;done)|(simp [hy];done)|(simp at hy;simp [hy];done)));have i:w.heap[br]? =some (.cells #[lv,(Value.map (some bm))] 118 (0,0)):=Ch.blk0 a i M;have c:MapIs w bm (st r.met (txt n) 1):=c.mv a L;have p:IsNs w (bC lv1++X) (r.l++[n]) (xs++[.pointer (some ⟨bn,0,none⟩)]):=(IsNs.mv a (λy hy=>zw _ hy) R _ _ p).app (IsNs.one (IsN.mv a (λy hy=>zw _ hy) R _ _ hn1));replace d:∀g f,g≠br->g≠bm->(g∈bC lv->f.length<=r.l.length)->At w0 g 0 f->At w g 0 f:=λg f q s hl ha=>by
     by_cases hg:g∈bC lv
     ·refine rG (rH I hg) (hkp g hg) ?_ ha;have :=I.1;have :=hl hg;omega
     ·exact ha.mv hC (by simp [q,s,hg])
    refine wl (d_nil rfl) rfl hF (λac hF=> ?_);refine wl (bG Tryd.underlying118 (m:=0) dd rfl rfl rfl) rfl hF (λac hF=> ?_);refine lE (dk (v:=lv1) dd rfl rfl (qi e) i (Ao rfl)) hF ?_;rintro w ac hu_ hF;have a:Ch [br] _ w:=hu_.ch;have hC:=hC.trans (a.mono (by intro y hy;first |(simp at hy;done)|(simpa using hy;done)|(simp [hy];done)|(simp at hy;simp [hy];done)));have c:=c.mv a (by first |assumption|(simp<;>omega));have e:=e.mv a (λb hb=>by first |(simp;done)|(simp;intro h;subst h;contradiction));have p:IsNs w (bC lv1++X) (r.l++[n]) (xs++[.pointer (some ⟨bn,0,none⟩)]):=IsNs.mv a (λy hy=>by simp at hy;subst hy;simp [hX1,hX2]) (λx hx=> .inl hx) _ _ p;have d:=(λg f q s C D=>(d g f q s C D).mv a (by first |(simp;done)|(simp [q,s];done)));have i:w.heap[br]? =some (.cells #[lv1,(Value.map (some bm))] 118 (0,0)):=hu_.blk;refine bx ?_;refine dv hF (dt Tryd.results79) ?_;have K:r.add n=⟨r.l++[n],st r.met (txt n) 1⟩:=by simp only[Rw.add,h0,if_true]
    rw[K];have e:Own w base 83 1 lv1 (r.l++[n]).length (xs++[.pointer (some ⟨bn,0,none⟩)]):=by simpa using e
    exact⟨rfl,lv1,⟨i,c,⟨_,e,p⟩,O,P,Q⟩,hC,U,by simp,d⟩
  ·have h0:=of_decide_eq_false h;clear h;refine wp_skip ?_;refine dv hF (dt Tryd.results79) ?_;refine⟨rfl,lv,?_⟩;have K:r.add n=r:=by simp only[Rw.add,h0,if_false]
   rw[K];exact⟨⟨i,c,⟨xs,e,p⟩,M,L,Q⟩,hC,.inl rfl,zH _,d⟩
end Go.Mi.Term
