/- Lists that the reference iu: copies with more behind; all but the first. General lemmas. -/
import Derived.Test.YtoefhjabaanokaaDoorY26
import Derived.Test.YtoefhjabaanokaaDoorY27
set_option linter.unusedSimpArgs false
set_option linter.unusedVariables false
set_option linter.unnecessarySimpa false
namespace Go.Mi.Term
open Go.Mi Go.Proofs Go.RowKit
def loY (base:Nat):RY:=⟨λg w=>base<=w.heap.size/\∀y,y∈g.Y->y<base,λ{g g'} _ _ _ ⟨h1,h2⟩ k _ hy _=>⟨zy h1 k.size,by rw[hy];exact h2⟩⟩
def nz (base k:Nat):RX:=⟨λg w=>base<=w.heap.size/\(∀y,y∈g.Y->y<base)/\∃b,base<=b/\g.N[k]? =some (.slice (some ⟨b,0,none⟩) 0 0)/\g.F=[b]/\w.heap[b]? =some (.cells #[] 26 (0,0)),λ{g g'} _ _ _ ⟨h1,h2,b,h3,h4,h5,h6⟩ k hc hf hy hx hN=>⟨zy h1 k.size,by rw[hy];exact h2,b,h3,hN _ _ h4,hf.trans h5,by rw[k.blk b (cO h6) λhm=>(hc b hm).2.1 (by rw[h5];simp)];exact h6⟩⟩
section
variable {w:World} {base:Nat} {e:TypeId} {v:Value}
theorem oW {X:List Nat} {n m:Nat} {xs:List Value} (h:Own w base e m v n xs) (hx:∀b,b∈bC v->b∉X):SlA w X v n xs:=by
 rcases h.at with⟨h1,h2,h3⟩|⟨b,cap,rfl,h1,h2⟩
 ·exact .inl ⟨.inl h1,h2,h3⟩
 ·obtain⟨cap,rfl⟩:=Nat.le.dest h1;exact .inr ⟨b,0,cap,rfl,hx b (by simp [bC]),(h.lt b (by simp [bC])).2,h2⟩
end
section
variable {P:Program} {n:Nat} {L:List (Nat×Value)} {w:World} {ds:Option Nat} {ty:TypeId} {pos:String} {af:Array Edge} {gu:Option (Nat×Bool)}
theorem lX {s x : Operand} {t e : TypeId} {z : Value} {base m bytes k b : Nat} {lv : Value} {news : List Value} {X : List Nat} (ht : P.underlying t = some (.slice e)) (hi : (P.info? e).map (λi => (i.size, i.bytes, i.zero)) = some (m, bytes, some z))
  (hzs:z.cells.size=m) (hm0:0<m) (hs:ev L s=some (.slice (some ⟨b,0,none⟩) 0 0)) (hx:ev L x=some lv) (hb:w.heap[b]? =some (.cells #[] e (0,0))) (hbb:base<=b) (hsl:SlA w X lv k news) (hl:news.length=k*m)
  (h1:∀u∈news,u.oneCell'=true) (hby:k*bytes<=140737488355328) (h63:k<=maxLen) (hbase:base<=w.heap.size):
  Ok1 P ⟨ds,.call ⟨.builtin .append,#[s,x],#[t,t]⟩,ty,pos,af,gu⟩ n L w λv' w'=>Own w' base e m v' k news/\Ch [] w w'/\(bC v'=[b]\/bC v'=[w.heap.size]):=
 lW ht hi hzs hm0 hs hx hb hbb hl (by
  rcases hsl with⟨h|⟨a2,cap,h⟩,h2,h3⟩|⟨b2,o2,cap,h,_,_,ha⟩
  ·exact .inl ⟨h,h2,h3⟩
  ·subst h2;subst h3;exact .inr ⟨a2,cap,h,λj u hu=>by simp at hu⟩
  ·exact .inr ⟨_,_,h,λj u hu=>by rw[dz];exact ha j u hu⟩) h1 hby h63 hbase
variable {x l:Operand} {t e:TypeId}
end
section
set_option maxRecDepth 100000
variable {ops:List Oper} {n:Nat} {B:Nat->BX XX} {i p b k o base:Nat} {L:TL TT} {ph:List Nat} {ρ:RX} {ns:List (Nat×Sp TT)} {ds:Option Tmp} {ty:TypeId} {pos:String} {af:Array Edge} {gu:Option (Nat×Bool)} {t:TypeId} {x y:Operand} {ts us:List Tm} {ta tb:Tm}
theorem yY (hB0:B p=stB (loY base).rx ns) (hB1:B (p+1)=stB (nz base k) (ns++[(0,bB)])) (hop:ops.getD i default=⟨ds,.buildSlice 24 0 #[],t,pos,af,gu⟩) (hk:ns.length=k):EOb Tryd.prog n ops XX B ⟨i,L,nwS k,ph,true⟩ p:=by subst hk;intro ξ g w hB hH;rw[hB0]at hB;have hB:StB (loY base).rx ns g w:=hB;show Ok1 Tryd.prog (ops.getD i default) _ _ _ _;rw[hop];obtain⟨hF,h1,h2⟩:=hB.run;refine(gC u24 b6).mono ?_;rintro v w' ⟨b,rfl,hn⟩;have hb:=hn.num;have hlen:g.N.length=ns.length:=hB.len;obtain⟨t1,t2⟩:=hB.run' (ρ':=nz base ns.length) (g':=⟨[b],g.M,g.Y,g.N++[.slice (some ⟨b,0,none⟩) 0 0]⟩) (w':=w') (l:=[.slice (some ⟨b,0,none⟩) 0 0]) (l':=[(0,bB)]) (by rw[hF];exact hn.ch) (λx hx=> .inr (by rw[zt.1 hx];omega)) (λx hx=>by rw[zt.1 hx];exact hn.lt) rfl rfl rfl rfl (λu hu b'=>by rw[zt.1 hu];simp) (λu hu=>by rw[zt.1 hu]) ⟨zy h1 hn.ch.size,h2,b,by omega,by simp [<-hlen],rfl,hn.blk⟩;exact⟨_,⟨t1,by show(B (p+1)).P _ _;rw[hB1];exact t2⟩,by show(g.N++[_])[ns.length]? =some _;simp [<-hlen]⟩
theorem x6 {k':Nat} (hB0:B p=stB (nz base k) ns) (hB1:B (p+1)=stB (fh (loY base) base 26 3 k' ts.length (dD ts)) (ns++[(0,bB)])) (hop:ops.getD i default=⟨ds,.call ⟨.builtin .append,#[x,y],#[24,24]⟩,t,pos,af,gu⟩) (hx:spO L x=some (nwS k)) (hy:spO L y=some (tkS ts)) (hk:ns.length=k') (hsz:ts.length<=1000000):EOb Tryd.prog n ops XX B ⟨i,L,nwS k',ph,true⟩ p:=by
 subst hk;intro ξ g w hB hH;rw[hB0]at hB;have hB:StB (nz base k) ns g w:=hB;show Ok1 Tryd.prog (ops.getD i default) _ _ _ _;rw[hop];obtain⟨h1,h2,b,h3,h4,h5,h6⟩:=hB.run;obtain⟨vx,e0,a⟩:=bH hx hH;have a:g.N[k]? =some vx:=a;rw[h4]at a;cases a;obtain⟨vy,e1,ys,h,f⟩:=bH hy hH;have c:g.N.length=ns.length:=hB.len;refine(lX u24 kR rfl (by decide) e0 e1 h6 h3 h ((IsTs.len f).trans (AO _ _)) (IsTs.cells1 f) (by omega) (by unfold maxLen;omega) h1).mono ?_;rintro v' w' ⟨hown,hch,ho⟩;have d:∀z,z∈bC v'->z∈g.F\/w.heap.size<=z:=λz hz=>by
  rcases ho with e|e
  ·rw[e]at hz;exact .inl (by rw[h5];exact hz)
  ·rw[e]at hz;exact .inr (by rw[zt.1 hz];exact zH _)
 have hX:∀z,z∈bC v'++(g.M++g.Y)->z∈g.X\/w.heap.size<=z:=λz hz=>by
  rcases zr.1 hz with hz|hz
  ·rcases d z hz with h3|h3
   ·exact .inl (by simp [Gh.X,h3])
   ·exact .inr h3
  ·exact .inl (by simp only[Gh.X,zr]at hz⊢;exact .inr hz)
 obtain⟨t1,t2⟩:=hB.run' (ρ':=fh (loY base) base 26 3 ns.length ts.length (dD ts)) (g':=⟨bC v',g.M,g.Y,g.N++[v']⟩) (w':=w') (l:=[v']) (l':=[(0,bB)]) (hch.mono (by simp)) d (λz hz=>(Own.lt hown z hz).2) rfl rfl rfl rfl (λu hu b'=>by
  rw[zt.1 hu];rcases Own.at hown with⟨rfl,_⟩|⟨_,_,rfl,_⟩<;>simp) (λu hu=>by rw[zt.1 hu]) ⟨v',by simp [<-c],⟨zy h1 hch.size,h2⟩,zy h1 hch.size,h2,rfl,ys,hown,IsTs.mv hch (by simp) hX _ _ f⟩
 exact⟨_,⟨t1,by show(B (p+1)).P _ _;rw[hB1];exact t2⟩,by show(g.N++[v'])[ns.length]? =some v';simp [<-c]⟩
end
end Go.Mi.Term
