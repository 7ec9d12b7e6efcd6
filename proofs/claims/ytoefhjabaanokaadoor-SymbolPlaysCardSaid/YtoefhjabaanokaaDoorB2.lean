/- Texts that belong together: A9, A10, H1, T0, H2, H3, H4, H5, H8. General lemmas and walks; no conditions. -/
import Derived.Test.YtoefhjabaanokaaDoorB1
import Derived.MapKept
import Derived.Maps.AppendAt
import Derived.Laws.Strings
import Derived.Lib.Join
import Derived.Lib.ItoaNum
import Derived.Laws.StructEq
set_option linter.unusedSimpArgs false
set_option linter.unusedVariables false
set_option linter.unnecessarySimpa false
namespace Go.Mi
open Go.RowKit
structure HRow where
  us:List (Nat×Nat)
  zs:List (Nat×Value)
  ph:List Nat
  hs:List Nat
  out:(Nat->Value)->Value
  dep:∀H H':Nat->Value,(∀j,j∈hs->H j=H' j)->out H=out H'
def HRow.sh (r:HRow):Row (λ_ _=>True):=⟨r.us,r.zs,r.ph,.val undef⟩
def d9 (H:Nat->Value) (i:Nat) (v:Value):Nat->Value:=λj=>bif Nat.beq j i then v else H j
theorem f_ (H:Nat->Value) (i:Nat) (v:Value):d9 H i v i=v:=by simp [d9]
theorem eL {H:Nat->Value} {i j:Nat} {v:Value} (h:j≠i):d9 H i v j=H j:=by simp [d9,el h]
def HRow.fr (rows : List HRow) (r : HRow) (H : Nat -> Value) : List (Nat × Value) :=
  r.us.map (λp=>(p.2,((rows[p.1]?).map (·.out H)).getD undef))++r.zs
def okHs (l : List Oper) (rows : List HRow) : Bool :=
  let B:=uC l []
  rows.zipIdx.all λq=>q.1.hs.all λj=>Nat.beq j q.2||(B.getD q.2 0).testBit j
def lY (n:Nat) (ss:List Nat) (l:List Oper) (rows:List HRow):Bool:=iw n ss l (rows.map HRow.sh)&&okHs l rows
def vb : Value -> Option Bool
  | .bool b=>some b
  |_=>none
def HOb (P : Program) (n : Nat) (Wd : Nat -> (Nat -> Value) -> World -> Prop) (ss : List Nat) (L0 : List (Nat × Value)) (rows : List HRow) (i : Nat) (o : Oper) (r : HRow) : Prop :=
  fV L0 r.zs /\ ∀ (p : Nat), cv p r.ph = true -> ∀ (H : Nat -> Value) (w : World), Wd p H w ->
    let R:Value->World->Prop:=λv w'=>bif cv i ss then Wd (p+1) (d9 H i v) w'/\v=r.out (d9 H i v)else Wd p H w'/\v=r.out H
    match o.guard with
    |none=>Ok1 P o n (r.fr rows H) w R
    |some (j,b)=>∃c rj,rows[j]? =some rj/\vb (rj.out H)=c/\(if c=some b then Ok1 P o n (r.fr rows H) w R else cv i ss=false/\undef=r.out H)
def HObs (P : Program) (n : Nat) (Wd : Nat -> (Nat -> Value) -> World -> Prop) (ss : List Nat) (L0 : List (Nat × Value)) (rows : List HRow) : Nat -> List Oper -> List HRow -> Prop
  |i,o::os,r::rs=>HOb P n Wd ss L0 rows i o r/\HObs P n Wd ss L0 rows (i+1) os rs
  |_,_,_=>True
variable {P:Program} {n:Nat} {Wd:Nat->(Nat->Value)->World->Prop} {ss:List Nat} {L0:List (Nat×Value)} {rows:List HRow}
theorem HObs.at : ∀ {os : List Oper} {rs : List HRow} {k : Nat}, HObs P n Wd ss L0 rows k os rs -> ∀ (i : Nat) (o : Oper) (r : HRow), os[i]? = some o -> rs[i]? = some r -> HOb P n Wd ss L0 rows (k + i) o r
  |o::os,r::rs,k,h,0,o',r',h1,h2=>by simp at h1 h2;subst h1;subst h2;exact h.1
  | o :: os, r :: rs, k, h, i + 1, o', r', h1, h2 => by
    have :=HObs.at h.2 i o' r' (by simpa using h1) (by simpa using h2)
    rwa [show k+1+i=k+(i+1) by omega]at this
  |[],rs,_,_,i,o',r',h1,_=>by simp at h1
  |_::_,[],_,_,i,o',r',_,h2=>by simp at h2
structure HInv (l : List Oper) (n : Nat) (Wd : Nat -> (Nat -> Value) -> World -> Prop) (ss : List Nat) (L0 : List (Nat × Value)) (rows : List HRow) (listed : Array Bool) (p : Nat) (H : Nat -> Value) (a : Act) (w : World) : Prop where
  size:listed.size=l.length
  closed:∀i o,l[i]? =some o->listed.getD i false=true->∀e∈o.after.toList,Region.binds .any e=true->listed.getD e.on false=true
  ple:p<=ss.length
  phase:∀k s,ss[k]? =some s->(listed.getD s false=true↔k<p)
  frame:a.tmps.size=n
  defers:a.defers=[]
  wd:Wd p H w
  done:∀i o r d,l[i]? =some o->rows[i]? =some r->listed.getD i false=true->o.dst=some d->a.tmps.getD d undef=r.out H
  rest:∀s v,lk L0 s=some v->(∀i o,l[i]? =some o->o.dst=some s->listed.getD i false=false)->a.tmps.getD s undef=v
variable {l:List Oper} {listed:Array Bool} {p:Nat} {H:Nat->Value} {a:Act} {w:World} {Q:Exit->Act->World->Prop}
theorem HInv.ahead (h : HInv l n Wd ss L0 rows listed p H a w) {i j : Nat} (ha : dw l i j) : listed.getD i false = true -> listed.getD j false = true := by
  induction ha with
  |edge h1 h2 h3=>exact λhi=>h.closed _ _ h1 hi _ h2 h3
  |trans _ _ ih1 ih2=>exact λhi=>ih2 (ih1 hi)
theorem ey (h : HInv l n Wd ss L0 rows listed p H a w) {i : Nat} (hr : i ∈ Region.ready .any l.toArray listed) {j : Nat} (ha : dw l i j) : listed.getD j false = true := by
  simp only[Region.ready,z_,Ap,zD]at hr;obtain⟨hi,_,hall⟩:=hr;have direct : ∀ (o : Oper) (e : Edge), l[i]? = some o -> e ∈ o.after.toList -> Region.binds .any e = true -> listed.getD e.on false = true := by intro o e ho he hb;simp only[zQ,ho,zW,zT,Af]at hall;have :=hall e (by simpa using he);simpa[hb]using this
  have key : ∀ i' j', dw l i' j' -> i' = i -> listed.getD j' false = true := by
    intro i' j' ha'
    induction ha' with
    |edge h1 h2 h3=>intro e;subst e;exact direct _ _ h1 h2 h3
    |trans h1 h2 ih1 ih2=>exact λe=>h.ahead h2 (ih1 e)
  exact key i j ha rfl
theorem okHs.of (h : okHs l rows = true) : ∀ (i : Nat) (r : HRow), rows[i]? = some r -> ∀ j, j ∈ r.hs -> j = i \/ dw l i j := by
  have hB:=mw l l [] (λj o hj=>by simpa using hj) (by simp);intro i r hr j hj;simp only[okHs,AL,z8]at h;rcases h (r,i) (dE hr) j hj with h|h
  · exact .inl (Am h)
  · exact .inr (hB _ _ h)
theorem od (ok : OkAll n ss l (rows.map HRow.sh)) (okh : ∀ (i : Nat) (r : HRow), rows[i]? = some r -> ∀ j, j ∈ r.hs -> j = i \/ dw l i j) (hobs : HObs P n Wd ss L0 rows 0 l rows) (h : HInv l n Wd ss L0 rows listed p H a w) {i : Nat} (hr : i ∈ Region.ready .any l.toArray listed) :
    wpOp P l.toArray Q i (λa' w'=>∃p' H',HInv l n Wd ss L0 rows (listed.setIfInBounds i true) p' H' a' w') a w:=by
  obtain⟨al,am⟩:=dK hr;have C:i<l.length:=by simpa using al
  have m : listed.getD i false = false := by
    have :i<listed.size:=by rw[h.size];exact C
    simpa[this]using am
  obtain⟨o,ho⟩:∃o,l[i]? =some o:=⟨_,zp C⟩;obtain⟨r,E⟩:∃r,rows[i]? =some r:=⟨_,zp (by have :=ok.len;rw[z7]at this;rw[this];exact C)⟩;obtain⟨M,ae,ah,aj⟩:=ok.row i o r.sh ho (by rw[Ai,E];rfl);have O : cv p r.ph = true := by
    rcases aj p h.ple with h'|⟨k,s,hk,h'|h'⟩
    · exact h'
    · obtain ⟨ab, h'⟩ := h'
      have hs:=(h.phase k s hk).2 ab;rcases h' with h'|h'
      · have :=h.ahead h' hs;rw[m]at this;simp at this
      · rw[h',m]at hs;simp at hs
    · obtain ⟨ab, h'⟩ := h'
      have hs:=(h.phase k s hk).1 (ey h hr h');omega
  obtain⟨Y,T⟩:=hobs.at i o r ho E;rw[Aj]at T;have af:=T p O;have G:∀u∈r.us,listed.getD u.1 false=true:=λu hu=>ey h hr (M u hu).1;have A : ∀ u ∈ r.us, ∀ r', rows[u.1]? = some r' -> a.tmps.getD u.2 undef = r'.out H := by intro u hu r' N;obtain⟨ha,o',F,L⟩:=M u hu;exact h.done u.1 o' r' u.2 F N (G u hu) L
  have hF : Frm a n (r.fr rows H) := by
    refine⟨h.frame,h.defers,λt v hv=> ?_⟩;have hm:=mc hv;simp only[HRow.fr,zr,Av,Prod.mk.injEq]at hm;rcases hm with⟨u,hu,rfl,rfl⟩|hm
    · obtain ⟨_, o', F, _⟩ := M u hu
      obtain ⟨r', N⟩ : ∃ r', rows[u.1]? = some r' := by
        refine⟨_,zp ?_⟩;have :=ok.len;rw[z7]at this;rw[this];rcases zF u.1 l.length with h'|h'
        · exact h'
        · simp [zz h']at F
      simp only[N,zW,zT];exact A u hu r' N
    · refine h.rest t v (ig Y _ hm) λj o' hj hd => ?_
      rcases ae _ hm j o' hj hd with rfl|ha
      · exact m
      · cases f : listed.getD j false with
        |false=>rfl
        | true =>
          have :=h.ahead ha f;rw[m]at this;simp at this
  have ag:i<listed.size:=by rw[h.size];exact C
  have g:∀j,(listed.setIfInBounds i true).getD j false=if j=i then true else listed.getD j false:=λj=>fC ag
  -- the phase behind
  have B : (bif cv i ss then p + 1 else p) <= ss.length /\ ∀ k s, ss[k]? = some s -> ((listed.setIfInBounds i true).getD s false = true ↔ k < (bif cv i ss then p + 1 else p)) := by
    have ad : ∀ k k' : Nat, ss[k]? = some i -> ss[k']? = some i -> k = k' := by
      intro k k' hk Z;rcases Ax k k' with y|he|hgt
      · have :=ey h hr (ok.chain k k' i i hk Z y);rw[m]at this;simp at this
      · exact he
      · have :=ey h hr (ok.chain k' k i i Z hk hgt);rw[m]at this;simp at this
    cases hmem:cv i ss with
    | false =>
      simp only[cond_false];refine⟨h.ple,λk s hk=> ?_⟩;have z : s ≠ i := λe => by
        have :i∈ss:=by subst e;exact zC hk
        rw[memN_iff.2 this]at hmem;simp at hmem
      rw[g,zK z];exact h.phase k s hk
    | true =>
      simp only[cond_true];obtain⟨k0,I⟩:=An.1 (memN_iff.1 hmem);have hk0l : k0 < ss.length := by
        rcases zF k0 ss.length with h'|h'
        · exact h'
        · simp [zz h']at I
      have h1 : ¬ k0 < p := λy => by have :=(h.phase k0 i I).2 y;rw[m]at this;simp at this
      have h2 : ∀ k, k < k0 -> k < p := by intro k hk;obtain⟨s,hs⟩:∃s,ss[k]? =some s:=⟨_,zp (by omega)⟩;exact(h.phase k s hs).1 (ey h hr (ok.chain k k0 s i hs I hk))
      have hpk : p = k0 := by
        have :=h.ple;rcases Ax p k0 with y|he|hgt
        · have :=h2 p y;omega
        · exact he
        · omega
      refine⟨by omega,λk s hk=> ?_⟩;rw[g];by_cases hsi:s=i
      · subst hsi
        have :=ad k k0 hk I;rw[zX rfl];simp;omega
      · rw [zK hsi, h.phase k s hk]
        have z:k≠k0:=λe=>by subst e;rw[I]at hk;exact hsi (by simpa using hk.symm)
        omega
  have U : ∀ (j : Nat) (r' : HRow), rows[j]? = some r' -> listed.getD j false = true -> ∀ v, r'.out (bif cv i ss then d9 H i v else H) = r'.out H := by
    intro j r' q f v;refine r'.dep _ _ λjj ai=> ?_;have y : listed.getD jj false = true := by
      rcases okh j r' q jj ai with rfl|ha
      · exact f
      · exact h.ahead ha f
    cases cv i ss with
    |false=>rfl
    |true=>exact eL λe=>by rw[e,m]at y;simp at y
  have S : ∀ v w', (bif cv i ss then Wd (p + 1) (d9 H i v) w' /\ v = r.out (d9 H i v) else Wd p H w' /\ v = r.out H) -> ∃ p' H', HInv l n Wd ss L0 rows (listed.setIfInBounds i true) p' H' (a.put o.dst v) w' := by
    intro v w' hR;have V : Wd (bif cv i ss then p + 1 else p) (bif cv i ss then d9 H i v else H) w' := by cases hm:cv i ss<;>rw[hm]at hR<;>exact hR.1
    have hv : v = r.out (bif cv i ss then d9 H i v else H) := by cases hm:cv i ss<;>rw[hm]at hR<;>exact hR.2
    refine⟨_,(bif cv i ss then d9 H i v else H),by simp [h.size],?_,B.1,B.2,?_,?_,V,?_,?_⟩
    · intro j o' hj f e he hb
      rw[g]at f⊢;split
      · rfl
      · split at f
        · rename_i hji
          subst hji;rw[ho]at hj;cases hj;exact dS ho hr e he hb
        · exact h.closed j o' hj f e he hb
    · cases hd:o.dst<;>simp [Act.put,h.frame]
    · cases hd:o.dst<;>simp [Act.put,h.defers]
    · intro j o' r' d hj q f hd
      rw[g]at f;by_cases hji:j=i
      · subst hji
        rw[ho]at hj;cases hj;rw[E]at q;cases q;have W:=ok.slot _ _ _ ho hd;rw[<-hv];simp only[hd,Act.put];simp [h.frame,W]
      · rw [zK hji] at f
        have K:=h.done j o' r' d hj q f hd;have z:o.dst≠some d:=λe=>ok.once i j o o' ho hj (λx=>hji x.symm) (by rw[e];simp) (by rw[e,hd]);have : (a.put o.dst v).tmps.getD d undef = a.tmps.getD d undef := by
          cases hod:o.dst with
          |none=>rfl
          | some d' =>
            have :d'≠d:=λe=>z (by rw[hod,e]);simp [Act.put,zJ this]
        rw[this,U j r' q f v];exact K
    · intro s u hs J
      have z : o.dst ≠ some s := λe => by have :=J i o ho e;rw[g,zX rfl]at this;simp at this
      have : (a.put o.dst v).tmps.getD s undef = a.tmps.getD s undef := by
        cases hod:o.dst with
        |none=>rfl
        | some d' =>
          have :d'≠s:=λe=>z (by rw[hod,e]);simp [Act.put,zJ this]
      rw[this];refine h.rest s u hs λj o' hj hd=> ?_;have :=J j o' hj hd;rw[g]at this;split at this
      · simp at this
      · exact this
  have D:=af H w h.wd;unfold wpOp;simp only[zQ,ho];cases hgu:o.guard with
  | none =>
    rw[hgu]at D;rw[zX (by simp [Region.wanted,hgu])];exact .inl (D a _ Q hF λv w' hR=>S v w' hR)
  | some jb =>
    obtain⟨j,b⟩:=jb;rw[hgu]at D;obtain⟨c,rj,q,ac,hx⟩:=D;obtain⟨u,hu,X⟩:=ah j b hgu;obtain⟨ha,o',F,L⟩:=M u hu;have aa : vb (a.tmps.getD u.2 undef) = c := by have :=A u hu rj (by rw[X];exact q);rw[this];exact ac
    have hy : yielded l.toArray a.tmps j = c := by
      subst X;have y:=ok.slot _ _ _ F L;have R:u.2<a.tmps.size:=by rw[h.frame];exact y
      have ak : a.tmps[u.2]? = some (a.tmps.getD u.2 undef) := by rw[Aw R];simp [R]
      rw[<-aa];simp only[yielded,zQ,F,AF,L,ak];generalize a.tmps.getD u.2 undef=x;cases x<;>rfl
    by_cases hcb:c=some b
    · subst hcb
      simp only[if_true]at hx;rw[zX (by simp [Region.wanted,hgu,hy])];exact .inl (hx a _ Q hF λv w' hR=>S v w' hR)
    · rw [zK hcb] at hx
      rw[zK (by simp [Region.wanted,hgu,hy,hcb])];have V:Wd (bif cv i ss then p+1 else p) H w:=by rw[hx.1];exact h.wd
      -- nothing happens: the old facts stand as they stood
      refine⟨_,H,by simp [h.size],?_,B.1,B.2,?_,?_,V,?_,?_⟩
      · intro j o' hj f e he hb
        rw[g]at f⊢;split
        · rfl
        · split at f
          · rename_i hji
            subst hji;rw[ho]at hj;cases hj;exact dS ho hr e he hb
          · exact h.closed j o' hj f e he hb
      · cases hd:o.dst<;>simp [Act.put,h.frame]
      · cases hd:o.dst<;>simp [Act.put,h.defers]
      · intro j o' r' d hj q f hd
        rw[g]at f;by_cases hji:j=i
        · subst hji
          rw[ho]at hj;cases hj;rw[E]at q;cases q;have W:=ok.slot _ _ _ ho hd;rw[<-hx.2];simp only[hd,Act.put];simp [h.frame,W]
        · rw [zK hji] at f
          have K:=h.done j o' r' d hj q f hd;have z:o.dst≠some d:=λe=>ok.once i j o o' ho hj (λx=>hji x.symm) (by rw[e];simp) (by rw[e,hd]);have : (a.put o.dst undef).tmps.getD d undef = a.tmps.getD d undef := by
            cases hod:o.dst with
            |none=>rfl
            | some d' =>
              have :d'≠d:=λe=>z (by rw[hod,e]);simp [Act.put,zJ this]
          rw[this];exact K
      · intro s u hs J
        have z : o.dst ≠ some s := λe => by have :=J i o ho e;rw[g,zX rfl]at this;simp at this
        have : (a.put o.dst undef).tmps.getD s undef = a.tmps.getD s undef := by
          cases hod:o.dst with
          |none=>rfl
          | some d' =>
            have :d'≠s:=λe=>z (by rw[hod,e]);simp [Act.put,zJ this]
        rw[this];refine h.rest s u hs λj o' hj hd=> ?_;have :=J j o' hj hd;rw[g]at this;split at this
        · simp at this
        · exact this
structure HDone (l : List Oper) (n : Nat) (Wd : Nat -> (Nat -> Value) -> World -> Prop) (ss : List Nat) (L0 : List (Nat × Value)) (rows : List HRow) (H : Nat -> Value) (a : Act) (w : World) : Prop where
  frame:a.tmps.size=n
  defers:a.defers=[]
  wd:Wd ss.length H w
  done:∀(i:Nat) (o:Oper) (r:HRow) (d:Nat),l[i]? =some o->rows[i]? =some r->o.dst=some d->a.tmps.getD d undef=r.out H
  rest:∀s v,lk L0 s=some v->(∀(i:Nat) (o:Oper),l[i]? =some o->o.dst≠some s)->a.tmps.getD s undef=v
theorem oe (ok : OkAll n ss l (rows.map HRow.sh)) (okh : ∀ (i : Nat) (r : HRow), rows[i]? = some r -> ∀ j, j ∈ r.hs -> j = i \/ dw l i j) (hobs : HObs P n Wd ss L0 rows 0 l rows)
    (hend:∀H a w,HDone l n Wd ss L0 rows H a w->Q .normal a w):
    ∀(fuel:Nat) (listed:Array Bool) (p:Nat) (H:Nat->Value) (a:Act) (w:World),HInv l n Wd ss L0 rows listed p H a w->left l.length listed<=fuel->wpAny P .any l.toArray Q fuel listed a w:=by
  have c : ∀ (listed : Array Bool) (p : Nat) (H : Nat -> Value) (a : Act) (w : World), HInv l n Wd ss L0 rows listed p H a w -> (∀ i, i < l.length -> listed.getD i false = true) -> Q .normal a w := by
    intro listed p H a w h f;have hp : p = ss.length := by
      rcases zF p ss.length with q|hge
      · obtain ⟨s, hs⟩ : ∃ s, ss[p]? = some s := ⟨_, zp q⟩
        have :=(h.phase p s hs).1 (f s (ok.inn p s hs));omega
      · have :=h.ple;omega
    subst hp;refine hend H a w ⟨h.frame,h.defers,h.wd,λi o r d ho hr hd=> ?_,λs v hs B=> ?_⟩
    · refine h.done i o r d ho hr (f i ?_) hd
      rcases zF i l.length with h'|h'
      · exact h'
      · simp [zz h']at ho
    · exact h.rest s v hs λi o ho hd=>absurd hd (B i o ho)
  have t : ∀ (listed : Array Bool) (p : Nat) (H : Nat -> Value) (a : Act) (w : World), HInv l n Wd ss L0 rows listed p H a w -> Region.ready .any l.toArray listed = [] -> ∀ i, i < l.length -> listed.getD i false = true := by
    intro listed p H a w h m i0 u;have : ∀ k i, i <= k -> i < l.length -> listed.getD i false = false -> False := by
      intro k
      induction k with
      | zero =>
        intro i C g x;have u:i=0:=by omega
        subst u;have ho:l[0]? =some l[0]:=zp g;have b : 0 ∈ Region.ready .any l.toArray listed := by
          simp only[Region.ready,z_,Ap,zD];refine⟨by simpa using g,?_,?_⟩
          · have : 0 < listed.size := by rw [h.size]; exact g
            simpa[this]using x
          · simp only [zQ, ho, zW, zT, Af]
            intro e he;cases hbd:Region.binds .any e with
            |false=>simp
            |true=>have :=ok.back 0 _ ho e (by simpa using he) hbd;omega
        rw[m]at b;simp at b
      | succ k ihk =>
        intro i C g x;by_cases hlow:∃j,j<i/\listed.getD j false=false
        · obtain ⟨j, hj, D⟩ := hlow
          exact ihk j (by omega) (by omega) D
        · have ho : l[i]? = some l[i] := zp g
          have b : i ∈ Region.ready .any l.toArray listed := by
            simp only[Region.ready,z_,Ap,zD];refine⟨by simpa using g,?_,?_⟩
            · have : i < listed.size := by rw [h.size]; exact g
              simpa[this]using x
            · simp only [zQ, ho, zW, zT, Af]
              intro e he;cases hbd:Region.binds .any e with
              |false=>simp
              | true =>
                have q:=ok.back i _ ho e (by simpa using he) hbd;cases hb:listed.getD e.on false with
                |true=>simp
                |false=>exact absurd ⟨e.on,q,hb⟩ hlow
          rw[m]at b;simp at b
    cases hb:listed.getD i0 false with
    |true=>rfl
    |false=>exact(this i0 i0 (zH _) u hb).elim
  intro fuel
  induction fuel with
  | zero =>
    intro listed p H a w h hf;have f : ∀ i, i < l.length -> listed.getD i false = true := by
      intro i hi;have h0:left l.length listed=0:=by omega
      unfold left at h0;rw[AW]at h0;simpa using h0 i (by simpa using hi)
    refine⟨?_,c listed p H a w h f⟩;unfold Region.ready;rw[AN];intro i hi;have z:i<l.length:=by simpa using hi
    have h1:=f i z;have h2:i<listed.size:=by rw[h.size];exact z
    have h3:listed.getD i true=true:=by simpa[h2]using h1
    rw[h3];simp
  | succ fuel ih =>
    intro listed p H a w h hf;refine⟨λm=>c listed p H a w h (t listed p H a w h m),λi hi=> ?_⟩;refine wpOp_mono (λa' w' h'=> ?_) (od (Q:=Q) ok okh hobs h hi);obtain⟨p',H',h'⟩:=h';refine ih _ p' H' a' w' h' ?_;have q:i<l.length:=by simpa using(dK hi).1
    have y:i<listed.size:=by rw[h.size];exact q
    have A : listed.getD i false = false := by have :=(dK hi).2;simpa[y]using this
    have :=iB y q A;omega
def g8 (H : Nat -> Value) : List Oper -> List HRow -> List (Nat × Value)
  | o :: os, r :: rs => match o.dst with
    |some d=>(d,r.out H)::g8 H os rs
    |none=>g8 H os rs
  |_,_=>[]
theorem jM {t : Nat} {v : Value} : ∀ {os : List Oper} {rs : List HRow}, lk (g8 H os rs) t = some v ->
    ∃(i:Nat) (o:Oper) (r:HRow),os[i]? =some o/\rs[i]? =some r/\o.dst=some t/\v=r.out H
  | o :: os, r :: rs, h => by
    simp only[g8]at h;cases hd:o.dst with
    | none =>
      rw[hd]at h;obtain⟨i,o',r',h1,h2,h3,h4⟩:=jM h;exact⟨i+1,o',r',by simpa using h1,by simpa using h2,h3,h4⟩
    | some d =>
      rw[hd]at h;simp only[lk]at h;by_cases e:d=t
      · subst e
        simp at h;exact⟨0,o,r,rfl,rfl,hd,h.symm⟩
      · rw [el e] at h
        obtain⟨i,o',r',h1,h2,h3,h4⟩:=jM h;exact⟨i+1,o',r',by simpa using h1,by simpa using h2,h3,h4⟩
  |[],rs,h=>by simp [g8,lk]at h
  |_::_,[],h=>by simp [g8,lk]at h
theorem gh {t : Nat} : ∀ {os : List Oper} {rs : List HRow}, lk (g8 H os rs) t = none -> ∀ (i : Nat) (o : Oper), i < rs.length -> os[i]? = some o -> o.dst ≠ some t
  | o :: os, r :: rs, h, i, o', hi, ho => by
    simp only[g8]at h;cases i with
    | zero =>
      simp at ho;subst ho;intro hd;rw[hd]at h;simp [lk]at h
    | succ i =>
      have h' : lk (g8 H os rs) t = none := by
        cases hd:o.dst with
        |none=>rw[hd]at h;exact h
        | some d =>
          rw[hd]at h;simp only[lk]at h;by_cases e:d=t
          · subst e;simp at h
          · rw[el e]at h;exact h
      exact gh h' i o' (by simpa using hi) (by simpa using ho)
  |[],rs,h,i,o',hi,ho=>by simp at ho
  |_::_,[],h,i,o',hi,ho=>by simp at hi
theorem HDone.frm (ok : OkAll n ss l (rows.map HRow.sh)) (h : HDone l n Wd ss L0 rows H a w) : Frm a n (g8 H l rows ++ L0) := by
  refine⟨h.frame,h.defers,λt v ht=> ?_⟩;rw[iU]at ht;cases ho:lk (g8 H l rows) t with
  | some u =>
    rw[ho]at ht;simp at ht;subst ht;obtain⟨i,o,r,h1,h2,h3,h4⟩:=jM ho;rw[h4];exact h.done i o r t h1 h2 h3
  | none =>
    rw[ho]at ht;refine h.rest t v ht λi o hio=> ?_;have hi : i < l.length := by
      rcases zF i l.length with h'|h'
      · exact h'
      · simp [zz h']at hio
    exact gh ho i o (by have :=ok.len;rw[z7]at this;rw[this];exact hi) hio
theorem eU {rows : List HRow} {id : Nat} (hm : P.follows .mixedOrders = true) (Wd : Nat -> (Nat -> Value) -> World -> Prop) (ss : List Nat) (hok : lY n ss l rows = true) (hF : Frm a n L0) (h0 : ∀ H, Wd 0 H { w with drawn := w.drawn + 1 })
    (hobs:HObs P n Wd ss L0 rows 0 l rows)
    (hend:∀a' w' H,Wd ss.length H w'->Frm a' n (g8 H l rows++L0)->Q .normal a' w'):
    (Code.region id l.toArray true).wp P Q a w:=by
  simp only[lY,zD]at hok;have ok:=OkAll.of hok.1;refine wp_region_any hm ?_;refine oe ok (okHs.of hok.2) hobs (λH a' w' hd=>hend a' w' H hd.wd (hd.frm ok)) _ _ 0 (λ_=>undef) _ _ ?_ ?_
  · have h0' : ∀ j, (Array.replicate l.toArray.size false).getD j false = false := by intro j;simp only[AE,AK];split<;>rfl
    refine⟨by simp,λi o _ h=> ?_,by omega,λk s _=> ?_,hF.size,hF.defers,h0 _,λi o r d _ _ h=> ?_,λs v hs _=>hF.get s v hs⟩
    · rw[h0']at h;simp at h
    · rw[h0'];simp
    · rw[h0']at h;simp at h
  · unfold left
    have :=AG (l:=List.range l.length) (p:=λi=> !(Array.replicate l.toArray.size false).getD i false);simpa using this
end Go.Mi
namespace Go.Mi
open Go.RowKit
structure R2 (Wd : Nat -> (Nat -> Value) -> World -> Prop) (ss fl : List Nat) (Ft : Nat -> Value -> World -> Prop) (G : World -> World -> Prop) (qb : Nat) (r : HRow) (i p : Nat) (H : Nat -> Value) (w : World) (v : Value) (w' : World) : Prop where
  wd:Wd (bif cv i ss then p+1 else p) (bif (cv i ss||cv i fl)then d9 H i v else H) w'
  out:v=r.out (bif (cv i ss||cv i fl)then d9 H i v else H)
  gr:(bif cv i ss then p+1 else p)<=qb->G w w'
  fact:cv i fl=true->(bif cv i ss then p+1 else p)<=qb->Ft i v w'
def GOb (P : Program) (n : Nat) (Wd : Nat -> (Nat -> Value) -> World -> Prop) (ss fl : List Nat) (Ft : Nat -> Value -> World -> Prop) (G : World -> World -> Prop) (qb : Nat) (L0 : List (Nat × Value)) (rows : List HRow) (i : Nat) (o : Oper) (r : HRow) : Prop :=
  fV L0 r.zs /\ ∀ (p : Nat), cv p r.ph = true -> ∀ (H : Nat -> Value) (w : World), Wd p H w -> (p <= qb -> ∀ j, j ∈ r.hs -> j ≠ i -> cv j fl = true -> Ft j (H j) w) ->
    match o.guard with
    |none=>Ok1 P o n (r.fr rows H) w (R2 Wd ss fl Ft G qb r i p H w)
    |some (j,b)=>∃c rj,rows[j]? =some rj/\vb (rj.out H)=c/\(if c=some b then Ok1 P o n (r.fr rows H) w (R2 Wd ss fl Ft G qb r i p H w)else cv i ss=false/\cv i fl=false/\undef=r.out H)
def GObs (P : Program) (n : Nat) (Wd : Nat -> (Nat -> Value) -> World -> Prop) (ss fl : List Nat) (Ft : Nat -> Value -> World -> Prop) (G : World -> World -> Prop) (qb : Nat) (L0 : List (Nat × Value)) (rows : List HRow) : Nat -> List Oper -> List HRow -> Prop
  |i,o::os,r::rs=>GOb P n Wd ss fl Ft G qb L0 rows i o r/\GObs P n Wd ss fl Ft G qb L0 rows (i+1) os rs
  |_,_,_=>True
variable {P:Program} {n:Nat} {Wd:Nat->(Nat->Value)->World->Prop} {ss:List Nat} {L0:List (Nat×Value)} {rows:List HRow}
theorem GObs.at {fl : List Nat} {Ft : Nat -> Value -> World -> Prop} {G : World -> World -> Prop} {qb : Nat} : ∀ {os : List Oper} {rs : List HRow} {k : Nat}, GObs P n Wd ss fl Ft G qb L0 rows k os rs -> ∀ (i : Nat) (o : Oper) (r : HRow), os[i]? = some o -> rs[i]? = some r -> GOb P n Wd ss fl Ft G qb L0 rows (k + i) o r
  |o::os,r::rs,k,h,0,o',r',h1,h2=>by simp at h1 h2;subst h1;subst h2;exact h.1
  | o :: os, r :: rs, k, h, i + 1, o', r', h1, h2 => by
    have :=GObs.at h.2 i o' r' (by simpa using h1) (by simpa using h2)
    rwa [show k+1+i=k+(i+1) by omega]at this
  |[],rs,_,_,i,o',r',h1,_=>by simp at h1
  |_::_,[],_,_,i,o',r',_,h2=>by simp at h2
structure GInv (l : List Oper) (n : Nat) (Wd : Nat -> (Nat -> Value) -> World -> Prop) (ss fl : List Nat) (Ft : Nat -> Value -> World -> Prop) (qb : Nat) (L0 : List (Nat × Value)) (rows : List HRow) (listed : Array Bool) (p : Nat) (H : Nat -> Value) (a : Act) (w : World) : Prop where
  size:listed.size=l.length
  closed:∀i o,l[i]? =some o->listed.getD i false=true->∀e∈o.after.toList,Region.binds .any e=true->listed.getD e.on false=true
  ple:p<=ss.length
  phase:∀k s,ss[k]? =some s->(listed.getD s false=true↔k<p)
  frame:a.tmps.size=n
  defers:a.defers=[]
  wd:Wd p H w
  fact:p<=qb->∀j,cv j fl=true->listed.getD j false=true->Ft j (H j) w
  done:∀i o r d,l[i]? =some o->rows[i]? =some r->listed.getD i false=true->o.dst=some d->a.tmps.getD d undef=r.out H
  rest:∀s v,lk L0 s=some v->(∀i o,l[i]? =some o->o.dst=some s->listed.getD i false=false)->a.tmps.getD s undef=v
variable {fl:List Nat} {Ft:Nat->Value->World->Prop} {qb:Nat} {l:List Oper} {listed:Array Bool} {p:Nat} {H:Nat->Value} {a:Act} {w:World} {Q:Exit->Act->World->Prop} {G:World->World->Prop}
theorem GInv.ahead (h : GInv l n Wd ss fl Ft qb L0 rows listed p H a w) {i j : Nat} (ha : dw l i j) : listed.getD i false = true -> listed.getD j false = true := by
  induction ha with
  |edge h1 h2 h3=>exact λhi=>h.closed _ _ h1 hi _ h2 h3
  |trans _ _ ih1 ih2=>exact λhi=>ih2 (ih1 hi)
theorem dX (h : GInv l n Wd ss fl Ft qb L0 rows listed p H a w) {i : Nat} (hr : i ∈ Region.ready .any l.toArray listed) {j : Nat} (ha : dw l i j) : listed.getD j false = true := by
  simp only[Region.ready,z_,Ap,zD]at hr;obtain⟨hi,_,hall⟩:=hr;have direct : ∀ (o : Oper) (e : Edge), l[i]? = some o -> e ∈ o.after.toList -> Region.binds .any e = true -> listed.getD e.on false = true := by intro o e ho he hb;simp only[zQ,ho,zW,zT,Af]at hall;have :=hall e (by simpa using he);simpa[hb]using this
  have key : ∀ i' j', dw l i' j' -> i' = i -> listed.getD j' false = true := by
    intro i' j' ha'
    induction ha' with
    |edge h1 h2 h3=>intro e;subst e;exact direct _ _ h1 h2 h3
    |trans h1 h2 ih1 ih2=>exact λe=>h.ahead h2 (ih1 e)
  exact key i j ha rfl
theorem oi (ok : OkAll n ss l (rows.map HRow.sh)) (okh : ∀ (i : Nat) (r : HRow), rows[i]? = some r -> ∀ j, j ∈ r.hs -> j = i \/ dw l i j) (st : ∀ j v w w', Ft j v w -> G w w' -> Ft j v w') (hobs : GObs P n Wd ss fl Ft G qb L0 rows 0 l rows) (h : GInv l n Wd ss fl Ft qb L0 rows listed p H a w) {i : Nat} (hr : i ∈ Region.ready .any l.toArray listed) :
    wpOp P l.toArray Q i (λa' w'=>∃p' H',GInv l n Wd ss fl Ft qb L0 rows (listed.setIfInBounds i true) p' H' a' w') a w:=by
  obtain⟨ar,au⟩:=dK hr;have E:i<l.length:=by simpa using ar
  have q : listed.getD i false = false := by
    have :i<listed.size:=by rw[h.size];exact E
    simpa[this]using au
  obtain⟨o,ho⟩:∃o,l[i]? =some o:=⟨_,zp E⟩;obtain⟨r,B⟩:∃r,rows[i]? =some r:=⟨_,zp (by have :=ok.len;rw[z7]at this;rw[this];exact E)⟩;obtain⟨O,ag,ak,ao⟩:=ok.row i o r.sh ho (by rw[Ai,B];rfl);have S : cv p r.ph = true := by
    rcases ao p h.ple with h'|⟨k,s,hk,h'|h'⟩
    · exact h'
    · obtain ⟨ad, h'⟩ := h'
      have hs:=(h.phase k s hk).2 ad;rcases h' with h'|h'
      · have :=h.ahead h' hs;rw[q]at this;simp at this
      · rw[h',q]at hs;simp at hs
    · obtain ⟨ad, h'⟩ := h'
      have hs:=(h.phase k s hk).1 (dX h hr h');omega
  obtain⟨aa,V⟩:=hobs.at i o r ho B;rw[Aj]at V;have ah:=V p S;have an : p <= qb -> ∀ j, j ∈ r.hs -> j ≠ i -> cv j fl = true -> Ft j (H j) w := by
    intro hp j hj g hm;refine h.fact hp j hm ?_;rcases okh i r B j hj with e|ha
    · exact absurd e g
    · exact dX h hr ha
  have J:∀u∈r.us,listed.getD u.1 false=true:=λu hu=>dX h hr (O u hu).1;have C : ∀ u ∈ r.us, ∀ r', rows[u.1]? = some r' -> a.tmps.getD u.2 undef = r'.out H := by intro u hu r' R;obtain⟨ha,o',I,N⟩:=O u hu;exact h.done u.1 o' r' u.2 I R (J u hu) N
  have hF : Frm a n (r.fr rows H) := by
    refine⟨h.frame,h.defers,λt v hv=> ?_⟩;have hm:=mc hv;simp only[HRow.fr,zr,Av,Prod.mk.injEq]at hm;rcases hm with⟨u,hu,rfl,rfl⟩|hm
    · obtain ⟨_, o', I, _⟩ := O u hu
      obtain ⟨r', R⟩ : ∃ r', rows[u.1]? = some r' := by
        refine⟨_,zp ?_⟩;have :=ok.len;rw[z7]at this;rw[this];rcases zF u.1 l.length with h'|h'
        · exact h'
        · simp [zz h']at I
      simp only[R,zW,zT];exact C u hu r' R
    · refine h.rest t v (ig aa _ hm) λj o' hj hd => ?_
      rcases ag _ hm j o' hj hd with rfl|ha
      · exact q
      · cases f : listed.getD j false with
        |false=>rfl
        | true =>
          have :=h.ahead ha f;rw[q]at this;simp at this
  have aj:i<listed.size:=by rw[h.size];exact E
  have m:∀j,(listed.setIfInBounds i true).getD j false=if j=i then true else listed.getD j false:=λj=>fC aj
  -- the phase behind
  have D : (bif cv i ss then p + 1 else p) <= ss.length /\ ∀ k s, ss[k]? = some s -> ((listed.setIfInBounds i true).getD s false = true ↔ k < (bif cv i ss then p + 1 else p)) := by
    have af : ∀ k k' : Nat, ss[k]? = some i -> ss[k']? = some i -> k = k' := by
      intro k k' hk ab;rcases Ax k k' with z|he|hgt
      · have :=dX h hr (ok.chain k k' i i hk ab z);rw[q]at this;simp at this
      · exact he
      · have :=dX h hr (ok.chain k' k i i ab hk hgt);rw[q]at this;simp at this
    cases hmem:cv i ss with
    | false =>
      simp only[cond_false];refine⟨h.ple,λk s hk=> ?_⟩;have A : s ≠ i := λe => by
        have :i∈ss:=by subst e;exact zC hk
        rw[memN_iff.2 this]at hmem;simp at hmem
      rw[m,zK A];exact h.phase k s hk
    | true =>
      simp only[cond_true];obtain⟨k0,K⟩:=An.1 (memN_iff.1 hmem);have hk0l : k0 < ss.length := by
        rcases zF k0 ss.length with h'|h'
        · exact h'
        · simp [zz h']at K
      have h1 : ¬ k0 < p := λz => by have :=(h.phase k0 i K).2 z;rw[q]at this;simp at this
      have h2 : ∀ k, k < k0 -> k < p := by intro k hk;obtain⟨s,hs⟩:∃s,ss[k]? =some s:=⟨_,zp (by omega)⟩;exact(h.phase k s hs).1 (dX h hr (ok.chain k k0 s i hs K hk))
      have hpk : p = k0 := by
        have :=h.ple;rcases Ax p k0 with z|he|hgt
        · have :=h2 p z;omega
        · exact he
        · omega
      refine⟨by omega,λk s hk=> ?_⟩;rw[m];by_cases hsi:s=i
      · subst hsi
        have :=af k k0 hk K;rw[zX rfl];simp;omega
      · rw [zK hsi, h.phase k s hk]
        have A:k≠k0:=λe=>by subst e;rw[K]at hk;exact hsi (by simpa using hk.symm)
        omega
  have W : ∀ (j : Nat) (r' : HRow), rows[j]? = some r' -> listed.getD j false = true -> ∀ v, r'.out (bif (cv i ss || cv i fl) then d9 H i v else H) = r'.out H := by
    intro j r' y f v;refine r'.dep _ _ λjj al=> ?_;have z : listed.getD jj false = true := by
      rcases okh j r' y jj al with rfl|ha
      · exact f
      · exact h.ahead ha f
    cases(cv i ss||cv i fl)with
    |false=>rfl
    |true=>exact eL λe=>by rw[e,q]at z;simp at z
  have U : ∀ v w', R2 Wd ss fl Ft G qb r i p H w v w' -> ∃ p' H', GInv l n Wd ss fl Ft qb L0 rows (listed.setIfInBounds i true) p' H' (a.put o.dst v) w' := by
    intro v w' hR;obtain⟨X,hv,hg,am⟩:=hR;refine⟨_,(bif (cv i ss||cv i fl)then d9 H i v else H),by simp [h.size],?_,D.1,D.2,?_,?_,X,?_,?_,?_⟩
    · intro j o' hj f e he hb
      rw[m]at f⊢;split
      · rfl
      · split at f
        · rename_i g
          subst g;rw[ho]at hj;cases hj;exact dS ho hr e he hb
        · exact h.closed j o' hj f e he hb
    · cases hd:o.dst<;>simp [Act.put,h.frame]
    · cases hd:o.dst<;>simp [Act.put,h.defers]
    · intro hp j hm f
      rw[m]at f;by_cases g:j=i
      · subst g
        rw[hm,Bool.or_true];simp only[cond_true,f_];exact am hm hp
      · rw [zK g] at f
        have ap : p <= qb := by cases hm2:cv i ss<;>rw[hm2]at hp<;>simp at hp<;>omega
        have h1:=st j _ _ _ (h.fact ap j hm f) (hg hp);cases(cv i ss||cv i fl)with
        |false=>exact h1
        |true=>simp only[cond_true];rw[eL g];exact h1
    · intro j o' r' d hj y f hd
      rw[m]at f;by_cases g:j=i
      · subst g
        rw[ho]at hj;cases hj;rw[B]at y;cases y;have Y:=ok.slot _ _ _ ho hd;rw[<-hv];simp only[hd,Act.put];simp [h.frame,Y]
      · rw [zK g] at f
        have M:=h.done j o' r' d hj y f hd;have A:o.dst≠some d:=λe=>ok.once i j o o' ho hj (λx=>g x.symm) (by rw[e];simp) (by rw[e,hd]);have : (a.put o.dst v).tmps.getD d undef = a.tmps.getD d undef := by
          cases hod:o.dst with
          |none=>rfl
          | some d' =>
            have :d'≠d:=λe=>A (by rw[hod,e]);simp [Act.put,zJ this]
        rw[this,W j r' y f v];exact M
    · intro s u hs L
      have A : o.dst ≠ some s := λe => by have :=L i o ho e;rw[m,zX rfl]at this;simp at this
      have : (a.put o.dst v).tmps.getD s undef = a.tmps.getD s undef := by
        cases hod:o.dst with
        |none=>rfl
        | some d' =>
          have :d'≠s:=λe=>A (by rw[hod,e]);simp [Act.put,zJ this]
      rw[this];refine h.rest s u hs λj o' hj hd=> ?_;have :=L j o' hj hd;rw[m]at this;split at this
      · simp at this
      · exact this
  have F:=ah H w h.wd an;unfold wpOp;simp only[zQ,ho];cases hgu:o.guard with
  | none =>
    rw[hgu]at F;rw[zX (by simp [Region.wanted,hgu])];exact .inl (F a _ Q hF λv w' hR=>U v w' hR)
  | some jb =>
    obtain⟨j,b⟩:=jb;rw[hgu]at F;obtain⟨c,rj,y,ae,hx⟩:=F;obtain⟨u,hu,Z⟩:=ak j b hgu;obtain⟨ha,o',I,N⟩:=O u hu;have ac : vb (a.tmps.getD u.2 undef) = c := by have :=C u hu rj (by rw[Z];exact y);rw[this];exact ae
    have hy : yielded l.toArray a.tmps j = c := by
      subst Z;have z:=ok.slot _ _ _ I N;have T:u.2<a.tmps.size:=by rw[h.frame];exact z
      have aq : a.tmps[u.2]? = some (a.tmps.getD u.2 undef) := by rw[Aw T];simp [T]
      rw[<-ac];simp only[yielded,zQ,I,AF,N,aq];generalize a.tmps.getD u.2 undef=x;cases x<;>rfl
    by_cases hcb:c=some b
    · subst hcb
      simp only[if_true]at hx;rw[zX (by simp [Region.wanted,hgu,hy])];exact .inl (hx a _ Q hF λv w' hR=>U v w' hR)
    · rw [zK hcb] at hx
      rw[zK (by simp [Region.wanted,hgu,hy,hcb])];have X:Wd (bif cv i ss then p+1 else p) H w:=by rw[hx.1];exact h.wd
      have ai:(bif cv i ss then p+1 else p)=p:=by rw[hx.1];rfl
      -- nothing happens: the old facts stand as they stood
      refine⟨_,H,by simp [h.size],?_,D.1,D.2,?_,?_,X,?_,?_,?_⟩
      · intro j o' hj f e he hb
        rw[m]at f⊢;split
        · rfl
        · split at f
          · rename_i g
            subst g;rw[ho]at hj;cases hj;exact dS ho hr e he hb
          · exact h.closed j o' hj f e he hb
      · cases hd:o.dst<;>simp [Act.put,h.frame]
      · cases hd:o.dst<;>simp [Act.put,h.defers]
      · intro hp j hm f
        rw[m]at f;by_cases g:j=i
        · subst g;rw[hx.2.1]at hm;simp at hm
        · rw [zK g] at f
          exact h.fact (by rw[ai]at hp;exact hp) j hm f
      · intro j o' r' d hj y f hd
        rw[m]at f;by_cases g:j=i
        · subst g
          rw[ho]at hj;cases hj;rw[B]at y;cases y;have Y:=ok.slot _ _ _ ho hd;rw[<-hx.2.2];simp only[hd,Act.put];simp [h.frame,Y]
        · rw [zK g] at f
          have M:=h.done j o' r' d hj y f hd;have A:o.dst≠some d:=λe=>ok.once i j o o' ho hj (λx=>g x.symm) (by rw[e];simp) (by rw[e,hd]);have : (a.put o.dst undef).tmps.getD d undef = a.tmps.getD d undef := by
            cases hod:o.dst with
            |none=>rfl
            | some d' =>
              have :d'≠d:=λe=>A (by rw[hod,e]);simp [Act.put,zJ this]
          rw[this];exact M
      · intro s u hs L
        have A : o.dst ≠ some s := λe => by have :=L i o ho e;rw[m,zX rfl]at this;simp at this
        have : (a.put o.dst undef).tmps.getD s undef = a.tmps.getD s undef := by
          cases hod:o.dst with
          |none=>rfl
          | some d' =>
            have :d'≠s:=λe=>A (by rw[hod,e]);simp [Act.put,zJ this]
        rw[this];refine h.rest s u hs λj o' hj hd=> ?_;have :=L j o' hj hd;rw[m]at this;split at this
        · simp at this
        · exact this
structure GDone (l : List Oper) (n : Nat) (Wd : Nat -> (Nat -> Value) -> World -> Prop) (ss : List Nat) (L0 : List (Nat × Value)) (rows : List HRow) (H : Nat -> Value) (a : Act) (w : World) : Prop where
  frame:a.tmps.size=n
  defers:a.defers=[]
  wd:Wd ss.length H w
  done:∀(i:Nat) (o:Oper) (r:HRow) (d:Nat),l[i]? =some o->rows[i]? =some r->o.dst=some d->a.tmps.getD d undef=r.out H
  rest:∀s v,lk L0 s=some v->(∀(i:Nat) (o:Oper),l[i]? =some o->o.dst≠some s)->a.tmps.getD s undef=v
theorem oj (ok : OkAll n ss l (rows.map HRow.sh)) (okh : ∀ (i : Nat) (r : HRow), rows[i]? = some r -> ∀ j, j ∈ r.hs -> j = i \/ dw l i j) (st : ∀ j v w w', Ft j v w -> G w w' -> Ft j v w') (hobs : GObs P n Wd ss fl Ft G qb L0 rows 0 l rows)
    (hend:∀H a w,GDone l n Wd ss L0 rows H a w->Q .normal a w):
    ∀(fuel:Nat) (listed:Array Bool) (p:Nat) (H:Nat->Value) (a:Act) (w:World),GInv l n Wd ss fl Ft qb L0 rows listed p H a w->left l.length listed<=fuel->wpAny P .any l.toArray Q fuel listed a w:=by
  have c : ∀ (listed : Array Bool) (p : Nat) (H : Nat -> Value) (a : Act) (w : World), GInv l n Wd ss fl Ft qb L0 rows listed p H a w -> (∀ i, i < l.length -> listed.getD i false = true) -> Q .normal a w := by
    intro listed p H a w h f;have hp : p = ss.length := by
      rcases zF p ss.length with q|hge
      · obtain ⟨s, hs⟩ : ∃ s, ss[p]? = some s := ⟨_, zp q⟩
        have :=(h.phase p s hs).1 (f s (ok.inn p s hs));omega
      · have :=h.ple;omega
    subst hp;refine hend H a w ⟨h.frame,h.defers,h.wd,λi o r d ho hr hd=> ?_,λs v hs B=> ?_⟩
    · refine h.done i o r d ho hr (f i ?_) hd
      rcases zF i l.length with h'|h'
      · exact h'
      · simp [zz h']at ho
    · exact h.rest s v hs λi o ho hd=>absurd hd (B i o ho)
  have t : ∀ (listed : Array Bool) (p : Nat) (H : Nat -> Value) (a : Act) (w : World), GInv l n Wd ss fl Ft qb L0 rows listed p H a w -> Region.ready .any l.toArray listed = [] -> ∀ i, i < l.length -> listed.getD i false = true := by
    intro listed p H a w h m i0 u;have : ∀ k i, i <= k -> i < l.length -> listed.getD i false = false -> False := by
      intro k
      induction k with
      | zero =>
        intro i C g x;have u:i=0:=by omega
        subst u;have ho:l[0]? =some l[0]:=zp g;have b : 0 ∈ Region.ready .any l.toArray listed := by
          simp only[Region.ready,z_,Ap,zD];refine⟨by simpa using g,?_,?_⟩
          · have : 0 < listed.size := by rw [h.size]; exact g
            simpa[this]using x
          · simp only [zQ, ho, zW, zT, Af]
            intro e he;cases hbd:Region.binds .any e with
            |false=>simp
            |true=>have :=ok.back 0 _ ho e (by simpa using he) hbd;omega
        rw[m]at b;simp at b
      | succ k ihk =>
        intro i C g x;by_cases hlow:∃j,j<i/\listed.getD j false=false
        · obtain ⟨j, hj, D⟩ := hlow
          exact ihk j (by omega) (by omega) D
        · have ho : l[i]? = some l[i] := zp g
          have b : i ∈ Region.ready .any l.toArray listed := by
            simp only[Region.ready,z_,Ap,zD];refine⟨by simpa using g,?_,?_⟩
            · have : i < listed.size := by rw [h.size]; exact g
              simpa[this]using x
            · simp only [zQ, ho, zW, zT, Af]
              intro e he;cases hbd:Region.binds .any e with
              |false=>simp
              | true =>
                have q:=ok.back i _ ho e (by simpa using he) hbd;cases hb:listed.getD e.on false with
                |true=>simp
                |false=>exact absurd ⟨e.on,q,hb⟩ hlow
          rw[m]at b;simp at b
    cases hb:listed.getD i0 false with
    |true=>rfl
    |false=>exact(this i0 i0 (zH _) u hb).elim
  intro fuel
  induction fuel with
  | zero =>
    intro listed p H a w h hf;have f : ∀ i, i < l.length -> listed.getD i false = true := by
      intro i hi;have h0:left l.length listed=0:=by omega
      unfold left at h0;rw[AW]at h0;simpa using h0 i (by simpa using hi)
    refine⟨?_,c listed p H a w h f⟩;unfold Region.ready;rw[AN];intro i hi;have z:i<l.length:=by simpa using hi
    have h1:=f i z;have h2:i<listed.size:=by rw[h.size];exact z
    have h3:listed.getD i true=true:=by simpa[h2]using h1
    rw[h3];simp
  | succ fuel ih =>
    intro listed p H a w h hf;refine⟨λm=>c listed p H a w h (t listed p H a w h m),λi hi=> ?_⟩;refine wpOp_mono (λa' w' h'=> ?_) (oi (Q:=Q) ok okh st hobs h hi);obtain⟨p',H',h'⟩:=h';refine ih _ p' H' a' w' h' ?_;have q:i<l.length:=by simpa using(dK hi).1
    have y:i<listed.size:=by rw[h.size];exact q
    have A : listed.getD i false = false := by have :=(dK hi).2;simpa[y]using this
    have :=iB y q A;omega
theorem GDone.frm (ok : OkAll n ss l (rows.map HRow.sh)) (h : GDone l n Wd ss L0 rows H a w) : Frm a n (g8 H l rows ++ L0) := by
  refine⟨h.frame,h.defers,λt v ht=> ?_⟩;rw[iU]at ht;cases ho:lk (g8 H l rows) t with
  | some u =>
    rw[ho]at ht;simp at ht;subst ht;obtain⟨i,o,r,h1,h2,h3,h4⟩:=jM ho;rw[h4];exact h.done i o r t h1 h2 h3
  | none =>
    rw[ho]at ht;refine h.rest t v ht λi o hio=> ?_;have hi : i < l.length := by
      rcases zF i l.length with h'|h'
      · exact h'
      · simp [zz h']at hio
    exact gh ho i o (by have :=ok.len;rw[z7]at this;rw[this];exact hi) hio
section
variable {P:Program} {n:Nat} {Wd:Nat->(Nat->Value)->World->Prop} {ss fl:List Nat} {Ft:Nat->Value->World->Prop} {G:World->World->Prop} {qb:Nat} {L0:List (Nat×Value)} {rows:List HRow} {i p:Nat} {o:Oper} {r rj:HRow} {H:Nat->Value} {w w':World} {v:Value}
theorem R2.eff (h : cv i ss = true) (hW : Wd (p + 1) (d9 H i v) w') (hv : v = r.out (d9 H i v)) (hg : p + 1 <= qb -> G w w') (hf : cv i fl = false) : R2 Wd ss fl Ft G qb r i p H w v w' := by
  refine⟨?_,?_,?_,?_⟩<;>rw[h]
  · exact hW
  · exact hv
  · exact hg
  · rw[hf];simp
theorem R2.flo (h : cv i ss = false) (hf : cv i fl = true) (hW : Wd p (d9 H i v) w') (hv : v = r.out (d9 H i v)) (hg : G w w') (hft : Ft i v w') : R2 Wd ss fl Ft G qb r i p H w v w' := by
  refine⟨?_,?_,?_,?_⟩<;>rw[h]
  · rw[hf];exact hW
  · rw[hf];exact hv
  · exact λ_=>hg
  · exact λ_ _=>hft
theorem Det.og (hr : ∀ w, G w w) (h : cv i ss = false) (hf : cv i fl = false) (hW : Wd p H w) (hd : Det P o n (r.fr rows H) w (r.out H) w) : Ok1 P o n (r.fr rows H) w (R2 Wd ss fl Ft G qb r i p H w) :=
  hd.mono λ_ _ ⟨h1, h2⟩ => by
    subst h1;subst h2;refine⟨?_,?_,?_,?_⟩<;>rw[h]
    · rw[hf];exact hW
    · rw[hf];rfl
    · exact λ_=>hr _
    · rw[hf];simp
theorem GOb.pure (hr0 : ∀ w, G w w) (hz : fV L0 r.zs) (hg : o.guard = none) (hm : cv i ss = false) (hf : cv i fl = false) (h : ∀ H w, Det P o n (r.fr rows H) w (r.out H) w) : GOb P n Wd ss fl Ft G qb L0 rows i o r :=
  ⟨hz,λp _ H w hW _=>by simp only[hg];exact Det.og hr0 hm hf hW (h H w)⟩
theorem GOb.skip {j : Nat} {b : Bool} {c : Option Bool} (hz : fV L0 r.zs) (hg : o.guard = some (j, b)) (hr : rows[j]? = some rj) (hv : ∀ H, vb (rj.out H) = c) (hc : c ≠ some b) (hm : cv i ss = false) (hf : cv i fl = false) (h : ∀ H, undef = r.out H) : GOb P n Wd ss fl Ft G qb L0 rows i o r :=
  ⟨hz,λp _ H w hW _=>by simp only[hg];exact⟨c,rj,hr,hv H,by rw[zK hc];exact⟨hm,hf,h H⟩⟩⟩
theorem GOb.fact (hr0 : ∀ w, G w w) {A F : (Nat -> Value) -> World -> Prop} {p0 : Nat} (hA : A = F) (hz : fV L0 r.zs) (hp : r.ph = [p0]) (hw : Wd p0 = A) (hg : o.guard = none) (hm : cv i ss = false) (hf : cv i fl = false) (h : ∀ H w, F H w -> Det P o n (r.fr rows H) w (r.out H) w) : GOb P n Wd ss fl Ft G qb L0 rows i o r :=
  ⟨hz, λp hp' H w hW _ => by
    rw[hp]at hp';obtain rfl:=ce hp';have hW':F H w:=by rw[<-hA,<-hw];exact hW
    simp only[hg];exact Det.og hr0 hm hf hW (h H w hW')⟩
end
end Go.Mi
namespace Go.Mi
open Go.RowKit
abbrev vP (b o:Nat):Value:= .pointer (some ⟨b,o,none⟩)
abbrev vp (b:Nat):Value:= .pointer (some ⟨b,0,none⟩)
abbrev vI (n:Int):Value:= .int .i64 n
abbrev vB (b:Bool):Value:= .bool b
abbrev vt:Value:= .bool true
abbrev vf:Value:= .bool false
abbrev vS (b o l c:Nat):Value:= .slice (some ⟨b,o,none⟩) l c
abbrev vN:Value:= .slice none 0 0
structure Ch (Y : List Nat) (w w' : World) : Prop where
  os:w'.os=w.os
  tape:w'.tape=w.tape
  output:w'.output=w.output
  size:w.heap.size<=w'.heap.size
  blk:∀b,b<w.heap.size->b∉Y->w'.heap[b]? =w.heap[b]?
theorem Ch.lt {Y:List Nat} {w w':World} {b:Nat} (k:Ch Y w w') (h:b<w.heap.size):b<w'.heap.size:=zE h k.size
theorem Ch.refl (Y:List Nat) (w:World):Ch Y w w:=⟨rfl,rfl,rfl,zH _,λ_ _ _=>rfl⟩
theorem Ch.trans {Y : List Nat} {a b c : World} (h : Ch Y a b) (k : Ch Y b c) : Ch Y a c :=
  ⟨k.os.trans h.os,k.tape.trans h.tape,k.output.trans h.output,zy h.size k.size,λi hi hn=>(k.blk i (zE hi h.size) hn).trans (h.blk i hi hn)⟩
theorem Ch.mono {Y Y' : List Nat} {a b : World} (h : Ch Y a b) (hs : ∀ y, y ∈ Y -> y ∈ Y') : Ch Y' a b :=
  ⟨h.os,h.tape,h.output,h.size,λi hi hn=>h.blk i hi λhm=>hn (hs i hm)⟩
theorem Ch.drop {Y Y' : List Nat} {a b : World} (h : Ch Y a b) (hs : ∀ y, y ∈ Y -> y ∈ Y' \/ a.heap.size <= y) : Ch Y' a b :=
  ⟨h.os,h.tape,h.output,h.size,λi hi hn=>h.blk i hi λhm=>by rcases hs i hm with h|h;exact hn h;omega⟩
theorem Gr.ch {w w':World} (h:Gr w w'):Ch [] w w':=⟨h.os,h.tape,h.output,h.size,λb hb _=>h.block b hb⟩
theorem Ch.gr {w w':World} (h:Ch [] w w'):Gr w w':=⟨h.os,h.tape,h.output,h.size,λb hb=>h.blk b hb (by simp)⟩
theorem Ch.below {Y : List Nat} {n : Nat} {w w' : World} (h : Ch Y w w') (hn : n <= w.heap.size) (hy : ∀ y, y ∈ Y -> n <= y) : Below n w w' :=
  ⟨h.os,h.tape,h.output,h.size,λb hb=>h.blk b (by omega) λhm=>by have :=hy b hm;omega⟩
theorem NewB.ch {w w' : World} {b : Nat} {c : Array Value} {t : TypeId} (h : NewB w w' b c t) : Ch [] w w' := by obtain⟨rfl,rfl⟩:=h;exact Gr.ch ((Below.refl w.heap.size w).alloc (zH _) _)
theorem Upd.ch {w w' : World} {b : Nat} {c : Array Value} {t : TypeId} (h : Upd w w' b c t) : Ch [b] w w' :=
  ⟨h.os,h.tape,h.output,by rw[h.size];exact zH _,λk _ hn=>h.other k (by simpa using hn)⟩
def At (w:World) (b o:Nat) (vs:List Value):Prop:=∀i u,vs[i]? =some u->w.cell? ⟨b,o+i,none⟩=some u
theorem At.mv {w w' : World} {Y : List Nat} {b o : Nat} {vs : List Value} (h : At w b o vs) (k : Ch Y w w') (hb : b ∉ Y) : At w' b o vs := λi u hu => by have h1:=h i u hu;have h2:=World.block_lt_of_cell? w _ h1;have h3:=k.blk b h2 hb;simpa[World.cell?,h3]using h1
theorem At.of_blk {w : World} {b : Nat} {c : Array Value} {t : TypeId} {f : Nat × Nat} (h : w.heap[b]? = some (.cells c t f)) : At w b 0 c.toList := λi u hu => by rw[cG h,Aj];simpa using hu
theorem At.app {w : World} {b o : Nat} {xs ys : List Value} : At w b o (xs ++ ys) ↔ At w b o xs /\ At w b (o + xs.length) ys := by
  constructor
  · intro h
    refine⟨λi u hu=>h i u ?_,λi u hu=> ?_⟩
    · have hl : i < xs.length := by
        rcases zF i xs.length with h'|h'
        · exact h'
        · simp [zz h']at hu
      rw[zL hl];exact hu
    · have := h (xs.length + i) u (by rw [zM (by omega), AC]; exact hu)
      rwa [<-Nat.add_assoc]at this
  · rintro ⟨h1, h2⟩ i u hu
    rcases zF i xs.length with h'|h'
    · rw[zL h']at hu;exact h1 i u hu
    · rw [zM h'] at hu
      have :=h2 (i-xs.length) u hu
      rwa [show o+xs.length+(i-xs.length)=o+i by omega]at this
theorem At.lt {w:World} {b o:Nat} {v:Value} {vs:List Value} (h:At w b o (v::vs)):b<w.heap.size:=World.block_lt_of_cell? w _ (h 0 v rfl)
section
variable {P:Program} {n:Nat} {L:List (Nat×Value)} {w:World} {ds:Option Nat} {ty:TypeId} {pos:String} {af:Array Edge} {gu:Option (Nat×Bool)}
theorem cb {x : Operand} {t : TypeId} {d : TypeDesc} {b o m : Nat} {vs : List Value} (ht : P.underlying t = some d) (hf : TypeDesc.flat d = false) (hs : (P.info? t).map (·.size) = some m) (hx : ev L x = some (.pointer (some ⟨b, o, none⟩)))
    (hb:At w b o vs) (hc:vs.length=m):Det P ⟨ds,.load t x,ty,pos,af,gu⟩ n L w (.agg vs.toArray) w:=
  Det.of_run λa hF => by
    obtain⟨inf,hi,hz⟩:=zq.1 hs;have hag : (isAgg t).run P w = .ok true w := by simp only[isAgg,Sem.run_bind,bQ ht,Result.andThen_ok];cases d<;>simp_all [TypeDesc.flat]
    have hl:=run_loadCells_list (P:=P) w ⟨b,o,none⟩ vs (λj v hj=>by rw[dz];exact hb j v hj);subst hc;simp [execOp,hF.eval hx,Instr.loadAt,Instr.sureAddr,loadVar,hag,sizeOf,typeInfo,hi,hz,hl]
theorem gG {x : Operand} {s : TypeId} {fs : Array Field} {f : Nat} {fd : Field} {b o m : Nat} (hs : P.underlying s = some (.struct fs)) (hf : fs[f]? = some fd) (hm : (P.info? fd.type).map (·.size) = some (m + 1)) (hx : ev L x = some (.pointer (some ⟨b, o, none⟩))) :
    Det P ⟨ds,.fieldAddr s x f,ty,pos,af,gu⟩ n L w (.pointer (some ⟨b,o+fd.offset,none⟩)) w:=
  Det.of_run λa hF => by obtain⟨inf,hi,hz⟩:=zq.1 hm;simp [execOp,hF.eval hx,Instr.fieldAt,Instr.sureAddr,bQ hs,hf,fieldPlace,sizeOf,typeInfo,hi,hz,dz]
theorem dU {x y : Operand} {k : IntKind} {T e : TypeId} {len cap b o m : Nat} {i : Int} {j : Nat} (hT : P.underlying T = some (.slice e)) (hs : (P.info? e).map (·.size) = some m) (hx : ev L x = some (.slice (some ⟨b, o, none⟩) len cap)) (hy : ev L y = some (.int k i))
    (hj:i=j) (h1:j<len):Det P ⟨ds,.indexAddr T x y,ty,pos,af,gu⟩ n L w (.pointer (some ⟨b,o+j*m,none⟩)) w:=
  Det.of_run λa hF => by subst hj;obtain⟨inf,hi,hz⟩:=zq.1 hs;simp [execOp,hF.eval hx,hF.eval hy,Instr.indexAt,asIntOf,bQ hT,sizeOf,typeInfo,hi,hz,dz,h1]
theorem nU {w : World} {b : Nat} {c : Array Value} {t : TypeId} (h : w.heap[b]? = some (.cells c t (0, 0))) (c' : Array Value) : Upd w (w.setRow b c') b c' t :=
  ⟨rfl,rfl,rfl,by simp [World.setRow],setRow_heap w b c c' t _ h,λk hk=>setRow_other w b k c' hk⟩
def put (c:Array Value) (o:Nat) (vs:List Value):Array Value:=(c.toList.take o++vs++c.toList.drop (o+vs.length)).toArray
theorem fZ {x y : Operand} {t T : TypeId} {b o m : Nat} {c : Array Value} {u : Value} (hs : (P.info? t).map (·.size) = some m) (hx : ev L x = some (.pointer (some ⟨b, o, none⟩))) (hy : ev L y = some u) (hc' : u.cells.size = m) (hv : ∀ v ∈ u.cells.toList, v.oneCell' = true)
    (hb:w.heap[b]? =some (.cells c T (0,0))) (hc:o+m<=c.size):Ok1 P ⟨ds,.store t x y,ty,pos,af,gu⟩ n L w λ_ w'=>Upd w w' b (put c o u.cells.toList) T:=by
  obtain⟨inf,hi,hz⟩:=zq.1 hs;have h1:=run_storeCells_at (P:=P) b o T u.cells.toList 0 c w hb (by simp;omega) hv;have hd : Det P ⟨ds, .store t x y, ty, pos, af, gu⟩ n L w undef (w.setRow b (put c o u.cells.toList)) := Det.of_skip λa hF => by simp only[Nat.add_zero]at h1;simp [execOp,hF.eval hx,hF.eval hy,Instr.storeAt,Instr.sureAddr,storeVar,sizeOf,typeInfo,hi,hz,hc',put,h1]
  refine hd.mono λv' w'' ⟨_,hw⟩=> ?_;subst hw;exact nU hb _
abbrev Own (w:World) (base:Nat) (e:TypeId) (m:Nat) (v:Value) (n:Nat) (xs:List Value):Prop:=w.ownsRow base e m v n xs
def bC : Value -> List Nat
  | .slice (some a) _ _=>[a.block]
  |_=>[]
theorem Own.mv {w w' : World} {Y : List Nat} {base m n : Nat} {e : TypeId} {v : Value} {xs : List Value} (h : Own w base e m v n xs) (k : Ch Y w w') (hy : ∀ b, b ∈ bC v -> b ∉ Y) : Own w' base e m v n xs := by
  refine⟨h.1,?_⟩;rcases h.2 with h2|⟨g,cap,cur,rfl,hg,hb,h3⟩
  · exact .inl h2
  · have hlt : g < w.heap.size := by
      rcases zF g w.heap.size with h'|h'
      · exact h'
      · simp [zY h']at hb
    exact .inr ⟨g,cap,cur,rfl,hg,by rw[k.blk g hlt (hy g (by simp [bC]))];exact hb,h3⟩
theorem Own.lt {w : World} {base m n : Nat} {e : TypeId} {v : Value} {xs : List Value} (h : Own w base e m v n xs) : ∀ b, b ∈ bC v -> base <= b /\ b < w.heap.size := by
  intro b hb;rcases h.2 with⟨rfl,_⟩|⟨g,cap,cur,rfl,hg,hk,h3⟩
  · simp [bC]at hb
  · simp only [bC, zt] at hb
    subst hb;refine⟨hg,?_⟩;rcases zF b w.heap.size with h'|h'
    · exact h'
    · rw[zY h']at hk;cases hk
theorem Own.at {w : World} {base m n : Nat} {e : TypeId} {v : Value} {xs : List Value} (h : Own w base e m v n xs) : (v = .slice none 0 0 /\ n = 0 /\ xs = []) \/ ∃ b cap, v = .slice (some ⟨b, 0, none⟩) n cap /\ n <= cap /\ At w b 0 xs := by
  rcases h.2 with⟨rfl,rfl⟩|⟨g,cap,cur,rfl,hg,hk,h3,h4,h5,h6⟩
  · exact .inl ⟨rfl,rfl,zR (by simpa using h.1)⟩
  · refine .inr ⟨g, cap, rfl, h3, λi u hu => ?_⟩
    rw[cG hk,Aj,<-AR];rw[<-h6,List.getElem?_take]at hu;split at hu
    · exact hu
    · simp at hu
theorem lf {s x : Operand} {t e : TypeId} {i : TypeInfo} {z : Value} {base m bytes n' k c b o : Nat} {v : Value} {xs news : List Value} (ht : P.underlying t = some (.slice e)) (hi : P.info? e = some i) (hz : i.zero = some z)
    (hm:i.size=m) (hy:i.bytes=bytes) (hzs:z.cells.size=m) (hm0:0<m) (hs:ev L s=some v) (hx:ev L x=some (.slice (some ⟨b,o,none⟩) k c)) (hown:Own w base e m v n' xs)
    (hl:news.length=k*m) (hn:At w b o news) (h1:∀u∈news,u.oneCell'=true) (h63:n'+k<=maxLen) (hby:(n'+k)*bytes<=140737488355328) (hbase:base<=w.heap.size):
    Ok1 P ⟨ds,.call ⟨.builtin .append,#[s,x],#[t,t]⟩,ty,pos,af,gu⟩ n L w λv' w'=>Own w' base e m v' (n'+k) (xs++news)/\Ch (bC v) w w'/\(bC v'=bC v\/bC v'=[w.heap.size]):=by
  obtain⟨v',w',hr,h2,h3,_,h5⟩:=run_append_own_at (P:=P) w base t ty e i z m bytes ht hi hz hm hy hzs hm0 v n' xs hown ⟨b,o,none⟩ k c news hl (λj u hu=>by rw[dz];exact hn j u hu) h1 h63 hby hbase;have hd : Det P ⟨ds, .call ⟨.builtin .append, #[s, x], #[t, t]⟩, ty, pos, af, gu⟩ n L w v' w' := Det.of_run λa hF => by simp [execOp,hF.eval hs,hF.eval hx,resolve,invoke,builtin,hr]
  refine hd.mono λd w'' ⟨ha,hb⟩=> ?_;subst ha;subst hb;have ob : ∀ u : Value, ∀ g, u.ownBlock = some g ↔ bC u = [g] := by
    intro u g;cases u with
    |slice a _ _=>cases a<;>simp [Value.ownBlock,bC]
    |_=>simp [Value.ownBlock,bC]
  have f : ∀ u : Value, u.ownBlock = none ↔ bC u = [] := by
    intro u;cases u with
    |slice a _ _=>cases a<;>simp [Value.ownBlock,bC]
    |_=>simp [Value.ownBlock,bC]
  refine⟨h2,⟨h3.os,h3.tape,h3.output,h3.size,λg hg hn=>h3.block g hg λhe=>hn ?_⟩,?_⟩
  · rw[(ob v g).1 he.symm];simp
  · rcases h5 with h5 | h5
    · left
      cases hv:v.ownBlock with
      |none=>rw[(f v).1 hv,(f d).1 (h5.trans hv)]
      |some g=>rw[(ob v g).1 hv,(ob d g).1 (h5.trans hv)]
    · right;exact(ob d _).1 h5
end
end Go.Mi
namespace Go.Mi.Term
inductive Tm where
  |mk (kind name:Int) (kids:List Tm)
def Tm.kind:Tm->Int| .mk k _ _=>k
def Tm.name:Tm->Int| .mk _ n _=>n
def Tm.kids:Tm->List Tm| .mk _ _ ks=>ks
abbrev Tx:=List UInt8
mutual
def cnt : Tm -> Nat -> Nat
  | .mk _ _ ks,n=>eZ ks (n+1)
def eZ : List Tm -> Nat -> Nat
  |[],n=>n
  |k::ks,n=>if 5000<n then n else eZ ks (cnt k n)
end
mutual
theorem sF : (t : Tm) -> (n : Nat) -> cnt t n <= max (n + 1) 5001
  | .mk _ _ ks,n=>by simp only[cnt];have :=pE ks (n+1);omega
theorem pE : (ks : List Tm) -> (n : Nat) -> eZ ks n <= max n 5001
  |[],n=>by simp only[eZ];omega
  | k :: ks, n => by
    simp only[eZ];split
    · omega
    · have h1 := sF k n
      have h2:=pE ks (cnt k n);omega
end
def size (t:Tm):Nat:=min (cnt t 0) 5001
def low (k:Int):Nat:=if k=1 then 0 else if k=2\/k=6 then 1 else 2
def dZ (k:Int):Nat:=if k=1 then 0 else if k=2 then 1 else if k=6 then 8 else 2
def named (k n:Int):Bool:=decide (1<=k/\k<=9)&&(!decide (k=1)||decide (0<=n/\n<=1073741824))
mutual
def cy : Tm -> Nat -> Bool
  | .mk k n ks,d=>named k n&&decide (d<100/\low k<=ks.length/\ks.length<=dZ k)&&cA ks (d+1)
def cA : List Tm -> Nat -> Bool
  |[],_=>true
  |k::ks,d=>cy k d&&cA ks d
end
def may (t:Tm):Bool:=decide (size t<=5000)&&cy t 0
def dB (k : Int) : Tx :=
  if k=1 then[110]else if k=2 then[112,117,98]else if k=3 then[100,104]else if k=4 then[107,101,109]else if k=5 then[99,116]else
  if k=6 then[104]else if k=7 then[101,110,99]else if k=8 then[115,105,103]else if k=9 then[112,97,105,114]else[]
def eb : Tx -> Tx -> Bool
  |_,[]=>false
  |[],_::_=>true
  |a::x,b::y=>a<b||(a==b&&eb x y)
def fY (k : Int) (l : List Tx) : List Tx :=
  if k = 3 then (match l with
    |a::b::r=>if eb b a then b::a::r else l
    |_=>l)else l
def wtn (k n:Int) (l:List Tx):Tx:=if k=1 then dB k++Lib.itoa n else dB k++[40]++Lib.join (fY k l) [44]++[41]
mutual
def txt : Tm -> Tx
  | .mk k n ks=>wtn k n (jY ks)
def jY : List Tm -> List Tx
  |[]=>[]
  |k::ks=>txt k::jY ks
end
theorem ia (ks : List Tm) : jY ks = ks.map txt := by
  induction ks with
  |nil=>rfl
  |cons k ks ih=>simp [jY,ih]
mutual
def nrm : Tm -> Tm
  | .mk k n ks=> .mk k (if k=1 then n else 0) (gS ks)
def gS : List Tm -> List Tm
  |[]=>[]
  |k::ks=>nrm k::gS ks
end
abbrev b_:=List (Tx×Int)
def tl : b_ -> Tx -> Int
  |[],_=>0
  |(y,v)::m,x=>if y=x then v else tl m x
def st : b_ -> Tx -> Int -> b_
  |[],x,v=>[(x,v)]
  |(y,u)::m,x,v=>if y=x then(y,v)::m else(y,u)::st m x v
structure Wd where
  dh:Bool
  kem:Bool
def bL (t:Tm):Tm:= .mk 2 0 [t]
def two (k:Int) (a b:Tm):Tm:= .mk k 0 [a,b]
def cw (W : Wd) : Tm -> List (List Tm)
  | .mk k _ ks =>
    if k=1 then[]else
    if k = 3 then (match ks with
      |a::b::_=>[[a,bL b],[b,bL a]]++(if W.dh then[[bL a,bL b]]else[])
      |_=>[])else
    if k = 4 then (match ks with
      |a::m::_=>[[m,bL a],[a,.mk 5 0 ks]]++(if W.kem then[[.mk 5 0 ks]]else[])
      |_=>[])else
    if k = 5 then (match ks with
      |a::m::_=>[[m,bL a]]
      |_=>[])else[ks]
mutual
def bl (W : Wd) (met : b_) : Nat -> List Tm -> b_ -> Option (Bool × b_)
  |0,_,_=>none
  |_+1,[],m=>some (true,m)
  | f + 1, n :: l, m =>
    let x:=txt n
    match (if tl m x = 0 then
        (let m2:=st m x 2
         if 0<tl met x then some (st m2 x 1)else
         match dg W met f (cw W n) m2 with
         |none=>none
         |some (true,m3)=>some (st m3 x 1)
         |some (false,m3)=>some m3)
      else some m)with
    |none=>none
    |some m4=>if tl m4 x=2 then some (false,m4)else bl W met f l m4
def dg (W : Wd) (met : b_) : Nat -> List (List Tm) -> b_ -> Option (Bool × b_)
  |0,_,_=>none
  |_+1,[],m=>some (false,m)
  | f + 1, l :: r, m => match bl W met f l m with
    |none=>none
    |some (true,m')=>some (true,m')
    |some (false,m')=>dg W met f r m'
end
structure Rw where
  l:List Tm
  met:b_
def Rw.add (r:Rw) (n:Tm):Rw:=if tl r.met (txt n)=0 then⟨r.l++[n],st r.met (txt n) 1⟩else r
def opn1 (W : Wd) (met : b_) (f : Nat) : Tm -> b_ -> Rw -> Option (b_ × Rw)
  | .mk k _ ks, m, r =>
    if k = 9 then (match ks with
      |a::b::_=>some (m,(r.add a).add b)
      |_=>none)else
    if k = 8 then (match ks with
      |_::b::_=>some (m,r.add b)
      |_=>none)else
    if k = 7 then (match ks with
      | a :: b :: _ => (match bl W met f [a] m with
        |none=>none
        |some (true,m')=>some (m',r.add b)
        |some (false,m')=>some (m',r))
      |_=>none)else some (m,r)
def opnL (W : Wd) (met : b_) (f : Nat) : List Tm -> b_ -> Rw -> Option (b_ × Rw)
  |[],m,r=>some (m,r)
  | t :: ts, m, r => match opn1 W met f t m r with
    |none=>none
    |some (m',r')=>opnL W met f ts m' r'
def dR (W : Wd) (f : Nat) : Nat -> Rw -> Option Rw
  |0,_=>none
  | g + 1, r => match opnL W r.met f r.l [] r with
    |none=>none
    |some (_,r')=>if r'.l.length=r.l.length then some r' else dR W f g r'
def dc : List Tm -> Rw -> Rw
  |[],r=>r
  |t::ts,r=>dc ts (if may t then r.add (nrm t)else r)
def iu (W:Wd) (f g:Nat) (known:List Tm):Option Rw:=dR W f g (dc known ⟨[],[]⟩)
def li (W : Wd) (f g : Nat) (known : List Tm) (t : Tm) : Option Bool :=
  if may t then (match iu W f g known with
    |none=>none
    |some r=>(bl W r.met f [nrm t] []).map (·.1))else some false
end Go.Mi.Term
namespace Go.Mi.Term
open Go.Mi Go.RowKit
def bs (x:Tx):ByteArray:=⟨x.toArray⟩
abbrev vT (x:Tx):Value:= .string (bs x)
def SlA (w : World) (X : List Nat) (v : Value) (n : Nat) (xs : List Value) : Prop :=
  ((v= .slice none 0 0\/∃a cap,v= .slice (some a) 0 cap)/\n=0/\xs=[])\/∃b o cap,v= .slice (some ⟨b,o,none⟩) n (n+cap)/\b∉X/\b<w.heap.size/\At w b o xs
theorem SlA.mv {w w' : World} {X X' Y : List Nat} {v : Value} {n : Nat} {xs : List Value} (h : SlA w X v n xs) (k : Ch Y w w') (hy : ∀ y, y ∈ Y -> y ∈ X) (hx : ∀ x, x ∈ X' -> x ∈ X \/ w.heap.size <= x) : SlA w' X' v n xs := by
  rcases h with h|⟨b,o,cap,rfl,hb,hl,ha⟩
  · exact .inl h
  · refine .inr ⟨b, o, cap, rfl, λhm => ?_, zE hl k.size, ha.mv k λhm => hb (hy b hm)⟩
    rcases hx b hm with h|h
    · exact hb h
    · omega
mutual
def IsT (w : World) (X : List Nat) : Tm -> List Value -> Prop
  | .mk k n ks,vs=>∃sl xs,vs=[.int .i64 k,.int .i64 n,sl]/\SlA w X sl ks.length xs/\IsTs w X ks xs
def IsTs (w : World) (X : List Nat) : List Tm -> List Value -> Prop
  |[],xs=>xs=[]
  |t::ts,xs=>∃a r,xs=a++r/\IsT w X t a/\IsTs w X ts r
end
mutual
def IsN (w : World) (X : List Nat) : Tm -> Value -> Prop
  | .mk k n ks,v=>∃b sl xs,v= .pointer (some ⟨b,0,none⟩)/\b∉X/\At w b 0 [.int .i64 k,.int .i64 n,sl,.string (bs (txt (.mk k n ks)))]/\SlA w X sl ks.length xs/\IsNs w X ks xs
def IsNs (w : World) (X : List Nat) : List Tm -> List Value -> Prop
  |[],xs=>xs=[]
  |t::ts,xs=>∃v r,xs=v::r/\IsN w X t v/\IsNs w X ts r
end
section
variable {w w':World} {X X' Y:List Nat}
mutual
theorem IsT.mv (k : Ch Y w w') (hy : ∀ y, y ∈ Y -> y ∈ X) (hx : ∀ x, x ∈ X' -> x ∈ X \/ w.heap.size <= x) : (t : Tm) -> (vs : List Value) -> IsT w X t vs -> IsT w' X' t vs
  | .mk _ _ ks, _, h => by simp only[IsT]at h⊢;obtain⟨sl,xs,h1,h2,h3⟩:=h;exact⟨sl,xs,h1,h2.mv k hy hx,IsTs.mv k hy hx ks xs h3⟩
theorem IsTs.mv (k : Ch Y w w') (hy : ∀ y, y ∈ Y -> y ∈ X) (hx : ∀ x, x ∈ X' -> x ∈ X \/ w.heap.size <= x) : (ts : List Tm) -> (xs : List Value) -> IsTs w X ts xs -> IsTs w' X' ts xs
  |[],_,h=>by simpa only[IsTs]using h
  | t :: ts, _, h => by simp only[IsTs]at h⊢;obtain⟨a,r,h1,h2,h3⟩:=h;exact⟨a,r,h1,IsT.mv k hy hx t a h2,IsTs.mv k hy hx ts r h3⟩
end
mutual
theorem IsN.mv (k : Ch Y w w') (hy : ∀ y, y ∈ Y -> y ∈ X) (hx : ∀ x, x ∈ X' -> x ∈ X \/ w.heap.size <= x) : (t : Tm) -> (v : Value) -> IsN w X t v -> IsN w' X' t v
  | .mk _ _ ks, _, h => by
    simp only[IsN]at h⊢;obtain⟨b,sl,xs,h1,h2,h3,h4,h5⟩:=h;refine⟨b,sl,xs,h1,λhm=> ?_,h3.mv k λhm=>h2 (hy b hm),h4.mv k hy hx,IsNs.mv k hy hx ks xs h5⟩;rcases hx b hm with h|h
    · exact h2 h
    · have :=h3.lt;omega
theorem IsNs.mv (k : Ch Y w w') (hy : ∀ y, y ∈ Y -> y ∈ X) (hx : ∀ x, x ∈ X' -> x ∈ X \/ w.heap.size <= x) : (ts : List Tm) -> (xs : List Value) -> IsNs w X ts xs -> IsNs w' X' ts xs
  |[],_,h=>by simpa only[IsNs]using h
  | t :: ts, _, h => by simp only[IsNs]at h⊢;obtain⟨a,r,h1,h2,h3⟩:=h;exact⟨a,r,h1,IsN.mv k hy hx t a h2,IsNs.mv k hy hx ts r h3⟩
end
end
theorem IsT.len {w : World} {X : List Nat} {t : Tm} {vs : List Value} (h : IsT w X t vs) : vs.length = 3 := by cases t;simp only[IsT]at h;obtain⟨sl,xs,rfl,_⟩:=h;rfl
theorem IsTs.len {w : World} {X : List Nat} : ∀ {ts : List Tm} {xs : List Value}, IsTs w X ts xs -> xs.length = 3 * ts.length
  |[],_,h=>by simp only[IsTs]at h;subst h;rfl
  | t :: ts, _, h => by simp only[IsTs]at h;obtain⟨a,r,rfl,h2,h3⟩:=h;rw[zP,h2.len,IsTs.len h3,zZ];omega
theorem IsTs.at {w : World} {X : List Nat} {b : Nat} : ∀ {ts : List Tm} {xs : List Value} {o : Nat}, IsTs w X ts xs -> At w b o xs -> ∀ (i : Nat) (t : Tm), ts[i]? = some t -> ∃ a, IsT w X t a /\ At w b (o + i * 3) a
  |[],_,_,_,_,i,t,hi=>by simp at hi
  | t :: ts, _, o, h, ha, i, u, hi => by
    simp only[IsTs]at h;obtain⟨a,r,rfl,h2,h3⟩:=h;rw[At.app]at ha;cases i with
    | zero =>
      simp at hi;subst hi;exact⟨a,h2,by simpa using ha.1⟩
    | succ i =>
      obtain⟨c,h4,h5⟩:=IsTs.at h3 ha.2 i u (by simpa using hi);refine⟨c,h4,?_⟩;rw[h2.len]at h5
      rwa [show o+3+i*3=o+(i+1)*3 by omega]at h5
theorem IsNs.at {w : World} {X : List Nat} : ∀ {ts : List Tm} {xs : List Value}, IsNs w X ts xs -> ∀ (i : Nat) (t : Tm), ts[i]? = some t -> ∃ v, xs[i]? = some v /\ IsN w X t v
  |[],_,_,i,t,hi=>by simp at hi
  | t :: ts, _, h, i, u, hi => by
    simp only[IsNs]at h;obtain⟨a,r,rfl,h2,h3⟩:=h;cases i with
    | zero =>
      simp at hi;subst hi;exact⟨a,rfl,h2⟩
    | succ i =>
      obtain⟨v,h4,h5⟩:=IsNs.at h3 i u (by simpa using hi);exact⟨v,by simpa using h4,h5⟩
theorem IsNs.app {w : World} {X : List Nat} : ∀ {ts us : List Tm} {xs ys : List Value}, IsNs w X ts xs -> IsNs w X us ys -> IsNs w X (ts ++ us) (xs ++ ys)
  |[],us,_,ys,h,h'=>by simp only[IsNs]at h;subst h;simpa using h'
  | t :: ts, us, _, ys, h, h' => by simp only[IsNs]at h;obtain⟨a,r,rfl,h2,h3⟩:=h;simp only[Ah,IsNs];exact⟨a,r++ys,by simp,h2,IsNs.app h3 h'⟩
theorem IsNs.one {w : World} {X : List Nat} {t : Tm} {v : Value} (h : IsN w X t v) : IsNs w X [t] [v] := by simp only[IsNs];exact⟨v,[],rfl,h,rfl⟩
theorem IsTs.app {w : World} {X : List Nat} : ∀ {ts us : List Tm} {xs ys : List Value}, IsTs w X ts xs -> IsTs w X us ys -> IsTs w X (ts ++ us) (xs ++ ys)
  |[],us,_,ys,h,h'=>by simp only[IsTs]at h;subst h;simpa using h'
  | t :: ts, us, _, ys, h, h' => by simp only[IsTs]at h;obtain⟨a,r,rfl,h2,h3⟩:=h;simp only[Ah,IsTs];exact⟨a,r++ys,by simp,h2,IsTs.app h3 h'⟩
def MapIs (w:World) (b:Nat) (m:b_):Prop:=∃es clock,w.heap[b]? =some (.map es clock)/\es.toList.map (λe=>(e.key,e.val))=m.map λp=>(Value.string (bs p.1),Value.int .i64 p.2)
theorem MapIs.mv {w w' : World} {Y : List Nat} {b : Nat} {m : b_} (h : MapIs w b m) (k : Ch Y w w') (hb : b ∉ Y) : MapIs w' b m := by
  obtain⟨es,c,h1,h2⟩:=h;have hl : b < w.heap.size := by
    rcases zF b w.heap.size with h'|h'
    · exact h'
    · rw[zY h']at h1;cases h1
  exact⟨es,c,by rw[k.blk b hl hb];exact h1,h2⟩
def eG : b_ -> Tx -> Nat -> Option (Nat × Int)
  |[],_,_=>none
  |(y,v)::m,x,i=>if y=x then some (i,v)else eG m x (i+1)
theorem rE (m : b_) (x : Tx) (i : Nat) : tl m x = ((eG m x i).map (·.2)).getD 0 := by
  induction m generalizing i with
  |nil=>rfl
  | cons p m ih =>
    obtain⟨y,v⟩:=p;simp only[tl,eG];split
    · rfl
    · exact ih (i+1)
theorem sO (x y : Tx) : (bs x == bs y) = decide (x = y) := by
  rw[beq_toListBytes];simp only[bs,ByteArray.toList_mk];by_cases h:x=y
  · subst h;simp
  · rw[decide_eq_false h];simpa using h
theorem gV {m : b_} {x : Tx} : ∀ {es : List MapEntry} {i : Nat}, es.map (λe => (e.key, e.val)) = m.map (λp => (Value.string (bs p.1), Value.int .i64 p.2)) ->
    Instr.findNow .string (.string (bs x)) es i=some ((eG m x i).map λq=>(q.1,.int .i64 q.2)):=by
  induction m with
  | nil =>
    intro es i h;simp at h;subst h;rfl
  | cons p m ih =>
    intro es i h;obtain⟨y,v⟩:=p;cases es with
    |nil=>simp at h
    | cons e es =>
      simp only[Ad,List.cons.injEq,Prod.mk.injEq]at h;obtain⟨⟨hk,hv⟩,hr⟩:=h;simp only[Instr.findNow,Instr.sameNow,hk,sO,eG];by_cases he:x=y
      · subst he;simp [hv]
      · rw [decide_eq_false he, zK (λe => he e.symm)]
        exact ih hr
theorem kg {m : b_} {x : Tx} {i j : Nat} {v : Int} (h : eG m x i = some (j, v)) : i <= j /\ j < i + m.length := by
  induction m generalizing i with
  |nil=>simp [eG]at h
  | cons p m ih =>
    obtain⟨y,u⟩:=p;simp only[eG]at h;split at h
    · simp at h;simp;omega
    · have :=ih h;simp;omega
theorem qQ {m : b_} {x : Tx} {i j : Nat} {u v : Int} (h : eG m x i = some (j, u)) : st m x v = m.set (j - i) (x, v) := by
  induction m generalizing i with
  |nil=>simp [eG]at h
  | cons p m ih =>
    obtain⟨y,u'⟩:=p;simp only[eG]at h;simp only[st];split at h
    · rename_i e
      simp at h;obtain⟨rfl,rfl⟩:=h;simp [e]
    · rename_i e
      have hl:=kg h;rw[zK e,ih h,show j-i=(j-(i+1))+1 by omega];rfl
theorem tr {m : b_} {x : Tx} {i : Nat} {v : Int} (h : eG m x i = none) : st m x v = m ++ [(x, v)] := by
  induction m generalizing i with
  |nil=>rfl
  | cons p m ih =>
    obtain⟨y,u'⟩:=p;simp only[eG]at h;simp only[st];split at h
    · simp at h
    · rename_i e
      rw[zK e,ih h];rfl
section
variable {P:Program} {n:Nat} {L:List (Nat×Value)} {w:World} {ds:Option Nat} {ty:TypeId} {pos:String} {af:Array Edge} {gu:Option (Nat×Bool)}
theorem iG {x y : Operand} {t kt et : TypeId} {b : Nat} {m : b_} {k : Tx} (ht : P.underlying t = some (.map kt et)) (hk : P.underlying kt = some .string) (hz : (P.info? et).bind (·.zero) = some (.int .i64 0))
    (hx:ev L x=some (.map (some b))) (hy:ev L y=some (.string (bs k))) (hm:MapIs w b m):Det P ⟨ds,.lookup t x y false,ty,pos,af,gu⟩ n L w (.int .i64 (tl m k)) w:=
  Det.of_run λa hF => by
    obtain⟨es,c,h1,h2⟩:=hm;obtain⟨inf,hi,hz'⟩:=As.1 hz;have hf:=gV (x:=k) (i:=0) h2;have hck:(Instr.checkKey es.isEmpty 10000 kt (.string (bs k))).run P w= .ok () w:=MapKept.run_checkKey (k:= .string (bs k)) hk zo _ 9999;have hfk:=MapKept.run_findKey (P:=P) (w:=w) hk hf;simp only[execOp,hF.eval hx,hF.eval hy,Instr.lookup,Sem.run_bind,bQ ht,Result.andThen_ok,MapKept.run_getObj_map h1,Sem.run_pure,hck,hfk];rw[rE m k 0];cases hp:eG m k 0 with
    |none=>simp [zeroValue,typeInfo,hi,hz']
    |some q=>simp
theorem iv {x y z : Operand} {t kt et : TypeId} {b : Nat} {m : b_} {k : Tx} {v : Int} (ht : P.underlying t = some (.map kt et)) (hk : P.underlying kt = some .string)
    (hx:ev L x=some (.map (some b))) (hy:ev L y=some (.string (bs k))) (hz:ev L z=some (.int .i64 v)) (hm:MapIs w b m):Ok1 P ⟨ds,.mapUpdate t x y z,ty,pos,af,gu⟩ n L w λ_ w'=>MapIs w' b (st m k v)/\Ch [b] w w':=by
  obtain⟨es,c,h1,h2⟩:=hm;have hf:=gV (x:=k) (i:=0) h2;have s:(Instr.checkKey false 10000 kt (.string (bs k))).run P w= .ok () w:=MapKept.run_checkKey (k:= .string (bs k)) hk zo _ 9999;have d:=MapKept.run_findKey (P:=P) (w:=w) hk hf;have E : b < w.heap.size := by
    rcases zF b w.heap.size with h'|h'
    · exact h'
    · rw[zY h']at h1;cases h1
  have f:∀o:Obj,(setObj b o).run P w= .ok () {w with heap:=w.heap.setIfInBounds b o}:=λo=>MapKept.run_setObj_map o h1;have D : ∀ o : Obj, Ch [b] w { w with heap := w.heap.setIfInBounds b o } := λo =>
    ⟨rfl, rfl, rfl, by simp, λi _ hn => by
      have :b≠i:=λe=>hn (by simp [e]);simp [zJ this]⟩
  have g : ∀ (r : Array MapEntry) (c' : Nat), (World.mk (w.heap.setIfInBounds b (.map r c')) w.tape w.drawn w.os w.output).heap[b]? = some (.map r c') := λr c' => by simp [E]
  cases hp:eG m k 0 with
  | none =>
    rw[hp]at d;have hd : Det P ⟨ds, .mapUpdate t x y z, ty, pos, af, gu⟩ n L w undef { w with heap := w.heap.setIfInBounds b (.map (es.push { key := .string (bs k), val := .int .i64 v, born := c }) (c + 1)) } := Det.of_skip λa hF => by simp [execOp,hF.eval hx,hF.eval hy,hF.eval hz,Instr.mapUpdate,bQ ht,MapKept.run_getObj_map h1,s,d,f]
    refine hd.mono λv' w' ⟨_,hw⟩=> ?_;subst hw;refine⟨⟨_,_,g _ _,?_⟩,D _⟩;rw[tr hp];simp [h2]
  | some q =>
    obtain⟨j,u⟩:=q;rw[hp]at d;obtain⟨_,hjl⟩:=kg hp;have B:es.toList.length=m.length:=by simpa using zu List.length h2
    have hj:j<es.size:=by rw[<-AU,B];omega
    have A : (es[j]).key = .string (bs k) := by
      have h3:=zu (λl=>l[j]?) h2;have G : ∀ (m : b_) (i j : Nat) (u : Int), eG m k i = some (j, u) -> m[j - i]? = some (k, u) := by
        intro m
        induction m with
        |nil=>intro i j u h;simp [eG]at h
        | cons p m ih =>
          intro i j u h;obtain⟨y,u'⟩:=p;simp only[eG]at h;split at h
          · rename_i e
            simp at h;obtain⟨rfl,rfl⟩:=h;simp [e]
          · have hl := kg h
            have :=ih _ _ _ h;rw[show j-i=(j-(i+1))+1 by omega];simpa using this
      have h4:=G m 0 j u hp;simp only[Ai,Nat.sub_zero]at h3 h4;rw[h4]at h3;simp [hj]at h3;exact h3.1
    have hd : Det P ⟨ds, .mapUpdate t x y z, ty, pos, af, gu⟩ n L w undef { w with heap := w.heap.setIfInBounds b (.map (es.modify j λe => { e with key := .string (bs k), val := .int .i64 v }) c) } := Det.of_skip λa hF => by
      have F : (Instr.keyThatStays (.string (bs k)) (.string (bs k))).run P w = .ok (.string (bs k)) w := by
        have : Instr.sameBits 10000 (.string (bs k)) (.string (bs k)) = true := by simp [Instr.sameBits,sO]
        simp [Instr.keyThatStays,this]
      simp [execOp,hF.eval hx,hF.eval hy,hF.eval hz,Instr.mapUpdate,bQ ht,MapKept.run_getObj_map h1,s,d,f,hj,A,F]
    refine hd.mono λv' w' ⟨_,hw⟩=> ?_;subst hw;refine⟨⟨_,_,g _ _,?_⟩,D _⟩;rw[qQ hp,Nat.sub_zero];apply List.ext_getElem?;intro i;have h3:=zu (λl=>l[i]?) h2;simp only[Ai,AR,Array.getElem?_modify,List.getElem?_set]at h3⊢;by_cases hij:j=i
    · subst hij
      have C:j<m.length:=by omega
      simp only[if_true,C,Aw hj,zW]
    · simp only [hij, if_false]
      simpa using h3
end
end Go.Mi.Term
namespace Go.Mi.Term
open Go.Mi Go.RowKit
theorem Tm.ind {p : Tm -> Prop} (h : ∀ k n ks, (∀ t, t ∈ ks -> p t) -> p (.mk k n ks)) : (t : Tm) -> p t
  | .mk k n ks=>h k n ks λt _=>Tm.ind h t
theorem SlA.form {w : World} {X : List Nat} {v : Value} {n : Nat} {xs : List Value} (h : SlA w X v n xs) : ∃ ad cap, v = .slice ad n cap /\ (0 < n -> ∃ b o, ad = some ⟨b, o, none⟩ /\ b ∉ X /\ At w b o xs) := by
  rcases h with⟨rfl|⟨a,cap,rfl⟩,rfl,rfl⟩|⟨b,o,cap,rfl,hb,_,ha⟩
  · exact⟨none,0,rfl,λh=>absurd h (by omega)⟩
  · exact⟨some a,cap,rfl,λh=>absurd h (by omega)⟩
  · exact⟨_,_,rfl,λ_=>⟨b,o,rfl,hb,ha⟩⟩
theorem IsT.form {w : World} {X : List Nat} {t : Tm} {vs : List Value} (h : IsT w X t vs) : ∃ k n ad l c, vs = [.int .i64 k, .int .i64 n, .slice ad l c] := by cases t;simp only[IsT]at h;obtain⟨sl,xs,rfl,h1,_⟩:=h;obtain⟨ad,cap,rfl,_⟩:=h1.form;exact⟨_,_,_,_,_,rfl⟩
mutual
theorem sG : (t : Tm) -> (n : Nat) -> n + 1 <= cnt t n
  | .mk _ _ ks,n=>by simp only[cnt];exact ms ks (n+1)
theorem ms : (ks : List Tm) -> (n : Nat) -> n <= eZ ks n
  |[],n=>by simp only[eZ];omega
  | k :: ks, n => by
    simp only[eZ];split
    · omega
    · have h1 := sG k n
      have h2:=ms ks (cnt k n);omega
end
theorem qz {ks : List Tm} {i m : Nat} {t : Tm} (h : ks[i]? = some t) (hm : m <= 5000) : eZ (ks.drop (i + 1)) (cnt t m) = eZ (ks.drop i) m := by
  have hl : i < ks.length := by
    rcases zF i ks.length with h'|h'
    · exact h'
    · simp [zz h']at h
  have ht:ks[i]=t:=by simpa[zp hl]using h
  rw[AH hl,ht];simp only[eZ];rw[zK (by omega)]
theorem sI {ks : List Tm} {m : Nat} (h : 5000 < m) : eZ ks m = m := by
  cases ks with
  |nil=>rfl
  |cons k ks=>simp only[eZ];rw[zX h]
theorem dy {ks : List Tm} {i d : Nat} {t : Tm} (h : ks[i]? = some t) : cA (ks.drop i) d = (cy t d && cA (ks.drop (i + 1)) d) := by
  have hl : i < ks.length := by
    rcases zF i ks.length with h'|h'
    · exact h'
    · simp [zz h']at h
  have ht:ks[i]=t:=by simpa[zp hl]using h
  rw[AH hl,ht];rfl
theorem pi {t:Tm} (h:size t<=5000):may t=cy t 0:=by simp only[may,decide_eq_true h,AX]
theorem rS {t:Tm} (h:¬size t<=5000):may t=false:=by simp only[may,decide_eq_false h,Bool.false_and]
theorem cn {k nm : Int} {ks : List Tm} {d : Nat} (h : (k = 1 /\ (nm < 0 \/ 1073741824 < nm)) \/ k < 1 \/ 9 < k) : cy (.mk k nm ks) d = false := by
  have : named k nm = false := by simp only[named,Ay,AJ,decide_eq_false_iff_not,Bool.not_eq_false',zU];omega
  simp only[cy,this,Bool.false_and]
theorem cm {k nm : Int} {ks : List Tm} {d lo hi : Nat} (hl : low k = lo) (hh : dZ k = hi) (h : 100 <= d \/ ks.length < lo \/ hi < ks.length) : cy (.mk k nm ks) d = false := by have :decide (d<100/\low k<=ks.length/\ks.length<=dZ k)=false:=decide_eq_false (by omega);simp only[cy,this,Bool.and_false,Bool.false_and]
theorem ck {k nm : Int} {ks : List Tm} {d : Nat} (h : cA ks (d + 1) = false) : cy (.mk k nm ks) d = false := by simp only[cy,h,Bool.and_false]
theorem cj {k nm : Int} {ks : List Tm} {d lo hi : Nat} (hk : 1 <= k /\ k <= 9 /\ (k = 1 -> 0 <= nm /\ nm <= 1073741824)) (hl : low k = lo) (hh : dZ k = hi) (h : d < 100 /\ lo <= ks.length /\ ks.length <= hi) (hs : cA ks (d + 1) = true) : cy (.mk k nm ks) d = true := by
  have h1 : named k nm = true := by simp only[named,zD,z8,zU,Aq,decide_eq_false_iff_not];omega
  have h2:decide (d<100/\low k<=ks.length/\ks.length<=dZ k)=true:=decide_eq_true (by omega);simp only[cy,h1,h2,hs,Bc]
section
variable {P:Program} {n:Nat} {L:List (Nat×Value)} {w:World} {ds:Option Nat} {ty:TypeId} {pos:String} {af:Array Edge} {gu:Option (Nat×Bool)}
theorem d_nil {x : Operand} {a : Addr} (hx : ev L x = some (.pointer (some a))) : Det P ⟨ds, .nilCheck x, ty, pos, af, gu⟩ n L w (.pointer (some a)) w :=
  Det.of_run λ_ hF=>by simp [execOp,hF.eval hx]
end
end Go.Mi.Term
namespace Go.Mi.Term
open Go.Mi Go.RowKit
section
variable {P:Program} {n:Nat} {L:List (Nat×Value)} {w:World} {ds:Option Nat} {ty:TypeId} {pos:String} {af:Array Edge} {gu:Option (Nat×Bool)}
def evp (L : List (Nat × Value)) : List (Nat × Operand) -> Option (List (Nat × Value))
  |[]=>some []
  | (i, x) :: r => match ev L x, evp L r with
    |some v,some vs=>some ((i,v)::vs)
    |_,_=>none
theorem iD {a : Act} (h : Frm a n L) : ∀ {xs : List (Nat × Operand)} {vs : List (Nat × Value)}, evp L xs = some vs -> xs.map (λp => (p.1, a.eval p.2)) = vs
  |[],vs,hx=>by simpa[evp]using hx
  | (i, x) :: r, vs, hx => by
    simp only[evp]at hx;split at hx
    · rename_i v us h1 h2
      simp only[Option.some.injEq]at hx;subst hx;simp [h.eval h1,iD h h2]
    · simp at hx
theorem bU {t e : TypeId} {len m : Nat} {parts : Array (Nat × Operand)} {ps : List (Nat × Value)} {z : Value} {cells : Array Value} (hT : P.underlying t = some (.slice e)) (hs : (P.info? e).map (λi => (i.size, i.zero)) = some (m, some z)) (hp : evp L parts.toList = some ps)
    (h0:len*m≠0) (h1:len*m<=16777216) (hf:Instr.fill (λi=>some (i*m,m)) ((Array.range (len*m)).map (z.cells[· %z.cells.size]!)) ps=some cells):
    Ok1 P ⟨ds,.buildSlice t len parts,ty,pos,af,gu⟩ n L w λv' w'=>∃b,v'= .slice (some ⟨b,0,none⟩) len len/\NewB w w' b cells e:=by
  obtain⟨inf,hi,hz⟩:=zq.1 hs;simp only[Prod.mk.injEq]at hz;obtain⟨hz1,hz2⟩:=hz;have hd : Det P ⟨ds, .buildSlice t len parts, ty, pos, af, gu⟩ n L w (.slice (some ⟨w.heap.size, 0, none⟩) len len) (w.alloc (.cells cells e)) := Det.of_run λa hF => by
    have he:(parts.map λp=>(p.1,a.eval p.2)).toList=ps:=by rw[z6];exact iD hF hp
    have h1':¬len*m>2^24:=by omega
    simp only[execOp,Instr.buildSlice,Sem.run_bind,bQ hT,Result.andThen_ok,sizeOf,typeInfo,zeroValue];simp [hi,hz1,hz2,h1',h0];simp only[z6]at he;rw[he,hf];simp [newRow]
  exact hd.mono λv' w' ⟨h1,h2⟩=>⟨_,h1,rfl,h2⟩
theorem fT {x y : Operand} {t t' : TypeId} {s u : Tx} (hx : ev L x = some (.string (bs s))) (hy : ev L y = some (.string (bs u))) (hl : s.length + u.length <= 9223372036854775807) : Det P ⟨ds, .binOp .add t x y t', ty, pos, af, gu⟩ n L w (.string (bs (s ++ u))) w :=
  Det.of_run λa hF => by
    have h1 : ¬ (((bs s).size + (bs u).size : Nat) : Int) > IntKind.i64.max := by simp only[bs,ByteArray.size,List.size_toArray,IntKind.max,IntKind.bits,IntKind.signed];simp;omega
    have h2 : bs s ++ bs u = bs (s ++ u) := by apply ByteArray.ext;simp [bs,ByteArray.data_append]
    simp only[execOp,hF.eval hx,hF.eval hy,eqGuard,binOp,Op.stringOp,Sem.run_bind];rw[zK h1,h2];simp
theorem po : ∀ x y : Tx, Op.bytesLess x y = eb x y
  |_,[]=>by simp [Op.bytesLess,eb]
  |[],_::_=>rfl
  |a::x,b::y=>by simp only[Op.bytesLess,eb,po x y]
theorem wT {x y : Operand} {t t' : TypeId} {s u : Tx} (hx : ev L x = some (.string (bs s))) (hy : ev L y = some (.string (bs u))) : Det P ⟨ds, .binOp .lss t x y t', ty, pos, af, gu⟩ n L w (.bool (eb s u)) w :=
  Det.of_run λa hF => by simp [execOp,hF.eval hx,hF.eval hy,eqGuard,binOp,Op.stringOp,bs,po]
theorem kj {t : TypeId} : Ok1 P ⟨ds, .makeMap t none, ty, pos, af, gu⟩ n L w λv' w' => ∃ b, v' = .map (some b) /\ b = w.heap.size /\ MapIs w' b [] /\ Ch [] w w' := by
  have hd : Det P ⟨ds, .makeMap t none, ty, pos, af, gu⟩ n L w (.map (some w.heap.size)) (w.alloc (.map #[] 0)) := Det.of_run λa hF => by have hr:(Instr.makeMap t none).run P w= .ok (.map (some w.heap.size)) (w.alloc (.map #[] 0)):=rfl;simp [execOp,hr]
  refine hd.mono λv' w' ⟨h1,h2⟩=> ?_;subst h2;refine⟨_,h1,rfl,⟨#[],0,?_,rfl⟩,Gr.ch ((Below.refl w.heap.size w).alloc (zH _) _)⟩;show(w.heap.push _)[w.heap.size]? =_;simp
end
end Go.Mi.Term
namespace Go.Mi.Term
open Go.Mi Go.RowKit
theorem jT {w0 w w' : World} {M : List Blk} {Y : List Nat} (h : Mem w0 w M) (k : Ch Y w w') (hy : ∀ y, y ∈ Y -> w0.heap.size <= y /\ ∀ e, e ∈ M -> e.1 ≠ y) : Mem w0 w' M := by have h1:Below w0.heap.size w w':=k.below h.below.size λy hm=>(hy y hm).1;refine⟨h.below.trans h1,λe he=> ?_,h.new,h.apart⟩;rw[k.blk e.1 (h.lt he) λhm=>(hy _ hm).2 e he rfl];exact h.blk e he
theorem jV (k : Int) : (dB k).length <= 4 := by
  unfold dB
  repeat' split
  all_goals simp
theorem Own.nil (w:World) (base m:Nat) (e:TypeId):Own w base e m (.slice none 0 0) 0 []:=⟨by simp,.inl ⟨rfl,rfl⟩⟩
theorem Ch.drew (w:World):Ch [] w {w with drawn:=w.drawn+1}:=⟨rfl,rfl,rfl,zH _,λ_ _ _=>rfl⟩
theorem fR {β : Type} {f : Tm -> β} {ks : List Tm} {i : Nat} {t : Tm} (h : ks[i]? = some t) : (ks.take (i + 1)).map f = (ks.take i).map f ++ [f t] := by rw[AS,h];simp
theorem IsN.form {w : World} {X : List Nat} {t : Tm} {v : Value} (h : IsN w X t v) : ∃ b k n sl, v = .pointer (some ⟨b, 0, none⟩) /\ b ∉ X /\ At w b 0 [.int .i64 k, .int .i64 n, sl, .string (bs (txt t))] := by cases t;simp only[IsN]at h;obtain⟨b,sl,xs,h1,h2,h3,_,_⟩:=h;exact⟨b,_,_,sl,h1,h2,h3⟩
theorem tY {w : World} {base : Nat} {e : TypeId} {v a b : Value} (h : Own w base e 1 v 2 [a, b]) : ∃ g cap cur, v = .slice (some ⟨g, 0, none⟩) 2 cap /\ base <= g /\ w.heap[g]? = some (.cells cur e (0, 0)) /\ 2 <= cap /\ cur[0]? = some a /\ cur[1]? = some b /\ 2 <= cur.size := by
  rcases h.2 with⟨_,h2⟩|⟨g,cap,cur,rfl,hg,hb,h3,_,h5,h6⟩
  · omega
  · have hs : 2 <= cur.size := by omega
    have h7 : ∀ i, i < 2 -> cur[i]? = [a, b][i]? := λi hi => by rw[<-h6,List.getElem?_take,zX (by omega),AR]
    exact⟨g,cap,cur,rfl,hg,hb,h3,h7 0 (by omega),h7 1 (by omega),hs⟩
theorem uH {w0 w : World} {g : Nat} {cur : Array Value} {e : TypeId} (h : Mem w0 w []) (hg : w0.heap.size <= g) (hb : w.heap[g]? = some (.cells cur e (0, 0))) : Mem w0 w [(g, cur, e)] :=
  ⟨h.below,λq hq=>by simp at hq;subst hq;exact hb,λq hq=>by simp at hq;subst hq;exact hg,by simp⟩
theorem sP {w : World} {g : Nat} {c : Array Value} {e : TypeId} {f : Nat × Nat} {a b : Value} (h : w.heap[g]? = some (.cells c e f)) (h0 : c[0]? = some a) (h1 : c[1]? = some b) : At w g 0 [a, b] := λi u hu => by
  rw[cG h,Aj]
  match i,hu with
  |0,hu=>simp at hu;subst hu;exact h0
  |1,hu=>simp at hu;subst hu;exact h1
section
variable {P:Program} {n:Nat} {L:List (Nat×Value)} {w:World} {ds:Option Nat} {ty:TypeId} {pos:String} {af:Array Edge} {gu:Option (Nat×Bool)}
theorem bG {x : Operand} {s : TypeId} {fs : Array Field} {f : Nat} {fd : Field} {b o m q : Nat} (hs : P.underlying s = some (.struct fs)) (hm : (P.info? fd.type).map (·.size) = some (m + 1)) (hf : fs[f]? = some fd) (hx : ev L x = some (.pointer (some ⟨b, o, none⟩))) (hq : o + fd.offset = q) :
    Det P ⟨ds,.fieldAddr s x f,ty,pos,af,gu⟩ n L w (.pointer (some ⟨b,q,none⟩)) w:=hq▸gG hs hf hm hx
theorem g9 {s x : Operand} {t e : TypeId} {z : Value} {base bytes n' c b : Nat} {v u : Value} {xs : List Value} (ht : P.underlying t = some (.slice e)) (hi : (P.info? e).map (λi => (i.size, i.bytes, i.zero)) = some (1, bytes, some z))
    (hzs:z.cells.size=1) (hs:ev L s=some v) (hx:ev L x=some (.slice (some ⟨b,0,none⟩) 1 c)) (hown:Own w base e 1 v n' xs)
    (hn:At w b 0 [u]) (h1:u.oneCell'=true) (hby:(n'+1)*bytes<=140737488355328) (h63:n'+1<=maxLen) (hbase:base<=w.heap.size):
    Ok1 P ⟨ds,.call ⟨.builtin .append,#[s,x],#[t,t]⟩,ty,pos,af,gu⟩ n L w λv' w'=>Own w' base e 1 v' (n'+1) (xs++[u])/\Ch (bC v) w w'/\(bC v'=bC v\/bC v'=[w.heap.size]):=by
  obtain⟨inf,hi1,hz⟩:=zq.1 hi;simp only[Prod.mk.injEq]at hz;exact lf ht hi1 hz.2.2 hz.1 hz.2.1 hzs (by omega) hs hx hown rfl hn (λq hq=>by simp at hq;subst hq;exact h1) h63 hby hbase
theorem Det.oh {o : Oper} {A B : Prop} {Wd : World -> Prop} {v : Value} (hW : Wd w) (h : Det P o n L w v w) : Ok1 P o n L w λv' w' => bif false then (A /\ B) else Wd w' /\ v' = v :=
  h.mono λ_ _ ⟨h1,h2⟩=>⟨h2▸hW,h1⟩
end
end Go.Mi.Term
namespace Go.Mi
open Go.RowKit
theorem Ch.blk0 {Y : List Nat} {w w' : World} {b : Nat} {x : Obj} (k : Ch Y w w') (h : w.heap[b]? = some x) (hb : b ∉ Y) : w'.heap[b]? = some x := by
  rw[k.blk b _ hb]
  · exact h
  · rcases zF b w.heap.size with h' | h'
    · exact h'
    · rw[zY h']at h;cases h
theorem NewB.lt {w w' : World} {b : Nat} {c : Array Value} {t : TypeId} (h : NewB w w' b c t) : b < w'.heap.size := by obtain⟨rfl,rfl⟩:=h;show w.heap.size<(w.heap.push _).size;simp
theorem NewB.lo {w w':World} {b m:Nat} {c:Array Value} {t:TypeId} (h:NewB w w' b c t) (hm:m<=w.heap.size):m<=b:=by rw[h.num];exact hm
theorem NewB.gt {w w':World} {b m:Nat} {c:Array Value} {t:TypeId} (h:NewB w w' b c t) (hm:m<w.heap.size):m<b:=by rw[h.num];exact hm
theorem NewB.blk {w w' : World} {b : Nat} {c : Array Value} {t : TypeId} (h : NewB w w' b c t) : w'.heap[b]? = some (.cells c t (0, 0)) := by obtain⟨rfl,rfl⟩:=h;show(w.heap.push _)[w.heap.size]? =_;simp
theorem NewB.at {w w':World} {b:Nat} {c:Array Value} {t:TypeId} (h:NewB w w' b c t):At w' b 0 c.toList:=At.of_blk h.blk
theorem Ok1.sub {P : Program} {o : Oper} {n : Nat} {L L' : List (Nat × Value)} {w : World} {R : Value -> World -> Prop} (hs : fV L L') (h : Ok1 P o n L' w R) : Ok1 P o n L w R :=
  λa K Q hF k=>h a K Q (hF.sub hs) k
def blk : Value -> Nat
  | .pointer (some a)=>a.block
  | .slice (some a) _ _=>a.block
  | .map (some b)=>b
  | .agg cs => match cs.toList with
    |[_,_,.slice (some a) _ _]=>a.block
    |_=>0
  |_=>0
theorem kB {c:Bool} {X Y:Prop} (hc:c=true) (h:X):bif c then X else Y:=by subst hc;exact h
theorem At.part {w : World} {b o : Nat} {vs : List Value} (h : At w b o vs) (i : Nat) {us : List Value} (hu : (vs.drop i).take us.length = us) : At w b (o + i) us := λj u hj => by
  have : vs[i + j]? = some u := by
    rw[<-hu]at hj;rw[List.getElem?_take]at hj;split at hj
    · rw[List.getElem?_drop]at hj;exact hj
    · cases hj
  have :=h (i+j) u this
  rwa [<-Nat.add_assoc]at this
section
variable {P:Program} {n:Nat} {L:List (Nat×Value)} {w:World} {ds:Option Nat} {ty:TypeId} {pos:String} {af:Array Edge} {gu:Option (Nat×Bool)}
theorem iZ {x y : Operand} {k : IntKind} {T e : TypeId} {len cap b o j q : Nat} {i : Int} (hT : P.underlying T = some (.slice e)) (hs : (P.info? e).map (·.size) = some 1) (hx : ev L x = some (.slice (some ⟨b, o, none⟩) len cap)) (hy : ev L y = some (.int k i))
    (hj:i=(j:Int)) (h1:j<len) (hq:o+j=q):Det P ⟨ds,.indexAddr T x y,ty,pos,af,gu⟩ n L w (.pointer (some ⟨b,q,none⟩)) w:=hq▸lr hT hs hx hy hj h1
theorem Det.ohc {o : Oper} {c : Bool} {X : Value -> World -> Prop} {Wd : World -> Prop} {v : Value} (hc : c = false) (hW : Wd w) (h : Det P o n L w v w) : Ok1 P o n L w λv' w' => bif c then X v' w' else Wd w' /\ v' = v := by subst hc;exact h.mono λ_ _ ⟨h1,h2⟩=>⟨h2▸hW,h1⟩
end
def hr_ (us:List (Nat×Nat)) (zs:List (Nat×Value)) (ph:List Nat) (v:Value):HRow:=⟨us,zs,ph,[],λ_=>v,λ_ _ _=>rfl⟩
section
variable {P:Program} {n:Nat} {Wd:Nat->(Nat->Value)->World->Prop} {ss:List Nat} {L0:List (Nat×Value)} {rows:List HRow} {i:Nat} {o:Oper} {r rj:HRow}
theorem HOb.pure (hz : fV L0 r.zs) (hg : o.guard = none) (hm : cv i ss = false) (h : ∀ H w, Det P o n (r.fr rows H) w (r.out H) w) : HOb P n Wd ss L0 rows i o r :=
  ⟨hz,λp _ H w hW=>by simp only[hg];exact Det.ohc hm hW (h H w)⟩
theorem HOb.pureG {j : Nat} {b : Bool} (hz : fV L0 r.zs) (hg : o.guard = some (j, b)) (hr : rows[j]? = some rj) (hv : ∀ H, vb (rj.out H) = some b) (hm : cv i ss = false) (h : ∀ H w, Det P o n (r.fr rows H) w (r.out H) w) : HOb P n Wd ss L0 rows i o r :=
  ⟨hz,λp _ H w hW=>by simp only[hg];exact⟨some b,rj,hr,hv H,by rw[zX rfl];exact Det.ohc hm hW (h H w)⟩⟩
theorem HOb.skip {j : Nat} {b : Bool} {c : Option Bool} (hz : fV L0 r.zs) (hg : o.guard = some (j, b)) (hr : rows[j]? = some rj) (hv : ∀ H, vb (rj.out H) = c) (hc : c ≠ some b) (hm : cv i ss = false) (h : ∀ H, undef = r.out H) : HOb P n Wd ss L0 rows i o r :=
  ⟨hz,λp _ H w hW=>by simp only[hg];exact⟨c,rj,hr,hv H,by rw[zK hc];exact⟨hm,h H⟩⟩⟩
theorem HOb.fact {A F : (Nat -> Value) -> World -> Prop} {p0 : Nat} (hA : A = F) (hz : fV L0 r.zs) (hp : r.ph = [p0]) (hw : Wd p0 = A) (hg : o.guard = none) (hm : cv i ss = false) (h : ∀ H w, F H w -> Det P o n (r.fr rows H) w (r.out H) w) : HOb P n Wd ss L0 rows i o r :=
  ⟨hz, λp hp' H w hW => by
    rw[hp]at hp';obtain rfl:=ce hp';have hW':F H w:=by rw[<-hA,<-hw];exact hW
    simp only[hg];exact Det.ohc hm hW (h H w hW')⟩
theorem HOb.factG {A F : (Nat -> Value) -> World -> Prop} {p0 j : Nat} {b : Bool} (hA : A = F) (hz : fV L0 r.zs) (hp : r.ph = [p0]) (hw : Wd p0 = A) (hg : o.guard = some (j, b)) (hr : rows[j]? = some rj) (hv : ∀ H, vb (rj.out H) = some b) (hm : cv i ss = false) (h : ∀ H w, F H w -> Det P o n (r.fr rows H) w (r.out H) w) : HOb P n Wd ss L0 rows i o r :=
  ⟨hz, λp hp' H w hW => by
    rw[hp]at hp';obtain rfl:=ce hp';have hW':F H w:=by rw[<-hA,<-hw];exact hW
    simp only[hg];exact⟨some b,rj,hr,hv H,by rw[zX rfl];exact Det.ohc hm hW (h H w hW')⟩⟩
end
theorem Det.sub {P:Program} {o:Oper} {n:Nat} {L L':List (Nat×Value)} {w w2:World} {v:Value} (hs:fV L L') (h:Det P o n L' w v w2):Det P o n L w v w2:=Ok1.sub hs h
end Go.Mi
