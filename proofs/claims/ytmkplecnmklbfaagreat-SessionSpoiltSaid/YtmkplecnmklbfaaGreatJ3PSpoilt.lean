/- General lemmas, walks. -/
import Derived.Test.YtmkplecnmklbfaaGreatJ2PSpoilt
set_option maxRecDepth 100000
set_option maxHeartbeats 1000000
set_option linter.unusedSimpArgs false
set_option linter.unusedVariables false
set_option linter.unnecessarySimpa false
set_option linter.unusedSectionVars false
namespace Go.Sx
open Go.Mi Go.RowKit
variable [Dfr]
abbrev Sg:=DL×Hp
def Sp (n:Nat) (S0:Nat->Prop) (g0:G) (w0:World) (σ:Sg) (nb:Nat) (a:Act) (g:G) (w:World):Prop:=St n S0 g0 w0 σ.1 σ.2 nb a g w
abbrev Px:=Option (List Prop×DL×Hp×Nat)
def xS:Px->Sg
 |some (_,L,H,_)=>(L,H)
 |none=>([],[])
def xP (r:Px):Option (List Prop×Nat):=r.map λx=>(x.1,x.2.2.2)
theorem cB {r:Px} {ps:List Prop} {nb:Nat} (h:xP r=some (ps,nb)):r=some (ps,(xS r).1,(xS r).2,nb):=by obtain⟨⟨p,L,H,m⟩,rfl,h2⟩:=ak.1 h;simp only[Prod.mk.injEq]at h2;obtain⟨rfl,rfl⟩:=h2;rfl
abbrev vi (x:Int):D:= .v (.int .i64 x)
abbrev lb (x:List Int):D:= .ls false [.int .u8] x
theorem Au {p:Prop} (h:p:=by first |omega|(simp only[ah,au,ao,az,aw,av,cg,d_]<;>omega)|(simp<;>omega)):p:=h
theorem Ac {p:Prop} (h:p:=by omega):p:=h
theorem A3 {p:Prop} (h:p:=by assumption):p:=h
theorem HL {p:Prop} (h:p:=by first |assumption|(simp<;>omega)):p:=h
section
variable {P:Program} {n:Nat} {L:DL} {H:Hp} {σ:Sg} {S0:Nat->Prop} {g0 g:G} {w0 w:World} {nb:Nat} {a:Act} {Q:Exit->Act->World->Prop}
theorem SS.sp (V:St n S0 g0 w0 L H nb a g w):Sp n S0 g0 w0 (L,H) nb a g w:=V
theorem Sp.st (V:Sp n S0 g0 w0 σ nb a g w):St n S0 g0 w0 σ.1 σ.2 nb a g w:=V
abbrev mZ (n:Nat) (ops:List Oper) (ex:Ex) (σ:Sg) (nb:Nat) (kL kH:List Nat):Px:=plX n ops ex σ.1 σ.2 nb kL kH
theorem eF {id : Nat} {dr : Bool} {ops : List Oper} {ex : Ex} (hm : P.follows .mixedOrders = true) (hex : M4 P n ex) (ps : List Prop) (kL kH : List Nat) (nb' : Nat) (hp : AllP ps) (V : Sp n S0 g0 w0 σ nb a g w) (hend : ∀ a g w, Sp n S0 g0 w0 (xS (mZ n ops ex σ nb kL kH)) nb' a g w -> Q .normal a w)
  (h:xP (mZ n ops ex σ nb kL kH)=some (ps,nb')) (hle:Nat.ble nb nb'=true):(Code.region id ops.toArray dr).wp P Q a w:=
 UM hm hex (cB h) hp hle V hend
theorem Sp.rv (V:Sp n S0 g0 w0 σ nb a g w) (L':DL) (H':Hp) (hL:Bo σ.1 (Ax L')=L':=by kernel_rfl) (hH:FJ σ.2 (Ax H')=H':=by kernel_rfl):St n S0 g0 w0 L' H' nb a g w:=
 SS.weak V (λt d ht=>(Fl (ts:=Ax L') (by rw[hL];exact ht)).2) (λk o hk=>JV (ts:=Ax H') (by rw[hH];exact hk)) λ_ h=>h
theorem Qe {x y:Code} {c:Operand} (t:Bool) (V:Sp n S0 g0 w0 σ nb a g w) (ht:t=true->x.wp P Q a w) (hf:t=false->y.wp P Q a w) (hc:Fc σ.1 c=some (.v (.bool t)):=by kernel_rfl):(Code.cond c x y).wp P Q a w:=
 iC V.st hc ht hf
theorem AH {x y:Code} {c:Operand} (p:Prop) [Decidable p] (V:Sp n S0 g0 w0 σ nb a g w) (ht:p->x.wp P Q a w) (hf:¬p->y.wp P Q a w) (hc:Fc σ.1 c=some (.v (.bool (decide p))):=by kernel_rfl):(Code.cond c x y).wp P Q a w:=
 iC V.st hc (λh=>ht (cj h)) λh=>hf (of_decide_eq_false h)
theorem Ik {x y:Code} {c:Operand} (p:Prop) [Decidable p] (V:Sp n S0 g0 w0 σ nb a g w) (ht:¬p->x.wp P Q a w) (hf:p->y.wp P Q a w) (hc:Fc σ.1 c=some (.v (.bool (!decide p))):=by kernel_rfl):(Code.cond c x y).wp P Q a w:=
 iC V.st hc (λh=>ht λhp=>by rw[decide_eq_true hp]at h;cases h) λh=>hf (by simpa using h)
theorem AE {x y:Code} {c:Operand} (V:Sp n S0 g0 w0 σ nb a g w) (h:x.wp P Q a w) (hc:Fc σ.1 c=some (.v (.bool true)):=by kernel_rfl):(Code.cond c x y).wp P Q a w:=
 iC V.st hc (λ_=>h) λh=>nomatch h
theorem Ai {x y:Code} {c:Operand} (V:Sp n S0 g0 w0 σ nb a g w) (h:y.wp P Q a w) (hc:Fc σ.1 c=some (.v (.bool false)):=by kernel_rfl):(Code.cond c x y).wp P Q a w:=
 iC V.st hc (λh=>nomatch h) λ_=>h
theorem Sp.ren {ks0:List Nat} (Y:∀k v,g0.N k=some v->k∈ks0) (V:Sp n S0 g0 w0 σ nb a g w) (ρ:LO) (L':DL) (H':Hc) (nb':Nat) (hc:G3 ρ ks0 L' H' nb'=true) (hL:Bo σ.1 (Ax L')=L'.map λp=>(p.1,p.2.ren (rn ρ))) (hH:(H'.map λp=>A4 σ.2 (rn ρ p.1))=H'.map λp=>some (p.2.ren (rn ρ))):∃g',St n S0 g0 w0 L' (Gs H') nb' a g' w:=by
 refine St.ren Y V.st ρ L' H' nb' hc hL ?_;clear hc hL
 induction H' with
 |nil=>trivial
 |cons p r ih=>
  obtain⟨j,o⟩:=p;simp only[bg,List.cons.injEq]at hH;exact⟨hH.1,ih hH.2⟩
theorem Sp.rn {ks0:List Nat} (V:Sp n S0 g0 w0 σ nb a g w) (ρ:LO) (L':DL) (H':Hc) (nb':Nat) (Y:∀k v,g0.N k=some v->k∈ks0) (hc:G3 ρ ks0 L' H' nb'=true:=by kernel_rfl) (hL:Bo σ.1 (Ax L')=L'.map λp=>(p.1,p.2.ren (rn ρ)):=by kernel_rfl) (hH:(H'.map λp=>A4 σ.2 (rn ρ p.1))=(H'.map λp=>some (p.2.ren (rn ρ))):=by kernel_rfl):∃g',Sp n S0 g0 w0 (L',Gs H') nb' a g' w:=
 Sp.ren Y V ρ L' H' nb' hc hL hH
theorem wI {ι : Type} {code : Code} {ks0 : List Nat} (Y : ∀ k v, g0.N k = some v -> k ∈ ks0) (V : Sp n S0 g0 w0 σ nb a g w) (m : ι -> Nat) (Li : ι -> DL) (Hi : ι -> Hc) (Pi : ι -> Prop) (nb' : Nat) (s0 : ι) (ρ : LO) (hP : Pi s0)
  (step:∀s a g w,Pi s->Sp n S0 g0 w0 (Li s,Gs (Hi s)) nb' a g w->code.wp P (Exit.then (λa' w'=>∃s',m s'<m s/\Pi s'/\∃g',Sp n S0 g0 w0 (Li s',Gs (Hi s')) nb' a' g' w') Q) a w)
  (h1:G3 ρ ks0 (Li s0) (Hi s0) nb'=true:=by kernel_rfl) (h2:Bo σ.1 (Ax (Li s0))=(Li s0).map λp=>(p.1,p.2.ren (rn ρ)):=by kernel_rfl) (h3:((Hi s0).map λp=>A4 σ.2 (rn ρ p.1))=((Hi s0).map λp=>some (p.2.ren (rn ρ))):=by kernel_rfl):(Code.loop code).wp P Q a w:=by
 obtain⟨g',hS'⟩:=Sp.ren Y V ρ (Li s0) (Hi s0) nb' h1 h2 h3;exact wJ m Li (λs=>Gs (Hi s)) Pi s0 hP hS' step
theorem v9 {ι : Type} {ks0 : List Nat} (Y : ∀ k v, g0.N k = some v -> k ∈ ks0) (V : Sp n S0 g0 w0 σ nb a g w) {m : ι -> Nat} {Li : ι -> DL} {Hi : ι -> Hc} {Pi : ι -> Prop} {nb' : Nat} {s : ι} (s' : ι) (ρ : LO) (hm : m s' < m s) (hP : Pi s') (h1 : G3 ρ ks0 (Li s') (Hi s') nb' = true := by kernel_rfl) (h2 : Bo σ.1 (Ax (Li s')) = (Li s').map λp => (p.1, p.2.ren (rn ρ)) := by kernel_rfl) (h3 : ((Hi s').map λp => A4 σ.2 (rn ρ p.1)) = ((Hi s').map λp => some (p.2.ren (rn ρ))) := by kernel_rfl) :
  ∃s',m s'<m s/\Pi s'/\∃g',Sp n S0 g0 w0 (Li s',Gs (Hi s')) nb' a g' w:=by
 obtain⟨g',hS'⟩:=Sp.ren Y V ρ (Li s') (Hi s') nb' h1 h2 h3;exact⟨s',hm,hP,g',hS'⟩
def frd (nn:Bool):Option O->D
 |some (.sl _ e xs)=> .ls nn e xs
 |_=> .top
def AaP:Option O->Bool
 |some (.sl ..)=>true
 |_=>false
def obd:Option O->D
 |some (.ob _ d)=>d
 |_=> .nil
def oty:Option O->TypeId
 |some (.ob t _)=>t
 |_=>0
def pU:Option O->Bool
 |some (.ob ..)=>true
 |_=>false
theorem pT {o:Option O} (h:AaP o=true):∃te e xs,o=some (.sl te e xs):=by
 cases o with
 |none=>cases h
 |some o=>cases o with
  |ob=>cases h
  |sl te e xs=>exact⟨te,e,xs,rfl⟩
theorem Tr {o:Option O} (h:pU o=true):o=some (.ob (oty o) (obd o)):=by
 cases o with
 |none=>cases h
 |some o=>cases o with
  |sl=>cases h
  |ob t d=>rfl
theorem Sp.fz (V:Sp n S0 g0 w0 σ nb a g w) (k:Nat) (hk:AaP (A4 σ.2 k)=true:=by kernel_rfl):∃g',Sp n S0 g0 w0 (σ.1.map λp=>(p.1,p.2.sb k (λo=> .cp k o) (frd false (A4 σ.2 k))),(k,none)::σ.2.map λp=>(p.1,p.2.map (O.sb · k (λo=> .cp k o) (frd false (A4 σ.2 k))))) nb a g' w:=by obtain⟨te,e,xs,h⟩:=pT hk;rw[h];exact St.frz V.st k false nofun h rfl rfl
theorem Sp.fy (V:Sp n S0 g0 w0 σ nb a g w) (k:Nat) (te:TypeId) (e:List Fk) (xs:List (RT e)) (hx:xs≠[]) (hk:A4 σ.2 k=some (.sl te e xs):=by kernel_rfl):∃g',Sp n S0 g0 w0 (σ.1.map λp=>(p.1,p.2.sb k (λo=> .cp k o) (.ls true e xs)),(k,none)::σ.2.map λp=>(p.1,p.2.map (O.sb · k (λo=> .cp k o) (.ls true e xs)))) nb a g' w:=
 St.frz V.st k true (λ_=>hx) hk rfl rfl
theorem Sp.im (V:Sp n S0 g0 w0 σ nb a g w) (k:Nat) (hk:pU (A4 σ.2 k)=true:=by kernel_rfl):∃g',Sp n S0 g0 w0 (σ.1.map λp=>(p.1,p.2.sb k (λo=> .im (obd (A4 σ.2 k)) o) (.sk k)),(k,none)::σ.2.map λp=>(p.1,p.2.map (O.sb · k (λo=> .im (obd (A4 σ.2 k)) o) (.sk k)))) nb a g' w:=
 St.imm V.st k (Tr hk) rfl rfl
theorem Sp.wk (V:Sp n S0 g0 w0 σ nb a g w) (t:Nat) (e:D) (ht:(D4 σ.1 t).isSome=true:=by kernel_rfl):Sp n S0 g0 w0 (mX t (weak ((D4 σ.1 t).getD .top) e) σ.1,σ.2) nb a g w:=by obtain⟨d,hd⟩:=gk.1 ht;rw[hd];exact St.wk V.st t e hd rfl
theorem Sp.wko (V:Sp n S0 g0 w0 σ nb a g w) (k:Nat) (es:List D) (hk:pU (A4 σ.2 k)=true:=by kernel_rfl):Sp n S0 g0 w0 (σ.1,(k,some (.ob (oty (A4 σ.2 k)) (uI (obd (A4 σ.2 k)) es)))::σ.2) nb a g w:=
 St.wko V.st k es (Tr hk) rfl
theorem Sp.alias (V:Sp n S0 g0 w0 σ nb a g w) (k:Nat) (hk:(A4 σ.2 k).isSome=true:=by kernel_rfl):∃g',Sp n S0 g0 w0 (σ.1.map λp=>(p.1,p.2.sb k (λo=> .cp nb o) (.sk nb)),(k,none)::(nb,(A4 σ.2 k).map (O.sb · k (λo=> .cp nb o) (.sk nb)))::σ.2.map λp=>(p.1,p.2.map (O.sb · k (λo=> .cp nb o) (.sk nb)))) (nb+1) a g' w:=by obtain⟨o,ho⟩:=gk.1 hk;rw[ho];exact St.alias V.st k ho rfl rfl
theorem Sp.nilk (V:Sp n S0 g0 w0 σ nb a g w) (t:Nat) (te:TypeId) (e:List Fk) (ht:D4 σ.1 t=some (.v (.slice none 0 0)):=by kernel_rfl):∃g',Sp n S0 g0 w0 (mX t (.sk nb) σ.1,(nb,some (.sl te e []))::σ.2) (nb+1) a g' w:=
 St.nilk V.st t te e ht rfl rfl
def Ab2:Option D->Bool:=Option.isSome
theorem Sp.nilob (V:Sp n S0 g0 w0 σ nb a g w) (k i:Nat) (te:TypeId) (e:List Fk) (hk:pU (A4 σ.2 k)=true:=by kernel_rfl) (hd:Ab2 (v8 nb i (obd (A4 σ.2 k)))=true:=by kernel_rfl):∃g',Sp n S0 g0 w0 (σ.1,(nb,some (.sl te e []))::(k,some (.ob (oty (A4 σ.2 k)) ((v8 nb i (obd (A4 σ.2 k))).getD .nil)))::σ.2) (nb+1) a g' w:=by obtain⟨d',h⟩:=gk.1 hd;rw[h];exact St.nilob V.st k i te e (Tr hk) h rfl
theorem Sp.nilor (V:Sp n S0 g0 w0 σ nb a g w) (t:Nat) (e:List Fk) (xs:List (RT e)) (ht:D4 σ.1 t=some (.ls false e xs):=by kernel_rfl):(xs=[]/\Sp n S0 g0 w0 (mX t (.v (.slice none 0 0)) σ.1,σ.2) nb a g w)\/Sp n S0 g0 w0 (mX t (.ls true e xs) σ.1,σ.2) nb a g w:=
 St.nilor V.st t ht rfl rfl
theorem Ej (hD:Dfr.ds=([]:List Deferred)) {fn:Func} {c:Con} {e:Exit} (he:e= .normal\/e= .ret) (V:Sp n (c.foot g0) g0 w0 σ nb a g w) (ds:List D) (Hx:Hp) (hr:weak (Wt ds) c.res=c.res) (h1:EP Hx c.H1 true) (h:J1 P σ.1 σ.2 fn.results.toList=some ds:=by kernel_rfl) (hx:FJ σ.2 (Ax Hx)=Hx:=by kernel_rfl):bodyPost P fn (QK λv w'=>∃g',D7 c g0 w0 v g' w') e a w:=by
 refine tK hD he V.st h hr ?_;have key:∀(r:Hc),EP Hx r true->EP σ.2 r true:=by
  intro r
  induction r with
  |nil=>exact λh=>h
  |cons p r ih=>
   obtain⟨k,o⟩:=p;exact λh=>⟨JV (ts:=Ax Hx) (by rw[hx];exact h.1),ih h.2⟩
 exact key _ h1
end
end Go.Sx
