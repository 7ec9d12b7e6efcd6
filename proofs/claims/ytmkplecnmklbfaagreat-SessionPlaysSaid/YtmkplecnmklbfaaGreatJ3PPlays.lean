/- General lemmas, walks. -/
import Derived.Test.YtmkplecnmklbfaaGreatJ2PPlays
set_option maxRecDepth 100000
set_option maxHeartbeats 1000000
set_option linter.unusedSimpArgs false
set_option linter.unusedVariables false
set_option linter.unnecessarySimpa false
set_option linter.unusedSectionVars false
namespace Go.Sx
open Go.Mi Go.RowKit
variable [Dfr]
abbrev Sg:=DL×Hp
def Sp (n:Nat) (S0:Nat->Prop) (g0:G) (w0:World) (σ:Sg) (nb:Nat) (a:Act) (g:G) (w:World):Prop:=St n S0 g0 w0 σ.1 σ.2 nb a g w
abbrev Px:=Option (List Prop×DL×Hp×Nat)
def xS:Px->Sg
 |some (_,L,H,_)=>(L,H)
 |none=>([],[])
def xP (r:Px):Option (List Prop×Nat):=r.map λx=>(x.1,x.2.2.2)
theorem fX {r:Px} {ps:List Prop} {nb:Nat} (h:xP r=some (ps,nb)):r=some (ps,(xS r).1,(xS r).2,nb):=by
 obtain⟨⟨p,L,H,m⟩,rfl,h2⟩:=ak.1 h
 simp only[Prod.mk.injEq]at h2
 obtain⟨rfl,rfl⟩:=h2
 rfl
abbrev vi (x:Int):D:= .v (.int .i64 x)
abbrev lb (x:List Int):D:= .ls false [.int .u8] x
theorem Ax {p:Prop} (h:p:=by first |omega|(simp only[ab,av,ap,az,aw,au,cg,d_]<;>omega)|(simp<;>omega)):p:=h
theorem Ac {p:Prop} (h:p:=by omega):p:=h
theorem A_ {p:Prop} (h:p:=by assumption):p:=h
theorem GG {p:Prop} (h:p:=by first |assumption|(simp<;>omega)):p:=h
section
variable {P:Program} {n:Nat} {L:DL} {H:Hp} {σ:Sg} {S0:Nat->Prop} {g0 g:G} {w0 w:World} {nb:Nat} {a:Act} {Q:Exit->Act->World->Prop}
theorem SS.sp (V:St n S0 g0 w0 L H nb a g w):Sp n S0 g0 w0 (L,H) nb a g w:=V
theorem Sp.st (V:Sp n S0 g0 w0 σ nb a g w):St n S0 g0 w0 σ.1 σ.2 nb a g w:=V
abbrev qK (n:Nat) (ops:List Oper) (ex:Ex) (σ:Sg) (nb:Nat) (kL kH:List Nat):Px:=uG n ops ex σ.1 σ.2 nb kL kH
theorem iV {id : Nat} {dr : Bool} {ops : List Oper} {ex : Ex} (hm : P.follows .mixedOrders = true) (hex : N4 P n ex) (ps : List Prop) (kL kH : List Nat) (nb' : Nat) (hp : AllP ps) (V : Sp n S0 g0 w0 σ nb a g w) (hend : ∀ a g w, Sp n S0 g0 w0 (xS (qK n ops ex σ nb kL kH)) nb' a g w -> Q .normal a w)
  (h:xP (qK n ops ex σ nb kL kH)=some (ps,nb')) (hle:Nat.ble nb nb'=true):(Code.region id ops.toArray dr).wp P Q a w:=
 VR hm hex (fX h) hp hle V hend
theorem Sp.rv (V:Sp n S0 g0 w0 σ nb a g w) (L':DL) (H':Hp) (hL:BG σ.1 (AB L')=L':=by kernel_rfl) (hH:F0 σ.2 (AB H')=H':=by kernel_rfl):St n S0 g0 w0 L' H' nb a g w:=
 SS.weak V (λt d ht=>(Fb (ts:=AB L') (by rw[hL];exact ht)).2) (λk o hk=>Kw (ts:=AB H') (by rw[hH];exact hk)) λ_ h=>h
theorem Sd {x y:Code} {c:Operand} (t:Bool) (V:Sp n S0 g0 w0 σ nb a g w) (ht:t=true->x.wp P Q a w) (hf:t=false->y.wp P Q a w) (hc:Fw σ.1 c=some (.v (.bool t)):=by kernel_rfl):(Code.cond c x y).wp P Q a w:=
 lM V.st hc ht hf
theorem AJ {x y:Code} {c:Operand} (p:Prop) [Decidable p] (V:Sp n S0 g0 w0 σ nb a g w) (ht:p->x.wp P Q a w) (hf:¬p->y.wp P Q a w) (hc:Fw σ.1 c=some (.v (.bool (decide p))):=by kernel_rfl):(Code.cond c x y).wp P Q a w:=
 lM V.st hc (λh=>ht (cj h)) λh=>hf (of_decide_eq_false h)
theorem IH {x y:Code} {c:Operand} (p:Prop) [Decidable p] (V:Sp n S0 g0 w0 σ nb a g w) (ht:¬p->x.wp P Q a w) (hf:p->y.wp P Q a w) (hc:Fw σ.1 c=some (.v (.bool (!decide p))):=by kernel_rfl):(Code.cond c x y).wp P Q a w:=
 lM V.st hc (λh=>ht λhp=>by rw[decide_eq_true hp]at h;cases h) λh=>hf (by simpa using h)
theorem AG {x y:Code} {c:Operand} (V:Sp n S0 g0 w0 σ nb a g w) (h:x.wp P Q a w) (hc:Fw σ.1 c=some (.v (.bool true)):=by kernel_rfl):(Code.cond c x y).wp P Q a w:=
 lM V.st hc (λ_=>h) λh=>nomatch h
theorem Ai {x y:Code} {c:Operand} (V:Sp n S0 g0 w0 σ nb a g w) (h:y.wp P Q a w) (hc:Fw σ.1 c=some (.v (.bool false)):=by kernel_rfl):(Code.cond c x y).wp P Q a w:=
 lM V.st hc (λh=>nomatch h) λ_=>h
theorem Sp.ren {ks0:List Nat} (Y:∀k v,g0.N k=some v->k∈ks0) (V:Sp n S0 g0 w0 σ nb a g w) (ρ:OM) (L':DL) (H':Hc) (nb':Nat) (hc:Ib ρ ks0 L' H' nb'=true) (hL:BG σ.1 (AB L')=L'.map λp=>(p.1,p.2.ren (rn ρ))) (hH:(H'.map λp=>A7 σ.2 (rn ρ p.1))=H'.map λp=>some (p.2.ren (rn ρ))):∃g',St n S0 g0 w0 L' (Hv H') nb' a g' w:=by
 refine St.ren Y V.st ρ L' H' nb' hc hL ?_
 clear hc hL
 induction H' with
 |nil=>trivial
 |cons p r ih=>
  obtain⟨j,o⟩:=p
  simp only[bh,List.cons.injEq]at hH
  exact⟨hH.1,ih hH.2⟩
theorem Sp.rn {ks0:List Nat} (V:Sp n S0 g0 w0 σ nb a g w) (ρ:OM) (L':DL) (H':Hc) (nb':Nat) (Y:∀k v,g0.N k=some v->k∈ks0) (hc:Ib ρ ks0 L' H' nb'=true:=by kernel_rfl) (hL:BG σ.1 (AB L')=L'.map λp=>(p.1,p.2.ren (rn ρ)):=by kernel_rfl) (hH:(H'.map λp=>A7 σ.2 (rn ρ p.1))=(H'.map λp=>some (p.2.ren (rn ρ))):=by kernel_rfl):∃g',Sp n S0 g0 w0 (L',Hv H') nb' a g' w:=
 Sp.ren Y V ρ L' H' nb' hc hL hH
theorem zU {ι : Type} {code : Code} {ks0 : List Nat} (Y : ∀ k v, g0.N k = some v -> k ∈ ks0) (V : Sp n S0 g0 w0 σ nb a g w) (m : ι -> Nat) (Li : ι -> DL) (Hi : ι -> Hc) (Pi : ι -> Prop) (nb' : Nat) (s0 : ι) (ρ : OM) (hP : Pi s0)
  (step:∀s a g w,Pi s->Sp n S0 g0 w0 (Li s,Hv (Hi s)) nb' a g w->code.wp P (Exit.then (λa' w'=>∃s',m s'<m s/\Pi s'/\∃g',Sp n S0 g0 w0 (Li s',Hv (Hi s')) nb' a' g' w') Q) a w)
  (h1:Ib ρ ks0 (Li s0) (Hi s0) nb'=true:=by kernel_rfl) (h2:BG σ.1 (AB (Li s0))=(Li s0).map λp=>(p.1,p.2.ren (rn ρ)):=by kernel_rfl) (h3:((Hi s0).map λp=>A7 σ.2 (rn ρ p.1))=((Hi s0).map λp=>some (p.2.ren (rn ρ))):=by kernel_rfl):(Code.loop code).wp P Q a w:=by
 obtain⟨g',hS'⟩:=Sp.ren Y V ρ (Li s0) (Hi s0) nb' h1 h2 h3
 exact zV m Li (λs=>Hv (Hi s)) Pi s0 hP hS' step
theorem zM {ι : Type} {ks0 : List Nat} (Y : ∀ k v, g0.N k = some v -> k ∈ ks0) (V : Sp n S0 g0 w0 σ nb a g w) {m : ι -> Nat} {Li : ι -> DL} {Hi : ι -> Hc} {Pi : ι -> Prop} {nb' : Nat} {s : ι} (s' : ι) (ρ : OM) (hm : m s' < m s) (hP : Pi s') (h1 : Ib ρ ks0 (Li s') (Hi s') nb' = true := by kernel_rfl) (h2 : BG σ.1 (AB (Li s')) = (Li s').map λp => (p.1, p.2.ren (rn ρ)) := by kernel_rfl) (h3 : ((Hi s').map λp => A7 σ.2 (rn ρ p.1)) = ((Hi s').map λp => some (p.2.ren (rn ρ))) := by kernel_rfl) :
  ∃s',m s'<m s/\Pi s'/\∃g',Sp n S0 g0 w0 (Li s',Hv (Hi s')) nb' a g' w:=by
 obtain⟨g',hS'⟩:=Sp.ren Y V ρ (Li s') (Hi s') nb' h1 h2 h3
 exact⟨s',hm,hP,g',hS'⟩
def KF (nn:Bool):Option O->D
 |some (.sl _ e xs)=> .ls nn e xs
 |_=> .top
def Ab6:Option O->Bool
 |some (.sl ..)=>true
 |_=>false
def uH:Option O->D
 |some (.ob _ d)=>d
 |_=> .nil
def qW:Option O->TypeId
 |some (.ob t _)=>t
 |_=>0
def tE:Option O->Bool
 |some (.ob ..)=>true
 |_=>false
theorem AbK {o:Option O} (h:Ab6 o=true):∃te e xs,o=some (.sl te e xs):=by
 cases o with
 |none=>cases h
 |some o=>cases o with
  |ob=>cases h
  |sl te e xs=>exact⟨te,e,xs,rfl⟩
theorem Ut {o:Option O} (h:tE o=true):o=some (.ob (qW o) (uH o)):=by
 cases o with
 |none=>cases h
 |some o=>cases o with
  |sl=>cases h
  |ob t d=>rfl
theorem Sp.fz (V:Sp n S0 g0 w0 σ nb a g w) (k:Nat) (hk:Ab6 (A7 σ.2 k)=true:=by kernel_rfl):∃g',Sp n S0 g0 w0 (σ.1.map λp=>(p.1,p.2.sb k (λo=> .cp k o) (KF false (A7 σ.2 k))),(k,none)::σ.2.map λp=>(p.1,p.2.map (O.sb · k (λo=> .cp k o) (KF false (A7 σ.2 k))))) nb a g' w:=by
 obtain⟨te,e,xs,h⟩:=AbK hk
 rw[h]
 exact St.frz V.st k false nofun h rfl rfl
theorem Sp.fy (V:Sp n S0 g0 w0 σ nb a g w) (k:Nat) (te:TypeId) (e:List Fk) (xs:List (RT e)) (hx:xs≠[]) (hk:A7 σ.2 k=some (.sl te e xs):=by kernel_rfl):∃g',Sp n S0 g0 w0 (σ.1.map λp=>(p.1,p.2.sb k (λo=> .cp k o) (.ls true e xs)),(k,none)::σ.2.map λp=>(p.1,p.2.map (O.sb · k (λo=> .cp k o) (.ls true e xs)))) nb a g' w:=
 St.frz V.st k true (λ_=>hx) hk rfl rfl
theorem Sp.im (V:Sp n S0 g0 w0 σ nb a g w) (k:Nat) (hk:tE (A7 σ.2 k)=true:=by kernel_rfl):∃g',Sp n S0 g0 w0 (σ.1.map λp=>(p.1,p.2.sb k (λo=> .im (uH (A7 σ.2 k)) o) (.sk k)),(k,none)::σ.2.map λp=>(p.1,p.2.map (O.sb · k (λo=> .im (uH (A7 σ.2 k)) o) (.sk k)))) nb a g' w:=
 St.imm V.st k (Ut hk) rfl rfl
theorem Sp.wk (V:Sp n S0 g0 w0 σ nb a g w) (t:Nat) (e:D) (ht:(Ej σ.1 t).isSome=true:=by kernel_rfl):Sp n S0 g0 w0 (qH t (weak ((Ej σ.1 t).getD .top) e) σ.1,σ.2) nb a g w:=by
 obtain⟨d,hd⟩:=gd.1 ht
 rw[hd]
 exact St.wk V.st t e hd rfl
theorem Sp.wko (V:Sp n S0 g0 w0 σ nb a g w) (k:Nat) (es:List D) (hk:tE (A7 σ.2 k)=true:=by kernel_rfl):Sp n S0 g0 w0 (σ.1,(k,some (.ob (qW (A7 σ.2 k)) (xX (uH (A7 σ.2 k)) es)))::σ.2) nb a g w:=
 St.wko V.st k es (Ut hk) rfl
theorem Sp.alias (V:Sp n S0 g0 w0 σ nb a g w) (k:Nat) (hk:(A7 σ.2 k).isSome=true:=by kernel_rfl):∃g',Sp n S0 g0 w0 (σ.1.map λp=>(p.1,p.2.sb k (λo=> .cp nb o) (.sk nb)),(k,none)::(nb,(A7 σ.2 k).map (O.sb · k (λo=> .cp nb o) (.sk nb)))::σ.2.map λp=>(p.1,p.2.map (O.sb · k (λo=> .cp nb o) (.sk nb)))) (nb+1) a g' w:=by
 obtain⟨o,ho⟩:=gd.1 hk
 rw[ho]
 exact St.alias V.st k ho rfl rfl
theorem Sp.nilk (V:Sp n S0 g0 w0 σ nb a g w) (t:Nat) (te:TypeId) (e:List Fk) (ht:Ej σ.1 t=some (.v (.slice none 0 0)):=by kernel_rfl):∃g',Sp n S0 g0 w0 (qH t (.sk nb) σ.1,(nb,some (.sl te e []))::σ.2) (nb+1) a g' w:=
 St.nilk V.st t te e ht rfl rfl
def Adi:Option D->Bool:=Option.isSome
theorem Sp.nilob (V:Sp n S0 g0 w0 σ nb a g w) (k i:Nat) (te:TypeId) (e:List Fk) (hk:tE (A7 σ.2 k)=true:=by kernel_rfl) (hd:Adi (zL nb i (uH (A7 σ.2 k)))=true:=by kernel_rfl):∃g',Sp n S0 g0 w0 (σ.1,(nb,some (.sl te e []))::(k,some (.ob (qW (A7 σ.2 k)) ((zL nb i (uH (A7 σ.2 k))).getD .nil)))::σ.2) (nb+1) a g' w:=by
 obtain⟨d',h⟩:=gd.1 hd
 rw[h]
 exact St.nilob V.st k i te e (Ut hk) h rfl
theorem Sp.nilor (V:Sp n S0 g0 w0 σ nb a g w) (t:Nat) (e:List Fk) (xs:List (RT e)) (ht:Ej σ.1 t=some (.ls false e xs):=by kernel_rfl):(xs=[]/\Sp n S0 g0 w0 (qH t (.v (.slice none 0 0)) σ.1,σ.2) nb a g w)\/Sp n S0 g0 w0 (qH t (.ls true e xs) σ.1,σ.2) nb a g w:=
 St.nilor V.st t ht rfl rfl
theorem Ec (hD:Dfr.ds=([]:List Deferred)) {fn:Func} {c:Con} {e:Exit} (he:e= .normal\/e= .ret) (V:Sp n (c.foot g0) g0 w0 σ nb a g w) (ds:List D) (Hx:Hp) (hr:weak (XN ds) c.res=c.res) (h1:E6 Hx c.H1 true) (h:KD P σ.1 σ.2 fn.results.toList=some ds:=by kernel_rfl) (hx:F0 σ.2 (AB Hx)=Hx:=by kernel_rfl):bodyPost P fn (R1 λv w'=>∃g',Ek c g0 w0 v g' w') e a w:=by
 refine wW hD he V.st h hr ?_
 have key:∀(r:Hc),E6 Hx r true->E6 σ.2 r true:=by
  intro r
  induction r with
  |nil=>exact λh=>h
  |cons p r ih=>
   obtain⟨k,o⟩:=p
   exact λh=>⟨Kw (ts:=AB Hx) (by rw[hx];exact h.1),ih h.2⟩
 exact key _ h1
end
end Go.Sx
