/- General lemmas, walks. -/
import Derived.Tactics
import Derived.Orders
import Derived.Below
import Derived.Laws.Cells
import Derived.Laws.StructEq
import Derived.Laws.BytesString
import Derived.ChangeKeysEq
import Derived.MapKept
import Derived.Maps.AppendAt
import Derived.Laws.Strings
set_option maxRecDepth 100000
set_option maxHeartbeats 1000000
set_option linter.unusedSimpArgs false
set_option linter.unusedVariables false
set_option linter.unnecessarySimpa false
set_option linter.unusedSectionVars false
namespace Go.Mi
open Go.RowKit
def lk:List (Nat×Value)→Nat→Option Value
 |[],_=>none
 |(s,v)::r,t=>bif Nat.beq s t then some v else lk r t
theorem Bb {s t:Nat} (h:¬s=t):Nat.beq s t=false:=by
 cases e:Nat.beq s t with
 |false=>rfl
 |true=>exact absurd (Nat.eq_of_beq_eq_true e) h
class Dfr where
 ds:List Deferred
instance dfr0:Dfr:=⟨[]⟩
variable [Dfr]
structure Frm (a:Act) (n:Nat) (L:List (Nat×Value)):Prop where
 size:a.tmps.size=n
 defers:a.defers=Dfr.ds
 get:∀t v,lk L t=some v→a.tmps.getD t undef=v
def ev (L:List (Nat×Value)):Operand→Option Value
 | .tmp t=>lk L t
 | .const v=>some v
 | .global g=>some (.pointer (some ⟨g,0,none⟩))
 | .func f=>some (.func (.func f) #[] #[])
def tN (L:List (Nat×Value)):List Operand→Option (List Value)
 |[]=>some []
 |x::r=>match ev L x,tN L r with
  |some v,some vs=>some (v::vs)
  |_,_=>none
theorem Frm.eval {a:Act} {n:Nat} {L:List (Nat×Value)} (h:Frm a n L) {x:Operand} {v:Value} (hx:ev L x=some v):a.eval x=v:=by
 cases x with
 |tmp t=>exact h.get t v hx
 |const u=>simpa[ev,Act.eval]using hx
 |global g=>simpa[ev,Act.eval]using hx
 |func f=>simpa[ev,Act.eval]using hx
theorem Frm.evals {a:Act} {n:Nat} {L:List (Nat×Value)} (h:Frm a n L):∀{xs:List Operand} {vs:List Value},tN L xs=some vs→xs.map a.eval=vs
 |[],vs,hx=>by simpa[tN]using hx
 |x::r,vs,hx=>by
  simp only[tN]at hx
  split at hx
  ·rename_i v us h1 h2
   simp only[Option.some.injEq]at hx
   subst hx
   simp [h.eval h1,h.evals h2]
  ·simp at hx
theorem Frm.put {a:Act} {n:Nat} {L:List (Nat×Value)} (h:Frm a n L) {d:Nat} (hd:Nat.blt d n=true) (v:Value):Frm (a.put (some d) v) n ((d,v)::L):=by
 have hd':d<n:=by simpa[Nat.blt_eq]using hd
 refine⟨by simp [Act.put,h.size],by simpa[Act.put]using h.defers,fun t u hu=> ?_⟩
 simp only[lk]at hu
 by_cases e:d=t
 ·subst e
  simp at hu
  subst hu
  simp [Act.put,h.size,hd']
 ·have :Nat.beq d t=false:=Bb e
  simp only[this,cond_false]at hu
  have :=h.get t u hu
  simp [Act.put,Array.getElem?_setIfInBounds_ne e]
  simpa using this
def t7 (L:List (Nat×Value)):List (Nat×Value)→Prop
 |[]=>True
 |(s,v)::r=>lk L s=some v∧t7 L r
theorem Frm.sub {a:Act} {n:Nat} {L:List (Nat×Value)} (h:Frm a n L):∀{L':List (Nat×Value)},t7 L L'→Frm a n L'
 |[],_=>⟨h.size,h.defers,fun t v hv=>by simp [lk]at hv⟩
 |(s,u)::r,hs=>by
  have ih:=h.sub hs.2
  refine⟨h.size,h.defers,fun t v hv=> ?_⟩
  simp only[lk]at hv
  by_cases e:s=t
  ·subst e
   simp at hv
   subst hv
   exact h.get s u hs.1
  ·have :Nat.beq s t=false:=Bb e
   simp only[this,cond_false]at hv
   exact ih.get t v hv
theorem Frm.enter {n : Nat} {vs : List Value} (hD : Dfr.ds = ([] : List Deferred)) (hn : vs.length ≤ n) :
  Frm {tmps:=vs.toArray++Array.replicate (n-vs.toArray.size) undef,defers:=[]} n (vs.zipIdx.map fun p=>(p.2,p.1)):=by
 refine⟨by simp;omega,hD.symm,?_⟩
 intro t v hv
 have key:∀(l:List Value) (k:Nat),lk ((l.zipIdx k).map fun p=>(p.2,p.1)) t=some v→k≤t∧l[t-k]? =some v:=by
  intro l
  induction l with
  |nil=>intro k h;simp [lk]at h
  |cons x l ih=>
   intro k h
   simp only[List.zipIdx_cons,List.map_cons,lk]at h
   by_cases e:k=t
   ·subst e;simp at h;simp [h]
   ·have :Nat.beq k t=false:=Bb e
    simp only[this,cond_false]at h
    obtain⟨h1,h2⟩:=ih (k+1) h
    refine⟨by omega,?_⟩
    have :t-k=(t-(k+1))+1:=by omega
    rw[this]
    simpa using h2
 obtain⟨_,h2⟩:=key vs 0 hv
 simp at h2
 have hl:t<vs.length:=by
  rcases Nat.lt_or_ge t vs.length with h|h
  ·exact h
  ·simp [List.getElem?_eq_none h]at h2
 have h3:vs[t]=v:=by simpa[List.getElem?_eq_getElem hl]using h2
 simp [Array.getElem?_append,hl,h3]
def Ok1 (P:Program) (o:Oper) (n:Nat) (L:List (Nat×Value)) (w:World) (R:Value→World→Prop):Prop:=
 ∀(a:Act) (K:Act→World→Prop) (Q:Exit→Act→World→Prop),Frm a n L→(∀v w',R v w'→K (a.put o.dst v) w')→o.wp P a w K Q
def Det (P:Program) (o:Oper) (n:Nat) (L:List (Nat×Value)) (w:World) (v:Value) (w2:World):Prop:=
 Ok1 P o n L w fun v' w'=>v'=v∧w'=w2
section
variable {P:Program} {ops:Array Oper} {Q:Exit→Act→World→Prop} {a:Act} {w w2:World} {rest:List Oper} {n:Nat} {L:List (Nat×Value)} {v:Value}
theorem Ok1.mono {o:Oper} {R R':Value→World→Prop} (h:Ok1 P o n L w R) (hr:∀v w',R v w'→R' v w'):Ok1 P o n L w R':=
 fun a K Q hF k=>h a K Q hF fun v w' r=>k v w' (hr v w' r)
theorem Det.of_run {o:Oper} (h:∀a,Frm a n L→(execOp a.eval o).run P w= .ok (.value v) w2):Det P o n L w v w2:=by
 intro a K Q hF k
 simp only[Oper.wp,h a hF,Oper.upon_value]
 exact k _ _ ⟨rfl,rfl⟩
theorem Det.of_skip {o:Oper} (h:∀a,Frm a n L→(execOp a.eval o).run P w= .ok .skip w2):Det P o n L w undef w2:=by
 intro a K Q hF k
 simp only[Oper.wp,h a hF,Oper.upon_skip]
 exact k _ _ ⟨rfl,rfl⟩
def gd (ops:Array Oper) (L:List (Nat×Value)) (j:Nat):Option Bool:=
 match((ops[j]?).bind (·.dst)).bind (lk L ·)with
 |some (.bool b)=>some b
 |_=>none
theorem Frm.yielded (hF:Frm a n L) {j:Nat} {b:Bool} (h:gd ops L j=some b):yielded ops a.tmps j=some b:=by
 unfold gd at h
 unfold Go.yielded
 cases h1:(ops[j]?).bind (·.dst)with
 |none=>simp [h1]at h
 |some d=>
  rw[h1]at h
  simp only[Option.bind_some]at h⊢
  cases h2:lk L d with
  |none=>simp [h2]at h
  |some u=>
   rw[h2]at h
   have h3:=hF.get d u h2
   cases u<;>simp at h
   subst h
   cases h4:a.tmps[d]? with
   |none=>simp [h4,undef]at h3
   |some x=>simp [h4]at h3;subst h3;rfl
end
end Go.Mi
namespace Go.Mi
open Go.RowKit
variable [Dfr]
theorem CY (b o i:Nat):(⟨b,o,none⟩:Addr).add i=⟨b,o+i,none⟩:=by
 unfold Addr.add
 split<;>simp_all
theorem Ed {x:Int} (h1: -9223372036854775808≤x) (h2:x≤9223372036854775807):IntKind.wrap .i64 x=x:=by
 simp [IntKind.wrap,IntKind.bits,IntKind.signed];split<;>omega
theorem iF {x:Int} (h1:0≤x) (h2:x≤18446744073709551615):IntKind.wrap .u64 x=x:=by
 simp [IntKind.wrap,IntKind.bits,IntKind.signed];omega
theorem E5 (x:Int):IntKind.wrap .u16 x=x%65536:=by
 simp [IntKind.wrap,IntKind.bits,IntKind.signed]
theorem EN (x:Int):IntKind.wrap .u8 x=x%256:=by
 simp [IntKind.wrap,IntKind.bits,IntKind.signed]
theorem cD (x:Int):IntKind.wrap .u32 x=x%4294967296:=by
 simp [IntKind.wrap,IntKind.bits,IntKind.signed]
theorem iV {x y:Int} (h:0≤x):x.tdiv y=x/y:=Int.tdiv_eq_ediv_of_nonneg h
section
variable {P:Program} {w:World} {n:Nat} {L:List (Nat×Value)} {ds:Option Tmp} {ty:TypeId} {pos:String} {af:Array Edge} {gu:Option (Nat×Bool)}
theorem Acy {x:Operand} {v:Value} (hx:ev L x=some v):Det P ⟨ds,.move x,ty,pos,af,gu⟩ n L w v w:=
 Det.of_run fun a hF=>by simp [execOp,hF.eval hx]
theorem pU {x:Operand} {v:Value} (hx:ev L x=some v):Det P ⟨ds,.assign x,ty,pos,af,gu⟩ n L w v w:=
 Det.of_run fun a hF=>by simp [execOp,hF.eval hx]
theorem pS {c x y:Operand} {b:Bool} {v:Value} (hc:ev L c=some (.bool b)) (hv:ev L (bif b then x else y)=some v):Det P ⟨ds,.pick c x y,ty,pos,af,gu⟩ n L w v w:=
 Det.of_run fun a hF=>by
  cases b<;>simp at hv<;>simp [execOp,hF.eval hc,hF.eval hv,asBool]
theorem AeE {x:Operand} {b:Bool} {t:TypeId} (hx:ev L x=some (.bool b)):Det P ⟨ds,.unOp .not t x,ty,pos,af,gu⟩ n L w (.bool !b) w:=
 Det.of_run fun a hF=>by simp [execOp,hF.eval hx,Op.unary]
section
variable {x y:Operand} {k:IntKind} {p q r:Int} {t t':TypeId}
theorem AeU (hx:ev L x=some (.int k p)) (hy:ev L y=some (.int k q)) (hr:k.wrap (p+q)=r):Det P ⟨ds,.binOp .add t x y t',ty,pos,af,gu⟩ n L w (.int k r) w:=
 Det.of_run fun a hF=>by subst hr;simp [execOp,hF.eval hx,hF.eval hy,eqGuard,binOp,Op.intArith]
theorem Aez (hx:ev L x=some (.int k p)) (hy:ev L y=some (.int k q)) (hr:k.wrap (p-q)=r):Det P ⟨ds,.binOp .sub t x y t',ty,pos,af,gu⟩ n L w (.int k r) w:=
 Det.of_run fun a hF=>by subst hr;simp [execOp,hF.eval hx,hF.eval hy,eqGuard,binOp,Op.intArith]
theorem AeI (hx:ev L x=some (.int k p)) (hy:ev L y=some (.int k q)) (hr:k.wrap (p*q)=r):Det P ⟨ds,.binOp .mul t x y t',ty,pos,af,gu⟩ n L w (.int k r) w:=
 Det.of_run fun a hF=>by subst hr;simp [execOp,hF.eval hx,hF.eval hy,eqGuard,binOp,Op.intArith]
theorem AeD (hx:ev L x=some (.int k p)) (hy:ev L y=some (.int k q)) (h0:q≠0) (hr:k.wrap (p.tdiv q)=r):Det P ⟨ds,.binOp .quo t x y t',ty,pos,af,gu⟩ n L w (.int k r) w:=
 Det.of_run fun a hF=>by subst hr;simp [execOp,hF.eval hx,hF.eval hy,eqGuard,binOp,Op.intDiv,h0]
theorem AeC (hx:ev L x=some (.int k p)) (hy:ev L y=some (.int k q)) (h0:q≠0) (hr:p.tmod q=r):Det P ⟨ds,.binOp .rem t x y t',ty,pos,af,gu⟩ n L w (.int k r) w:=
 Det.of_run fun a hF=>by subst hr;simp [execOp,hF.eval hx,hF.eval hy,eqGuard,binOp,Op.intDiv,h0]
theorem AeT (hx:ev L x=some (.int k p)) (hy:ev L y=some (.int k q)) (hr:k.wrap (BitVec.ofInt k.bits p&&&BitVec.ofInt k.bits q).toNat=r):Det P ⟨ds,.binOp .and t x y t',ty,pos,af,gu⟩ n L w (.int k r) w:=
 Det.of_run fun a hF=>by subst hr;simp [execOp,hF.eval hx,hF.eval hy,eqGuard,binOp,Op.intBits]
theorem AfH (hx:ev L x=some (.int k p)) (hy:ev L y=some (.int k q)) (hr:k.wrap (BitVec.ofInt k.bits p|||BitVec.ofInt k.bits q).toNat=r):Det P ⟨ds,.binOp .or t x y t',ty,pos,af,gu⟩ n L w (.int k r) w:=
 Det.of_run fun a hF=>by subst hr;simp [execOp,hF.eval hx,hF.eval hy,eqGuard,binOp,Op.intBits]
theorem Aey (hx:ev L x=some (.int k p)) (hy:ev L y=some (.int k q)) (hr:k.wrap (BitVec.ofInt k.bits p^^^BitVec.ofInt k.bits q).toNat=r):Det P ⟨ds,.binOp .xor t x y t',ty,pos,af,gu⟩ n L w (.int k r) w:=
 Det.of_run fun a hF=>by subst hr;simp [execOp,hF.eval hx,hF.eval hy,eqGuard,binOp,Op.intBits]
theorem AeB {k' : IntKind} (hx : ev L x = some (.int k p)) (hy : ev L y = some (.int k' q)) (h0 : 0 ≤ q) (hr : k.wrap (p * 2 ^ (min q.toNat k.bits)) = r) : Det P ⟨ds, .binOp .shl t x y t', ty, pos, af, gu⟩ n L w (.int k r) w :=
  Det.of_run fun a hF => by subst hr; have : ¬ q < 0 := by omega
                            simp [execOp,hF.eval hx,hF.eval hy,eqGuard,binOp,Op.shift,this]
theorem AeA {k' : IntKind} (hx : ev L x = some (.int k p)) (hy : ev L y = some (.int k' q)) (h0 : 0 ≤ q) (hr : p.fdiv (2 ^ (min q.toNat k.bits)) = r) : Det P ⟨ds, .binOp .shr t x y t', ty, pos, af, gu⟩ n L w (.int k r) w :=
  Det.of_run fun a hF => by subst hr; have : ¬ q < 0 := by omega
                            simp [execOp,hF.eval hx,hF.eval hy,eqGuard,binOp,Op.shift,this]
theorem AeM (hx:ev L x=some (.int k p)) (hy:ev L y=some (.int k q)):Det P ⟨ds,.binOp .lss t x y t',ty,pos,af,gu⟩ n L w (.bool (decide (p<q))) w:=
 Det.of_run fun a hF=>by simp [execOp,hF.eval hx,hF.eval hy,eqGuard,binOp,Op.intCmp]
theorem AeN (hx:ev L x=some (.int k p)) (hy:ev L y=some (.int k q)):Det P ⟨ds,.binOp .leq t x y t',ty,pos,af,gu⟩ n L w (.bool (decide (p≤q))) w:=
 Det.of_run fun a hF=>by simp [execOp,hF.eval hx,hF.eval hy,eqGuard,binOp,Op.intCmp]
theorem AeP (hx:ev L x=some (.int k p)) (hy:ev L y=some (.int k q)):Det P ⟨ds,.binOp .gtr t x y t',ty,pos,af,gu⟩ n L w (.bool (decide (q<p))) w:=
 Det.of_run fun a hF=>by simp [execOp,hF.eval hx,hF.eval hy,eqGuard,binOp,Op.intCmp]
theorem AeQ (hx:ev L x=some (.int k p)) (hy:ev L y=some (.int k q)):Det P ⟨ds,.binOp .geq t x y t',ty,pos,af,gu⟩ n L w (.bool (decide (q≤p))) w:=
 Det.of_run fun a hF=>by simp [execOp,hF.eval hx,hF.eval hy,eqGuard,binOp,Op.intCmp]
theorem AeR (hx:ev L x=some (.int k p)) (hy:ev L y=some (.int k q)):Det P ⟨ds,.binOp .eql t x y t',ty,pos,af,gu⟩ n L w (.bool (decide (p=q))) w:=
 Det.of_run fun a hF=>by simp [execOp,hF.eval hx,hF.eval hy,eqGuard,binOp,Op.intCmp];rfl
theorem AeH (hx:ev L x=some (.int k p)) (hy:ev L y=some (.int k q)):Det P ⟨ds,.binOp .neq t x y t',ty,pos,af,gu⟩ n L w (.bool (!decide (p=q))) w:=
 Det.of_run fun a hF=>by simp [execOp,hF.eval hx,hF.eval hy,eqGuard,binOp,Op.intCmp];rfl
end
theorem Ak {t:TypeId} {d:TypeDesc} (h:P.underlying t=some d):(underlying t).run P w= .ok d w:=by
 simp [underlying,h]
theorem AcB {x : Operand} {k k' : IntKind} {p r : Int} {s t : TypeId} {d : TypeDesc} (hs : P.underlying s = some d) (ht : P.underlying t = some (.int k')) (hx : ev L x = some (.int k p)) (hr : k'.wrap p = r) :
  Det P ⟨ds,.convert s t x,ty,pos,af,gu⟩ n L w (.int k' r) w:=
 Det.of_run fun a hF=>by
  subst hr
  simp [execOp,hF.eval hx,convert,Ak hs,Ak ht,Conv.intToInt]
theorem S2 {x:Operand} {vs:Array Value} {i:Nat} {v:Value} (hx:ev L x=some (.tuple vs)) (hv:vs[i]? =some v):Det P ⟨ds,.extract x i,ty,pos,af,gu⟩ n L w v w:=
 Det.of_run fun a hF=>by simp [execOp,hF.eval hx,Instr.extract,hv]
theorem Cv {x : Operand} {T e : TypeId} {ad : Option Addr} {l c : Nat} (hT : P.underlying T = some (.slice e)) (hx : ev L x = some (.slice ad l c)) :
  Det P ⟨ds,.call ⟨.builtin .len,#[x],#[T]⟩,ty,pos,af,gu⟩ n L w (.int .i64 l) w:=
 Det.of_run fun a hF=>by simp [execOp,hF.eval hx,resolve,invoke,builtin,Builtin.len_,Ak hT,goInt]
theorem UI {x : Operand} {T : TypeId} {s : ByteArray} (hT : P.underlying T = some .string) (hx : ev L x = some (.string s)) :
  Det P ⟨ds,.call ⟨.builtin .len,#[x],#[T]⟩,ty,pos,af,gu⟩ n L w (.int .i64 s.size) w:=
 Det.of_run fun a hF=>by simp [execOp,hF.eval hx,resolve,invoke,builtin,Builtin.len_,Ak hT,goInt]
theorem AeK {x y : Operand} {T : Array TypeId} {k : IntKind} {p q r : Int} (hx : ev L x = some (.int k p)) (hy : ev L y = some (.int k q)) (hr : (if q < p then q else p) = r) :
  Det P ⟨ds,.call ⟨.builtin .min,#[x,y],T⟩,ty,pos,af,gu⟩ n L w (.int k r) w:=
 Det.of_run fun a hF=>by subst hr;simp [execOp,hF.eval hx,hF.eval hy,resolve,invoke,builtin,Builtin.min_,Builtin.min2]
def TypeDesc.flat:TypeDesc→Bool
 | .struct _| .array _ _=>false
 |_=>true
theorem Gi {t:TypeId} {d:TypeDesc} (h:P.underlying t=some d) (hf:TypeDesc.flat d=true):(isAgg t).run P w= .ok false w:=by
 simp only[isAgg,Sem.run_bind,Ak h,Result.andThen_ok]
 cases d<;>simp_all [TypeDesc.flat]
theorem bI {x : Operand} {t : TypeId} {d : TypeDesc} {ad : Addr} {v : Value} (ht : P.underlying t = some d) (hf : TypeDesc.flat d = true) (hx : ev L x = some (.pointer (some ad))) (hc : w.cell? ad = some v) :
  Det P ⟨ds,.load t x,ty,pos,af,gu⟩ n L w v w:=
 Det.of_run fun a hF=>by
  simp [execOp,hF.eval hx,Instr.loadAt,Instr.sureAddr,loadVar,Gi ht hf,hc]
end
structure NewB (w w':World) (b:Nat) (c:Array Value) (t:TypeId):Prop where
 num:b=w.heap.size
 eq:w'=w.alloc (.cells c t)
structure Upd (w w':World) (b:Nat) (c:Array Value) (t:TypeId):Prop where
 os:w'.os=w.os
 tape:w'.tape=w.tape
 output:w'.output=w.output
 size:w'.heap.size=w.heap.size
 blk:w'.heap[b]? =some (.cells c t (0,0))
 other:∀k,k≠b→w'.heap[k]? =w.heap[k]?
theorem Upd.refl {w:World} {b:Nat} {c:Array Value} {t:TypeId} (h:w.heap[b]? =some (.cells c t (0,0))):Upd w w b c t:=⟨rfl,rfl,rfl,rfl,h,fun _ _=>rfl⟩
theorem Upd.trans {w w1 w2:World} {b:Nat} {c c':Array Value} {t:TypeId} (h:Upd w w1 b c t) (h':Upd w1 w2 b c' t):Upd w w2 b c' t:=
 ⟨h'.os.trans h.os,h'.tape.trans h.tape,h'.output.trans h.output,h'.size.trans h.size,h'.blk,fun k hk=>(h'.other k hk).trans (h.other k hk)⟩
theorem Ji {w:World} {b o:Nat} {c:Array Value} {t:TypeId} {f:Nat×Nat} (h:w.heap[b]? =some (.cells c t f)):w.cell? ⟨b,o,none⟩=c[o]? :=by
 simp [World.cell?,h]
section
variable {P:Program} {w:World} {n:Nat} {L:List (Nat×Value)} {ds:Option Tmp} {ty:TypeId} {pos:String} {af:Array Edge} {gu:Option (Nat×Bool)}
theorem AbS {x:Operand} {t:TypeId} {v:Value} (hx:ev L x=some v):Ok1 P ⟨ds,.box t x,ty,pos,af,gu⟩ n L w fun v' w'=>∃b,v'= .pointer (some ⟨b,0,none⟩)∧NewB w w' b v.cells t:=by
 have hd:Det P ⟨ds,.box t x,ty,pos,af,gu⟩ n L w (.pointer (some ⟨w.heap.size,0,none⟩)) (w.alloc (.cells v.cells t)):=Det.of_run fun a hF=>by
  simp [execOp,hF.eval hx,Instr.box,newVar,newRow]
 exact hd.mono fun v' w' ⟨h1,h2⟩=>⟨_,h1,rfl,h2⟩
theorem mK {t:TypeId} {z:Value} (hz:(P.info? t).bind (·.zero)=some z):Ok1 P ⟨ds,.alloc t,ty,pos,af,gu⟩ n L w fun v' w'=>∃b,v'= .pointer (some ⟨b,0,none⟩)∧NewB w w' b z.cells t:=by
 obtain⟨inf,hi,hz'⟩:=Option.bind_eq_some_iff.1 hz
 have hd:Det P ⟨ds,.alloc t,ty,pos,af,gu⟩ n L w (.pointer (some ⟨w.heap.size,0,none⟩)) (w.alloc (.cells z.cells t)):=Det.of_run fun a hF=>by
  simp [execOp,Instr.alloc,zeroValue,typeInfo,hi,hz',newVar,newRow]
 exact hd.mono fun v' w' ⟨h1,h2⟩=>⟨_,h1,rfl,h2⟩
theorem vM {x : Operand} {t e : TypeId} {m bytes : Nat} {z : Value} (hT : P.underlying t = some (.slice e)) (hs : (P.info? e).map (fun i => (i.size, i.bytes, i.zero)) = some (1, bytes, some z)) (hx : ev L x = some (.int .i64 m)) (hz : z.oneCell' = true)
  (hm:bytes*m≤2^48) (hm':m<2^63):Ok1 P ⟨ds,.makeSlice t x x,ty,pos,af,gu⟩ n L w fun v' w'=>∃b,v'= .slice (some ⟨b,0,none⟩) m m∧NewB w w' b ((Array.range m).map fun _=>z) e:=by
 obtain⟨inf,hi,hz'⟩:=Option.map_eq_some_iff.1 hs
 simp only[Prod.mk.injEq]at hz'
 obtain⟨h1,h2,h3⟩:=hz'
 have hzc:z.cells= #[z]:=by cases z<;>simp_all [Value.cells,Value.oneCell']
 have hw:IntKind.wrap .i64 (m:Int)=m:=by
  have :(m:Int)<2^63:=by exact_mod_cast hm'
  exact Ed (by omega) (by omega)
 have hb:¬((bytes:Int)*(m:Int)>2^48):=by
  have :((bytes*m:Nat):Int)≤2^48:=by exact_mod_cast hm
  rw[Int.natCast_mul]at this
  omega
 have hd:Det P ⟨ds,.makeSlice t x x,ty,pos,af,gu⟩ n L w (.slice (some ⟨w.heap.size,0,none⟩) m m) (w.alloc (.cells ((Array.range m).map fun _=>z) e)):=Det.of_run fun a hF=>by
  have hn:¬((m:Int)<0):=by omega
  have hti:∀w,(typeInfo e).run P w= .ok inf w:=fun w=>by simp [typeInfo,hi]
  simp only[execOp,hF.eval hx,Instr.makeSlice,Sem.run_bind,Ak hT,Result.andThen_ok,asInt,asIntOf,hti,Sem.run_pure,h2,hw,sizeOf]
  have hc1:(decide ((m:Int)<0)||decide ((bytes:Int)*(m:Int)>2^48))=false:=by simp only[hn,hb,decide_false,Bool.or_false]
  simp only[hc1]
  by_cases h0:m=0
  ·subst h0
   have hz0:Array.range 0= #[]:=by apply Array.ext';simp
   simp [newRow,hti,hz0]
  ·have hn':¬((m:Int)<0):=by omega
   rw[if_neg (by simp)]
   simp [newRow,zeroValue,hti,h3,hzc,h0,h1,Nat.mod_one]
 exact hd.mono fun v' w' ⟨h1,h2⟩=>⟨_,h1,rfl,h2⟩
structure Callee (P:Program) (f:FuncId):Prop where
 ok:∃fn,P.funcs[f]? =some fn∧(fn.name== "runtime.NumGoroutine")=false∧fn.body.isNone=false
def Rh (R:Value→World→Prop):Ending→World→Prop:=fun e w'=>∃v,e= .returned v∧R v w'
theorem LZ {x : Operand} {xs : Array Operand} {ts : Array TypeId} {f : FuncId} {first captured : Array Value} {vs : List Value} {R : Value → World → Prop} (hx : ev L x = some (.func (.func f) first captured)) (hc : Callee P f) (ha : tN L xs.toList = some vs)
  (h:Calls P f ((first ++vs.toArray)++captured) w (Rh R)):Ok1 P ⟨ds,.call ⟨.value x,xs,ts⟩,ty,pos,af,gu⟩ n L w R:=by
 intro a K Q hF k
 obtain⟨fn,h1,h2,h3⟩:=hc.ok
 have hxs:xs.map a.eval=vs.toArray:=by
  have :=hF.evals ha
  rw[←this,←List.map_toArray]
 simp only[Oper.wp,execOp,resolve,hF.eval hx,Deferred.ofValue,Sem.run_bind,Sem.run_pure,Result.andThen_ok,invoke,callFunc,run_program,h1,h2,h3,hxs]
 simp only[Bool.false_eq_true,if_false,Sem.run_pure,Oper.upon_enter]
 refine h.mono fun e w' he=> ?_
 obtain⟨v,rfl,hr⟩:=he
 exact k v w' hr
end
end Go.Mi
namespace Go.Mi
open Go.RowKit
variable [Dfr]
abbrev tQ:=Nat×Array Value×TypeId
structure Mem (w0 w:World) (M:List tQ):Prop where
 below:Below w0.heap.size w0 w
 blk:∀e,e∈M→w.heap[e.1]? =some (.cells e.2.1 e.2.2 (0,0))
 new:∀e,e∈M→w0.heap.size≤e.1
 apart:(M.map (·.1)).Nodup
theorem Mem.lt {w0 w:World} {M:List tQ} (h:Mem w0 w M) {e:tQ} (he:e∈M):e.1<w.heap.size:=by
 have :=h.blk e he
 rcases Nat.lt_or_ge e.1 w.heap.size with h'|h'
 ·exact h'
 ·simp [Array.getElem?_eq_none h']at this
theorem Mem.alloc {w0 w w':World} {M:List tQ} (h:Mem w0 w M) {b:Nat} {c:Array Value} {t:TypeId} (hn:NewB w w' b c t):Mem w0 w' (M++[(b,c,t)]):=by
 obtain⟨rfl,rfl⟩:=hn
 refine⟨h.below.alloc (h.below.size) _,fun e he=> ?_,fun e he=> ?_,?_⟩
 ·rcases List.mem_append.1 he with he|he
  ·rw[Below.heap_alloc _ _ _ (h.lt he)];exact h.blk e he
  ·simp at he;subst he;show(w.heap.push _)[w.heap.size]? =_;simp
 ·rcases List.mem_append.1 he with he|he
  ·exact h.new e he
  ·simp at he;subst he;exact h.below.size
 ·simp only[List.map_append,List.map_cons,List.map_nil]
  refine List.nodup_append.2 ⟨h.apart,by simp,fun x hx y hy=> ?_⟩
  obtain rfl:=List.mem_singleton.1 hy
  obtain⟨e,he,rfl⟩:=List.mem_map.1 hx
  have :=h.lt he
  omega
theorem Mem.upd {w0 w w':World} {M:List tQ} (h:Mem w0 w M) (i:Nat) {b:Nat} {c c':Array Value} {t:TypeId} (hi:M[i]? =some (b,c,t)) (hu:Upd w w' b c' t):Mem w0 w' (M.set i (b,c',t)):=by
 have hlt:i<M.length:=by
  rcases Nat.lt_or_ge i M.length with h'|h'
  ·exact h'
  ·simp [List.getElem?_eq_none h']at hi
 have hmi:M[i]=(b,c,t):=by simpa[List.getElem?_eq_getElem hlt]using hi
 have hmem:(b,c,t)∈M:=hmi▸List.getElem_mem hlt
 have hB:=h.new _ hmem
 have hmap:(M.set i (b,c',t)).map (·.1)=M.map (·.1):=by
  rw[List.map_set]
  apply List.ext_getElem?
  intro j
  simp only[List.getElem?_set,List.length_map,List.getElem?_map]
  split
  ·rename_i e;subst e;simp [hlt,hmi]
  ·rfl
 refine⟨h.below.trans ⟨hu.os,hu.tape,hu.output,by rw[hu.size];exact Nat.le_refl _,fun k hk=>hu.other k (by simp at hB;omega)⟩,fun e he=> ?_,fun e he=> ?_,by rw[hmap];exact h.apart⟩
 ·obtain⟨j,hj,rfl⟩:=List.mem_iff_getElem.1 he
  simp only[List.getElem_set]
  split
  ·exact hu.blk
  ·rename_i hne
   have hj':j<M.length:=by simpa using hj
   have hd:(M[j]'hj').1≠b:=by
    intro heq
    have :=h.apart
    rw[List.nodup_iff_pairwise_ne,List.pairwise_iff_getElem]at this
    rcases Nat.lt_or_gt_of_ne hne with h1|h1
    ·have :=this i j (by simpa using hlt) (by simpa using hj') h1;simp [hmi]at this;exact this heq.symm
    ·have :=this j i (by simpa using hj') (by simpa using hlt) h1;simp [hmi]at this;exact this heq
   rw[hu.other _ hd]
   exact h.blk _ (List.getElem_mem _)
 ·have :e.1∈(M.set i (b,c',t)).map (·.1):=List.mem_map_of_mem he
  rw[hmap]at this
  obtain⟨e',he',heq⟩:=List.mem_map.1 this
  have :=h.new e' he'
  omega
theorem Mem.call {w0 w w':World} {M:List tQ} (h:Mem w0 w M) (hb:Below w.heap.size w w'):Mem w0 w' M:=
 ⟨h.below.trans (hb.mono h.below.size),fun e he=>by rw[hb.block _ (h.lt he)];exact h.blk e he,h.new,h.apart⟩
theorem Mem.at {w0 w:World} {M:List tQ} (h:Mem w0 w M) (i:Nat) {b:Nat} {c:Array Value} {t:TypeId} (hi:M[i]? =some (b,c,t)):w.heap[b]? =some (.cells c t (0,0)):=
 h.blk _ (List.mem_of_getElem? hi)
theorem Mem.cell {w0 w:World} {M:List tQ} (h:Mem w0 w M) (i:Nat) {b o:Nat} {c:Array Value} {t:TypeId} {v:Value} (hi:M[i]? =some (b,c,t)) (hv:c[o]? =some v):w.cell? ⟨b,o,none⟩=some v:=by
 rw[Ji (h.at i hi),hv]
theorem Mem.old {w0 w:World} {M:List tQ} (h:Mem w0 w M) {ad:Addr} {v:Value} (hv:w0.cell? ad=some v):w.cell? ad=some v:=by
 rw[h.below.cell (World.block_lt_of_cell? w0 ad hv),hv]
theorem Mem.sub {w0 w:World} {M M':List tQ} (h:Mem w0 w M) (hs:List.Sublist M' M):Mem w0 w M':=
 ⟨h.below,fun e he=>h.blk e (hs.subset he),fun e he=>h.new e (hs.subset he),(hs.map _).nodup h.apart⟩
def cl (k:IntKind) (n:Nat) (F:Nat→Int):Array Value:=((List.range n).map fun i=>Value.int k (F i)).toArray
def upd (F:Nat→Int) (i:Nat) (v:Int):Nat→Int:=fun j=>if j=i then v else F j
section
variable {P:Program} {ops:Array Oper} {Q:Exit→Act→World→Prop} {a:Act} {w:World} {n:Nat} {L:List (Nat×Value)}
theorem cE {c : Code} (I : Nat → Act → World → Prop) (k0 : Nat) (h0 : I k0 a w)
  (round:∀k a w,I k a w→c.wp P (Exit.then (fun a' w'=>∃k',k'<k∧I k' a' w') Q) a w):(Code.loop c).wp P Q a w:=by
 intro b k cs
 have key:∀m a w,I m a w→∃e a' w',Q e a' w'∧Arrives P (lone (b.at a (.code c:: .inLoop c::k)) cs w) b k cs e a' w':=by
  intro m
  induction m using Nat.strongRecOn with
  |_ m ih=>
   intro a w hI
   obtain⟨e,a₁,w₁,hq,harr⟩:=round m a w hI b (.inLoop c::k) cs
   cases e with
   |normal=>
    obtain⟨m',hlt,hI'⟩:=hq
    obtain⟨e₂,a₂,w₂,hq₂,harr₂⟩:=ih m' hlt a₁ w₁ hI'
    exact⟨e₂,a₂,w₂,hq₂,.of_steps (Steps.trans harr (.one step_inLoop)) harr₂⟩
   |exit id=>exact⟨_,a₁,w₁,hq,.pass (x:= .inLoop c) rfl (fun _ _=> .inl (by simp)) harr⟩
   |goto l=>exact⟨_,a₁,w₁,hq,.pass (x:= .inLoop c) rfl (fun _ _=> .inl (by simp)) harr⟩
   |ret=>exact⟨_,a₁,w₁,hq,.pass (x:= .inLoop c) rfl (fun _ _=> .inl (by simp)) harr⟩
   |panic ch=>exact⟨_,a₁,w₁,hq,.pass (x:= .inLoop c) rfl (fun _ _=> .inl (by simp)) harr⟩
   |outgrown=>exact⟨_,a₁,w₁,hq,.pass (x:= .inLoop c) rfl (fun _ _=> .inl (by simp)) harr⟩
 obtain⟨e,a',w',hq,harr⟩:=key k0 a w h0
 exact⟨e,a',w',hq,.of_steps (.one step_loop) harr⟩
theorem AdP {c:Operand} {x y:Code} {t:Bool} (hF:Frm a n L) (hc:ev L c=some (.bool t)) (ht:t=true→x.wp P Q a w) (hf:t=false→y.wp P Q a w):(Code.cond c x y).wp P Q a w:=
 wp_cond_split (hF.eval hc) ht hf
theorem qE {f : FuncId} {fn : Func} {c : Code} {vs : List Value} {R : Ending → World → Prop} {n : Nat} (hf : P.funcs[f]? = some fn) (hb : fn.body = some c) (hn : fn.ntmps = n) (hl : Nat.ble vs.length n = true) (hD : Dfr.ds = ([] : List Deferred))
  (h:∀a,Frm a n (vs.zipIdx.map fun p=>(p.2,p.1))→c.wp P (bodyPost P fn R) a w):Calls P f vs.toArray w R:=
 calls_of_wp hf hb (h _ (by subst hn;exact Frm.enter hD (by simpa[Nat.ble_eq]using hl)))
def rv (tmps:Array Value):ResultVar→Sem Value
 | .tmp t=>pure (tmps.getD t undef)
 | .cell x t=>do loadVar t (←asAddr (tmps.getD x undef))
theorem X7 (fn : Func) (tmps : Array Value) : results fn tmps = (do
  let vs ←fn.results.mapM (rv tmps)
  pure (if h:vs.size=1 then vs[0]else .tuple vs)):=by
 have :(fun(r:ResultVar)=>(match r with | .tmp t=>pure (tmps.getD t undef)| .cell a t=>do loadVar t (←asAddr (tmps.getD a undef)):Sem Value))=rv tmps:=by
  funext r
  cases r<;>rfl
 unfold results
 rw[←this]
 rfl
def RV (P:Program) (a:Act) (w:World) (r:ResultVar) (v:Value):Prop:=(rv a.tmps r).run P w= .ok v w
theorem RV.tmp {t:Tmp} {v:Value} (hF:Frm a n L) (hv:lk L t=some v):RV P a w (.tmp t) v:=by
 have :=hF.get t v hv
 simp only[RV,rv,this,Sem.run_pure]
theorem sP {fn:Func} {R:Value→World→Prop} {v:Value} (hD:Dfr.ds=([]:List Deferred)) (hF:Frm a n L) (hr:(results fn a.tmps).run P w= .ok v w) (h:R v w):bodyPost P fn (Rh R) .ret a w:=
 ⟨hF.defers.trans hD,v,hr,v,rfl,h⟩
theorem sQ {fn:Func} {R:Value→World→Prop} {v:Value} (hD:Dfr.ds=([]:List Deferred)) (hF:Frm a n L) (hr:(results fn a.tmps).run P w= .ok v w) (h:R v w):bodyPost P fn (Rh R) .normal a w:=
 ⟨hF.defers.trans hD,v,hr,v,rfl,h⟩
end
end Go.Mi
namespace Go.Mi
open Go.RowKit
variable [Dfr]
abbrev Gr (w w':World):Prop:=Below w.heap.size w w'
theorem Gr.trans {a b c:World} (h:Gr a b) (k:Gr b c):Gr a c:=Below.trans h (k.mono h.size)
inductive PS (G:World→World→Prop)where
 |val (v:Value)
 |rel (F:Value→World→Prop) (st:∀v w w',F v w→G w w'→F v w')
section
variable {G:World→World→Prop}
def PS.holds:PS G→Value→World→Prop
 | .val x,v,_=>v=x
 | .rel F _,v,w=>F v w
def PS.entry:PS G→Value→Value
 | .val x,_=>x
 | .rel _ _,v=>v
theorem PS.entry_eq {s:PS G} {v:Value} {w:World} (h:s.holds v w):s.entry v=v:=by
 cases s with
 |val x=>exact h.symm
 |rel F st=>rfl
end
structure Row (G:World→World→Prop)where
 us:List (Nat×Nat)
 zs:List (Nat×Value)
 ph:List Nat
 out:PS G
def BM (i:Nat):List Nat→Bool
 |[]=>false
 |x::r=>bif Nat.beq i x then true else BM i r
def gO:List Oper→List Nat→List Nat
 |[],acc=>acc
 |o::r,acc=>gO r (acc++[o.after.toList.foldl (fun s e=>if Region.binds .any e then s|||2^e.on|||acc.getD e.on 0 else s) 0])
inductive Cg (l:List Oper):Nat→Nat→Prop where
 |edge {i:Nat} {o:Oper} {e:Edge}:l[i]? =some o→e∈o.after.toList→Region.binds .any e=true→Cg l i e.on
 |trans {i j k:Nat}:Cg l i j→Cg l j k→Cg l i k
theorem U3 (l : List Oper) : ∀ (r : List Oper) (acc : List Nat), (∀ j o, r[j]? = some o → l[acc.length + j]? = some o) → (∀ i j, (acc.getD i 0).testBit j = true → Cg l i j) →
  ∀i j,((gO r acc).getD i 0).testBit j=true→Cg l i j
 |[],acc,_,h=>h
 |o::r,acc,hl,h=>by
  have ho:l[acc.length]? =some o:=by simpa using hl 0 o (by simp)
  refine U3 l r _ (fun j o' hj=>by simpa[Nat.add_assoc,Nat.add_comm 1 j]using hl (j+1) o' (by simpa using hj)) ?_
  intro i j hb
  by_cases hi:i<acc.length
  ·rw[List.getD_eq_getElem?_getD,List.getElem?_append_left hi]at hb
   exact h i j (by rwa [List.getD_eq_getElem?_getD])
  ·by_cases hi':i=acc.length
   ·subst hi'
    simp only[List.getD_eq_getElem?_getD,List.getElem?_append_right (Nat.le_refl _),Nat.sub_self,List.getElem?_cons_zero,Option.getD_some]at hb
    have key : ∀ (es : List Edge) (s : Nat), (∀ e ∈ es, e ∈ o.after.toList) → (∀ j, s.testBit j = true → Cg l acc.length j) →
      ∀j,(es.foldl (fun s e=>if Region.binds .any e then s|||2^e.on|||acc[e.on]?.getD 0 else s) s).testBit j=true→Cg l acc.length j:=by
     intro es
     induction es with
     |nil=>intro s _ hs;exact hs
     |cons e es ih=>
      intro s hes hs
      simp only[List.foldl_cons]
      refine ih _ (fun e' he'=>hes e' (List.mem_cons_of_mem _ he')) ?_
      intro j hj
      split at hj
      ·rename_i hbd
       have hedge:Cg l acc.length e.on:= .edge ho (hes e (List.mem_cons_self ..)) hbd
       simp only[Nat.testBit_or,Bool.or_eq_true]at hj
       rcases hj with(hj|hj)|hj
       ·exact hs j hj
       ·rw[Nat.testBit_two_pow]at hj
        have :e.on=j:=by simpa using hj
        exact this▸hedge
       ·exact .trans hedge (h e.on j (by rwa [List.getD_eq_getElem?_getD]))
      ·exact hs j hj
    exact key _ 0 (fun e he=>he) (by simp) j hb
   ·have : (acc ++ [o.after.toList.foldl (fun s e => if Region.binds .any e then s ||| 2 ^ e.on ||| acc.getD e.on 0 else s) 0]).getD i 0 = 0 := by
     rw[List.getD_eq_getElem?_getD,List.getElem?_eq_none (by simp;omega)];rfl
    rw[this]at hb
    simp at hb
section
variable {G:World→World→Prop}
def Aeg (B ss:List Nat) (i p:Nat):Bool:=
 ss.zipIdx.all fun q=>bif Nat.blt q.2 p then !(B.getD q.1 0).testBit i&& !(Nat.beq q.1 i)else !(B.getD i 0).testBit q.1
def AaH (l:List Oper) (B ss:List Nat) (i:Nat) (o:Oper) (r:Row G):Bool:=
 r.us.all (fun p=>(B.getD i 0).testBit p.1&&(match l[p.1]? with |some o'=>o'.dst==some p.2|none=>false))&&
 r.zs.all (fun p=>l.zipIdx.all fun q=>q.1.dst !=some p.1||q.2==i||(B.getD q.2 0).testBit i)&&
 (match o.guard with |none=>true|some (j,_)=>r.us.any fun p=>p.1==j)&&
 (List.range (ss.length+1)).all (fun p=> !Aeg B ss i p||BM p r.ph)
def okRows (l:List Oper) (B ss:List Nat):Nat→List Oper→List (Row G)→Bool
 |_,[],[]=>true
 |i,o::os,r::rs=>AaH l B ss i o r&&okRows l B ss (i+1) os rs
 |_,_,_=>false
def Row.fr (rows:List (Row G)) (r:Row G) (vs:Nat→Value):List (Nat×Value):=
 r.us.map (fun p=>(p.2,((rows[p.1]?).map (·.out.entry (vs p.1))).getD (vs p.1)))++r.zs
def Ob (P:Program) (n:Nat) (Wd:Nat→World→Prop) (ss:List Nat) (L0:List (Nat×Value)) (rows:List (Row G)) (i:Nat) (o:Oper) (r:Row G):Prop:=
 t7 L0 r.zs∧∀(p:Nat),BM p r.ph=true→∀(vs:Nat→Value) (w:World),Wd p w→(∀u∈r.us,∀r',rows[u.1]? =some r'→r'.out.holds (vs u.1) w)→
  match o.guard with
  |none=>Ok1 P o n (r.fr rows vs) w fun v w'=>Wd (bif BM i ss then p+1 else p) w'∧G w w'∧r.out.holds v w'
  |some (j,b)=>∃c rj,rows[j]? =some rj∧rj.out= .val (.bool c)∧(if c=b then Ok1 P o n (r.fr rows vs) w fun v w'=>Wd (bif BM i ss then p+1 else p) w'∧G w w'∧r.out.holds v w' else BM i ss=false∧r.out.holds undef w)
def Obs (P:Program) (n:Nat) (Wd:Nat→World→Prop) (ss:List Nat) (L0:List (Nat×Value)) (rows:List (Row G)):Nat→List Oper→List (Row G)→Prop
 |i,o::os,r::rs=>Ob P n Wd ss L0 rows i o r∧Obs P n Wd ss L0 rows (i+1) os rs
 |_,_,_=>True
variable {P:Program} {n:Nat} {Wd:Nat→World→Prop} {ss:List Nat} {L0:List (Nat×Value)} {rows:List (Row G)}
theorem Obs.at:∀{os:List Oper} {rs:List (Row G)} {k:Nat},Obs P n Wd ss L0 rows k os rs→∀(i:Nat) (o:Oper) (r:Row G),os[i]? =some o→rs[i]? =some r→Ob P n Wd ss L0 rows (k+i) o r
 |o::os,r::rs,k,h,0,o',r',h1,h2=>by simp at h1 h2;subst h1;subst h2;exact h.1
 |o::os,r::rs,k,h,i+1,o',r',h1,h2=>by
  have :=Obs.at h.2 i o' r' (by simpa using h1) (by simpa using h2)
  rwa [show k+1+i=k+(i+1) by omega]at this
 |[],rs,_,_,i,o',r',h1,_=>by simp at h1
 |_::_,[],_,_,i,o',r',_,h2=>by simp at h2
theorem okRows.at {l:List Oper} {B:List Nat}:∀{os:List Oper} {rs:List (Row G)} {k:Nat},okRows l B ss k os rs=true→∀(i:Nat) (o:Oper) (r:Row G),os[i]? =some o→rs[i]? =some r→AaH l B ss (k+i) o r=true
 |o::os,r::rs,k,h,0,o',r',h1,h2=>by simp at h1 h2;subst h1;subst h2;simp [okRows]at h;exact h.1
 |o::os,r::rs,k,h,i+1,o',r',h1,h2=>by
  simp only[okRows,Bool.and_eq_true]at h
  have :=okRows.at h.2 i o' r' (by simpa using h1) (by simpa using h2)
  rwa [show k+1+i=k+(i+1) by omega]at this
 |[],rs,_,_,i,o',r',h1,_=>by simp at h1
 |_::_,[],_,_,i,o',r',_,h2=>by simp at h2
theorem okRows.len {l:List Oper} {B:List Nat}:∀{os:List Oper} {rs:List (Row G)} {k:Nat},okRows l B ss k os rs=true→rs.length=os.length
 |o::os,r::rs,k,h=>by
  simp only[okRows,Bool.and_eq_true]at h
  simp [okRows.len h.2]
 |[],[],_,_=>rfl
 |[],_::_,_,h=>by simp [okRows]at h
 |_::_,[],_,h=>by simp [okRows]at h
variable {l:List Oper} {listed:Array Bool} {p:Nat} {a:Act} {w:World}
end
end Go.Mi
namespace Go.Mi
open Go.RowKit
variable [Dfr]
theorem AN {i:Nat}:∀{l:List Nat},BM i l=true↔i∈l
 |[]=>by simp [BM]
 |x::r=>by
  simp only[BM]
  by_cases e:i=x
  ·subst e;simp
  ·rw[Bb e];simp [e,AN (l:=r)]
section
variable {G:World→World→Prop}
structure Abe (n:Nat) (ss:List Nat) (l:List Oper) (rows:List (Row G)):Prop where
 back:∀(i:Nat) (o:Oper),l[i]? =some o→∀e∈o.after.toList,Region.binds .any e=true→e.on<i
 slot:∀(i:Nat) (o:Oper) (d:Nat),l[i]? =some o→o.dst=some d→d<n
 once:∀(i j:Nat) (o o':Oper),l[i]? =some o→l[j]? =some o'→i≠j→o.dst≠none→o.dst≠o'.dst
 inn:∀(k s:Nat),ss[k]? =some s→s<l.length
 chain:∀(k k' s s':Nat),ss[k]? =some s→ss[k']? =some s'→k<k'→Cg l s' s
 len:rows.length=l.length
 row:∀(i:Nat) (o:Oper) (r:Row G),l[i]? =some o→rows[i]? =some r→
  (∀p∈r.us,Cg l i p.1∧∃o',l[p.1]? =some o'∧o'.dst=some p.2)∧
  (∀p∈r.zs,∀(j:Nat) (o':Oper),l[j]? =some o'→o'.dst=some p.1→j=i∨Cg l j i)∧
  (∀j b,o.guard=some (j,b)→∃p∈r.us,p.1=j)∧
  (∀p,p≤ss.length→BM p r.ph=true∨∃k s,ss[k]? =some s∧((k<p∧(Cg l s i∨s=i))∨(p≤k∧Cg l i s)))
variable {P:Program} {n:Nat} {Wd:Nat→World→Prop} {ss:List Nat} {L0:List (Nat×Value)} {l:List Oper} {rows:List (Row G)} {Q:Exit→Act→World→Prop} {listed:Array Bool} {p:Nat} {a:Act} {w:World}
theorem I4 {listed:Array Bool} {i j:Nat} (hi:i<listed.size):(listed.setIfInBounds i true).getD j false=if j=i then true else listed.getD j false:=by
 by_cases h:j=i
 ·subst h
  simp [hi]
 ·have :¬i=j:=fun e=>h e.symm
  simp [Array.getElem?_setIfInBounds_ne this,h]
theorem VY {ops:Array Oper} {i:Nat} (h:i∈Region.ready .any ops listed):i<ops.size∧listed.getD i true=false:=by
 simp only[Region.ready,List.mem_filter,List.mem_range,Bool.and_eq_true]at h
 exact⟨h.1,by simpa using h.2.1⟩
theorem VZ {i:Nat} {o:Oper} (ho:l[i]? =some o) (h:i∈Region.ready .any l.toArray listed):∀e∈o.after.toList,Region.binds .any e=true→listed.getD e.on false=true:=by
 simp only[Region.ready,List.mem_filter,List.mem_range,Bool.and_eq_true]at h
 obtain⟨_,_,hall⟩:=h
 simp only[List.getElem?_toArray,ho,Option.map_some,Option.getD_some,Array.all_eq_true']at hall
 intro e he hb
 have :=hall e (by simpa using he)
 simpa[hb]using this
def left (m:Nat) (listed:Array Bool):Nat:=(List.range m).countP fun i=> !listed.getD i false
theorem m0 {m i:Nat} (hi:i<listed.size) (him:i<m) (hf:listed.getD i false=false):left m (listed.setIfInBounds i true)+1=left m listed:=by
 unfold left
 have key:∀(xs:List Nat),xs.Nodup→i∈xs→(xs.countP fun j=> !(listed.setIfInBounds i true).getD j false)+1=xs.countP fun j=> !listed.getD j false:=by
  intro xs
  induction xs with
  |nil=>intro _ h;simp at h
  |cons x xs ih=>
   intro hn hx
   rw[List.nodup_cons]at hn
   by_cases hxi:x=i
   ·subst hxi
    have hno:∀j∈xs,j≠x:=fun j hj e=>hn.1 (e▸hj)
    have :(xs.countP fun j=> !(listed.setIfInBounds x true).getD j false)=xs.countP fun j=> !listed.getD j false:=by
     apply List.countP_congr
     intro j hj
     rw[I4 hi,if_neg (hno j hj)]
    rw[List.countP_cons,List.countP_cons,this,I4 hi,if_pos rfl,hf]
    simp
   ·have hix : i ∈ xs := by
     rcases List.mem_cons.1 hx with e|e
     ·exact absurd e.symm hxi
     ·exact e
    have :=ih hn.2 hix
    rw[List.countP_cons,List.countP_cons,I4 hi,if_neg hxi]
    omega
 exact key _ List.nodup_range (by simpa using him)
structure Done (l:List Oper) (n:Nat) (Wd:Nat→World→Prop) (ss:List Nat) (L0:List (Nat×Value)) (rows:List (Row G)) (a:Act) (w:World):Prop where
 frame:a.tmps.size=n
 defers:a.defers=Dfr.ds
 wd:Wd ss.length w
 done:∀(i:Nat) (o:Oper) (r:Row G) (d:Nat),l[i]? =some o→rows[i]? =some r→o.dst=some d→r.out.holds (a.tmps.getD d undef) w
 rest:∀s v,lk L0 s=some v→(∀(i:Nat) (o:Oper),l[i]? =some o→o.dst≠some s)→a.tmps.getD s undef=v
end
end Go.Mi
namespace Go.Mi
open Go.RowKit
variable [Dfr]
section
variable {G:World→World→Prop} {P:Program} {n:Nat} {Wd:Nat→World→Prop} {ss:List Nat} {L0:List (Nat×Value)} {l:List Oper} {rows:List (Row G)} {Q:Exit→Act→World→Prop} {listed:Array Bool} {a:Act} {w w':World}
def P6 (vs:Nat→Value):Nat→List Oper→List (Row G)→List (Nat×Value)
 |i,o::os,r::rs=>match o.dst with
  |some d=>(d,r.out.entry (vs i))::P6 vs (i+1) os rs
  |none=>P6 vs (i+1) os rs
 |_,_,_=>[]
theorem SC {A B:List (Nat×Value)} {t:Nat}:lk (A++B) t=match lk A t with |some v=>some v|none=>lk B t:=by
 induction A with
 |nil=>simp [lk]
 |cons x A ih=>
  obtain⟨s,v⟩:=x
  simp only[List.cons_append,lk]
  by_cases e:s=t
  ·subst e;simp
  ·rw[Bb e];simpa using ih
theorem Uk {vs : Nat → Value} {t : Nat} {v : Value} : ∀ {os : List Oper} {rs : List (Row G)} {k : Nat}, lk (P6 vs k os rs) t = some v →
  ∃(i:Nat) (o:Oper) (r:Row G),os[i]? =some o∧rs[i]? =some r∧o.dst=some t∧v=r.out.entry (vs (k+i))
 |o::os,r::rs,k,h=>by
  simp only[P6]at h
  cases hd:o.dst with
  |none=>
   rw[hd]at h
   obtain⟨i,o',r',h1,h2,h3,h4⟩:=Uk h
   exact⟨i+1,o',r',by simpa using h1,by simpa using h2,h3,by rw[h4,show k+1+i=k+(i+1) by omega]⟩
  |some d=>
   rw[hd]at h
   simp only[lk]at h
   by_cases e:d=t
   ·subst e
    simp at h
    exact⟨0,o,r,by simp,by simp,hd,h.symm⟩
   ·rw[Bb e]at h
    obtain⟨i,o',r',h1,h2,h3,h4⟩:=Uk h
    exact⟨i+1,o',r',by simpa using h1,by simpa using h2,h3,by rw[h4,show k+1+i=k+(i+1) by omega]⟩
 |[],rs,k,h=>by simp [P6,lk]at h
 |_::_,[],k,h=>by simp [P6,lk]at h
theorem Ma {vs:Nat→Value} {t:Nat}:∀{os:List Oper} {rs:List (Row G)} {k:Nat},lk (P6 vs k os rs) t=none→∀(i:Nat) (o:Oper),i<rs.length→os[i]? =some o→o.dst≠some t
 |o::os,r::rs,k,h,i,o',hi,ho=>by
  simp only[P6]at h
  cases i with
  |zero=>
   simp at ho
   subst ho
   intro hd
   rw[hd]at h
   simp [lk]at h
  |succ i=>
   have h':lk (P6 vs (k+1) os rs) t=none:=by
    cases hd:o.dst with
    |none=>rw[hd]at h;exact h
    |some d=>
     rw[hd]at h
     simp only[lk]at h
     by_cases e:d=t
     ·subst e;simp at h
     ·rw[Bb e]at h;exact h
   exact Ma h' i o' (by simpa using hi) (by simpa using ho)
 |[],rs,k,h,i,o',hi,ho=>by simp at ho
 |_::_,[],k,h,i,o',hi,ho=>by simp at hi
theorem Done.frm (ok:Abe n ss l rows) (h:Done l n Wd ss L0 rows a w):∃vs:Nat→Value,(∀(i:Nat) (o:Oper) (r:Row G),l[i]? =some o→rows[i]? =some r→o.dst≠none→r.out.holds (vs i) w)∧Frm a n (P6 vs 0 l rows++L0):=by
 let vs:Nat→Value:=fun j=>a.tmps.getD (((l[j]?).bind (·.dst)).getD 0) undef
 have hv:∀(i:Nat) (o:Oper) (r:Row G),l[i]? =some o→rows[i]? =some r→o.dst≠none→r.out.holds (vs i) w:=by
  intro i o r ho hr hd
  cases hd':o.dst with
  |none=>exact absurd hd' hd
  |some d=>
   have :=h.done i o r d ho hr hd'
   simpa[vs,ho,hd']using this
 refine⟨vs,hv,h.frame,h.defers,fun t v ht=> ?_⟩
 rw[SC]at ht
 cases ho:lk (P6 vs 0 l rows) t with
 |some u=>
  rw[ho]at ht
  simp at ht
  subst ht
  obtain⟨i,o,r,h1,h2,h3,h4⟩:=Uk ho
  rw[Nat.zero_add]at h4
  have :=hv i o r h1 h2 (by rw[h3];simp)
  rw[h4,PS.entry_eq this]
  simp [vs,h1,h3]
 |none=>
  rw[ho]at ht
  refine h.rest t v ht fun i o hio=> ?_
  have hi:i<l.length:=by
   rcases Nat.lt_or_ge i l.length with h'|h'
   ·exact h'
   ·simp [List.getElem?_eq_none h']at hio
  exact Ma ho i o (by rw[ok.len];exact hi) hio
abbrev Tt:World→World→Prop:=fun _ _=>True
variable {o:Oper} {L:List (Nat×Value)} {v:Value} {A:World→Prop}
theorem Det.ob (hW:A w) (h:Det P o n L w v w):Ok1 P o n L w fun v' w'=>A w'∧Tt w w'∧(PS.val (G:=Tt) v).holds v' w':=
 h.mono fun _ _ ⟨h1,h2⟩=>⟨h2▸hW,trivial,h1⟩
end
end Go.Mi
namespace Go.Mi
open Go.RowKit
variable [Dfr]
section
variable {P:Program} {n:Nat} {w w' w1:World} {Q:Exit→Act→World→Prop} {K M:Act→World→Prop} {a:Act} {L:List (Nat×Value)} {v:Value} {o:Oper}
theorem Ab (h:K a w):Exit.then K Q .normal a w:=h
theorem DZ {id:Nat} (h:Q (.exit id) a w):Exit.then K Q (.exit id) a w:=h
theorem Ah (h:Q .ret a w):Exit.then K Q .ret a w:=h
theorem U1 {id:Nat} (h:Q .normal a w):Exit.inBlock id Q .normal a w:=h
theorem AC {id:Nat} (h:Q .ret a w):Exit.inBlock id Q .ret a w:=h
theorem Fp {id:Nat} (h:Q .normal a w):Exit.inBlock id Q (.exit id) a w:=by simp only[Exit.inBlock,if_true];exact h
theorem Kh {id id':Nat} (hn:id'≠id) (h:Q (.exit id') a w):Exit.inBlock id Q (.exit id') a w:=by simp only[Exit.inBlock,hn,if_false];exact h
theorem u6 {p q:Int} (h:0≤p) (hq:0≤q) (h':p≤9223372036854775807):IntKind.wrap .i64 (p.tdiv q)=p/q:=by
 rw[iV h]
 have h1:0≤p/q:=Int.ediv_nonneg h hq
 have h2:p/q≤p:=Int.ediv_le_self _ h
 exact Ed (by omega) (by omega)
theorem iI {F:Nat→Int} {i:Nat} {v:Int}:upd F i v i=v:=by simp [upd]
theorem iJ {F:Nat→Int} {i j:Nat} {v:Int} (h:j≠i):upd F i v j=F j:=by simp [upd,h]
end
end Go.Mi
namespace Go.Mi
variable [Dfr]
end Go.Mi
namespace Go.Mi
variable [Dfr]
end Go.Mi
namespace Go.Mi
variable [Dfr]
end Go.Mi
namespace Go.Mi
open Go.RowKit
variable [Dfr]
section
variable {P:Program} {w w0:World} {n:Nat} {L:List (Nat×Value)} {ds:Option Tmp} {ty:TypeId} {pos:String} {af:Array Edge} {gu:Option (Nat×Bool)}
theorem M8 (d:Nat) {a b:Bool} {t:TypeId} (ht:P.underlying t=some .bool):(Op.equalIn (d+1) t (.bool a) (.bool b)).run P w= .ok (a==b) w:=by
 simp [Op.equalIn,Ak ht]
theorem IK {a b:Bool} {t:TypeId} (ht:P.underlying t=some .bool):(Op.equal t (.bool a) (.bool b)).run P w= .ok (a==b) w:=
 M8 9999 ht
theorem AcA {x y:Operand} {a b:Bool} {t t':TypeId} (ht:P.underlying t=some .bool) (hx:ev L x=some (.bool a)) (hy:ev L y=some (.bool b)):Det P ⟨ds,.binOp .eql t x y t',ty,pos,af,gu⟩ n L w (.bool (a==b)) w:=
 Det.of_run fun a' hF=>by
  have h1:(binOp .eql t (.bool a) (.bool b)).run P w= .ok (.bool (a==b)) w:=by
   show(Op.equal t (.bool a) (.bool b)>>=fun r=>pure (Value.bool r)).run P w=_
   rw[Sem.run_bind,IK ht];rfl
  simp [execOp,hF.eval hx,hF.eval hy,eqGuard,h1]
theorem Acx {x y:Operand} {a b:Bool} {t t':TypeId} (ht:P.underlying t=some .bool) (hx:ev L x=some (.bool a)) (hy:ev L y=some (.bool b)):Det P ⟨ds,.binOp .neq t x y t',ty,pos,af,gu⟩ n L w (.bool (!(a==b))) w:=
 Det.of_run fun a' hF=>by
  have h1:(binOp .neq t (.bool a) (.bool b)).run P w= .ok (.bool (!(a==b))) w:=by
   show(Op.equal t (.bool a) (.bool b)>>=fun r=>pure (Value.bool !r)).run P w=_
   rw[Sem.run_bind,IK ht];rfl
  simp [execOp,hF.eval hx,hF.eval hy,eqGuard,h1]
theorem Acz {x y:Operand} {a b:ByteArray} {t t':TypeId} (hx:ev L x=some (.string a)) (hy:ev L y=some (.string b)):Det P ⟨ds,.binOp .eql t x y t',ty,pos,af,gu⟩ n L w (.bool (a.toList==b.toList)) w:=
 Det.of_run fun a' hF=>by simp [execOp,hF.eval hx,hF.eval hy,eqGuard,binOp,Op.stringOp]
theorem Acw {x y:Operand} {a b:ByteArray} {t t':TypeId} (hx:ev L x=some (.string a)) (hy:ev L y=some (.string b)):Det P ⟨ds,.binOp .neq t x y t',ty,pos,af,gu⟩ n L w (.bool (!(a.toList==b.toList))) w:=
 Det.of_run fun a' hF=>by simp [execOp,hF.eval hx,hF.eval hy,eqGuard,binOp,Op.stringOp]
structure Sl (w:World) (ad:Option Addr) (n:Nat) (k:IntKind) (X:Nat→Int):Prop where
 h:n=0∨∃b o,ad=some ⟨b,o,none⟩∧∀j,j<n→w.cell? ⟨b,o+j,none⟩=some (.int k (X j))
def OF (len:Nat) (X:Nat→Int):ByteArray:=((List.range len).map X).foldl (fun r n=>r.push (UInt8.ofNat n.toNat)) ByteArray.empty
theorem Gh {b o : Nat} {V : Nat → Value} : ∀ (m i : Nat) (acc : Array Value), (∀ j, i ≤ j → j < i + m → w.cell? ⟨b, o + j, none⟩ = some (V j)) →
  (loadCellsFrom ⟨b,o,none⟩ i m acc).run P w= .ok (acc++((List.range' i m).map V).toArray) w
 |0,i,acc,h=>by simp [loadCellsFrom]
 |m+1,i,acc,h=>by
  simp only[loadCellsFrom,CY,Sem.run_bind,run_load,h i (Nat.le_refl _) (by omega),Result.andThen_ok]
  rw[Gh m (i+1) _ fun j h1 h2=>h j (by omega) (by omega)]
  congr 1
  apply Array.ext'
  simp [List.range'_succ]
theorem Je {x : Operand} {s t e : TypeId} {ad : Option Addr} {len cap : Nat} {X : Nat → Int} (hs : P.underlying s = some (.slice e)) (he : P.underlying e = some (.int .u8)) (ht : P.underlying t = some .string)
  (hx:ev L x=some (.slice ad len cap)) (hsl:Sl w ad len .u8 X) (hnil:ad=none→len=0):Det P ⟨ds,.convert s t x,ty,pos,af,gu⟩ n L w (.string (OF len X)) w:=
 Det.of_run fun a' hF=>by
  have h1:(Conv.bytesToString (.slice ad len cap)).run P w= .ok (.string (OF len X)) w:=by
   cases ad with
   |none=>obtain rfl:=hnil rfl;rfl
   |some a=>
    have hl:(loadCells a len).run P w= .ok (((List.range len).map X).map (Value.int .u8)).toArray w:=by
     rcases hsl.h with h0|⟨b,o,h1,h2⟩
     ·subst h0;rfl
     ·cases h1
      have :=Gh (P:=P) (V:=fun j=>Value.int .u8 (X j)) len 0 #[] fun j _ hj=>h2 j (by omega)
      rw[loadCells,this]
      simp [List.range_eq_range']
    exact run_bytesToString w a len cap _ hl
  simp [execOp,hF.eval hx,run_convert_bytes_string w s t e ad len cap hs he ht,h1]
end
end Go.Mi
namespace Go.Mi
open Go.RowKit
variable [Dfr]
abbrev vP (b o:Nat):Value:= .pointer (some ⟨b,o,none⟩)
abbrev vp (b:Nat):Value:= .pointer (some ⟨b,0,none⟩)
abbrev vS (b o l c:Nat):Value:= .slice (some ⟨b,o,none⟩) l c
abbrev vN:Value:= .slice none 0 0
structure Ch (Y:List Nat) (w w':World):Prop where
 os:w'.os=w.os
 tape:w'.tape=w.tape
 output:w'.output=w.output
 size:w.heap.size≤w'.heap.size
 blk:∀b,b<w.heap.size→b∉Y→w'.heap[b]? =w.heap[b]?
theorem Ch.lt {Y:List Nat} {w w':World} {b:Nat} (k:Ch Y w w') (h:b<w.heap.size):b<w'.heap.size:=Nat.lt_of_lt_of_le h k.size
theorem Ch.refl (Y:List Nat) (w:World):Ch Y w w:=⟨rfl,rfl,rfl,Nat.le_refl _,fun _ _ _=>rfl⟩
theorem Ch.trans {Y:List Nat} {a b c:World} (h:Ch Y a b) (k:Ch Y b c):Ch Y a c:=
 ⟨k.os.trans h.os,k.tape.trans h.tape,k.output.trans h.output,Nat.le_trans h.size k.size,fun i hi hn=>(k.blk i (Nat.lt_of_lt_of_le hi h.size) hn).trans (h.blk i hi hn)⟩
theorem Ch.mono {Y Y':List Nat} {a b:World} (h:Ch Y a b) (hs:∀y,y∈Y→y∈Y'):Ch Y' a b:=
 ⟨h.os,h.tape,h.output,h.size,fun i hi hn=>h.blk i hi fun hm=>hn (hs i hm)⟩
theorem Ch.drop {Y Y':List Nat} {a b:World} (h:Ch Y a b) (hs:∀y,y∈Y→y∈Y'∨a.heap.size≤y):Ch Y' a b:=
 ⟨h.os,h.tape,h.output,h.size,fun i hi hn=>h.blk i hi fun hm=>by rcases hs i hm with h|h;exact hn h;omega⟩
theorem Gr.ch {w w':World} (h:Gr w w'):Ch [] w w':=⟨h.os,h.tape,h.output,h.size,fun b hb _=>h.block b hb⟩
theorem Ch.below {Y:List Nat} {n:Nat} {w w':World} (h:Ch Y w w') (hn:n≤w.heap.size) (hy:∀y,y∈Y→n≤y):Below n w w':=
 ⟨h.os,h.tape,h.output,h.size,fun b hb=>h.blk b (by omega) fun hm=>by have :=hy b hm;omega⟩
theorem NewB.ch {w w':World} {b:Nat} {c:Array Value} {t:TypeId} (h:NewB w w' b c t):Ch [] w w':=by
 obtain⟨rfl,rfl⟩:=h
 exact Gr.ch ((Below.refl w.heap.size w).alloc (Nat.le_refl _) _)
theorem Upd.ch {w w':World} {b:Nat} {c:Array Value} {t:TypeId} (h:Upd w w' b c t):Ch [b] w w':=
 ⟨h.os,h.tape,h.output,by rw[h.size];exact Nat.le_refl _,fun k _ hn=>h.other k (by simpa using hn)⟩
def At (w:World) (b o:Nat) (vs:List Value):Prop:=∀i u,vs[i]? =some u→w.cell? ⟨b,o+i,none⟩=some u
theorem At.mv {w w':World} {Y:List Nat} {b o:Nat} {vs:List Value} (h:At w b o vs) (k:Ch Y w w') (hb:b∉Y):At w' b o vs:=fun i u hu=>by
 have h1:=h i u hu
 have h2:=World.block_lt_of_cell? w _ h1
 have h3:=k.blk b h2 hb
 simpa[World.cell?,h3]using h1
theorem At.of_blk {w:World} {b:Nat} {c:Array Value} {t:TypeId} {f:Nat×Nat} (h:w.heap[b]? =some (.cells c t f)):At w b 0 c.toList:=fun i u hu=>by
 rw[Ji h,Nat.zero_add]
 simpa using hu
theorem At.app {w:World} {b o:Nat} {xs ys:List Value}:At w b o (xs++ys)↔At w b o xs∧At w b (o+xs.length) ys:=by
 constructor
 ·intro h
  refine⟨fun i u hu=>h i u ?_,fun i u hu=> ?_⟩
  ·have hl : i < xs.length := by
    rcases Nat.lt_or_ge i xs.length with h'|h'
    ·exact h'
    ·simp [List.getElem?_eq_none h']at hu
   rw[List.getElem?_append_left hl];exact hu
  ·have :=h (xs.length+i) u (by rw[List.getElem?_append_right (by omega),Nat.add_sub_cancel_left];exact hu)
   rwa [←Nat.add_assoc]at this
 ·rintro⟨h1,h2⟩ i u hu
  rcases Nat.lt_or_ge i xs.length with h'|h'
  ·rw[List.getElem?_append_left h']at hu;exact h1 i u hu
  ·rw[List.getElem?_append_right h']at hu
   have :=h2 (i-xs.length) u hu
   rwa [show o+xs.length+(i-xs.length)=o+i by omega]at this
theorem At.lt {w:World} {b o:Nat} {v:Value} {vs:List Value} (h:At w b o (v::vs)):b<w.heap.size:=World.block_lt_of_cell? w _ (h 0 v rfl)
section
variable {P:Program} {n:Nat} {L:List (Nat×Value)} {w:World} {ds:Option Nat} {ty:TypeId} {pos:String} {af:Array Edge} {gu:Option (Nat×Bool)}
theorem OA {x : Operand} {t : TypeId} {d : TypeDesc} {b o m : Nat} {vs : List Value} (ht : P.underlying t = some d) (hf : TypeDesc.flat d = false) (hs : (P.info? t).map (·.size) = some m) (hx : ev L x = some (.pointer (some ⟨b, o, none⟩)))
  (hb:At w b o vs) (hc:vs.length=m):Det P ⟨ds,.load t x,ty,pos,af,gu⟩ n L w (.agg vs.toArray) w:=
 Det.of_run fun a hF=>by
  obtain⟨inf,hi,hz⟩:=Option.map_eq_some_iff.1 hs
  have hag:(isAgg t).run P w= .ok true w:=by
   simp only[isAgg,Sem.run_bind,Ak ht,Result.andThen_ok]
   cases d<;>simp_all [TypeDesc.flat]
  have hl:=run_loadCells_list (P:=P) w ⟨b,o,none⟩ vs (fun j v hj=>by rw[CY];exact hb j v hj)
  subst hc
  simp [execOp,hF.eval hx,Instr.loadAt,Instr.sureAddr,loadVar,hag,sizeOf,typeInfo,hi,hz,hl]
theorem W6 {x : Operand} {s : TypeId} {fs : Array Field} {f : Nat} {fd : Field} {b o m : Nat} (hs : P.underlying s = some (.struct fs)) (hf : fs[f]? = some fd) (hm : (P.info? fd.type).map (·.size) = some (m + 1)) (hx : ev L x = some (.pointer (some ⟨b, o, none⟩))) :
  Det P ⟨ds,.fieldAddr s x f,ty,pos,af,gu⟩ n L w (.pointer (some ⟨b,o+fd.offset,none⟩)) w:=
 Det.of_run fun a hF=>by
  obtain⟨inf,hi,hz⟩:=Option.map_eq_some_iff.1 hm
  simp [execOp,hF.eval hx,Instr.fieldAt,Instr.sureAddr,Ak hs,hf,fieldPlace,sizeOf,typeInfo,hi,hz,CY]
theorem cZ {t:TypeId} {d:TypeDesc} {cs:Array Value} {off:Nat} {v:Value} (ht:P.underlying t=some d) (hf:TypeDesc.flat d=true) (hv:cs[off]? =some v):(part t cs off).run P w= .ok v w:=by
 simp [part,Gi ht hf,hv]
theorem O3 {w:World} {b:Nat} {c:Array Value} {t:TypeId} (h:w.heap[b]? =some (.cells c t (0,0))) (c':Array Value):Upd w (w.setRow b c') b c' t:=
 ⟨rfl,rfl,rfl,by simp [World.setRow],setRow_heap w b c c' t _ h,fun k hk=>setRow_other w b k c' hk⟩
def put (c:Array Value) (o:Nat) (vs:List Value):Array Value:=(c.toList.take o++vs++c.toList.drop (o+vs.length)).toArray
theorem PY {c:Array Value} {o:Nat} {vs:List Value} (h:o+vs.length≤c.size):(put c o vs).size=c.size:=by
 simp [put];omega
theorem Nk {x y : Operand} {t T : TypeId} {b o m : Nat} {c : Array Value} {u : Value} (hs : (P.info? t).map (·.size) = some m) (hx : ev L x = some (.pointer (some ⟨b, o, none⟩))) (hy : ev L y = some u) (hc' : u.cells.size = m) (hv : ∀ v ∈ u.cells.toList, v.oneCell' = true)
  (hb:w.heap[b]? =some (.cells c T (0,0))) (hc:o+m≤c.size):Ok1 P ⟨ds,.store t x y,ty,pos,af,gu⟩ n L w fun _ w'=>Upd w w' b (put c o u.cells.toList) T:=by
 obtain⟨inf,hi,hz⟩:=Option.map_eq_some_iff.1 hs
 have h1:=run_storeCells_at (P:=P) b o T u.cells.toList 0 c w hb (by simp;omega) hv
 have hd:Det P ⟨ds,.store t x y,ty,pos,af,gu⟩ n L w undef (w.setRow b (put c o u.cells.toList)):=Det.of_skip fun a hF=>by
  simp only[Nat.add_zero]at h1
  simp [execOp,hF.eval hx,hF.eval hy,Instr.storeAt,Instr.sureAddr,storeVar,sizeOf,typeInfo,hi,hz,hc',put,h1]
 refine hd.mono fun v' w'' ⟨_,hw⟩=> ?_
 subst hw
 exact O3 hb _
abbrev Own (w:World) (base:Nat) (e:TypeId) (m:Nat) (v:Value) (n:Nat) (xs:List Value):Prop:=w.ownsRow base e m v n xs
def Cd:Value→List Nat
 | .slice (some a) _ _=>[a.block]
 |_=>[]
theorem Own.mv {w w':World} {Y:List Nat} {base m n:Nat} {e:TypeId} {v:Value} {xs:List Value} (h:Own w base e m v n xs) (k:Ch Y w w') (hy:∀b,b∈Cd v→b∉Y):Own w' base e m v n xs:=by
 refine⟨h.1,?_⟩
 rcases h.2 with h2|⟨g,cap,cur,rfl,hg,hb,h3⟩
 ·exact .inl h2
 ·have hlt : g < w.heap.size := by
   rcases Nat.lt_or_ge g w.heap.size with h'|h'
   ·exact h'
   ·simp [Array.getElem?_eq_none h']at hb
  exact .inr ⟨g,cap,cur,rfl,hg,by rw[k.blk g hlt (hy g (by simp [Cd]))];exact hb,h3⟩
theorem Own.lt {w:World} {base m n:Nat} {e:TypeId} {v:Value} {xs:List Value} (h:Own w base e m v n xs):∀b,b∈Cd v→base≤b∧b<w.heap.size:=by
 intro b hb
 rcases h.2 with⟨rfl,_⟩|⟨g,cap,cur,rfl,hg,hk,h3⟩
 ·simp [Cd]at hb
 ·simp only[Cd,List.mem_singleton]at hb
  subst hb
  refine⟨hg,?_⟩
  rcases Nat.lt_or_ge b w.heap.size with h'|h'
  ·exact h'
  ·rw[Array.getElem?_eq_none h']at hk;cases hk
theorem Own.at {w:World} {base m n:Nat} {e:TypeId} {v:Value} {xs:List Value} (h:Own w base e m v n xs):(v= .slice none 0 0∧n=0∧xs=[])∨∃b cap,v= .slice (some ⟨b,0,none⟩) n cap∧n≤cap∧At w b 0 xs:=by
 rcases h.2 with⟨rfl,rfl⟩|⟨g,cap,cur,rfl,hg,hk,h3,h4,h5,h6⟩
 ·exact .inl ⟨rfl,rfl,List.eq_nil_of_length_eq_zero (by simpa using h.1)⟩
 ·refine .inr ⟨g,cap,rfl,h3,fun i u hu=> ?_⟩
  rw[Ji hk,Nat.zero_add,←Array.getElem?_toList]
  rw[←h6,List.getElem?_take]at hu
  split at hu
  ·exact hu
  ·simp at hu
theorem dU {s x : Operand} {t e : TypeId} {i : TypeInfo} {z : Value} {base m bytes n' k c b o : Nat} {v : Value} {xs news : List Value} (ht : P.underlying t = some (.slice e)) (hi : P.info? e = some i) (hz : i.zero = some z)
  (hm:i.size=m) (hy:i.bytes=bytes) (hzs:z.cells.size=m) (hm0:0<m) (hs:ev L s=some v) (hx:ev L x=some (.slice (some ⟨b,o,none⟩) k c)) (hown:Own w base e m v n' xs)
  (hl:news.length=k*m) (hn:At w b o news) (h1:∀u∈news,u.oneCell'=true) (h63:n'+k≤maxLen) (hby:(n'+k)*bytes≤140737488355328) (hbase:base≤w.heap.size):
  Ok1 P ⟨ds,.call ⟨.builtin .append,#[s,x],#[t,t]⟩,ty,pos,af,gu⟩ n L w fun v' w'=>Own w' base e m v' (n'+k) (xs++news)∧Ch (Cd v) w w'∧(Cd v'=Cd v∨Cd v'=[w.heap.size]):=by
 obtain⟨v',w',hr,h2,h3,_,h5⟩:=run_append_own_at (P:=P) w base t ty e i z m bytes ht hi hz hm hy hzs hm0 v n' xs hown ⟨b,o,none⟩ k c news hl (fun j u hu=>by rw[CY];exact hn j u hu) h1 h63 hby hbase
 have hd:Det P ⟨ds,.call ⟨.builtin .append,#[s,x],#[t,t]⟩,ty,pos,af,gu⟩ n L w v' w':=Det.of_run fun a hF=>by
  simp [execOp,hF.eval hs,hF.eval hx,resolve,invoke,builtin,hr]
 refine hd.mono fun v'' w'' ⟨ha,hb⟩=> ?_
 subst ha;subst hb
 have ob:∀u:Value,∀g,u.ownBlock=some g↔Cd u=[g]:=by
  intro u g
  cases u with
  |slice a _ _=>cases a<;>simp [Value.ownBlock,Cd]
  |_=>simp [Value.ownBlock,Cd]
 have ob0:∀u:Value,u.ownBlock=none↔Cd u=[]:=by
  intro u
  cases u with
  |slice a _ _=>cases a<;>simp [Value.ownBlock,Cd]
  |_=>simp [Value.ownBlock,Cd]
 refine⟨h2,⟨h3.os,h3.tape,h3.output,h3.size,fun g hg hn=>h3.block g hg fun he=>hn ?_⟩,?_⟩
 ·rw[(ob v g).1 he.symm];simp
 ·rcases h5 with h5|h5
  ·left
   cases hv:v.ownBlock with
   |none=>rw[(ob0 v).1 hv,(ob0 v'').1 (h5.trans hv)]
   |some g=>rw[(ob v g).1 hv,(ob v'' g).1 (h5.trans hv)]
  ·right;exact(ob v'' _).1 h5
end
end Go.Mi
namespace Go.Sx
open Go.Mi Go.RowKit
variable [Dfr]
inductive Fk where
 |int (k:IntKind)
 |bool
 |str
 |sl (e:Fk)
 |os (e:Fk)
 |ref
 |val
 deriving DecidableEq
def Fk.T:Fk→Type
 | .int _=>Int
 | .bool=>Bool
 | .str=>ByteArray
 | .sl e=>List e.T
 | .os e=>Option (List e.T)
 | .ref=>Nat×Nat
 | .val=>Value
def Fk.z:(a:Fk)→a.T
 | .int _=>(0:Int)
 | .bool=>false
 | .str=>ByteArray.empty
 | .sl e=>([]:List e.T)
 | .os e=>(none:Option (List e.T))
 | .ref=>((0,0):Nat×Nat)
 | .val=>undef
def RT:List Fk→Type
 |[]=>Unit
 |a::r=>match r with
  |[]=>a.T
  |b::s=>a.T×RT (b::s)
def rz:(e:List Fk)→RT e
 |[]=>()
 |a::r=>match r with
  |[]=>a.z
  |b::s=>(a.z,rz (b::s))
def FD (xs:List Int):ByteArray:=xs.foldl (fun r n=>r.push (UInt8.ofNat n.toNat)) ByteArray.empty
inductive D where
 |v (x:Value)
 |ar (k:IntKind) (n:Nat) (f:Nat→Int)
 |ls (nn:Bool) (e:List Fk) (xs:List (RT e))
 |os (e:Fk) (o:Option (List e.T))
 |nil
 |cons (d ds:D)
 |ag (ds:D)
 |tu (ds:D)
 |fn (f:FuncId) (a b:D)
 |ifc (t:TypeId) (d:D)
 |cp (k o:Nat)
 |ep (k o m n i:Nat)
 |xp (k m n i o:Nat)
 |sk (k:Nat)
 |sv (k o n:Nat)
 |im (d:D) (o:Nat)
 |ip (e:List Fk) (x:RT e) (o:Nat)
 |top
structure Chp (S:Nat→Prop) (w w':World):Prop where
 os:w'.os=w.os
 tape:w'.tape=w.tape
 output:w'.output=w.output
 size:w.heap.size≤w'.heap.size
 blk:∀b,b<w.heap.size→¬S b→w'.heap[b]? =w.heap[b]?
theorem Chp.refl (S:Nat→Prop) (w:World):Chp S w w:=⟨rfl,rfl,rfl,Nat.le_refl _,fun _ _ _=>rfl⟩
theorem Chp.trans {S:Nat→Prop} {a b c:World} (h:Chp S a b) (k:Chp S b c):Chp S a c:=
 ⟨k.os.trans h.os,k.tape.trans h.tape,k.output.trans h.output,Nat.le_trans h.size k.size,fun i hi hn=>(k.blk i (Nat.lt_of_lt_of_le hi h.size) hn).trans (h.blk i hi hn)⟩
theorem Chp.drop {S S':Nat→Prop} {a b:World} (h:Chp S a b) (hs:∀y,S y→S' y∨a.heap.size≤y):Chp S' a b:=
 ⟨h.os,h.tape,h.output,h.size,fun i hi hn=>h.blk i hi fun hm=>by rcases hs i hm with h|h;exact hn h;omega⟩
theorem Chp.to {Y:List Nat} {w w':World} (h:Chp (· ∈Y) w w'):Ch Y w w':=⟨h.os,h.tape,h.output,h.size,h.blk⟩
theorem At.mvp {w w':World} {S:Nat→Prop} {b o:Nat} {vs:List Value} (h:At w b o vs) (k:Chp S w w') (hb:¬S b):At w' b o vs:=fun i u hu=>by
 have h1:=h i u hu
 have h2:=World.block_lt_of_cell? w _ h1
 have h3:=k.blk b h2 hb
 simpa[World.cell?,h3]using h1
theorem Own.mvp {w w':World} {S:Nat→Prop} {base m n:Nat} {e:TypeId} {v:Value} {xs:List Value} (h:Own w base e m v n xs) (k:Chp S w w') (hy:∀b,b∈Cd v→¬S b):Own w' base e m v n xs:=by
 refine⟨h.1,?_⟩
 rcases h.2 with h2|⟨g,cap,cur,rfl,hg,hb,h3⟩
 ·exact .inl h2
 ·have hlt : g < w.heap.size := by
   rcases Nat.lt_or_ge g w.heap.size with h'|h'
   ·exact h'
   ·simp [Array.getElem?_eq_none h']at hb
  exact .inr ⟨g,cap,cur,rfl,hg,by rw[k.blk g hlt (hy g (by simp [Cd]))];exact hb,h3⟩
structure Lsl (X:Nat→Prop) (w:World) (nn:Bool) (n:Nat) (v:Value) (m:Nat) (cells:List Value):Prop where
 le:n≤maxLen
 len:cells.length=n*m
 at':(n=0∧((nn=false∧v=vN)∨∃a c,v= .slice (some a) 0 c))∨∃b o c,v=vS b o n c∧n≤c∧c≤maxLen∧¬X b∧b<w.heap.size∧At w b o cells
def Fa2 {α β:Type} (R:α→β→Prop):List α→List β→Prop
 |[],[]=>True
 |x::xs,l::ls=>R x l∧Fa2 R xs ls
 |_,_=>False
theorem Fa2.mono {α β:Type} {R R':α→β→Prop} (hr:∀x l,R x l→R' x l):∀{xs:List α} {ls:List β},Fa2 R xs ls→Fa2 R' xs ls
 |[],[],_=>trivial
 |_::_,_::_,h=>⟨hr _ _ h.1,Fa2.mono hr h.2⟩
theorem Fa2.len {α β:Type} {R:α→β→Prop}:∀{xs:List α} {ls:List β},Fa2 R xs ls→xs.length=ls.length
 |[],[],_=>rfl
 |_::_,_::_,h=>by simp [Fa2.len h.2]
theorem Fa2.get {α β:Type} {R:α→β→Prop}:∀{xs:List α} {ls:List β},Fa2 R xs ls→∀{i:Nat} {x:α},xs[i]? =some x→∃l,ls[i]? =some l∧R x l
 |[],[],_,i,x,hx=>by simp at hx
 |_::_,l::_,h,0,x,hx=>by simp at hx;subst hx;exact⟨l,rfl,h.1⟩
 |_::_,_::_,h,i+1,x,hx=>by simpa using Fa2.get h.2 (by simpa using hx)
theorem Fa2.append {α β:Type} {R:α→β→Prop}:∀{xs:List α} {ls:List β} {ys:List α} {ms:List β},Fa2 R xs ls→Fa2 R ys ms→Fa2 R (xs++ys) (ls++ms)
 |[],[],_,_,_,k=>k
 |_::_,_::_,_,_,h,k=>⟨h.1,Fa2.append h.2 k⟩
theorem Fa2.take {α β:Type} {R:α→β→Prop}:∀{xs:List α} {ls:List β},Fa2 R xs ls→∀(n:Nat),Fa2 R (xs.take n) (ls.take n)
 |[],[],_,n=>by simp;exact trivial
 |_::_,_::_,_,0=>trivial
 |_::_,_::_,h,n+1=>⟨h.1,Fa2.take h.2 n⟩
theorem Fa2.drop {α β:Type} {R:α→β→Prop}:∀{xs:List α} {ls:List β},Fa2 R xs ls→∀(n:Nat),Fa2 R (xs.drop n) (ls.drop n)
 |[],[],_,n=>by simp;exact trivial
 |_::_,_::_,h,0=>h
 |_::_,_::_,h,n+1=>by simpa using Fa2.drop h.2 n
theorem Fa2.set {α β:Type} {R:α→β→Prop}:∀{xs:List α} {ls:List β},Fa2 R xs ls→∀(i:Nat) {x:α} {l:β},R x l→Fa2 R (xs.set i x) (ls.set i l)
 |[],[],_,i,_,_,_=>by simp;exact trivial
 |_::_,_::_,h,0,_,_,hr=>⟨hr,h.2⟩
 |_::_,_::_,h,i+1,_,_,hr=>⟨h.1,Fa2.set h.2 i hr⟩
def fS (X:Nat→Prop) (N:Nat→Option Value) (w:World):(a:Fk)→a.T→Value→Prop
 | .int k,x,v=>v= .int k x
 | .bool,b,v=>v= .bool b
 | .str,(s:ByteArray),v=>v= .string s
 | .sl e,xs,v=>∃vs,Lsl X w false xs.length v 1 vs∧Fa2 (fS X N w e) xs vs
 | .os _,none,v=>v=vN
 | .os e,some xs,v=>∃vs,Lsl X w true xs.length v 1 vs∧Fa2 (fS X N w e) xs vs
 | .ref,p,v=>∃b,N p.1=some (vp b)∧v=vP b p.2
 | .val,x,v=>v=x∧Value.oneCell' x=true
def rS (X:Nat→Prop) (N:Nat→Option Value) (w:World):(e:List Fk)→RT e→List Value→Prop
 |[],_,l=>l=[]
 |a::r,x,l=>match r,x,l with
  |[],x,l=>∃v,l=[v]∧fS X N w a x v
  |b::s,x,l=>∃v l',l=v::l'∧fS X N w a x.1 v∧rS X N w (b::s) x.2 l'
def cells (k:IntKind) (n:Nat) (f:Nat→Int):List Value:=(List.range n).map fun i=>Value.int k (f i)
def B4 (X:Nat→Prop) (N:Nat→Option Value) (w:World):D→Bool→List Value→Prop
 | .v x,_,l=>l=[x]
 | .ar k n f,m,l=>l=bif m then[.agg (cells k n f).toArray]else cells k n f
 | .ls nn e xs,_,l=>∃v ls,l=[v]∧Lsl X w nn xs.length v e.length ls.flatten∧Fa2 (rS X N w e) xs ls
 | .os e o,_,l=>∃v,l=[v]∧fS X N w (.os e) o v
 | .nil,_,l=>l=[]
 | .cons d ds,m,l=>∃l1 l2,l=l1++l2∧B4 X N w d m l1∧B4 X N w ds m l2
 | .ag ds,m,l=>∃l',B4 X N w ds false l'∧(∀u∈l',u.oneCell'=true)∧l=bif m then[.agg l'.toArray]else l'
 | .tu ds,_,l=>∃l',B4 X N w ds true l'∧l=[.tuple l'.toArray]
 | .fn f a b,_,l=>∃va vb,B4 X N w a true va∧B4 X N w b true vb∧l=[.func (.func f) va.toArray vb.toArray]
 | .ifc t d,_,l=>∃v,B4 X N w d true [v]∧l=[.iface t v]
 | .cp k o,_,l=>∃b,N k=some (vp b)∧l=[vP b o]
 | .ep k o m n i,_,l=>i<n∧∃b,N k=some (vp b)∧l=[vP b (o+i*m)]
 | .xp k m n i o,_,l=>i<n∧∃b c,N k=some (vS b 0 n c)∧l=[vP b (i*m+o)]
 | .sk k,_,l=>∃v,N k=some v∧l=[v]∧v.oneCell'=true
 | .sv k o n,_,l=>∃b c,N k=some (vp b)∧l=[vS b o n c]∧n≤c∧n≤maxLen
 | .im d o,_,l=>∃b l',¬X b∧b<w.heap.size∧l=[vP b o]∧At w b 0 l'∧(∀u∈l',u.oneCell'=true)∧B4 X N w d false l'
 | .ip e x o,_,l=>∃b o0 l',¬X b∧b<w.heap.size∧l=[vP b (o0+o)]∧At w b o0 l'∧rS X N w e x l'
 | .top,_,l=>∃v,l=[v]
structure Zk (X:Nat→Prop) (N:Nat→Option Value) (w:World) (S X':Nat→Prop) (N':Nat→Option Value) (w':World):Prop where
 ch:Chp S w w'
 s:∀x,S x→X x
 x:∀x,X' x→X x∨w.heap.size≤x
 n:∀k v,N k=some v→N' k=some v
variable {X X' S:Nat→Prop} {N N':Nat→Option Value} {w w':World}
theorem Lsl.mv {nn:Bool} {n m:Nat} {v:Value} {cs:List Value} (h:Lsl X w nn n v m cs) (g:Zk X N w S X' N' w'):Lsl X' w' nn n v m cs:=by
 refine⟨h.le,h.len,h.at'.imp id ?_⟩
 rintro⟨b,o,c,rfl,h1,h2,h3,h4,h5⟩
 refine⟨b,o,c,rfl,h1,h2,fun hx=> ?_,Nat.lt_of_lt_of_le h4 g.ch.size,At.mvp h5 g.ch fun hs=>h3 (g.s b hs)⟩
 rcases g.x b hx with h|h
 ·exact h3 h
 ·omega
theorem oG (g:Zk X N w S X' N' w'):∀(a:Fk) (x:a.T) (v:Value),fS X N w a x v→fS X' N' w' a x v:=by
 intro a
 induction a with
 |int k=>exact fun x v h=>h
 |bool=>exact fun x v h=>h
 |str=>exact fun x v h=>h
 |val=>exact fun x v h=>h
 |sl e ih=>rintro x v ⟨vs,h1,h2⟩;exact⟨vs,h1.mv g,h2.mono ih⟩
 |os e ih=>
  intro x v h
  cases x with
  |none=>exact h
  |some xs=>obtain⟨vs,h1,h2⟩:=h;exact⟨vs,h1.mv g,h2.mono ih⟩
 |ref=>rintro x v ⟨b,h1,h2⟩;exact⟨b,g.n _ _ h1,h2⟩
theorem ET (g:Zk X N w S X' N' w'):∀(e:List Fk) (x:RT e) (l:List Value),rS X N w e x l→rS X' N' w' e x l
 |[],x,l,h=>h
 |[a],x,l,⟨v,h1,h2⟩=>⟨v,h1,oG g _ _ _ h2⟩
 |a::b::s,x,l,⟨v,l',h1,h2,h3⟩=>⟨v,l',h1,oG g _ _ _ h2,ET g (b::s) _ _ h3⟩
theorem lU:∀(e:List Fk) (x:RT e) (l:List Value),rS X N w e x l→l.length=e.length
 |[],x,l,h=>by rw[show l=[]from h];rfl
 |[a],x,l,⟨v,h1,h2⟩=>by rw[h1];rfl
 |a::b::s,x,l,⟨v,l',h1,h2,h3⟩=>by rw[h1];simp [lU (b::s) _ _ h3]
theorem FM (g:Zk X N w S X' N' w'):∀(d:D) (m:Bool) (l:List Value),B4 X N w d m l→B4 X' N' w' d m l:=by
 intro d
 induction d with
 |ls nn e xs=>rintro m l ⟨v,ls,h2,h3,h4⟩;exact⟨v,ls,h2,h3.mv g,h4.mono (ET g e)⟩
 |os e o=>rintro m l ⟨v,h2,h3⟩;exact⟨v,h2,oG g _ _ _ h3⟩
 |cons d ds ih1 ih2=>rintro m l ⟨l1,l2,rfl,h1,h2⟩;exact⟨l1,l2,rfl,ih1 _ _ h1,ih2 _ _ h2⟩
 |ag ds ih=>rintro m l ⟨l',h1,h2,h3⟩;exact⟨l',ih _ _ h1,h2,h3⟩
 |tu ds ih=>rintro m l ⟨l',h1,h2⟩;exact⟨l',ih _ _ h1,h2⟩
 |fn f a b iha ihb=>rintro m l ⟨va,vb,h1,h2,h3⟩;exact⟨va,vb,iha _ _ h1,ihb _ _ h2,h3⟩
 |ifc t d ih=>rintro m l ⟨v,h1,h2⟩;exact⟨v,ih _ _ h1,h2⟩
 |cp k o=>rintro m l ⟨b,h2,h3⟩;exact⟨b,g.n _ _ h2,h3⟩
 |ep k o z n i=>rintro m l ⟨h0,b,h2,h3⟩;exact⟨h0,b,g.n _ _ h2,h3⟩
 |xp k z n i o=>rintro m l ⟨h0,b,c,h2,h3⟩;exact⟨h0,b,c,g.n _ _ h2,h3⟩
 |sk k=>rintro m l ⟨v,h2,h3,h4⟩;exact⟨v,g.n _ _ h2,h3,h4⟩
 |sv k o n=>rintro m l ⟨b,c,h2,h3⟩;exact⟨b,c,g.n _ _ h2,h3⟩
 |im d o ih=>
  rintro m l ⟨b,l',h2,h3,h4,h5,h7,h6⟩
  refine⟨b,l',fun hx=> ?_,Nat.lt_of_lt_of_le h3 g.ch.size,h4,At.mvp h5 g.ch fun hs=>h2 (g.s b hs),h7,ih _ _ h6⟩
  rcases g.x b hx with h|h
  ·exact h2 h
  ·omega
 |ip e x o=>
  rintro m l ⟨b,o0,l',h2,h3,h4,h5,h6⟩
  refine⟨b,o0,l',fun hx=> ?_,Nat.lt_of_lt_of_le h3 g.ch.size,h4,At.mvp h5 g.ch fun hs=>h2 (g.s b hs),ET g _ _ _ h6⟩
  rcases g.x b hx with h|h
  ·exact h2 h
  ·omega
 |_=>exact fun m l h=>h
theorem Aay {d:D} {m:Bool} {l:List Value} (h:B4 X N w d m l) (hx:∀x,X' x→X x):B4 X' N w d m l:=
 FM (S:=fun _=>False) ⟨Chp.refl _ _,fun _ h=>h.elim,fun x h=> .inl (hx x h),fun _ _ h=>h⟩ d m l h
def D.one:D→Bool
 | .nil| .cons .. =>false
 |_=>true
theorem FU:∀{d:D} {l:List Value},B4 X N w d true l→d.one=true→∃v,l=[v]:=by
 intro d l h hd
 cases d with
 |v x=>exact⟨_,h⟩
 |ar k n f=>exact⟨_,h⟩
 |ls nn e xs=>obtain⟨v,_,h,_⟩:=h;exact⟨v,h⟩
 |os e o=>obtain⟨v,h,_⟩:=h;exact⟨v,h⟩
 |nil=>cases hd
 |cons d ds=>cases hd
 |ag ds=>obtain⟨l',_,_,h⟩:=h;exact⟨_,h⟩
 |tu ds=>obtain⟨l',_,h⟩:=h;exact⟨_,h⟩
 |fn f a b=>obtain⟨_,_,_,_,h⟩:=h;exact⟨_,h⟩
 |ifc t d=>obtain⟨_,_,h⟩:=h;exact⟨_,h⟩
 |cp k o=>obtain⟨b,_,h⟩:=h;exact⟨_,h⟩
 |ep k o m n i=>obtain⟨_,b,_,h⟩:=h;exact⟨_,h⟩
 |xp k m n i o=>obtain⟨_,b,_,_,h⟩:=h;exact⟨_,h⟩
 |sk k=>obtain⟨b,_,h,_⟩:=h;exact⟨_,h⟩
 |sv k o n=>obtain⟨b,c,_,h,_⟩:=h;exact⟨_,h⟩
 |im d o=>obtain⟨b,l',_,_,h,_⟩:=h;exact⟨_,h⟩
 |ip e x o=>obtain⟨b,o0,l',_,_,h,_⟩:=h;exact⟨_,h⟩
 |top=>exact h
end Go.Sx
namespace Go.Mi
open Go.RowKit
variable [Dfr]
structure HRow where
 us:List (Nat×Nat)
 zs:List (Nat×Value)
 ph:List Nat
 hs:List Nat
 out:(Nat→Value)→Value
 dep:∀H H':Nat→Value,(∀j,j∈hs→H j=H' j)→out H=out H'
def HRow.sh (r:HRow):Row (fun _ _=>True):=⟨r.us,r.zs,r.ph,.val undef⟩
def AdQ (H:Nat→Value) (i:Nat) (v:Value):Nat→Value:=fun j=>bif Nat.beq j i then v else H j
def HRow.fr (rows:List HRow) (r:HRow) (H:Nat→Value):List (Nat×Value):=
 r.us.map (fun p=>(p.2,((rows[p.1]?).map (·.out H)).getD undef))++r.zs
def vb:Value→Option Bool
 | .bool b=>some b
 |_=>none
def HOb (P:Program) (n:Nat) (Wd:Nat→(Nat→Value)→World→Prop) (ss:List Nat) (L0:List (Nat×Value)) (rows:List HRow) (i:Nat) (o:Oper) (r:HRow):Prop:=
 t7 L0 r.zs∧∀(p:Nat),BM p r.ph=true→∀(H:Nat→Value) (w:World),Wd p H w→
  let R:Value→World→Prop:=fun v w'=>bif BM i ss then Wd (p+1) (AdQ H i v) w'∧v=r.out (AdQ H i v)else Wd p H w'∧v=r.out H
  match o.guard with
  |none=>Ok1 P o n (r.fr rows H) w R
  |some (j,b)=>∃c rj,rows[j]? =some rj∧vb (rj.out H)=c∧(if c=some b then Ok1 P o n (r.fr rows H) w R else BM i ss=false∧undef=r.out H)
def HObs (P:Program) (n:Nat) (Wd:Nat→(Nat→Value)→World→Prop) (ss:List Nat) (L0:List (Nat×Value)) (rows:List HRow):Nat→List Oper→List HRow→Prop
 |i,o::os,r::rs=>HOb P n Wd ss L0 rows i o r∧HObs P n Wd ss L0 rows (i+1) os rs
 |_,_,_=>True
variable {P:Program} {n:Nat} {Wd:Nat→(Nat→Value)→World→Prop} {ss:List Nat} {L0:List (Nat×Value)} {rows:List HRow}
theorem HObs.at:∀{os:List Oper} {rs:List HRow} {k:Nat},HObs P n Wd ss L0 rows k os rs→∀(i:Nat) (o:Oper) (r:HRow),os[i]? =some o→rs[i]? =some r→HOb P n Wd ss L0 rows (k+i) o r
 |o::os,r::rs,k,h,0,o',r',h1,h2=>by simp at h1 h2;subst h1;subst h2;exact h.1
 |o::os,r::rs,k,h,i+1,o',r',h1,h2=>by
  have :=HObs.at h.2 i o' r' (by simpa using h1) (by simpa using h2)
  rwa [show k+1+i=k+(i+1) by omega]at this
 |[],rs,_,_,i,o',r',h1,_=>by simp at h1
 |_::_,[],_,_,i,o',r',_,h2=>by simp at h2
variable {l:List Oper} {listed:Array Bool} {p:Nat} {H:Nat→Value} {a:Act} {w:World} {Q:Exit→Act→World→Prop}
structure HDone (l:List Oper) (n:Nat) (Wd:Nat→(Nat→Value)→World→Prop) (ss:List Nat) (L0:List (Nat×Value)) (rows:List HRow) (H:Nat→Value) (a:Act) (w:World):Prop where
 frame:a.tmps.size=n
 defers:a.defers=Dfr.ds
 wd:Wd ss.length H w
 done:∀(i:Nat) (o:Oper) (r:HRow) (d:Nat),l[i]? =some o→rows[i]? =some r→o.dst=some d→a.tmps.getD d undef=r.out H
 rest:∀s v,lk L0 s=some v→(∀(i:Nat) (o:Oper),l[i]? =some o→o.dst≠some s)→a.tmps.getD s undef=v
def P7 (H:Nat→Value):List Oper→List HRow→List (Nat×Value)
 |o::os,r::rs=>match o.dst with
  |some d=>(d,r.out H)::P7 H os rs
  |none=>P7 H os rs
 |_,_=>[]
theorem Ul {t : Nat} {v : Value} : ∀ {os : List Oper} {rs : List HRow}, lk (P7 H os rs) t = some v →
  ∃(i:Nat) (o:Oper) (r:HRow),os[i]? =some o∧rs[i]? =some r∧o.dst=some t∧v=r.out H
 |o::os,r::rs,h=>by
  simp only[P7]at h
  cases hd:o.dst with
  |none=>
   rw[hd]at h
   obtain⟨i,o',r',h1,h2,h3,h4⟩:=Ul h
   exact⟨i+1,o',r',by simpa using h1,by simpa using h2,h3,h4⟩
  |some d=>
   rw[hd]at h
   simp only[lk]at h
   by_cases e:d=t
   ·subst e
    simp at h
    exact⟨0,o,r,rfl,rfl,hd,h.symm⟩
   ·rw[Bb e]at h
    obtain⟨i,o',r',h1,h2,h3,h4⟩:=Ul h
    exact⟨i+1,o',r',by simpa using h1,by simpa using h2,h3,h4⟩
 |[],rs,h=>by simp [P7,lk]at h
 |_::_,[],h=>by simp [P7,lk]at h
theorem Mb {t:Nat}:∀{os:List Oper} {rs:List HRow},lk (P7 H os rs) t=none→∀(i:Nat) (o:Oper),i<rs.length→os[i]? =some o→o.dst≠some t
 |o::os,r::rs,h,i,o',hi,ho=>by
  simp only[P7]at h
  cases i with
  |zero=>
   simp at ho
   subst ho
   intro hd
   rw[hd]at h
   simp [lk]at h
  |succ i=>
   have h':lk (P7 H os rs) t=none:=by
    cases hd:o.dst with
    |none=>rw[hd]at h;exact h
    |some d=>
     rw[hd]at h
     simp only[lk]at h
     by_cases e:d=t
     ·subst e;simp at h
     ·rw[Bb e]at h;exact h
   exact Mb h' i o' (by simpa using hi) (by simpa using ho)
 |[],rs,h,i,o',hi,ho=>by simp at ho
 |_::_,[],h,i,o',hi,ho=>by simp at hi
theorem HDone.frm (ok:Abe n ss l (rows.map HRow.sh)) (h:HDone l n Wd ss L0 rows H a w):Frm a n (P7 H l rows++L0):=by
 refine⟨h.frame,h.defers,fun t v ht=> ?_⟩
 rw[SC]at ht
 cases ho:lk (P7 H l rows) t with
 |some u=>
  rw[ho]at ht
  simp at ht
  subst ht
  obtain⟨i,o,r,h1,h2,h3,h4⟩:=Ul ho
  rw[h4]
  exact h.done i o r t h1 h2 h3
 |none=>
  rw[ho]at ht
  refine h.rest t v ht fun i o hio=> ?_
  have hi:i<l.length:=by
   rcases Nat.lt_or_ge i l.length with h'|h'
   ·exact h'
   ·simp [List.getElem?_eq_none h']at hio
  exact Mb ho i o (by have :=ok.len;rw[List.length_map]at this;rw[this];exact hi) hio
end Go.Mi
namespace Go.Sx
open Go.Mi Go.RowKit
variable [Dfr]
structure G where
 N:Nat→Option Value
 F:Nat→List Nat
 X:Nat→Prop
inductive O where
 |ob (ty:TypeId) (ds:D)
 |sl (ty:TypeId) (e:List Fk) (xs:List (RT e))
abbrev Sm (g:G) (w:World) (d:D) (v:Value):Prop:=B4 g.X g.N w d true [v]
def OS (g:G) (w:World) (k:Nat):O→Prop
 | .ob ty ds=>∃b c,g.N k=some (vp b)∧g.F k=[b]∧w.heap[b]? =some (.cells c ty (0,0))∧B4 g.X g.N w ds false c.toList∧∀u∈c.toList,u.oneCell'=true
 | .sl ty e xs=>∃v ls,g.N k=some v∧g.F k=Cd v∧Own w 0 ty e.length v xs.length ls.flatten∧xs.length≤maxLen∧Fa2 (rS g.X g.N w e) xs ls∧∀u∈ls.flatten,u.oneCell'=true
theorem OS.lt {g:G} {w:World} {k:Nat} {o:O} (h:OS g w k o):∀b∈g.F k,b<w.heap.size:=by
 cases o with
 |ob ty ds=>
  obtain⟨b,c,_,h2,h3,_⟩:=h
  intro x hx
  rw[h2,List.mem_singleton]at hx
  subst hx
  rcases Nat.lt_or_ge x w.heap.size with h'|h'
  ·exact h'
  ·rw[Array.getElem?_eq_none h']at h3;cases h3
 |sl ty e xs=>
  obtain⟨v,ls,_,h2,h3,_⟩:=h
  intro x hx
  rw[h2]at hx
  exact(h3.lt x hx).2
structure Go (S:Nat→Prop) (g:G) (w:World) (g':G) (w':World):Prop where
 ch:Chp S w w'
 s:∀x,S x→g.X x
 x:∀x,g'.X x→g.X x∨w.heap.size≤x
 k:∀x,g.X x→¬S x→g'.X x
 n:∀k v,g.N k=some v→g'.N k=some v
 f:∀k v,g.N k=some v→g'.F k=g.F k
def Wf (g:G) (w:World):Prop:=∀x,g.X x→x<w.heap.size
variable {S:Nat→Prop} {g g':G} {w w':World}
theorem Go.goes (h:Go S g w g' w'):Zk g.X g.N w S g'.X g'.N w':=⟨h.ch,h.s,h.x,h.n⟩
theorem Go.refl (S:Nat→Prop) (g:G) (w:World) (hs:∀x,S x→g.X x):Go S g w g w:=⟨Chp.refl _ _,hs,fun _ h=> .inl h,fun _ h _=>h,fun _ _ h=>h,fun _ _ _=>rfl⟩
theorem Chp.next {S S':Nat→Prop} {a b c:World} (h:Chp S a b) (k:Chp S' b c) (hs:∀y,S' y→S y∨a.heap.size≤y):Chp S a c:=
 ⟨k.os.trans h.os,k.tape.trans h.tape,k.output.trans h.output,Nat.le_trans h.size k.size,fun i hi hn=>(k.blk i (Nat.lt_of_lt_of_le hi h.size) fun hy=>(hs i hy).elim hn fun h1=>by omega).trans (h.blk i hi hn)⟩
theorem Go.trans {S':Nat→Prop} {g'':G} {w'':World} (h:Go S g w g' w') (h':Go S' g' w' g'' w'') (hw:Wf g w) (hs:∀y,S' y→S y∨w.heap.size≤y):Go S g w g'' w'':=by
 refine⟨h.ch.next h'.ch hs,h.s,fun x hx=> ?_,fun x hx hn=> ?_,fun k v hk=>h'.n k v (h.n k v hk),fun k v hk=>(h'.f k v (h.n k v hk)).trans (h.f k v hk)⟩
 ·rcases h'.x x hx with h1|h1
  ·exact h.x x h1
  ·exact .inr (Nat.le_trans h.ch.size h1)
 ·refine h'.k x (h.k x hx hn) fun hy=> ?_
  rcases hs x hy with h1|h1
  ·exact hn h1
  ·have :=hw x hx;omega
theorem Go.mono {S':Nat→Prop} (h:Go S g w g' w') (hs:∀y,S y→S' y) (hx:∀y,S' y→g.X y):Go S' g w g' w':=
 ⟨⟨h.ch.os,h.ch.tape,h.ch.output,h.ch.size,fun b hb hn=>h.ch.blk b hb fun hy=>hn (hs b hy)⟩,hx,h.x,fun x h1 h2=>h.k x h1 fun hy=>h2 (hs x hy),h.n,h.f⟩
theorem Go.drew (g:G) (w:World):Go (fun _=>False) g w g {w with drawn:=w.drawn+1}:=
 ⟨⟨rfl,rfl,rfl,Nat.le_refl _,fun _ _ _=>rfl⟩,fun _ h=>h.elim,fun _ h=> .inl h,fun _ h _=>h,fun _ _ h=>h,fun _ _ _=>rfl⟩
theorem Sm.mv {d:D} {v:Value} (h:Sm g w d v) (k:Go S g w g' w'):Sm g' w' d v:=FM k.goes d true [v] h
theorem OS.mv {k:Nat} {o:O} (h:OS g w k o) (r:Go S g w g' w') (hs:∀b∈g.F k,¬S b):OS g' w' k o:=by
 have hl:=h.lt
 cases o with
 |ob ty ds=>
  obtain⟨b,c,h1,h2,h3,h4,h5⟩:=h
  have hb:b∈g.F k:=by rw[h2];simp
  exact⟨b,c,r.n _ _ h1,by rw[r.f _ _ h1,h2],by rw[r.ch.blk b (hl b hb) (hs b hb)];exact h3,FM r.goes _ _ _ h4,h5⟩
 |sl ty e xs=>
  obtain⟨v,ls,h1,h2,h3,h4,h5,h6⟩:=h
  exact⟨v,ls,r.n _ _ h1,by rw[r.f _ _ h1,h2],Own.mvp h3 r.ch fun b hb=>hs b (by rw[h2];exact hb),h4,h5.mono (ET r.goes e),h6⟩
structure HS (H:Nat→Option O) (g:G) (w:World):Prop where
 wf:Wf g w
 os:∀k o,H k=some o→OS g w k o
 own:∀k o,H k=some o→∀b∈g.F k,g.X b
 dis:∀k o k' o',H k=some o→H k'=some o'→k≠k'→∀b∈g.F k,b∉g.F k'
theorem HS.sub {H H':Nat→Option O} (h:HS H g w) (hs:∀k o,H' k=some o→H k=some o):HS H' g w:=
 ⟨h.wf,fun k o hk=>h.os k o (hs k o hk),fun k o hk=>h.own k o (hs k o hk),fun k o k' o' hk hk'=>h.dis k o k' o' (hs k o hk) (hs k' o' hk')⟩
abbrev Hp:=List (Nat×Option O)
def Es:Hp→Nat→Option (Option O)
 |[],_=>none
 |(s,o)::r,t=>bif Nat.beq s t then some o else Es r t
def AS (H:Hp) (k:Nat):Option O:=(Es H k).getD none
def BF (ks:List Nat) (H:Nat→Option O):Nat→Option O:=fun k=>bif BM k ks then H k else none
abbrev DL:=List (Nat×D)
def Do:DL→Nat→Option D
 |[],_=>none
 |(s,v)::r,t=>bif Nat.beq s t then some v else Do r t
def D.val:D→Value→Value
 | .v x,_=>x
 |_,u=>u
theorem Sm.val {d:D} {v:Value} (h:Sm g w d v):d.val v=v:=by
 cases d with
 |v x=>have :[v]=[x]:=h;simp only[List.cons.injEq,and_true]at this;exact this.symm
 |_=>rfl
def Lf (L:DL) (ξ:Nat→Value):List (Nat×Value):=L.map fun p=>(p.1,p.2.val (ξ p.1))
def Hold (L:DL) (ξ:Nat→Value) (g:G) (w:World):Prop:=∀t d,Do L t=some d→Sm g w d (ξ t)
theorem mY {L:DL} {ξ:Nat→Value} {t:Nat}:lk (Lf L ξ) t=(Do L t).map fun s=>s.val (ξ t):=by
 induction L with
 |nil=>rfl
 |cons p L ih=>
  obtain⟨s,u⟩:=p
  simp only[Lf,List.map_cons,lk,Do]
  by_cases e:s=t
  ·subst e;simp
  ·rw[Bb e];simpa[Lf]using ih
theorem Hold.lk {L:DL} {ξ:Nat→Value} {t:Nat} {d:D} (h:Hold L ξ g w) (hd:Do L t=some d):lk (Lf L ξ) t=some (ξ t):=by
 rw[mY,hd,Option.map_some,(h t d hd).val]
structure Fr (a:Act) (n:Nat) (L:DL) (g:G) (w:World):Prop where
 size:a.tmps.size=n
 defers:a.defers=Dfr.ds
 get:Hold L (fun t=>a.tmps.getD t undef) g w
theorem Fr.frm {a:Act} {n:Nat} {L:DL} (h:Fr a n L g w):Frm a n (Lf L fun t=>a.tmps.getD t undef):=by
 refine⟨h.size,h.defers,fun t v hv=> ?_⟩
 rw[mY]at hv
 obtain⟨s,h1,rfl⟩:=Option.map_eq_some_iff.1 hv
 exact(h.get t s h1).val.symm
theorem Fr.mv {a:Act} {n:Nat} {L:DL} (h:Fr a n L g w) (k:Go S g w g' w'):Fr a n L g' w':=⟨h.size,h.defers,fun t s hs=>(h.get t s hs).mv k⟩
def Bc (L:DL):List Nat→DL
 |[]=>[]
 |t::ts=>match Do L t with
  |some s=>(t,s)::Bc L ts
  |none=>Bc L ts
theorem Ef {L:DL}:∀{ts:List Nat} {t:Nat} {s:D},Do (Bc L ts) t=some s→t∈ts∧Do L t=some s
 |[],t,s,h=>by simp [Bc,Do]at h
 |u::ts,t,s,h=>by
  simp only[Bc]at h
  cases hu:Do L u with
  |none=>rw[hu]at h;obtain⟨h1,h2⟩:=Ef h;exact⟨List.mem_cons_of_mem _ h1,h2⟩
  |some x=>
   rw[hu]at h
   simp only[Do]at h
   by_cases e:u=t
   ·subst e;simp at h;subst h;exact⟨List.mem_cons_self ..,hu⟩
   ·rw[Bb e]at h;obtain⟨h1,h2⟩:=Ef h;exact⟨List.mem_cons_of_mem _ h1,h2⟩
theorem Fr.pick {a:Act} {n:Nat} {L:DL} (h:Fr a n L g w) (ts:List Nat):Fr a n (Bc L ts) g w:=⟨h.size,h.defers,fun t s hs=>h.get t s (Ef hs).2⟩
def IQ (H:Hp):List Nat→Hp
 |[]=>[]
 |t::ts=>match Es H t with
  |some s=>(t,s)::IQ H ts
  |none=>IQ H ts
theorem Qm {H:Hp}:∀{ts:List Nat} {t:Nat} {s:Option O},Es (IQ H ts) t=some s→t∈ts∧Es H t=some s
 |[],t,s,h=>by simp [IQ,Es]at h
 |u::ts,t,s,h=>by
  simp only[IQ]at h
  cases hu:Es H u with
  |none=>rw[hu]at h;obtain⟨h1,h2⟩:=Qm h;exact⟨List.mem_cons_of_mem _ h1,h2⟩
  |some x=>
   rw[hu]at h
   simp only[Es]at h
   by_cases e:u=t
   ·subst e;simp at h;subst h;exact⟨List.mem_cons_self ..,hu⟩
   ·rw[Bb e]at h;obtain⟨h1,h2⟩:=Qm h;exact⟨List.mem_cons_of_mem _ h1,h2⟩
theorem BD {H:Hp} {k:Nat} {o:O}:AS H k=some o↔Es H k=some (some o):=by
 unfold AS
 cases h:Es H k with
 |none=>simp
 |some x=>simp
theorem IY {H:Hp} {ts:List Nat} {k:Nat} {o:O} (h:AS (IQ H ts) k=some o):AS H k=some o:=BD.2 (Qm (BD.1 h)).2
structure Eff where
 rd:List Nat
 wr:Hp
 nw:List (Nat×O)
 r:D
def An {α:Type} (l:List (Nat×α)):List Nat:=l.map (·.1)
def Eff.outs (e:Eff):Hp:=e.wr++e.nw.map fun p=>(p.1,some p.2)
def Eff.foot (e:Eff) (H:Nat→Option O) (g:G):Nat→Prop:=fun b=>∃k,k∈An e.wr∧∃o,H k=some o∧b∈g.F k
structure Post (H:Nat→Option O) (e:Eff) (g:G) (w:World) (v:Value) (g':G) (w':World):Prop where
 go:Go (e.foot H g) g w g' w'
 r:Sm g' w' e.r v
 hs:HS (AS e.outs) g' w'
 fp:∀k o,AS e.outs k=some o→∀b∈g'.F k,e.foot H g b∨w.heap.size≤b
 nm:∀k v,g'.N k=some v→g.N k=some v∨k∈An e.nw
def EOk (P:Program) (n:Nat) (o:Oper) (L:DL) (H:Nat→Option O) (e:Eff):Prop:=
 ∀ξ g w,HS (BF (e.rd++An e.wr) H) g w→Hold L ξ g w→(∀p∈e.nw,g.N p.1=none)→Ok1 P o n (Lf L ξ) w fun v w'=>∃g',Post H e g w v g' w'
theorem Post.pure {H:Nat→Option O} {rd:List Nat} {d:D} {v:Value} (hw:Wf g w) (h:Sm g w d v):Post H ⟨rd,[],[],d⟩ g w v g w:=
 ⟨Go.refl _ _ _ (fun x ⟨k,hk,_⟩=>by simp [An]at hk),h,⟨hw,fun k o h=>by simp [Eff.outs,AS,Es]at h,fun k o h=>by simp [Eff.outs,AS,Es]at h,fun k o k' o' h=>by simp [Eff.outs,AS,Es]at h⟩,fun k o h=>by simp [Eff.outs,AS,Es]at h,fun k v h=> .inl h⟩
end Go.Sx
namespace Go.Sx
open Go.Mi Go.RowKit
variable [Dfr]
def lw {β γ:Type} (d:Nat→Bool) (f:β→Nat→Option γ):Nat→List β→(Nat→γ)→Nat→γ
 |_,[],H=>H
 |i,b::bs,H=>lw d f (i+1) bs fun k=>bif d i then(f b k).getD (H k)else H k
def jD {β γ:Type} (f:β→Nat→Option γ) (H:Nat→γ) (b:β):Nat→γ:=fun k=>(f b k).getD (H k)
theorem De {β γ:Type} {f:β→Nat→Option γ} {d d':Nat→Bool} {k:Nat}:∀{bs:List β} {i:Nat} {H H':Nat→γ},(∀(j:Nat) (b:β),bs[j]? =some b→f b k≠none→d (i+j)=d' (i+j))→H k=H' k→lw d f i bs H k=lw d' f i bs H' k
 |[],i,H,H',_,h=>h
 |b::bs,i,H,H',hd,h=>by
  simp only[lw]
  refine De (fun j b' hj hf=> ?_) ?_
  ·have :=hd (j+1) b' (by simpa using hj) hf
   rwa [show i+(j+1)=i+1+j by omega]at this
  ·cases hf:f b k with
   |none=>cases d i<;>cases d' i<;>simpa using h
   |some x=>
    have :=hd 0 b rfl (by rw[hf];simp)
    simp only[Nat.add_zero]at this
    rw[this]
    cases d' i<;>simp [h]
theorem IX {β γ:Type} {f:β→Nat→Option γ} {k:Nat}:∀{bs:List β} {i j:Nat} {H:Nat→γ},lw (fun x=>Nat.blt x (i+j)) f i bs H k=(bs.take j).foldl (jD f) H k
 |[],i,j,H=>by simp [lw]
 |b::bs,i,0,H=>by
  simp only[lw,List.take_zero,List.foldl_nil]
  have h1:Nat.blt i (i+0)=false:=by
   cases h:Nat.blt i (i+0)with
   |false=>rfl
   |true=>rw[Nat.blt_eq]at h;omega
  rw[h1]
  simp only[cond_false]
  have :=IX (bs:=bs) (i:=i+1) (j:=0) (H:=H) (f:=f) (k:=k)
  rw[List.take_zero,List.foldl_nil]at this
  refine Eq.trans (De (fun j b' _ _=> ?_) rfl) this
  have h2:∀m,i≤m→Nat.blt m i=false:=fun m hm=>by
   cases h:Nat.blt m i with
   |false=>rfl
   |true=>rw[Nat.blt_eq]at h;omega
  have h3:Nat.blt (i+1+j) (i+1+0)=false:=by
   cases h:Nat.blt (i+1+j) (i+1+0)with
   |false=>rfl
   |true=>rw[Nat.blt_eq]at h;omega
  rw[h3]
  exact h2 _ (by omega)
 |b::bs,i,j+1,H=>by
  simp only[lw,List.take_succ_cons,List.foldl_cons]
  have h1:Nat.blt i (i+(j+1))=true:=by rw[Nat.blt_eq];omega
  rw[h1]
  simp only[cond_true]
  have :=IX (bs:=bs) (i:=i+1) (j:=j) (H:=jD f H b) (f:=f) (k:=k)
  rw[←this,show i+(j+1)=i+1+j by omega]
  rfl
section
variable {P:Program} {Q:Exit→Act→World→Prop} {l:List Oper}
theorem NF {a : Act} {w : World} {id : Nat} (hm : P.follows .mixedOrders = true) (hback : ∀ (i : Nat) (o : Oper), l[i]? = some o → ∀ e ∈ o.after.toList, Region.binds .any e = true → e.on < i) (I : (Nat → Bool) → Act → World → Prop)
  (hcg:∀d d' a w,(∀i,i<l.length→d i=d' i)→I d a w→I d' a w) (h0:I (fun _=>false) a {w with drawn:=w.drawn+1})
  (hstep:∀d i a w,i<l.length→d i=false→(∀i' j,Cg l i' j→d i'=true→d j=true)→(∀j,Cg l i j→d j=true)→I d a w→wpOp P l.toArray Q i (fun a' w'=>I (fun j=>bif Nat.beq j i then true else d j) a' w') a w)
  (hend:∀a w,I (fun _=>true) a w→Q .normal a w):(Code.region id l.toArray true).wp P Q a w:=by
 refine wp_region_any hm ?_
 let I2:Array Bool→Act→World→Prop:=fun listed a w=>listed.size=l.length∧(∀i o,l[i]? =some o→listed.getD i false=true→∀e∈o.after.toList,Region.binds .any e=true→listed.getD e.on false=true)∧I (fun i=>listed.getD i false) a w
 have closed:∀{listed:Array Bool} {a:Act} {w:World},I2 listed a w→∀i j,Cg l i j→listed.getD i false=true→listed.getD j false=true:=by
  intro listed a w h i j ha
  induction ha with
  |edge h1 h2 h3=>exact fun hi=>h.2.1 _ _ h1 hi _ h2 h3
  |trans _ _ ih1 ih2=>exact fun hi=>ih2 (ih1 hi)
 have whenAll:∀(listed:Array Bool) (a:Act) (w:World),I2 listed a w→(∀i,i<l.length→listed.getD i false=true)→Q .normal a w:=by
  intro listed a w h hall
  exact hend a w (hcg _ _ a w (fun i hi=>hall i hi) h.2.2)
 have hready:∀(listed:Array Bool) (a:Act) (w:World),I2 listed a w→Region.ready .any l.toArray listed=[]→∀i,i<l.length→listed.getD i false=true:=by
  intro listed a w h hnil i0 hi0
  have :∀k i,i≤k→i<l.length→listed.getD i false=false→False:=by
   intro k
   induction k with
   |zero=>
    intro i hik hil hif
    have hi0:i=0:=by omega
    subst hi0
    have ho:l[0]? =some l[0]:=List.getElem?_eq_getElem hil
    have hmem:0∈Region.ready .any l.toArray listed:=by
     simp only[Region.ready,List.mem_filter,List.mem_range,Bool.and_eq_true]
     refine⟨by simpa using hil,?_,?_⟩
     ·have :0<listed.size:=by rw[h.1];exact hil
      simpa[this]using hif
     ·simp only[List.getElem?_toArray,ho,Option.map_some,Option.getD_some,Array.all_eq_true']
      intro e he
      cases hbd:Region.binds .any e with
      |false=>simp
      |true=>have :=hback 0 _ ho e (by simpa using he) hbd;omega
    rw[hnil]at hmem
    simp at hmem
   |succ k ihk=>
    intro i hik hil hif
    by_cases hlow:∃j,j<i∧listed.getD j false=false
    ·obtain⟨j,hj,hjf⟩:=hlow
     exact ihk j (by omega) (by omega) hjf
    ·have ho:l[i]? =some l[i]:=List.getElem?_eq_getElem hil
     have hmem:i∈Region.ready .any l.toArray listed:=by
      simp only[Region.ready,List.mem_filter,List.mem_range,Bool.and_eq_true]
      refine⟨by simpa using hil,?_,?_⟩
      ·have :i<listed.size:=by rw[h.1];exact hil
       simpa[this]using hif
      ·simp only[List.getElem?_toArray,ho,Option.map_some,Option.getD_some,Array.all_eq_true']
       intro e he
       cases hbd:Region.binds .any e with
       |false=>simp
       |true=>
        have hlt:=hback i _ ho e (by simpa using he) hbd
        cases hb:listed.getD e.on false with
        |true=>simp
        |false=>exact absurd ⟨e.on,hlt,hb⟩ hlow
     rw[hnil]at hmem
     simp at hmem
  cases hb:listed.getD i0 false with
  |true=>rfl
  |false=>exact(this i0 i0 (Nat.le_refl _) hi0 hb).elim
 have main:∀(fuel:Nat) (listed:Array Bool) (a:Act) (w:World),I2 listed a w→left l.length listed≤fuel→wpAny P .any l.toArray Q fuel listed a w:=by
  intro fuel
  induction fuel with
  |zero=>
   intro listed a w h hf
   have hall:∀i,i<l.length→listed.getD i false=true:=by
    intro i hi
    have h0:left l.length listed=0:=by omega
    unfold left at h0
    rw[List.countP_eq_zero]at h0
    simpa using h0 i (by simpa using hi)
   refine⟨?_,whenAll listed a w h hall⟩
   unfold Region.ready
   rw[List.filter_eq_nil_iff]
   intro i hi
   have hi':i<l.length:=by simpa using hi
   have h1:=hall i hi'
   have h2:i<listed.size:=by rw[h.1];exact hi'
   have h3:listed.getD i true=true:=by simpa[h2]using h1
   rw[h3]
   simp
  |succ fuel ih=>
   intro listed a w h hf
   refine⟨fun hnil=>whenAll listed a w h (hready listed a w h hnil),fun i hi=> ?_⟩
   have hlt:i<l.length:=by simpa using(VY hi).1
   have hsz:i<listed.size:=by rw[h.1];exact hlt
   have hf':listed.getD i false=false:=by
    have :=(VY hi).2
    simpa[hsz]using this
   obtain⟨oi,hoi⟩:∃o,l[i]? =some o:=⟨_,List.getElem?_eq_getElem hlt⟩
   have hed:=VZ hoi hi
   have hah:∀j,Cg l i j→listed.getD j false=true:=by
    intro j hj
    have key:∀i' j',Cg l i' j'→i'=i→listed.getD j' false=true:=by
     intro i' j' ha
     induction ha with
     |edge h1 h2 h3=>intro e;subst e;rw[hoi]at h1;cases h1;exact hed _ h2 h3
     |trans _ hb ih1 _=>intro e;exact closed h _ _ hb (ih1 e)
    exact key i j hj rfl
   refine wpOp_mono (fun a' w' h'=> ?_) (hstep _ i a w hlt hf' (closed h) hah h.2.2)
   refine ih _ a' w' ⟨by simp [h.1],fun i' o ho hd e he hb=> ?_,hcg _ _ _ _ (fun j _=> ?_) h'⟩ ?_
   ·rw[I4 hsz]at hd⊢
    by_cases h1:e.on=i
    ·rw[if_pos h1]
    ·rw[if_neg h1]
     by_cases h2:i'=i
     ·subst h2
      rw[hoi]at ho;cases ho
      exact hed e he hb
     ·rw[if_neg h2]at hd
      exact h.2.1 i' o ho hd e he hb
   ·show _=(listed.setIfInBounds i true).getD j false
    rw[I4 hsz]
    by_cases hji:j=i
    ·subst hji;simp
    ·rw[if_neg hji,Bb hji];rfl
   ·have :=m0 hsz hlt hf'
    omega
 refine main _ _ _ _ ?_ ?_
 ·have h0' : ∀ j, (Array.replicate l.toArray.size false).getD j false = false := by
   intro j
   simp only[Array.getD_eq_getD_getElem?,Array.getElem?_replicate]
   split<;>rfl
  refine⟨by simp,fun i o _ h=> ?_,hcg _ _ _ _ (fun i _=>(h0' i).symm) h0⟩
  rw[h0']at h;simp at h
 ·unfold left
  have :=List.countP_le_length (l:=List.range l.length) (p:=fun i=> !(Array.replicate l.toArray.size false).getD i false)
  simpa using this
theorem Kx {a : Act} {w : World} {id : Nat} (I : (Nat → Bool) → Act → World → Prop)
  (h0:I (fun _=>false) a w) (hcg:∀d d' a w,(∀i,i<l.length→d i=d' i)→I d a w→I d' a w)
  (hstep:∀i a w,i<l.length→I (fun j=>Nat.blt j i) a w→wpOp P l.toArray Q i (fun a' w'=>I (fun j=>bif Nat.beq j i then true else Nat.blt j i) a' w') a w)
  (hend:∀a w,I (fun _=>true) a w→Q .normal a w):(Code.region id l.toArray false).wp P Q a w:=by
 refine wp_region_lit ?_
 have main:∀(os:List Oper) (i:Nat) (a:Act) (w:World),(∀(j:Nat) o,os[j]? =some o→l[i+j]? =some o)→i+os.length=l.length→I (fun j=>Nat.blt j i) a w→wpList P l.toArray Q os a w:=by
  intro os
  induction os with
  |nil=>
   intro i a w _ hl h
   refine hend a w (hcg _ _ a w (fun j hj=> ?_) h)
   show Nat.blt j i=true
   rw[Nat.blt_eq]
   simp at hl
   omega
  |cons o os ih=>
   intro i a w ho hl h
   simp only[List.length_cons]at hl
   have hs:=hstep i a w (by omega) h
   have hi:l[i]? =some o:=by simpa using ho 0 o rfl
   unfold wpOp at hs
   simp only[List.getElem?_toArray,hi]at hs
   unfold wpList
   have hn:∀a' w',I (fun j=>bif Nat.beq j i then true else Nat.blt j i) a' w'→wpList P l.toArray Q os a' w':=fun a' w' h'=>by
    refine ih (i+1) a' w' (fun j o' hj=> ?_) (by omega) (hcg _ _ _ _ (fun j _=> ?_) h')
    ·rw[show i+1+j=i+(j+1) by omega];exact ho (j+1) o' (by simpa using hj)
    ·show _=Nat.blt j (i+1)
     by_cases hji:j=i
     ·subst hji
      simp [Nat.blt_eq]
     ·rw[Bb hji]
      simp only[cond_false]
      cases h1:Nat.blt j i with
      |true=>rw[Nat.blt_eq]at h1;symm;rw[Nat.blt_eq];omega
      |false=>
       cases h2:Nat.blt j (i+1)with
       |false=>rfl
       |true=>
        rw[Nat.blt_eq]at h2
        have :Nat.blt j i=true:=by rw[Nat.blt_eq];omega
        rw[this]at h1;cases h1
   split
   ·rename_i hw
    rw[if_pos hw]at hs
    rcases hs with hs|hs
    ·exact .inl (Oper.wp_mono hn hs)
    ·exact .inr hs
   ·rename_i hw
    rw[if_neg hw]at hs
    exact hn _ _ hs
 refine main l 0 a w (fun j o h=>by simpa using h) (by simp) ?_
 refine hcg _ _ a w (fun i _=> ?_) h0
 cases h:Nat.blt i 0 with
 |false=>rfl
 |true=>rw[Nat.blt_eq]at h;omega
end
end Go.Sx
namespace Go.Sx
open Go.Mi Go.RowKit
variable [Dfr]
abbrev Rw:=Option Eff
def FB:Rw→Hp
 |none=>[]
 |some e=>e.outs
def Abt:Rw→D
 |none=> .v undef
 |some e=>e.r
def rdR:Rw→List Nat
 |none=>[]
 |some e=>e.rd
def dW:Rw→List Nat
 |none=>[]
 |some e=>An e.nw
def fL (b:Oper×Rw) (t:Nat):Option (Option D):=match b.1.dst with
 |some s=>bif Nat.beq s t then some (some (Abt b.2))else none
 |none=>none
def fH (b:Oper×Rw) (k:Nat):Option (Option O):=Es (FB b.2) k
def LJ (ops:List Oper) (o:Oper):List Nat:=
 (match o.guard with
  |some (j,_)=>((ops[j]?).bind (·.dst)).toList
  |none=>[])++o.op.operands.toList.filterMap fun x=>match x with
  | .tmp t=>some t
  |_=>none
def gW (ops:List Oper) (L:DL) (o:Oper):Option Bool:=match o.guard with
 |none=>some true
 |some (j,b)=>(match((ops[j]?).bind (·.dst)).bind (Do L)with
  |some (.v v)=>some (vb v==some b)
  |_=>none)
def K5 (a b:List Nat):Bool:=a.all fun x=> !BM x b
theorem Oz {a b:List Nat} (h:K5 a b=true) {x:Nat} (ha:x∈a) (hb:x∈b):False:=by
 have h1:=List.all_eq_true.1 h x ha
 rw[AN.2 hb]at h1
 cases h1
structure s9 where
 rds:List Nat
 dst:List Nat
 rd:List Nat
 wr:List Nat
 nw:List Nat
def Il (l:List Oper) (b:Oper×Rw):s9:=⟨LJ l b.1,b.1.dst.toList,rdR b.2,An (FB b.2),dW b.2⟩
def DV (a b:s9):Bool:=K5 a.dst b.rds&&K5 b.dst a.rds&&K5 a.dst b.dst&&K5 a.wr (b.rd++b.wr)&&K5 b.wr a.rd
def UT (m:Nat) (s:s9):Nat→List s9→Bool
 |_,[]=>true
 |i,x::xs=>(DV x s||m.testBit i)&&K5 x.nw s.nw&&UT m s (i+1) xs
def US (B:List Nat) (acc:List s9):Nat→List s9→Bool
 |_,[]=>true
 |j,s::ss=>UT (B.getD j 0) s 0 acc&&US B (acc++[s]) (j+1) ss
def bM:Nat→List Oper→Bool
 |_,[]=>true
 |i,o::os=>(o.after.toList.all fun e=> !(Region.binds .any e)||Nat.blt e.on i)&&bM (i+1) os
def Xa (n nb nb':Nat) (l:List Oper) (rows:List Rw):Bool:=
 Nat.beq rows.length l.length&&bM 0 l&&(l.all fun o=>match o.dst with
  |some d=>Nat.blt d n
  |none=>true)&&US (gO l []) [] 0 ((l.zip rows).map (Il l))&&(rows.all fun r=>(dW r).all fun k=>Nat.ble nb k&&Nat.blt k nb')
structure ChkR (n nb nb':Nat) (l:List Oper) (rows:List Rw):Prop where
 len:rows.length=l.length
 back:∀(i:Nat) (o:Oper),l[i]? =some o→∀e∈o.after.toList,Region.binds .any e=true→e.on<i
 slot:∀o∈l,∀d,o.dst=some d→d<n
 pair:∀(i j:Nat) (a b:Oper×Rw),(l.zip rows)[i]? =some a→(l.zip rows)[j]? =some b→i<j→DV (Il l a) (Il l b)=true∨Cg l j i
 fresh:∀(i j:Nat) (a b:Oper×Rw),(l.zip rows)[i]? =some a→(l.zip rows)[j]? =some b→i<j→K5 (dW a.2) (dW b.2)=true
 name:∀r∈rows,∀k∈dW r,nb≤k∧k<nb'
theorem S7 {m:Nat} {s:s9}:∀{xs:List s9} {i:Nat},UT m s i xs=true→∀(k:Nat) (x:s9),xs[k]? =some x→(DV x s=true∨m.testBit (i+k)=true)∧K5 x.nw s.nw=true
 |[],i,_,k,x,h=>by simp at h
 |y::ys,i,h,k,x,hk=>by
  simp only[UT,Bool.and_eq_true,Bool.or_eq_true]at h
  cases k with
  |zero=>simp at hk;subst hk;exact⟨h.1.1,h.1.2⟩
  |succ k=>
   have :=S7 h.2 k x (by simpa using hk)
   rwa [show i+1+k=i+(k+1) by omega]at this
theorem S6 {B:List Nat}:∀{ss acc:List s9} {j:Nat},acc.length=j→US B acc j ss=true→∀(i k:Nat) (x y:s9),(acc++ss)[i]? =some x→ss[k]? =some y→i<j+k→(DV x y=true∨(B.getD (j+k) 0).testBit i=true)∧K5 x.nw y.nw=true
 |[],acc,j,_,_,i,k,x,y,_,h,_=>by simp at h
 |s::ss,acc,j,hl,h,i,k,x,y,hx,hy,hi=>by
  simp only[US,Bool.and_eq_true]at h
  cases k with
  |zero=>
   simp at hy
   subst hy
   have hx':acc[i]? =some x:=by rw[List.getElem?_append_left (by omega)]at hx;exact hx
   have :=S7 h.1 i x hx'
   simpa using this
  |succ k=>
   have :=S6 (acc:=acc++[s]) (by simp [hl]) h.2 i k x y (by simpa using hx) (by simpa using hy) (by omega)
   rwa [show j+1+k=j+(k+1) by omega]at this
theorem Xb:∀{os:List Oper} {i:Nat},bM i os=true→∀(k:Nat) (o:Oper),os[k]? =some o→∀e∈o.after.toList,Region.binds .any e=true→e.on<i+k
 |[],i,_,k,o,h=>by simp at h
 |x::os,i,h,k,o,hk=>by
  simp only[bM,Bool.and_eq_true,List.all_eq_true,Bool.or_eq_true]at h
  cases k with
  |zero=>
   simp at hk
   subst hk
   intro e he hb
   rcases h.1 e he with h1|h1
   ·rw[hb]at h1;cases h1
   ·rw[Nat.blt_eq]at h1;exact h1
  |succ k=>
   have :=Xb h.2 k o (by simpa using hk)
   rwa [show i+1+k=i+(k+1) by omega]at this
theorem ChkR.of {n nb nb':Nat} {l:List Oper} {rows:List Rw} (h:Xa n nb nb' l rows=true):ChkR n nb nb' l rows:=by
 simp only[Xa,Bool.and_eq_true]at h
 obtain⟨⟨⟨⟨h1,h2⟩,h3⟩,h4⟩,h5⟩:=h
 have hB:=U3 l l [] (fun j o hj=>by simpa using hj) (by simp)
 have hp:∀(i j:Nat) (a b:Oper×Rw),(l.zip rows)[i]? =some a→(l.zip rows)[j]? =some b→i<j→(DV (Il l a) (Il l b)=true∨((gO l []).getD j 0).testBit i=true)∧K5 (dW a.2) (dW b.2)=true:=by
  intro i j a b ha hb hij
  have :=S6 (acc:=[]) (j:=0) rfl h4 i j (Il l a) (Il l b) (by simp only[List.nil_append,List.getElem?_map,ha,Option.map_some]) (by simp only[List.getElem?_map,hb,Option.map_some]) (by omega)
  rw[Nat.zero_add]at this
  exact this
 refine⟨Nat.eq_of_beq_eq_true h1,fun i o ho e he hb=>by simpa using Xb h2 i o ho e he hb,fun o ho d hd=> ?_,fun i j a b ha hb hij=>(hp i j a b ha hb hij).1.imp id (hB j i),fun i j a b ha hb hij=>(hp i j a b ha hb hij).2,fun r hr k hk=> ?_⟩
 ·have :=List.all_eq_true.1 h3 o ho
  rw[hd]at this
  simpa[Nat.blt_eq]using this
 ·have :=List.all_eq_true.1 (List.all_eq_true.1 h5 r hr) k hk
  rw[Bool.and_eq_true,Nat.blt_eq]at this
  exact⟨Nat.le_of_ble_eq_true this.1,this.2⟩
structure SS (n:Nat) (S0:Nat→Prop) (g0:G) (w0:World) (L:Nat→Option D) (H:Nat→Option O) (nm:Nat→Prop) (a:Act) (g:G) (w:World):Prop where
 size:a.tmps.size=n
 defers:a.defers=Dfr.ds
 fr:∀t d,L t=some d→Sm g w d (a.tmps.getD t undef)
 hs:HS H g w
 go:Go S0 g0 w0 g w
 wf0:Wf g0 w0
 fp:∀k o,H k=some o→∀b∈g.F k,S0 b∨w0.heap.size≤b
 nm:∀k v,g.N k=some v→nm k
variable {n:Nat} {S0:Nat→Prop} {g0:G} {w0:World}
theorem SS.step {L : Nat → Option D} {H : Nat → Option O} {nm : Nat → Prop} {a : Act} {g : G} {w : World} (h : SS n S0 g0 w0 L H nm a g w) {e : Eff} {v : Value} {g' : G} {w' : World} {dst : Option Nat} (hd : ∀ t, dst = some t → t < n) (p : Post H e g w v g' w') {L' : Nat → Option D} {H' : Nat → Option O} {nm' : Nat → Prop}
  (hL:∀t d,L' t=some d→(dst=some t∧d=e.r)∨(dst≠some t∧L t=some d)) (hH:∀k o,H' k=some o→AS e.outs k=some o∨(k∉An e.outs∧H k=some o)) (hnm:∀k,nm k∨k∈An e.nw→nm' k):SS n S0 g0 w0 L' H' nm' (a.put dst v) g' w':=by
 have wk:∀k,k∈An e.wr→k∈An e.outs:=fun k hk=>by
  simp only[An,Eff.outs,List.map_append,List.mem_append]at hk⊢
  exact .inl hk
 have hnf:∀k o,k∉An e.outs→H k=some o→∀b∈g.F k,¬e.foot H g b:=fun k o hk ho b hb ⟨k',h1,o',h2,h3⟩=>
  h.hs.dis k o k' o' ho h2 (fun e'=>hk (e'▸wk k' h1)) b hb h3
 have hF:∀k o,k∉An e.outs→H k=some o→g'.F k=g.F k:=fun k o hk ho=>by
  have :=h.hs.os k o ho
  cases o with
  |ob ty ds=>obtain⟨b,c,h1,_⟩:=this;exact p.go.f k _ h1
  |sl ty e xs=>obtain⟨u,ls,h1,_⟩:=this;exact p.go.f k _ h1
 have ft:∀b,e.foot H g b→S0 b∨w0.heap.size≤b:=fun b ⟨k,_,o,h2,h3⟩=>h.fp k o h2 b h3
 refine⟨by cases dst<;>simp [Act.put,h.size],by cases dst<;>simpa[Act.put]using h.defers,fun t d ht=> ?_,⟨p.hs.wf,fun k o hk=> ?_,fun k o hk=> ?_,fun k o k' o' hk hk' hne=> ?_⟩,h.go.trans p.go h.wf0 ft,h.wf0,fun k o hk b hb=> ?_,fun k u hk=>hnm k ((p.nm k u hk).imp (h.nm k u) id)⟩
 ·rcases hL t d ht with⟨h1,rfl⟩|⟨h1,h2⟩
  ·subst h1
   have :(a.put (some t) v).tmps.getD t undef=v:=by simp [Act.put,h.size,hd t rfl]
   rw[this]
   exact p.r
  ·have : (a.put dst v).tmps.getD t undef = a.tmps.getD t undef := by
    cases dst with
    |none=>rfl
    |some s=>simp [Act.put,Array.getElem?_setIfInBounds_ne (fun e=>h1 (by rw[e]):s≠t)]
   rw[this]
   exact(h.fr t d h2).mv p.go
 ·rcases hH k o hk with h1|⟨h1,h2⟩
  ·exact p.hs.os k o h1
  ·exact(h.hs.os k o h2).mv p.go (hnf k o h1 h2)
 ·rcases hH k o hk with h1|⟨h1,h2⟩
  ·exact p.hs.own k o h1
  ·intro b hb
   rw[hF k o h1 h2]at hb
   exact p.go.k b (h.hs.own k o h2 b hb) (hnf k o h1 h2 b hb)
 ·have cross : ∀ k o k' o', AS e.outs k = some o → k' ∉ An e.outs → H k' = some o' → ∀ b ∈ g'.F k, b ∉ g'.F k' := by
   intro k o k' o' h1 h2 h3 b hb hb'
   rw[hF k' o' h2 h3]at hb'
   rcases p.fp k o h1 b hb with h4|h4
   ·exact hnf k' o' h2 h3 b hb' h4
   ·have :=(h.hs.os k' o' h3).lt b hb';omega
  rcases hH k o hk with h1|⟨h1,h2⟩<;>rcases hH k' o' hk' with h3|⟨h3,h4⟩
  ·exact p.hs.dis k o k' o' h1 h3 hne
  ·exact cross k o k' o' h1 h3 h4
  ·exact fun b hb hb'=>cross k' o' k o h3 h1 h2 b hb' hb
  ·intro b hb hb'
   rw[hF k o h1 h2]at hb
   rw[hF k' o' h3 h4]at hb'
   exact h.hs.dis k o k' o' h2 h4 hne b hb hb'
 ·rcases hH k o hk with h1|⟨h1,h2⟩
  ·rcases p.fp k o h1 b hb with h3|h3
   ·exact ft b h3
   ·exact .inr (Nat.le_trans h.go.ch.size h3)
  ·rw[hF k o h1 h2]at hb
   exact h.fp k o h2 b hb
theorem SS.drew {L:Nat→Option D} {H:Nat→Option O} {nm:Nat→Prop} {a:Act} {g:G} {w:World} (h:SS n S0 g0 w0 L H nm a g w):SS n S0 g0 w0 L H nm a g {w with drawn:=w.drawn+1}:=by
 have k:=Go.drew g w
 exact⟨h.size,h.defers,fun t d ht=>(h.fr t d ht).mv k,⟨h.hs.wf,fun i o ho=>(h.hs.os i o ho).mv k fun _ _=>id,h.hs.own,h.hs.dis⟩,h.go.trans k h.wf0 fun _ h=>h.elim,h.wf0,h.fp,h.nm⟩
theorem SS.weak {L L':Nat→Option D} {H H':Nat→Option O} {nm nm':Nat→Prop} {a:Act} {g:G} {w:World} (h:SS n S0 g0 w0 L H nm a g w) (hL:∀t d,L' t=some d→L t=some d) (hH:∀k o,H' k=some o→H k=some o) (hn:∀k,nm k→nm' k):SS n S0 g0 w0 L' H' nm' a g w:=
 ⟨h.size,h.defers,fun t d ht=>h.fr t d (hL t d ht),h.hs.sub hH,h.go,h.wf0,fun k o hk=>h.fp k o (hH k o hk),fun k v hv=>hn k (h.nm k v hv)⟩
end Go.Sx
namespace Go.Sx
open Go.Mi Go.RowKit
variable [Dfr]
theorem iH {ops:List Oper} {a:Act} {j d:Nat} {u:Value} (h1:(ops[j]?).bind (·.dst)=some d) (h3:a.tmps.getD d undef=u):yielded ops.toArray a.tmps j=vb u:=by
 unfold yielded
 rw[show(ops.toArray[j]?).bind (·.dst)=some d by simpa using h1]
 simp only[Option.bind_some]
 cases h4:a.tmps[d]? with
 |none=>
  simp [h4]at h3
  subst h3
  rfl
 |some x=>
  simp [h4]at h3
  subst h3
  cases x<;>rfl
theorem M1 {ops:List Oper} {L:DL} {o:Oper} {c:Bool} {a:Act} {g:G} {w:World} (hg:gW ops L o=some c) (hF:∀t,t∈LJ ops o→∀d,Do L t=some d→Sm g w d (a.tmps.getD t undef)):Region.wanted o (yielded ops.toArray a.tmps)=c:=by
 unfold gW at hg
 unfold Region.wanted
 split at hg
 ·rename_i hn;cases hg;rw[hn]
 ·rename_i j b hn
  rw[hn]
  split at hg
  ·rename_i u hb
   cases hg
   obtain⟨d,h1,h2⟩:=Option.bind_eq_some_iff.1 hb
   have h3:=hF d (by simp [LJ,hn,h1]) _ h2
   have h4:[a.tmps.getD d undef]=[u]:=h3
   simp only[List.cons.injEq,and_true]at h4
   simp only
   rw[iH h1 h4]
  ·cases hg
def FQ (L:DL) (b:Oper×Rw):DL:=match b.1.dst with
 |some t=>(t,Abt b.2)::L
 |none=>L
def G8 (H:Hp) (b:Oper×Rw):Hp:=FB b.2++H
theorem JD {A B : Hp} {k : Nat} : Es (A ++ B) k = match Es A k with
  |some o=>some o
  |none=>Es B k:=by
 induction A with
 |nil=>rfl
 |cons x A ih=>
  obtain⟨s,o⟩:=x
  simp only[List.cons_append,Es]
  by_cases h:s=k
  ·subst h;simp
  ·rw[Bb h];simpa using ih
theorem Hs {A:Hp} {k:Nat}:k∈An A↔Es A k≠none:=by
 induction A with
 |nil=>simp [An,Es]
 |cons x A ih=>
  obtain⟨s,o⟩:=x
  simp only[An,List.map_cons,List.mem_cons,Es]at ih⊢
  by_cases h:s=k
  ·subst h;simp
  ·rw[Bb h]
   have :¬k=s:=fun e=>h e.symm
   simp only[this,false_or,cond_false]
   exact ih
theorem Qv (L:DL) (bs:List (Oper×Rw)) (t:Nat):Do (bs.foldl FQ L) t=bs.foldl (jD fL) (Do L) t:=by
 have key:∀(bs:List (Oper×Rw)) (L:DL) (f:Nat→Option D),(∀t,Do L t=f t)→∀t,Do (bs.foldl FQ L) t=bs.foldl (jD fL) f t:=by
  intro bs
  induction bs with
  |nil=>exact fun L f h t=>h t
  |cons b bs ih=>
   intro L f h t
   simp only[List.foldl_cons]
   refine ih _ _ (fun t=> ?_) t
   unfold jD fL FQ
   cases hb:b.1.dst with
   |none=>simpa using h t
   |some s=>
    simp only[Do]
    by_cases e:s=t
    ·subst e;simp
    ·rw[Bb e];simpa using h t
 exact key bs L _ (fun _=>rfl) t
theorem Qw (H:Hp) (bs:List (Oper×Rw)) (k:Nat):AS (bs.foldl G8 H) k=bs.foldl (jD fH) (AS H) k:=by
 have key:∀(bs:List (Oper×Rw)) (H:Hp) (f:Nat→Option O),(∀t,AS H t=f t)→∀t,AS (bs.foldl G8 H) t=bs.foldl (jD fH) f t:=by
  intro bs
  induction bs with
  |nil=>exact fun L f h t=>h t
  |cons b bs ih=>
   intro H f h t
   simp only[List.foldl_cons]
   refine ih _ _ (fun t=> ?_) t
   unfold jD fH G8 AS
   rw[JD]
   cases hb:Es (FB b.2) t with
   |none=>simpa[AS]using h t
   |some o=>simp
 exact key bs H _ (fun _=>rfl) k
section
variable {P:Program} {n:Nat} {l:List Oper} {rows:List Rw} {L0:DL} {H0:Hp}
def MP (P:Program) (n:Nat) (l:List Oper) (L:DL) (H:Hp) (b:Oper×Rw):Prop:=match b.2 with
 |none=>gW l L b.1=some false
 |some e=>gW l L b.1=some true∧EOk P n b.1 (Bc L (LJ l b.1)) (AS H) e
def RowsOk (P:Program) (n:Nat) (l:List Oper):DL→Hp→List (Oper×Rw)→Prop
 |_,_,[]=>True
 |L,H,b::bs=>MP P n l L H b∧RowsOk P n l (FQ L b) (G8 H b) bs
theorem RowsOk.at:∀{bs:List (Oper×Rw)} {L:DL} {H:Hp},RowsOk P n l L H bs→∀(j:Nat) (b:Oper×Rw),bs[j]? =some b→MP P n l ((bs.take j).foldl FQ L) ((bs.take j).foldl G8 H) b
 |[],_,_,_,j,b,h=>by simp at h
 |x::bs,L,H,h,0,b,hb=>by simp at hb;subst hb;exact h.1
 |x::bs,L,H,h,j+1,b,hb=>by simpa using h.2.at j b (by simpa using hb)
variable {S0:Nat→Prop} {g0:G} {w0:World} {nb nb':Nat} {Q:Exit→Act→World→Prop} {a:Act} {g:G} {w:World}
def RI (n:Nat) (S0:Nat→Prop) (g0:G) (w0:World) (l:List Oper) (rows:List Rw) (L0:DL) (H0:Hp) (nb:Nat) (d:Nat→Bool) (a:Act) (w:World):Prop:=
 ∃g,SS n S0 g0 w0 (lw d fL 0 (l.zip rows) (Do L0)) (lw d fH 0 (l.zip rows) (AS H0)) (fun k=>k<nb∨∃(i:Nat) (b:Oper×Rw),(l.zip rows)[i]? =some b∧d i=true∧k∈dW b.2) a g w
theorem XG (hc:ChkR n nb nb' l rows) {i:Nat} (hi:i<l.length):∃o r,l[i]? =some o∧rows[i]? =some r∧(l.zip rows)[i]? =some (o,r):=by
 refine⟨l[i],rows[i]'(by rw[hc.len];exact hi),List.getElem?_eq_getElem hi,List.getElem?_eq_getElem _,?_⟩
 rw[List.getElem?_zip_eq_some]
 exact⟨List.getElem?_eq_getElem hi,List.getElem?_eq_getElem _⟩
theorem kU (hc : ChkR n nb nb' l rows) {d : Nat → Bool} {i : Nat} {o : Oper} {e : Eff} (hz : (l.zip rows)[i]? = some (o, some e)) (hdi : d i = false) (hcl : ∀ i' j, Cg l i' j → d i' = true → d j = true) (hah : ∀ j, Cg l i j → d j = true)
  (h:RI n S0 g0 w0 l rows L0 H0 nb d a w):∃g,SS n S0 g0 w0 (lw d fL 0 (l.zip rows) (Do L0)) (lw d fH 0 (l.zip rows) (AS H0)) (fun k=>k<nb∨∃(i:Nat) (b:Oper×Rw),(l.zip rows)[i]? =some b∧d i=true∧k∈dW b.2) a g w∧Fr a n (Bc (((l.zip rows).take i).foldl FQ L0) (LJ l o)) g w∧
   HS (BF (e.rd++An e.wr) (AS (((l.zip rows).take i).foldl G8 H0))) g w∧(∀b,e.foot (AS (((l.zip rows).take i).foldl G8 H0)) g b→e.foot (lw d fH 0 (l.zip rows) (AS H0)) g b)∧∀c,gW l (((l.zip rows).take i).foldl FQ L0) o=some c→Region.wanted o (yielded l.toArray a.tmps)=c:=by
 obtain⟨g,hS⟩:=h
 -- others that touch the same are where they are in the text's order
 have far:∀(k:Nat) (b:Oper×Rw),(l.zip rows)[k]? =some b→k≠i→(k<i→DV (Il l b) (Il l (o,some e))=false)→(i<k→DV (Il l (o,some e)) (Il l b)=false)→d k=Nat.blt k i:=by
  intro k b hb hki h1 h2
  rcases Nat.lt_or_gt_of_ne hki with hlt|hgt
  ·rcases hc.pair k i b (o,some e) hb hz hlt with h3|h3
   ·rw[h1 hlt]at h3;cases h3
   ·rw[hah k h3,show Nat.blt k i=true by rw[Nat.blt_eq];exact hlt]
  ·rcases hc.pair i k (o,some e) b hz hb hgt with h3|h3
   ·rw[h2 hgt]at h3;cases h3
   ·cases hk:d k with
    |true=>rw[hcl k i h3 hk]at hdi;cases hdi
    |false=>
     cases hb2:Nat.blt k i with
     |false=>rfl
     |true=>rw[Nat.blt_eq]at hb2;omega
 have bl:Nat.blt i i=false:=by
  cases hb:Nat.blt i i with
  |false=>rfl
  |true=>rw[Nat.blt_eq]at hb;omega
 have ndis:∀{xs ys:List Nat} {x:Nat},x∈xs→x∈ys→K5 xs ys=false:=fun {xs ys x} h1 h2=>by
  cases hd:K5 xs ys with
  |false=>rfl
  |true=>exact(Oz hd h1 h2).elim
 have dstm:∀{b:Oper×Rw} {t:Nat},fL b t≠none→t∈(Il l b).dst:=fun {b t} hf=>by
  unfold fL at hf
  simp only[Il]
  cases hbd:b.1.dst with
  |none=>simp [hbd]at hf
  |some s=>
   rw[hbd]at hf
   by_cases e:s=t
   ·subst e;simp
   ·simp [Bb e]at hf
 have wrm:∀{b:Oper×Rw} {k:Nat},fH b k≠none→k∈(Il l b).wr:=fun {b k} hf=>Hs.2 hf
 -- slots that are read
 have rdL:∀t,t∈LJ l o→lw d fL 0 (l.zip rows) (Do L0) t=Do (((l.zip rows).take i).foldl FQ L0) t:=by
  intro t ht
  rw[Qv,←IX (i:=0)]
  refine De (fun k b hb hf=> ?_) rfl
  rw[Nat.zero_add]
  show d k=Nat.blt k (0+i)
  rw[Nat.zero_add]
  by_cases hki:k=i
  ·subst hki;rw[hdi,bl]
  ·have h1:=dstm (b:=b) hf
   refine far k b hb hki (fun _=> ?_) (fun _=> ?_)
   ·simp only[DV,ndis h1 (show t∈(Il l (o,some e)).rds from ht),Bool.false_and]
   ·simp only[DV,ndis h1 (show t∈(Il l (o,some e)).rds from ht),Bool.and_false,Bool.false_and]
 have rdH:∀k,k∈rdR (some e)++An (FB (some e))→lw d fH 0 (l.zip rows) (AS H0) k=AS (((l.zip rows).take i).foldl G8 H0) k:=by
  intro k hk
  rw[Qw,←IX (i:=0)]
  refine De (fun j b hb hf=> ?_) rfl
  rw[Nat.zero_add]
  show d j=Nat.blt j (0+i)
  rw[Nat.zero_add]
  by_cases hki:j=i
  ·subst hki;rw[hdi,bl]
  ·have h1:=wrm (b:=b) hf
   refine far j b hb hki (fun _=> ?_) (fun _=> ?_)
   ·simp only[DV,ndis h1 (show k∈(Il l (o,some e)).rd++(Il l (o,some e)).wr from hk),Bool.and_false,Bool.false_and]
   ·rcases List.mem_append.1 hk with hk|hk
    ·simp only[DV,ndis h1 (show k∈(Il l (o,some e)).rd from hk),Bool.and_false]
    ·simp only[DV,ndis (show k∈(Il l (o,some e)).wr from hk) (List.mem_append_right _ h1),Bool.and_false,Bool.false_and]
 have hfr:∀t,t∈LJ l o→∀dd,Do (((l.zip rows).take i).foldl FQ L0) t=some dd→Sm g w dd (a.tmps.getD t undef):=fun t ht dd hdd=>hS.fr t dd ((rdL t ht).trans hdd)
 have hHold:Hold (Bc (((l.zip rows).take i).foldl FQ L0) (LJ l o)) (fun t=>a.tmps.getD t undef) g w:=fun t dd hdd=>by
  obtain⟨h1,h2⟩:=Ef hdd
  exact hfr t h1 dd h2
 have hHS:HS (BF (e.rd++An e.wr) (AS (((l.zip rows).take i).foldl G8 H0))) g w:=hS.hs.sub fun k o' hk=>by
  unfold BF at hk
  cases hm:BM k (e.rd++An e.wr)with
  |false=>rw[hm]at hk;cases hk
  |true=>
   rw[hm]at hk
   have hk2:=AN.1 hm
   rw[rdH k ?_]
   ·exact hk
   ·rcases List.mem_append.1 hk2 with h1|h1
    ·exact List.mem_append_left _ h1
    ·refine List.mem_append_right _ ?_
     simp only[FB,Eff.outs,An,List.map_append,List.mem_append]at h1⊢
     exact .inl h1
 refine⟨g,hS,⟨hS.size,hS.defers,hHold⟩,hHS,fun b ⟨k,h1,o',h2,h3⟩=>⟨k,h1,o',?_,h3⟩,fun c hg=>M1 hg hfr⟩
 rw[rdH k (List.mem_append_right _ (by simp only[FB,Eff.outs,An,List.map_append,List.mem_append]at h1⊢;exact .inl h1))]
 exact h2
theorem Ju (hc : ChkR n nb nb' l rows) {d : Nat → Bool} {i : Nat} (hr : ∀ b, (l.zip rows)[i]? = some b → MP P n l (((l.zip rows).take i).foldl FQ L0) (((l.zip rows).take i).foldl G8 H0) b) (hi : i < l.length) (hdi : d i = false) (hcl : ∀ i' j, Cg l i' j → d i' = true → d j = true) (hah : ∀ j, Cg l i j → d j = true)
  (h:RI n S0 g0 w0 l rows L0 H0 nb d a w):wpOp P l.toArray Q i (fun a' w'=>RI n S0 g0 w0 l rows L0 H0 nb (fun j=>bif Nat.beq j i then true else d j) a' w') a w:=by
 obtain⟨o,r,ho,hrw,hz⟩:=XG hc hi
 obtain⟨g,hS⟩:=h
 -- others that touch the same are where they are in the text's order
 have far:∀(k:Nat) (b:Oper×Rw),(l.zip rows)[k]? =some b→k≠i→(k<i→DV (Il l b) (Il l (o,r))=false)→(i<k→DV (Il l (o,r)) (Il l b)=false)→d k=Nat.blt k i:=by
  intro k b hb hki h1 h2
  rcases Nat.lt_or_gt_of_ne hki with hlt|hgt
  ·rcases hc.pair k i b (o,r) hb hz hlt with h3|h3
   ·rw[h1 hlt]at h3;cases h3
   ·rw[hah k h3,show Nat.blt k i=true by rw[Nat.blt_eq];exact hlt]
  ·rcases hc.pair i k (o,r) b hz hb hgt with h3|h3
   ·rw[h2 hgt]at h3;cases h3
   ·cases hk:d k with
    |true=>rw[hcl k i h3 hk]at hdi;cases hdi
    |false=>
     cases hb2:Nat.blt k i with
     |false=>rfl
     |true=>rw[Nat.blt_eq]at hb2;omega
 have bl:Nat.blt i i=false:=by
  cases hb:Nat.blt i i with
  |false=>rfl
  |true=>rw[Nat.blt_eq]at hb;omega
 have ndis:∀{xs ys:List Nat} {x:Nat},x∈xs→x∈ys→K5 xs ys=false:=fun {xs ys x} h1 h2=>by
  cases hd:K5 xs ys with
  |false=>rfl
  |true=>exact(Oz hd h1 h2).elim
 have dstm:∀{b:Oper×Rw} {t:Nat},fL b t≠none→t∈(Il l b).dst:=fun {b t} hf=>by
  unfold fL at hf
  simp only[Il]
  cases hbd:b.1.dst with
  |none=>simp [hbd]at hf
  |some s=>
   rw[hbd]at hf
   by_cases e:s=t
   ·subst e;simp
   ·simp [Bb e]at hf
 have wrm:∀{b:Oper×Rw} {k:Nat},fH b k≠none→k∈(Il l b).wr:=fun {b k} hf=>Hs.2 hf
 -- slots that are read
 have rdL:∀t,t∈LJ l o→lw d fL 0 (l.zip rows) (Do L0) t=Do (((l.zip rows).take i).foldl FQ L0) t:=by
  intro t ht
  rw[Qv,←IX (i:=0)]
  refine De (fun k b hb hf=> ?_) rfl
  rw[Nat.zero_add]
  show d k=Nat.blt k (0+i)
  rw[Nat.zero_add]
  by_cases hki:k=i
  ·subst hki;rw[hdi,bl]
  ·have h1:=dstm (b:=b) hf
   refine far k b hb hki (fun _=> ?_) (fun _=> ?_)
   ·simp only[DV,ndis h1 (show t∈(Il l (o,r)).rds from ht),Bool.false_and]
   ·simp only[DV,ndis h1 (show t∈(Il l (o,r)).rds from ht),Bool.and_false,Bool.false_and]
 have rdH:∀k,k∈rdR r++An (FB r)→lw d fH 0 (l.zip rows) (AS H0) k=AS (((l.zip rows).take i).foldl G8 H0) k:=by
  intro k hk
  rw[Qw,←IX (i:=0)]
  refine De (fun j b hb hf=> ?_) rfl
  rw[Nat.zero_add]
  show d j=Nat.blt j (0+i)
  rw[Nat.zero_add]
  by_cases hki:j=i
  ·subst hki;rw[hdi,bl]
  ·have h1:=wrm (b:=b) hf
   refine far j b hb hki (fun _=> ?_) (fun _=> ?_)
   ·simp only[DV,ndis h1 (show k∈(Il l (o,r)).rd++(Il l (o,r)).wr from hk),Bool.and_false,Bool.false_and]
   ·rcases List.mem_append.1 hk with hk|hk
    ·simp only[DV,ndis h1 (show k∈(Il l (o,r)).rd from hk),Bool.and_false]
    ·simp only[DV,ndis (show k∈(Il l (o,r)).wr from hk) (List.mem_append_right _ h1),Bool.and_false,Bool.false_and]
 have wL:∀t,o.dst=some t→lw (fun j=>bif Nat.beq j i then true else d j) fL 0 (l.zip rows) (Do L0) t=some (Abt r):=by
  intro t ht
  have :lw (fun j=>bif Nat.beq j i then true else d j) fL 0 (l.zip rows) (Do L0) t=lw (fun x=>Nat.blt x (0+(i+1))) fL 0 (l.zip rows) (Do L0) t:=by
   refine De (fun k b hb hf=> ?_) rfl
   rw[Nat.zero_add,Nat.zero_add]
   by_cases hki:k=i
   ·subst hki;simp [Nat.blt_eq]
   ·have h1:=dstm (b:=b) hf
    have h2:t∈(Il l (o,r)).dst:=by simp [Il,ht]
    rw[Bb hki]
    simp only[cond_false]
    rw[far k b hb hki (fun _=>by simp only[DV,ndis h1 h2,Bool.and_false,Bool.false_and]) (fun _=>by simp only[DV,ndis h2 h1,Bool.and_false,Bool.false_and])]
    cases hx:Nat.blt k i with
    |true=>rw[Nat.blt_eq]at hx;symm;rw[Nat.blt_eq];omega
    |false=>
     cases hy:Nat.blt k (i+1)with
     |false=>rfl
     |true=>
      rw[Nat.blt_eq]at hy
      have :Nat.blt k i=true:=by rw[Nat.blt_eq];omega
      rw[this]at hx;cases hx
  rw[this,IX,List.take_add_one,hz,List.foldl_append]
  simp [jD,fL,ht]
 have wL2:∀t,o.dst≠some t→lw (fun j=>bif Nat.beq j i then true else d j) fL 0 (l.zip rows) (Do L0) t=lw d fL 0 (l.zip rows) (Do L0) t:=by
  intro t ht
  refine De (fun k b hb hf=> ?_) rfl
  rw[Nat.zero_add]
  by_cases hki:k=i
  ·subst hki
   rw[hz]at hb
   cases hb
   exfalso
   apply hf
   unfold fL
   cases hx:o.dst with
   |none=>simp [hx]
   |some s=>simp only[hx];rw[Bb (fun e=>ht (by rw[hx,e]))];rfl
  ·rw[Bb hki];rfl
 have wH:∀k,k∈An (FB r)→lw (fun j=>bif Nat.beq j i then true else d j) fH 0 (l.zip rows) (AS H0) k=AS (FB r) k:=by
  intro t ht
  have :lw (fun j=>bif Nat.beq j i then true else d j) fH 0 (l.zip rows) (AS H0) t=lw (fun x=>Nat.blt x (0+(i+1))) fH 0 (l.zip rows) (AS H0) t:=by
   refine De (fun k b hb hf=> ?_) rfl
   rw[Nat.zero_add,Nat.zero_add]
   by_cases hki:k=i
   ·subst hki;simp [Nat.blt_eq]
   ·have h1:=wrm (b:=b) hf
    have h2:t∈(Il l (o,r)).wr:=ht
    rw[Bb hki]
    simp only[cond_false]
    rw[far k b hb hki (fun _=>by simp only[DV,ndis h1 (List.mem_append_right (Il l (o,r)).rd h2),Bool.and_false,Bool.false_and]) (fun _=>by simp only[DV,ndis h2 (List.mem_append_right (Il l b).rd h1),Bool.and_false,Bool.false_and])]
    cases hx:Nat.blt k i with
    |true=>rw[Nat.blt_eq]at hx;symm;rw[Nat.blt_eq];omega
    |false=>
     cases hy:Nat.blt k (i+1)with
     |false=>rfl
     |true=>
      rw[Nat.blt_eq]at hy
      have :Nat.blt k i=true:=by rw[Nat.blt_eq];omega
      rw[this]at hx;cases hx
  rw[this,IX,List.take_add_one,hz,List.foldl_append]
  have hne:=Hs.1 ht
  simp only[Option.toList_some,List.foldl_cons,List.foldl_nil,jD,fH,AS]
  cases hx:Es (FB r) t with
  |none=>exact absurd hx hne
  |some x=>rfl
 have wH2:∀k,k∉An (FB r)→lw (fun j=>bif Nat.beq j i then true else d j) fH 0 (l.zip rows) (AS H0) k=lw d fH 0 (l.zip rows) (AS H0) k:=by
  intro t ht
  refine De (fun k b hb hf=> ?_) rfl
  rw[Nat.zero_add]
  by_cases hki:k=i
  ·subst hki
   rw[hz]at hb
   cases hb
   exact absurd (Hs.2 hf) ht
  ·rw[Bb hki];rfl
 have hrow:=hr (o,r) hz
 have hfr:∀t,t∈LJ l o→∀dd,Do (((l.zip rows).take i).foldl FQ L0) t=some dd→Sm g w dd (a.tmps.getD t undef):=fun t ht dd hdd=>hS.fr t dd ((rdL t ht).trans hdd)
 have hslot:∀t,o.dst=some t→t<n:=fun t ht=>hc.slot o (List.mem_of_getElem? ho) t ht
 have hnm:∀k,(k<nb∨∃(i:Nat) (b:Oper×Rw),(l.zip rows)[i]? =some b∧d i=true∧k∈dW b.2)∨k∈dW r→(k<nb∨∃(i':Nat) (b:Oper×Rw),(l.zip rows)[i']? =some b∧(bif Nat.beq i' i then true else d i')=true∧k∈dW b.2):=by
  rintro k ((h1|⟨i',b,h1,h2,h3⟩)|h1)
  ·exact .inl h1
  ·refine .inr ⟨i',b,h1,?_,h3⟩
   rw[h2];cases Nat.beq i' i<;>rfl
  ·exact .inr ⟨i,(o,r),hz,by simp,h1⟩
 unfold wpOp
 simp only[List.getElem?_toArray,ho]
 cases r with
 |none=>
  have hg:gW l _ o=some false:=hrow
  rw[if_neg (by rw[M1 hg hfr];decide)]
  refine⟨g,SS.step hS (e:=⟨[],[],[],.v undef⟩) hslot (Post.pure hS.hs.wf rfl) (fun t dd ht=> ?_) (fun k o' hk=> ?_) fun k hk=>hnm k (hk.imp id fun h=>by simp [An]at h)⟩
  ·by_cases e:o.dst=some t
   ·rw[wL t e]at ht;cases ht;exact .inl ⟨e,rfl⟩
   ·rw[wL2 t e]at ht;exact .inr ⟨e,ht⟩
  ·rw[wH2 k (by simp [FB,An])]at hk
   exact .inr ⟨by simp [Eff.outs,An],hk⟩
 |some e=>
  have hg:gW l _ o=some true∧EOk P n o _ _ e:=hrow
  rw[if_pos (by rw[M1 hg.1 hfr])]
  refine .inl ?_
  have hHold:Hold (Bc (((l.zip rows).take i).foldl FQ L0) (LJ l o)) (fun t=>a.tmps.getD t undef) g w:=fun t dd hdd=>by
   obtain⟨h1,h2⟩:=Ef hdd
   exact hfr t h1 dd h2
  have hfrm:Fr a n (Bc (((l.zip rows).take i).foldl FQ L0) (LJ l o)) g w:=⟨hS.size,hS.defers,hHold⟩
  have hHS:HS (BF (e.rd++An e.wr) (AS (((l.zip rows).take i).foldl G8 H0))) g w:=hS.hs.sub fun k o' hk=>by
   unfold BF at hk
   cases hm:BM k (e.rd++An e.wr)with
   |false=>rw[hm]at hk;cases hk
   |true=>
    rw[hm]at hk
    have hk2:=AN.1 hm
    rw[rdH k ?_]
    ·exact hk
    ·rcases List.mem_append.1 hk2 with h1|h1
     ·exact List.mem_append_left _ h1
     ·refine List.mem_append_right _ ?_
      simp only[FB,Eff.outs,An,List.map_append,List.mem_append]at h1⊢
      exact .inl h1
  have hnew:∀p∈e.nw,g.N p.1=none:=fun p hp=>by
   have hpk:p.1∈dW (some e):=List.mem_map.2 ⟨p,hp,rfl⟩
   cases hN:g.N p.1 with
   |none=>rfl
   |some v=>
    exfalso
    have hnm0:=hc.name (some e) (List.mem_of_getElem? hrw) p.1 hpk
    rcases hS.nm p.1 v hN with h1|⟨i',b,h1,h2,h3⟩
    ·omega
    ·have hne:i'≠i:=fun e'=>by subst e';rw[hdi]at h2;cases h2
     rcases Nat.lt_or_gt_of_ne hne with hlt|hgt
     ·exact Oz (hc.fresh i' i b (o,some e) h1 hz hlt) h3 hpk
     ·exact Oz (hc.fresh i i' (o,some e) b hz h1 hgt) hpk h3
  refine hg.2 _ g w hHS hHold hnew a _ Q hfrm.frm ?_
  rintro v w' ⟨g',hp⟩
  have hfoot:∀b,e.foot (AS (((l.zip rows).take i).foldl G8 H0)) g b→e.foot (lw d fH 0 (l.zip rows) (AS H0)) g b:=fun b ⟨k,h1,o',h2,h3⟩=>⟨k,h1,o',by
   rw[rdH k (List.mem_append_right _ (by simp only[FB,Eff.outs,An,List.map_append,List.mem_append]at h1⊢;exact .inl h1))];exact h2,h3⟩
  have hfoot2:∀b,e.foot (lw d fH 0 (l.zip rows) (AS H0)) g b→g.X b:=fun b ⟨k,h1,o',h2,h3⟩=>hS.hs.own k o' h2 b h3
  refine⟨g',SS.step hS hslot ⟨hp.go.mono hfoot hfoot2,hp.r,hp.hs,fun k o' hk b hb=>(hp.fp k o' hk b hb).imp (hfoot b) id,hp.nm⟩ (fun t dd ht=> ?_) (fun k o' hk=> ?_) fun k hk=>hnm k hk⟩
  ·by_cases e':o.dst=some t
   ·rw[wL t e']at ht;cases ht;exact .inl ⟨e',rfl⟩
   ·rw[wL2 t e']at ht;exact .inr ⟨e',ht⟩
  ·by_cases hk2:k∈An e.outs
   ·rw[wH k hk2]at hk;exact .inl hk
   ·rw[wH2 k hk2]at hk;exact .inr ⟨hk2,hk⟩
end
end Go.Sx
namespace Go.Sx
open Go.Mi Go.RowKit
variable [Dfr]
def AllP:List Prop→Prop
 |[]=>True
 |p::ps=>p∧AllP ps
theorem AllP.append:∀{ps qs:List Prop},AllP (ps++qs)↔AllP ps∧AllP qs
 |[],qs=>by simp [AllP]
 |p::ps,qs=>by simp [AllP,AllP.append (ps:=ps),and_assoc]
abbrev St (n:Nat) (S0:Nat→Prop) (g0:G) (w0:World) (L:DL) (H:Hp) (nb:Nat) (a:Act) (g:G) (w:World):Prop:=SS n S0 g0 w0 (Do L) (AS H) (· <nb) a g w
abbrev Ex:=Nat→DL→Hp→Nat→Oper→Option (Eff×List Prop)
def Nz (P:Program) (n:Nat) (ex:Ex):Prop:=∀i L H nb o e ps,ex i L H nb o=some (e,ps)→AllP ps→EOk P n o L (AS H) e
def P0 (ops:List Oper) (ex:Ex):Nat→List Oper→DL→Hp→Nat→Option (List Rw×List Prop×DL×Hp×Nat)
 |_,[],L,H,nb=>some ([],[],L,H,nb)
 |i,o::os,L,H,nb=>match gW ops L o with
  |none=>none
  |some false=>(P0 ops ex (i+1) os (FQ L (o,none)) H nb).map fun r=>(none::r.1,r.2)
  |some true=>match ex i (Bc L (LJ ops o)) H nb o with
   |none=>none
   |some (e,ps)=>(P0 ops ex (i+1) os (FQ L (o,some e)) (G8 H (o,some e)) (nb+e.nw.length)).map fun r=>(some e::r.1,ps++r.2.1,r.2.2)
theorem l0 {P : Program} {n : Nat} {ops : List Oper} {ex : Ex} (hex : Nz P n ex) : ∀ {os : List Oper} {i : Nat} {L : DL} {H : Hp} {nb : Nat} {rows : List Rw} {ps : List Prop} {L' : DL} {H' : Hp} {nb' : Nat}, P0 ops ex i os L H nb = some (rows, ps, L', H', nb') → AllP ps →
  RowsOk P n ops L H (os.zip rows)∧L'=(os.zip rows).foldl FQ L∧H'=(os.zip rows).foldl G8 H:=by
 intro os
 induction os with
 |nil=>
  intro i L H nb rows ps L' H' nb' h _
  simp only[P0,Option.some.injEq,Prod.mk.injEq]at h
  obtain⟨rfl,_,rfl,rfl,_⟩:=h
  exact⟨trivial,rfl,rfl⟩
 |cons o os ih=>
  intro i L H nb rows ps L' H' nb' h hp
  simp only[P0]at h
  cases hg:gW ops L o with
  |none=>rw[hg]at h;cases h
  |some b=>
   rw[hg]at h
   cases b with
   |false=>
    obtain⟨⟨r1,r2,r3,r4,r5⟩,h1,h2⟩:=Option.map_eq_some_iff.1 h
    simp only[Prod.mk.injEq]at h2
    obtain⟨rfl,rfl,rfl,rfl,rfl⟩:=h2
    obtain⟨k1,k2,k3⟩:=ih h1 hp
    exact⟨⟨hg,k1⟩,k2,k3⟩
   |true=>
    simp only at h
    cases he:ex i (Bc L (LJ ops o)) H nb o with
    |none=>rw[he]at h;cases h
    |some x=>
     obtain⟨e,qs⟩:=x
     rw[he]at h
     simp only at h
     obtain⟨⟨r1,r2,r3,r4,r5⟩,h1,h2⟩:=Option.map_eq_some_iff.1 h
     simp only[Prod.mk.injEq]at h2
     obtain⟨rfl,rfl,rfl,rfl,rfl⟩:=h2
     rw[AllP.append]at hp
     obtain⟨k1,k2,k3⟩:=ih h1 hp.2
     exact⟨⟨⟨hg,hex _ _ _ _ _ _ _ he hp.1⟩,k1⟩,by simpa using k2,by simpa using k3⟩
def plX (n:Nat) (ops:List Oper) (ex:Ex) (L:DL) (H:Hp) (nb:Nat) (kL kH:List Nat):Option (List Prop×DL×Hp×Nat):=match P0 ops ex 0 ops L H nb with
 |some (rows,ps,L',H',nb')=>bif Xa n nb nb' ops rows then some (ps,Bc L' kL,IQ H' kH,nb')else none
 |none=>none
section
variable {P:Program} {n:Nat} {ops:List Oper} {ex:Ex} {L:DL} {H:Hp} {nb:Nat} {kL kH:List Nat} {S0:Nat→Prop} {g0 g:G} {w0 w:World} {Q:Exit→Act→World→Prop} {a:Act}
theorem l9 {ps : List Prop} {Lo : DL} {Ho : Hp} {nb' : Nat} (hex : Nz P n ex) (h : plX n ops ex L H nb kL kH = some (ps, Lo, Ho, nb')) (hp : AllP ps) :
  ∃rows,ChkR n nb nb' ops rows∧RowsOk P n ops L H (ops.zip rows)∧(∀t d,Do Lo t=some d→Do ((ops.zip rows).foldl FQ L) t=some d)∧(∀k o,AS Ho k=some o→AS ((ops.zip rows).foldl G8 H) k=some o):=by
 unfold plX at h
 cases hx:P0 ops ex 0 ops L H nb with
 |none=>rw[hx]at h;cases h
 |some x=>
  obtain⟨rows,qs,L',H',nb2⟩:=x
  rw[hx]at h
  simp only at h
  cases hc:Xa n nb nb2 ops rows with
  |false=>rw[hc]at h;cases h
  |true=>
   rw[hc]at h
   simp only[cond_true,Option.some.injEq,Prod.mk.injEq]at h
   obtain⟨rfl,rfl,rfl,rfl⟩:=h
   obtain⟨k1,k2,k3⟩:=l0 hex hx hp
   exact⟨rows,ChkR.of hc,k1,fun t d hd=>by rw[←k2];exact(Ef hd).2,fun k o ho=>by rw[←k3];exact IY ho⟩
theorem Uj {β γ:Type} {f:β→Nat→Option γ} {bs:List β} {H:Nat→γ} {k:Nat}:lw (fun _=>true) f 0 bs H k=bs.foldl (jD f) H k:=by
 have :=IX (f:=f) (bs:=bs) (i:=0) (j:=bs.length) (H:=H) (k:=k)
 rw[List.take_length]at this
 rw[←this]
 refine De (fun j b hb _=> ?_) rfl
 have :j<bs.length:=by
  rcases Nat.lt_or_ge j bs.length with h|h
  ·exact h
  ·rw[List.getElem?_eq_none h]at hb;cases hb
 symm
 rw[Nat.blt_eq]
 omega
theorem NL {β γ:Type} {f:β→Nat→Option γ} {bs:List β} {H:Nat→γ} {k:Nat}:lw (fun _=>false) f 0 bs H k=H k:=by
 have :∀(bs:List β) (i:Nat) (H:Nat→γ),lw (fun _=>false) f i bs H k=H k:=by
  intro bs
  induction bs with
  |nil=>exact fun i H=>rfl
  |cons b bs ih=>intro i H;simp only[lw,cond_false];exact ih _ _
 exact this bs 0 H
theorem Sd {l:List Oper} {rows:List Rw} (hl:rows.length=l.length) {d d':Nat→Bool} {a:Act} {w:World} (h:∀i,i<l.length→d i=d' i) (hr:RI n S0 g0 w0 l rows L H nb d a w):RI n S0 g0 w0 l rows L H nb d' a w:=by
 have hlen:∀(j:Nat) (b:Oper×Rw),(l.zip rows)[j]? =some b→j<l.length:=fun j b hb=>by
  rcases Nat.lt_or_ge j l.length with h|h
  ·exact h
  ·rw[List.getElem?_eq_none (by simp;omega)]at hb;cases hb
 obtain⟨g,hS⟩:=hr
 refine⟨g,hS.weak (fun t d ht=> ?_) (fun k o hk=> ?_) fun k hk=>hk.imp id fun⟨i,b,h1,h2,h3⟩=>⟨i,b,h1,by rw[←h i (hlen i b h1)];exact h2,h3⟩⟩
 ·rw[←ht];exact De (fun j b hb _=>by rw[Nat.zero_add];exact h j (hlen j b hb)) rfl
 ·rw[←hk];exact De (fun j b hb _=>by rw[Nat.zero_add];exact h j (hlen j b hb)) rfl
theorem VT {id : Nat} {dr : Bool} (hm : P.follows .mixedOrders = true) (hex : Nz P n ex) {ps : List Prop} {Lo : DL} {Ho : Hp} {nb' : Nat} (h : plX n ops ex L H nb kL kH = some (ps, Lo, Ho, nb')) (hp : AllP ps) (hle : Nat.ble nb nb' = true) (hS : St n S0 g0 w0 L H nb a g w)
  (hend:∀a g w,St n S0 g0 w0 Lo Ho nb' a g w→Q .normal a w):(Code.region id ops.toArray dr).wp P Q a w:=by
 obtain⟨rows,hc,hr,h1,h2⟩:=l9 hex h hp
 have hle:=Nat.le_of_ble_eq_true hle
 have fin:∀a w,RI n S0 g0 w0 ops rows L H nb (fun _=>true) a w→Q .normal a w:=fun a w ⟨g,hs⟩=>hend a g w (hs.weak (fun t d ht=>by rw[Uj,←Qv];exact h1 t d ht) (fun k o hk=>by rw[Uj,←Qw];exact h2 k o hk) fun k hk=>by
  rcases hk with hk|⟨i,b,hb,_,hk⟩
  ·exact Nat.lt_of_lt_of_le hk hle
  ·obtain⟨_,hz⟩:=List.getElem?_zip_eq_some.1 hb
   exact(hc.name b.2 (List.mem_of_getElem? hz) k hk).2)
 have ini:∀w,St n S0 g0 w0 L H nb a g w→RI n S0 g0 w0 ops rows L H nb (fun _=>false) a w:=fun w hs=>⟨g,hs.weak (fun t d ht=>by rw[NL]at ht;exact ht) (fun k o hk=>by rw[NL]at hk;exact hk) fun k hk=> .inl hk⟩
 cases dr with
 |true=>
  exact NF hm hc.back (RI n S0 g0 w0 ops rows L H nb) (fun d d' a w hd=>Sd hc.len hd) (ini _ hS.drew) (fun d i a w hi hdi hcl hah hri=>Ju hc (fun b hb=>hr.at i b hb) hi hdi hcl hah hri) fin
 |false=>
  refine Kx (RI n S0 g0 w0 ops rows L H nb) (ini _ hS) (fun d d' a w hd=>Sd hc.len hd) (fun i a w hi hri=> ?_) fin
  have ahead_lt:∀i j,Cg ops i j→j<i:=fun i j ha=>by
   induction ha with
   |edge h1 h2 h3=>exact hc.back _ _ h1 _ h2 h3
   |trans _ _ ih1 ih2=>omega
  refine Ju hc (fun b hb=>hr.at i b hb) hi ?_ (fun i' j ha hi'=> ?_) (fun j ha=> ?_) hri
  ·cases hb:Nat.blt i i with
   |false=>rfl
   |true=>rw[Nat.blt_eq]at hb;omega
  ·rw[Nat.blt_eq]at hi'⊢;have :=ahead_lt _ _ ha;omega
  ·rw[Nat.blt_eq];exact ahead_lt _ _ ha
end
end Go.Sx
namespace Go.Sx
open Go.Mi Go.RowKit
variable [Dfr]
def AZ (k:IntKind) (p q:Int):Int:=k.wrap (p+q)
def Eu (k:IntKind) (p q:Int):Int:=k.wrap (p-q)
def BJ (k:IntKind) (p q:Int):Int:=k.wrap (p*q)
def Me (k:IntKind) (p q:Int):Int:=k.wrap (p.tdiv q)
def CV (p q:Int):Int:=p.tmod q
def A5 (k:IntKind) (p q:Int):Int:=k.wrap (BitVec.ofInt k.bits p&&&BitVec.ofInt k.bits q).toNat
def C7 (k:IntKind) (p q:Int):Int:=k.wrap (BitVec.ofInt k.bits p|||BitVec.ofInt k.bits q).toNat
def AK (k:IntKind) (p q:Int):Int:=k.wrap (BitVec.ofInt k.bits p^^^BitVec.ofInt k.bits q).toNat
def D9 (k:IntKind) (p q:Int):Int:=k.wrap (BitVec.ofInt k.bits p&&& ~~~BitVec.ofInt k.bits q).toNat
def Bd (k:IntKind) (p q:Int):Int:=k.wrap (p*2^(min q.toNat k.bits))
def AY (k:IntKind) (p q:Int):Int:=p.fdiv (2^(min q.toNat k.bits))
def Eb (L:DL):Operand→Option D
 | .tmp t=>Do L t
 | .const v=>some (.v v)
 | .global k=>some (.v (.pointer (some ⟨k,0,none⟩)))
 | .func f=>some (.v (.func (.func f) #[] #[]))
theorem A4 {L:DL} {ξ:Nat→Value} {g:G} {w:World} {x:Operand} {d:D} (hH:Hold L ξ g w) (h:Eb L x=some d):∃v,ev (Lf L ξ) x=some v∧Sm g w d v:=by
 cases x with
 |tmp t=>exact⟨ξ t,hH.lk h,hH t d h⟩
 |const u=>simp only[Eb,Option.some.injEq]at h;subst h;exact⟨u,rfl,rfl⟩
 |global k=>simp only[Eb,Option.some.injEq]at h;subst h;exact⟨_,rfl,rfl⟩
 |func f=>simp only[Eb,Option.some.injEq]at h;subst h;exact⟨_,rfl,rfl⟩
theorem Sm.eq {g:G} {w:World} {x v:Value} (h:Sm g w (.v x) v):v=x:=by
 have :[v]=[x]:=h
 simpa using this
theorem Bo {L:DL} {ξ:Nat→Value} {g:G} {w:World} {x:Operand} {c:Value} (hH:Hold L ξ g w) (h:Eb L x=some (.v c)):ev (Lf L ξ) x=some c:=by
 obtain⟨v,h1,h2⟩:=A4 hH h
 rw[h1,h2.eq]
def Aet (P:Program) (t f:Nat):Option Nat:=match P.underlying t with
 |some (.struct fs)=>(match fs[f]? with
  |some fd=>(match(P.info? fd.type).map (·.size)with
   |some (_+1)=>some fd.offset
   |_=>none)
  |none=>none)
 |_=>none
def gU (P:Program) (t:Nat):Option (Nat×Nat):=match P.underlying t with
 |some (.array len e)=>(match(P.info? e).map (·.size)with
  |some (m+1)=>some (len,m+1)
  |_=>none)
 |_=>none
def VK (P:Program) (t:Nat):Option Nat:=match P.underlying t with
 |some (.slice e)=>(P.info? e).map (·.size)
 |_=>none
def AeV:BinOp→Int→Int→Option Bool
 | .lss,p,q=>some (decide (p<q))
 | .leq,p,q=>some (decide (p≤q))
 | .gtr,p,q=>some (decide (q<p))
 | .geq,p,q=>some (decide (q≤p))
 | .eql,p,q=>some (decide (p=q))
 | .neq,p,q=>some (!decide (p=q))
 |_,_,_=>none
def Vg (k k':IntKind):Bool:=decide (k=k')
def arI:BinOp→IntKind→Int→Int→Option (Int×List Prop)
 | .add,k,p,q=>some (AZ k p q,[])
 | .sub,k,p,q=>some (Eu k p q,[])
 | .mul,k,p,q=>some (BJ k p q,[])
 | .quo,k,p,q=>some (Me k p q,[q≠0])
 | .rem,_,p,q=>some (CV p q,[q≠0])
 | .and,k,p,q=>some (A5 k p q,[])
 | .or,k,p,q=>some (C7 k p q,[])
 | .xor,k,p,q=>some (AK k p q,[])
 | .andNot,k,p,q=>some (D9 k p q,[])
 |_,_,_,_=>none
def AdB (op:BinOp) (k:IntKind) (p:Int) (k':IntKind) (q:Int):Option (D×List Prop):=match op with
 | .shl=>some (.v (.int k (Bd k p q)),[0≤q])
 | .shr=>some (.v (.int k (AY k p q)),[0≤q])
 |op=>bif Vg k k' then(match AeV op p q with
  |some b=>some (.v (.bool b),[])
  |none=>(arI op k p q).map fun r=>(.v (.int k r.1),r.2))else none
theorem AcC {P:Program} {w:World} {n:Nat} {L:List (Nat×Value)} {ds:Option Tmp} {ty:TypeId} {pos:String} {af:Array Edge} {gu:Option (Nat×Bool)} {x y:Operand} {k:IntKind} {p q r:Int} {t t':TypeId} (hx:ev L x=some (.int k p)) (hy:ev L y=some (.int k q)) (hr:D9 k p q=r):Det P ⟨ds,.binOp .andNot t x y t',ty,pos,af,gu⟩ n L w (.int k r) w:=
 Det.of_run fun a hF=>by subst hr;simp [execOp,hF.eval hx,hF.eval hy,eqGuard,binOp,Op.intBits,D9]
section
variable {P:Program} {n:Nat} {L:DL} {ξ:Nat→Value} {g:G} {w:World} {ds:Option Nat} {ty:TypeId} {pos:String} {af:Array Edge} {gu:Option (Nat×Bool)}
def PureOk (P:Program) (n:Nat) (o:Oper) (L:DL) (d:D) (ps:List Prop):Prop:=AllP ps→∀ξ g w,Hold L ξ g w→Wf g w→∃v,Sm g w d v∧Det P o n (Lf L ξ) w v w
theorem Aai {op:BinOp} {x y:Operand} {t t':TypeId} {k k':IntKind} {p q:Int} {d:D} {ps:List Prop} (hx:Eb L x=some (.v (.int k p))) (hy:Eb L y=some (.v (.int k' q))) (h:AdB op k p k' q=some (d,ps)):PureOk P n ⟨ds,.binOp op t x y t',ty,pos,af,gu⟩ L d ps:=by
 intro hp ξ g w hH _
 have hx':=Bo hH hx
 have hy':=Bo hH hy
 unfold AdB at h
 split at h
 ·simp only[Option.some.injEq,Prod.mk.injEq]at h
  obtain⟨rfl,rfl⟩:=h
  exact⟨_,rfl,AeB hx' hy' hp.1 rfl⟩
 ·simp only[Option.some.injEq,Prod.mk.injEq]at h
  obtain⟨rfl,rfl⟩:=h
  exact⟨_,rfl,AeA hx' hy' hp.1 rfl⟩
 ·cases hk:Vg k k' with
  |false=>rw[hk]at h;cases h
  |true=>
   rw[hk]at h
   obtain rfl:=of_decide_eq_true hk
   simp only[cond_true]at h
   split at h
   ·rename_i b hb
    simp only[Option.some.injEq,Prod.mk.injEq]at h
    obtain⟨rfl,rfl⟩:=h
    unfold AeV at hb
    split at hb<;>cases hb
    ·exact⟨_,rfl,AeM hx' hy'⟩
    ·exact⟨_,rfl,AeN hx' hy'⟩
    ·exact⟨_,rfl,AeP hx' hy'⟩
    ·exact⟨_,rfl,AeQ hx' hy'⟩
    ·exact⟨_,rfl,AeR hx' hy'⟩
    ·exact⟨_,rfl,AeH hx' hy'⟩
   ·obtain⟨⟨r,qs⟩,h1,h2⟩:=Option.map_eq_some_iff.1 h
    simp only[Prod.mk.injEq]at h2
    obtain⟨rfl,rfl⟩:=h2
    unfold arI at h1
    split at h1<;>simp only[Option.some.injEq,Prod.mk.injEq,reduceCtorEq]at h1<;>obtain⟨rfl,rfl⟩:=h1
    ·exact⟨_,rfl,AeU hx' hy' rfl⟩
    ·exact⟨_,rfl,Aez hx' hy' rfl⟩
    ·exact⟨_,rfl,AeI hx' hy' rfl⟩
    ·exact⟨_,rfl,AeD hx' hy' hp.1 rfl⟩
    ·exact⟨_,rfl,AeC hx' hy' hp.1 rfl⟩
    ·exact⟨_,rfl,AeT hx' hy' rfl⟩
    ·exact⟨_,rfl,AfH hx' hy' rfl⟩
    ·exact⟨_,rfl,Aey hx' hy' rfl⟩
    ·exact⟨_,rfl,AcC hx' hy' rfl⟩
end
end Go.Sx
namespace Go.Sx
open Go.Mi Go.RowKit
variable [Dfr]
def GA:D→Nat
 | .ar _ n _=>n
 | .nil=>0
 | .cons a b=>GA a+GA b
 | .ag d=>GA d
 |_=>1
def GV:D→List D
 | .nil=>[]
 | .cons a b=>GV a++GV b
 | .ag d=>GV d
 |d=>[d]
def chain:List D→D
 |[]=> .nil
 |d::ds=> .cons d (chain ds)
def mk1:List D→D
 |[d]=>match d with
  | .ar k n f=> .ar k n f
  |d=> .ag (.cons d .nil)
 |ds=> .ag (chain ds)
def D.isOne:D→Bool
 | .v x=>x.oneCell'
 | .ls .. | .os .. | .fn .. | .ifc .. | .cp .. | .ep .. | .xp .. | .sk _| .sv .. | .im .. | .ip .. =>true
 |_=>false
section
variable {X:Nat→Prop} {N:Nat→Option Value} {w:World}
def CI (X:Nat→Prop) (N:Nat→Option Value) (w:World):List D→List Value→Prop
 |[],l=>l=[]
 |d::ds,l=>∃l1 l2,l=l1++l2∧B4 X N w d false l1∧CI X N w ds l2
theorem II:∀{a b:List D} {l:List Value},CI X N w (a++b) l↔∃l1 l2,l=l1++l2∧CI X N w a l1∧CI X N w b l2
 |[],b,l=>⟨fun h=>⟨[],l,rfl,rfl,h⟩,fun⟨l1,l2,e,h1,h2⟩=>by have :l1=[]:=h1;subst this;subst e;simpa using h2⟩
 |d::a,b,l=>by
  constructor
  ·rintro⟨l1,l2,rfl,h1,h2⟩
   obtain⟨l3,l4,rfl,h3,h4⟩:=II.1 h2
   exact⟨l1++l3,l4,by simp,⟨l1,l3,rfl,h1,h3⟩,h4⟩
  ·rintro⟨l1,l2,rfl,⟨l3,l4,rfl,h1,h2⟩,h3⟩
   exact⟨l3,l4++l2,by simp,h1,II.2 ⟨l4,l2,rfl,h2,h3⟩⟩
theorem CP {d:D} {l:List Value}:CI X N w [d] l↔B4 X N w d false l:=
 ⟨fun⟨l1,l2,e,h1,h2⟩=>by have :l2=[]:=h2;subst this;subst e;simpa using h1,fun h=>⟨l,[],by simp,h,rfl⟩⟩
theorem EC:∀{ds:List D} {l:List Value},B4 X N w (chain ds) false l↔CI X N w ds l
 |[],l=>Iff.rfl
 |d::ds,l=>⟨fun⟨l1,l2,e,h1,h2⟩=>⟨l1,l2,e,h1,EC.1 h2⟩,fun⟨l1,l2,e,h1,h2⟩=>⟨l1,l2,e,h1,EC.2 h2⟩⟩
theorem Dq:∀{d:D} {l:List Value},B4 X N w d false l→CI X N w (GV d) l:=by
 intro d
 induction d with
 |nil=>exact fun h=>h
 |cons a b iha ihb=>rintro l ⟨l1,l2,rfl,h1,h2⟩;exact II.2 ⟨l1,l2,rfl,iha h1,ihb h2⟩
 |ag d ih=>rintro l ⟨l',h1,h2,h3⟩;have :l=l':=h3;subst this;exact ih h1
 |_=>exact fun h=>CP.2 h
theorem A7 {k:IntKind} {n:Nat} {f:Nat→Int}:(cells k n f).length=n:=by simp [cells]
theorem Bz {k:IntKind} {n:Nat} {f:Nat→Int} {i:Nat} (h:i<n):(cells k n f)[i]? =some (.int k (f i)):=by simp [cells,h]
theorem Fv:∀{d:D} {l:List Value},B4 X N w d false l→l.length=GA d:=by
 intro d
 induction d with
 |nil=>intro l h;have :l=[]:=h;subst this;rfl
 |cons a b iha ihb=>rintro l ⟨l1,l2,rfl,h1,h2⟩;simp [iha h1,ihb h2,GA]
 |ag d ih=>rintro l ⟨l',h1,h2,h3⟩;have :l=l':=h3;subst this;exact ih h1
 |ar k n f=>intro l h;have :l=cells k n f:=h;subst this;exact A7
 |tu d ih=>rintro l ⟨l',h1,rfl⟩;rfl
 |v x=>intro l h;have :l=[x]:=h;subst this;rfl
 |ls nn e xs=>rintro l ⟨v,ls,rfl,_⟩;rfl
 |os e o=>rintro l ⟨v,rfl,_⟩;rfl
 |fn f a b=>rintro l ⟨_,_,_,_,rfl⟩;rfl
 |ifc t d=>rintro l ⟨_,_,rfl⟩;rfl
 |cp k o=>rintro l ⟨_,_,rfl⟩;rfl
 |ep k o m n i=>rintro l ⟨_,_,_,rfl⟩;rfl
 |xp k m n i o=>rintro l ⟨_,_,_,_,rfl⟩;rfl
 |sk k=>rintro l ⟨_,_,rfl,_⟩;rfl
 |sv k o n=>rintro l ⟨_,_,_,rfl,_⟩;rfl
 |im d o=>rintro l ⟨_,_,_,_,rfl,_⟩;rfl
 |ip e x o=>rintro l ⟨_,_,_,_,_,rfl,_⟩;rfl
 |top=>rintro l ⟨_,rfl⟩;rfl
theorem M5 {d:D} {m:Bool} {l:List Value} (h:B4 X N w d m l) (ho:d.isOne=true):∃v,l=[v]∧v.oneCell'=true∧B4 X N w d (!m) [v]:=by
 cases d with
 |v x=>have :l=[x]:=h;subst this;exact⟨x,rfl,ho,rfl⟩
 |ls nn e xs=>
  obtain⟨v,ls,rfl,h1,h2⟩:=h
  refine⟨v,rfl,?_,v,ls,rfl,h1,h2⟩
  rcases h1.at' with⟨_,⟨_,rfl⟩|⟨_,_,rfl⟩⟩|⟨_,_,_,rfl,_⟩<;>rfl
 |os e o=>
  obtain⟨v,rfl,h1⟩:=h
  refine⟨v,rfl,?_,v,rfl,h1⟩
  cases o with
  |none=>have :v=vN:=h1;subst this;rfl
  |some xs=>
   obtain⟨vs,h2,_⟩:=h1
   rcases h2.at' with⟨_,⟨_,rfl⟩|⟨_,_,rfl⟩⟩|⟨_,_,_,rfl,_⟩<;>rfl
 |fn f a b=>obtain⟨va,vb,h1,h2,rfl⟩:=h;exact⟨_,rfl,rfl,va,vb,h1,h2,rfl⟩
 |ifc t d=>obtain⟨v,h1,rfl⟩:=h;exact⟨_,rfl,rfl,v,h1,rfl⟩
 |cp k o=>obtain⟨b,h1,rfl⟩:=h;exact⟨_,rfl,rfl,b,h1,rfl⟩
 |ep k o m n i=>obtain⟨h0,b,h1,rfl⟩:=h;exact⟨_,rfl,rfl,h0,b,h1,rfl⟩
 |xp k m n i o=>obtain⟨h0,b,c,h1,rfl⟩:=h;exact⟨_,rfl,rfl,h0,b,c,h1,rfl⟩
 |sk k=>obtain⟨v,h1,rfl,h2⟩:=h;exact⟨_,rfl,h2,v,h1,rfl,h2⟩
 |sv k o n=>obtain⟨b,c,h1,rfl,h2⟩:=h;exact⟨_,rfl,rfl,b,c,h1,rfl,h2⟩
 |im d o=>obtain⟨b,l',h1,h2,rfl,h3⟩:=h;exact⟨_,rfl,rfl,b,l',h1,h2,rfl,h3⟩
 |ip e x o=>obtain⟨b,o0,l',h1,h2,rfl,h3⟩:=h;exact⟨_,rfl,rfl,b,o0,l',h1,h2,rfl,h3⟩
 |_=>cases ho
def tZ:D→Option (List D)
 | .ag d=>some (GV d)
 | .ar k n f=>some [.ar k n f]
 |d=>bif d.isOne then some [d]else none
theorem O9 {d:D} {ds:List D} {v:Value} (h:B4 X N w d true [v]) (hc:tZ d=some ds):CI X N w ds v.cells.toList∧∀u∈v.cells.toList,u.oneCell'=true:=by
 have one:∀{d:D},d.isOne=true→B4 X N w d true [v]→tZ d=some [d]→CI X N w [d] v.cells.toList∧∀u∈v.cells.toList,u.oneCell'=true:=fun {d} ho h _=>by
  obtain⟨u,hu,h1,h2⟩:=M5 h ho
  simp only[List.cons.injEq,and_true]at hu
  subst hu
  have :v.cells= #[v]:=by cases v<;>simp_all [Value.cells,Value.oneCell']
  rw[this]
  exact⟨CP.2 h2,fun q hq=>by simp at hq;subst hq;exact h1⟩
 cases d with
 |ag d=>
  simp only[tZ,Option.some.injEq]at hc
  subst hc
  obtain⟨l',h1,h2,h3⟩:=h
  simp only[cond_true,List.cons.injEq,and_true]at h3
  subst h3
  exact⟨Dq h1,h2⟩
 |ar k n f=>
  simp only[tZ,Option.some.injEq]at hc
  subst hc
  have h3:[v]=[.agg (cells k n f).toArray]:=h
  simp only[List.cons.injEq,and_true]at h3
  subst h3
  refine⟨CP.2 rfl,fun q hq=> ?_⟩
  simp only[Value.cells,cells,List.mem_map]at hq
  obtain⟨i,_,rfl⟩:=hq
  rfl
 |_=>
  simp only[tZ]at hc
  cases ho:D.isOne _ with
  |false=>rw[ho]at hc;cases hc
  |true=>
   rw[ho]at hc
   simp only[cond_true,Option.some.injEq]at hc
   subst hc
   exact one ho h (by simp only[tZ,ho];rfl)
def It:List D→Nat→Nat→Option (List D)
 |_,_,0=>some []
 |[],_,_+1=>none
 |d::ds,o,m+1=>bif Nat.ble (GA d) o then It ds (o-GA d) (m+1)
  else bif Nat.beq o 0&&Nat.ble (GA d) (m+1)then(It ds 0 (m+1-GA d)).map (d:: ·)
  else match d with
   | .ar k n f=>(It ds 0 (m+1-min (m+1) (n-o))).map (D.ar k (min (m+1) (n-o)) (fun j=>f (o+j)):: ·)
   |_=>none
theorem GR:∀{ds:List D} {o m:Nat} {r:List D} {l:List Value},CI X N w ds l→It ds o m=some r→CI X N w r ((l.drop o).take m)∧o+m≤l.length+(if m=0 then o else 0)
 |_,o,0,r,l,_,h=>by
  simp only[It,Option.some.injEq]at h
  subst h
  exact⟨by simp [CI],by simp⟩
 |[],o,m+1,r,l,_,h=>by simp [It]at h
 |d::ds,o,m+1,r,l,⟨l1,l2,e,h1,h2⟩,h=>by
  subst e
  have hl:=Fv h1
  simp only[It]at h
  cases hb:Nat.ble (GA d) o with
  |true=>
   rw[hb]at h
   have hle:=Nat.le_of_ble_eq_true hb
   obtain⟨k1,k2⟩:=GR h2 h
   have :List.drop o (l1++l2)=List.drop (o-GA d) l2:=by
    rw[List.drop_append,List.drop_eq_nil_of_le (by omega),hl];rfl
   rw[this]
   refine⟨k1,?_⟩
   simp at k2⊢
   omega
  |false=>
   rw[hb]at h
   have hgt:o<GA d:=by
    rcases Nat.lt_or_ge o (GA d)with h'|h'
    ·exact h'
    ·rw[Nat.ble_eq_true_of_le h']at hb;cases hb
   simp only[cond_false]at h
   cases hc:Nat.beq o 0&&Nat.ble (GA d) (m+1)with
   |true=>
    rw[hc]at h
    rw[Bool.and_eq_true]at hc
    have h0:=Nat.eq_of_beq_eq_true hc.1
    have h3:=Nat.le_of_ble_eq_true hc.2
    subst h0
    obtain⟨r',hr,rfl⟩:=Option.map_eq_some_iff.1 h
    obtain⟨k1,k2⟩:=GR h2 hr
    refine⟨⟨l1,(l2.drop 0).take (m+1-GA d),?_,h1,k1⟩,?_⟩
    ·simp only[List.drop_zero]
     rw[List.take_append,List.take_of_length_le (by omega),hl]
    ·simp only[List.length_append,hl,Nat.zero_add]at k2⊢
     split at k2<;>simp<;>omega
   |false=>
    rw[hc]at h
    simp only[cond_false]at h
    cases d with
    |ar k n f=>
     simp only at h
     obtain⟨r',hr,rfl⟩:=Option.map_eq_some_iff.1 h
     obtain⟨k1,k2⟩:=GR h2 hr
     have h1':l1=cells k n f:=h1
     have hn:l1.length=n:=by rw[h1',A7]
     have hgt':o<n:=hgt
     refine⟨⟨(l1.drop o).take (m+1),(l2.drop 0).take (m+1-min (m+1) (n-o)),?_,?_,k1⟩,?_⟩
     ·rw[List.drop_append_of_le_length (by omega),List.take_append,List.drop_zero]
      congr 2
      rw[List.length_drop,hn]
      omega
     ·show _=cells k _ _
      rw[h1']
      apply List.ext_getElem?
      intro j
      rw[List.getElem?_take,List.getElem?_drop]
      by_cases hj:j<min (m+1) (n-o)
      ·rw[if_pos (by omega),Bz hj,Bz (by omega)]
      ·have hR:(cells k (min (m+1) (n-o)) (fun j=>f (o+j)))[j]? =none:=List.getElem?_eq_none (by rw[A7];omega)
       rw[hR]
       split
       ·exact List.getElem?_eq_none (by rw[A7];omega)
       ·rfl
     ·simp only[List.length_append,hn,Nat.zero_add]at k2⊢
      split at k2<;>simp<;>omega
    |_=>simp at h
def Dg (f:Nat→Int) (o m:Nat) (g:Nat→Int):Nat→Int:=fun j=>bif Nat.ble o j&&Nat.blt j (o+m)then g (j-o)else f j
def Ym (k:IntKind) (n:Nat) (f:Nat→Int) (o:Nat):List D→Option D
 |[.v (.int k' x)]=>bif Vg k k'&&Nat.blt o n then some (.ar k n (upd f o x))else none
 |[.ar k' m g]=>bif Vg k k'&&Nat.ble (o+m) n then some (.ar k n (Dg f o m g))else none
 |_=>none
def Kg:List D→Nat→Option (List D)
 |ds,0=>some ds
 |[],_+1=>none
 |d::ds,m+1=>bif Nat.ble (GA d) (m+1)then Kg ds (m+1-GA d)else match d with
  | .ar k n f=>some (.ar k (n-(m+1)) (fun j=>f (m+1+j))::ds)
  |_=>none
def V6 (e:List D) (m:Nat):List D→Nat→Option (List D)
 |[],_=>none
 |d::ds,o=>bif Nat.ble (GA d) o then(V6 e m ds (o-GA d)).map (d:: ·)
  else match d with
   | .ar k n f=>bif Nat.beq o 0&&Nat.ble n m then(Kg (D.ar k n f::ds) m).map (e++ ·)else(match Ym k n f o e with
    |some d'=>some (d'::ds)
    |none=>bif Nat.beq o 0 then(Kg (D.ar k n f::ds) m).map (e++ ·)else none)
   |d=>bif Nat.beq o 0 then(Kg (d::ds) m).map (e++ ·)else none
theorem QO:∀{ds:List D} {m:Nat} {r:List D} {l:List Value},CI X N w ds l→Kg ds m=some r→CI X N w r (l.drop m)∧m≤l.length
 |ds,0,r,l,h,hd=>by cases ds<;>(simp only[Kg,Option.some.injEq]at hd;subst hd;exact⟨by simpa using h,Nat.zero_le _⟩)
 |[],m+1,r,l,h,hd=>by simp [Kg]at hd
 |d::ds,m+1,r,l,⟨l1,l2,e,h1,h2⟩,hd=>by
  subst e
  have hl:=Fv h1
  simp only[Kg]at hd
  cases hb:Nat.ble (GA d) (m+1)with
  |true=>
   rw[hb]at hd
   have :=Nat.le_of_ble_eq_true hb
   obtain⟨k1,k2⟩:=QO h2 hd
   refine⟨?_,by simp;omega⟩
   rw[List.drop_append,List.drop_eq_nil_of_le (by omega),hl]
   exact k1
  |false=>
   rw[hb]at hd
   have hgt:m+1<GA d:=by
    rcases Nat.lt_or_ge (m+1) (GA d)with h'|h'
    ·exact h'
    ·rw[Nat.ble_eq_true_of_le h']at hb;cases hb
   simp only[cond_false]at hd
   cases d with
   |ar k n f=>
    simp only[Option.some.injEq]at hd
    subst hd
    have h1':l1=cells k n f:=h1
    have hn:l1.length=n:=by rw[h1',A7]
    have hgt':m+1<n:=hgt
    refine⟨⟨l1.drop (m+1),l2,by rw[List.drop_append_of_le_length (by omega)],?_,h2⟩,by simp;omega⟩
    show _=cells k _ _
    rw[h1']
    apply List.ext_getElem?
    intro j
    rw[List.getElem?_drop]
    by_cases hj:j<n-(m+1)
    ·rw[Bz hj,Bz (by omega)]
    ·rw[List.getElem?_eq_none (by rw[A7];omega),List.getElem?_eq_none (by rw[A7];omega)]
   |_=>simp at hd
theorem aS {k:IntKind} {n:Nat} {f:Nat→Int} {o:Nat} {e:List D} {d:D} {le:List Value} (he:CI X N w e le) (h:Ym k n f o e=some d):B4 X N w d false ((cells k n f).take o++le++(cells k n f).drop (o+le.length))∧o+le.length≤n:=by
 have ext:∀{F:Nat→Int} {L:List Value},L.length=n→(∀j,j<n→L[j]? =some (.int k (F j)))→L=cells k n F:=fun {F L} h1 h2=>by
  apply List.ext_getElem?
  intro j
  by_cases hj:j<n
  ·rw[h2 j hj,Bz hj]
  ·rw[List.getElem?_eq_none (by omega),List.getElem?_eq_none (by rw[A7];omega)]
 unfold Ym at h
 split at h
 ·rename_i k' x
  cases hc:Vg k k'&&Nat.blt o n with
  |false=>rw[hc]at h;cases h
  |true=>
   rw[hc]at h
   rw[Bool.and_eq_true,Nat.blt_eq]at hc
   obtain rfl:=of_decide_eq_true hc.1
   simp only[cond_true,Option.some.injEq]at h
   subst h
   have hle:le=[.int k x]:=CP.1 he
   subst hle
   refine⟨?_,by simp;omega⟩
   show _=cells k n _
   refine ext (by simp [A7];omega) fun j hj=> ?_
   rw[List.append_assoc,List.getElem?_append,List.length_take,A7,Nat.min_eq_left (by omega)]
   by_cases h1:j<o
   ·rw[if_pos h1,List.getElem?_take,if_pos h1,Bz hj,iJ (by omega)]
   ·rw[if_neg h1]
    by_cases h2:j=o
    ·subst h2;simp [iI]
    ·rw[List.getElem?_append_right (by simp;omega),List.getElem?_drop]
     simp only[List.length_cons,List.length_nil]
     rw[show o+(0+1)+(j-o-(0+1))=j by omega,Bz hj,iJ h2]
 ·rename_i k' m g
  cases hc:Vg k k'&&Nat.ble (o+m) n with
  |false=>rw[hc]at h;cases h
  |true=>
   rw[hc]at h
   rw[Bool.and_eq_true]at hc
   obtain rfl:=of_decide_eq_true hc.1
   have hm:=Nat.le_of_ble_eq_true hc.2
   simp only[cond_true,Option.some.injEq]at h
   subst h
   have hle:le=cells k m g:=CP.1 he
   subst hle
   rw[A7]
   refine⟨?_,hm⟩
   show _=cells k n _
   refine ext (by simp [A7];omega) fun j hj=> ?_
   rw[List.append_assoc,List.getElem?_append,List.length_take,A7,Nat.min_eq_left (by omega)]
   by_cases h1:j<o
   ·rw[if_pos h1,List.getElem?_take,if_pos h1,Bz hj]
    have :Nat.ble o j=false:=by
     cases hb:Nat.ble o j with
     |false=>rfl
     |true=>have :=Nat.le_of_ble_eq_true hb;omega
    simp [Dg,this]
   ·rw[if_neg h1,List.getElem?_append,A7]
    by_cases h2:j<o+m
    ·rw[if_pos (by omega),Bz (by omega)]
     have h3:Nat.ble o j=true:=Nat.ble_eq_true_of_le (by omega)
     have h4:Nat.blt j (o+m)=true:=by rw[Nat.blt_eq];exact h2
     simp [Dg,h3,h4]
    ·rw[if_neg (by omega),List.getElem?_drop,show o+m+(j-o-m)=j by omega,Bz hj]
     have h4:Nat.blt j (o+m)=false:=by
      cases hb:Nat.blt j (o+m)with
      |false=>rfl
      |true=>rw[Nat.blt_eq]at hb;omega
     simp [Dg,h4]
 ·cases h
theorem LO {e:List D} {le:List Value} (he:CI X N w e le):∀{ds:List D} {o:Nat} {r:List D} {l:List Value},CI X N w ds l→V6 e le.length ds o=some r→CI X N w r (l.take o++le++l.drop (o+le.length))∧o+le.length≤l.length
 |[],o,r,l,_,hp=>by simp [V6]at hp
 |d::ds,o,r,l,hds,hp=>by
  obtain⟨l1,l2,e',h1,h2⟩:=hds
  subst e'
  have hl:=Fv h1
  simp only[V6]at hp
  cases hb:Nat.ble (GA d) o with
  |true=>
   rw[hb]at hp
   have hle:=Nat.le_of_ble_eq_true hb
   obtain⟨r',hr,rfl⟩:=Option.map_eq_some_iff.1 hp
   obtain⟨k1,k2⟩:=LO he h2 hr
   refine⟨⟨l1,_,?_,h1,k1⟩,by simp;omega⟩
   rw[List.take_append,List.take_of_length_le (by omega),List.drop_append,List.drop_eq_nil_of_le (by omega),hl]
   simp only[List.nil_append,List.append_assoc]
   rw[show o+le.length-GA d=o-GA d+le.length by omega]
  |false=>
   rw[hb]at hp
   have hgt:o<GA d:=by
    rcases Nat.lt_or_ge o (GA d)with h'|h'
    ·exact h'
    ·rw[Nat.ble_eq_true_of_le h']at hb;cases hb
   simp only[cond_false]at hp
   have fin:∀{d:D},B4 X N w d false l1→(bif Nat.beq o 0 then(Kg (d::ds) le.length).map (e++ ·)else none)=some r→CI X N w r ((l1++l2).take o++le++(l1++l2).drop (o+le.length))∧o+le.length≤(l1++l2).length:=by
    intro d h1 hp
    cases h0:Nat.beq o 0 with
    |false=>rw[h0]at hp;cases hp
    |true=>
     have :=Nat.eq_of_beq_eq_true h0
     subst this
     rw[h0]at hp
     obtain⟨r',hr,rfl⟩:=Option.map_eq_some_iff.1 hp
     obtain⟨k1,k2⟩:=QO (X:=X) (N:=N) (w:=w) (ds:=d::ds) (l:=l1++l2) ⟨l1,l2,rfl,h1,h2⟩ hr
     refine⟨?_,by omega⟩
     simp only[List.take_zero,List.nil_append,Nat.zero_add]
     exact II.2 ⟨le,_,rfl,he,k1⟩
   cases d with
   |ar k n f=>
    simp only at hp
    have h1':l1=cells k n f:=h1
    have hn:l1.length=n:=by rw[h1',A7]
    have hgt':o<n:=hgt
    cases hw:Nat.beq o 0&&Nat.ble n le.length with
    |true=>
     rw[hw]at hp
     rw[Bool.and_eq_true]at hw
     exact fin h1 (by rw[hw.1];exact hp)
    |false=>
    rw[hw]at hp
    simp only[cond_false]at hp
    cases hi:Ym k n f o e with
    |none=>rw[hi]at hp;exact fin h1 hp
    |some d'=>
     rw[hi]at hp
     simp only[Option.some.injEq]at hp
     subst hp
     obtain⟨k1,k2⟩:=aS he hi
     refine⟨⟨_,l2,?_,k1,h2⟩,by simp;omega⟩
     rw[←h1',List.take_append_of_le_length (by omega),List.drop_append_of_le_length (by omega)]
     simp
   |_=>exact fin h1 hp
end
end Go.Sx
namespace Go.Sx
open Go.Mi Go.RowKit
variable [Dfr]
def dF:(a:Fk)→a.T→D
 | .int k,x=> .v (.int k x)
 | .bool,b=> .v (.bool b)
 | .str,s=> .v (.string s)
 | .sl e,xs=> .ls false [e] xs
 | .os e,o=> .os e o
 | .ref,p=> .cp p.1 p.2
 | .val,x=> .v x
def kN:(e:List Fk)→RT e→List D
 |[],_=>[]
 |a::r,x=>match r,x with
  |[],x=>[dF a x]
  |b::s,x=>dF a x.1::kN (b::s) x.2
def bN (a b:Fk) (xs:List a.T):Option (List b.T):=if h:a=b then some (h▸xs)else none
def qA (a b:Fk) (xs:Option (List a.T)):Option (Option (List b.T)):=if h:a=b then some (h▸xs)else none
def tI (k:IntKind):D→Option Int
 | .v (.int k' x)=>bif Vg k k' then some x else none
 |_=>none
def tB:D→Option Bool
 | .v (.bool b)=>some b
 |_=>none
def jA:D→Option ByteArray
 | .v (.string s)=>some s
 |_=>none
def tSl (e:Fk):D→Option (List e.T)
 | .ls _ [e'] xs=>bN e' e xs
 | .v (.slice none 0 0)=>some []
 |_=>none
def tOs (e:Fk):D→Option (Option (List e.T))
 | .ls true [e'] xs=>(bN e' e xs).map some
 | .v (.slice none 0 0)=>some none
 | .os e' o=>qA e' e o
 |_=>none
def jB:D→Option (Nat×Nat)
 | .cp k o=>some (k,o)
 |_=>none
def i9:D→Option Value
 | .v x=>bif x.oneCell' then some x else none
 |_=>none
def iP:(a:Fk)→D→Option a.T
 | .int k,d=>tI k d
 | .bool,d=>tB d
 | .str,d=>jA d
 | .sl e,d=>tSl e d
 | .os e,d=>tOs e d
 | .ref,d=>jB d
 | .val,d=>i9 d
def AaF {a b:Type}:Option a→Option b→Option (a×b)
 |some x,some y=>some (x,y)
 |_,_=>none
def i8:List D→List D
 |_::ds=>ds
 |[]=>[]
def nP:List D→Option D
 |d::_=>some d
 |[]=>none
def AaG:List D→Option D
 |[d]=>some d
 |_=>none
def toR:(e:List Fk)→List D→Option (RT e)
 |[],ds=>bif ds.isEmpty then some ()else none
 |[a],ds=>(AaG ds).bind (iP a)
 |a::b::s,ds=>AaF ((nP ds).bind (iP a)) (toR (b::s) (i8 ds))
section
variable {X:Nat→Prop} {N:Nat→Option Value} {w:World}
theorem Lsl.gen {nn:Bool} {n m:Nat} {v:Value} {cs:List Value} (h:Lsl X w nn n v m cs):Lsl X w false n v m cs:=⟨h.le,h.len,h.at'.imp (fun⟨h2,h3⟩=>⟨h2,h3.imp (fun h=>⟨rfl,h.2⟩) id⟩) id⟩
theorem WK {l:List (List Value)} {vs:List Value} (h:l=vs.map fun v=>[v]):l.flatten=vs:=by
 subst h
 induction vs with
 |nil=>rfl
 |cons v vs ih=>simp [ih]
theorem kK {e:Fk}:∀{xs:List e.T} {vs:List Value},Fa2 (fS X N w e) xs vs↔Fa2 (rS X N w [e]) xs (vs.map fun v=>[v])
 |[],[]=>Iff.rfl
 |[],_::_=>Iff.rfl
 |_::_,[]=>Iff.rfl
 |x::xs,v::vs=>⟨fun h=>⟨⟨v,rfl,h.1⟩,kK.1 h.2⟩,fun h=>⟨by obtain⟨u,h1,h2⟩:=h.1;simp only[List.cons.injEq,and_true]at h1;subst h1;exact h2,kK.2 h.2⟩⟩
theorem Kv {e:Fk}:∀{xs:List e.T} {ls:List (List Value)},Fa2 (rS X N w [e]) xs ls→∃vs:List Value,ls=vs.map (fun v=>[v])∧Fa2 (fS X N w e) xs vs
 |[],[],_=>⟨[],rfl,trivial⟩
 |x::xs,l::ls,h=>by
  obtain⟨v,h1,h2⟩:=h.1
  obtain⟨vs,h3,h4⟩:=Kv h.2
  exact⟨v::vs,by simp [h1,h3],h2,h4⟩
theorem j6:∀{a:Fk} {x:a.T} {v:Value} {m:Bool},fS X N w a x v→B4 X N w (dF a x) m [v]:=by
 intro a x v m h
 cases a with
 |int k=>have :v=_:=h;subst this;rfl
 |bool=>have :v=_:=h;subst this;rfl
 |str=>have :v=_:=h;subst this;rfl
 |sl e=>
  obtain⟨vs,h1,h2⟩:=h
  exact⟨v,vs.map fun v=>[v],rfl,by rw[WK rfl];exact h1,kK.1 h2⟩
 |os e=>exact⟨v,rfl,h⟩
 |ref=>obtain⟨b,h1,h2⟩:=h;subst h2;exact⟨b,h1,rfl⟩
 |val=>have :v=x:=h.1;subst this;rfl
theorem oF:∀{a:Fk} {x:a.T} {v:Value},fS X N w a x v→v.oneCell'=true:=by
 intro a x v h
 cases a with
 |int k=>have :v=_:=h;subst this;rfl
 |bool=>have :v=_:=h;subst this;rfl
 |str=>have :v=_:=h;subst this;rfl
 |sl e=>obtain⟨vs,h1,_⟩:=h;rcases h1.at' with⟨_,⟨_,rfl⟩|⟨_,_,rfl⟩⟩|⟨_,_,_,rfl,_⟩<;>rfl
 |os e=>
  cases x with
  |none=>have :v=_:=h;subst this;rfl
  |some xs=>obtain⟨vs,h1,_⟩:=h;rcases h1.at' with⟨_,⟨_,rfl⟩|⟨_,_,rfl⟩⟩|⟨_,_,_,rfl,_⟩<;>rfl
 |ref=>obtain⟨b,h1,h2⟩:=h;subst h2;rfl
 |val=>exact h.1▸h.2
theorem TV:∀{e:List Fk} {x:RT e} {l:List Value},rS X N w e x l→∀u∈l,u.oneCell'=true
 |[],x,l,h,u,hu=>by rw[show l=[]from h]at hu;simp at hu
 |[a],x,l,⟨v,h1,h2⟩,u,hu=>by rw[h1]at hu;simp at hu;subst hu;exact oF h2
 |a::b::s,x,l,⟨v,l',h1,h2,h3⟩,u,hu=>by
  rw[h1]at hu
  rcases List.mem_cons.1 hu with rfl|hu
  ·exact oF h2
  ·exact TV (e:=b::s) h3 u hu
theorem ES {e:List Fk}:∀{xs:List (RT e)} {ls:List (List Value)},Fa2 (rS X N w e) xs ls→∀u∈ls.flatten,u.oneCell'=true
 |[],[],_,u,hu=>by simp at hu
 |x::xs,l::ls,h,u,hu=>by
  simp only[List.flatten_cons,List.mem_append]at hu
  rcases hu with hu|hu
  ·exact TV h.1 u hu
  ·exact ES h.2 u hu
theorem Lx:∀{e:List Fk} {x:RT e} {l:List Value},rS X N w e x l→CI X N w (kN e x) l
 |[],x,l,h=>h
 |[a],x,l,⟨v,h1,h2⟩=>by subst h1;exact CP.2 (j6 h2)
 |a::b::s,x,l,⟨v,l',h1,h2,h3⟩=>by subst h1;exact⟨[v],l',rfl,j6 h2,Lx (e:=b::s) h3⟩
theorem Xh {a b:Fk} {xs:List a.T} {ys:List b.T} (h:bN a b xs=some ys):∃e:a=b,ys=e▸xs:=by
 unfold bN at h
 split at h
 ·rename_i e;simp only[Option.some.injEq]at h;exact⟨e,h.symm⟩
 ·cases h
theorem p9 {a b:Fk} {xs:Option (List a.T)} {ys:Option (List b.T)} (h:qA a b xs=some ys):∃e:a=b,ys=e▸xs:=by
 unfold qA at h
 split at h
 ·rename_i e;simp only[Option.some.injEq]at h;exact⟨e,h.symm⟩
 ·cases h
theorem Lsl.nil {m:Nat}:Lsl X w false 0 vN m []:=⟨Nat.zero_le _,by simp,.inl ⟨rfl,.inl ⟨rfl,rfl⟩⟩⟩
theorem Ko:∀{a:Fk} {d:D} {x:a.T} {v:Value} {m:Bool},B4 X N w d m [v]→iP a d=some x→fS X N w a x v∧GA d=1:=by
 intro a d x v m h hx
 cases a with
 |int k=>
  replace hx:tI k d=some x:=hx
  unfold tI at hx
  split at hx
  ·rename_i k' y
   cases hk:Vg k k' with
   |false=>rw[hk]at hx;cases hx
   |true=>
    rw[hk]at hx
    obtain rfl:=of_decide_eq_true hk
    obtain rfl:=Option.some.inj hx
    have :[v]=_:=h
    exact⟨(List.cons.inj this).1,rfl⟩
  ·cases hx
 |bool=>
  replace hx:tB d=some x:=hx
  unfold tB at hx
  split at hx
  ·obtain rfl:=Option.some.inj hx
   have :[v]=_:=h
   exact⟨(List.cons.inj this).1,rfl⟩
  ·cases hx
 |str=>
  replace hx:jA d=some x:=hx
  unfold jA at hx
  split at hx
  ·obtain rfl:=Option.some.inj hx
   have :[v]=_:=h
   exact⟨(List.cons.inj this).1,rfl⟩
  ·cases hx
 |sl e=>
  replace hx:tSl e d=some x:=hx
  unfold tSl at hx
  split at hx
  ·obtain⟨rfl,rfl⟩:=Xh hx
   obtain⟨u,ls,h1,h2,h3⟩:=h
   obtain rfl:=(List.cons.inj h1).1
   obtain⟨vs,rfl,h4⟩:=Kv h3
   rw[WK rfl]at h2
   exact⟨⟨vs,h2.gen,h4⟩,rfl⟩
  ·obtain rfl:=Option.some.inj hx
   have :[v]=_:=h
   obtain rfl:=(List.cons.inj this).1
   exact⟨⟨[],Lsl.nil,trivial⟩,rfl⟩
  ·cases hx
 |os e=>
  replace hx:tOs e d=some x:=hx
  unfold tOs at hx
  split at hx
  ·obtain⟨ys,hy,hz⟩:=Option.map_eq_some_iff.1 hx
   subst hz
   obtain⟨rfl,rfl⟩:=Xh hy
   obtain⟨u,ls,h1,h2,h3⟩:=h
   obtain rfl:=(List.cons.inj h1).1
   obtain⟨vs,rfl,h4⟩:=Kv h3
   rw[WK rfl]at h2
   exact⟨⟨vs,h2,h4⟩,rfl⟩
  ·obtain rfl:=Option.some.inj hx
   have :[v]=_:=h
   obtain rfl:=(List.cons.inj this).1
   exact⟨rfl,rfl⟩
  ·obtain⟨rfl,rfl⟩:=p9 hx
   obtain⟨u,h1,h2⟩:=h
   obtain rfl:=(List.cons.inj h1).1
   exact⟨h2,rfl⟩
  ·cases hx
 |ref=>
  replace hx:jB d=some x:=hx
  unfold jB at hx
  split at hx
  ·obtain rfl:=Option.some.inj hx
   obtain⟨b,h1,h2⟩:=h
   exact⟨⟨b,h1,(List.cons.inj h2).1⟩,rfl⟩
  ·cases hx
 |val=>
  replace hx:i9 d=some x:=hx
  unfold i9 at hx
  split at hx
  ·rename_i y
   cases hy:Value.oneCell' y with
   |false=>rw[hy]at hx;cases hx
   |true=>
    rw[hy]at hx
    obtain rfl:=Option.some.inj hx
    have :[v]=_:=h
    exact⟨⟨(List.cons.inj this).1,hy⟩,rfl⟩
  ·cases hx
theorem Abj {a:Fk} {d:D} {x:a.T} (h:iP a d=some x):GA d=1:=by
 cases a with
 |int k=>have hx:tI k d=some x:=h;unfold tI at hx;split at hx<;>first |rfl|cases hx
 |bool=>have hx:tB d=some x:=h;unfold tB at hx;split at hx<;>first |rfl|cases hx
 |str=>have hx:jA d=some x:=h;unfold jA at hx;split at hx<;>first |rfl|cases hx
 |sl e=>have hx:tSl e d=some x:=h;unfold tSl at hx;split at hx<;>first |rfl|cases hx
 |os e=>have hx:tOs e d=some x:=h;unfold tOs at hx;split at hx<;>first |rfl|cases hx
 |ref=>have hx:jB d=some x:=h;unfold jB at hx;split at hx<;>first |rfl|cases hx
 |val=>have hx:i9 d=some x:=h;unfold i9 at hx;split at hx<;>first |rfl|cases hx
theorem Pw {d:D} {ds:List D} {l:List Value} {a:Fk} {x:a.T} (h:CI X N w (d::ds) l) (hx:iP a d=some x):∃v l',l=v::l'∧fS X N w a x v∧CI X N w ds l':=by
 obtain⟨l1,l2,rfl,h1,h2⟩:=h
 have h3:=Fv h1
 rw[Abj hx]at h3
 obtain⟨v,rfl⟩:=List.length_eq_one_iff.1 h3
 exact⟨v,l2,rfl,(Ko h1 hx).1,h2⟩
theorem XO:∀{e:List Fk} {ds:List D} {x:RT e} {l:List Value},CI X N w ds l→toR e ds=some x→rS X N w e x l
 |[],ds,x,l,h,hx=>by
  have hx:(bif ds.isEmpty then some ()else none)=some x:=hx
  cases ds with
  |nil=>exact h
  |cons d ds=>cases hx
 |[a],ds,x,l,h,hx=>by
  have hx:(AaG ds).bind (iP a)=some x:=hx
  obtain⟨d,h1,h2⟩:=Option.bind_eq_some_iff.1 hx
  match ds,h1 with
  |[d'],h1=>
   obtain rfl:=Option.some.inj h1
   obtain⟨v,l',rfl,k1,k2⟩:=Pw h h2
   have :l'=[]:=k2
   subst this
   exact⟨v,rfl,k1⟩
 |a::b::s,ds,x,l,h,hx=>by
  have hx:AaF ((nP ds).bind (iP a)) (toR (b::s) (i8 ds))=some x:=hx
  cases hy:(nP ds).bind (iP a)with
  |none=>rw[hy]at hx;cases hx
  |some y=>
   cases hz:toR (b::s) (i8 ds)with
   |none=>rw[hy,hz]at hx;cases hx
   |some z=>
    rw[hy,hz]at hx
    obtain rfl:=Option.some.inj hx
    obtain⟨d,h1,h2⟩:=Option.bind_eq_some_iff.1 hy
    cases ds with
    |nil=>cases h1
    |cons d' ds=>
     obtain rfl:=Option.some.inj h1
     obtain⟨v,l',rfl,k1,k2⟩:=Pw h h2
     exact⟨v,l',rfl,k1,XO k2 hz⟩
end
end Go.Sx
namespace Go.Sx
open Go.Mi Go.RowKit
variable [Dfr]
section
variable {P:Program} {n:Nat} {L:List (Nat×Value)} {w:World} {ds:Option Nat} {ty:TypeId} {pos:String} {af:Array Edge} {gu:Option (Nat×Bool)} {x y:Operand} {t t':TypeId}
theorem AeO {k : IntKind} {e : TypeId} {len b o m : Nat} {i : Int} (hT : P.underlying t = some (.array len e)) (hs : (P.info? e).map (·.size) = some m) (hx : ev L x = some (.pointer (some ⟨b, o, none⟩))) (hy : ev L y = some (.int k i))
  (h0:0≤i) (h1:i<len):Det P ⟨ds,.indexAddr t x y,ty,pos,af,gu⟩ n L w (.pointer (some ⟨b,o+i.toNat*m,none⟩)) w:=
 Det.of_run fun a hF=>by
  obtain⟨inf,hi,hz⟩:=Option.map_eq_some_iff.1 hs
  simp [execOp,hF.eval hx,hF.eval hy,Instr.indexAt,asIntOf,Ak hT,Instr.sureAddr,h0,h1,sizeOf,typeInfo,hi,hz,CY]
theorem YP {k : IntKind} {e : TypeId} {len cap b o m : Nat} {i : Int} (hT : P.underlying t = some (.slice e)) (hs : (P.info? e).map (·.size) = some m) (hx : ev L x = some (.slice (some ⟨b, o, none⟩) len cap)) (hy : ev L y = some (.int k i))
  (h0:0≤i) (h1:i<len):Det P ⟨ds,.indexAddr t x y,ty,pos,af,gu⟩ n L w (.pointer (some ⟨b,o+i.toNat*m,none⟩)) w:=
 Det.of_run fun a hF=>by
  obtain⟨inf,hi,hz⟩:=Option.map_eq_some_iff.1 hs
  simp [execOp,hF.eval hx,hF.eval hy,Instr.indexAt,asIntOf,Ak hT,h0,h1,sizeOf,typeInfo,hi,hz,CY]
def nk:TypeDesc→Value→Value→Option Bool
 | .pointer _,.pointer a,.pointer none=>some a.isNone
 | .slice _,.slice a _ _,.slice none _ _=>some a.isNone
 | .func _ _ _,.nilFunc,.nilFunc=>some true
 | .func _ _ _,.func _ _ _,.nilFunc=>some false
 | .interface _,.iface _ _,.nilIface=>some false
 |_,_,_=>none
theorem uM (m:Nat) {d:TypeDesc} {u z:Value} {b:Bool} (ht:P.underlying t=some d) (h:nk d u z=some b):(Op.equalIn (m+1) t u z).run P w= .ok b w:=by
 unfold nk at h
 split at h<;>simp only[Option.some.injEq,reduceCtorEq]at h<;>subst h
 ·rename_i e a
  cases a<;>simp [Op.equalIn,Ak ht]
 ·rename_i e a l c l' c'
  cases a<;>simp [Op.equalIn,Ak ht]
 ·simp [Op.equalIn,Ak ht]
 ·simp [Op.equalIn,Ak ht]
 ·simp [Op.equalIn,Ak ht]
theorem kB {d:TypeDesc} {u z:Value} {b:Bool} (ht:P.underlying t=some d) (h:nk d u z=some b):(Op.equal t u z).run P w= .ok b w:=uM 9999 ht h
theorem Wp {d:TypeDesc} {u z:Value} {b:Bool} (h:nk d u z=some b):(binOp .eql t u z=(Op.equal t u z>>=fun r=>pure (Value.bool r)))∧(binOp .neq t u z=(Op.equal t u z>>=fun r=>pure (Value.bool !r)))∧∀op,eqGuard op t x y u z=pure ():=by
 unfold nk at h
 split at h<;>simp only[Option.some.injEq,reduceCtorEq]at h<;>subst h<;>refine⟨rfl,rfl,fun op=> ?_⟩<;>unfold eqGuard<;>split<;>rfl
theorem AeG {d:TypeDesc} {u z:Value} {b:Bool} (ht:P.underlying t=some d) (h:nk d u z=some b) (hx:ev L x=some u) (hy:ev L y=some z):Det P ⟨ds,.binOp .eql t x y t',ty,pos,af,gu⟩ n L w (.bool b) w:=
 Det.of_run fun a hF=>by
  obtain⟨h1,_,h3⟩:=Wp (x:=x) (y:=y) (t:=t) h
  simp [execOp,hF.eval hx,hF.eval hy,h1,h3,kB ht h]
theorem AeF {d:TypeDesc} {u z:Value} {b:Bool} (ht:P.underlying t=some d) (h:nk d u z=some b) (hx:ev L x=some u) (hy:ev L y=some z):Det P ⟨ds,.binOp .neq t x y t',ty,pos,af,gu⟩ n L w (.bool !b) w:=
 Det.of_run fun a hF=>by
  obtain⟨_,h2,h3⟩:=Wp (x:=x) (y:=y) (t:=t) h
  simp [execOp,hF.eval hx,hF.eval hy,h2,h3,kB ht h]
def aP:TypeDesc→Bool
 | .interface _=>true
 |_=>false
theorem AeJ {d:TypeDesc} {u:Value} (ht:P.underlying t=some d) (hd:aP d=false) (hx:ev L x=some u):Det P ⟨ds,.makeInterface t x,ty,pos,af,gu⟩ n L w (.iface t u) w:=
 Det.of_run fun a hF=>by
  simp only[execOp,hF.eval hx,Instr.makeInterface,Sem.run_bind,Ak ht,Result.andThen_ok]
  cases d<;>simp_all [aP]
theorem Aa4 {fn:Fn} {fs xs:Array Operand} {us vs:List Value} (hf:tN L fs.toList=some us) (hx:tN L xs.toList=some vs):Det P ⟨ds,.makeFunc fn fs xs,ty,pos,af,gu⟩ n L w (.func fn us.toArray vs.toArray) w:=
 Det.of_run fun a hF=>by
  have h1:fs.map a.eval=us.toArray:=by rw[←hF.evals hf,←List.map_toArray]
  have h2:xs.map a.eval=vs.toArray:=by rw[←hF.evals hx,←List.map_toArray]
  simp only[execOp,h1,h2,Instr.makeFunc]
  rfl
theorem Acv {ad:Addr} (hx:ev L x=some (.pointer (some ad))):Det P ⟨ds,.nilCheck x,ty,pos,af,gu⟩ n L w (.pointer (some ad)) w:=
 Det.of_run fun _ hF=>by simp [execOp,hF.eval hx]
def KM (k:IntKind) (p:Int):Int:=AK k (if k.signed then -1 else k.max) p
theorem AeS {k:IntKind} {p:Int} (hx:ev L x=some (.int k p)):Det P ⟨ds,.unOp .xor t x,ty,pos,af,gu⟩ n L w (.int k (KM k p)) w:=
 Det.of_run fun a hF=>by
  simp [execOp,hF.eval hx,Op.unary,Op.intBits,KM,AK]
end
end Go.Sx
namespace Go.Sx
open Go.Mi Go.RowKit
variable [Dfr]
def s5:D→Nat→Option D
 | .cp k o,f=>some (.cp k (o+f))
 | .ep k o m n i,f=>some (.ep k (o+f) m n i)
 | .xp k m n i o,f=>some (.xp k m n i (o+f))
 | .im d o,f=>some (.im d (o+f))
 | .ip e x o,f=>some (.ip e x (o+f))
 |_,_=>none
def s7 (len m:Nat):D→Nat→Option D
 | .cp k o,i=>some (.ep k o m len i)
 | .ep k o m' n i',i=>some (.ep k (o+i'*m') m len i)
 | .xp k m' n i' o,i=>some (.xp k m' n i' (o+i*m))
 | .im d o,i=>some (.im d (o+i*m))
 | .ip e x o,i=>some (.ip e x (o+i*m))
 |_,_=>none
def aM:D→Bool
 | .cp .. | .ep .. | .xp .. | .im .. | .ip .. =>true
 | .v (.pointer (some _))=>true
 |_=>false
def nkD:TypeDesc→D→Option Bool
 | .pointer _,.v (.pointer a)=>some a.isNone
 | .pointer _,.cp .. =>some false
 | .pointer _,.ep .. =>some false
 | .pointer _,.xp .. =>some false
 | .pointer _,.im .. =>some false
 | .pointer _,.ip .. =>some false
 | .slice _,.v (.slice a _ _)=>some a.isNone
 | .slice _,.ls true _ _=>some false
 | .slice _,.os _ o=>some o.isNone
 | .slice _,.sv .. =>some false
 | .func _ _ _,.fn .. =>some false
 | .func _ _ _,.v (.func ..)=>some false
 | .func _ _ _,.v .nilFunc=>some true
 | .interface _,.ifc .. =>some false
 | .interface _,.v (.iface ..)=>some false
 |_,_=>none
def aN:TypeDesc→Value→Bool
 | .pointer _,.pointer none=>true
 | .slice _,.slice none _ _=>true
 | .func _ _ _,.nilFunc=>true
 | .interface _,.nilIface=>true
 |_,_=>false
section
variable {g:G} {w:World}
theorem Aam {d d':D} {f b o:Nat} (h:Sm g w d (vP b o)) (hd:s5 d f=some d'):Sm g w d' (vP b (o+f)):=by
 cases d<;>simp only[s5,Option.some.injEq,reduceCtorEq]at hd<;>subst hd
 ·obtain⟨b',h1,h2⟩:=h
  simp only[List.cons.injEq,Value.pointer.injEq,Option.some.injEq,Addr.mk.injEq,and_true]at h2
  obtain⟨rfl,rfl⟩:=h2
  exact⟨b,h1,rfl⟩
 ·obtain⟨h0,b',h1,h2⟩:=h
  simp only[List.cons.injEq,Value.pointer.injEq,Option.some.injEq,Addr.mk.injEq,and_true]at h2
  obtain⟨rfl,rfl⟩:=h2
  exact⟨h0,b,h1,by simp;omega⟩
 ·obtain⟨h0,b',c,h1,h2⟩:=h
  simp only[List.cons.injEq,Value.pointer.injEq,Option.some.injEq,Addr.mk.injEq,and_true]at h2
  obtain⟨rfl,rfl⟩:=h2
  exact⟨h0,b,c,h1,by simp;omega⟩
 ·obtain⟨b',l',h1,h2,h3,h4⟩:=h
  simp only[List.cons.injEq,Value.pointer.injEq,Option.some.injEq,Addr.mk.injEq,and_true]at h3
  obtain⟨rfl,rfl⟩:=h3
  exact⟨b,l',h1,h2,rfl,h4⟩
 ·obtain⟨b',o0,l',h1,h2,h3,h4⟩:=h
  simp only[List.cons.injEq,Value.pointer.injEq,Option.some.injEq,Addr.mk.injEq,and_true]at h3
  obtain⟨rfl,rfl⟩:=h3
  exact⟨b,o0,l',h1,h2,by simp;omega,h4⟩
theorem Aan {d d':D} {len m i b o:Nat} (h:Sm g w d (vP b o)) (hi:i<len) (hd:s7 len m d i=some d'):Sm g w d' (vP b (o+i*m)):=by
 cases d<;>simp only[s7,Option.some.injEq,reduceCtorEq]at hd<;>subst hd
 ·obtain⟨b',h1,h2⟩:=h
  simp only[List.cons.injEq,Value.pointer.injEq,Option.some.injEq,Addr.mk.injEq,and_true]at h2
  obtain⟨rfl,rfl⟩:=h2
  exact⟨hi,b,h1,rfl⟩
 ·obtain⟨h0,b',h1,h2⟩:=h
  simp only[List.cons.injEq,Value.pointer.injEq,Option.some.injEq,Addr.mk.injEq,and_true]at h2
  obtain⟨rfl,rfl⟩:=h2
  exact⟨hi,b,h1,rfl⟩
 ·obtain⟨h0,b',c,h1,h2⟩:=h
  simp only[List.cons.injEq,Value.pointer.injEq,Option.some.injEq,Addr.mk.injEq,and_true]at h2
  obtain⟨rfl,rfl⟩:=h2
  exact⟨h0,b,c,h1,by simp;omega⟩
 ·obtain⟨b',l',h1,h2,h3,h4⟩:=h
  simp only[List.cons.injEq,Value.pointer.injEq,Option.some.injEq,Addr.mk.injEq,and_true]at h3
  obtain⟨rfl,rfl⟩:=h3
  exact⟨b,l',h1,h2,rfl,h4⟩
 ·obtain⟨b',o0,l',h1,h2,h3,h4⟩:=h
  simp only[List.cons.injEq,Value.pointer.injEq,Option.some.injEq,Addr.mk.injEq,and_true]at h3
  obtain⟨rfl,rfl⟩:=h3
  exact⟨b,o0,l',h1,h2,by simp;omega,h4⟩
theorem nB {d:D} {v:Value} (h:Sm g w d v) (hp:aM d=true):∃ad,v= .pointer (some ad):=by
 cases d with
 |v x=>
  have :=h.eq
  subst this
  unfold aM at hp
  split at hp<;>simp_all
 |cp k o=>obtain⟨b,_,h2⟩:=h;exact⟨_,(List.cons.inj h2).1⟩
 |ep k o m n i=>obtain⟨_,b,_,h2⟩:=h;exact⟨_,(List.cons.inj h2).1⟩
 |xp k m n i o=>obtain⟨_,b,c,_,h2⟩:=h;exact⟨_,(List.cons.inj h2).1⟩
 |im d o=>obtain⟨b,l',_,_,h2,_⟩:=h;exact⟨_,(List.cons.inj h2).1⟩
 |ip e x o=>obtain⟨b,o0,l',_,_,h2,_⟩:=h;exact⟨_,(List.cons.inj h2).1⟩
 |_=>cases hp
theorem s4 {d d':D} {f:Nat} {v:Value} (h:Sm g w d v) (hd:s5 d f=some d'):∃b o,v=vP b o:=by
 cases d<;>simp only[s5,reduceCtorEq]at hd
 ·obtain⟨b,_,h2⟩:=h;exact⟨_,_,(List.cons.inj h2).1⟩
 ·obtain⟨_,b,_,h2⟩:=h;exact⟨_,_,(List.cons.inj h2).1⟩
 ·obtain⟨_,b,c,_,h2⟩:=h;exact⟨_,_,(List.cons.inj h2).1⟩
 ·obtain⟨b,l',_,_,h2,_⟩:=h;exact⟨_,_,(List.cons.inj h2).1⟩
 ·obtain⟨b,o0,l',_,_,h2,_⟩:=h;exact⟨_,_,(List.cons.inj h2).1⟩
theorem s6 {d d':D} {len m i:Nat} {v:Value} (h:Sm g w d v) (hd:s7 len m d i=some d'):∃b o,v=vP b o:=by
 cases d<;>simp only[s7,reduceCtorEq]at hd
 ·obtain⟨b,_,h2⟩:=h;exact⟨_,_,(List.cons.inj h2).1⟩
 ·obtain⟨_,b,_,h2⟩:=h;exact⟨_,_,(List.cons.inj h2).1⟩
 ·obtain⟨_,b,c,_,h2⟩:=h;exact⟨_,_,(List.cons.inj h2).1⟩
 ·obtain⟨b,l',_,_,h2,_⟩:=h;exact⟨_,_,(List.cons.inj h2).1⟩
 ·obtain⟨b,o0,l',_,_,h2,_⟩:=h;exact⟨_,_,(List.cons.inj h2).1⟩
theorem mQ {td:TypeDesc} {d:D} {v z:Value} {b:Bool} (h:Sm g w d v) (hz:aN td z=true) (hn:nkD td d=some b):nk td v z=some b:=by
 unfold aN at hz
 split at hz
 ·cases d with
  |v x=>
   have :=h.eq
   subst this
   cases v<;>simp only[nkD,Option.some.injEq,reduceCtorEq]at hn
   subst hn;rfl
  |cp k o=>obtain⟨b,_,h2⟩:=h;cases(List.cons.inj h2).1;cases hn;rfl
  |ep k o m n i=>obtain⟨_,b,_,h2⟩:=h;cases(List.cons.inj h2).1;cases hn;rfl
  |xp k m n i o=>obtain⟨_,b,c,_,h2⟩:=h;cases(List.cons.inj h2).1;cases hn;rfl
  |im d o=>obtain⟨b,l',_,_,h2,_⟩:=h;cases(List.cons.inj h2).1;cases hn;rfl
  |ip e x o=>obtain⟨b,o0,l',_,_,h2,_⟩:=h;cases(List.cons.inj h2).1;cases hn;rfl
  |_=>cases hn
 ·cases d with
  |v x=>
   have :=h.eq
   subst this
   cases v<;>simp only[nkD,Option.some.injEq,reduceCtorEq]at hn
   subst hn;rfl
  |ls nn e xs=>
   cases nn with
   |false=>cases hn
   |true=>
    cases hn
    obtain⟨u,ls,h1,h2,_⟩:=h
    cases(List.cons.inj h1).1
    rcases h2.at' with⟨_,⟨h3,_⟩|⟨_,_,rfl⟩⟩|⟨_,_,_,rfl,_⟩
    ·cases h3
    ·rfl
    ·rfl
  |os e o=>
   cases hn
   obtain⟨u,h1,h2⟩:=h
   cases(List.cons.inj h1).1
   cases o with
   |none=>have :v=vN:=h2;subst this;rfl
   |some xs=>
    obtain⟨vs,h3,_⟩:=h2
    rcases h3.at' with⟨_,⟨h4,_⟩|⟨_,_,rfl⟩⟩|⟨_,_,_,rfl,_⟩
    ·cases h4
    ·rfl
    ·rfl
  |sv k o n=>obtain⟨b,c,_,h2,_⟩:=h;cases(List.cons.inj h2).1;cases hn;rfl
  |_=>cases hn
 ·cases d with
  |v x=>
   have :=h.eq
   subst this
   cases v<;>simp only[nkD,Option.some.injEq,reduceCtorEq]at hn
   all_goals subst hn;rfl
  |fn f a b=>obtain⟨_,_,_,_,h2⟩:=h;cases(List.cons.inj h2).1;cases hn;rfl
  |_=>cases hn
 ·cases d with
  |v x=>
   have :=h.eq
   subst this
   cases v<;>simp only[nkD,Option.some.injEq,reduceCtorEq]at hn
   all_goals subst hn;rfl
  |ifc t d=>obtain⟨_,_,h2⟩:=h;cases(List.cons.inj h2).1;cases hn;rfl
  |_=>cases hn
 ·cases hz
end
end Go.Sx
namespace Go.Sx
open Go.Mi Go.RowKit
variable [Dfr]
def Wh (L:DL):List Operand→Option (List D)
 |[]=>some []
 |x::r=>match Eb L x,Wh L r with
  |some d,some ds=>some (d::ds)
  |_,_=>none
def dX:D→Nat→Option D
 | .cons d ds,i=>match i with
  |0=>bif d.one then some d else none
  |i+1=>bif d.one then dX ds i else none
 |_,_=>none
def w9 (P:Program) (t:TypeId) (L:DL) (x y:Operand):Option (D×List Prop):=match Eb L x,Eb L y with
 |some d,some (.v (.int _ i))=>(match gU P t with
  |some (len,m)=>(s7 len m d i.toNat).map (·,[0≤i∧i<(len:Int)])
  |none=>(match VK P t,d with
   |some m,.ls _ e xs=>bif Nat.beq e.length m then some (.ip e (xs.getD i.toNat (rz e)) 0,[0≤i∧i<(xs.length:Int)])else none
   |some m,.sv k o n=>bif Nat.beq m 1 then some (.ep k o 1 n i.toNat,[0≤i∧i<(n:Int)])else none
   |_,_=>none))
 |_,_=>none
def oZ (P:Program) (op:BinOp) (t:TypeId) (L:DL) (x y:Operand):Option (D×List Prop):=match Eb L x,Eb L y with
 |some (.v (.int k p)),some (.v (.int k' q))=>AdB op k p k' q
 |some (.v (.bool a)),some (.v (.bool b))=>(match P.underlying t,op with
  |some .bool,.eql=>some (.v (.bool (a==b)),[])
  |some .bool,.neq=>some (.v (.bool (!(a==b))),[])
  |_,_=>none)
 |some (.v (.string a)),some (.v (.string b))=>(match op with
  | .eql=>some (.v (.bool (a.toList==b.toList)),[])
  | .neq=>some (.v (.bool (!(a.toList==b.toList))),[])
  |_=>none)
 |some d,some (.v z)=>(match P.underlying t with
  |some td=>bif aN td z then(match nkD td d,op with
   |some b,.eql=>some (.v (.bool b),[])
   |some b,.neq=>some (.v (.bool !b),[])
   |_,_=>none)else none
  |none=>none)
 |_,_=>none
def a7 (P:Program) (t:TypeId) (L:DL) (x:Operand):Option (D×List Prop):=match Eb L x,P.underlying t with
 |some (.ls _ _ xs),some (.slice _)=>some (.v (.int .i64 xs.length),[])
 |some (.os _ o),some (.slice _)=>some (.v (.int .i64 (o.getD []).length),[])
 |some (.sv _ _ n),some (.slice _)=>some (.v (.int .i64 n),[])
 |some (.v (.slice none 0 0)),some (.slice _)=>some (.v (.int .i64 0),[])
 |some (.v (.string s)),some .string=>some (.v (.int .i64 s.size),[])
 |_,_=>none
def YC (P:Program) (s t:TypeId) (L:DL) (x:Operand):Option (D×List Prop):=match Eb L x,P.underlying s,P.underlying t with
 |some (.v (.int _ p)),some _,some (.int k')=>some (.v (.int k' (k'.wrap p)),[])
 |some (.ls _ [.int .u8] xs),some (.slice e),some .string=>(match P.underlying e with
  |some (.int .u8)=>some (.v (.string (FD xs)),[])
  |_=>none)
 |some (.v (.slice none 0 0)),some (.slice e),some .string=>(match P.underlying e with
  |some (.int .u8)=>some (.v (.string ByteArray.empty),[])
  |_=>none)
 |_,_,_=>none
def wY (mx:Bool) (L:DL):List Operand→Option (D×List Prop)
 |[x,y]=>match Eb L x,Eb L y with
  |some (.v (.int k p)),some (.v (.int k' q))=>bif Vg k k' then some (.v (.int k (bif mx then(if q>p then q else p)else(if q<p then q else p))),[])else none
  |_,_=>none
 |_=>none
def AfC (t:TypeId):D→D
 | .v u=> .v (.iface t u)
 |d=> .ifc t d
def exP (P:Program) (L:DL):Op→Option (D×List Prop)
 | .move x=>(Eb L x).map (·,[])
 | .assign x=>(Eb L x).map (·,[])
 | .pick c x y=>(match Eb L c with
  |some (.v (.bool b))=>(bif b then Eb L x else Eb L y).map (·,[])
  |_=>none)
 | .nilCheck x=>(match Eb L x with
  |some d=>bif aM d then some (d,[])else none
  |none=>none)
 | .fieldAddr t x f=>(match Eb L x,Aet P t f with
  |some d,some o=>(s5 d o).map (·,[])
  |_,_=>none)
 | .indexAddr t x y=>w9 P t L x y
 | .binOp op t x y _=>oZ P op t L x y
 | .unOp .not _ x=>(match Eb L x with
  |some (.v (.bool b))=>some (.v (.bool !b),[])
  |_=>none)
 | .unOp .xor _ x=>(match Eb L x with
  |some (.v (.int k p))=>some (.v (.int k (KM k p)),[])
  |_=>none)
 | .convert s t x=>YC P s t L x
 | .makeInterface t x=>(match Eb L x,P.underlying t with
  |some d,some td=>bif aP td then none else some (AfC t d,[])
  |_,_=>none)
 | .makeFunc (.func f) a b=>(match Wh L a.toList,Wh L b.toList with
  |some [],some []=>some (.v (.func (.func f) #[] #[]),[])
  |some ds,some es=>some (.fn f (chain ds) (chain es),[])
  |_,_=>none)
 | .extract x i=>(match Eb L x with
  |some (.tu ds)=>(dX ds i).map (·,[])
  |some (.v (.tuple vs))=>(vs[i]?).map (.v ·,[])
  |_=>none)
 | .call c=>(match c.callee,c.args.toList,c.argTypes.toList with
  | .builtin .len,[x],[t]=>a7 P t L x
  | .builtin .min,xs,_=>wY false L xs
  | .builtin .max,xs,_=>wY true L xs
  |_,_,_=>none)
 |_=>none
section
variable {P:Program} {n:Nat} {L:DL} {ds:Option Nat} {ty:TypeId} {pos:String} {af:Array Edge} {gu:Option (Nat×Bool)}
theorem DD {ξ:Nat→Value} {g:G} {w:World} (hH:Hold L ξ g w):∀{xs:List Operand} {es:List D},Wh L xs=some es→∃vs,tN (Lf L ξ) xs=some vs∧B4 g.X g.N w (chain es) true vs∧vs.length=es.length
 |[],es,h=>by simp only[Wh,Option.some.injEq]at h;subst h;exact⟨[],rfl,rfl,rfl⟩
 |x::r,es,h=>by
  simp only[Wh]at h
  split at h
  ·rename_i d es' h1 h2
   simp only[Option.some.injEq]at h
   subst h
   obtain⟨v,k1,k2⟩:=A4 hH h1
   obtain⟨vs,k3,k4,k5⟩:=DD hH h2
   exact⟨v::vs,by simp only[tN,k1,k3],⟨[v],vs,rfl,k2,k4⟩,by simp [k5]⟩
  ·cases h
theorem vQ {g:G} {w:World}:∀{d:D} {i:Nat} {r:D} {vs:List Value},B4 g.X g.N w d true vs→dX d i=some r→∃v,vs[i]? =some v∧Sm g w r v:=by
 intro d
 induction d with
 |cons d ds _ ih=>
  rintro i r vs ⟨l1,l2,rfl,h1,h2⟩ h
  cases i with
  |zero=>
   simp only[dX]at h
   cases ho:d.one with
   |false=>rw[ho]at h;cases h
   |true=>
    rw[ho]at h
    simp only[cond_true,Option.some.injEq]at h
    subst h
    obtain⟨v,rfl⟩:=FU h1 ho
    exact⟨v,rfl,h1⟩
  |succ i=>
   simp only[dX]at h
   cases ho:d.one with
   |false=>rw[ho]at h;cases h
   |true=>
    rw[ho]at h
    obtain⟨v,rfl⟩:=FU h1 ho
    simpa using ih h2 h
 |_=>intro i r vs _ h;simp [dX]at h
theorem MO {t len m:Nat} (h:gU P t=some (len,m)):∃e,P.underlying t=some (.array len e)∧(P.info? e).map (·.size)=some m:=by
 unfold gU at h
 split at h
 ·rename_i len' e hu
  split at h
  ·rename_i m' hm
   simp only[Option.some.injEq,Prod.mk.injEq]at h
   obtain⟨rfl,rfl⟩:=h
   exact⟨e,hu,hm⟩
  ·cases h
 ·cases h
theorem GL {t m:Nat} (h:VK P t=some m):∃e,P.underlying t=some (.slice e)∧(P.info? e).map (·.size)=some m:=by
 unfold VK at h
 split at h
 ·rename_i e hu
  exact⟨e,hu,h⟩
 ·cases h
theorem Fa2.row {X:Nat→Prop} {N:Nat→Option Value} {w:World} {e:List Fk} {xs:List (RT e)} {ls:List (List Value)} (h:Fa2 (rS X N w e) xs ls):∀l∈ls,l.length=e.length:=by
 intro l hl
 obtain⟨i,hi⟩:=List.mem_iff_getElem?.1 hl
 have hlt:i<xs.length:=by
  rw[h.len]
  rcases Nat.lt_or_ge i ls.length with h'|h'
  ·exact h'
  ·rw[List.getElem?_eq_none h']at hi;cases hi
 obtain⟨l',h1,h2⟩:=h.get (List.getElem?_eq_getElem hlt)
 rw[hi]at h1
 cases h1
 exact lU _ _ _ h2
theorem Ow {α:Type} {m:Nat}:∀{ls:List (List α)} {i:Nat} {l:List α},(∀l∈ls,l.length=m)→ls[i]? =some l→ls.flatten=(ls.take i).flatten++l++(ls.drop (i+1)).flatten∧(ls.take i).flatten.length=i*m
 |[],i,l,_,h=>by simp at h
 |x::ls,0,l,hm,h=>by simp at h;subst h;simp
 |x::ls,i+1,l,hm,h=>by
  obtain⟨h1,h2⟩:=Ow (ls:=ls) (fun l hl=>hm l (List.mem_cons_of_mem _ hl)) (i:=i) (l:=l) (by simpa using h)
  refine⟨by simp only[List.flatten_cons,List.take_succ_cons,List.drop_succ_cons,List.append_assoc];rw[h1];simp,?_⟩
  simp only[List.take_succ_cons,List.flatten_cons,List.length_append,h2,hm x (List.mem_cons_self ..)]
  rw[Nat.add_mul,Nat.one_mul];omega
theorem At.sub {w:World} {b o:Nat} {vs a l c:List Value} (h:At w b o vs) (e:vs=a++l++c):At w b (o+a.length) l:=by
 subst e
 rw[List.append_assoc]at h
 exact(At.app.1 (At.app.1 h).2).1
theorem getD_some {α:Type} {xs:List α} {i:Nat} {z:α} (h:i<xs.length):xs[i]? =some (xs.getD i z):=by
 rw[List.getElem?_eq_getElem h,List.getD_eq_getElem?_getD,List.getElem?_eq_getElem h];rfl
theorem a8 {t:TypeId} {x y:Operand} {d:D} {ps:List Prop} (h:w9 P t L x y=some (d,ps)):PureOk P n ⟨ds,.indexAddr t x y,ty,pos,af,gu⟩ L d ps:=by
 intro hp ξ g w hH _
 unfold w9 at h
 split at h
 ·rename_i d0 k i hx hy
  have hy':=Bo hH hy
  obtain⟨v,hv,hs⟩:=A4 hH hx
  split at h
  ·rename_i len m ha
   obtain⟨e,h1,h2⟩:=MO ha
   obtain⟨d',hd,h3⟩:=Option.map_eq_some_iff.1 h
   simp only[Prod.mk.injEq]at h3
   obtain⟨rfl,rfl⟩:=h3
   obtain⟨b,o,rfl⟩:=s6 hs hd
   have hi:i.toNat<len:=by have :=hp.1;omega
   exact⟨_,Aan hs hi hd,AeO h1 h2 hv hy' hp.1.1 hp.1.2⟩
  ·split at h
   ·rename_i m nn e xs hsi
    obtain⟨te,h1,h2⟩:=GL hsi
    cases hm:Nat.beq e.length m with
    |false=>rw[hm]at h;cases h
    |true=>
     rw[hm]at h
     have :=Nat.eq_of_beq_eq_true hm
     subst this
     simp only[cond_true,Option.some.injEq,Prod.mk.injEq]at h
     obtain⟨rfl,rfl⟩:=h
     obtain⟨u,ls,k1,k2,k3⟩:=hs
     cases(List.cons.inj k1).1
     rcases k2.at' with⟨h0,_⟩|⟨b,o,c,rfl,k4,k5,k6,k7,k8⟩
     ·have :=hp.1;omega
     ·have hi:i.toNat<xs.length:=by have :=hp.1;omega
      obtain⟨l,k9,k10⟩:=k3.get (getD_some (z:=rz e) hi)
      obtain⟨k11,k12⟩:=Ow k3.row k9
      refine⟨_,⟨b,o+i.toNat*e.length,l,k6,k7,rfl,?_,k10⟩,YP h1 h2 hv hy' hp.1.1 hp.1.2⟩
      rw[←k12]
      exact At.sub k8 k11
   ·rename_i m k' o n' hsi
    obtain⟨te,h1,h2⟩:=GL hsi
    cases hm:Nat.beq m 1 with
    |false=>rw[hm]at h;cases h
    |true=>
     rw[hm]at h
     have :=Nat.eq_of_beq_eq_true hm
     subst this
     simp only[cond_true,Option.some.injEq,Prod.mk.injEq]at h
     obtain⟨rfl,rfl⟩:=h
     obtain⟨b,c,k1,k2,k3⟩:=hs
     cases(List.cons.inj k2).1
     have hi:i.toNat<n':=by have :=hp.1;omega
     exact⟨_,⟨hi,b,k1,rfl⟩,YP h1 h2 hv hy' hp.1.1 hp.1.2⟩
   ·cases h
 ·cases h
theorem oY {op:BinOp} {t t':TypeId} {x y:Operand} {d:D} {ps:List Prop} (h:oZ P op t L x y=some (d,ps)):PureOk P n ⟨ds,.binOp op t x y t',ty,pos,af,gu⟩ L d ps:=by
 unfold oZ at h
 split at h
 ·rename_i hx hy;exact Aai hx hy h
 ·rename_i a b hx hy
  intro hp ξ g w hH _
  split at h
  ·rename_i hu;cases h;exact⟨_,rfl,AcA hu (Bo hH hx) (Bo hH hy)⟩
  ·rename_i hu;cases h;exact⟨_,rfl,Acx hu (Bo hH hx) (Bo hH hy)⟩
  ·cases h
 ·rename_i a b hx hy
  intro hp ξ g w hH _
  split at h
  ·cases h;exact⟨_,rfl,Acz (Bo hH hx) (Bo hH hy)⟩
  ·cases h;exact⟨_,rfl,Acw (Bo hH hx) (Bo hH hy)⟩
  ·cases h
 ·rename_i d0 z _ _ _ hx hy
  intro hp ξ g w hH _
  obtain⟨v,hv,hs⟩:=A4 hH hx
  split at h
  ·rename_i td hu
   cases hz:aN td z with
   |false=>rw[hz]at h;cases h
   |true=>
    rw[hz]at h
    simp only[cond_true]at h
    split at h
    ·rename_i b hn
     cases h
     exact⟨_,rfl,AeG hu (mQ hs hz hn) hv (Bo hH hy)⟩
    ·rename_i b hn
     cases h
     exact⟨_,rfl,AeF hu (mQ hs hz hn) hv (Bo hH hy)⟩
    ·cases h
  ·cases h
 ·cases h
end
end Go.Sx
namespace Go.Sx
open Go.Mi Go.RowKit
variable [Dfr]
section
variable {P:Program} {n:Nat} {L:DL} {ds:Option Nat} {ty:TypeId} {pos:String} {af:Array Edge} {gu:Option (Nat×Bool)}
theorem Lsl.shape {X:Nat→Prop} {w:World} {nn:Bool} {k m:Nat} {v:Value} {cs:List Value} (h:Lsl X w nn k v m cs):(v=vN∧k=0∧nn=false)∨(∃b o c,v=vS b o k c∧k≤c∧At w b o cs)∨(k=0∧∃a c,v= .slice (some a) 0 c):=by
 rcases h.at' with⟨h1,h2|h2⟩|⟨b,o,c,h1,h2,_,_,_,h3⟩
 ·exact .inl ⟨h2.2,h1,h2.1⟩
 ·exact .inr (.inr ⟨h1,h2⟩)
 ·exact .inr (.inl ⟨b,o,c,h1,h2,h3⟩)
theorem WS {t:TypeId} {x:Operand} {d:D} {ps:List Prop} (h:a7 P t L x=some (d,ps)):PureOk P n ⟨ds,.call ⟨.builtin .len,#[x],#[t]⟩,ty,pos,af,gu⟩ L d ps:=by
 intro hp ξ g w hH _
 unfold a7 at h
 split at h<;>simp only[Option.some.injEq,Prod.mk.injEq,reduceCtorEq]at h
 ·rename_i nn e xs _ hx hu
  obtain⟨rfl,rfl⟩:=h
  obtain⟨v,hv,u,ls,h1,h2,h3⟩:=A4 hH hx
  cases(List.cons.inj h1).1
  refine⟨_,rfl,?_⟩
  rcases h2.shape with⟨rfl,h4,_⟩|⟨b,o,c,rfl,_,_⟩|⟨h4,_,_,rfl⟩
  ·have :=Cv (P:=P) (n:=n) (w:=w) (ds:=ds) (ty:=ty) (pos:=pos) (af:=af) (gu:=gu) hu hv
   rwa [←h4]at this
  ·exact Cv hu hv
  ·have :=Cv (P:=P) (n:=n) (w:=w) (ds:=ds) (ty:=ty) (pos:=pos) (af:=af) (gu:=gu) hu hv
   rwa [←h4]at this
 ·rename_i e o _ hx hu
  obtain⟨rfl,rfl⟩:=h
  obtain⟨v,hv,u,h1,h2⟩:=A4 hH hx
  cases(List.cons.inj h1).1
  refine⟨_,rfl,?_⟩
  cases o with
  |none=>have :v=vN:=h2;subst this;exact Cv hu hv
  |some xs=>
   obtain⟨vs,h3,_⟩:=h2
   rcases h3.shape with⟨_,_,h4⟩|⟨b,o,c,rfl,_,_⟩|⟨h4,_,_,rfl⟩
   ·cases h4
   ·exact Cv hu hv
   ·have :=Cv (P:=P) (n:=n) (w:=w) (ds:=ds) (ty:=ty) (pos:=pos) (af:=af) (gu:=gu) hu hv
    rwa [←h4]at this
 ·rename_i k o m _ hx hu
  obtain⟨rfl,rfl⟩:=h
  obtain⟨v,hv,b,c,h1,h2,_⟩:=A4 hH hx
  cases(List.cons.inj h2).1
  exact⟨_,rfl,Cv hu hv⟩
 ·rename_i _ hx hu
  obtain⟨rfl,rfl⟩:=h
  exact⟨_,rfl,Cv hu (Bo hH hx)⟩
 ·rename_i s hx hu
  obtain⟨rfl,rfl⟩:=h
  exact⟨_,rfl,UI hu (Bo hH hx)⟩
theorem Oq {xs:List Int} {vs:List Value} {X:Nat→Prop} {N:Nat→Option Value} {w:World} {k:IntKind} (h:Fa2 (fS X N w (.int k)) xs vs):vs=xs.map (Value.int k):=by
 induction xs generalizing vs with
 |nil=>
  cases vs with
  |nil=>rfl
  |cons v vs=>exact h.elim
 |cons x xs ih=>
  cases vs with
  |nil=>exact h.elim
  |cons v vs=>rw[List.map_cons,←ih h.2,show v= .int k x from h.1]
theorem QU {x : Operand} {s t e : TypeId} {xs : List Int} {v : Value} {cs : List Value} {X : Nat → Prop} {w : World} {nn : Bool} {Lv : List (Nat × Value)} (hs : P.underlying s = some (.slice e)) (he : P.underlying e = some (.int .u8)) (ht : P.underlying t = some .string)
  (hx:ev Lv x=some v) (hl:Lsl X w nn xs.length v 1 cs) (hc:cs=xs.map (Value.int .u8)):Det P ⟨ds,.convert s t x,ty,pos,af,gu⟩ n Lv w (.string (FD xs)) w:=by
 subst hc
 rcases hl.shape with⟨rfl,h0,_⟩|⟨b,o,c,rfl,_,ha⟩|⟨h0,a0,c0,rfl⟩
 ·obtain rfl:=List.eq_nil_of_length_eq_zero h0
  exact Det.of_run fun a' hF=>by
   have h1:(Conv.bytesToString vN).run P w= .ok (.string ByteArray.empty) w:=rfl
   simp [execOp,hF.eval hx,run_convert_bytes_string w s t e none 0 0 hs he ht,h1,FD]
 ·have hX:∀j,j<xs.length→w.cell? ⟨b,o+j,none⟩=some (.int .u8 (xs.getD j 0)):=fun j hj=>ha j _ (by simp [List.getElem?_eq_getElem hj,List.getD])
  have :=Je (P:=P) (n:=n) (L:=Lv) (w:=w) (ds:=ds) (ty:=ty) (pos:=pos) (af:=af) (gu:=gu) (X:=fun j=>xs.getD j 0) hs he ht hx ⟨.inr ⟨b,o,rfl,hX⟩⟩ (fun h=>by cases h)
  have e1:OF xs.length (fun j=>xs.getD j 0)=FD xs:=by
   unfold OF FD
   congr 1
   apply List.ext_getElem
   ·simp
   ·intro i h1 h2
    simp at h1
    simp [List.getD,h1]
  rwa [e1]at this
 ·obtain rfl:=List.eq_nil_of_length_eq_zero h0
  exact Je (P:=P) (n:=n) (L:=Lv) (w:=w) (ds:=ds) (ty:=ty) (pos:=pos) (af:=af) (gu:=gu) (X:=fun _=>0) hs he ht hx ⟨.inl rfl⟩ (fun h=>by cases h)
theorem eM {s t:TypeId} {x:Operand} {d:D} {ps:List Prop} (h:YC P s t L x=some (d,ps)):PureOk P n ⟨ds,.convert s t x,ty,pos,af,gu⟩ L d ps:=by
 intro hp ξ g w hH _
 unfold YC at h
 split at h
 ·rename_i k p _ k' hx hs ht
  simp only[Option.some.injEq,Prod.mk.injEq]at h
  obtain⟨rfl,rfl⟩:=h
  exact⟨_,rfl,AcB hs ht (Bo hH hx) rfl⟩
 ·rename_i nn xs e hx hs ht
  split at h
  ·rename_i he
   simp only[Option.some.injEq,Prod.mk.injEq]at h
   obtain⟨rfl,rfl⟩:=h
   obtain⟨v,hv,u,ls,h1,h2,h3⟩:=A4 hH hx
   cases(List.cons.inj h1).1
   obtain⟨vs,rfl,h4⟩:=Kv h3
   rw[WK rfl]at h2
   exact⟨_,rfl,QU hs he ht hv h2 (Oq h4)⟩
  ·cases h
 ·rename_i e hx hs ht
  split at h
  ·rename_i he
   simp only[Option.some.injEq,Prod.mk.injEq]at h
   obtain⟨rfl,rfl⟩:=h
   have hv:=Bo hH hx
   exact⟨_,rfl,QU (xs:=[]) (cs:=[]) (nn:=false) (X:=g.X) hs he ht hv ⟨Nat.zero_le _,by simp,.inl ⟨rfl,.inl ⟨rfl,rfl⟩⟩⟩ rfl⟩
  ·cases h
 ·cases h
theorem AeL {x y : Operand} {T : Array TypeId} {k : IntKind} {p q r : Int} {Lv : List (Nat × Value)} {w : World} (hx : ev Lv x = some (.int k p)) (hy : ev Lv y = some (.int k q)) (hr : (if q > p then q else p) = r) :
  Det P ⟨ds,.call ⟨.builtin .max,#[x,y],T⟩,ty,pos,af,gu⟩ n Lv w (.int k r) w:=
 Det.of_run fun a hF=>by subst hr;simp [execOp,hF.eval hx,hF.eval hy,resolve,invoke,builtin,Builtin.max_,Builtin.max2]
theorem a6 {mx:Bool} {xs:Array Operand} {T:Array TypeId} {d:D} {ps:List Prop} (h:wY mx L xs.toList=some (d,ps)):PureOk P n ⟨ds,.call ⟨.builtin (bif mx then .max else .min),xs,T⟩,ty,pos,af,gu⟩ L d ps:=by
 intro hp ξ g w hH _
 obtain⟨l⟩:=xs
 simp only at h
 unfold wY at h
 split at h
 ·rename_i x y
  split at h
  ·rename_i k p k' q hx hy
   cases hk:Vg k k' with
   |false=>rw[hk]at h;cases h
   |true=>
    rw[hk]at h
    obtain rfl:=of_decide_eq_true hk
    simp only[cond_true,Option.some.injEq,Prod.mk.injEq]at h
    obtain⟨rfl,rfl⟩:=h
    cases mx with
    |true=>exact⟨_,rfl,AeL (Bo hH hx) (Bo hH hy) rfl⟩
    |false=>exact⟨_,rfl,AeK (Bo hH hx) (Bo hH hy) rfl⟩
  ·cases h
 ·cases h
theorem Yy {op:Op} {d:D} {ps:List Prop} (h:exP P L op=some (d,ps)):PureOk P n ⟨ds,op,ty,pos,af,gu⟩ L d ps:=by
 unfold exP at h
 split at h
 ·rename_i x
  obtain⟨d',h1,h2⟩:=Option.map_eq_some_iff.1 h
  cases h2
  intro hp ξ g w hH _
  obtain⟨v,hv,hs⟩:=A4 hH h1
  exact⟨v,hs,Acy hv⟩
 ·rename_i x
  obtain⟨d',h1,h2⟩:=Option.map_eq_some_iff.1 h
  cases h2
  intro hp ξ g w hH _
  obtain⟨v,hv,hs⟩:=A4 hH h1
  exact⟨v,hs,pU hv⟩
 ·rename_i c x y
  split at h
  ·rename_i b hc
   obtain⟨d',h1,h2⟩:=Option.map_eq_some_iff.1 h
   cases h2
   intro hp ξ g w hH _
   have hc':=Bo hH hc
   cases b with
   |true=>obtain⟨v,hv,hs⟩:=A4 hH h1;exact⟨v,hs,pS hc' hv⟩
   |false=>obtain⟨v,hv,hs⟩:=A4 hH h1;exact⟨v,hs,pS hc' hv⟩
  ·cases h
 ·rename_i x
  split at h
  ·rename_i d0 hx
   cases hp:aM d0 with
   |false=>rw[hp]at h;cases h
   |true=>
    rw[hp]at h
    cases h
    intro _ ξ g w hH _
    obtain⟨v,hv,hs⟩:=A4 hH hx
    obtain⟨ad,rfl⟩:=nB hs hp
    exact⟨_,hs,Acv hv⟩
  ·cases h
 ·rename_i t x f
  split at h
  ·rename_i d0 o hx hf
   obtain⟨d',h1,h2⟩:=Option.map_eq_some_iff.1 h
   cases h2
   intro _ ξ g w hH _
   obtain⟨v,hv,hs⟩:=A4 hH hx
   obtain⟨b,o',rfl⟩:=s4 hs h1
   unfold Aet at hf
   split at hf
   ·rename_i fs hu
    split at hf
    ·rename_i fd hfd
     split at hf
     ·rename_i m hm
      cases hf
      exact⟨_,Aam hs h1,W6 hu hfd hm hv⟩
     ·cases hf
    ·cases hf
   ·cases hf
  ·cases h
 ·exact a8 h
 ·exact oY h
 ·split at h
  ·rename_i b hx
   cases h
   intro _ ξ g w hH _
   exact⟨_,rfl,AeE (Bo hH hx)⟩
  ·cases h
 ·split at h
  ·rename_i k p hx
   cases h
   intro _ ξ g w hH _
   exact⟨_,rfl,AeS (Bo hH hx)⟩
  ·cases h
 ·exact eM h
 ·rename_i t x
  split at h
  ·rename_i d0 td hx hu
   cases hd:aP td with
   |true=>rw[hd]at h;cases h
   |false=>
    rw[hd]at h
    simp only[cond_false,Option.some.injEq,Prod.mk.injEq]at h
    obtain⟨rfl,rfl⟩:=h
    intro _ ξ g w hH _
    obtain⟨v,hv,hs⟩:=A4 hH hx
    refine⟨.iface t v,?_,AeJ hu hd hv⟩
    cases d0 with
    |v u=>have :=hs.eq;subst this;rfl
    |_=>exact⟨v,hs,rfl⟩
  ·cases h
 ·rename_i f a b
  intro _ ξ g w hH _
  split at h
  ·rename_i h1 h2
   cases h
   obtain⟨us,k1,_,k3⟩:=DD hH h1
   obtain⟨vs,k4,_,k6⟩:=DD hH h2
   obtain rfl:=List.eq_nil_of_length_eq_zero k3
   obtain rfl:=List.eq_nil_of_length_eq_zero k6
   exact⟨_,rfl,Aa4 k1 k4⟩
  ·rename_i es fs _ h1 h2
   cases h
   obtain⟨us,k1,k2,_⟩:=DD hH h1
   obtain⟨vs,k4,k5,_⟩:=DD hH h2
   exact⟨_,⟨us,vs,k2,k5,rfl⟩,Aa4 k1 k4⟩
  ·cases h
 ·rename_i x i
  intro _ ξ g w hH _
  split at h
  ·rename_i es hx
   obtain⟨d',h1,h2⟩:=Option.map_eq_some_iff.1 h
   cases h2
   obtain⟨v,hv,l',k1,k2⟩:=A4 hH hx
   cases(List.cons.inj k2).1
   obtain⟨u,k3,k4⟩:=vQ k1 h1
   exact⟨u,k4,S2 hv (by simpa using k3)⟩
  ·rename_i vs hx
   obtain⟨d',h1,h2⟩:=Option.map_eq_some_iff.1 h
   cases h2
   exact⟨_,rfl,S2 (Bo hH hx) h1⟩
  ·cases h
 ·rename_i c
  obtain⟨cl,⟨xs⟩,⟨ts⟩⟩:=c
  simp only at h
  split at h
  ·exact WS h
  ·exact a6 (mx:=false) (xs:=⟨_⟩) h
  ·exact a6 (mx:=true) (xs:=⟨_⟩) h
  ·cases h
 ·cases h
end
end Go.Sx
namespace Go.Sx
open Go.Mi Go.RowKit
variable [Dfr]
def wC (o i m:Nat):Nat:=bif Nat.beq m 1 then(bif Nat.beq o 0 then i else o+i)else(bif Nat.beq o 0 then i*m else o+i*m)
theorem No (o i m:Nat):wC o i m=o+i*m:=by
 unfold wC
 cases hm:Nat.beq m 1 with
 |true=>
  have :=Nat.eq_of_beq_eq_true hm
  subst this
  cases ho:Nat.beq o 0 with
  |true=>have :=Nat.eq_of_beq_eq_true ho;subst this;simp
  |false=>simp
 |false=>
  cases ho:Nat.beq o 0 with
  |true=>have :=Nat.eq_of_beq_eq_true ho;subst this;simp
  |false=>simp
def vL:D→Option D
 | .ar k n f=>bif Nat.beq n 1 then some (.v (.int k (f 0)))else none
 |d=>bif d.isOne then some d else none
def H4 (flat:Bool) (r:List D):Option D:=bif flat then(match r with
 |[d]=>vL d
 |_=>none)else some (mk1 r)
def NX (P:Program) (t:TypeId):Option (Bool×Nat):=match P.underlying t,P.info? t with
 |some d,some i=>some (TypeDesc.flat d,i.size)
 |_,_=>none
def Acp (P:Program) (L:DL) (H:Hp) (t:TypeId) (x:Operand):Option (List Nat×D):=match Eb L x,NX P t with
 |some (.cp k o),some (fl,m)=>(match AS H k with
  |some (.ob _ d)=>((It (GV d) o m).bind (H4 fl)).map ([k], ·)
  |_=>none)
 |some (.ep k o mm n i),some (fl,m)=>(match AS H k with
  |some (.ob _ d)=>(match It (GV d) o (n*mm)with
   |some [.ar kk _ f]=>bif fl then(bif Nat.beq m 1&&Nat.ble 1 mm then some ([k],.v (.int kk (f (wC 0 i mm))))else none)
    else(bif Nat.ble m mm then some ([k],.ar kk m fun j=>f (wC 0 i mm+j))else none)
   |_=>((It (GV d) (o+i*mm) m).bind (H4 fl)).map ([k], ·))
  |_=>none)
 |some (.xp k mm _ i o),some (fl,m)=>(match AS H k with
  |some (.sl _ e xs)=>bif Nat.beq mm e.length then((It (kN e (xs.getD i (rz e))) o m).bind (H4 fl)).map ([k], ·)else none
  |_=>none)
 |some (.im d o),some (fl,m)=>((It (GV d) o m).bind (H4 fl)).map ([], ·)
 |some (.ip e x o),some (fl,m)=>((It (kN e x) o m).bind (H4 fl)).map ([], ·)
 |_,_=>none
section
variable {P:Program} {n:Nat} {L:DL} {ds:Option Nat} {ty:TypeId} {pos:String} {af:Array Edge} {gu:Option (Nat×Bool)} {g:G} {w:World}
theorem EOk.rd {o:Oper} {H:Nat→Option O} {rd:List Nat} {d:D} (h:∀ξ g w,HS (BF rd H) g w→Hold L ξ g w→∃v,Sm g w d v∧Det P o n (Lf L ξ) w v w):EOk P n o L H ⟨rd,[],[],d⟩:=by
 intro ξ g w hS hH _
 have hS':HS (BF rd H) g w:=by simpa[An]using hS
 obtain⟨v,h1,h2⟩:=h ξ g w hS' hH
 exact h2.mono fun v' w' ⟨e1,e2⟩=>by subst e1;subst e2;exact⟨g,Post.pure hS.wf h1⟩
theorem EP {t:TypeId} {fl:Bool} {m:Nat} (h:NX P t=some (fl,m)):∃d,P.underlying t=some d∧TypeDesc.flat d=fl∧(P.info? t).map (·.size)=some m:=by
 unfold NX at h
 split at h
 ·rename_i d i hu hi
  simp only[Option.some.injEq,Prod.mk.injEq]at h
  exact⟨d,hu,h.1,by rw[hi];exact congrArg some h.2⟩
 ·cases h
theorem Uh {r:List D} {l:List Value} (h:CI g.X g.N w r l) (ho:∀u∈l,u.oneCell'=true):Sm g w (mk1 r) (.agg l.toArray):=by
 have gen:∀{r:List D},CI g.X g.N w r l→Sm g w (.ag (chain r)) (.agg l.toArray):=fun h=>⟨l,EC.2 h,ho,rfl⟩
 unfold mk1
 split
 ·rename_i d
  split
  ·rename_i k n f
   have :l=cells k n f:=CP.1 h
   subst this
   exact rfl
  ·exact gen h
 ·exact gen h
theorem Ua {d d':D} {l:List Value} (h:B4 g.X g.N w d false l) (ho:vL d=some d'):∃v,l=[v]∧Sm g w d' v:=by
 unfold vL at ho
 split at ho
 ·rename_i k m f
  cases hm:Nat.beq m 1 with
  |false=>rw[hm]at ho;cases ho
  |true=>
   rw[hm]at ho
   have :=Nat.eq_of_beq_eq_true hm
   subst this
   cases ho
   have h1:l=cells k 1 f:=h
   subst h1
   exact⟨_,rfl,rfl⟩
 ·cases hi:D.isOne _ with
  |false=>rw[hi]at ho;cases ho
  |true=>
   rw[hi]at ho
   cases ho
   obtain⟨v,h1,_,h2⟩:=M5 h hi
   exact⟨v,h1,h2⟩
theorem AaP {t : TypeId} {x : Operand} {fl : Bool} {m b o : Nat} {r : List D} {d : D} {l : List Value} {Lv : List (Nat × Value)} (ht : NX P t = some (fl, m)) (hx : ev Lv x = some (vP b o)) (ha : At w b o l) (hl : l.length = m) (hs : CI g.X g.N w r l) (ho : ∀ u ∈ l, u.oneCell' = true) (hf : H4 fl r = some d) :
  ∃v,Sm g w d v∧Det P ⟨ds,.load t x,ty,pos,af,gu⟩ n Lv w v w:=by
 obtain⟨td,h1,h2,h3⟩:=EP ht
 unfold H4 at hf
 cases fl with
 |true=>
  simp only[cond_true]at hf
  split at hf
  ·rename_i d0
   obtain⟨v,rfl,h4⟩:=Ua (CP.1 hs) hf
   exact⟨v,h4,bI h1 h2 hx (by simpa using ha 0 v rfl)⟩
  ·cases hf
 |false=>
  simp only[cond_false,Option.some.injEq]at hf
  subst hf
  exact⟨_,Uh hs ho,OA h1 h2 h3 hx ha hl⟩
theorem WA {t : TypeId} {x : Operand} {fl : Bool} {m b o0 o : Nat} {ss r : List D} {d : D} {l : List Value} {Lv : List (Nat × Value)} (ht : NX P t = some (fl, m)) (hx : ev Lv x = some (vP b (o0 + o))) (ha : At w b o0 l) (hs : CI g.X g.N w ss l) (ho : ∀ u ∈ l, u.oneCell' = true) (hg : It ss o m = some r) (hf : H4 fl r = some d) :
  ∃v,Sm g w d v∧Det P ⟨ds,.load t x,ty,pos,af,gu⟩ n Lv w v w:=by
 obtain⟨k1,k2⟩:=GR hs hg
 cases hm:m with
 |zero=>
  subst hm
  refine AaP ht hx (l:=[]) (fun i u hu=>by simp at hu) rfl (by simpa using k1) (by simp) hf
 |succ m'=>
  have k2':o+m≤l.length:=by rw[if_neg (by omega)]at k2;simpa using k2
  refine AaP ht hx (l:=(l.drop o).take m) ?_ (by simp;omega) k1 (fun u hu=>ho u (List.mem_of_mem_drop (List.mem_of_mem_take hu))) hf
  have h3:l=l.take o++(l.drop o).take m++(l.drop o).drop m:=by rw[List.append_assoc,List.take_append_drop,List.take_append_drop]
  have :=At.sub ha h3
  rw[List.length_take,Nat.min_eq_left (by omega)]at this
  exact this
theorem w8 {H:Hp} {t:TypeId} {x:Operand} {rd:List Nat} {d:D} (h:Acp P L H t x=some (rd,d)):EOk P n ⟨ds,.load t x,ty,pos,af,gu⟩ L (AS H) ⟨rd,[],[],d⟩:=by
 refine EOk.rd fun ξ g w hS hH=> ?_
 have obj:∀{k:Nat} {o:O},k∈rd→AS H k=some o→OS g w k o:=fun {k o} hk ho=>hS.os k o (by unfold BF;rw[AN.2 hk];exact ho)
 unfold Acp at h
 split at h
 ·rename_i k o fl m hx ht
  split at h
  ·rename_i ty' d0 hk
   obtain⟨d',h1,h2⟩:=Option.map_eq_some_iff.1 h
   cases h2
   obtain⟨r,h3,h4⟩:=Option.bind_eq_some_iff.1 h1
   obtain⟨v,hv,b',e1,e2⟩:=A4 hH hx
   cases(List.cons.inj e2).1
   obtain⟨b,c,k1,k2,k3,k4,k5⟩:=obj (by simp) hk
   rw[k1]at e1
   cases e1
   exact WA ht (o0:=0) (by simpa using hv) (At.of_blk k3) (Dq k4) k5 h3 h4
  ·cases h
 ·rename_i k o mm nn i fl m hx ht
  split at h
  ·rename_i ty' d0 hk
   obtain⟨v,hv,hi,b',e1,e2⟩:=A4 hH hx
   cases(List.cons.inj e2).1
   split at h
   ·rename_i kk q f hg
    have hkr:k∈rd:=by
     cases fl with
     |true=>
      cases hc:Nat.beq m 1&&Nat.ble 1 mm with
      |false=>rw[hc]at h;cases h
      |true=>rw[hc]at h;cases h;simp
     |false=>
      cases hc:Nat.ble m mm with
      |false=>rw[hc]at h;cases h
      |true=>rw[hc]at h;cases h;simp
    obtain⟨b,c,k1,k2,k3,k4,k5⟩:=obj hkr hk
    rw[k1]at e1
    cases e1
    obtain⟨k6,k7⟩:=GR (Dq k4) hg
    have k6:=CP.1 k6
    have hq:q=nn*mm:=by
     have h5:=Fv k6
     rw[List.length_take,List.length_drop]at h5
     have :GA (.ar kk q f)=q:=rfl
     rw[this]at h5
     have h6:0<nn:=by omega
     by_cases hz:nn*mm=0
     ·rw[hz]at h5;simp at h5;omega
     ·rw[if_neg hz]at k7
      omega
    have k8:(c.toList.drop o).take (nn*mm)=cells kk q f:=k6
    have atc:∀j,j<mm→w.cell? ⟨b',o+i*mm+j,none⟩=some (.int kk (f (i*mm+j))):=by
     intro j hj
     have h6:i*mm+j<nn*mm:=by
      have :(i+1)*mm≤nn*mm:=Nat.mul_le_mul_right _ hi
      rw[Nat.add_mul,Nat.one_mul]at this
      omega
     have h7:(cells kk q f)[i*mm+j]? =some (.int kk (f (i*mm+j))):=Bz (by rw[hq];exact h6)
     rw[←k8,List.getElem?_take,if_pos h6,List.getElem?_drop]at h7
     rw[Ji k3,←Array.getElem?_toList,Nat.add_assoc]
     exact h7
    obtain⟨td,t1,t2,t3⟩:=EP ht
    cases fl with
    |true=>
     cases hc:Nat.beq m 1&&Nat.ble 1 mm with
     |false=>rw[hc]at h;cases h
     |true=>
      rw[hc]at h
      rw[Bool.and_eq_true]at hc
      cases h
      have hm:=Nat.le_of_ble_eq_true hc.2
      refine⟨_,rfl,bI t1 t2 hv ?_⟩
      have :=atc 0 (by omega)
      rw[No,Nat.zero_add]
      simpa using this
    |false=>
     cases hc:Nat.ble m mm with
     |false=>rw[hc]at h;cases h
     |true=>
      rw[hc]at h
      cases h
      have hm:=Nat.le_of_ble_eq_true hc
      refine⟨_,rfl,OA t1 t2 t3 hv (vs:=cells kk m fun j=>f (wC 0 i mm+j)) (fun j u hu=> ?_) A7⟩
      have hj:j<m:=by
       rcases Nat.lt_or_ge j m with h'|h'
       ·exact h'
       ·rw[List.getElem?_eq_none (by rw[A7];exact h')]at hu;cases hu
      rw[Bz hj]at hu
      cases hu
      rw[No,Nat.zero_add]
      exact atc j (by omega)
   ·obtain⟨d',h1,h2⟩:=Option.map_eq_some_iff.1 h
    cases h2
    obtain⟨r,h3,h4⟩:=Option.bind_eq_some_iff.1 h1
    obtain⟨b,c,k1,k2,k3,k4,k5⟩:=obj (by simp) hk
    rw[k1]at e1
    cases e1
    exact WA ht (o0:=0) (by simpa using hv) (At.of_blk k3) (Dq k4) k5 h3 h4
  ·cases h
 ·rename_i k mm nn i o fl m hx ht
  split at h
  ·rename_i ty' e xs hk
   cases hm:Nat.beq mm e.length with
   |false=>rw[hm]at h;cases h
   |true=>
    rw[hm]at h
    have :=Nat.eq_of_beq_eq_true hm
    subst this
    obtain⟨d',h1,h2⟩:=Option.map_eq_some_iff.1 h
    cases h2
    obtain⟨r,h3,h4⟩:=Option.bind_eq_some_iff.1 h1
    obtain⟨v,hv,hi,b',cc,e1,e2⟩:=A4 hH hx
    cases(List.cons.inj e2).1
    obtain⟨v,ls,k1,k2,k3,k4,k5,k6⟩:=obj (by simp) hk
    rw[k1]at e1
    cases e1
    rcases k3.at with⟨h5,_⟩|⟨b,cap,h5,h6,h7⟩
    ·cases h5
    ·cases h5
     obtain⟨l,h8,h9⟩:=k5.get (getD_some (z:=rz e) hi)
     obtain⟨h10,h11⟩:=Ow k5.row h8
     have ha:=At.sub h7 h10
     rw[h11,Nat.zero_add]at ha
     exact WA ht hv ha (Lx h9) (TV h9) h3 h4
  ·cases h
 ·rename_i d0 o fl m hx ht
  obtain⟨d',h1,h2⟩:=Option.map_eq_some_iff.1 h
  cases h2
  obtain⟨r,h3,h4⟩:=Option.bind_eq_some_iff.1 h1
  obtain⟨v,hv,b,l',_,_,e2,e3,e4,e5⟩:=A4 hH hx
  cases(List.cons.inj e2).1
  exact WA ht (o0:=0) (by simpa using hv) e3 (Dq e5) e4 h3 h4
 ·rename_i e x0 o fl m hx ht
  obtain⟨d',h1,h2⟩:=Option.map_eq_some_iff.1 h
  cases h2
  obtain⟨r,h3,h4⟩:=Option.bind_eq_some_iff.1 h1
  obtain⟨v,hv,b,o0,l',_,_,e2,e3,e4⟩:=A4 hH hx
  cases(List.cons.inj e2).1
  exact WA ht hv e3 (Lx e4) (TV e4) h3 h4
 ·cases h
end
end Go.Sx
namespace Go.Sx
open Go.Mi Go.RowKit
variable [Dfr]
def iK (cs:List D) (mm n i:Nat):List D→Nat→Option (List D)
 |[],_=>none
 |d::ds,o=>bif Nat.ble (GA d) o then(iK cs mm n i ds (o-GA d)).map (d:: ·)else match d with
  | .ar k N f=>bif Nat.ble (o+n*mm) N then(match cs with
   |[.v (.int k' x)]=>bif Vg k k'&&Nat.ble 1 mm then some (.ar k N (upd f (wC o i mm) x)::ds)else none
   |[.ar k' m h]=>bif Vg k k'&&Nat.ble m mm then some (.ar k N (Dg f (wC o i mm) m h)::ds)else none
   |_=>none)else none
  |_=>none
def Vb (cs:List D):Nat:=cs.foldr (fun d a=>GA d+a) 0
def Ack (P:Program) (L:DL) (H:Hp) (t:TypeId) (x y:Operand):Option (Nat×O):=match Eb L x,(Eb L y).bind tZ,NX P t with
 |some (.cp k o),some cs,some (_,m)=>bif Nat.beq (Vb cs) m then(match AS H k with
  |some (.ob ty d)=>(V6 cs m (GV d) o).map fun r=>(k,.ob ty (chain r))
  |_=>none)else none
 |some (.ep k o mm n i),some cs,some (_,m)=>bif Nat.beq (Vb cs) m then(match AS H k with
  |some (.ob ty d)=>(match iK cs mm n i (GV d) o with
   |some r=>some (k,.ob ty (chain r))
   |none=>(V6 cs m (GV d) (o+i*mm)).map fun r=>(k,.ob ty (chain r)))
  |_=>none)else none
 |some (.xp k mm _ i o),some cs,some (_,m)=>bif Nat.beq (Vb cs) m then(match AS H k with
  |some (.sl ty e xs)=>bif Nat.beq mm e.length then((V6 cs m (kN e (xs.getD i (rz e))) o).bind (toR e)).map fun r=>(k,.sl ty e (xs.set i r))else none
  |_=>none)else none
 |_,_,_=>none
section
variable {P:Program} {n:Nat} {L:DL} {ds:Option Nat} {ty:TypeId} {pos:String} {af:Array Edge} {gu:Option (Nat×Bool)} {g:G} {w:World}
theorem Jr {X:Nat→Prop} {N:Nat→Option Value}:∀{cs:List D} {l:List Value},CI X N w cs l→l.length=Vb cs
 |[],l,h=>by rw[show l=[]from h];rfl
 |d::cs,l,⟨l1,l2,e,h1,h2⟩=>by subst e;rw[List.length_append,Fv h1,Jr h2];rfl
theorem Zs {X:Nat→Prop} {N:Nat→Option Value} {cs:List D} {le:List Value} {mm nn i:Nat} (he:CI X N w cs le) (hi:i<nn):∀{ss:List D} {o:Nat} {r:List D} {l:List Value},CI X N w ss l→iK cs mm nn i ss o=some r→CI X N w r (l.take (o+i*mm)++le++l.drop (o+i*mm+le.length))∧o+i*mm+le.length≤l.length
 |[],o,r,l,_,hp=>by simp [iK]at hp
 |d::ss,o,r,l,⟨l1,l2,e',h1,h2⟩,hp=>by
  subst e'
  have hl:=Fv h1
  simp only[iK]at hp
  cases hb:Nat.ble (GA d) o with
  |true=>
   rw[hb]at hp
   have hle:=Nat.le_of_ble_eq_true hb
   obtain⟨r',hr,rfl⟩:=Option.map_eq_some_iff.1 hp
   obtain⟨k1,k2⟩:=Zs he hi h2 hr
   refine⟨⟨l1,_,?_,h1,k1⟩,by simp;omega⟩
   rw[List.take_append,List.take_of_length_le (by omega),List.drop_append,List.drop_eq_nil_of_le (by omega),hl]
   simp only[List.nil_append,List.append_assoc]
   rw[show o+i*mm+le.length-GA d=o-GA d+i*mm+le.length by omega,show o+i*mm-GA d=o-GA d+i*mm by omega]
  |false=>
   rw[hb]at hp
   simp only[cond_false]at hp
   cases d with
   |ar k N' f=>
    simp only at hp
    have h1':l1=cells k N' f:=h1
    have hn:l1.length=N':=by rw[h1',A7]
    cases hc:Nat.ble (o+nn*mm) N' with
    |false=>rw[hc]at hp;cases hp
    |true=>
     rw[hc]at hp
     have hle:=Nat.le_of_ble_eq_true hc
     simp only[cond_true]at hp
     have him:(i+1)*mm≤nn*mm:=Nat.mul_le_mul_right _ hi
     rw[Nat.add_mul,Nat.one_mul]at him
     have fin:∀{d':D},Ym k N' f (o+i*mm) cs=some d'→CI X N w (d'::ss) ((l1++l2).take (o+i*mm)++le++(l1++l2).drop (o+i*mm+le.length))∧o+i*mm+le.length≤(l1++l2).length:=fun {d'} h=>by
      obtain⟨k1,k2⟩:=aS he h
      refine⟨⟨_,l2,?_,k1,h2⟩,by simp;omega⟩
      rw[←h1',List.take_append_of_le_length (by omega),List.drop_append_of_le_length (by omega)]
      simp
     split at hp
     ·rename_i k' x
      cases hk:Vg k k'&&Nat.ble 1 mm with
      |false=>rw[hk]at hp;cases hp
      |true=>
       rw[hk]at hp
       rw[Bool.and_eq_true]at hk
       have hm1:=Nat.le_of_ble_eq_true hk.2
       simp only[cond_true,Option.some.injEq]at hp
       subst hp
       refine fin ?_
       have hlt:Nat.blt (o+i*mm) N'=true:=by rw[Nat.blt_eq];omega
       simp only[Ym,hk.1,hlt,No,Bool.and_self,cond_true]
     ·rename_i k' m h
      cases hk:Vg k k'&&Nat.ble m mm with
      |false=>rw[hk]at hp;cases hp
      |true=>
       rw[hk]at hp
       rw[Bool.and_eq_true]at hk
       have hm1:=Nat.le_of_ble_eq_true hk.2
       simp only[cond_true,Option.some.injEq]at hp
       subst hp
       refine fin ?_
       have hlt:Nat.ble (o+i*mm+m) N'=true:=Nat.ble_eq_true_of_le (by omega)
       simp only[Ym,hk.1,hlt,No,Bool.and_self,cond_true]
     ·cases hp
   |_=>simp at hp
theorem Post.upd {H:Nat→Option O} {k ty b:Nat} {o o':O} {c':Array Value} {v:Value} {w':World} (hS:HS (BF [k] H) g w) (hk:H k=some o) (hb:g.F k=[b]) (hu:Upd w w' b c' ty) (ho:∀w',Go (fun x=>x∈g.F k) g w g w'→w'.heap[b]? =some (.cells c' ty (0,0))→OS g w' k o'):Post H ⟨[],[(k,some o')],[],.top⟩ g w v g w':=by
 have hk':BF [k] H k=some o:=by simp [BF,BM,hk]
 have hX:g.X b:=hS.own k o hk' b (by rw[hb];simp)
 have hch:Chp (fun x=>x∈g.F k) w w':=⟨hu.os,hu.tape,hu.output,by rw[hu.size];exact Nat.le_refl _,fun x hx hn=>hu.other x fun e=>hn (by rw[hb,e];simp)⟩
 have hgo:Go (fun x=>x∈g.F k) g w g w':=⟨hch,fun x hx=>hS.own k o hk' x hx,fun x h=> .inl h,fun x h _=>h,fun _ _ h=>h,fun _ _ _=>rfl⟩
 have e1:∀j q,AS (Eff.outs ⟨[],[(k,some o')],[],.top⟩) j=some q→j=k∧q=o':=fun j q h=>by
  simp only[Eff.outs,List.map_nil,List.append_nil,AS,Es]at h
  by_cases e:k=j
  ·subst e;simp at h;exact⟨rfl,h.symm⟩
  ·rw[Bb e]at h;cases h
 have hft:∀x,x∈g.F k→Eff.foot ⟨[],[(k,some o')],[],.top⟩ H g x:=fun x hx=>⟨k,by simp [An],o,hk,hx⟩
 have hft2:∀x,Eff.foot ⟨[],[(k,some o')],[],.top⟩ H g x→x∈g.F k:=fun x ⟨j,h1,q,h2,h3⟩=>by
  simp only[An,List.map_cons,List.map_nil,List.mem_singleton]at h1
  subst h1;exact h3
 refine⟨hgo.mono hft fun x hx=>hgo.s x (hft2 x hx),⟨v,rfl⟩,⟨fun x hx=>by rw[hu.size];exact hS.wf x hx,fun j q h=> ?_,fun j q h x hx=> ?_,fun j q j' q' h h' hne=> ?_⟩,fun j q h x hx=> ?_,fun j u h=> .inl h⟩
 ·obtain⟨rfl,rfl⟩:=e1 j q h;exact ho w' hgo hu.blk
 ·obtain⟨rfl,rfl⟩:=e1 j q h;exact hS.own j o hk' x hx
 ·exact absurd ((e1 j q h).1.trans (e1 j' q' h').1.symm) hne
 ·obtain⟨rfl,rfl⟩:=e1 j q h;exact .inl (hft x hx)
theorem Cb (c:Array Value) (o:Nat) (vs:List Value):(put c o vs).toList=c.toList.take o++vs++c.toList.drop (o+vs.length):=by simp [put]
theorem wU {H:Hp} {t:TypeId} {x y:Operand} {k:Nat} {o':O} (h:Ack P L H t x y=some (k,o')):EOk P n ⟨ds,.store t x y,ty,pos,af,gu⟩ L (AS H) ⟨[],[(k,some o')],[],.top⟩:=by
 intro ξ g w hS hH _
 have hS:HS (BF [k] (AS H)) g w:=hS
 have obj:∀{o:O},AS H k=some o→OS g w k o:=fun {o} ho=>hS.os k o (by simp [BF,BM,ho])
 unfold Ack at h
 split at h
 ·rename_i k' o cs fl m hx hy ht
  obtain⟨dy,hy1,hy2⟩:=Option.bind_eq_some_iff.1 hy
  obtain⟨td,t1,t2,t3⟩:=EP ht
  obtain⟨u,hu,hus⟩:=A4 hH hy1
  obtain⟨c1,c2⟩:=O9 hus hy2
  cases hm:Nat.beq (Vb cs) m with
  |false=>rw[hm]at h;cases h
  |true=>
   rw[hm]at h
   have hm':=Nat.eq_of_beq_eq_true hm
   simp only[cond_true]at h
   split at h
   ·rename_i ty' d hk
    obtain⟨r,h1,h2⟩:=Option.map_eq_some_iff.1 h
    cases h2
    obtain⟨v,hv,b',e1,e2⟩:=A4 hH hx
    cases(List.cons.inj e2).1
    obtain⟨b,c,k1,k2,k3,k4,k5⟩:=obj hk
    rw[k1]at e1
    cases e1
    have hlen:=Jr c1
    have hsz:u.cells.size=m:=by rw[←Array.length_toList,hlen,hm']
    rw[←hm',←hlen]at h1
    obtain⟨p1,p2⟩:=LO c1 (Dq k4) h1
    refine(Nk t3 hv hu hsz c2 k3 (by simpa[←hsz]using p2)).mono fun v' w' hw=>⟨g,Post.upd hS hk k2 hw fun w' hgo hb=> ?_⟩
    refine⟨b',_,k1,k2,hb,?_,?_⟩
    ·rw[Cb]
     exact FM hgo.goes _ _ _ (EC.2 p1)
    ·intro q hq
     rw[Cb]at hq
     rcases List.mem_append.1 hq with hq|hq
     ·rcases List.mem_append.1 hq with hq|hq
      ·exact k5 q (List.mem_of_mem_take hq)
      ·exact c2 q hq
     ·exact k5 q (List.mem_of_mem_drop hq)
   ·cases h
 ·rename_i k' o mm nn i cs fl m hx hy ht
  obtain⟨dy,hy1,hy2⟩:=Option.bind_eq_some_iff.1 hy
  obtain⟨td,t1,t2,t3⟩:=EP ht
  obtain⟨u,hu,hus⟩:=A4 hH hy1
  obtain⟨c1,c2⟩:=O9 hus hy2
  cases hm:Nat.beq (Vb cs) m with
  |false=>rw[hm]at h;cases h
  |true=>
   rw[hm]at h
   have hm':=Nat.eq_of_beq_eq_true hm
   simp only[cond_true]at h
   split at h
   ·rename_i ty' d hk
    have hlen:=Jr c1
    have hsz:u.cells.size=m:=by rw[←Array.length_toList,hlen,hm']
    have key:∃r,o'= .ob ty' (chain r)∧k=k'∧(∀l,i<nn→CI g.X g.N w (GV d) l→CI g.X g.N w r (l.take (o+i*mm)++u.cells.toList++l.drop (o+i*mm+u.cells.toList.length))∧o+i*mm+u.cells.toList.length≤l.length):=by
     split at h
     ·rename_i r hr
      cases h
      exact⟨r,rfl,rfl,fun l hi hl=>Zs c1 hi hl hr⟩
     ·obtain⟨r,h1,h2⟩:=Option.map_eq_some_iff.1 h
      cases h2
      rw[←hm',←hlen]at h1
      exact⟨r,rfl,rfl,fun l hi hl=>LO c1 hl h1⟩
    obtain⟨r,rfl,rfl,hr⟩:=key
    obtain⟨v,hv,hi,b',e1,e2⟩:=A4 hH hx
    cases(List.cons.inj e2).1
    obtain⟨b,c,k1,k2,k3,k4,k5⟩:=obj hk
    rw[k1]at e1
    cases e1
    obtain⟨p1,p2⟩:=hr _ hi (Dq k4)
    refine(Nk t3 hv hu hsz c2 k3 (by simpa[←hsz]using p2)).mono fun v' w' hw=>⟨g,Post.upd hS hk k2 hw fun w' hgo hb=> ?_⟩
    refine⟨b',_,k1,k2,hb,?_,?_⟩
    ·rw[Cb]
     exact FM hgo.goes _ _ _ (EC.2 p1)
    ·intro q hq
     rw[Cb]at hq
     rcases List.mem_append.1 hq with hq|hq
     ·rcases List.mem_append.1 hq with hq|hq
      ·exact k5 q (List.mem_of_mem_take hq)
      ·exact c2 q hq
     ·exact k5 q (List.mem_of_mem_drop hq)
   ·cases h
 ·rename_i k' mm nn i o cs fl m hx hy ht
  obtain⟨dy,hy1,hy2⟩:=Option.bind_eq_some_iff.1 hy
  obtain⟨td,t1,t2,t3⟩:=EP ht
  obtain⟨u,hu,hus⟩:=A4 hH hy1
  obtain⟨c1,c2⟩:=O9 hus hy2
  cases hm:Nat.beq (Vb cs) m with
  |false=>rw[hm]at h;cases h
  |true=>
   rw[hm]at h
   have hm':=Nat.eq_of_beq_eq_true hm
   simp only[cond_true]at h
   split at h
   ·rename_i ty' e xs hk
    cases hq:Nat.beq mm e.length with
    |false=>rw[hq]at h;cases h
    |true=>
     rw[hq]at h
     have :=Nat.eq_of_beq_eq_true hq
     subst this
     obtain⟨r,h1,h2⟩:=Option.map_eq_some_iff.1 h
     cases h2
     obtain⟨ps,h3,h4⟩:=Option.bind_eq_some_iff.1 h1
     have hlen:=Jr c1
     have hsz:u.cells.size=m:=by rw[←Array.length_toList,hlen,hm']
     rw[←hm',←hlen]at h3
     obtain⟨v,hv,hi,b',cc,e1,e2⟩:=A4 hH hx
     cases(List.cons.inj e2).1
     obtain⟨v,ls,k1,k2,k3,k4,k5,k6⟩:=obj hk
     rw[k1]at e1
     cases e1
     rcases k3.2 with⟨h5,_⟩|⟨b,cap,cur,h5,_,h6,h7,h8,h9,h10⟩
     ·cases h5
     ·cases h5
      obtain⟨l,h11,h12⟩:=k5.get (getD_some (z:=rz e) hi)
      obtain⟨h13,h14⟩:=Ow k5.row h11
      have hll:=k5.row l (List.mem_of_getElem? h11)
      obtain⟨p1,p2⟩:=LO c1 (Lx h12) h3
      have p3:=XO p1 h4
      have hcs:cur.toList.length=cur.size:=Array.length_toList
      have hus':u.cells.toList.length=u.cells.size:=Array.length_toList
      have hcl:xs.length*e.length≤cur.toList.length:=by rw[hcs,h9];exact Nat.mul_le_mul_right _ h7
      have hie:(i+1)*e.length≤xs.length*e.length:=Nat.mul_le_mul_right _ hi
      rw[Nat.add_mul,Nat.one_mul]at hie
      have hcc:i*e.length+o+m≤cur.size:=by omega
      refine(Nk t3 hv hu hsz c2 h6 hcc).mono fun v' w' hw=>⟨g,Post.upd hS hk (b:=b') (by rw[k2];rfl) hw fun w' hgo hb=> ?_⟩
      have hnew:(ls.set i (l.take o++u.cells.toList++l.drop (o+u.cells.toList.length))).flatten=(put cur (i*e.length+o) u.cells.toList).toList.take (xs.length*e.length):=by
       rw[Cb]
       have hcur:cur.toList=ls.flatten++cur.toList.drop (xs.length*e.length):=by rw[←h10,List.take_append_drop]
       have hil:i<ls.length:=by rw[←k5.len];exact hi
       have hset:(ls.set i (l.take o++u.cells.toList++l.drop (o+u.cells.toList.length)))=ls.take i++[l.take o++u.cells.toList++l.drop (o+u.cells.toList.length)]++ls.drop (i+1):=by
        rw[List.set_eq_take_append_cons_drop,if_pos hil];simp
       rw[hset]
       simp only[List.flatten_append,List.flatten_cons,List.flatten_nil,List.append_nil]
       rw[hcur,h13]
       generalize hA:(ls.take i).flatten=A at h14⊢
       generalize hB:(ls.drop (i+1)).flatten=B
       have hlenB:A.length+l.length+B.length=xs.length*e.length:=by
        have :=congrArg List.length h13
        rw[←h10,List.length_take,Nat.min_eq_left hcl]at this
        simp only[List.length_append,hA,hB]at this
        omega
       have q1:(A++l++B++cur.toList.drop (xs.length*e.length)).take (i*e.length+o)=A++l.take o:=by
        rw[List.append_assoc,List.append_assoc,List.take_append,List.take_of_length_le (by omega),h14,Nat.add_sub_cancel_left,List.take_append_of_le_length (by omega)]
       have q2:(A++l++B++cur.toList.drop (xs.length*e.length)).drop (i*e.length+o+u.cells.toList.length)=l.drop (o+u.cells.toList.length)++(B++cur.toList.drop (xs.length*e.length)):=by
        rw[List.append_assoc,List.append_assoc,List.drop_append,List.drop_eq_nil_of_le (by omega),h14,List.nil_append,show i*e.length+o+u.cells.toList.length-i*e.length=o+u.cells.toList.length by omega,List.drop_append_of_le_length (by omega)]
       rw[q1,q2]
       rw[show A++l.take o++u.cells.toList++(l.drop (o+u.cells.toList.length)++(B++cur.toList.drop (xs.length*e.length)))=(A++(l.take o++u.cells.toList++l.drop (o+u.cells.toList.length))++B)++cur.toList.drop (xs.length*e.length) by simp]
       have hln:(A++(l.take o++u.cells.toList++l.drop (o+u.cells.toList.length))++B).length=xs.length*e.length:=by
        simp only[List.length_append,List.length_take,List.length_drop]
        omega
       rw[List.take_append_of_le_length (by omega)]
       exact(List.take_of_length_le (by omega)).symm
      have hFa:Fa2 (rS g.X g.N w e) (xs.set i r) (ls.set i (l.take o++u.cells.toList++l.drop (o+u.cells.toList.length))):=k5.set i p3
      refine⟨_,_,k1,k2,⟨?_,.inr ⟨b',cc,_,by rw[List.length_set],Nat.zero_le _,hb,by rw[List.length_set];exact h7,h8,?_,?_⟩⟩,by rw[List.length_set];exact k4,hFa.mono (ET hgo.goes e),ES hFa⟩
      ·rw[hnew,List.length_take,List.length_set,Cb]
       simp
       omega
      ·rw[PY (by rw[hus',hsz];exact hcc)];exact h9
      ·rw[List.length_set];exact hnew.symm
   ·cases h
 ·cases h
end
end Go.Sx
namespace Go.Sx
open Go.Mi Go.RowKit
variable [Dfr]
def Aau:D→Option (List Value)
 | .v x=>bif x.oneCell' then some [x]else none
 | .ar k n f=>some (cells k n f)
 |_=>none
def O2:List D→Option (List Value)
 |[]=>some []
 |d::ds=>match Aau d,O2 ds with
  |some a,some b=>some (a++b)
  |_,_=>none
abbrev Zt:=List (TypeId×List D)
def lkZ:Zt→TypeId→Option (List D)
 |[],_=>none
 |(s,v)::r,t=>bif Nat.beq s t then some v else lkZ r t
def b9 (P:Program):Zt→Prop
 |[]=>True
 |(t,ds)::r=>(((P.info? t).bind (·.zero)).map (fun z=>z.cells.toList)=O2 ds∧(O2 ds).isSome=true)∧b9 P r
def SK (place:Nat→Option (Nat×Nat)):List D→List (Nat×D)→Option (List D)
 |ss,[]=>some ss
 |ss,(i,d)::r=>match place i,tZ d with
  |some (off,sz),some cs=>bif Nat.beq (Vb cs) sz then(V6 cs sz ss off).bind fun q=>SK place q r else none
  |_,_=>none
def Ni (L:DL):List (Nat×Operand)→Option (List (Nat×D))
 |[]=>some []
 |(i,x)::r=>match Eb L x,Ni L r with
  |some d,some ds=>some ((i,d)::ds)
  |_,_=>none
def l8 (P:Program) (t:TypeId):Option (Nat→Option (Nat×Nat)):=match P.underlying t with
 |some (.array _ e)=>(P.info? e).map fun i=>fun j=>some (j*i.size,i.size)
 |some (.struct fs)=>(fs.toList.mapM fun f=>(P.info? f.type).map fun i=>(f.offset,i.size)).map fun pl=>fun j=>pl.toArray[j]?
 |_=>none
def VO (e:List Fk) (m:Nat):Nat→List D→Option (List (RT e))
 |0,ss=>bif ss.isEmpty then some []else none
 |k+1,ss=>match(It ss 0 m).bind (toR e),Kg ss m with
  |some r,some q=>(VO e m k q).map (r:: ·)
  |_,_=>none
def Abu (k:Nat) (ss:List D):List D:=(List.replicate k ss).flatten
section
variable {P:Program} {n:Nat} {L:DL} {ds:Option Nat} {ty:TypeId} {pos:String} {af:Array Edge} {gu:Option (Nat×Bool)} {g:G} {w:World} {X:Nat→Prop} {N:Nat→Option Value}
theorem Lj:∀{ss:List D} {l:List Value},O2 ss=some l→CI X N w ss l∧∀u∈l,u.oneCell'=true
 |[],l,h=>by simp only[O2,Option.some.injEq]at h;subst h;exact⟨rfl,by simp⟩
 |d::ss,l,h=>by
  simp only[O2]at h
  split at h
  ·rename_i a b h1 h2
   cases h
   obtain⟨k1,k2⟩:=Lj h2
   have k3:B4 X N w d false a∧∀u∈a,u.oneCell'=true:=by
    unfold Aau at h1
    split at h1
    ·rename_i x
     cases hx:Value.oneCell' x with
     |false=>rw[hx]at h1;cases h1
     |true=>rw[hx]at h1;cases h1;exact⟨rfl,by simpa using hx⟩
    ·cases h1
     refine⟨rfl,fun u hu=> ?_⟩
     simp only[cells,List.mem_map]at hu
     obtain⟨_,_,rfl⟩:=hu
     rfl
    ·cases h1
   exact⟨⟨a,b,rfl,k3.1,k1⟩,fun u hu=>(List.mem_append.1 hu).elim (k3.2 u) (k2 u)⟩
  ·cases h
theorem Um:∀{Z:Zt} {t:TypeId} {ss:List D},b9 P Z→lkZ Z t=some ss→∃z,(P.info? t).bind (·.zero)=some z∧O2 ss=some z.cells.toList
 |[],t,ss,_,h=>by cases h
 |(s,v)::r,t,ss,hz,h=>by
  simp only[lkZ]at h
  by_cases e:s=t
  ·subst e
   simp at h
   subst h
   obtain⟨⟨h1,h2⟩,_⟩:=hz
   obtain⟨q,hq⟩:=Option.isSome_iff_exists.1 h2
   rw[hq]at h1
   obtain⟨z,h3,h4⟩:=Option.map_eq_some_iff.1 h1
   exact⟨z,h3,by rw[hq,←h4]⟩
  ·rw[Bb e]at h;exact Um hz.2 h
theorem WJ (off:Nat):∀(vs:List Value) (j:Nat) (c:Array Value),off+j+vs.length≤c.size→(vs.zipIdx j).foldl (fun(cs:Array Value) (p:Value×Nat)=>cs.setIfInBounds (off+p.2) p.1) c=put c (off+j) vs
 |[],j,c,_=>by simp [put]
 |v::vs,j,c,h=>by
  simp only[List.length_cons]at h
  rw[List.zipIdx_cons,List.foldl_cons,WJ off vs (j+1) _ (by simp;omega)]
  apply Array.ext'
  rw[Cb,Cb,Array.toList_setIfInBounds]
  have hlt:off+j<c.toList.length:=by simp;omega
  rw[List.set_eq_take_append_cons_drop,if_pos hlt]
  have e1:(c.toList.take (off+j)).length=off+j:=by rw[List.length_take];omega
  rw[show off+(j+1)=off+j+1 by omega]
  have e2:(c.toList.take (off+j)++v::c.toList.drop (off+j+1)).take (off+j+1)=c.toList.take (off+j)++[v]:=by
   rw[List.take_append,List.take_of_length_le (by omega),e1,show off+j+1-(off+j)=1 by omega];simp
  have e3:(c.toList.take (off+j)++v::c.toList.drop (off+j+1)).drop (off+j+1+vs.length)=c.toList.drop (off+j+(v::vs).length):=by
   rw[List.drop_append,List.drop_eq_nil_of_le (by omega),e1,show off+j+1+vs.length-(off+j)=vs.length+1 by omega,List.drop_succ_cons,List.drop_drop,List.nil_append]
   congr 1
   simp;omega
  rw[e2,e3]
  simp
theorem Qy {place : Nat → Option (Nat × Nat)} : ∀ {ps : List (Nat × D)} {vs : List (Nat × Value)} {ss ss' : List D} {c : Array Value}, Fa2 (fun (p : Nat × D) (q : Nat × Value) => p.1 = q.1 ∧ Sm g w p.2 q.2) ps vs → CI g.X g.N w ss c.toList → (∀ u ∈ c.toList, u.oneCell' = true) → SK place ss ps = some ss' →
  ∃c',Instr.fill place c vs=some c'∧CI g.X g.N w ss' c'.toList∧(∀u∈c'.toList,u.oneCell'=true)∧c'.size=c.size
 |[],[],ss,ss',c,_,h1,h2,h=>by simp only[SK,Option.some.injEq]at h;subst h;exact⟨c,rfl,h1,h2,rfl⟩
 |(i,d)::ps,(j,v)::vs,ss,ss',c,hf,h1,h2,h=>by
  obtain⟨⟨rfl,hd⟩,hf⟩:=hf
  simp only[SK]at h
  split at h
  ·rename_i off sz cs hp hc
   obtain⟨c1,c2⟩:=O9 hd hc
   have hl:=Jr c1
   cases hb:Nat.beq (Vb cs) sz with
   |false=>rw[hb]at h;cases h
   |true=>
    rw[hb]at h
    have hs:=Nat.eq_of_beq_eq_true hb
    simp only[cond_true]at h
    obtain⟨q,k1,k2⟩:=Option.bind_eq_some_iff.1 h
    rw[←hs,←hl]at k1
    obtain⟨p1,p2⟩:=LO c1 h1 k1
    have hlen:v.cells.toList.length=v.cells.size:=Array.length_toList
    have hcl:c.toList.length=c.size:=Array.length_toList
    have e1:(put c off v.cells.toList).toList=c.toList.take off++v.cells.toList++c.toList.drop (off+v.cells.toList.length):=Cb c off _
    obtain⟨c',q1,q2,q3,q4⟩:=Qy (ss:=q) (c:=put c off v.cells.toList) hf (by rw[e1];exact p1) (fun u hu=>by
     rw[e1]at hu
     rcases List.mem_append.1 hu with hu|hu
     ·rcases List.mem_append.1 hu with hu|hu
      ·exact h2 u (List.mem_of_mem_take hu)
      ·exact c2 u hu
     ·exact h2 u (List.mem_of_mem_drop hu)) k2
    refine⟨c',?_,q2,q3,by rw[q4,PY (by omega)]⟩
    have hsz:v.cells.size=sz:=by rw[←hlen,hl,hs]
    have hno:¬((decide (v.cells.size≠sz)||decide (off+v.cells.size>c.size))=true):=by simp;omega
    simp only[Instr.fill,hp]
    rw[if_neg hno]
    rw[←q1]
    congr 1
    rw[←Array.foldl_toList,Array.toList_zipIdx]
    have :=WJ off v.cells.toList 0 c (by omega)
    simpa using this
  ·cases h
theorem Nh {ξ:Nat→Value} (hH:Hold L ξ g w):∀{ps:List (Nat×Operand)} {es:List (Nat×D)},Ni L ps=some es→∃vs:List (Nat×Value),(∀a nn,Frm a nn (Lf L ξ)→ps.map (fun p=>(p.1,a.eval p.2))=vs)∧Fa2 (fun(p:Nat×D) (q:Nat×Value)=>p.1=q.1∧Sm g w p.2 q.2) es vs
 |[],es,h=>by simp only[Ni,Option.some.injEq]at h;subst h;exact⟨[],fun _ _ _=>rfl,trivial⟩
 |(i,x)::r,es,h=>by
  simp only[Ni]at h
  split at h
  ·rename_i d es' h1 h2
   cases h
   obtain⟨v,k1,k2⟩:=A4 hH h1
   obtain⟨vs,k3,k4⟩:=Nh hH h2
   exact⟨(i,v)::vs,fun a nn hF=>by rw[List.map_cons,k3 a nn hF,hF.eval k1],⟨rfl,k2⟩,k4⟩
  ·cases h
def UC (P:Program) (Z:Zt) (L:DL) (t:TypeId) (ps:List (Nat×Operand)):Option D:=match lkZ Z t,l8 P t,Ni L ps with
 |some zs,some pl,some ds=>(SK pl zs ds).map mk1
 |_,_,_=>none
theorem YD {Z:Zt} {t:TypeId} {ps:Array (Nat×Operand)} {d:D} (hZ:b9 P Z) (h:UC P Z L t ps.toList=some d):PureOk P n ⟨ds,.build t ps,ty,pos,af,gu⟩ L d []:=by
 intro _ ξ g w hH _
 unfold UC at h
 split at h
 ·rename_i zs pl es hz hp hps
  obtain⟨ss,h1,rfl⟩:=Option.map_eq_some_iff.1 h
  obtain⟨z,hz1,hz2⟩:=Um hZ hz
  obtain⟨v1,v2⟩:=Lj (X:=g.X) (N:=g.N) (w:=w) hz2
  obtain⟨vs,k1,k2⟩:=Nh hH hps
  obtain⟨c',q1,q2,q3,q4⟩:=Qy k2 v1 v2 h1
  refine⟨.agg c',?_,Det.of_run fun a hF=> ?_⟩
  ·have :=Uh q2 q3
   simpa using this
  ·have e1:(ps.map fun p=>(p.1,a.eval p.2)).toList=vs:=by rw[Array.toList_map];exact k1 a n hF
   obtain⟨it,hi,hzr⟩:=Option.bind_eq_some_iff.1 hz1
   have hb:P.built t (ps.map fun p=>(p.1,a.eval p.2)).toList=some c':=by
    rw[e1]
    unfold l8 at hp
    unfold Program.built
    split at hp
    ·rename_i len e hu
     obtain⟨ie,h2,rfl⟩:=Option.map_eq_some_iff.1 hp
     simp only[hi,hu,hzr,h2]
     exact q1
    ·rename_i fs hu
     obtain⟨places,h2,rfl⟩:=Option.map_eq_some_iff.1 hp
     simp only[hi,hu,hzr,h2]
     exact q1
    ·cases hp
   simp only[execOp,Sem.run_bind,run_build w t _ c' hb,Result.andThen_ok]
   rfl
 ·cases h
end
end Go.Sx
namespace Go.Sx
open Go.Mi Go.RowKit
variable [Dfr]
section
variable {P:Program} {n:Nat} {L:DL} {ds:Option Nat} {ty:TypeId} {pos:String} {af:Array Edge} {gu:Option (Nat×Bool)} {g:G} {w w':World} {H:Nat→Option O}
def G.more (g:G) (k:Nat) (v:Value) (F:List Nat) (X:Nat→Prop):G:=⟨fun j=>bif Nat.beq k j then some v else g.N j,fun j=>bif Nat.beq k j then F else g.F j,X⟩
theorem G.more_N {g:G} {k:Nat} {v:Value} {F:List Nat} {X:Nat→Prop}:(g.more k v F X).N k=some v:=by simp [G.more]
theorem G.more_F {g:G} {k:Nat} {v:Value} {F:List Nat} {X:Nat→Prop}:(g.more k v F X).F k=F:=by simp [G.more]
theorem Go.more {S:Nat→Prop} {k:Nat} {v:Value} {F:List Nat} {X:Nat→Prop} (hk:g.N k=none) (hch:Chp S w w') (hs:∀x,S x→g.X x) (hx:∀x,X x→g.X x∨w.heap.size≤x) (hx2:∀x,g.X x→¬S x→X x):Go S g w (g.more k v F X) w':=by
 refine⟨hch,hs,hx,hx2,fun j u hj=> ?_,fun j u hj=> ?_⟩
 ·have :¬k=j:=fun e=>by subst e;rw[hk]at hj;cases hj
  simp only[G.more,Bb this];exact hj
 ·have :¬k=j:=fun e=>by subst e;rw[hk]at hj;cases hj
  simp only[G.more,Bb this];rfl
theorem Post.quiet {rd:List Nat} {d:D} {v:Value} (hw:Wf g w) (hc:Chp (fun _=>False) w w') (h:Sm g w' d v):Post H ⟨rd,[],[],d⟩ g w v g w':=by
 have hf:∀x,¬Eff.foot ⟨rd,[],[],d⟩ H g x:=fun x ⟨k,hk,_⟩=>by simp [An]at hk
 refine⟨⟨⟨hc.os,hc.tape,hc.output,hc.size,fun b hb _=>hc.blk b hb id⟩,fun x hx=>(hf x hx).elim,fun x h=> .inl h,fun x h _=>h,fun _ _ h=>h,fun _ _ _=>rfl⟩,h,⟨fun x hx=>Nat.lt_of_lt_of_le (hw x hx) hc.size,fun k o h=>by simp [Eff.outs,AS,Es]at h,fun k o h=>by simp [Eff.outs,AS,Es]at h,fun k o k' o' h=>by simp [Eff.outs,AS,Es]at h⟩,fun k o h=>by simp [Eff.outs,AS,Es]at h,fun k v h=> .inl h⟩
theorem Post.new {rd : List Nat} {wr : Hp} {k : Nat} {o : O} {d : D} {v u : Value} {F : List Nat} (hS : HS (BF (rd ++ An wr) H) g w) (hk : g.N k = none) (hwr : ∀ p ∈ wr, p.2 = none) (hkw : k ∉ An wr) (hch : Chp (Eff.foot ⟨rd, wr, [(k, o)], d⟩ H g) w w')
  (hF:∀b∈F,(Eff.foot ⟨rd,wr,[(k,o)],d⟩ H g b∨w.heap.size≤b)∧b<w'.heap.size)
  (ho:∀g',Go (Eff.foot ⟨rd,wr,[(k,o)],d⟩ H g) g w g' w'→g'.N k=some u→g'.F k=F→OS g' w' k o∧Sm g' w' d v):∃g',Post H ⟨rd,wr,[(k,o)],d⟩ g w v g' w':=by
 have hfx:∀x,Eff.foot ⟨rd,wr,[(k,o)],d⟩ H g x→g.X x:=fun x ⟨j,h1,q,h2,h3⟩=>hS.own j q (by
  have :BM j (rd++An wr)=true:=AN.2 (List.mem_append_right _ h1)
  simp only[BF,this];exact h2) x h3
 have hg:=Go.more (v:=u) (F:=F) (X:=fun x=>(g.X x∧¬Eff.foot ⟨rd,wr,[(k,o)],d⟩ H g x)∨x∈F) hk hch hfx (fun x hx=>by
  rcases hx with hx|hx
  ·exact .inl hx.1
  ·exact(hF x hx).1.imp (hfx x) id) (fun x hx hn=> .inl ⟨hx,hn⟩)
 obtain⟨h1,h2⟩:=ho _ hg G.more_N G.more_F
 have e1:∀j q,AS (Eff.outs ⟨rd,wr,[(k,o)],d⟩) j=some q→j=k∧q=o:=fun j q h=>by
  have h:=BD.1 h
  simp only[Eff.outs,List.map_cons,List.map_nil]at h
  rw[JD]at h
  cases hw:Es wr j with
  |some q'=>
   rw[hw]at h
   cases h
   have key:∀(wr:Hp),(∀p∈wr,p.2=none)→Es wr j≠some (some q):=by
    intro wr
    induction wr with
    |nil=>intro _ h;cases h
    |cons p wr ih=>
     intro hp h
     obtain⟨s,p2⟩:=p
     simp only[Es]at h
     by_cases e:s=j
     ·subst e;simp at h;have :=hp (s,p2) (List.mem_cons_self ..);simp at this;rw[this]at h;cases h
     ·rw[Bb e]at h;exact ih (fun p hp'=>hp p (List.mem_cons_of_mem _ hp')) h
   exact absurd hw (key wr hwr)
  |none=>
   rw[hw]at h
   simp only[Es]at h
   by_cases e:k=j
   ·subst e;simp at h;exact⟨rfl,h.symm⟩
   ·rw[Bb e]at h;cases h
 refine⟨_,hg,h2,⟨fun x hx=> ?_,fun j q h=> ?_,fun j q h x hx=> ?_,fun j q j' q' h h' hne=> ?_⟩,fun j q h x hx=> ?_,fun j u' h=> ?_⟩
 ·rcases hx with hx|hx
  ·exact Nat.lt_of_lt_of_le (hS.wf x hx.1) hch.size
  ·exact(hF x hx).2
 ·obtain⟨rfl,rfl⟩:=e1 j q h;exact h1
 ·obtain⟨rfl,rfl⟩:=e1 j q h;rw[G.more_F]at hx;exact .inr hx
 ·exact absurd ((e1 j q h).1.trans (e1 j' q' h').1.symm) hne
 ·obtain⟨rfl,rfl⟩:=e1 j q h;rw[G.more_F]at hx;exact(hF x hx).1
 ·by_cases e:k=j
  ·subst e;exact .inr (by simp [An])
  ·simp only[G.more,Bb e]at h;exact .inl h
end
end Go.Sx
