/- Texts that belong together: A1, A2, A3, A4, A5, A6, A7, A8. General lemmas and walks; no conditions. -/
import Derived.Tactics
import Derived.Orders
import Derived.Below
import Derived.Laws.Cells
import Derived.Laws.StructEq
import Derived.Laws.BytesString
import Derived.ChangeKeysEq
set_option linter.unusedSimpArgs false
set_option linter.unusedVariables false
set_option linter.unnecessarySimpa false
namespace Go
theorem zo:type_of% @trivial:=trivial
theorem zp:type_of% @List.getElem?_eq_getElem:=List.getElem?_eq_getElem
theorem zq:type_of% @Option.map_eq_some_iff:=Option.map_eq_some_iff
theorem zr:type_of% @List.mem_append:=List.mem_append
theorem zt:type_of% @List.mem_singleton:=List.mem_singleton
theorem zu:type_of% @congrArg:=congrArg
theorem zw:type_of% @List.mem_append_left:=List.mem_append_left
theorem zx:type_of% @List.mem_cons:=List.mem_cons
theorem zy:type_of% @Nat.le_trans:=Nat.le_trans
theorem zz:type_of% @List.getElem?_eq_none:=List.getElem?_eq_none
theorem zA:type_of% @List.mem_append_right:=List.mem_append_right
theorem zB:type_of% @of_decide_eq_true:=of_decide_eq_true
theorem zC:type_of% @List.mem_of_getElem?:=List.mem_of_getElem?
theorem zD:type_of% @Bool.and_eq_true:=Bool.and_eq_true
theorem zE:type_of% @Nat.lt_of_lt_of_le:=Nat.lt_of_lt_of_le
theorem zF:type_of% @Nat.lt_or_ge:=Nat.lt_or_ge
theorem zG:type_of% @List.getD_eq_getElem?_getD:=List.getD_eq_getElem?_getD
theorem zH:type_of% @Nat.le_refl:=Nat.le_refl
theorem zI:type_of% @List.not_mem_nil:=List.not_mem_nil
theorem zJ:type_of% @Array.getElem?_setIfInBounds_ne:=Array.getElem?_setIfInBounds_ne
theorem zK:type_of% @if_neg:=if_neg
theorem zL:type_of% @List.getElem?_append_left:=List.getElem?_append_left
theorem zM:type_of% @List.getElem?_append_right:=List.getElem?_append_right
theorem zN:type_of% @List.mem_cons_of_mem:=List.mem_cons_of_mem
theorem zO:type_of% @Array.toList_setIfInBounds:=Array.toList_setIfInBounds
theorem zP:type_of% @List.length_append:=List.length_append
theorem zQ:type_of% @List.getElem?_toArray:=List.getElem?_toArray
theorem zR:type_of% @List.eq_nil_of_length_eq_zero:=List.eq_nil_of_length_eq_zero
theorem zS:type_of% @List.mem_cons_self:=List.mem_cons_self
theorem zT:type_of% @Option.getD_some:=Option.getD_some
theorem zU:type_of% @decide_eq_true_eq:=decide_eq_true_eq
theorem zV:type_of% @Nat.zero_le:=Nat.zero_le
theorem zW:type_of% @Option.map_some:=Option.map_some
theorem zX:type_of% @if_pos:=if_pos
theorem zY:type_of% @Array.getElem?_eq_none:=Array.getElem?_eq_none
theorem zZ:type_of% @List.length_cons:=List.length_cons
theorem z6:type_of% @Array.toList_map:=Array.toList_map
theorem z7:type_of% @List.length_map:=List.length_map
theorem z8:type_of% @Bool.or_eq_true:=Bool.or_eq_true
theorem z_:type_of% @List.mem_filter:=List.mem_filter
theorem Aa:type_of% @List.append_assoc:=List.append_assoc
theorem Ab:type_of% @Array.toList_range:=Array.toList_range
theorem Ad:type_of% @List.map_cons:=List.map_cons
theorem Ae:type_of% @List.take_length:=List.take_length
theorem Af:type_of% @Array.all_eq_true':=Array.all_eq_true'
theorem Ag:type_of% @List.range_succ:=List.range_succ
theorem Ah:type_of% @List.cons_append:=List.cons_append
theorem Ai:type_of% @List.getElem?_map:=List.getElem?_map
theorem Aj:type_of% @Nat.zero_add:=Nat.zero_add
theorem Ak:type_of% @Nat.lt_succ_of_lt:=Nat.lt_succ_of_lt
theorem Al:type_of% @Nat.eq_zero_or_pos:=Nat.eq_zero_or_pos
theorem Am:type_of% @Nat.eq_of_beq_eq_true:=Nat.eq_of_beq_eq_true
theorem An:type_of% @List.mem_iff_getElem?:=List.mem_iff_getElem?
theorem Ao:type_of% @Nat.le_of_ble_eq_true:=Nat.le_of_ble_eq_true
theorem Ap:type_of% @List.mem_range:=List.mem_range
theorem Aq:type_of% @Bool.not_eq_true':=Bool.not_eq_true'
theorem Ar:type_of% @List.length_singleton:=List.length_singleton
theorem As:type_of% @Option.bind_eq_some_iff:=Option.bind_eq_some_iff
theorem Au:type_of% @List.nil_append:=List.nil_append
theorem Av:type_of% @List.mem_map:=List.mem_map
theorem Aw:type_of% @Array.getElem?_eq_getElem:=Array.getElem?_eq_getElem
theorem Ax:type_of% @Nat.lt_trichotomy:=Nat.lt_trichotomy
theorem Ay:type_of% @Bool.and_eq_false_iff:=Bool.and_eq_false_iff
theorem Az:type_of% @List.length_nil:=List.length_nil
theorem AA:type_of% @Int.ofNat_lt:=Int.ofNat_lt
theorem AB:type_of% @List.getElem?_take_of_lt:=List.getElem?_take_of_lt
theorem AC:type_of% @Nat.add_sub_cancel_left:=Nat.add_sub_cancel_left
theorem AD:type_of% @List.mem_map_of_mem:=List.mem_map_of_mem
theorem AE:type_of% @Array.getD_eq_getD_getElem?:=Array.getD_eq_getD_getElem?
theorem AF:type_of% @Option.bind_some:=Option.bind_some
theorem AG:type_of% @List.countP_le_length:=List.countP_le_length
theorem AH:type_of% @List.drop_eq_getElem_cons:=List.drop_eq_getElem_cons
theorem AI:type_of% @List.nodup_append:=List.nodup_append
theorem AJ:type_of% @Bool.or_eq_false_iff:=Bool.or_eq_false_iff
theorem AK:type_of% @Array.getElem?_replicate:=Array.getElem?_replicate
theorem AL:type_of% @List.all_eq_true:=List.all_eq_true
theorem AM:type_of% @List.drop_length:=List.drop_length
theorem AN:type_of% @List.filter_eq_nil_iff:=List.filter_eq_nil_iff
theorem AO:type_of% @Nat.mul_comm:=Nat.mul_comm
theorem AP:type_of% @List.nodup_cons:=List.nodup_cons
theorem AQ:type_of% @List.append_nil:=List.append_nil
theorem AR:type_of% @Array.getElem?_toList:=Array.getElem?_toList
theorem AS:type_of% @List.take_add_one:=List.take_add_one
theorem AT:type_of% @Nat.le_max_right:=Nat.le_max_right
theorem AU:type_of% @Array.length_toList:=Array.length_toList
theorem AV:type_of% @List.take_succ_cons:=List.take_succ_cons
theorem AW:type_of% @List.countP_eq_zero:=List.countP_eq_zero
theorem AX:type_of% @Bool.true_and:=Bool.true_and
theorem AY:type_of% @List.map_append:=List.map_append
theorem AZ:type_of% @Nat.le_max_left:=Nat.le_max_left
theorem A0:type_of% @Nat.add_sub_cancel:=Nat.add_sub_cancel
theorem A_:type_of% @List.map_nil:=List.map_nil
theorem Ba:type_of% @Nat.le_of_eq:=Nat.le_of_eq
theorem Bb:type_of% @Nat.succ_pos:=Nat.succ_pos
theorem Bc:type_of% @Bool.and_true:=Bool.and_true
end Go
namespace Go.Mi
open Go.RowKit
def lk:List (Nat×Value)->Nat->Option Value
 |[],_=>none
 |(s,v)::r,t=>bif Nat.beq s t then some v else lk r t
theorem el {s t:Nat} (h:¬s=t):Nat.beq s t=false:=by
 cases e:Nat.beq s t with
 |false=>rfl
 |true=>exact absurd (Am e) h
structure Frm (a:Act) (n:Nat) (L:List (Nat×Value)):Prop where
 size:a.tmps.size=n
 defers:a.defers=[]
 get:∀t v,lk L t=some v->a.tmps.getD t undef=v
def ev (L:List (Nat×Value)):Operand->Option Value
 | .tmp t=>lk L t
 | .const v=>some v
 | .global g=>some (.pointer (some ⟨g,0,none⟩))
 | .func f=>some (.func (.func f) #[] #[])
def evs (L:List (Nat×Value)):List Operand->Option (List Value)
 |[]=>some []
 |x::r=>match ev L x,evs L r with
  |some v,some vs=>some (v::vs)
  |_,_=>none
theorem Frm.eval {a:Act} {n:Nat} {L:List (Nat×Value)} (h:Frm a n L) {x:Operand} {v:Value} (hx:ev L x=some v):a.eval x=v:=by
 cases x with
 |tmp t=>exact h.get t v hx
 |const u=>simpa[ev,Act.eval]using hx
 |global g=>simpa[ev,Act.eval]using hx
 |func f=>simpa[ev,Act.eval]using hx
theorem Frm.evals {a:Act} {n:Nat} {L:List (Nat×Value)} (h:Frm a n L):∀{xs:List Operand} {vs:List Value},evs L xs=some vs->xs.map a.eval=vs
 |[],vs,hx=>by simpa[evs]using hx
 |x::r,vs,hx=>by
  simp only[evs]at hx;split at hx
  ·rename_i v us h1 h2;simp only[Option.some.injEq]at hx;subst hx;simp [h.eval h1,h.evals h2]
  ·simp at hx
theorem Frm.put {a:Act} {n:Nat} {L:List (Nat×Value)} (h:Frm a n L) {d:Nat} (hd:Nat.blt d n=true) (v:Value):Frm (a.put (some d) v) n ((d,v)::L):=by
 have hd':d<n:=by simpa[Nat.blt_eq]using hd
 refine⟨by simp [Act.put,h.size],by simpa[Act.put]using h.defers,λt u hu=> ?_⟩;simp only[lk]at hu;by_cases e:d=t
 ·subst e;simp at hu;subst hu;simp [Act.put,h.size,hd']
 ·have :Nat.beq d t=false:=el e;simp only[this,cond_false]at hu;have :=h.get t u hu;simp [Act.put,zJ e];simpa using this
theorem Frm.put_none {a:Act} {n:Nat} {L:List (Nat×Value)} (h:Frm a n L) (v:Value):Frm (a.put none v) n L:=h
def fV (L:List (Nat×Value)):List (Nat×Value)->Prop
 |[]=>True
 |(s,v)::r=>lk L s=some v/\fV L r
theorem Frm.sub {a:Act} {n:Nat} {L:List (Nat×Value)} (h:Frm a n L):∀{L':List (Nat×Value)},fV L L'->Frm a n L'
 |[],_=>⟨h.size,h.defers,λt v hv=>by simp [lk]at hv⟩
 |(s,u)::r,hs=>by
  have ih:=h.sub hs.2;refine⟨h.size,h.defers,λt v hv=> ?_⟩;simp only[lk]at hv;by_cases e:s=t
  ·subst e;simp at hv;subst hv;exact h.get s u hs.1
  ·have :Nat.beq s t=false:=el e;simp only[this,cond_false]at hv;exact ih.get t v hv
theorem Frm.enter {n : Nat} {vs : List Value} (hn : vs.length <= n) :
  Frm {tmps:=vs.toArray++Array.replicate (n-vs.toArray.size) undef,defers:=[]} n (vs.zipIdx.map λp=>(p.2,p.1)):=by
 refine⟨by simp;omega,rfl,?_⟩;intro t v hv;have key:∀(l:List Value) (k:Nat),lk ((l.zipIdx k).map λp=>(p.2,p.1)) t=some v->k<=t/\l[t-k]? =some v:=by
  intro l
  induction l with
  |nil=>intro k h;simp [lk]at h
  |cons x l ih=>
   intro k h;simp only[List.zipIdx_cons,Ad,lk]at h;by_cases e:k=t
   ·subst e;simp at h;simp [h]
   ·have :Nat.beq k t=false:=el e;simp only[this,cond_false]at h;obtain⟨h1,h2⟩:=ih (k+1) h;refine⟨by omega,?_⟩;have :t-k=(t-(k+1))+1:=by omega
    rw[this];simpa using h2
 obtain⟨_,h2⟩:=key vs 0 hv;simp at h2;have hl:t<vs.length:=by
  rcases zF t vs.length with h|h
  ·exact h
  ·simp [zz h]at h2
 have h3:vs[t]=v:=by simpa[zp hl]using h2
 simp [Array.getElem?_append,hl,h3]
def Ok1 (P:Program) (o:Oper) (n:Nat) (L:List (Nat×Value)) (w:World) (R:Value->World->Prop):Prop:=
 ∀(a:Act) (K:Act->World->Prop) (Q:Exit->Act->World->Prop),Frm a n L->(∀v w',R v w'->K (a.put o.dst v) w')->o.wp P a w K Q
def Det (P:Program) (o:Oper) (n:Nat) (L:List (Nat×Value)) (w:World) (v:Value) (w2:World):Prop:=
 Ok1 P o n L w λv' w'=>v'=v/\w'=w2
section
variable {P:Program} {ops:Array Oper} {Q:Exit->Act->World->Prop} {a:Act} {w w2:World} {rest:List Oper} {n:Nat} {L:List (Nat×Value)} {v:Value}
theorem Ok1.mono {o:Oper} {R R':Value->World->Prop} (h:Ok1 P o n L w R) (hr:∀v w',R v w'->R' v w'):Ok1 P o n L w R':=
 λa K Q hF k=>h a K Q hF λv w' r=>k v w' (hr v w' r)
theorem Det.of_run {o:Oper} (h:∀a,Frm a n L->(execOp a.eval o).run P w= .ok (.value v) w2):Det P o n L w v w2:=by intro a K Q hF k;simp only[Oper.wp,h a hF,Oper.upon_value];exact k _ _ ⟨rfl,rfl⟩
theorem Det.of_skip {o:Oper} (h:∀a,Frm a n L->(execOp a.eval o).run P w= .ok .skip w2):Det P o n L w undef w2:=by intro a K Q hF k;simp only[Oper.wp,h a hF,Oper.upon_skip];exact k _ _ ⟨rfl,rfl⟩
theorem lD {o : Oper} {R : Value -> World -> Prop} (h : Ok1 P o n L w R) (hg : o.guard = none) (hF : Frm a n L)
  (k:∀v w',R v w'->wpList P ops Q rest (a.put o.dst v) w'):wpList P ops Q (o::rest) a w:=by
 unfold wpList;rw[zX (by simp [Region.wanted,hg])];exact .inl (h a _ Q hF k)
theorem wl {d : Nat} {op : Op} {ty : TypeId} {pos : String} {af : Array Edge} (h : Det P ⟨some d, op, ty, pos, af, none⟩ n L w v w2) (hd : Nat.blt d n = true) (hF : Frm a n L)
  (k:∀a',Frm a' n ((d,v)::L)->wpList P ops Q rest a' w2):wpList P ops Q (⟨some d,op,ty,pos,af,none⟩::rest) a w:=
 lD h rfl hF λ_ _ ⟨hv,hw⟩=>by subst hv;subst hw;exact k _ (hF.put hd _)
theorem wlR {d : Nat} {op : Op} {ty : TypeId} {pos : String} {af : Array Edge} {R : Value -> World -> Prop} (h : Ok1 P ⟨some d, op, ty, pos, af, none⟩ n L w R) (hd : Nat.blt d n = true) (hF : Frm a n L)
  (k:∀v w' a',R v w'->Frm a' n ((d,v)::L)->wpList P ops Q rest a' w'):wpList P ops Q (⟨some d,op,ty,pos,af,none⟩::rest) a w:=
 lD h rfl hF λ_ _ hr=>k _ _ _ hr (hF.put hd _)
theorem bx (k:Q .normal a w):wpList P ops Q [] a w:=k
def gd (ops:Array Oper) (L:List (Nat×Value)) (j:Nat):Option Bool:=
 match((ops[j]?).bind (·.dst)).bind (lk L ·)with
 |some (.bool b)=>some b
 |_=>none
theorem Frm.yielded (hF:Frm a n L) {j:Nat} {b:Bool} (h:gd ops L j=some b):yielded ops a.tmps j=some b:=by
 unfold gd at h;unfold Go.yielded;cases h1:(ops[j]?).bind (·.dst)with
 |none=>simp [h1]at h
 |some d=>
  rw[h1]at h;simp only[AF]at h⊢;cases h2:lk L d with
  |none=>simp [h2]at h
  |some u=>
   rw[h2]at h;have h3:=hF.get d u h2;cases u<;>simp at h;subst h;cases h4:a.tmps[d]? with
   |none=>simp [h4,undef]at h3
   |some x=>simp [h4]at h3;subst h3;rfl
theorem wlg {d : Nat} {op : Op} {ty : TypeId} {pos : String} {af : Array Edge} {j : Nat} {b : Bool} (hg : gd ops L j = some b) (h : Det P ⟨some d, op, ty, pos, af, some (j, b)⟩ n L w v w2) (hd : Nat.blt d n = true) (hF : Frm a n L)
  (k:∀a',Frm a' n ((d,v)::L)->wpList P ops Q rest a' w2):wpList P ops Q (⟨some d,op,ty,pos,af,some (j,b)⟩::rest) a w:=by
 unfold wpList;rw[zX (by simp [Region.wanted,hF.yielded hg])];exact .inl (h a _ Q hF λ_ _ ⟨hv,hw⟩=>by subst hv;subst hw;exact k _ (hF.put hd _))
theorem yI {d : Nat} {op : Op} {ty : TypeId} {pos : String} {af : Array Edge} {j : Nat} {b : Bool} {R : Value -> World -> Prop} (hg : gd ops L j = some b) (h : Ok1 P ⟨some d, op, ty, pos, af, some (j, b)⟩ n L w R) (hd : Nat.blt d n = true) (hF : Frm a n L)
  (k:∀v w' a',R v w'->Frm a' n ((d,v)::L)->wpList P ops Q rest a' w'):wpList P ops Q (⟨some d,op,ty,pos,af,some (j,b)⟩::rest) a w:=by
 unfold wpList;rw[zX (by simp [Region.wanted,hF.yielded hg])];exact .inl (h a _ Q hF λ_ _ hr=>k _ _ _ hr (hF.put hd _))
theorem cL {d : Nat} {op : Op} {ty : TypeId} {pos : String} {af : Array Edge} {j : Nat} {b c : Bool} (hg : gd ops L j = some c) (hn : (c == b) = false) (hd : Nat.blt d n = true) (hF : Frm a n L)
  (k:∀a',Frm a' n ((d,undef)::L)->wpList P ops Q rest a' w):wpList P ops Q (⟨some d,op,ty,pos,af,some (j,b)⟩::rest) a w:=by
 unfold wpList;rw[zK (by simp [Region.wanted,hF.yielded hg];simpa using hn)];exact k _ (hF.put hd _)
end
end Go.Mi
namespace Go.Mi
open Go.RowKit
theorem dz (b o i:Nat):(⟨b,o,none⟩:Addr).add i=⟨b,o+i,none⟩:=by unfold Addr.add;split<;>simp_all
theorem bK {x:Int} (h1: -9223372036854775808<=x) (h2:x<=9223372036854775807):IntKind.wrap .i64 x=x:=by simp [IntKind.wrap,IntKind.bits,IntKind.signed];split<;>omega
theorem kW {α:Type}:∀(l:List α) (i:Nat) (v:α),i<l.length->(l.set i v).take (i+1)=l.take i++[v]
 |[],i,v,h=>by simp at h
 |x::l,0,v,h=>by simp
 |x::l,i+1,v,h=>by simp at h;simp [kW l i v h]
theorem ln {α:Type}:∀(l:List α) (i:Nat) (v:α) (j:Nat),i<j->(l.set i v).drop j=l.drop j
 |[],i,v,j,h=>by simp
 |x::l,0,v,j+1,h=>by simp
 |x::l,i+1,v,j+1,h=>by simp [ln l i v j (by omega)]
section
variable {P:Program} {w:World} {n:Nat} {L:List (Nat×Value)} {ds:Option Tmp} {ty:TypeId} {pos:String} {af:Array Edge} {gu:Option (Nat×Bool)}
theorem bD {x:Operand} {v:Value} (hx:ev L x=some v):Det P ⟨ds,.move x,ty,pos,af,gu⟩ n L w v w:=
 Det.of_run λa hF=>by simp [execOp,hF.eval hx]
theorem bz {x:Operand} {v:Value} (hx:ev L x=some v):Det P ⟨ds,.assign x,ty,pos,af,gu⟩ n L w v w:=
 Det.of_run λa hF=>by simp [execOp,hF.eval hx]
theorem cQ {c x y:Operand} {b:Bool} {v:Value} (hc:ev L c=some (.bool b)) (hv:ev L (bif b then x else y)=some v):Det P ⟨ds,.pick c x y,ty,pos,af,gu⟩ n L w v w:=
 Det.of_run λa hF=>by cases b<;>simp at hv<;>simp [execOp,hF.eval hc,hF.eval hv,asBool]
theorem nC {x:Operand} {b:Bool} {t:TypeId} (hx:ev L x=some (.bool b)):Det P ⟨ds,.unOp .not t x,ty,pos,af,gu⟩ n L w (.bool !b) w:=
 Det.of_run λa hF=>by simp [execOp,hF.eval hx,Op.unary]
section
variable {x y:Operand} {k:IntKind} {p q r:Int} {t t':TypeId}
theorem ci (hx:ev L x=some (.int k p)) (hy:ev L y=some (.int k q)) (hr:k.wrap (p+q)=r):Det P ⟨ds,.binOp .add t x y t',ty,pos,af,gu⟩ n L w (.int k r) w:=
 Det.of_run λa hF=>by subst hr;simp [execOp,hF.eval hx,hF.eval hy,eqGuard,binOp,Op.intArith]
theorem eu (hx:ev L x=some (.int k p)) (hy:ev L y=some (.int k q)) (hr:k.wrap (p-q)=r):Det P ⟨ds,.binOp .sub t x y t',ty,pos,af,gu⟩ n L w (.int k r) w:=
 Det.of_run λa hF=>by subst hr;simp [execOp,hF.eval hx,hF.eval hy,eqGuard,binOp,Op.intArith]
theorem eH (hx:ev L x=some (.int k p)) (hy:ev L y=some (.int k q)):Det P ⟨ds,.binOp .lss t x y t',ty,pos,af,gu⟩ n L w (.bool (decide (p<q))) w:=
 Det.of_run λa hF=>by simp [execOp,hF.eval hx,hF.eval hy,eqGuard,binOp,Op.intCmp]
theorem u_ (hx:ev L x=some (.int k p)) (hy:ev L y=some (.int k q)):Det P ⟨ds,.binOp .leq t x y t',ty,pos,af,gu⟩ n L w (.bool (decide (p<=q))) w:=
 Det.of_run λa hF=>by simp [execOp,hF.eval hx,hF.eval hy,eqGuard,binOp,Op.intCmp]
theorem jr (hx:ev L x=some (.int k p)) (hy:ev L y=some (.int k q)):Det P ⟨ds,.binOp .gtr t x y t',ty,pos,af,gu⟩ n L w (.bool (decide (q<p))) w:=
 Det.of_run λa hF=>by simp [execOp,hF.eval hx,hF.eval hy,eqGuard,binOp,Op.intCmp]
theorem lu (hx:ev L x=some (.int k p)) (hy:ev L y=some (.int k q)):Det P ⟨ds,.binOp .geq t x y t',ty,pos,af,gu⟩ n L w (.bool (decide (q<=p))) w:=
 Det.of_run λa hF=>by simp [execOp,hF.eval hx,hF.eval hy,eqGuard,binOp,Op.intCmp]
theorem dQ (hx:ev L x=some (.int k p)) (hy:ev L y=some (.int k q)):Det P ⟨ds,.binOp .eql t x y t',ty,pos,af,gu⟩ n L w (.bool (decide (p=q))) w:=
 Det.of_run λa hF=>by simp [execOp,hF.eval hx,hF.eval hy,eqGuard,binOp,Op.intCmp];rfl
theorem yr (hx:ev L x=some (.int k p)) (hy:ev L y=some (.int k q)):Det P ⟨ds,.binOp .neq t x y t',ty,pos,af,gu⟩ n L w (.bool (!decide (p=q))) w:=
 Det.of_run λa hF=>by simp [execOp,hF.eval hx,hF.eval hy,eqGuard,binOp,Op.intCmp];rfl
end
theorem bQ {t:TypeId} {d:TypeDesc} (h:P.underlying t=some d):(underlying t).run P w= .ok d w:=by simp [underlying,h]
theorem qx {x:Operand} {vs:Array Value} {i:Nat} {v:Value} (hx:ev L x=some (.tuple vs)) (hv:vs[i]? =some v):Det P ⟨ds,.extract x i,ty,pos,af,gu⟩ n L w v w:=
 Det.of_run λa hF=>by simp [execOp,hF.eval hx,Instr.extract,hv]
theorem bW {x : Operand} {T e : TypeId} {ad : Option Addr} {l c : Nat} (hT : P.underlying T = some (.slice e)) (hx : ev L x = some (.slice ad l c)) :
  Det P ⟨ds,.call ⟨.builtin .len,#[x],#[T]⟩,ty,pos,af,gu⟩ n L w (.int .i64 l) w:=
 Det.of_run λa hF=>by simp [execOp,hF.eval hx,resolve,invoke,builtin,Builtin.len_,bQ hT,goInt]
theorem u8 {x y : Operand} {T : Array TypeId} {k : IntKind} {p q r : Int} (hx : ev L x = some (.int k p)) (hy : ev L y = some (.int k q)) (hr : (if q < p then q else p) = r) :
  Det P ⟨ds,.call ⟨.builtin .min,#[x,y],T⟩,ty,pos,af,gu⟩ n L w (.int k r) w:=
 Det.of_run λa hF=>by subst hr;simp [execOp,hF.eval hx,hF.eval hy,resolve,invoke,builtin,Builtin.min_,Builtin.min2]
theorem ux {x y : Operand} {k : IntKind} {T e : TypeId} {len b o : Nat} {i : Int} (hT : P.underlying T = some (.array len e)) (hs : (P.info? e).map (·.size) = some 1) (hx : ev L x = some (.pointer (some ⟨b, o, none⟩))) (hy : ev L y = some (.int k i))
  (h0:0<=i) (h1:i<len):Det P ⟨ds,.indexAddr T x y,ty,pos,af,gu⟩ n L w (.pointer (some ⟨b,o+i.toNat,none⟩)) w:=
 Det.of_run λa hF=>by obtain⟨inf,hi,hz⟩:=zq.1 hs;simp [execOp,hF.eval hx,hF.eval hy,Instr.indexAt,asIntOf,bQ hT,Instr.sureAddr,h0,h1,sizeOf,typeInfo,hi,hz,dz]
theorem sB {x y : Operand} {k : IntKind} {T e : TypeId} {len cap b o : Nat} {i : Int} (hT : P.underlying T = some (.slice e)) (hs : (P.info? e).map (·.size) = some 1) (hx : ev L x = some (.slice (some ⟨b, o, none⟩) len cap)) (hy : ev L y = some (.int k i))
  (h0:0<=i) (h1:i<len):Det P ⟨ds,.indexAddr T x y,ty,pos,af,gu⟩ n L w (.pointer (some ⟨b,o+i.toNat,none⟩)) w:=
 Det.of_run λa hF=>by obtain⟨inf,hi,hz⟩:=zq.1 hs;simp [execOp,hF.eval hx,hF.eval hy,Instr.indexAt,asIntOf,bQ hT,h0,h1,sizeOf,typeInfo,hi,hz,dz]
def TypeDesc.flat:TypeDesc->Bool
 | .struct _| .array _ _=>false
 |_=>true
theorem gx {t:TypeId} {d:TypeDesc} (h:P.underlying t=some d) (hf:TypeDesc.flat d=true):(isAgg t).run P w= .ok false w:=by simp only[isAgg,Sem.run_bind,bQ h,Result.andThen_ok];cases d<;>simp_all [TypeDesc.flat]
theorem bJ {x : Operand} {t : TypeId} {d : TypeDesc} {ad : Addr} {v : Value} (ht : P.underlying t = some d) (hf : TypeDesc.flat d = true) (hx : ev L x = some (.pointer (some ad))) (hc : w.cell? ad = some v) :
  Det P ⟨ds,.load t x,ty,pos,af,gu⟩ n L w v w:=
 Det.of_run λa hF=>by simp [execOp,hF.eval hx,Instr.loadAt,Instr.sureAddr,loadVar,gx ht hf,hc]
end
structure NewB (w w':World) (b:Nat) (c:Array Value) (t:TypeId):Prop where
 num:b=w.heap.size
 eq:w'=w.alloc (.cells c t)
structure Upd (w w':World) (b:Nat) (c:Array Value) (t:TypeId):Prop where
 os:w'.os=w.os
 tape:w'.tape=w.tape
 output:w'.output=w.output
 size:w'.heap.size=w.heap.size
 blk:w'.heap[b]? =some (.cells c t (0,0))
 other:∀k,k≠b->w'.heap[k]? =w.heap[k]?
theorem Upd.refl {w:World} {b:Nat} {c:Array Value} {t:TypeId} (h:w.heap[b]? =some (.cells c t (0,0))):Upd w w b c t:=⟨rfl,rfl,rfl,rfl,h,λ_ _=>rfl⟩
theorem Upd.trans {w w1 w2:World} {b:Nat} {c c':Array Value} {t:TypeId} (h:Upd w w1 b c t) (h':Upd w1 w2 b c' t):Upd w w2 b c' t:=
 ⟨h'.os.trans h.os,h'.tape.trans h.tape,h'.output.trans h.output,h'.size.trans h.size,h'.blk,λk hk=>(h'.other k hk).trans (h.other k hk)⟩
theorem cG {w:World} {b o:Nat} {c:Array Value} {t:TypeId} {f:Nat×Nat} (h:w.heap[b]? =some (.cells c t f)):w.cell? ⟨b,o,none⟩=c[o]? :=by simp [World.cell?,h]
theorem ow {w:World} {b o:Nat} {c:Array Value} {t:TypeId} (h:w.heap[b]? =some (.cells c t (0,0))):w.frozen? ⟨b,o,none⟩=false:=by simp [World.frozen?,h]
theorem jg {w:World} {b o:Nat} {c:Array Value} {t:TypeId} (h:w.heap[b]? =some (.cells c t (0,0))) (v:Value):Upd w (w.setCell ⟨b,o,none⟩ v) b (c.setIfInBounds o v) t:=by refine⟨rfl,rfl,rfl,by simp,?_,λk hk=>Below.heap_setCell _ _ _ _ hk⟩;simp [World.setCell,Array.getElem?_modify,h]
section
variable {P:Program} {w:World} {n:Nat} {L:List (Nat×Value)} {ds:Option Tmp} {ty:TypeId} {pos:String} {af:Array Edge} {gu:Option (Nat×Bool)}
theorem j5 {b o:Nat} {c:Array Value} {t:TypeId} {v:Value} (hb:w.heap[b]? =some (.cells c t (0,0))) (ho:o<c.size) (hv:v.oneCell'=true):(store ⟨b,o,none⟩ v).run P w= .ok () (w.setCell ⟨b,o,none⟩ v):=by rw[run_store _ _ _ _ _ hv];simp [cG hb,ho,ow hb]
theorem dk {x y : Operand} {t T : TypeId} {b o : Nat} {c : Array Value} {v : Value} (hs : (P.info? t).map (·.size) = some 1) (hx : ev L x = some (.pointer (some ⟨b, o, none⟩))) (hy : ev L y = some v) (hv : v.oneCell' = true)
  (hb:w.heap[b]? =some (.cells c T (0,0))) (ho:o<c.size):Ok1 P ⟨ds,.store t x y,ty,pos,af,gu⟩ n L w λ_ w'=>Upd w w' b (c.setIfInBounds o v) T:=by
 obtain⟨inf,hi,hz⟩:=zq.1 hs;have hd:Det P ⟨ds,.store t x y,ty,pos,af,gu⟩ n L w undef (w.setCell ⟨b,o,none⟩ v):=Det.of_skip λa hF=>by
  have hcs:v.cells= #[v]:=by cases v<;>simp_all [Value.cells,Value.oneCell']
  simp [execOp,hF.eval hx,hF.eval hy,Instr.storeAt,Instr.sureAddr,storeVar,sizeOf,typeInfo,hi,hz,hcs,storeCells,Addr.add,j5 hb ho hv]
 exact hd.mono λv' w' ⟨_,hw⟩=>by subst hw;exact jg hb v
theorem gw {b : Nat} {T : TypeId} : ∀ (vs : List Value) (i : Nat) (w : World) (c : Array Value), w.heap[b]? = some (.cells c T (0, 0)) -> i + vs.length <= c.size -> (∀ v ∈ vs, v.oneCell' = true) ->
  ∃w',(storeCells ⟨b,0,none⟩ vs i).run P w= .ok () w'/\Upd w w' b ((c.toList.take i++vs++c.toList.drop (i+vs.length)).toArray) T
 |[],i,w,c,hb,hl,hv=>by
  refine⟨w,by simp [storeCells],?_⟩;simp;exact Upd.refl hb
 |v::vs,i,w,c,hb,hl,hv=>by
  simp at hl;have ha:(⟨b,0,none⟩:Addr).add i=⟨b,i,none⟩:=by unfold Addr.add;split<;>simp_all
  have hu:=jg (o:=i) hb v;obtain⟨w',h1,h2⟩:=gw vs (i+1) (w.setCell ⟨b,i,none⟩ v) _ hu.blk (by simp;omega) λu hu=>hv u (zN _ hu);refine⟨w',?_,?_⟩
  ·simp only[storeCells,ha,Sem.run_bind,j5 hb (by omega:i<c.size) (hv v (zS ..)),Result.andThen_ok,h1]
  ·have h3:=hu.trans h2;have he:((c.setIfInBounds i v).toList.take (i+1)++vs++(c.setIfInBounds i v).toList.drop (i+1+vs.length)).toArray=(c.toList.take i++v::vs++c.toList.drop (i+(v::vs).length)).toArray:=by
    congr 1;simp only[zO,zZ];have hlt:i<c.toList.length:=by simp only[AU];omega
    rw[kW _ _ _ hlt,ln _ _ _ _ (by omega)];simp [show i+1+vs.length=i+(vs.length+1) by omega]
   rw[he]at h3;exact h3
theorem dM {x y : Operand} {t T : TypeId} {b m : Nat} {c c' : Array Value} (hs : (P.info? t).map (·.size) = some m) (hx : ev L x = some (.pointer (some ⟨b, 0, none⟩))) (hy : ev L y = some (.agg c')) (hc' : c'.size = m) (hv : ∀ v ∈ c'.toList, v.oneCell' = true)
  (hb:w.heap[b]? =some (.cells c T (0,0))) (hc:c.size=m):Ok1 P ⟨ds,.store t x y,ty,pos,af,gu⟩ n L w λ_ w'=>Upd w w' b c' T:=by
 obtain⟨inf,hi,hz⟩:=zq.1 hs;obtain⟨w',h1,h2⟩:=gw (P:=P) c'.toList 0 w c hb (by simp;omega) hv;have hd:Det P ⟨ds,.store t x y,ty,pos,af,gu⟩ n L w undef w':=Det.of_skip λa hF=>by simp [execOp,hF.eval hx,hF.eval hy,Instr.storeAt,Instr.sureAddr,storeVar,sizeOf,typeInfo,hi,hz,Value.cells,hc',h1]
 refine hd.mono λv' w'' ⟨_,hw⟩=> ?_;subst hw;have he:(c.toList.take 0++c'.toList++c.toList.drop (0+c'.toList.length)).toArray=c':=by simp [List.drop_of_length_le (show c.toList.length<=c'.size by simp;omega)]
 rw[he]at h2;exact h2
theorem fN {b : Nat} {T : TypeId} {c : Array Value} {f : Nat × Nat} (hb : w.heap[b]? = some (.cells c T f)) (o : Nat) : ∀ (m i : Nat) (acc : Array Value), o + i + m <= c.size ->
  (loadCellsFrom ⟨b,o,none⟩ i m acc).run P w= .ok (acc++c.extract (o+i) (o+i+m)) w
 |0,i,acc,h=>by simp [loadCellsFrom];omega
 |m+1,i,acc,h=>by
  have ha:(⟨b,o,none⟩:Addr).add i=⟨b,o+i,none⟩:=by unfold Addr.add;split<;>simp_all
  have hi:o+i<c.size:=by omega
  simp only[loadCellsFrom,ha,Sem.run_bind,run_load,cG hb,Aw hi,Result.andThen_ok];rw[fN hb o m (i+1) _ (by omega)];congr 1;apply Array.ext';simp only[Array.toList_append,Array.toList_push,Array.toList_extract,List.extract_eq_take_drop,Aa,List.append_cancel_left_eq];rw[show o+(i+1)=(o+i)+1 by omega,show(o+i)+1+m-((o+i)+1)=m by omega,show o+i+(m+1)-(o+i)=m+1 by omega];rw[AH (i:=o+i) (by simpa using hi),AV];simp
theorem eA {x : Operand} {t T : TypeId} {d : TypeDesc} {b m : Nat} {c : Array Value} {f : Nat × Nat} (ht : P.underlying t = some d) (hf : TypeDesc.flat d = false) (hs : (P.info? t).map (·.size) = some m) (hx : ev L x = some (.pointer (some ⟨b, 0, none⟩)))
  (hb:w.heap[b]? =some (.cells c T f)) (hc:c.size=m):Det P ⟨ds,.load t x,ty,pos,af,gu⟩ n L w (.agg c) w:=
 Det.of_run λa hF=>by
  obtain⟨inf,hi,hz⟩:=zq.1 hs;have hag:(isAgg t).run P w= .ok true w:=by simp only[isAgg,Sem.run_bind,bQ ht,Result.andThen_ok];cases d<;>simp_all [TypeDesc.flat]
  have hl:=fN (P:=P) hb 0 m 0 #[] (by omega);simp [execOp,hF.eval hx,Instr.loadAt,Instr.sureAddr,loadVar,hag,sizeOf,typeInfo,hi,hz,loadCells,hl];subst hc;simp
theorem dG {x:Operand} {t:TypeId} {v:Value} (hx:ev L x=some v):Ok1 P ⟨ds,.box t x,ty,pos,af,gu⟩ n L w λv' w'=>∃b,v'= .pointer (some ⟨b,0,none⟩)/\NewB w w' b v.cells t:=by
 have hd:Det P ⟨ds,.box t x,ty,pos,af,gu⟩ n L w (.pointer (some ⟨w.heap.size,0,none⟩)) (w.alloc (.cells v.cells t)):=Det.of_run λa hF=>by simp [execOp,hF.eval hx,Instr.box,newVar,newRow]
 exact hd.mono λv' w' ⟨h1,h2⟩=>⟨_,h1,rfl,h2⟩
theorem ez {t:TypeId} {z:Value} (hz:(P.info? t).bind (·.zero)=some z):Ok1 P ⟨ds,.alloc t,ty,pos,af,gu⟩ n L w λv' w'=>∃b,v'= .pointer (some ⟨b,0,none⟩)/\NewB w w' b z.cells t:=by
 obtain⟨inf,hi,hz'⟩:=As.1 hz;have hd:Det P ⟨ds,.alloc t,ty,pos,af,gu⟩ n L w (.pointer (some ⟨w.heap.size,0,none⟩)) (w.alloc (.cells z.cells t)):=Det.of_run λa hF=>by simp [execOp,Instr.alloc,zeroValue,typeInfo,hi,hz',newVar,newRow]
 exact hd.mono λv' w' ⟨h1,h2⟩=>⟨_,h1,rfl,h2⟩
structure bV (P:Program) (f:FuncId):Prop where
 ok:∃fn,P.funcs[f]? =some fn/\(fn.name== "runtime.NumGoroutine")=false/\fn.body.isNone=false
def Ret (R:Value->World->Prop):Ending->World->Prop:=λe w'=>∃v,e= .returned v/\R v w'
theorem kl {x : Operand} {xs : Array Operand} {ts : Array TypeId} {f : FuncId} {first captured : Array Value} {vs : List Value} {R : Value -> World -> Prop} (hx : ev L x = some (.func (.func f) first captured)) (hc : bV P f) (ha : evs L xs.toList = some vs)
  (h:Calls P f ((first ++vs.toArray)++captured) w (Ret R)):Ok1 P ⟨ds,.call ⟨.value x,xs,ts⟩,ty,pos,af,gu⟩ n L w R:=by
 intro a K Q hF k;obtain⟨fn,h1,h2,h3⟩:=hc.ok;have hxs:xs.map a.eval=vs.toArray:=by have :=hF.evals ha;rw[<-this,<-List.map_toArray]
 simp only[Oper.wp,execOp,resolve,hF.eval hx,Deferred.ofValue,Sem.run_bind,Sem.run_pure,Result.andThen_ok,invoke,callFunc,run_program,h1,h2,h3,hxs];simp only[Bool.false_eq_true,if_false,Sem.run_pure,Oper.upon_enter];refine h.mono λe w' he=> ?_;obtain⟨v,rfl,hr⟩:=he;exact k v w' hr
theorem a_ {xs : Array Operand} {ts : Array TypeId} {f : FuncId} {vs : List Value} {R : Value -> World -> Prop} (hc : bV P f) (ha : evs L xs.toList = some vs)
  (h:Calls P f vs.toArray w (Ret R)):Ok1 P ⟨ds,.call ⟨.value (.func f),xs,ts⟩,ty,pos,af,gu⟩ n L w R:=
 kl (first := #[]) (captured:= #[]) rfl hc ha (by simpa using h)
end
end Go.Mi
namespace Go.Mi
open Go.RowKit
abbrev Blk:=Nat×Array Value×TypeId
structure Mem (w0 w:World) (M:List Blk):Prop where
 below:Below w0.heap.size w0 w
 blk:∀e,e∈M->w.heap[e.1]? =some (.cells e.2.1 e.2.2 (0,0))
 new:∀e,e∈M->w0.heap.size<=e.1
 apart:(M.map (·.1)).Nodup
theorem Mem.start (w:World):Mem w w []:=⟨Below.refl _ _,by simp,by simp,by simp⟩
theorem Mem.lt {w0 w:World} {M:List Blk} (h:Mem w0 w M) {e:Blk} (he:e∈M):e.1<w.heap.size:=by
 have :=h.blk e he;rcases zF e.1 w.heap.size with h'|h'
 ·exact h'
 ·simp [zY h']at this
theorem Mem.alloc {w0 w w':World} {M:List Blk} (h:Mem w0 w M) {b:Nat} {c:Array Value} {t:TypeId} (hn:NewB w w' b c t):Mem w0 w' (M++[(b,c,t)]):=by
 obtain⟨rfl,rfl⟩:=hn;refine⟨h.below.alloc (h.below.size) _,λe he=> ?_,λe he=> ?_,?_⟩
 ·rcases zr.1 he with he|he
  ·rw[Below.heap_alloc _ _ _ (h.lt he)];exact h.blk e he
  ·simp at he;subst he;show(w.heap.push _)[w.heap.size]? =_;simp
 ·rcases zr.1 he with he|he
  ·exact h.new e he
  ·simp at he;subst he;exact h.below.size
 ·simp only[AY,Ad,A_];refine AI.2 ⟨h.apart,by simp,λx hx y hy=> ?_⟩;obtain rfl:=zt.1 hy;obtain⟨e,he,rfl⟩:=Av.1 hx;have :=h.lt he;omega
theorem Mem.upd {w0 w w':World} {M:List Blk} (h:Mem w0 w M) (i:Nat) {b:Nat} {c c':Array Value} {t:TypeId} (hi:M[i]? =some (b,c,t)) (hu:Upd w w' b c' t):Mem w0 w' (M.set i (b,c',t)):=by
 have a:i<M.length:=by
  rcases zF i M.length with h'|h'
  ·exact h'
  ·simp [zz h']at hi
 have d:M[i]=(b,c,t):=by simpa[zp a]using hi
 have m:(b,c,t)∈M:=d▸List.getElem_mem a;have hB:=h.new _ m;have f:(M.set i (b,c',t)).map (·.1)=M.map (·.1):=by
  rw[List.map_set];apply List.ext_getElem?;intro j;simp only[List.getElem?_set,z7,Ai];split
  ·rename_i e;subst e;simp [a,d]
  ·rfl
 refine⟨h.below.trans ⟨hu.os,hu.tape,hu.output,by rw[hu.size];exact zH _,λk hk=>hu.other k (by simp at hB;omega)⟩,λe he=> ?_,λe he=> ?_,by rw[f];exact h.apart⟩
 ·obtain⟨j,hj,rfl⟩:=List.mem_iff_getElem.1 he;simp only[List.getElem_set];split
  ·exact hu.blk
  ·rename_i hne;have g:j<M.length:=by simpa using hj
   have hd:(M[j]'g).1≠b:=by
    intro l;have :=h.apart;rw[List.nodup_iff_pairwise_ne,List.pairwise_iff_getElem]at this;rcases Nat.lt_or_gt_of_ne hne with h1|h1
    ·have :=this i j (by simpa using a) (by simpa using g) h1;simp [d]at this;exact this l.symm
    ·have :=this j i (by simpa using g) (by simpa using a) h1;simp [d]at this;exact this l
   rw[hu.other _ hd];exact h.blk _ (List.getElem_mem _)
 ·have :e.1∈(M.set i (b,c',t)).map (·.1):=AD he;rw[f]at this;obtain⟨e',n,l⟩:=Av.1 this;have :=h.new e' n;omega
theorem Mem.call {w0 w w':World} {M:List Blk} (h:Mem w0 w M) (hb:Below w.heap.size w w'):Mem w0 w' M:=
 ⟨h.below.trans (hb.mono h.below.size),λe he=>by rw[hb.block _ (h.lt he)];exact h.blk e he,h.new,h.apart⟩
theorem Mem.drew {w0 w:World} {M:List Blk} (h:Mem w0 w M):Mem w0 {w with drawn:=w.drawn+1} M:=
 ⟨h.below.drew,h.blk,h.new,h.apart⟩
theorem Mem.at {w0 w:World} {M:List Blk} (h:Mem w0 w M) (i:Nat) {b:Nat} {c:Array Value} {t:TypeId} (hi:M[i]? =some (b,c,t)):w.heap[b]? =some (.cells c t (0,0)):=
 h.blk _ (zC hi)
theorem Mem.cell {w0 w:World} {M:List Blk} (h:Mem w0 w M) (i:Nat) {b o:Nat} {c:Array Value} {t:TypeId} {v:Value} (hi:M[i]? =some (b,c,t)) (hv:c[o]? =some v):w.cell? ⟨b,o,none⟩=some v:=by rw[cG (h.at i hi),hv]
theorem Mem.old {w0 w:World} {M:List Blk} (h:Mem w0 w M) {ad:Addr} {v:Value} (hv:w0.cell? ad=some v):w.cell? ad=some v:=by rw[h.below.cell (World.block_lt_of_cell? w0 ad hv),hv]
theorem Mem.sub {w0 w:World} {M M':List Blk} (h:Mem w0 w M) (hs:List.Sublist M' M):Mem w0 w M':=
 ⟨h.below,λe he=>h.blk e (hs.subset he),λe he=>h.new e (hs.subset he),(hs.map _).nodup h.apart⟩
def cl (k:IntKind) (n:Nat) (F:Nat->Int):Array Value:=((List.range n).map λi=>Value.int k (F i)).toArray
section
variable {P:Program} {ops:Array Oper} {Q:Exit->Act->World->Prop} {a:Act} {w:World} {n:Nat} {L:List (Nat×Value)}
theorem ca {c : Code} (I : Nat -> Act -> World -> Prop) (k0 : Nat) (h0 : I k0 a w)
  (round:∀k a w,I k a w->c.wp P (Exit.then (λa' w'=>∃k',k'<k/\I k' a' w') Q) a w):(Code.loop c).wp P Q a w:=by
 intro b k cs;have key:∀m a w,I m a w->∃e a' w',Q e a' w'/\Arrives P (lone (b.at a (.code c:: .inLoop c::k)) cs w) b k cs e a' w':=by
  intro m
  induction m using Nat.strongRecOn with
  |_ m ih=>
   intro a w hI;obtain⟨e,a₁,w₁,hq,harr⟩:=round m a w hI b (.inLoop c::k) cs;cases e with
   |normal=>
    obtain⟨m',hlt,hI'⟩:=hq;obtain⟨e₂,a₂,w₂,hq₂,harr₂⟩:=ih m' hlt a₁ w₁ hI';exact⟨e₂,a₂,w₂,hq₂,.of_steps (Steps.trans harr (.one step_inLoop)) harr₂⟩
   |exit id=>exact⟨_,a₁,w₁,hq,.pass (x:= .inLoop c) rfl (λ_ _=> .inl (by simp)) harr⟩
   |goto l=>exact⟨_,a₁,w₁,hq,.pass (x:= .inLoop c) rfl (λ_ _=> .inl (by simp)) harr⟩
   |ret=>exact⟨_,a₁,w₁,hq,.pass (x:= .inLoop c) rfl (λ_ _=> .inl (by simp)) harr⟩
   |panic ch=>exact⟨_,a₁,w₁,hq,.pass (x:= .inLoop c) rfl (λ_ _=> .inl (by simp)) harr⟩
   |outgrown=>exact⟨_,a₁,w₁,hq,.pass (x:= .inLoop c) rfl (λ_ _=> .inl (by simp)) harr⟩
 obtain⟨e,a',w',hq,harr⟩:=key k0 a w h0;exact⟨e,a',w',hq,.of_steps (.one step_loop) harr⟩
theorem cr {c:Operand} {x y:Code} {t:Bool} (hF:Frm a n L) (hc:ev L c=some (.bool t)) (ht:t=true->x.wp P Q a w) (hf:t=false->y.wp P Q a w):(Code.cond c x y).wp P Q a w:=
 wp_cond_split (hF.eval hc) ht hf
theorem cq {f : FuncId} {fn : Func} {c : Code} {vs : List Value} {R : Ending -> World -> Prop} {n : Nat} (hf : P.funcs[f]? = some fn) (hb : fn.body = some c) (hn : fn.ntmps = n) (hl : Nat.ble vs.length n = true)
  (h:∀a,Frm a n (vs.zipIdx.map λp=>(p.2,p.1))->c.wp P (bodyPost P fn R) a w):Calls P f vs.toArray w R:=
 calls_of_wp hf hb (h _ (by subst hn;exact Frm.enter (by simpa[Nat.ble_eq]using hl)))
def rv (tmps:Array Value):ResultVar->Sem Value
 | .tmp t=>pure (tmps.getD t undef)
 | .cell x t=>do loadVar t (<-asAddr (tmps.getD x undef))
theorem gY (fn : Func) (tmps : Array Value) : results fn tmps = (do
  let vs <-fn.results.mapM (rv tmps)
  pure (if h:vs.size=1 then vs[0]else .tuple vs)):=by
 have :(λ(r:ResultVar)=>(match r with | .tmp t=>pure (tmps.getD t undef)| .cell a t=>do loadVar t (<-asAddr (tmps.getD a undef)):Sem Value))=rv tmps:=by funext r;cases r<;>rfl
 unfold results;rw[<-this];rfl
def RV (P:Program) (a:Act) (w:World) (r:ResultVar) (v:Value):Prop:=(rv a.tmps r).run P w= .ok v w
theorem RV.tmp {t:Tmp} {v:Value} (hF:Frm a n L) (hv:lk L t=some v):RV P a w (.tmp t) v:=by have :=hF.get t v hv;simp only[RV,rv,this,Sem.run_pure]
theorem RV.cellA {x : Tmp} {t T : TypeId} {d : TypeDesc} {b m : Nat} {c : Array Value} {f : Nat × Nat} (ht : P.underlying t = some d) (hf : TypeDesc.flat d = false) (hs : (P.info? t).map (·.size) = some m) (hF : Frm a n L) (hx : lk L x = some (.pointer (some ⟨b, 0, none⟩)))
  (hb:w.heap[b]? =some (.cells c T f)) (hc:c.size=m):RV P a w (.cell x t) (.agg c):=by
 have hx':=hF.get x _ hx;obtain⟨inf,hi,hz⟩:=zq.1 hs;have hag:(isAgg t).run P w= .ok true w:=by simp only[isAgg,Sem.run_bind,bQ ht,Result.andThen_ok];cases d<;>simp_all [TypeDesc.flat]
 have hl:=fN (P:=P) hb 0 m 0 #[] (by omega);simp only[RV,rv,hx',asAddr,loadVar,Sem.run_bind,Sem.run_pure,Result.andThen_ok,hag];simp [sizeOf,typeInfo,hi,hz,loadCells,hl];subst hc;simp
theorem bw {fn:Func} {r:ResultVar} {v:Value} (h:fn.results= #[r]) (h1:RV P a w r v):(results fn a.tmps).run P w= .ok v w:=by unfold RV at h1;rw[gY,h];simp [h1]
theorem ra {fn:Func} {r s:ResultVar} {v u:Value} (h:fn.results= #[r,s]) (h1:RV P a w r v) (h2:RV P a w s u):(results fn a.tmps).run P w= .ok (.tuple #[v,u]) w:=by unfold RV at h1 h2;rw[gY,h];simp [h1,h2]
theorem bv {fn:Func} {R:Value->World->Prop} {v:Value} (hF:Frm a n L) (hr:(results fn a.tmps).run P w= .ok v w) (h:R v w):bodyPost P fn (Ret R) .ret a w:=
 ⟨hF.defers,v,hr,v,rfl,h⟩
theorem dv {fn:Func} {R:Value->World->Prop} {v:Value} (hF:Frm a n L) (hr:(results fn a.tmps).run P w= .ok v w) (h:R v w):bodyPost P fn (Ret R) .normal a w:=
 ⟨hF.defers,v,hr,v,rfl,h⟩
end
end Go.Mi
namespace Go.Mi
open Go.RowKit
abbrev Gr (w w':World):Prop:=Below w.heap.size w w'
theorem Gr.refl (w:World):Gr w w:=Below.refl _ _
theorem Gr.trans {a b c:World} (h:Gr a b) (k:Gr b c):Gr a c:=Below.trans h (k.mono h.size)
inductive PS (G:World->World->Prop)where
 |val (v:Value)
 |rel (F:Value->World->Prop) (st:∀v w w',F v w->G w w'->F v w')
section
variable {G:World->World->Prop}
def PS.holds:PS G->Value->World->Prop
 | .val x,v,_=>v=x
 | .rel F _,v,w=>F v w
def PS.entry:PS G->Value->Value
 | .val x,_=>x
 | .rel _ _,v=>v
theorem PS.holds_mono {s:PS G} {v:Value} {w w':World} (h:s.holds v w) (g:G w w'):s.holds v w':=by
 cases s with
 |val x=>exact h
 |rel F st=>exact st v w w' h g
theorem PS.entry_eq {s:PS G} {v:Value} {w:World} (h:s.holds v w):s.entry v=v:=by
 cases s with
 |val x=>exact h.symm
 |rel F st=>rfl
end
structure Row (G:World->World->Prop)where
 us:List (Nat×Nat)
 zs:List (Nat×Value)
 ph:List Nat
 out:PS G
def cv (i:Nat):List Nat->Bool
 |[]=>false
 |x::r=>bif Nat.beq i x then true else cv i r
def uC:List Oper->List Nat->List Nat
 |[],acc=>acc
 |o::r,acc=>uC r (acc++[o.after.toList.foldl (λs e=>if Region.binds .any e then s|||2^e.on|||acc.getD e.on 0 else s) 0])
inductive dw (l:List Oper):Nat->Nat->Prop where
 |edge {i:Nat} {o:Oper} {e:Edge}:l[i]? =some o->e∈o.after.toList->Region.binds .any e=true->dw l i e.on
 |trans {i j k:Nat}:dw l i j->dw l j k->dw l i k
theorem mw (l : List Oper) : ∀ (r : List Oper) (acc : List Nat), (∀ j o, r[j]? = some o -> l[acc.length + j]? = some o) -> (∀ i j, (acc.getD i 0).testBit j = true -> dw l i j) ->
  ∀i j,((uC r acc).getD i 0).testBit j=true->dw l i j
 |[],acc,_,h=>h
 |o::r,acc,hl,h=>by
  have ho:l[acc.length]? =some o:=by simpa using hl 0 o (by simp)
  refine mw l r _ (λj o' hj=>by simpa[Nat.add_assoc,Nat.add_comm 1 j]using hl (j+1) o' (by simpa using hj)) ?_;intro i j hb;by_cases hi:i<acc.length
  ·rw[zG,zL hi]at hb;exact h i j (by rwa [zG])
  ·by_cases hi':i=acc.length
   ·subst hi';simp only[zG,zM (zH _),Nat.sub_self,List.getElem?_cons_zero,zT]at hb;have d : ∀ (es : List Edge) (s : Nat), (∀ e ∈ es, e ∈ o.after.toList) -> (∀ j, s.testBit j = true -> dw l acc.length j) ->
      ∀j,(es.foldl (λs e=>if Region.binds .any e then s|||2^e.on|||acc[e.on]?.getD 0 else s) s).testBit j=true->dw l acc.length j:=by
     intro es
     induction es with
     |nil=>intro s _ hs;exact hs
     |cons e es ih=>
      intro s b hs;simp only[List.foldl_cons];refine ih _ (λe' c=>b e' (zN _ c)) ?_;intro j hj;split at hj
      ·rename_i hbd;have a:dw l acc.length e.on:= .edge ho (b e (zS ..)) hbd;simp only[Nat.testBit_or,z8]at hj;rcases hj with(hj|hj)|hj
       ·exact hs j hj
       ·rw[Nat.testBit_two_pow]at hj;have :e.on=j:=by simpa using hj
        exact this▸a
       ·exact .trans a (h e.on j (by rwa [zG]))
      ·exact hs j hj
    exact d _ 0 (λe he=>he) (by simp) j hb
   ·have : (acc ++ [o.after.toList.foldl (λs e => if Region.binds .any e then s ||| 2 ^ e.on ||| acc.getD e.on 0 else s) 0]).getD i 0 = 0 := by rw[zG,zz (by simp;omega)];rfl
    rw[this]at hb;simp at hb
section
variable {G:World->World->Prop}
def uP (B:List Nat) (ss:List Nat) (i p:Nat):Bool:=
 ss.zipIdx.all λq=>bif Nat.blt q.2 p then !(B.getD q.1 0).testBit i&& !(Nat.beq q.1 i)else !(B.getD i 0).testBit q.1
def rM (l:List Oper) (B:List Nat) (ss:List Nat) (i:Nat) (o:Oper) (r:Row G):Bool:=
 r.us.all (λp=>(B.getD i 0).testBit p.1&&(match l[p.1]? with |some o'=>o'.dst==some p.2|none=>false))&&
 r.zs.all (λp=>l.zipIdx.all λq=>q.1.dst !=some p.1||q.2==i||(B.getD q.2 0).testBit i)&&
 (match o.guard with |none=>true|some (j,_)=>r.us.any λp=>p.1==j)&&
 (List.range (ss.length+1)).all (λp=> !uP B ss i p||cv p r.ph)
def okRows (l:List Oper) (B:List Nat) (ss:List Nat):Nat->List Oper->List (Row G)->Bool
 |_,[],[]=>true
 |i,o::os,r::rs=>rM l B ss i o r&&okRows l B ss (i+1) os rs
 |_,_,_=>false
def iw (n:Nat) (ss:List Nat) (l:List Oper) (rows:List (Row G)):Bool:=
 let B:=uC l []
 (l.zipIdx.all λq=>q.1.after.toList.all λe=> !(Region.binds .any e)||Nat.blt e.on q.2)&&
 (l.all λo=>match o.dst with |some d=>Nat.blt d n|none=>true)&&
 (l.zipIdx.all λq=>l.zipIdx.all λq'=>q.2==q'.2||q.1.dst==none||q.1.dst !=q'.1.dst)&&
 (ss.zipIdx.all λq=>Nat.blt q.1 l.length&&ss.zipIdx.all λq'=> !(Nat.blt q.2 q'.2)||(B.getD q'.1 0).testBit q.1)&&
 okRows l B ss 0 l rows
def Row.fr (rows:List (Row G)) (r:Row G) (vs:Nat->Value):List (Nat×Value):=
 r.us.map (λp=>(p.2,((rows[p.1]?).map (·.out.entry (vs p.1))).getD (vs p.1)))++r.zs
def Ob (P:Program) (n:Nat) (Wd:Nat->World->Prop) (ss:List Nat) (L0:List (Nat×Value)) (rows:List (Row G)) (i:Nat) (o:Oper) (r:Row G):Prop:=
 fV L0 r.zs/\∀(p:Nat),cv p r.ph=true->∀(vs:Nat->Value) (w:World),Wd p w->(∀u∈r.us,∀r',rows[u.1]? =some r'->r'.out.holds (vs u.1) w)->
  match o.guard with
  |none=>Ok1 P o n (r.fr rows vs) w λv w'=>Wd (bif cv i ss then p+1 else p) w'/\G w w'/\r.out.holds v w'
  |some (j,b)=>∃c rj,rows[j]? =some rj/\rj.out= .val (.bool c)/\(if c=b then Ok1 P o n (r.fr rows vs) w λv w'=>Wd (bif cv i ss then p+1 else p) w'/\G w w'/\r.out.holds v w' else cv i ss=false/\r.out.holds undef w)
def Obs (P:Program) (n:Nat) (Wd:Nat->World->Prop) (ss:List Nat) (L0:List (Nat×Value)) (rows:List (Row G)):Nat->List Oper->List (Row G)->Prop
 |i,o::os,r::rs=>Ob P n Wd ss L0 rows i o r/\Obs P n Wd ss L0 rows (i+1) os rs
 |_,_,_=>True
variable {P:Program} {n:Nat} {Wd:Nat->World->Prop} {ss:List Nat} {L0:List (Nat×Value)} {rows:List (Row G)}
theorem Obs.at:∀{os:List Oper} {rs:List (Row G)} {k:Nat},Obs P n Wd ss L0 rows k os rs->∀(i:Nat) (o:Oper) (r:Row G),os[i]? =some o->rs[i]? =some r->Ob P n Wd ss L0 rows (k+i) o r
 |o::os,r::rs,k,h,0,o',r',h1,h2=>by simp at h1 h2;subst h1;subst h2;exact h.1
 |o::os,r::rs,k,h,i+1,o',r',h1,h2=>by
  have :=Obs.at h.2 i o' r' (by simpa using h1) (by simpa using h2)
  rwa [show k+1+i=k+(i+1) by omega]at this
 |[],rs,_,_,i,o',r',h1,_=>by simp at h1
 |_::_,[],_,_,i,o',r',_,h2=>by simp at h2
theorem okRows.at {l:List Oper} {B:List Nat}:∀{os:List Oper} {rs:List (Row G)} {k:Nat},okRows l B ss k os rs=true->∀(i:Nat) (o:Oper) (r:Row G),os[i]? =some o->rs[i]? =some r->rM l B ss (k+i) o r=true
 |o::os,r::rs,k,h,0,o',r',h1,h2=>by simp at h1 h2;subst h1;subst h2;simp [okRows]at h;exact h.1
 |o::os,r::rs,k,h,i+1,o',r',h1,h2=>by
  simp only[okRows,zD]at h;have :=okRows.at h.2 i o' r' (by simpa using h1) (by simpa using h2)
  rwa [show k+1+i=k+(i+1) by omega]at this
 |[],rs,_,_,i,o',r',h1,_=>by simp at h1
 |_::_,[],_,_,i,o',r',_,h2=>by simp at h2
theorem okRows.len {l:List Oper} {B:List Nat}:∀{os:List Oper} {rs:List (Row G)} {k:Nat},okRows l B ss k os rs=true->rs.length=os.length
 |o::os,r::rs,k,h=>by
  simp only[okRows,zD]at h;simp [okRows.len h.2]
 |[],[],_,_=>rfl
 |[],_::_,_,h=>by simp [okRows]at h
 |_::_,[],_,h=>by simp [okRows]at h
structure PInv (l:List Oper) (n:Nat) (Wd:Nat->World->Prop) (ss:List Nat) (L0:List (Nat×Value)) (rows:List (Row G)) (listed:Array Bool) (p:Nat) (a:Act) (w:World):Prop where
 size:listed.size=l.length
 closed:∀i o,l[i]? =some o->listed.getD i false=true->∀e∈o.after.toList,Region.binds .any e=true->listed.getD e.on false=true
 ple:p<=ss.length
 phase:∀k s,ss[k]? =some s->(listed.getD s false=true↔k<p)
 frame:a.tmps.size=n
 defers:a.defers=[]
 wd:Wd p w
 done:∀i o r d,l[i]? =some o->rows[i]? =some r->listed.getD i false=true->o.dst=some d->r.out.holds (a.tmps.getD d undef) w
 rest:∀s v,lk L0 s=some v->(∀i o,l[i]? =some o->o.dst=some s->listed.getD i false=false)->a.tmps.getD s undef=v
variable {l:List Oper} {listed:Array Bool} {p:Nat} {a:Act} {w:World}
theorem PInv.ahead (h:PInv l n Wd ss L0 rows listed p a w) {i j:Nat} (ha:dw l i j):listed.getD i false=true->listed.getD j false=true:=by
 induction ha with
 |edge h1 h2 h3=>exact λhi=>h.closed _ _ h1 hi _ h2 h3
 |trans _ _ ih1 ih2=>exact λhi=>ih2 (ih1 hi)
theorem eV (h:PInv l n Wd ss L0 rows listed p a w) {i:Nat} (hr:i∈Region.ready .any l.toArray listed) {j:Nat} (ha:dw l i j):listed.getD j false=true:=by
 simp only[Region.ready,z_,Ap,zD]at hr;obtain⟨hi,_,hall⟩:=hr;have direct:∀(o:Oper) (e:Edge),l[i]? =some o->e∈o.after.toList->Region.binds .any e=true->listed.getD e.on false=true:=by intro o e ho he hb;simp only[zQ,ho,zW,zT,Af]at hall;have :=hall e (by simpa using he);simpa[hb]using this
 have key:∀i' j',dw l i' j'->i'=i->listed.getD j' false=true:=by
  intro i' j' ha'
  induction ha' with
  |edge h1 h2 h3=>intro e;subst e;exact direct _ _ h1 h2 h3
  |trans h1 h2 ih1 ih2=>exact λe=>h.ahead h2 (ih1 e)
 exact key i j ha rfl
end
end Go.Mi
namespace Go.Mi
open Go.RowKit
theorem mc:∀{L:List (Nat×Value)} {t:Nat} {v:Value},lk L t=some v->(t,v)∈L
 |(s,u)::r,t,v,h=>by
  simp only[lk]at h;by_cases e:s=t
  ·subst e;simp at h;subst h;exact zS ..
  ·rw[el e]at h;exact zN _ (mc h)
 |[],t,v,h=>by simp [lk]at h
theorem ig {L:List (Nat×Value)}:∀{zs:List (Nat×Value)},fV L zs->∀p∈zs,lk L p.1=some p.2
 |(s,u)::r,h,p,hp=>by
  rcases zx.1 hp with rfl|hp
  ·exact h.1
  ·exact ig h.2 p hp
 |[],_,p,hp=>by simp at hp
theorem memN_iff {i:Nat}:∀{l:List Nat},cv i l=true↔i∈l
 |[]=>by simp [cv]
 |x::r=>by
  simp only[cv];by_cases e:i=x
  ·subst e;simp
  ·rw[el e];simp [e,memN_iff (l:=r)]
section
variable {G:World->World->Prop}
structure OkAll (n:Nat) (ss:List Nat) (l:List Oper) (rows:List (Row G)):Prop where
 back:∀(i:Nat) (o:Oper),l[i]? =some o->∀e∈o.after.toList,Region.binds .any e=true->e.on<i
 slot:∀(i:Nat) (o:Oper) (d:Nat),l[i]? =some o->o.dst=some d->d<n
 once:∀(i j:Nat) (o o':Oper),l[i]? =some o->l[j]? =some o'->i≠j->o.dst≠none->o.dst≠o'.dst
 inn:∀(k s:Nat),ss[k]? =some s->s<l.length
 chain:∀(k k' s s':Nat),ss[k]? =some s->ss[k']? =some s'->k<k'->dw l s' s
 len:rows.length=l.length
 row:∀(i:Nat) (o:Oper) (r:Row G),l[i]? =some o->rows[i]? =some r->
  (∀p∈r.us,dw l i p.1/\∃o',l[p.1]? =some o'/\o'.dst=some p.2)/\
  (∀p∈r.zs,∀(j:Nat) (o':Oper),l[j]? =some o'->o'.dst=some p.1->j=i\/dw l j i)/\
  (∀j b,o.guard=some (j,b)->∃p∈r.us,p.1=j)/\
  (∀p,p<=ss.length->cv p r.ph=true\/∃k s,ss[k]? =some s/\((k<p/\(dw l s i\/s=i))\/(p<=k/\dw l i s)))
theorem dE {α:Type} {l:List α} {i:Nat} {o:α} (h:l[i]? =some o):(o,i)∈l.zipIdx:=by rw[An];exact⟨i,by simp [List.getElem?_zipIdx,h]⟩
theorem qm {α:Type} {l:List α} {q:α×Nat} (h:q∈l.zipIdx):l[q.2]? =some q.1:=by obtain⟨i,hi⟩:=An.1 h;simp only[List.getElem?_zipIdx,zq]at hi;obtain⟨x,hx,rfl⟩:=hi;simpa using hx
theorem blt_iff {a b:Nat}:Nat.blt a b=true↔a<b:=by rw[Nat.blt_eq]
theorem OkAll.of {n:Nat} {ss:List Nat} {l:List Oper} {rows:List (Row G)} (h:iw n ss l rows=true):OkAll n ss l rows:=by
 have hB:=mw l l [] (λj o hj=>by simpa using hj) (by simp);simp only[iw,zD,AL,z8]at h;obtain⟨⟨⟨⟨h1,h2⟩,h3⟩,h4⟩,h7⟩:=h;refine⟨?_,?_,?_,?_,?_,okRows.len h7,?_⟩
 ·intro i o ho e he hb;rcases h1 (o,i) (dE ho) e he with h|h
  ·rw[hb]at h;simp at h
  ·exact blt_iff.1 h
 ·intro i o d ho hd;have :=h2 o (zC ho);rw[hd]at this;exact blt_iff.1 this
 ·intro i j o o' hi hj c hn;have :=h3 (o,i) (dE hi) (o',j) (dE hj);rcases this with(h|h)|h
  ·exact absurd (by simpa using h) c
  ·exact absurd (by simpa using h) hn
  ·simpa using h
 ·intro k s hk;exact blt_iff.1 (h4 (s,k) (dE hk)).1
 ·intro k k' s s' hk f a;rcases(h4 (s,k) (dE hk)).2 (s',k') (dE f)with h|h
  ·rw[(blt_iff.2 a:Nat.blt k k'=true)]at h;simp at h
  ·exact hB _ _ h
 ·intro i o r hi hr;have :=okRows.at h7 i o r hi hr;simp only[Aj,rM,zD,AL,z8]at this;obtain⟨⟨⟨g1,g2⟩,g3⟩,g4⟩:=this;refine⟨λp hp=> ?_,λp hp j o' hj hd=> ?_,λj b hg=> ?_,λp hp=> ?_⟩
  ·obtain⟨b1,b2⟩:=g1 p hp;refine⟨hB _ _ b1,?_⟩;cases ho':l[p.1]? with
   |none=>rw[ho']at b2;simp at b2
   |some o'=>rw[ho']at b2;exact⟨o',rfl,by simpa using b2⟩
  ·rcases g2 p hp (o',j) (dE hj)with(h|h)|h
   ·simp [hd]at h
   ·exact .inl (by simpa using h)
   ·exact .inr (hB _ _ h)
  ·rw[hg]at g3;simp only[List.any_eq_true]at g3;obtain⟨p,hp,he⟩:=g3;exact⟨p,hp,by simpa using he⟩
  ·rcases g4 p (by simp;omega)with h|h
   ·right;simp only[uP,Aq,List.all_eq_false]at h;obtain⟨q,hq,hb⟩:=h;refine⟨q.2,q.1,qm hq,?_⟩;by_cases a:q.2<p
    ·left;rw[(blt_iff.2 a:Nat.blt q.2 p=true)]at hb;simp only[cond_true,Bool.not_eq_true,Ay,Bool.not_eq_false']at hb;refine⟨a,?_⟩;rcases hb with hb|hb
     ·exact .inl (hB _ _ hb)
     ·exact .inr (Am hb)
    ·right;have hf:Nat.blt q.2 p=false:=by
      cases hc:Nat.blt q.2 p with
      |false=>rfl
      |true=>exact absurd (blt_iff.1 hc) a
     rw[hf]at hb;simp only[cond_false,Bool.not_eq_true,Bool.not_eq_false']at hb;exact⟨by omega,hB _ _ hb⟩
   ·exact .inl h
variable {P:Program} {n:Nat} {Wd:Nat->World->Prop} {ss:List Nat} {L0:List (Nat×Value)} {l:List Oper} {rows:List (Row G)} {Q:Exit->Act->World->Prop} {listed:Array Bool} {p:Nat} {a:Act} {w:World}
theorem fC {listed:Array Bool} {i j:Nat} (hi:i<listed.size):(listed.setIfInBounds i true).getD j false=if j=i then true else listed.getD j false:=by
 by_cases h:j=i
 ·subst h;simp [hi]
 ·have :¬i=j:=λe=>h e.symm;simp [zJ this,h]
theorem dK {ops:Array Oper} {i:Nat} (h:i∈Region.ready .any ops listed):i<ops.size/\listed.getD i true=false:=by simp only[Region.ready,z_,Ap,zD]at h;exact⟨h.1,by simpa using h.2.1⟩
theorem dS {i:Nat} {o:Oper} (ho:l[i]? =some o) (h:i∈Region.ready .any l.toArray listed):∀e∈o.after.toList,Region.binds .any e=true->listed.getD e.on false=true:=by simp only[Region.ready,z_,Ap,zD]at h;obtain⟨_,_,hall⟩:=h;simp only[zQ,ho,zW,zT,Af]at hall;intro e he hb;have :=hall e (by simpa using he);simpa[hb]using this
theorem qd (ok : OkAll n ss l rows) (hobs : Obs P n Wd ss L0 rows 0 l rows) (h : PInv l n Wd ss L0 rows listed p a w) {i : Nat} (hr : i ∈ Region.ready .any l.toArray listed) :
  wpOp P l.toArray Q i (λa' w'=>∃p',PInv l n Wd ss L0 rows (listed.setIfInBounds i true) p' a' w') a w:=by
 obtain⟨aj,ak⟩:=dK hr;have D:i<l.length:=by simpa using aj
 have m:listed.getD i false=false:=by
  have :i<listed.size:=by rw[h.size];exact D
  simpa[this]using ak
 obtain⟨o,ho⟩:∃o,l[i]? =some o:=⟨_,zp D⟩;obtain⟨r,F⟩:∃r,rows[i]? =some r:=⟨_,zp (by rw[ok.len];exact D)⟩;obtain⟨M,ad,ag,ah⟩:=ok.row i o r ho F;have O:cv p r.ph=true:=by
  rcases ah p h.ple with h'|⟨k,s,hk,h'|h'⟩
  ·exact h'
  ·obtain⟨aa,h'⟩:=h';have hs:=(h.phase k s hk).2 aa;rcases h' with h'|h'
   ·have :=h.ahead h' hs;rw[m]at this;simp at this
   ·rw[h',m]at hs;simp at hs
  ·obtain⟨aa,h'⟩:=h';have hs:=(h.phase k s hk).1 (eV h hr h');omega
 obtain⟨X,T⟩:=hobs.at i o r ho F;rw[Aj]at T;have ae:=T p O
 let vs:Nat->Value:=λj=>a.tmps.getD (((l[j]?).bind (·.dst)).getD 0) undef
 have L:∀u∈r.us,vs u.1=a.tmps.getD u.2 undef/\listed.getD u.1 false=true:=by intro u hu;obtain⟨ha,o',A,H⟩:=M u hu;exact⟨by simp [vs,A,H],eV h hr ha⟩
 have y:∀u∈r.us,∀r',rows[u.1]? =some r'->r'.out.holds (vs u.1) w:=by intro u hu r' N;obtain⟨ha,o',A,H⟩:=M u hu;rw[(L u hu).1];exact h.done u.1 o' r' u.2 A N (L u hu).2 H
 have hF:Frm a n (r.fr rows vs):=by
  refine⟨h.frame,h.defers,λt v hv=> ?_⟩;have hm:=mc hv;simp only[Row.fr,zr,Av,Prod.mk.injEq]at hm;rcases hm with⟨u,hu,rfl,rfl⟩|hm
  ·obtain⟨_,o',A,_⟩:=M u hu;obtain⟨r',N⟩:∃r',rows[u.1]? =some r':=by
    refine⟨_,zp ?_⟩;rw[ok.len];rcases zF u.1 l.length with h'|h'
    ·exact h'
    ·simp [zz h']at A
   simp only[N,zW,zT];rw[PS.entry_eq (y u hu r' N),(L u hu).1]
  ·refine h.rest t v (ig X _ hm) λj o' hj hd=> ?_;rcases ad _ hm j o' hj hd with rfl|ha
   ·exact m
   ·cases f:listed.getD j false with
    |false=>rfl
    |true=>
     have :=h.ahead ha f;rw[m]at this;simp at this
 have af:i<listed.size:=by rw[h.size];exact D
 have g:∀j,(listed.setIfInBounds i true).getD j false=if j=i then true else listed.getD j false:=λj=>fC af
 -- the phase behind
 have C:(bif cv i ss then p+1 else p)<=ss.length/\∀k s,ss[k]? =some s->((listed.setIfInBounds i true).getD s false=true↔k<(bif cv i ss then p+1 else p)):=by
  have ac:∀k k':Nat,ss[k]? =some i->ss[k']? =some i->k=k':=by
   intro k k' hk Y;rcases Ax k k' with B|he|hgt
   ·have :=eV h hr (ok.chain k k' i i hk Y B);rw[m]at this;simp at this
   ·exact he
   ·have :=eV h hr (ok.chain k' k i i Y hk hgt);rw[m]at this;simp at this
  cases hmem:cv i ss with
  |false=>
   simp only[cond_false];refine⟨h.ple,λk s hk=> ?_⟩;have q:s≠i:=λe=>by
    have :i∈ss:=by subst e;exact zC hk
    rw[memN_iff.2 this]at hmem;simp at hmem
   rw[g,zK q];exact h.phase k s hk
  |true=>
   simp only[cond_true];obtain⟨k0,I⟩:=An.1 (memN_iff.1 hmem);have hk0l:k0<ss.length:=by
    rcases zF k0 ss.length with h'|h'
    ·exact h'
    ·simp [zz h']at I
   have h1:¬k0<p:=λB=>by have :=(h.phase k0 i I).2 B;rw[m]at this;simp at this
   have h2:∀k,k<k0->k<p:=by intro k hk;obtain⟨s,hs⟩:∃s,ss[k]? =some s:=⟨_,zp (by omega)⟩;exact(h.phase k s hs).1 (eV h hr (ok.chain k k0 s i hs I hk))
   have hpk:p=k0:=by
    have :=h.ple;rcases Ax p k0 with B|he|hgt
    ·have :=h2 p B;omega
    ·exact he
    ·omega
   refine⟨by omega,λk s hk=> ?_⟩;rw[g];by_cases hsi:s=i
   ·subst hsi;have :=ac k k0 hk I;rw[zX rfl];simp;omega
   ·rw[zK hsi,h.phase k s hk];have q:k≠k0:=λe=>by subst e;rw[I]at hk;exact hsi (by simpa using hk.symm)
    omega
 have S:∀v w',Wd (bif cv i ss then p+1 else p) w'->G w w'->r.out.holds v w'->∃p',PInv l n Wd ss L0 rows (listed.setIfInBounds i true) p' (a.put o.dst v) w':=by
  intro v w' U hg hv;refine⟨_,by simp [h.size],?_,C.1,C.2,?_,?_,U,?_,?_⟩
  ·intro j o' hj f e he hb;rw[g]at f⊢;split
   ·rfl
   ·split at f
    ·rename_i hji;subst hji;rw[ho]at hj;cases hj;exact dS ho hr e he hb
    ·exact h.closed j o' hj f e he hb
  ·cases hd:o.dst<;>simp [Act.put,h.frame]
  ·cases hd:o.dst<;>simp [Act.put,h.defers]
  ·intro j o' r' d hj z f hd;rw[g]at f;by_cases hji:j=i
   ·subst hji;rw[ho]at hj;cases hj;rw[F]at z;cases z;have V:=ok.slot _ _ _ ho hd;simp only[hd,Act.put];simpa[h.frame,V]using hv
   ·rw[zK hji]at f;have K:=h.done j o' r' d hj z f hd;have q:o.dst≠some d:=λe=>ok.once i j o o' ho hj (λx=>hji x.symm) (by rw[e];simp) (by rw[e,hd]);have :(a.put o.dst v).tmps.getD d undef=a.tmps.getD d undef:=by
     cases hod:o.dst with
     |none=>rfl
     |some d'=>
      have :d'≠d:=λe=>q (by rw[hod,e]);simp [Act.put,zJ this]
    rw[this];exact PS.holds_mono K hg
  ·intro s u hs J;have q:o.dst≠some s:=λe=>by have :=J i o ho e;rw[g,zX rfl]at this;simp at this
   have :(a.put o.dst v).tmps.getD s undef=a.tmps.getD s undef:=by
    cases hod:o.dst with
    |none=>rfl
    |some d'=>
     have :d'≠s:=λe=>q (by rw[hod,e]);simp [Act.put,zJ this]
   rw[this];refine h.rest s u hs λj o' hj hd=> ?_;have :=J j o' hj hd;rw[g]at this;split at this
   ·simp at this
   ·exact this
 have E:=ae vs w h.wd y;unfold wpOp;simp only[zQ,ho];cases hgu:o.guard with
 |none=>
  rw[hgu]at E;rw[zX (by simp [Region.wanted,hgu])];exact .inl (E a _ Q hF λv w' ⟨hw,hg,hv⟩=>S v w' hw hg hv)
 |some jb=>
  obtain⟨j,b⟩:=jb;rw[hgu]at E;obtain⟨c,rj,z,ab,hx⟩:=E;obtain⟨u,hu,W⟩:=ag j b hgu;obtain⟨ha,o',A,H⟩:=M u hu;have Z:a.tmps.getD u.2 undef= .bool c:=by have :=y u hu rj (by rw[W];exact z);rw[ab,(L u hu).1]at this;exact this
  have hy:yielded l.toArray a.tmps j=some c:=by
   subst W;have B:=ok.slot _ _ _ A H;have R:u.2<a.tmps.size:=by rw[h.frame];exact B
   have ai:a.tmps[u.2]? =some (.bool c):=by rw[Aw R];congr 1;simpa[R]using Z
   simp [yielded,A,H,ai]
  by_cases hcb:c=b
  ·subst hcb;simp only[if_true]at hx;rw[zX (by simp [Region.wanted,hgu,hy])];exact .inl (hx a _ Q hF λv w' ⟨hw,hg,hv⟩=>S v w' hw hg hv)
  ·rw[zK hcb]at hx;rw[zK (by simp [Region.wanted,hgu,hy,hcb])];have U:Wd (bif cv i ss then p+1 else p) w:=by rw[hx.1];exact h.wd
   -- nothing happens: the old facts stand as they stood
   refine⟨_,by simp [h.size],?_,C.1,C.2,?_,?_,U,?_,?_⟩
   ·intro j o' hj f e he hb;rw[g]at f⊢;split
    ·rfl
    ·split at f
     ·rename_i hji;subst hji;rw[ho]at hj;cases hj;exact dS ho hr e he hb
     ·exact h.closed j o' hj f e he hb
   ·cases hd:o.dst<;>simp [Act.put,h.frame]
   ·cases hd:o.dst<;>simp [Act.put,h.defers]
   ·intro j o' r' d hj z f hd;rw[g]at f;by_cases hji:j=i
    ·subst hji;rw[ho]at hj;cases hj;rw[F]at z;cases z;have V:=ok.slot _ _ _ ho hd;simp only[hd,Act.put];simpa[h.frame,V]using hx.2
    ·rw[zK hji]at f;have K:=h.done j o' r' d hj z f hd;have q:o.dst≠some d:=λe=>ok.once i j o o' ho hj (λx=>hji x.symm) (by rw[e];simp) (by rw[e,hd]);have :(a.put o.dst undef).tmps.getD d undef=a.tmps.getD d undef:=by
      cases hod:o.dst with
      |none=>rfl
      |some d'=>
       have :d'≠d:=λe=>q (by rw[hod,e]);simp [Act.put,zJ this]
     rw[this];exact K
   ·intro s u hs J;have q:o.dst≠some s:=λe=>by have :=J i o ho e;rw[g,zX rfl]at this;simp at this
    have :(a.put o.dst undef).tmps.getD s undef=a.tmps.getD s undef:=by
     cases hod:o.dst with
     |none=>rfl
     |some d'=>
      have :d'≠s:=λe=>q (by rw[hod,e]);simp [Act.put,zJ this]
    rw[this];refine h.rest s u hs λj o' hj hd=> ?_;have :=J j o' hj hd;rw[g]at this;split at this
    ·simp at this
    ·exact this
def left (m:Nat) (listed:Array Bool):Nat:=(List.range m).countP λi=> !listed.getD i false
theorem iB {m i:Nat} (hi:i<listed.size) (him:i<m) (hf:listed.getD i false=false):left m (listed.setIfInBounds i true)+1=left m listed:=by
 unfold left;have key:∀(xs:List Nat),xs.Nodup->i∈xs->(xs.countP λj=> !(listed.setIfInBounds i true).getD j false)+1=xs.countP λj=> !listed.getD j false:=by
  intro xs
  induction xs with
  |nil=>intro _ h;simp at h
  |cons x xs ih=>
   intro hn hx;rw[AP]at hn;by_cases hxi:x=i
   ·subst hxi;have hno:∀j∈xs,j≠x:=λj hj e=>hn.1 (e▸hj);have :(xs.countP λj=> !(listed.setIfInBounds x true).getD j false)=xs.countP λj=> !listed.getD j false:=by apply List.countP_congr;intro j hj;rw[fC hi,zK (hno j hj)]
    rw[List.countP_cons,List.countP_cons,this,fC hi,zX rfl,hf];simp
   ·have hix : i ∈ xs := by
     rcases zx.1 hx with e|e
     ·exact absurd e.symm hxi
     ·exact e
    have :=ih hn.2 hix;rw[List.countP_cons,List.countP_cons,fC hi,zK hxi];omega
 exact key _ List.nodup_range (by simpa using him)
structure Done (l:List Oper) (n:Nat) (Wd:Nat->World->Prop) (ss:List Nat) (L0:List (Nat×Value)) (rows:List (Row G)) (a:Act) (w:World):Prop where
 frame:a.tmps.size=n
 defers:a.defers=[]
 wd:Wd ss.length w
 done:∀(i:Nat) (o:Oper) (r:Row G) (d:Nat),l[i]? =some o->rows[i]? =some r->o.dst=some d->r.out.holds (a.tmps.getD d undef) w
 rest:∀s v,lk L0 s=some v->(∀(i:Nat) (o:Oper),l[i]? =some o->o.dst≠some s)->a.tmps.getD s undef=v
theorem qe (ok : OkAll n ss l rows) (hobs : Obs P n Wd ss L0 rows 0 l rows)
  (hend:∀a w,Done l n Wd ss L0 rows a w->Q .normal a w):
  ∀(fuel:Nat) (listed:Array Bool) (p:Nat) (a:Act) (w:World),PInv l n Wd ss L0 rows listed p a w->left l.length listed<=fuel->wpAny P .any l.toArray Q fuel listed a w:=by
 have c:∀(listed:Array Bool) (p:Nat) (a:Act) (w:World),PInv l n Wd ss L0 rows listed p a w->(∀i,i<l.length->listed.getD i false=true)->Q .normal a w:=by
  intro listed p a w h f;have hp:p=ss.length:=by
   rcases zF p ss.length with q|hge
   ·obtain⟨s,hs⟩:∃s,ss[p]? =some s:=⟨_,zp q⟩;have :=(h.phase p s hs).1 (f s (ok.inn p s hs));omega
   ·have :=h.ple;omega
  subst hp;refine hend a w ⟨h.frame,h.defers,h.wd,λi o r d ho hr hd=> ?_,λs v hs B=> ?_⟩
  ·refine h.done i o r d ho hr (f i ?_) hd;rcases zF i l.length with h'|h'
   ·exact h'
   ·simp [zz h']at ho
  ·exact h.rest s v hs λi o ho hd=>absurd hd (B i o ho)
 have t:∀(listed:Array Bool) (p:Nat) (a:Act) (w:World),PInv l n Wd ss L0 rows listed p a w->Region.ready .any l.toArray listed=[]->∀i,i<l.length->listed.getD i false=true:=by
  intro listed p a w h m i0 u;have :∀k i,i<=k->i<l.length->listed.getD i false=false->False:=by
   intro k
   induction k with
   |zero=>
    intro i C g x;have u:i=0:=by omega
    subst u;have ho:l[0]? =some l[0]:=zp g;have b:0∈Region.ready .any l.toArray listed:=by
     simp only[Region.ready,z_,Ap,zD];refine⟨by simpa using g,?_,?_⟩
     ·have :0<listed.size:=by rw[h.size];exact g
      simpa[this]using x
     ·simp only[zQ,ho,zW,zT,Af];intro e he;cases hbd:Region.binds .any e with
      |false=>simp
      |true=>have :=ok.back 0 _ ho e (by simpa using he) hbd;omega
    rw[m]at b;simp at b
   |succ k ihk=>
    intro i C g x;by_cases hlow:∃j,j<i/\listed.getD j false=false
    ·obtain⟨j,hj,D⟩:=hlow;exact ihk j (by omega) (by omega) D
    ·have ho:l[i]? =some l[i]:=zp g;have b:i∈Region.ready .any l.toArray listed:=by
      simp only[Region.ready,z_,Ap,zD];refine⟨by simpa using g,?_,?_⟩
      ·have :i<listed.size:=by rw[h.size];exact g
       simpa[this]using x
      ·simp only[zQ,ho,zW,zT,Af];intro e he;cases hbd:Region.binds .any e with
       |false=>simp
       |true=>
        have q:=ok.back i _ ho e (by simpa using he) hbd;cases hb:listed.getD e.on false with
        |true=>simp
        |false=>exact absurd ⟨e.on,q,hb⟩ hlow
     rw[m]at b;simp at b
  cases hb:listed.getD i0 false with
  |true=>rfl
  |false=>exact(this i0 i0 (zH _) u hb).elim
 intro fuel
 induction fuel with
 |zero=>
  intro listed p a w h hf;have f:∀i,i<l.length->listed.getD i false=true:=by
   intro i hi;have h0:left l.length listed=0:=by omega
   unfold left at h0;rw[AW]at h0;simpa using h0 i (by simpa using hi)
  refine⟨?_,c listed p a w h f⟩;unfold Region.ready;rw[AN];intro i hi;have z:i<l.length:=by simpa using hi
  have h1:=f i z;have h2:i<listed.size:=by rw[h.size];exact z
  have h3:listed.getD i true=true:=by simpa[h2]using h1
  rw[h3];simp
 |succ fuel ih=>
  intro listed p a w h hf;refine⟨λm=>c listed p a w h (t listed p a w h m),λi hi=> ?_⟩;refine wpOp_mono (λa' w' h'=> ?_) (qd (Q:=Q) ok hobs h hi);obtain⟨p',h'⟩:=h';refine ih _ p' a' w' h' ?_;have q:i<l.length:=by simpa using(dK hi).1
  have y:i<listed.size:=by rw[h.size];exact q
  have A:listed.getD i false=false:=by have :=(dK hi).2;simpa[y]using this
  have :=iB y q A;omega
end
end Go.Mi
namespace Go.Mi
open Go.RowKit
section
variable {G:World->World->Prop} {P:Program} {n:Nat} {Wd:Nat->World->Prop} {ss:List Nat} {L0:List (Nat×Value)} {l:List Oper} {rows:List (Row G)} {Q:Exit->Act->World->Prop} {listed:Array Bool} {a:Act} {w w':World}
def jA (vs:Nat->Value):Nat->List Oper->List (Row G)->List (Nat×Value)
 |i,o::os,r::rs=>match o.dst with
  |some d=>(d,r.out.entry (vs i))::jA vs (i+1) os rs
  |none=>jA vs (i+1) os rs
 |_,_,_=>[]
theorem iU {A B:List (Nat×Value)} {t:Nat}:lk (A++B) t=match lk A t with |some v=>some v|none=>lk B t:=by
 induction A with
 |nil=>simp [lk]
 |cons x A ih=>
  obtain⟨s,v⟩:=x;simp only[Ah,lk];by_cases e:s=t
  ·subst e;simp
  ·rw[el e];simpa using ih
theorem mb {vs : Nat -> Value} {t : Nat} {v : Value} : ∀ {os : List Oper} {rs : List (Row G)} {k : Nat}, lk (jA vs k os rs) t = some v ->
  ∃(i:Nat) (o:Oper) (r:Row G),os[i]? =some o/\rs[i]? =some r/\o.dst=some t/\v=r.out.entry (vs (k+i))
 |o::os,r::rs,k,h=>by
  simp only[jA]at h;cases hd:o.dst with
  |none=>
   rw[hd]at h;obtain⟨i,o',r',h1,h2,h3,h4⟩:=mb h;exact⟨i+1,o',r',by simpa using h1,by simpa using h2,h3,by rw[h4,show k+1+i=k+(i+1) by omega]⟩
  |some d=>
   rw[hd]at h;simp only[lk]at h;by_cases e:d=t
   ·subst e;simp at h;exact⟨0,o,r,by simp,by simp,hd,h.symm⟩
   ·rw[el e]at h;obtain⟨i,o',r',h1,h2,h3,h4⟩:=mb h;exact⟨i+1,o',r',by simpa using h1,by simpa using h2,h3,by rw[h4,show k+1+i=k+(i+1) by omega]⟩
 |[],rs,k,h=>by simp [jA,lk]at h
 |_::_,[],k,h=>by simp [jA,lk]at h
theorem iA {vs:Nat->Value} {t:Nat}:∀{os:List Oper} {rs:List (Row G)} {k:Nat},lk (jA vs k os rs) t=none->∀(i:Nat) (o:Oper),i<rs.length->os[i]? =some o->o.dst≠some t
 |o::os,r::rs,k,h,i,o',hi,ho=>by
  simp only[jA]at h;cases i with
  |zero=>
   simp at ho;subst ho;intro hd;rw[hd]at h;simp [lk]at h
  |succ i=>
   have h':lk (jA vs (k+1) os rs) t=none:=by
    cases hd:o.dst with
    |none=>rw[hd]at h;exact h
    |some d=>
     rw[hd]at h;simp only[lk]at h;by_cases e:d=t
     ·subst e;simp at h
     ·rw[el e]at h;exact h
   exact iA h' i o' (by simpa using hi) (by simpa using ho)
 |[],rs,k,h,i,o',hi,ho=>by simp at ho
 |_::_,[],k,h,i,o',hi,ho=>by simp at hi
theorem Done.frm (ok:OkAll n ss l rows) (h:Done l n Wd ss L0 rows a w):∃vs:Nat->Value,(∀(i:Nat) (o:Oper) (r:Row G),l[i]? =some o->rows[i]? =some r->o.dst≠none->r.out.holds (vs i) w)/\Frm a n (jA vs 0 l rows++L0):=by
 let vs:Nat->Value:=λj=>a.tmps.getD (((l[j]?).bind (·.dst)).getD 0) undef
 have hv:∀(i:Nat) (o:Oper) (r:Row G),l[i]? =some o->rows[i]? =some r->o.dst≠none->r.out.holds (vs i) w:=by
  intro i o r ho hr hd;cases hd':o.dst with
  |none=>exact absurd hd' hd
  |some d=>
   have :=h.done i o r d ho hr hd';simpa[vs,ho,hd']using this
 refine⟨vs,hv,h.frame,h.defers,λt v ht=> ?_⟩;rw[iU]at ht;cases ho:lk (jA vs 0 l rows) t with
 |some u=>
  rw[ho]at ht;simp at ht;subst ht;obtain⟨i,o,r,h1,h2,h3,h4⟩:=mb ho;rw[Aj]at h4;have :=hv i o r h1 h2 (by rw[h3];simp);rw[h4,PS.entry_eq this];simp [vs,h1,h3]
 |none=>
  rw[ho]at ht;refine h.rest t v ht λi o hio=> ?_;have hi:i<l.length:=by
   rcases zF i l.length with h'|h'
   ·exact h'
   ·simp [zz h']at hio
  exact iA ho i o (by rw[ok.len];exact hi) hio
theorem eR (G : World -> World -> Prop) {rows : List (Row G)} {id : Nat} (hm : P.follows .mixedOrders = true) (Wd : Nat -> World -> Prop) (ss : List Nat) (hok : iw n ss l rows = true) (hF : Frm a n L0) (h0 : Wd 0 { w with drawn := w.drawn + 1 })
  (hobs:Obs P n Wd ss L0 rows 0 l rows)
  (hend:∀a' w' vs,Wd ss.length w'->(∀(i:Nat) (o:Oper) (r:Row G),l[i]? =some o->rows[i]? =some r->o.dst≠none->r.out.holds (vs i) w')->Frm a' n (jA vs 0 l rows++L0)->Q .normal a' w'):
  (Code.region id l.toArray true).wp P Q a w:=by
 have ok:=OkAll.of hok;refine wp_region_any hm ?_;refine qe ok hobs (λa' w' hd=> ?_) _ _ 0 _ _ ?_ ?_
 ·obtain⟨vs,h1,h2⟩:=hd.frm ok;exact hend a' w' vs hd.wd h1 h2
 ·have h0' : ∀ j, (Array.replicate l.toArray.size false).getD j false = false := by intro j;simp only[AE,AK];split<;>rfl
  refine⟨by simp,λi o _ h=> ?_,by omega,λk s _=> ?_,hF.size,hF.defers,h0,λi o r d _ _ h=> ?_,λs v hs _=>hF.get s v hs⟩
  ·rw[h0']at h;simp at h
  ·rw[h0'];simp
  ·rw[h0']at h;simp at h
 ·unfold left;have :=AG (l:=List.range l.length) (p:=λi=> !(Array.replicate l.toArray.size false).getD i false);simpa using this
abbrev Tt:World->World->Prop:=λ_ _=>True
variable {o:Oper} {L:List (Nat×Value)} {v:Value} {A:World->Prop}
theorem Det.ob (hW:A w) (h:Det P o n L w v w):Ok1 P o n L w λv' w'=>A w'/\Tt w w'/\(PS.val (G:=Tt) v).holds v' w':=
 h.mono λ_ _ ⟨h1,h2⟩=>⟨h2▸hW,zo,h1⟩
theorem Ok1.obc (hW:∀w',Gr w w'->A w') (h:Ok1 P o n L w λv' w'=>v'=v/\Gr w w'):Ok1 P o n L w λv' w'=>A w'/\Tt w w'/\(PS.val (G:=Tt) v).holds v' w':=
 h.mono λ_ _ ⟨h1,h2⟩=>⟨hW _ h2,zo,h1⟩
theorem Ok1.obs {R:World->Prop} (hW:∀w',R w'->A w') (h:Ok1 P o n L w λ_ w'=>R w'):Ok1 P o n L w λv' w'=>A w'/\Tt w w'/\(PS.rel (G:=Tt) (λ_ _=>True) (λ_ _ _ _ _=>trivial)).holds v' w':=
 h.mono λ_ _ h2=>⟨hW _ h2,zo,zo⟩
end
end Go.Mi
namespace Go.Mi
open Go.RowKit
section
variable {P:Program} {n:Nat} {w w' w1:World} {Q:Exit->Act->World->Prop} {K M:Act->World->Prop} {a:Act} {L:List (Nat×Value)} {v:Value} {o:Oper}
theorem ce {p x:Nat} (h:cv p [x]=true):p=x:=by have :=memN_iff.1 h;simpa using this
theorem bA (h:K a w):Exit.then K Q .normal a w:=h
theorem bM {id:Nat} (h:Q (.exit id) a w):Exit.then K Q (.exit id) a w:=h
theorem bO (h:Q .ret a w):Exit.then K Q .ret a w:=h
theorem bR {id:Nat} (h:Q .normal a w):Exit.inBlock id Q .normal a w:=h
theorem cd {id:Nat} (h:Q .ret a w):Exit.inBlock id Q .ret a w:=h
theorem bZ {id:Nat} (h:Q .normal a w):Exit.inBlock id Q (.exit id) a w:=by simp only[Exit.inBlock,if_true];exact h
theorem kU {id id':Nat} (hn:id'≠id) (h:Q (.exit id') a w):Exit.inBlock id Q (.exit id') a w:=by simp only[Exit.inBlock,hn,if_false];exact h
theorem jE {x:Code} (M:Act->World->Prop) (h1:x.wp P (Exit.then M Q) a w) (h2:∀a w,M a w->K a w):x.wp P (Exit.then K Q) a w:=
 Code.wp_mono (λe a w q=>by cases e<;>first |exact h2 _ _ q|exact q) h1
theorem lE {ops : Array Oper} {rest : List Oper} {op : Op} {ty : TypeId} {pos : String} {af : Array Edge} {R : World -> Prop} (h : Ok1 P ⟨none, op, ty, pos, af, none⟩ n L w λ_ w' => R w') (hF : Frm a n L)
  (k:∀w' a',R w'->Frm a' n L->wpList P ops Q rest a' w'):wpList P ops Q (⟨none,op,ty,pos,af,none⟩::rest) a w:=
 lD h rfl hF λ_ w' hr=>k w' _ hr (hF.put_none _)
section
variable {ds:Option Tmp} {ty:TypeId} {pos:String} {af:Array Edge} {gu:Option (Nat×Bool)}
theorem ze {x y : Operand} {k : IntKind} {T e : TypeId} {len b j : Nat} {i : Int} (hT : P.underlying T = some (.array len e)) (hs : (P.info? e).map (·.size) = some 1) (hx : ev L x = some (.pointer (some ⟨b, 0, none⟩))) (hy : ev L y = some (.int k i))
  (hj:i=(j:Int)) (h1:j<len):Det P ⟨ds,.indexAddr T x y,ty,pos,af,gu⟩ n L w (.pointer (some ⟨b,j,none⟩)) w:=by
 subst hj;have :=ux (w:=w) (n:=n) (ds:=ds) (ty:=ty) (pos:=pos) (af:=af) (gu:=gu) hT hs hx hy (by omega) (by omega);simpa using this
theorem ej {x y : Operand} {k : IntKind} {T e : TypeId} {len cap b j : Nat} {i : Int} (hT : P.underlying T = some (.slice e)) (hs : (P.info? e).map (·.size) = some 1) (hx : ev L x = some (.slice (some ⟨b, 0, none⟩) len cap)) (hy : ev L y = some (.int k i))
  (hj:i=(j:Int)) (h1:j<len):Det P ⟨ds,.indexAddr T x y,ty,pos,af,gu⟩ n L w (.pointer (some ⟨b,j,none⟩)) w:=by
 subst hj;have :=sB (w:=w) (n:=n) (ds:=ds) (ty:=ty) (pos:=pos) (af:=af) (gu:=gu) hT hs hx hy (by omega) (by omega);simpa using this
theorem lr {x y : Operand} {k : IntKind} {T e : TypeId} {len cap b o j : Nat} {i : Int} (hT : P.underlying T = some (.slice e)) (hs : (P.info? e).map (·.size) = some 1) (hx : ev L x = some (.slice (some ⟨b, o, none⟩) len cap)) (hy : ev L y = some (.int k i))
  (hj:i=(j:Int)) (h1:j<len):Det P ⟨ds,.indexAddr T x y,ty,pos,af,gu⟩ n L w (.pointer (some ⟨b,o+j,none⟩)) w:=by
 subst hj;have :=sB (w:=w) (n:=n) (ds:=ds) (ty:=ty) (pos:=pos) (af:=af) (gu:=gu) hT hs hx hy (by omega) (by omega);simpa using this
end
end
end Go.Mi
namespace Go.Mi
theorem iz {p x:Nat} {r:List Nat} (h:cv p (x::r)=true):p=x\/cv p r=true:=by
 rcases zx.1 (memN_iff.1 h)with h|h
 ·exact .inl h
 ·exact .inr (memN_iff.2 h)
theorem dV {P:Program} {o:Oper} {n:Nat} {L:List (Nat×Value)} {w:World} {b c:Bool} (h:Det P o n L w (.bool b) w) (e:b=c):Det P o n L w (.bool c) w:=e▸h
theorem yq {P:Program} {o:Oper} {n:Nat} {L:List (Nat×Value)} {w w2:World} {k:IntKind} {x y:Int} (h:Det P o n L w (.int k x) w2) (e:x=y):Det P o n L w (.int k y) w2:=e▸h
end Go.Mi
namespace Go.Mi
end Go.Mi
namespace Go.Mi
end Go.Mi
namespace Go.Mi
open Go.RowKit
section
variable {P:Program} {w w0:World} {n:Nat} {L:List (Nat×Value)} {ds:Option Tmp} {ty:TypeId} {pos:String} {af:Array Edge} {gu:Option (Nat×Bool)}
theorem eJ (d:Nat) {a b:Bool} {t:TypeId} (ht:P.underlying t=some .bool):(Op.equalIn (d+1) t (.bool a) (.bool b)).run P w= .ok (a==b) w:=by simp [Op.equalIn,bQ ht]
theorem j6 {a b:Bool} {t:TypeId} (ht:P.underlying t=some .bool):(Op.equal t (.bool a) (.bool b)).run P w= .ok (a==b) w:=
 eJ 9999 ht
theorem wS {x y:Operand} {a b:Bool} {t t':TypeId} (ht:P.underlying t=some .bool) (hx:ev L x=some (.bool a)) (hy:ev L y=some (.bool b)):Det P ⟨ds,.binOp .neq t x y t',ty,pos,af,gu⟩ n L w (.bool (!(a==b))) w:=
 Det.of_run λa' hF=>by
  have h1:(binOp .neq t (.bool a) (.bool b)).run P w= .ok (.bool (!(a==b))) w:=by show(Op.equal t (.bool a) (.bool b)>>=λr=>pure (Value.bool !r)).run P w=_;rw[Sem.run_bind,j6 ht];rfl
  simp [execOp,hF.eval hx,hF.eval hy,eqGuard,h1]
end
end Go.Mi
