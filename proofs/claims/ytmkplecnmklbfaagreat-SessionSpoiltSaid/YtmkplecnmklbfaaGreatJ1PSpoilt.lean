/- General lemmas, walks. -/
import Derived.Tactics
import Derived.Orders
import Derived.Below
import Derived.Laws.Cells
import Derived.Laws.StructEq
import Derived.Laws.BytesString
import Derived.ChangeKeysEq
import Derived.MapKept
import Derived.Maps.AppendAt
import Derived.Laws.Strings
set_option maxRecDepth 100000
set_option maxHeartbeats 1000000
set_option linter.unusedSimpArgs false
set_option linter.unusedVariables false
set_option linter.unnecessarySimpa false
set_option linter.unusedSectionVars false
namespace Go
theorem aa:type_of% @trivial:=trivial
theorem ab:type_of% @if_pos:=if_pos
theorem ah:type_of% @List.length_append:=List.length_append
theorem aj:type_of% @if_neg:=if_neg
theorem ak:type_of% @Option.map_eq_some_iff:=Option.map_eq_some_iff
theorem al:type_of% @List.getD_eq_getElem?_getD:=List.getD_eq_getElem?_getD
theorem am:type_of% @List.getElem?_eq_getElem:=List.getElem?_eq_getElem
theorem an:type_of% @Nat.le_refl:=Nat.le_refl
theorem ao:type_of% @List.length_take:=List.length_take
theorem ap:type_of% @Bool.and_eq_true:=Bool.and_eq_true
theorem aq:type_of% @Nat.eq_of_beq_eq_true:=Nat.eq_of_beq_eq_true
theorem au:type_of% @List.length_drop:=List.length_drop
theorem av:type_of% @List.length_nil:=List.length_nil
theorem aw:type_of% @List.length_cons:=List.length_cons
theorem ax:type_of% @List.all_eq_true:=List.all_eq_true
theorem ay:type_of% @Nat.blt_eq:=Nat.blt_eq
theorem az:type_of% @List.length_replicate:=List.length_replicate
theorem a_:type_of% @List.mem_cons_of_mem:=List.mem_cons_of_mem
theorem bc:type_of% @List.flatten_cons:=List.flatten_cons
theorem bd:type_of% @Nat.not_lt_zero:=Nat.not_lt_zero
theorem be:type_of% @Option.bind_eq_some_iff:=Option.bind_eq_some_iff
theorem bf:type_of% @List.getElem?_eq_none:=List.getElem?_eq_none
theorem bg:type_of% @List.map_cons:=List.map_cons
theorem bh:type_of% @Int.toNat_natCast:=Int.toNat_natCast
theorem bm:type_of% @List.eq_nil_of_length_eq_zero:=List.eq_nil_of_length_eq_zero
theorem bn:type_of% @List.mem_append:=List.mem_append
theorem bo:type_of% @List.mem_singleton:=List.mem_singleton
theorem bp:type_of% @List.take_of_length_le:=List.take_of_length_le
theorem bq:type_of% @Nat.le_of_ble_eq_true:=Nat.le_of_ble_eq_true
theorem br:type_of% @Nat.zero_le:=Nat.zero_le
theorem bu:type_of% @Nat.zero_add:=Nat.zero_add
theorem bw:type_of% @List.append_assoc:=List.append_assoc
theorem bz:type_of% @List.mem_cons_self:=List.mem_cons_self
theorem b_:type_of% @Nat.le_trans:=Nat.le_trans
theorem ca:type_of% @Nat.lt_of_lt_of_le:=Nat.lt_of_lt_of_le
theorem cb:type_of% @Int.eq_ofNat_of_zero_le:=Int.eq_ofNat_of_zero_le
theorem cd:type_of% @List.flatten_nil:=List.flatten_nil
theorem ce:type_of% @List.map_append:=List.map_append
theorem cg:type_of% @List.length_map:=List.length_map
theorem ci:type_of% @Nat.lt_or_ge:=Nat.lt_or_ge
theorem cj:type_of% @of_decide_eq_true:=of_decide_eq_true
theorem ck:type_of% @List.take_append_of_le_length:=List.take_append_of_le_length
theorem co:type_of% @Array.length_toList:=Array.length_toList
theorem cq:type_of% @not_not_intro:=not_not_intro
theorem cr:type_of% @List.mem_map:=List.mem_map
theorem cv:type_of% @List.mem_of_mem_take:=List.mem_of_mem_take
theorem cw:type_of% @List.mem_of_mem_drop:=List.mem_of_mem_drop
theorem cx:type_of% @Nat.mul_le_mul_right:=Nat.mul_le_mul_right
theorem cz:type_of% @List.mem_append_right:=List.mem_append_right
theorem c_:type_of% @List.length_set:=List.length_set
theorem da:type_of% @List.take_succ_eq_append_getElem:=List.take_succ_eq_append_getElem
theorem db:type_of% @List.getElem?_toArray:=List.getElem?_toArray
theorem dc:type_of% @List.getElem?_take:=List.getElem?_take
theorem de:type_of% @List.flatten_append:=List.flatten_append
theorem df:type_of% @List.getElem?_append_right:=List.getElem?_append_right
theorem dg:type_of% @List.take_append_drop:=List.take_append_drop
theorem dh:type_of% @List.getElem?_drop:=List.getElem?_drop
theorem di:type_of% @Nat.mod_lt:=Nat.mod_lt
theorem dj:type_of% @List.getElem?_append_left:=List.getElem?_append_left
theorem dl:type_of% @Array.getElem?_setIfInBounds_ne:=Array.getElem?_setIfInBounds_ne
theorem dm:type_of% @List.drop_eq_nil_of_le:=List.drop_eq_nil_of_le
theorem dn:type_of% @congrArg:=congrArg
theorem dp:type_of% @Nat.lt_succ_self:=Nat.lt_succ_self
theorem dq:type_of% @Option.ne_none_iff_exists':=Option.ne_none_iff_exists'
theorem dt:type_of% @Int.natCast_nonneg:=Int.natCast_nonneg
theorem du:type_of% @List.drop_append_of_le_length:=List.drop_append_of_le_length
theorem dw:type_of% @List.getElem?_zip_eq_some:=List.getElem?_zip_eq_some
theorem dx:type_of% @List.nil_append:=List.nil_append
theorem dz:type_of% @Bool.false_and:=Bool.false_and
theorem d_:type_of% @List.length_range:=List.length_range
theorem ee:type_of% @List.mem_of_getElem?:=List.mem_of_getElem?
theorem ef:type_of% @Nat.shiftRight_eq_div_pow:=Nat.shiftRight_eq_div_pow
theorem eg:type_of% @Array.getElem?_eq_none:=Array.getElem?_eq_none
theorem eh:type_of% @Bool.and_false:=Bool.and_false
theorem ei:type_of% @Nat.min_eq_left:=Nat.min_eq_left
theorem ej:type_of% @Option.getD_some:=Option.getD_some
theorem el:type_of% @List.mem_range:=List.mem_range
theorem eo:type_of% @List.getElem?_map:=List.getElem?_map
theorem et:type_of% @Nat.beq_refl:=Nat.beq_refl
theorem eu:type_of% @List.mem_append_left:=List.mem_append_left
theorem ew:type_of% @Option.map_some:=Option.map_some
theorem ey:type_of% @Nat.add_zero:=Nat.add_zero
theorem ez:type_of% @List.mem_cons:=List.mem_cons
theorem e_:type_of% @List.take_length:=List.take_length
theorem fa:type_of% @Int.natCast_mul:=Int.natCast_mul
theorem fb:type_of% @Nat.succ_mul:=Nat.succ_mul
theorem fc:type_of% @Nat.eq_zero_or_pos:=Nat.eq_zero_or_pos
theorem fe:type_of% @BitVec.toNat_ofInt:=BitVec.toNat_ofInt
theorem ff:type_of% @List.take_append:=List.take_append
theorem fg:type_of% @List.map_nil:=List.map_nil
theorem fh:type_of% @Bool.not_eq_true':=Bool.not_eq_true'
theorem fk:type_of% @Array.isEmpty_iff:=Array.isEmpty_iff
theorem fm:type_of% @List.append_nil:=List.append_nil
theorem fo:type_of% @Option.isNone_iff_eq_none:=Option.isNone_iff_eq_none
theorem fu:type_of% @Nat.ble_eq_true_of_le:=Nat.ble_eq_true_of_le
theorem fv:type_of% @List.zipIdx_cons:=List.zipIdx_cons
theorem fw:type_of% @List.drop_append:=List.drop_append
theorem f_:type_of% @List.getElem?_append:=List.getElem?_append
theorem ga:type_of% @Nat.mul_one:=Nat.mul_one
theorem gb:type_of% @List.getElem?_cons_zero:=List.getElem?_cons_zero
theorem gd:type_of% @List.take_succ_cons:=List.take_succ_cons
theorem ge:type_of% @List.mem_filterMap:=List.mem_filterMap
theorem gh:type_of% @Array.getElem?_toList:=Array.getElem?_toList
theorem gi:type_of% @List.ext_getElem?:=List.ext_getElem?
theorem gj:type_of% @Nat.one_mul:=Nat.one_mul
theorem gk:type_of% @Option.isSome_iff_exists:=Option.isSome_iff_exists
theorem gl:type_of% @List.take_zero:=List.take_zero
theorem gp:type_of% @List.cons_append:=List.cons_append
theorem gq:type_of% @BitVec.eq_of_getLsbD_eq:=BitVec.eq_of_getLsbD_eq
theorem gr:type_of% @List.getElem_mem:=List.getElem_mem
theorem gt:type_of% @List.foldl_cons:=List.foldl_cons
theorem gv:type_of% @List.mem_filter:=List.mem_filter
theorem gw:type_of% @List.nodup_cons:=List.nodup_cons
theorem gx:type_of% @Nat.add_assoc:=Nat.add_assoc
theorem gy:type_of% @Nat.lt_irrefl:=Nat.lt_irrefl
theorem gz:type_of% @Array.getElem?_modify:=Array.getElem?_modify
theorem g_:type_of% @BitVec.eq_of_toNat_eq:=BitVec.eq_of_toNat_eq
theorem h_:type_of% @List.nodup_append:=List.nodup_append
theorem ic:type_of% @Nat.or_lt_two_pow:=Nat.or_lt_two_pow
theorem ig:type_of% @List.drop_zero:=List.drop_zero
theorem ij:type_of% @Nat.pow_le_pow_right:=Nat.pow_le_pow_right
theorem il:type_of% @List.map_toArray:=List.map_toArray
theorem io:type_of% @List.ext_getElem:=List.ext_getElem
theorem iq:type_of% @Array.toList_map:=Array.toList_map
theorem ir:type_of% @List.mem_flatten:=List.mem_flatten
theorem iu:type_of% @List.drop_succ_cons:=List.drop_succ_cons
theorem iv:type_of% @Bool.false_eq_true:=Bool.false_eq_true
theorem iw:type_of% @Nat.zero_mul:=Nat.zero_mul
theorem ix:type_of% @List.map_map:=List.map_map
theorem iy:type_of% @Bool.true_and:=Bool.true_and
theorem iz:type_of% @Nat.add_mul:=Nat.add_mul
end Go
namespace Go.Mi
open Go.RowKit
def lk:List (Nat×Value)->Nat->Option Value
 |[],_=>none
 |(s,v)::r,t=>bif Nat.beq s t then some v else lk r t
theorem BL {s t:Nat} (h:¬s=t):Nat.beq s t=false:=by
 cases e:Nat.beq s t with
 |false=>rfl
 |true=>exact absurd (aq e) h
class Dfr where
 ds:List Deferred
instance dfr0:Dfr:=⟨[]⟩
variable [Dfr]
structure Frm (a:Act) (n:Nat) (L:List (Nat×Value)):Prop where
 size:a.tmps.size=n
 defers:a.defers=Dfr.ds
 get:∀t v,lk L t=some v->a.tmps.getD t undef=v
def ev (L:List (Nat×Value)):Operand->Option Value
 | .tmp t=>lk L t
 | .const v=>some v
 | .global g=>some (.pointer (some ⟨g,0,none⟩))
 | .func f=>some (.func (.func f) #[] #[])
def m5 (L:List (Nat×Value)):List Operand->Option (List Value)
 |[]=>some []
 |x::r=>match ev L x,m5 L r with
  |some v,some vs=>some (v::vs)
  |_,_=>none
theorem Frm.eval {a:Act} {n:Nat} {L:List (Nat×Value)} (h:Frm a n L) {x:Operand} {v:Value} (hx:ev L x=some v):a.eval x=v:=by
 cases x with
 |tmp t=>exact h.get t v hx
 |const u=>simpa[ev,Act.eval]using hx
 |global g=>simpa[ev,Act.eval]using hx
 |func f=>simpa[ev,Act.eval]using hx
theorem Frm.evals {a:Act} {n:Nat} {L:List (Nat×Value)} (h:Frm a n L):∀{xs:List Operand} {vs:List Value},m5 L xs=some vs->xs.map a.eval=vs
 |[],vs,hx=>by simpa[m5]using hx
 |x::r,vs,hx=>by
  simp only[m5]at hx;split at hx
  ·rename_i v us h1 h2;simp only[Option.some.injEq]at hx;subst hx;simp [h.eval h1,h.evals h2]
  ·simp at hx
theorem Frm.enter {n : Nat} {vs : List Value} (hD : Dfr.ds = ([] : List Deferred)) (hn : vs.length <= n) :
  Frm {tmps:=vs.toArray++Array.replicate (n-vs.toArray.size) undef,defers:=[]} n (vs.zipIdx.map λp=>(p.2,p.1)):=by
 refine⟨by simp;omega,hD.symm,?_⟩;intro t v hv;have key:∀(l:List Value) (k:Nat),lk ((l.zipIdx k).map λp=>(p.2,p.1)) t=some v->k<=t/\l[t-k]? =some v:=by
  intro l
  induction l with
  |nil=>intro k h;simp [lk]at h
  |cons x l ih=>
   intro k h;simp only[fv,bg,lk]at h;by_cases e:k=t
   ·subst e;simp at h;simp [h]
   ·have :Nat.beq k t=false:=BL e;simp only[this,cond_false]at h;obtain⟨h1,h2⟩:=ih (k+1) h;refine⟨by omega,?_⟩;have :t-k=(t-(k+1))+1:=by omega
    rw[this];simpa using h2
 obtain⟨_,h2⟩:=key vs 0 hv;simp at h2;have hl:t<vs.length:=by
  rcases ci t vs.length with h|h
  ·exact h
  ·simp [bf h]at h2
 have h3:vs[t]=v:=by simpa[am hl]using h2
 simp [Array.getElem?_append,hl,h3]
def Ok1 (P:Program) (o:Oper) (n:Nat) (L:List (Nat×Value)) (w:World) (R:Value->World->Prop):Prop:=
 ∀(a:Act) (K:Act->World->Prop) (Q:Exit->Act->World->Prop),Frm a n L->(∀v w',R v w'->K (a.put o.dst v) w')->o.wp P a w K Q
def Det (P:Program) (o:Oper) (n:Nat) (L:List (Nat×Value)) (w:World) (v:Value) (w2:World):Prop:=
 Ok1 P o n L w λv' w'=>v'=v/\w'=w2
section
variable {P:Program} {ops:Array Oper} {Q:Exit->Act->World->Prop} {a:Act} {w w2:World} {rest:List Oper} {n:Nat} {L:List (Nat×Value)} {v:Value}
theorem Ok1.mono {o:Oper} {R R':Value->World->Prop} (h:Ok1 P o n L w R) (hr:∀v w',R v w'->R' v w'):Ok1 P o n L w R':=
 λa K Q hF k=>h a K Q hF λv w' r=>k v w' (hr v w' r)
theorem Det.of_run {o:Oper} (h:∀a,Frm a n L->(execOp a.eval o).run P w= .ok (.value v) w2):Det P o n L w v w2:=by intro a K Q hF k;simp only[Oper.wp,h a hF,Oper.upon_value];exact k _ _ ⟨rfl,rfl⟩
theorem Det.of_skip {o:Oper} (h:∀a,Frm a n L->(execOp a.eval o).run P w= .ok .skip w2):Det P o n L w undef w2:=by intro a K Q hF k;simp only[Oper.wp,h a hF,Oper.upon_skip];exact k _ _ ⟨rfl,rfl⟩
end
end Go.Mi
namespace Go.Mi
open Go.RowKit
variable [Dfr]
theorem Dm (b o i:Nat):(⟨b,o,none⟩:Addr).add i=⟨b,o+i,none⟩:=by unfold Addr.add;split<;>simp_all
theorem Er {x:Int} (h1: -9223372036854775808<=x) (h2:x<=9223372036854775807):IntKind.wrap .i64 x=x:=by simp [IntKind.wrap,IntKind.bits,IntKind.signed];split<;>omega
theorem Uf {x:Int} (h1:0<=x) (h2:x<=18446744073709551615):IntKind.wrap .u64 x=x:=by simp [IntKind.wrap,IntKind.bits,IntKind.signed];omega
theorem Gg (x:Int):IntKind.wrap .u16 x=x%65536:=by simp [IntKind.wrap,IntKind.bits,IntKind.signed]
theorem FQ (x:Int):IntKind.wrap .u8 x=x%256:=by simp [IntKind.wrap,IntKind.bits,IntKind.signed]
theorem Zj (x:Int):IntKind.wrap .u32 x=x%4294967296:=by simp [IntKind.wrap,IntKind.bits,IntKind.signed]
theorem cT {x y:Int} (h:0<=x):x.tdiv y=x/y:=Int.tdiv_eq_ediv_of_nonneg h
section
variable {P:Program} {w:World} {n:Nat} {L:List (Nat×Value)} {ds:Option Tmp} {ty:TypeId} {pos:String} {af:Array Edge} {gu:Option (Nat×Bool)}
theorem xM {x:Operand} {v:Value} (hx:ev L x=some v):Det P ⟨ds,.move x,ty,pos,af,gu⟩ n L w v w:=
 Det.of_run λa hF=>by simp [execOp,hF.eval hx]
theorem kG {x:Operand} {v:Value} (hx:ev L x=some v):Det P ⟨ds,.assign x,ty,pos,af,gu⟩ n L w v w:=
 Det.of_run λa hF=>by simp [execOp,hF.eval hx]
theorem kE {c x y:Operand} {b:Bool} {v:Value} (hc:ev L c=some (.bool b)) (hv:ev L (bif b then x else y)=some v):Det P ⟨ds,.pick c x y,ty,pos,af,gu⟩ n L w v w:=
 Det.of_run λa hF=>by cases b<;>simp at hv<;>simp [execOp,hF.eval hc,hF.eval hv,asBool]
theorem Abb {x:Operand} {b:Bool} {t:TypeId} (hx:ev L x=some (.bool b)):Det P ⟨ds,.unOp .not t x,ty,pos,af,gu⟩ n L w (.bool !b) w:=
 Det.of_run λa hF=>by simp [execOp,hF.eval hx,Op.unary]
section
variable {x y:Operand} {k:IntKind} {p q r:Int} {t t':TypeId}
theorem Abr (hx:ev L x=some (.int k p)) (hy:ev L y=some (.int k q)) (hr:k.wrap (p+q)=r):Det P ⟨ds,.binOp .add t x y t',ty,pos,af,gu⟩ n L w (.int k r) w:=
 Det.of_run λa hF=>by subst hr;simp [execOp,hF.eval hx,hF.eval hy,eqGuard,binOp,Op.intArith]
theorem Aa6 (hx:ev L x=some (.int k p)) (hy:ev L y=some (.int k q)) (hr:k.wrap (p-q)=r):Det P ⟨ds,.binOp .sub t x y t',ty,pos,af,gu⟩ n L w (.int k r) w:=
 Det.of_run λa hF=>by subst hr;simp [execOp,hF.eval hx,hF.eval hy,eqGuard,binOp,Op.intArith]
theorem Abf (hx:ev L x=some (.int k p)) (hy:ev L y=some (.int k q)) (hr:k.wrap (p*q)=r):Det P ⟨ds,.binOp .mul t x y t',ty,pos,af,gu⟩ n L w (.int k r) w:=
 Det.of_run λa hF=>by subst hr;simp [execOp,hF.eval hx,hF.eval hy,eqGuard,binOp,Op.intArith]
theorem Aba (hx:ev L x=some (.int k p)) (hy:ev L y=some (.int k q)) (h0:q≠0) (hr:k.wrap (p.tdiv q)=r):Det P ⟨ds,.binOp .quo t x y t',ty,pos,af,gu⟩ n L w (.int k r) w:=
 Det.of_run λa hF=>by subst hr;simp [execOp,hF.eval hx,hF.eval hy,eqGuard,binOp,Op.intDiv,h0]
theorem Aa9 (hx:ev L x=some (.int k p)) (hy:ev L y=some (.int k q)) (h0:q≠0) (hr:p.tmod q=r):Det P ⟨ds,.binOp .rem t x y t',ty,pos,af,gu⟩ n L w (.int k r) w:=
 Det.of_run λa hF=>by subst hr;simp [execOp,hF.eval hx,hF.eval hy,eqGuard,binOp,Op.intDiv,h0]
theorem Abq (hx:ev L x=some (.int k p)) (hy:ev L y=some (.int k q)) (hr:k.wrap (BitVec.ofInt k.bits p&&&BitVec.ofInt k.bits q).toNat=r):Det P ⟨ds,.binOp .and t x y t',ty,pos,af,gu⟩ n L w (.int k r) w:=
 Det.of_run λa hF=>by subst hr;simp [execOp,hF.eval hx,hF.eval hy,eqGuard,binOp,Op.intBits]
theorem Ab7 (hx:ev L x=some (.int k p)) (hy:ev L y=some (.int k q)) (hr:k.wrap (BitVec.ofInt k.bits p|||BitVec.ofInt k.bits q).toNat=r):Det P ⟨ds,.binOp .or t x y t',ty,pos,af,gu⟩ n L w (.int k r) w:=
 Det.of_run λa hF=>by subst hr;simp [execOp,hF.eval hx,hF.eval hy,eqGuard,binOp,Op.intBits]
theorem Aa5 (hx:ev L x=some (.int k p)) (hy:ev L y=some (.int k q)) (hr:k.wrap (BitVec.ofInt k.bits p^^^BitVec.ofInt k.bits q).toNat=r):Det P ⟨ds,.binOp .xor t x y t',ty,pos,af,gu⟩ n L w (.int k r) w:=
 Det.of_run λa hF=>by subst hr;simp [execOp,hF.eval hx,hF.eval hy,eqGuard,binOp,Op.intBits]
theorem Aa8 {k' : IntKind} (hx : ev L x = some (.int k p)) (hy : ev L y = some (.int k' q)) (h0 : 0 <= q) (hr : k.wrap (p * 2 ^ (min q.toNat k.bits)) = r) : Det P ⟨ds, .binOp .shl t x y t', ty, pos, af, gu⟩ n L w (.int k r) w :=
  Det.of_run λa hF => by subst hr; have : ¬ q < 0 :=(by omega);simp [execOp,hF.eval hx,hF.eval hy,eqGuard,binOp,Op.shift,this]
theorem Aa7 {k' : IntKind} (hx : ev L x = some (.int k p)) (hy : ev L y = some (.int k' q)) (h0 : 0 <= q) (hr : p.fdiv (2 ^ (min q.toNat k.bits)) = r) : Det P ⟨ds, .binOp .shr t x y t', ty, pos, af, gu⟩ n L w (.int k r) w :=
  Det.of_run λa hF => by subst hr; have : ¬ q < 0 :=(by omega);simp [execOp,hF.eval hx,hF.eval hy,eqGuard,binOp,Op.shift,this]
theorem Abj (hx:ev L x=some (.int k p)) (hy:ev L y=some (.int k q)):Det P ⟨ds,.binOp .lss t x y t',ty,pos,af,gu⟩ n L w (.bool (decide (p<q))) w:=
 Det.of_run λa hF=>by simp [execOp,hF.eval hx,hF.eval hy,eqGuard,binOp,Op.intCmp]
theorem Abk (hx:ev L x=some (.int k p)) (hy:ev L y=some (.int k q)):Det P ⟨ds,.binOp .leq t x y t',ty,pos,af,gu⟩ n L w (.bool (decide (p<=q))) w:=
 Det.of_run λa hF=>by simp [execOp,hF.eval hx,hF.eval hy,eqGuard,binOp,Op.intCmp]
theorem Abm (hx:ev L x=some (.int k p)) (hy:ev L y=some (.int k q)):Det P ⟨ds,.binOp .gtr t x y t',ty,pos,af,gu⟩ n L w (.bool (decide (q<p))) w:=
 Det.of_run λa hF=>by simp [execOp,hF.eval hx,hF.eval hy,eqGuard,binOp,Op.intCmp]
theorem Abn (hx:ev L x=some (.int k p)) (hy:ev L y=some (.int k q)):Det P ⟨ds,.binOp .geq t x y t',ty,pos,af,gu⟩ n L w (.bool (decide (q<=p))) w:=
 Det.of_run λa hF=>by simp [execOp,hF.eval hx,hF.eval hy,eqGuard,binOp,Op.intCmp]
theorem Abo (hx:ev L x=some (.int k p)) (hy:ev L y=some (.int k q)):Det P ⟨ds,.binOp .eql t x y t',ty,pos,af,gu⟩ n L w (.bool (decide (p=q))) w:=
 Det.of_run λa hF=>by simp [execOp,hF.eval hx,hF.eval hy,eqGuard,binOp,Op.intCmp];rfl
theorem Abe (hx:ev L x=some (.int k p)) (hy:ev L y=some (.int k q)):Det P ⟨ds,.binOp .neq t x y t',ty,pos,af,gu⟩ n L w (.bool (!decide (p=q))) w:=
 Det.of_run λa hF=>by simp [execOp,hF.eval hx,hF.eval hy,eqGuard,binOp,Op.intCmp];rfl
end
theorem Aq {t:TypeId} {d:TypeDesc} (h:P.underlying t=some d):(underlying t).run P w= .ok d w:=by simp [underlying,h]
theorem xQ {x : Operand} {k k' : IntKind} {p r : Int} {s t : TypeId} {d : TypeDesc} (hs : P.underlying s = some d) (ht : P.underlying t = some (.int k')) (hx : ev L x = some (.int k p)) (hr : k'.wrap p = r) :
  Det P ⟨ds,.convert s t x,ty,pos,af,gu⟩ n L w (.int k' r) w:=
 Det.of_run λa hF=>by subst hr;simp [execOp,hF.eval hx,convert,Aq hs,Aq ht,Conv.intToInt]
theorem R9 {x:Operand} {vs:Array Value} {i:Nat} {v:Value} (hx:ev L x=some (.tuple vs)) (hv:vs[i]? =some v):Det P ⟨ds,.extract x i,ty,pos,af,gu⟩ n L w v w:=
 Det.of_run λa hF=>by simp [execOp,hF.eval hx,Instr.extract,hv]
theorem Dq {x : Operand} {T e : TypeId} {ad : Option Addr} {l c : Nat} (hT : P.underlying T = some (.slice e)) (hx : ev L x = some (.slice ad l c)) :
  Det P ⟨ds,.call ⟨.builtin .len,#[x],#[T]⟩,ty,pos,af,gu⟩ n L w (.int .i64 l) w:=
 Det.of_run λa hF=>by simp [execOp,hF.eval hx,resolve,invoke,builtin,Builtin.len_,Aq hT,goInt]
theorem TJ {x : Operand} {T : TypeId} {s : ByteArray} (hT : P.underlying T = some .string) (hx : ev L x = some (.string s)) :
  Det P ⟨ds,.call ⟨.builtin .len,#[x],#[T]⟩,ty,pos,af,gu⟩ n L w (.int .i64 s.size) w:=
 Det.of_run λa hF=>by simp [execOp,hF.eval hx,resolve,invoke,builtin,Builtin.len_,Aq hT,goInt]
theorem Abh {x y : Operand} {T : Array TypeId} {k : IntKind} {p q r : Int} (hx : ev L x = some (.int k p)) (hy : ev L y = some (.int k q)) (hr : (if q < p then q else p) = r) :
  Det P ⟨ds,.call ⟨.builtin .min,#[x,y],T⟩,ty,pos,af,gu⟩ n L w (.int k r) w:=
 Det.of_run λa hF=>by subst hr;simp [execOp,hF.eval hx,hF.eval hy,resolve,invoke,builtin,Builtin.min_,Builtin.min2]
def TypeDesc.flat:TypeDesc->Bool
 | .struct _| .array _ _=>false
 |_=>true
theorem Hz {t:TypeId} {d:TypeDesc} (h:P.underlying t=some d) (hf:TypeDesc.flat d=true):(isAgg t).run P w= .ok false w:=by simp only[isAgg,Sem.run_bind,Aq h,Result.andThen_ok];cases d<;>simp_all [TypeDesc.flat]
theorem YT {x : Operand} {t : TypeId} {d : TypeDesc} {ad : Addr} {v : Value} (ht : P.underlying t = some d) (hf : TypeDesc.flat d = true) (hx : ev L x = some (.pointer (some ad))) (hc : w.cell? ad = some v) :
  Det P ⟨ds,.load t x,ty,pos,af,gu⟩ n L w v w:=
 Det.of_run λa hF=>by simp [execOp,hF.eval hx,Instr.loadAt,Instr.sureAddr,loadVar,Hz ht hf,hc]
end
structure NewB (w w':World) (b:Nat) (c:Array Value) (t:TypeId):Prop where
 num:b=w.heap.size
 eq:w'=w.alloc (.cells c t)
structure Upd (w w':World) (b:Nat) (c:Array Value) (t:TypeId):Prop where
 os:w'.os=w.os
 tape:w'.tape=w.tape
 output:w'.output=w.output
 size:w'.heap.size=w.heap.size
 blk:w'.heap[b]? =some (.cells c t (0,0))
 other:∀k,k≠b->w'.heap[k]? =w.heap[k]?
theorem Upd.refl {w:World} {b:Nat} {c:Array Value} {t:TypeId} (h:w.heap[b]? =some (.cells c t (0,0))):Upd w w b c t:=⟨rfl,rfl,rfl,rfl,h,λ_ _=>rfl⟩
theorem MM {w:World} {b o:Nat} {c:Array Value} {t:TypeId} {f:Nat×Nat} (h:w.heap[b]? =some (.cells c t f)):w.cell? ⟨b,o,none⟩=c[o]? :=by simp [World.cell?,h]
section
variable {P:Program} {w:World} {n:Nat} {L:List (Nat×Value)} {ds:Option Tmp} {ty:TypeId} {pos:String} {af:Array Edge} {gu:Option (Nat×Bool)}
theorem vZ {x:Operand} {t:TypeId} {v:Value} (hx:ev L x=some v):Ok1 P ⟨ds,.box t x,ty,pos,af,gu⟩ n L w λv' w'=>∃b,v'= .pointer (some ⟨b,0,none⟩)/\NewB w w' b v.cells t:=by
 have hd:Det P ⟨ds,.box t x,ty,pos,af,gu⟩ n L w (.pointer (some ⟨w.heap.size,0,none⟩)) (w.alloc (.cells v.cells t)):=Det.of_run λa hF=>by simp [execOp,hF.eval hx,Instr.box,newVar,newRow]
 exact hd.mono λv' w' ⟨h1,h2⟩=>⟨_,h1,rfl,h2⟩
theorem fX {t:TypeId} {z:Value} (hz:(P.info? t).bind (·.zero)=some z):Ok1 P ⟨ds,.alloc t,ty,pos,af,gu⟩ n L w λv' w'=>∃b,v'= .pointer (some ⟨b,0,none⟩)/\NewB w w' b z.cells t:=by
 obtain⟨inf,hi,hz'⟩:=be.1 hz;have hd:Det P ⟨ds,.alloc t,ty,pos,af,gu⟩ n L w (.pointer (some ⟨w.heap.size,0,none⟩)) (w.alloc (.cells z.cells t)):=Det.of_run λa hF=>by simp [execOp,Instr.alloc,zeroValue,typeInfo,hi,hz',newVar,newRow]
 exact hd.mono λv' w' ⟨h1,h2⟩=>⟨_,h1,rfl,h2⟩
theorem oY {x : Operand} {t e : TypeId} {m bytes : Nat} {z : Value} (hT : P.underlying t = some (.slice e)) (hs : (P.info? e).map (λi => (i.size, i.bytes, i.zero)) = some (1, bytes, some z)) (hx : ev L x = some (.int .i64 m)) (hz : z.oneCell' = true)
  (hm:bytes*m<=2^48) (hm':m<2^63):Ok1 P ⟨ds,.makeSlice t x x,ty,pos,af,gu⟩ n L w λv' w'=>∃b,v'= .slice (some ⟨b,0,none⟩) m m/\NewB w w' b ((Array.range m).map λ_=>z) e:=by
 obtain⟨inf,hi,hz'⟩:=ak.1 hs;simp only[Prod.mk.injEq]at hz';obtain⟨h1,h2,h3⟩:=hz';have hzc:z.cells= #[z]:=by cases z<;>simp_all [Value.cells,Value.oneCell']
 have hw:IntKind.wrap .i64 (m:Int)=m:=by
  have :(m:Int)<2^63:=by exact_mod_cast hm'
  exact Er (by omega) (by omega)
 have hb:¬((bytes:Int)*(m:Int)>2^48):=by
  have :((bytes*m:Nat):Int)<=2^48:=by exact_mod_cast hm
  rw[fa]at this;omega
 have hd:Det P ⟨ds,.makeSlice t x x,ty,pos,af,gu⟩ n L w (.slice (some ⟨w.heap.size,0,none⟩) m m) (w.alloc (.cells ((Array.range m).map λ_=>z) e)):=Det.of_run λa hF=>by
  have hn:¬((m:Int)<0):=by omega
  have hti:∀w,(typeInfo e).run P w= .ok inf w:=λw=>by simp [typeInfo,hi]
  simp only[execOp,hF.eval hx,Instr.makeSlice,Sem.run_bind,Aq hT,Result.andThen_ok,asInt,asIntOf,hti,Sem.run_pure,h2,hw,sizeOf];have hc1:(decide ((m:Int)<0)||decide ((bytes:Int)*(m:Int)>2^48))=false:=by simp only[hn,hb,decide_false,Bool.or_false]
  simp only[hc1];by_cases h0:m=0
  ·subst h0;have hz0:Array.range 0= #[]:=by apply Array.ext';simp
   simp [newRow,hti,hz0]
  ·have hn':¬((m:Int)<0):=by omega
   rw[aj (by simp)];simp [newRow,zeroValue,hti,h3,hzc,h0,h1,Nat.mod_one]
 exact hd.mono λv' w' ⟨h1,h2⟩=>⟨_,h1,rfl,h2⟩
structure Callee (P:Program) (f:FuncId):Prop where
 ok:∃fn,P.funcs[f]? =some fn/\(fn.name== "runtime.NumGoroutine")=false/\fn.body.isNone=false
def QK (R:Value->World->Prop):Ending->World->Prop:=λe w'=>∃v,e= .returned v/\R v w'
theorem Ms {x : Operand} {xs : Array Operand} {ts : Array TypeId} {f : FuncId} {first captured : Array Value} {vs : List Value} {R : Value -> World -> Prop} (hx : ev L x = some (.func (.func f) first captured)) (hc : Callee P f) (ha : m5 L xs.toList = some vs)
  (h:Calls P f ((first ++vs.toArray)++captured) w (QK R)):Ok1 P ⟨ds,.call ⟨.value x,xs,ts⟩,ty,pos,af,gu⟩ n L w R:=by
 intro a K Q hF k;obtain⟨fn,h1,h2,h3⟩:=hc.ok;have hxs:xs.map a.eval=vs.toArray:=by have :=hF.evals ha;rw[<-this,<-il]
 simp only[Oper.wp,execOp,resolve,hF.eval hx,Deferred.ofValue,Sem.run_bind,Sem.run_pure,Result.andThen_ok,invoke,callFunc,run_program,h1,h2,h3,hxs];simp only[iv,if_false,Sem.run_pure,Oper.upon_enter];refine h.mono λe w' he=> ?_;obtain⟨v,rfl,hr⟩:=he;exact k v w' hr
end
end Go.Mi
namespace Go.Mi
open Go.RowKit
variable [Dfr]
def cl (k:IntKind) (n:Nat) (F:Nat->Int):Array Value:=((List.range n).map λi=>Value.int k (F i)).toArray
def upd (F:Nat->Int) (i:Nat) (v:Int):Nat->Int:=λj=>if j=i then v else F j
section
variable {P:Program} {ops:Array Oper} {Q:Exit->Act->World->Prop} {a:Act} {w:World} {n:Nat} {L:List (Nat×Value)}
theorem Zk {c : Code} (I : Nat -> Act -> World -> Prop) (k0 : Nat) (h0 : I k0 a w)
  (round:∀k a w,I k a w->c.wp P (Exit.then (λa' w'=>∃k',k'<k/\I k' a' w') Q) a w):(Code.loop c).wp P Q a w:=by
 intro b k cs;have key:∀m a w,I m a w->∃e a' w',Q e a' w'/\Arrives P (lone (b.at a (.code c:: .inLoop c::k)) cs w) b k cs e a' w':=by
  intro m
  induction m using Nat.strongRecOn with
  |_ m ih=>
   intro a w hI;obtain⟨e,a₁,w₁,hq,harr⟩:=round m a w hI b (.inLoop c::k) cs;cases e with
   |normal=>
    obtain⟨m',hlt,hI'⟩:=hq;obtain⟨e₂,a₂,w₂,hq₂,harr₂⟩:=ih m' hlt a₁ w₁ hI';exact⟨e₂,a₂,w₂,hq₂,.of_steps (Steps.trans harr (.one step_inLoop)) harr₂⟩
   |exit id=>exact⟨_,a₁,w₁,hq,.pass (x:= .inLoop c) rfl (λ_ _=> .inl (by simp)) harr⟩
   |goto l=>exact⟨_,a₁,w₁,hq,.pass (x:= .inLoop c) rfl (λ_ _=> .inl (by simp)) harr⟩
   |ret=>exact⟨_,a₁,w₁,hq,.pass (x:= .inLoop c) rfl (λ_ _=> .inl (by simp)) harr⟩
   |panic ch=>exact⟨_,a₁,w₁,hq,.pass (x:= .inLoop c) rfl (λ_ _=> .inl (by simp)) harr⟩
   |outgrown=>exact⟨_,a₁,w₁,hq,.pass (x:= .inLoop c) rfl (λ_ _=> .inl (by simp)) harr⟩
 obtain⟨e,a',w',hq,harr⟩:=key k0 a w h0;exact⟨e,a',w',hq,.of_steps (.one step_loop) harr⟩
theorem Aae {c:Operand} {x y:Code} {t:Bool} (hF:Frm a n L) (hc:ev L c=some (.bool t)) (ht:t=true->x.wp P Q a w) (hf:t=false->y.wp P Q a w):(Code.cond c x y).wp P Q a w:=
 wp_cond_split (hF.eval hc) ht hf
theorem kT {f : FuncId} {fn : Func} {c : Code} {vs : List Value} {R : Ending -> World -> Prop} {n : Nat} (hf : P.funcs[f]? = some fn) (hb : fn.body = some c) (hn : fn.ntmps = n) (hl : Nat.ble vs.length n = true) (hD : Dfr.ds = ([] : List Deferred))
  (h:∀a,Frm a n (vs.zipIdx.map λp=>(p.2,p.1))->c.wp P (bodyPost P fn R) a w):Calls P f vs.toArray w R:=
 calls_of_wp hf hb (h _ (by subst hn;exact Frm.enter hD (by simpa[Nat.ble_eq]using hl)))
def rv (tmps:Array Value):ResultVar->Sem Value
 | .tmp t=>pure (tmps.getD t undef)
 | .cell x t=>do loadVar t (<-asAddr (tmps.getD x undef))
theorem Ws (fn : Func) (tmps : Array Value) : results fn tmps = (do
  let vs <-fn.results.mapM (rv tmps)
  pure (if h:vs.size=1 then vs[0]else .tuple vs)):=by
 have :(λ(r:ResultVar)=>(match r with | .tmp t=>pure (tmps.getD t undef)| .cell a t=>do loadVar t (<-asAddr (tmps.getD a undef)):Sem Value))=rv tmps:=by funext r;cases r<;>rfl
 unfold results;rw[<-this];rfl
def RV (P:Program) (a:Act) (w:World) (r:ResultVar) (v:Value):Prop:=(rv a.tmps r).run P w= .ok v w
theorem RV.tmp {t:Tmp} {v:Value} (hF:Frm a n L) (hv:lk L t=some v):RV P a w (.tmp t) v:=by have :=hF.get t v hv;simp only[RV,rv,this,Sem.run_pure]
theorem l8 {fn:Func} {R:Value->World->Prop} {v:Value} (hD:Dfr.ds=([]:List Deferred)) (hF:Frm a n L) (hr:(results fn a.tmps).run P w= .ok v w) (h:R v w):bodyPost P fn (QK R) .ret a w:=
 ⟨hF.defers.trans hD,v,hr,v,rfl,h⟩
theorem l9 {fn:Func} {R:Value->World->Prop} {v:Value} (hD:Dfr.ds=([]:List Deferred)) (hF:Frm a n L) (hr:(results fn a.tmps).run P w= .ok v w) (h:R v w):bodyPost P fn (QK R) .normal a w:=
 ⟨hF.defers.trans hD,v,hr,v,rfl,h⟩
end
end Go.Mi
namespace Go.Mi
open Go.RowKit
variable [Dfr]
abbrev Gr (w w':World):Prop:=Below w.heap.size w w'
inductive PS (G:World->World->Prop)where
 |val (v:Value)
 |rel (F:Value->World->Prop) (st:∀v w w',F v w->G w w'->F v w')
structure QQ (G:World->World->Prop)where
 us:List (Nat×Nat)
 zs:List (Nat×Value)
 ph:List Nat
 out:PS G
def CN (i:Nat):List Nat->Bool
 |[]=>false
 |x::r=>bif Nat.beq i x then true else CN i r
def Xu:List Oper->List Nat->List Nat
 |[],acc=>acc
 |o::r,acc=>Xu r (acc++[o.after.toList.foldl (λs e=>if Region.binds .any e then s|||2^e.on|||acc.getD e.on 0 else s) 0])
inductive C7 (l:List Oper):Nat->Nat->Prop where
 |edge {i:Nat} {o:Oper} {e:Edge}:l[i]? =some o->e∈o.after.toList->Region.binds .any e=true->C7 l i e.on
 |trans {i j k:Nat}:C7 l i j->C7 l j k->C7 l i k
theorem OY (l : List Oper) : ∀ (r : List Oper) (acc : List Nat), (∀ j o, r[j]? = some o -> l[acc.length + j]? = some o) -> (∀ i j, (acc.getD i 0).testBit j = true -> C7 l i j) ->
  ∀i j,((Xu r acc).getD i 0).testBit j=true->C7 l i j
 |[],acc,_,h=>h
 |o::r,acc,hl,h=>by
  have ho:l[acc.length]? =some o:=by simpa using hl 0 o (by simp)
  refine OY l r _ (λj o' hj=>by simpa[gx,Nat.add_comm 1 j]using hl (j+1) o' (by simpa using hj)) ?_;intro i j hb;by_cases hi:i<acc.length
  ·rw[al,dj hi]at hb;exact h i j (by rwa [al])
  ·by_cases hi':i=acc.length
   ·subst hi';simp only[al,df (an _),Nat.sub_self,gb,ej]at hb;have key : ∀ (es : List Edge) (s : Nat), (∀ e ∈ es, e ∈ o.after.toList) -> (∀ j, s.testBit j = true -> C7 l acc.length j) ->
      ∀j,(es.foldl (λs e=>if Region.binds .any e then s|||2^e.on|||acc[e.on]?.getD 0 else s) s).testBit j=true->C7 l acc.length j:=by
     intro es
     induction es with
     |nil=>intro s _ hs;exact hs
     |cons e es ih=>
      intro s hes hs;simp only[gt];refine ih _ (λe' he'=>hes e' (a_ _ he')) ?_;intro j hj;split at hj
      ·rename_i hbd;have hedge:C7 l acc.length e.on:= .edge ho (hes e (bz ..)) hbd;simp only[Nat.testBit_or,Bool.or_eq_true]at hj;rcases hj with(hj|hj)|hj
       ·exact hs j hj
       ·rw[Nat.testBit_two_pow]at hj;have :e.on=j:=by simpa using hj
        exact this▸hedge
       ·exact .trans hedge (h e.on j (by rwa [al]))
      ·exact hs j hj
    exact key _ 0 (λe he=>he) (by simp) j hb
   ·have : (acc ++ [o.after.toList.foldl (λs e => if Region.binds .any e then s ||| 2 ^ e.on ||| acc.getD e.on 0 else s) 0]).getD i 0 = 0 := by rw[al,bf (by simp;omega)];rfl
    rw[this]at hb;simp at hb
section
variable {G:World->World->Prop}
variable {P:Program} {n:Nat} {Wd:Nat->World->Prop} {ss:List Nat} {L0:List (Nat×Value)} {rows:List (QQ G)}
variable {l:List Oper} {listed:Array Bool} {p:Nat} {a:Act} {w:World}
end
end Go.Mi
namespace Go.Mi
open Go.RowKit
variable [Dfr]
theorem A1 {i:Nat}:∀{l:List Nat},CN i l=true↔i∈l
 |[]=>by simp [CN]
 |x::r=>by
  simp only[CN];by_cases e:i=x
  ·subst e;simp
  ·rw[BL e];simp [e,A1 (l:=r)]
section
variable {G:World->World->Prop}
variable {P:Program} {n:Nat} {Wd:Nat->World->Prop} {ss:List Nat} {L0:List (Nat×Value)} {l:List Oper} {rows:List (QQ G)} {Q:Exit->Act->World->Prop} {listed:Array Bool} {p:Nat} {a:Act} {w:World}
theorem JZ {listed:Array Bool} {i j:Nat} (hi:i<listed.size):(listed.setIfInBounds i true).getD j false=if j=i then true else listed.getD j false:=by
 by_cases h:j=i
 ·subst h;simp [hi]
 ·have :¬i=j:=λe=>h e.symm;simp [dl this,h]
theorem UQ {ops:Array Oper} {i:Nat} (h:i∈Region.ready .any ops listed):i<ops.size/\listed.getD i true=false:=by simp only[Region.ready,gv,el,ap]at h;exact⟨h.1,by simpa using h.2.1⟩
theorem UR {i:Nat} {o:Oper} (ho:l[i]? =some o) (h:i∈Region.ready .any l.toArray listed):∀e∈o.after.toList,Region.binds .any e=true->listed.getD e.on false=true:=by simp only[Region.ready,gv,el,ap]at h;obtain⟨_,_,hall⟩:=h;simp only[db,ho,ew,ej,Array.all_eq_true']at hall;intro e he hb;have :=hall e (by simpa using he);simpa[hb]using this
def left (m:Nat) (listed:Array Bool):Nat:=(List.range m).countP λi=> !listed.getD i false
theorem gM {m i:Nat} (hi:i<listed.size) (him:i<m) (hf:listed.getD i false=false):left m (listed.setIfInBounds i true)+1=left m listed:=by
 unfold left;have key:∀(xs:List Nat),xs.Nodup->i∈xs->(xs.countP λj=> !(listed.setIfInBounds i true).getD j false)+1=xs.countP λj=> !listed.getD j false:=by
  intro xs
  induction xs with
  |nil=>intro _ h;simp at h
  |cons x xs ih=>
   intro hn hx;rw[gw]at hn;by_cases hxi:x=i
   ·subst hxi;have hno:∀j∈xs,j≠x:=λj hj e=>hn.1 (e▸hj);have :(xs.countP λj=> !(listed.setIfInBounds x true).getD j false)=xs.countP λj=> !listed.getD j false:=by apply List.countP_congr;intro j hj;rw[JZ hi,aj (hno j hj)]
    rw[List.countP_cons,List.countP_cons,this,JZ hi,ab rfl,hf];simp
   ·have hix : i ∈ xs := by
     rcases ez.1 hx with e|e
     ·exact absurd e.symm hxi
     ·exact e
    have :=ih hn.2 hix;rw[List.countP_cons,List.countP_cons,JZ hi,aj hxi];omega
 exact key _ List.nodup_range (by simpa using him)
end
end Go.Mi
namespace Go.Mi
open Go.RowKit
variable [Dfr]
section
variable {G:World->World->Prop} {P:Program} {n:Nat} {Wd:Nat->World->Prop} {ss:List Nat} {L0:List (Nat×Value)} {l:List Oper} {rows:List (QQ G)} {Q:Exit->Act->World->Prop} {listed:Array Bool} {a:Act} {w w':World}
variable {o:Oper} {L:List (Nat×Value)} {v:Value} {A:World->Prop}
end
end Go.Mi
namespace Go.Mi
open Go.RowKit
variable [Dfr]
section
variable {P:Program} {n:Nat} {w w' w1:World} {Q:Exit->Act->World->Prop} {K M:Act->World->Prop} {a:Act} {L:List (Nat×Value)} {v:Value} {o:Oper}
theorem Ae (h:K a w):Exit.then K Q .normal a w:=h
theorem EY {id:Nat} (h:Q (.exit id) a w):Exit.then K Q (.exit id) a w:=h
theorem Aj (h:Q .ret a w):Exit.then K Q .ret a w:=h
theorem TU {id:Nat} (h:Q .normal a w):Exit.inBlock id Q .normal a w:=h
theorem As {id:Nat} (h:Q .ret a w):Exit.inBlock id Q .ret a w:=h
theorem Gy {id:Nat} (h:Q .normal a w):Exit.inBlock id Q (.exit id) a w:=by simp only[Exit.inBlock,if_true];exact h
theorem K8 {id id':Nat} (hn:id'≠id) (h:Q (.exit id') a w):Exit.inBlock id Q (.exit id') a w:=by simp only[Exit.inBlock,hn,if_false];exact h
theorem nA {x:Code} (M:Act->World->Prop) (h1:x.wp P (Exit.then M Q) a w) (h2:∀a w,M a w->K a w):x.wp P (Exit.then K Q) a w:=
 Code.wp_mono (λe a w q=>by cases e<;>first |exact h2 _ _ q|exact q) h1
theorem oH {p q:Int} (h:0<=p) (hq:0<=q) (h':p<=9223372036854775807):IntKind.wrap .i64 (p.tdiv q)=p/q:=by rw[cT h];have h1:0<=p/q:=Int.ediv_nonneg h hq;have h2:p/q<=p:=Int.ediv_le_self _ h;exact Er (by omega) (by omega)
theorem cG {F:Nat->Int} {i:Nat} {v:Int}:upd F i v i=v:=by simp [upd]
theorem cH {F:Nat->Int} {i j:Nat} {v:Int} (h:j≠i):upd F i v j=F j:=by simp [upd,h]
end
end Go.Mi
namespace Go.Mi
variable [Dfr]
end Go.Mi
namespace Go.Mi
variable [Dfr]
end Go.Mi
namespace Go.Mi
variable [Dfr]
end Go.Mi
namespace Go.Mi
open Go.RowKit
variable [Dfr]
section
variable {P:Program} {w w0:World} {n:Nat} {L:List (Nat×Value)} {ds:Option Tmp} {ty:TypeId} {pos:String} {af:Array Edge} {gu:Option (Nat×Bool)}
theorem Ni (d:Nat) {a b:Bool} {t:TypeId} (ht:P.underlying t=some .bool):(Op.equalIn (d+1) t (.bool a) (.bool b)).run P w= .ok (a==b) w:=by simp [Op.equalIn,Aq ht]
theorem Jw {a b:Bool} {t:TypeId} (ht:P.underlying t=some .bool):(Op.equal t (.bool a) (.bool b)).run P w= .ok (a==b) w:=
 Ni 9999 ht
theorem xO {x y:Operand} {a b:Bool} {t t':TypeId} (ht:P.underlying t=some .bool) (hx:ev L x=some (.bool a)) (hy:ev L y=some (.bool b)):Det P ⟨ds,.binOp .eql t x y t',ty,pos,af,gu⟩ n L w (.bool (a==b)) w:=
 Det.of_run λa' hF=>by
  have h1:(binOp .eql t (.bool a) (.bool b)).run P w= .ok (.bool (a==b)) w:=by show(Op.equal t (.bool a) (.bool b)>>=λr=>pure (Value.bool r)).run P w=_;rw[Sem.run_bind,Jw ht];rfl
  simp [execOp,hF.eval hx,hF.eval hy,eqGuard,h1]
theorem xL {x y:Operand} {a b:Bool} {t t':TypeId} (ht:P.underlying t=some .bool) (hx:ev L x=some (.bool a)) (hy:ev L y=some (.bool b)):Det P ⟨ds,.binOp .neq t x y t',ty,pos,af,gu⟩ n L w (.bool (!(a==b))) w:=
 Det.of_run λa' hF=>by
  have h1:(binOp .neq t (.bool a) (.bool b)).run P w= .ok (.bool (!(a==b))) w:=by show(Op.equal t (.bool a) (.bool b)>>=λr=>pure (Value.bool !r)).run P w=_;rw[Sem.run_bind,Jw ht];rfl
  simp [execOp,hF.eval hx,hF.eval hy,eqGuard,h1]
theorem xN {x y:Operand} {a b:ByteArray} {t t':TypeId} (hx:ev L x=some (.string a)) (hy:ev L y=some (.string b)):Det P ⟨ds,.binOp .eql t x y t',ty,pos,af,gu⟩ n L w (.bool (a.toList==b.toList)) w:=
 Det.of_run λa' hF=>by simp [execOp,hF.eval hx,hF.eval hy,eqGuard,binOp,Op.stringOp]
theorem xK {x y:Operand} {a b:ByteArray} {t t':TypeId} (hx:ev L x=some (.string a)) (hy:ev L y=some (.string b)):Det P ⟨ds,.binOp .neq t x y t',ty,pos,af,gu⟩ n L w (.bool (!(a.toList==b.toList))) w:=
 Det.of_run λa' hF=>by simp [execOp,hF.eval hx,hF.eval hy,eqGuard,binOp,Op.stringOp]
structure Sl (w:World) (ad:Option Addr) (n:Nat) (k:IntKind) (X:Nat->Int):Prop where
 h:n=0\/∃b o,ad=some ⟨b,o,none⟩/\∀j,j<n->w.cell? ⟨b,o+j,none⟩=some (.int k (X j))
def OT (len:Nat) (X:Nat->Int):ByteArray:=((List.range len).map X).foldl (λr n=>r.push (UInt8.ofNat n.toNat)) ByteArray.empty
theorem Hy {b o : Nat} {V : Nat -> Value} : ∀ (m i : Nat) (acc : Array Value), (∀ j, i <= j -> j < i + m -> w.cell? ⟨b, o + j, none⟩ = some (V j)) ->
  (loadCellsFrom ⟨b,o,none⟩ i m acc).run P w= .ok (acc++((List.range' i m).map V).toArray) w
 |0,i,acc,h=>by simp [loadCellsFrom]
 |m+1,i,acc,h=>by simp only[loadCellsFrom,Dm,Sem.run_bind,run_load,h i (an _) (by omega),Result.andThen_ok];rw[Hy m (i+1) _ λj h1 h2=>h j (by omega) (by omega)];congr 1;apply Array.ext';simp [List.range'_succ]
theorem J6 {x : Operand} {s t e : TypeId} {ad : Option Addr} {len cap : Nat} {X : Nat -> Int} (hs : P.underlying s = some (.slice e)) (he : P.underlying e = some (.int .u8)) (ht : P.underlying t = some .string)
  (hx:ev L x=some (.slice ad len cap)) (hsl:Sl w ad len .u8 X) (hnil:ad=none->len=0):Det P ⟨ds,.convert s t x,ty,pos,af,gu⟩ n L w (.string (OT len X)) w:=
 Det.of_run λa' hF=>by
  have h1:(Conv.bytesToString (.slice ad len cap)).run P w= .ok (.string (OT len X)) w:=by
   cases ad with
   |none=>obtain rfl:=hnil rfl;rfl
   |some a=>
    have hl:(loadCells a len).run P w= .ok (((List.range len).map X).map (Value.int .u8)).toArray w:=by
     rcases hsl.h with h0|⟨b,o,h1,h2⟩
     ·subst h0;rfl
     ·cases h1;have :=Hy (P:=P) (V:=λj=>Value.int .u8 (X j)) len 0 #[] λj _ hj=>h2 j (by omega);rw[loadCells,this];simp [List.range_eq_range']
    exact run_bytesToString w a len cap _ hl
  simp [execOp,hF.eval hx,run_convert_bytes_string w s t e ad len cap hs he ht,h1]
end
end Go.Mi
namespace Go.Mi
open Go.RowKit
variable [Dfr]
abbrev vP (b o:Nat):Value:= .pointer (some ⟨b,o,none⟩)
abbrev vp (b:Nat):Value:= .pointer (some ⟨b,0,none⟩)
abbrev vS (b o l c:Nat):Value:= .slice (some ⟨b,o,none⟩) l c
abbrev vN:Value:= .slice none 0 0
structure Ch (Y:List Nat) (w w':World):Prop where
 os:w'.os=w.os
 tape:w'.tape=w.tape
 output:w'.output=w.output
 size:w.heap.size<=w'.heap.size
 blk:∀b,b<w.heap.size->b∉Y->w'.heap[b]? =w.heap[b]?
theorem Ch.refl (Y:List Nat) (w:World):Ch Y w w:=⟨rfl,rfl,rfl,an _,λ_ _ _=>rfl⟩
theorem Ch.trans {Y:List Nat} {a b c:World} (h:Ch Y a b) (k:Ch Y b c):Ch Y a c:=
 ⟨k.os.trans h.os,k.tape.trans h.tape,k.output.trans h.output,b_ h.size k.size,λi hi hn=>(k.blk i (ca hi h.size) hn).trans (h.blk i hi hn)⟩
theorem Ch.mono {Y Y':List Nat} {a b:World} (h:Ch Y a b) (hs:∀y,y∈Y->y∈Y'):Ch Y' a b:=
 ⟨h.os,h.tape,h.output,h.size,λi hi hn=>h.blk i hi λhm=>hn (hs i hm)⟩
theorem Gr.ch {w w':World} (h:Gr w w'):Ch [] w w':=⟨h.os,h.tape,h.output,h.size,λb hb _=>h.block b hb⟩
theorem NewB.ch {w w':World} {b:Nat} {c:Array Value} {t:TypeId} (h:NewB w w' b c t):Ch [] w w':=by obtain⟨rfl,rfl⟩:=h;exact Gr.ch ((Below.refl w.heap.size w).alloc (an _) _)
def At (w:World) (b o:Nat) (vs:List Value):Prop:=∀i u,vs[i]? =some u->w.cell? ⟨b,o+i,none⟩=some u
theorem At.of_blk {w:World} {b:Nat} {c:Array Value} {t:TypeId} {f:Nat×Nat} (h:w.heap[b]? =some (.cells c t f)):At w b 0 c.toList:=λi u hu=>by rw[MM h,bu];simpa using hu
theorem At.app {w:World} {b o:Nat} {xs ys:List Value}:At w b o (xs++ys)↔At w b o xs/\At w b (o+xs.length) ys:=by
 constructor
 ·intro h;refine⟨λi u hu=>h i u ?_,λi u hu=> ?_⟩
  ·have hl : i < xs.length := by
    rcases ci i xs.length with h'|h'
    ·exact h'
    ·simp [bf h']at hu
   rw[dj hl];exact hu
  ·have :=h (xs.length+i) u (by rw[df (by omega),Nat.add_sub_cancel_left];exact hu)
   rwa [<-gx]at this
 ·rintro⟨h1,h2⟩ i u hu;rcases ci i xs.length with h'|h'
  ·rw[dj h']at hu;exact h1 i u hu
  ·rw[df h']at hu;have :=h2 (i-xs.length) u hu
   rwa [show o+xs.length+(i-xs.length)=o+i by omega]at this
section
variable {P:Program} {n:Nat} {L:List (Nat×Value)} {w:World} {ds:Option Nat} {ty:TypeId} {pos:String} {af:Array Edge} {gu:Option (Nat×Bool)}
theorem ON {x : Operand} {t : TypeId} {d : TypeDesc} {b o m : Nat} {vs : List Value} (ht : P.underlying t = some d) (hf : TypeDesc.flat d = false) (hs : (P.info? t).map (·.size) = some m) (hx : ev L x = some (.pointer (some ⟨b, o, none⟩)))
  (hb:At w b o vs) (hc:vs.length=m):Det P ⟨ds,.load t x,ty,pos,af,gu⟩ n L w (.agg vs.toArray) w:=
 Det.of_run λa hF=>by
  obtain⟨inf,hi,hz⟩:=ak.1 hs;have hag:(isAgg t).run P w= .ok true w:=by simp only[isAgg,Sem.run_bind,Aq ht,Result.andThen_ok];cases d<;>simp_all [TypeDesc.flat]
  have hl:=run_loadCells_list (P:=P) w ⟨b,o,none⟩ vs (λj v hj=>by rw[Dm];exact hb j v hj);subst hc;simp [execOp,hF.eval hx,Instr.loadAt,Instr.sureAddr,loadVar,hag,sizeOf,typeInfo,hi,hz,hl]
theorem VK {x : Operand} {s : TypeId} {fs : Array Field} {f : Nat} {fd : Field} {b o m : Nat} (hs : P.underlying s = some (.struct fs)) (hf : fs[f]? = some fd) (hm : (P.info? fd.type).map (·.size) = some (m + 1)) (hx : ev L x = some (.pointer (some ⟨b, o, none⟩))) :
  Det P ⟨ds,.fieldAddr s x f,ty,pos,af,gu⟩ n L w (.pointer (some ⟨b,o+fd.offset,none⟩)) w:=
 Det.of_run λa hF=>by obtain⟨inf,hi,hz⟩:=ak.1 hm;simp [execOp,hF.eval hx,Instr.fieldAt,Instr.sureAddr,Aq hs,hf,fieldPlace,sizeOf,typeInfo,hi,hz,Dm]
theorem ZB {t:TypeId} {d:TypeDesc} {cs:Array Value} {off:Nat} {v:Value} (ht:P.underlying t=some d) (hf:TypeDesc.flat d=true) (hv:cs[off]? =some v):(part t cs off).run P w= .ok v w:=by simp [part,Hz ht hf,hv]
theorem O_ {w:World} {b:Nat} {c:Array Value} {t:TypeId} (h:w.heap[b]? =some (.cells c t (0,0))) (c':Array Value):Upd w (w.setRow b c') b c' t:=
 ⟨rfl,rfl,rfl,by simp [World.setRow],setRow_heap w b c c' t _ h,λk hk=>setRow_other w b k c' hk⟩
def put (c:Array Value) (o:Nat) (vs:List Value):Array Value:=(c.toList.take o++vs++c.toList.drop (o+vs.length)).toArray
theorem PM {c:Array Value} {o:Nat} {vs:List Value} (h:o+vs.length<=c.size):(put c o vs).size=c.size:=by simp [put];omega
theorem Nt {x y : Operand} {t T : TypeId} {b o m : Nat} {c : Array Value} {u : Value} (hs : (P.info? t).map (·.size) = some m) (hx : ev L x = some (.pointer (some ⟨b, o, none⟩))) (hy : ev L y = some u) (hc' : u.cells.size = m) (hv : ∀ v ∈ u.cells.toList, v.oneCell' = true)
  (hb:w.heap[b]? =some (.cells c T (0,0))) (hc:o+m<=c.size):Ok1 P ⟨ds,.store t x y,ty,pos,af,gu⟩ n L w λ_ w'=>Upd w w' b (put c o u.cells.toList) T:=by
 obtain⟨inf,hi,hz⟩:=ak.1 hs;have h1:=run_storeCells_at (P:=P) b o T u.cells.toList 0 c w hb (by simp;omega) hv;have hd:Det P ⟨ds,.store t x y,ty,pos,af,gu⟩ n L w undef (w.setRow b (put c o u.cells.toList)):=Det.of_skip λa hF=>by simp only[ey]at h1;simp [execOp,hF.eval hx,hF.eval hy,Instr.storeAt,Instr.sureAddr,storeVar,sizeOf,typeInfo,hi,hz,hc',put,h1]
 refine hd.mono λv' w'' ⟨_,hw⟩=> ?_;subst hw;exact O_ hb _
abbrev Own (w:World) (base:Nat) (e:TypeId) (m:Nat) (v:Value) (n:Nat) (xs:List Value):Prop:=w.ownsRow base e m v n xs
def C8:Value->List Nat
 | .slice (some a) _ _=>[a.block]
 |_=>[]
theorem Own.lt {w:World} {base m n:Nat} {e:TypeId} {v:Value} {xs:List Value} (h:Own w base e m v n xs):∀b,b∈C8 v->base<=b/\b<w.heap.size:=by
 intro b hb;rcases h.2 with⟨rfl,_⟩|⟨g,cap,cur,rfl,hg,hk,h3⟩
 ·simp [C8]at hb
 ·simp only[C8,bo]at hb;subst hb;refine⟨hg,?_⟩;rcases ci b w.heap.size with h'|h'
  ·exact h'
  ·rw[eg h']at hk;cases hk
theorem Own.at {w:World} {base m n:Nat} {e:TypeId} {v:Value} {xs:List Value} (h:Own w base e m v n xs):(v= .slice none 0 0/\n=0/\xs=[])\/∃b cap,v= .slice (some ⟨b,0,none⟩) n cap/\n<=cap/\At w b 0 xs:=by
 rcases h.2 with⟨rfl,rfl⟩|⟨g,cap,cur,rfl,hg,hk,h3,h4,h5,h6⟩
 ·exact .inl ⟨rfl,rfl,bm (by simpa using h.1)⟩
 ·refine .inr ⟨g,cap,rfl,h3,λi u hu=> ?_⟩;rw[MM hk,bu,<-gh];rw[<-h6,dc]at hu;split at hu
  ·exact hu
  ·simp at hu
theorem ZR {s x : Operand} {t e : TypeId} {i : TypeInfo} {z : Value} {base m bytes n' k c b o : Nat} {v : Value} {xs news : List Value} (ht : P.underlying t = some (.slice e)) (hi : P.info? e = some i) (hz : i.zero = some z)
  (hm:i.size=m) (hy:i.bytes=bytes) (hzs:z.cells.size=m) (hm0:0<m) (hs:ev L s=some v) (hx:ev L x=some (.slice (some ⟨b,o,none⟩) k c)) (hown:Own w base e m v n' xs)
  (hl:news.length=k*m) (hn:At w b o news) (h1:∀u∈news,u.oneCell'=true) (h63:n'+k<=maxLen) (hby:(n'+k)*bytes<=140737488355328) (hbase:base<=w.heap.size):
  Ok1 P ⟨ds,.call ⟨.builtin .append,#[s,x],#[t,t]⟩,ty,pos,af,gu⟩ n L w λv' w'=>Own w' base e m v' (n'+k) (xs++news)/\Ch (C8 v) w w'/\(C8 v'=C8 v\/C8 v'=[w.heap.size]):=by
 obtain⟨v',w',hr,h2,h3,_,h5⟩:=run_append_own_at (P:=P) w base t ty e i z m bytes ht hi hz hm hy hzs hm0 v n' xs hown ⟨b,o,none⟩ k c news hl (λj u hu=>by rw[Dm];exact hn j u hu) h1 h63 hby hbase;have hd:Det P ⟨ds,.call ⟨.builtin .append,#[s,x],#[t,t]⟩,ty,pos,af,gu⟩ n L w v' w':=Det.of_run λa hF=>by simp [execOp,hF.eval hs,hF.eval hx,resolve,invoke,builtin,hr]
 refine hd.mono λv'' w'' ⟨ha,hb⟩=> ?_;subst ha;subst hb;have ob:∀u:Value,∀g,u.ownBlock=some g↔C8 u=[g]:=by
  intro u g;cases u with
  |slice a _ _=>cases a<;>simp [Value.ownBlock,C8]
  |_=>simp [Value.ownBlock,C8]
 have ob0:∀u:Value,u.ownBlock=none↔C8 u=[]:=by
  intro u;cases u with
  |slice a _ _=>cases a<;>simp [Value.ownBlock,C8]
  |_=>simp [Value.ownBlock,C8]
 refine⟨h2,⟨h3.os,h3.tape,h3.output,h3.size,λg hg hn=>h3.block g hg λhe=>hn ?_⟩,?_⟩
 ·rw[(ob v g).1 he.symm];simp
 ·rcases h5 with h5|h5
  ·left;cases hv:v.ownBlock with
   |none=>rw[(ob0 v).1 hv,(ob0 v'').1 (h5.trans hv)]
   |some g=>rw[(ob v g).1 hv,(ob v'' g).1 (h5.trans hv)]
  ·right;exact(ob v'' _).1 h5
end
end Go.Mi
namespace Go.Sx
open Go.Mi Go.RowKit
variable [Dfr]
inductive Fk where
 |int (k:IntKind)
 |bool
 |str
 |sl (e:Fk)
 |os (e:Fk)
 |ref
 |val
 deriving DecidableEq
def Fk.T:Fk->Type
 | .int _=>Int
 | .bool=>Bool
 | .str=>ByteArray
 | .sl e=>List e.T
 | .os e=>Option (List e.T)
 | .ref=>Nat×Nat
 | .val=>Value
def Fk.z:(a:Fk)->a.T
 | .int _=>(0:Int)
 | .bool=>false
 | .str=>ByteArray.empty
 | .sl e=>([]:List e.T)
 | .os e=>(none:Option (List e.T))
 | .ref=>((0,0):Nat×Nat)
 | .val=>undef
def RT:List Fk->Type
 |[]=>Unit
 |a::r=>match r with
  |[]=>a.T
  |b::s=>a.T×RT (b::s)
def rz:(e:List Fk)->RT e
 |[]=>()
 |a::r=>match r with
  |[]=>a.z
  |b::s=>(a.z,rz (b::s))
def DW (xs:List Int):ByteArray:=xs.foldl (λr n=>r.push (UInt8.ofNat n.toNat)) ByteArray.empty
inductive D where
 |v (x:Value)
 |ar (k:IntKind) (n:Nat) (f:Nat->Int)
 |ls (nn:Bool) (e:List Fk) (xs:List (RT e))
 |os (e:Fk) (o:Option (List e.T))
 |nil
 |cons (d ds:D)
 |ag (ds:D)
 |tu (ds:D)
 |fn (f:FuncId) (a b:D)
 |ifc (t:TypeId) (d:D)
 |cp (k o:Nat)
 |ep (k o m n i:Nat)
 |xp (k m n i o:Nat)
 |sk (k:Nat)
 |sv (k o n:Nat)
 |im (d:D) (o:Nat)
 |ip (e:List Fk) (x:RT e) (o:Nat)
 |top
structure Chp (S:Nat->Prop) (w w':World):Prop where
 os:w'.os=w.os
 tape:w'.tape=w.tape
 output:w'.output=w.output
 size:w.heap.size<=w'.heap.size
 blk:∀b,b<w.heap.size->¬S b->w'.heap[b]? =w.heap[b]?
theorem Chp.refl (S:Nat->Prop) (w:World):Chp S w w:=⟨rfl,rfl,rfl,an _,λ_ _ _=>rfl⟩
theorem Chp.trans {S:Nat->Prop} {a b c:World} (h:Chp S a b) (k:Chp S b c):Chp S a c:=
 ⟨k.os.trans h.os,k.tape.trans h.tape,k.output.trans h.output,b_ h.size k.size,λi hi hn=>(k.blk i (ca hi h.size) hn).trans (h.blk i hi hn)⟩
theorem Chp.drop {S S':Nat->Prop} {a b:World} (h:Chp S a b) (hs:∀y,S y->S' y\/a.heap.size<=y):Chp S' a b:=
 ⟨h.os,h.tape,h.output,h.size,λi hi hn=>h.blk i hi λhm=>by rcases hs i hm with h|h;exact hn h;omega⟩
theorem At.mvp {w w':World} {S:Nat->Prop} {b o:Nat} {vs:List Value} (h:At w b o vs) (k:Chp S w w') (hb:¬S b):At w' b o vs:=λi u hu=>by have h1:=h i u hu;have h2:=World.block_lt_of_cell? w _ h1;have h3:=k.blk b h2 hb;simpa[World.cell?,h3]using h1
theorem Own.mvp {w w':World} {S:Nat->Prop} {base m n:Nat} {e:TypeId} {v:Value} {xs:List Value} (h:Own w base e m v n xs) (k:Chp S w w') (hy:∀b,b∈C8 v->¬S b):Own w' base e m v n xs:=by
 refine⟨h.1,?_⟩;rcases h.2 with h2|⟨g,cap,cur,rfl,hg,hb,h3⟩
 ·exact .inl h2
 ·have hlt : g < w.heap.size := by
   rcases ci g w.heap.size with h'|h'
   ·exact h'
   ·simp [eg h']at hb
  exact .inr ⟨g,cap,cur,rfl,hg,by rw[k.blk g hlt (hy g (by simp [C8]))];exact hb,h3⟩
structure Lsl (X:Nat->Prop) (w:World) (nn:Bool) (n:Nat) (v:Value) (m:Nat) (cells:List Value):Prop where
 le:n<=maxLen
 len:cells.length=n*m
 at':(n=0/\((nn=false/\v=vN)\/∃a c,v= .slice (some a) 0 c))\/∃b o c,v=vS b o n c/\n<=c/\c<=maxLen/\¬X b/\b<w.heap.size/\At w b o cells
def Fa2 {α β:Type} (R:α->β->Prop):List α->List β->Prop
 |[],[]=>True
 |x::xs,l::ls=>R x l/\Fa2 R xs ls
 |_,_=>False
theorem Fa2.mono {α β:Type} {R R':α->β->Prop} (hr:∀x l,R x l->R' x l):∀{xs:List α} {ls:List β},Fa2 R xs ls->Fa2 R' xs ls
 |[],[],_=>trivial
 |_::_,_::_,h=>⟨hr _ _ h.1,Fa2.mono hr h.2⟩
theorem Fa2.len {α β:Type} {R:α->β->Prop}:∀{xs:List α} {ls:List β},Fa2 R xs ls->xs.length=ls.length
 |[],[],_=>rfl
 |_::_,_::_,h=>by simp [Fa2.len h.2]
theorem Fa2.get {α β:Type} {R:α->β->Prop}:∀{xs:List α} {ls:List β},Fa2 R xs ls->∀{i:Nat} {x:α},xs[i]? =some x->∃l,ls[i]? =some l/\R x l
 |[],[],_,i,x,hx=>by simp at hx
 |_::_,l::_,h,0,x,hx=>by simp at hx;subst hx;exact⟨l,rfl,h.1⟩
 |_::_,_::_,h,i+1,x,hx=>by simpa using Fa2.get h.2 (by simpa using hx)
theorem Fa2.append {α β:Type} {R:α->β->Prop}:∀{xs:List α} {ls:List β} {ys:List α} {ms:List β},Fa2 R xs ls->Fa2 R ys ms->Fa2 R (xs++ys) (ls++ms)
 |[],[],_,_,_,k=>k
 |_::_,_::_,_,_,h,k=>⟨h.1,Fa2.append h.2 k⟩
theorem Fa2.take {α β:Type} {R:α->β->Prop}:∀{xs:List α} {ls:List β},Fa2 R xs ls->∀(n:Nat),Fa2 R (xs.take n) (ls.take n)
 |[],[],_,n=>by simp;exact aa
 |_::_,_::_,_,0=>trivial
 |_::_,_::_,h,n+1=>⟨h.1,Fa2.take h.2 n⟩
theorem Fa2.drop {α β:Type} {R:α->β->Prop}:∀{xs:List α} {ls:List β},Fa2 R xs ls->∀(n:Nat),Fa2 R (xs.drop n) (ls.drop n)
 |[],[],_,n=>by simp;exact aa
 |_::_,_::_,h,0=>h
 |_::_,_::_,h,n+1=>by simpa using Fa2.drop h.2 n
theorem Fa2.set {α β:Type} {R:α->β->Prop}:∀{xs:List α} {ls:List β},Fa2 R xs ls->∀(i:Nat) {x:α} {l:β},R x l->Fa2 R (xs.set i x) (ls.set i l)
 |[],[],_,i,_,_,_=>by simp;exact aa
 |_::_,_::_,h,0,_,_,hr=>⟨hr,h.2⟩
 |_::_,_::_,h,i+1,_,_,hr=>⟨h.1,Fa2.set h.2 i hr⟩
def fS (X:Nat->Prop) (N:Nat->Option Value) (w:World):(a:Fk)->a.T->Value->Prop
 | .int k,x,v=>v= .int k x
 | .bool,b,v=>v= .bool b
 | .str,(s:ByteArray),v=>v= .string s
 | .sl e,xs,v=>∃vs,Lsl X w false xs.length v 1 vs/\Fa2 (fS X N w e) xs vs
 | .os _,none,v=>v=vN
 | .os e,some xs,v=>∃vs,Lsl X w true xs.length v 1 vs/\Fa2 (fS X N w e) xs vs
 | .ref,p,v=>∃b,N p.1=some (vp b)/\v=vP b p.2
 | .val,x,v=>v=x/\Value.oneCell' x=true
def rS (X:Nat->Prop) (N:Nat->Option Value) (w:World):(e:List Fk)->RT e->List Value->Prop
 |[],_,l=>l=[]
 |a::r,x,l=>match r,x,l with
  |[],x,l=>∃v,l=[v]/\fS X N w a x v
  |b::s,x,l=>∃v l',l=v::l'/\fS X N w a x.1 v/\rS X N w (b::s) x.2 l'
def cells (k:IntKind) (n:Nat) (f:Nat->Int):List Value:=(List.range n).map λi=>Value.int k (f i)
def CS (X:Nat->Prop) (N:Nat->Option Value) (w:World):D->Bool->List Value->Prop
 | .v x,_,l=>l=[x]
 | .ar k n f,m,l=>l=bif m then[.agg (cells k n f).toArray]else cells k n f
 | .ls nn e xs,_,l=>∃v ls,l=[v]/\Lsl X w nn xs.length v e.length ls.flatten/\Fa2 (rS X N w e) xs ls
 | .os e o,_,l=>∃v,l=[v]/\fS X N w (.os e) o v
 | .nil,_,l=>l=[]
 | .cons d ds,m,l=>∃l1 l2,l=l1++l2/\CS X N w d m l1/\CS X N w ds m l2
 | .ag ds,m,l=>∃l',CS X N w ds false l'/\(∀u∈l',u.oneCell'=true)/\l=bif m then[.agg l'.toArray]else l'
 | .tu ds,_,l=>∃l',CS X N w ds true l'/\l=[.tuple l'.toArray]
 | .fn f a b,_,l=>∃va vb,CS X N w a true va/\CS X N w b true vb/\l=[.func (.func f) va.toArray vb.toArray]
 | .ifc t d,_,l=>∃v,CS X N w d true [v]/\l=[.iface t v]
 | .cp k o,_,l=>∃b,N k=some (vp b)/\l=[vP b o]
 | .ep k o m n i,_,l=>i<n/\∃b,N k=some (vp b)/\l=[vP b (o+i*m)]
 | .xp k m n i o,_,l=>i<n/\∃b c,N k=some (vS b 0 n c)/\l=[vP b (i*m+o)]
 | .sk k,_,l=>∃v,N k=some v/\l=[v]/\v.oneCell'=true
 | .sv k o n,_,l=>∃b c,N k=some (vp b)/\l=[vS b o n c]/\n<=c/\n<=maxLen
 | .im d o,_,l=>∃b l',¬X b/\b<w.heap.size/\l=[vP b o]/\At w b 0 l'/\(∀u∈l',u.oneCell'=true)/\CS X N w d false l'
 | .ip e x o,_,l=>∃b o0 l',¬X b/\b<w.heap.size/\l=[vP b (o0+o)]/\At w b o0 l'/\rS X N w e x l'
 | .top,_,l=>∃v,l=[v]
structure XE (X:Nat->Prop) (N:Nat->Option Value) (w:World) (S X':Nat->Prop) (N':Nat->Option Value) (w':World):Prop where
 ch:Chp S w w'
 s:∀x,S x->X x
 x:∀x,X' x->X x\/w.heap.size<=x
 n:∀k v,N k=some v->N' k=some v
variable {X X' S:Nat->Prop} {N N':Nat->Option Value} {w w':World}
theorem Lsl.mv {nn:Bool} {n m:Nat} {v:Value} {cs:List Value} (h:Lsl X w nn n v m cs) (g:XE X N w S X' N' w'):Lsl X' w' nn n v m cs:=by
 refine⟨h.le,h.len,h.at'.imp id ?_⟩;rintro⟨b,o,c,rfl,h1,h2,h3,h4,h5⟩;refine⟨b,o,c,rfl,h1,h2,λhx=> ?_,ca h4 g.ch.size,At.mvp h5 g.ch λhs=>h3 (g.s b hs)⟩;rcases g.x b hx with h|h
 ·exact h3 h
 ·omega
theorem iY (g:XE X N w S X' N' w'):∀(a:Fk) (x:a.T) (v:Value),fS X N w a x v->fS X' N' w' a x v:=by
 intro a
 induction a with
 |int k=>exact λx v h=>h
 |bool=>exact λx v h=>h
 |str=>exact λx v h=>h
 |val=>exact λx v h=>h
 |sl e ih=>rintro x v ⟨vs,h1,h2⟩;exact⟨vs,h1.mv g,h2.mono ih⟩
 |os e ih=>
  intro x v h;cases x with
  |none=>exact h
  |some xs=>obtain⟨vs,h1,h2⟩:=h;exact⟨vs,h1.mv g,h2.mono ih⟩
 |ref=>rintro x v ⟨b,h1,h2⟩;exact⟨b,g.n _ _ h1,h2⟩
theorem FY (g:XE X N w S X' N' w'):∀(e:List Fk) (x:RT e) (l:List Value),rS X N w e x l->rS X' N' w' e x l
 |[],x,l,h=>h
 |[a],x,l,⟨v,h1,h2⟩=>⟨v,h1,iY g _ _ _ h2⟩
 |a::b::s,x,l,⟨v,l',h1,h2,h3⟩=>⟨v,l',h1,iY g _ _ _ h2,FY g (b::s) _ _ h3⟩
theorem eY:∀(e:List Fk) (x:RT e) (l:List Value),rS X N w e x l->l.length=e.length
 |[],x,l,h=>by rw[show l=[]from h];rfl
 |[a],x,l,⟨v,h1,h2⟩=>by rw[h1];rfl
 |a::b::s,x,l,⟨v,l',h1,h2,h3⟩=>by rw[h1];simp [eY (b::s) _ _ h3]
theorem GY (g:XE X N w S X' N' w'):∀(d:D) (m:Bool) (l:List Value),CS X N w d m l->CS X' N' w' d m l:=by
 intro d
 induction d with
 |ls nn e xs=>rintro m l ⟨v,ls,h2,h3,h4⟩;exact⟨v,ls,h2,h3.mv g,h4.mono (FY g e)⟩
 |os e o=>rintro m l ⟨v,h2,h3⟩;exact⟨v,h2,iY g _ _ _ h3⟩
 |cons d ds ih1 ih2=>rintro m l ⟨l1,l2,rfl,h1,h2⟩;exact⟨l1,l2,rfl,ih1 _ _ h1,ih2 _ _ h2⟩
 |ag ds ih=>rintro m l ⟨l',h1,h2,h3⟩;exact⟨l',ih _ _ h1,h2,h3⟩
 |tu ds ih=>rintro m l ⟨l',h1,h2⟩;exact⟨l',ih _ _ h1,h2⟩
 |fn f a b iha ihb=>rintro m l ⟨va,vb,h1,h2,h3⟩;exact⟨va,vb,iha _ _ h1,ihb _ _ h2,h3⟩
 |ifc t d ih=>rintro m l ⟨v,h1,h2⟩;exact⟨v,ih _ _ h1,h2⟩
 |cp k o=>rintro m l ⟨b,h2,h3⟩;exact⟨b,g.n _ _ h2,h3⟩
 |ep k o z n i=>rintro m l ⟨h0,b,h2,h3⟩;exact⟨h0,b,g.n _ _ h2,h3⟩
 |xp k z n i o=>rintro m l ⟨h0,b,c,h2,h3⟩;exact⟨h0,b,c,g.n _ _ h2,h3⟩
 |sk k=>rintro m l ⟨v,h2,h3,h4⟩;exact⟨v,g.n _ _ h2,h3,h4⟩
 |sv k o n=>rintro m l ⟨b,c,h2,h3⟩;exact⟨b,c,g.n _ _ h2,h3⟩
 |im d o ih=>
  rintro m l ⟨b,l',h2,h3,h4,h5,h7,h6⟩;refine⟨b,l',λhx=> ?_,ca h3 g.ch.size,h4,At.mvp h5 g.ch λhs=>h2 (g.s b hs),h7,ih _ _ h6⟩;rcases g.x b hx with h|h
  ·exact h2 h
  ·omega
 |ip e x o=>
  rintro m l ⟨b,o0,l',h2,h3,h4,h5,h6⟩;refine⟨b,o0,l',λhx=> ?_,ca h3 g.ch.size,h4,At.mvp h5 g.ch λhs=>h2 (g.s b hs),FY g _ _ _ h6⟩;rcases g.x b hx with h|h
  ·exact h2 h
  ·omega
 |_=>exact λm l h=>h
theorem sU {d:D} {m:Bool} {l:List Value} (h:CS X N w d m l) (hx:∀x,X' x->X x):CS X' N w d m l:=
 GY (S:=λ_=>False) ⟨Chp.refl _ _,λ_ h=>h.elim,λx h=> .inl (hx x h),λ_ _ h=>h⟩ d m l h
def D.one:D->Bool
 | .nil| .cons .. =>false
 |_=>true
theorem G8:∀{d:D} {l:List Value},CS X N w d true l->d.one=true->∃v,l=[v]:=by
 intro d l h hd;cases d with
 |v x=>exact⟨_,h⟩
 |ar k n f=>exact⟨_,h⟩
 |ls nn e xs=>obtain⟨v,_,h,_⟩:=h;exact⟨v,h⟩
 |os e o=>obtain⟨v,h,_⟩:=h;exact⟨v,h⟩
 |nil=>cases hd
 |cons d ds=>cases hd
 |ag ds=>obtain⟨l',_,_,h⟩:=h;exact⟨_,h⟩
 |tu ds=>obtain⟨l',_,h⟩:=h;exact⟨_,h⟩
 |fn f a b=>obtain⟨_,_,_,_,h⟩:=h;exact⟨_,h⟩
 |ifc t d=>obtain⟨_,_,h⟩:=h;exact⟨_,h⟩
 |cp k o=>obtain⟨b,_,h⟩:=h;exact⟨_,h⟩
 |ep k o m n i=>obtain⟨_,b,_,h⟩:=h;exact⟨_,h⟩
 |xp k m n i o=>obtain⟨_,b,_,_,h⟩:=h;exact⟨_,h⟩
 |sk k=>obtain⟨b,_,h,_⟩:=h;exact⟨_,h⟩
 |sv k o n=>obtain⟨b,c,_,h,_⟩:=h;exact⟨_,h⟩
 |im d o=>obtain⟨b,l',_,_,h,_⟩:=h;exact⟨_,h⟩
 |ip e x o=>obtain⟨b,o0,l',_,_,h,_⟩:=h;exact⟨_,h⟩
 |top=>exact h
abbrev AW:(List Int):=rz [.sl (.int .u8)]
abbrev Bg:Int×Int×(List (List Int)):=rz [.int .i64,.int .i64,.sl (.sl (.int .u8))]
abbrev FB:Int×Int×(List Int)×(List Int):=rz [.int .i64,.int .i64,.sl (.int .u8),.sl (.int .u8)]
abbrev Hw:Int×Int×Int×(List Int):=rz [.int .i64,.int .i64,.int .i64,.sl (.int .u8)]
abbrev Jk:Int×Int×Int×Int×(List Int):=rz [.int .i64,.int .i64,.int .i64,.int .i64,.sl (.int .u8)]
abbrev KO:(Option (List Int)):=rz [.os (.int .u8)]
abbrev A0:List Fk:=[.sl (.int .u8)]
abbrev A8:List Fk:=[.os (.int .u8)]
abbrev Bb:List Fk:=[.int .u8]
abbrev Ct:List Fk:=[.int .i64,.int .i64,.sl (.sl (.int .u8))]
abbrev CJ:List Fk:=[.int .i64,.int .i64,.sl (.int .u8),.sl (.int .u8)]
abbrev F5:List Fk:=[.int .i64]
abbrev Oa:List Fk:=[.int .i64,.int .i64,.int .i64,.sl (.int .u8)]
abbrev wM:List Fk:=[.int .i64,.int .i64,.int .i64,.int .i64,.sl (.int .u8)]
abbrev Ad:=List Int
abbrev AZ:=List Ad
abbrev CE:=List (Option Ad)
abbrev LzF:=List (Int×Int×Ad×Ad)
end Go.Sx
namespace Go.Mi
open Go.RowKit
variable [Dfr]
structure Acc where
 us:List (Nat×Nat)
 zs:List (Nat×Value)
 ph:List Nat
 hs:List Nat
 out:(Nat->Value)->Value
 dep:∀H H':Nat->Value,(∀j,j∈hs->H j=H' j)->out H=out H'
def vb:Value->Option Bool
 | .bool b=>some b
 |_=>none
variable {P:Program} {n:Nat} {Wd:Nat->(Nat->Value)->World->Prop} {ss:List Nat} {L0:List (Nat×Value)} {rows:List Acc}
variable {l:List Oper} {listed:Array Bool} {p:Nat} {H:Nat->Value} {a:Act} {w:World} {Q:Exit->Act->World->Prop}
end Go.Mi
namespace Go.Sx
open Go.Mi Go.RowKit
variable [Dfr]
structure G where
 N:Nat->Option Value
 F:Nat->List Nat
 X:Nat->Prop
inductive O where
 |ob (ty:TypeId) (ds:D)
 |sl (ty:TypeId) (e:List Fk) (xs:List (RT e))
abbrev Sm (g:G) (w:World) (d:D) (v:Value):Prop:=CS g.X g.N w d true [v]
def OS (g:G) (w:World) (k:Nat):O->Prop
 | .ob ty ds=>∃b c,g.N k=some (vp b)/\g.F k=[b]/\w.heap[b]? =some (.cells c ty (0,0))/\CS g.X g.N w ds false c.toList/\∀u∈c.toList,u.oneCell'=true
 | .sl ty e xs=>∃v ls,g.N k=some v/\g.F k=C8 v/\Own w 0 ty e.length v xs.length ls.flatten/\xs.length<=maxLen/\Fa2 (rS g.X g.N w e) xs ls/\∀u∈ls.flatten,u.oneCell'=true
theorem OS.lt {g:G} {w:World} {k:Nat} {o:O} (h:OS g w k o):∀b∈g.F k,b<w.heap.size:=by
 cases o with
 |ob ty ds=>
  obtain⟨b,c,_,h2,h3,_⟩:=h;intro x hx;rw[h2,bo]at hx;subst hx;rcases ci x w.heap.size with h'|h'
  ·exact h'
  ·rw[eg h']at h3;cases h3
 |sl ty e xs=>
  obtain⟨v,ls,_,h2,h3,_⟩:=h;intro x hx;rw[h2]at hx;exact(h3.lt x hx).2
structure Go (S:Nat->Prop) (g:G) (w:World) (g':G) (w':World):Prop where
 ch:Chp S w w'
 s:∀x,S x->g.X x
 x:∀x,g'.X x->g.X x\/w.heap.size<=x
 k:∀x,g.X x->¬S x->g'.X x
 n:∀k v,g.N k=some v->g'.N k=some v
 f:∀k v,g.N k=some v->g'.F k=g.F k
def Wf (g:G) (w:World):Prop:=∀x,g.X x->x<w.heap.size
variable {S:Nat->Prop} {g g':G} {w w':World}
theorem Go.goes (h:Go S g w g' w'):XE g.X g.N w S g'.X g'.N w':=⟨h.ch,h.s,h.x,h.n⟩
theorem Go.refl (S:Nat->Prop) (g:G) (w:World) (hs:∀x,S x->g.X x):Go S g w g w:=⟨Chp.refl _ _,hs,λ_ h=> .inl h,λ_ h _=>h,λ_ _ h=>h,λ_ _ _=>rfl⟩
theorem Chp.next {S S':Nat->Prop} {a b c:World} (h:Chp S a b) (k:Chp S' b c) (hs:∀y,S' y->S y\/a.heap.size<=y):Chp S a c:=
 ⟨k.os.trans h.os,k.tape.trans h.tape,k.output.trans h.output,b_ h.size k.size,λi hi hn=>(k.blk i (ca hi h.size) λhy=>(hs i hy).elim hn λh1=>by omega).trans (h.blk i hi hn)⟩
theorem Go.trans {S':Nat->Prop} {g'':G} {w'':World} (h:Go S g w g' w') (h':Go S' g' w' g'' w'') (hw:Wf g w) (hs:∀y,S' y->S y\/w.heap.size<=y):Go S g w g'' w'':=by
 refine⟨h.ch.next h'.ch hs,h.s,λx hx=> ?_,λx hx hn=> ?_,λk v hk=>h'.n k v (h.n k v hk),λk v hk=>(h'.f k v (h.n k v hk)).trans (h.f k v hk)⟩
 ·rcases h'.x x hx with h1|h1
  ·exact h.x x h1
  ·exact .inr (b_ h.ch.size h1)
 ·refine h'.k x (h.k x hx hn) λhy=> ?_;rcases hs x hy with h1|h1
  ·exact hn h1
  ·have :=hw x hx;omega
theorem Go.mono {S':Nat->Prop} (h:Go S g w g' w') (hs:∀y,S y->S' y) (hx:∀y,S' y->g.X y):Go S' g w g' w':=
 ⟨⟨h.ch.os,h.ch.tape,h.ch.output,h.ch.size,λb hb hn=>h.ch.blk b hb λhy=>hn (hs b hy)⟩,hx,h.x,λx h1 h2=>h.k x h1 λhy=>h2 (hs x hy),h.n,h.f⟩
theorem Go.drew (g:G) (w:World):Go (λ_=>False) g w g {w with drawn:=w.drawn+1}:=
 ⟨⟨rfl,rfl,rfl,an _,λ_ _ _=>rfl⟩,λ_ h=>h.elim,λ_ h=> .inl h,λ_ h _=>h,λ_ _ h=>h,λ_ _ _=>rfl⟩
theorem Sm.mv {d:D} {v:Value} (h:Sm g w d v) (k:Go S g w g' w'):Sm g' w' d v:=GY k.goes d true [v] h
theorem OS.mv {k:Nat} {o:O} (h:OS g w k o) (r:Go S g w g' w') (hs:∀b∈g.F k,¬S b):OS g' w' k o:=by
 have hl:=h.lt;cases o with
 |ob ty ds=>
  obtain⟨b,c,h1,h2,h3,h4,h5⟩:=h;have hb:b∈g.F k:=by rw[h2];simp
  exact⟨b,c,r.n _ _ h1,by rw[r.f _ _ h1,h2],by rw[r.ch.blk b (hl b hb) (hs b hb)];exact h3,GY r.goes _ _ _ h4,h5⟩
 |sl ty e xs=>
  obtain⟨v,ls,h1,h2,h3,h4,h5,h6⟩:=h;exact⟨v,ls,r.n _ _ h1,by rw[r.f _ _ h1,h2],Own.mvp h3 r.ch λb hb=>hs b (by rw[h2];exact hb),h4,h5.mono (FY r.goes e),h6⟩
structure HS (H:Nat->Option O) (g:G) (w:World):Prop where
 wf:Wf g w
 os:∀k o,H k=some o->OS g w k o
 own:∀k o,H k=some o->∀b∈g.F k,g.X b
 dis:∀k o k' o',H k=some o->H k'=some o'->k≠k'->∀b∈g.F k,b∉g.F k'
theorem HS.sub {H H':Nat->Option O} (h:HS H g w) (hs:∀k o,H' k=some o->H k=some o):HS H' g w:=
 ⟨h.wf,λk o hk=>h.os k o (hs k o hk),λk o hk=>h.own k o (hs k o hk),λk o k' o' hk hk'=>h.dis k o k' o' (hs k o hk) (hs k' o' hk')⟩
abbrev Hp:=List (Nat×Option O)
def Fe:Hp->Nat->Option (Option O)
 |[],_=>none
 |(s,o)::r,t=>bif Nat.beq s t then some o else Fe r t
def A4 (H:Hp) (k:Nat):Option O:=(Fe H k).getD none
def Cj (ks:List Nat) (H:Nat->Option O):Nat->Option O:=λk=>bif CN k ks then H k else none
abbrev DL:=List (Nat×D)
def D4:DL->Nat->Option D
 |[],_=>none
 |(s,v)::r,t=>bif Nat.beq s t then some v else D4 r t
def D.val:D->Value->Value
 | .v x,_=>x
 |_,u=>u
theorem Sm.val {d:D} {v:Value} (h:Sm g w d v):d.val v=v:=by
 cases d with
 |v x=>have :[v]=[x]:=h;simp only[List.cons.injEq,and_true]at this;exact this.symm
 |_=>rfl
def LN (L:DL) (ξ:Nat->Value):List (Nat×Value):=L.map λp=>(p.1,p.2.val (ξ p.1))
def Hold (L:DL) (ξ:Nat->Value) (g:G) (w:World):Prop:=∀t d,D4 L t=some d->Sm g w d (ξ t)
theorem gK {L:DL} {ξ:Nat->Value} {t:Nat}:lk (LN L ξ) t=(D4 L t).map λs=>s.val (ξ t):=by
 induction L with
 |nil=>rfl
 |cons p L ih=>
  obtain⟨s,u⟩:=p;simp only[LN,bg,lk,D4];by_cases e:s=t
  ·subst e;simp
  ·rw[BL e];simpa[LN]using ih
theorem Hold.lk {L:DL} {ξ:Nat->Value} {t:Nat} {d:D} (h:Hold L ξ g w) (hd:D4 L t=some d):lk (LN L ξ) t=some (ξ t):=by rw[gK,hd,ew,(h t d hd).val]
structure Fr (a:Act) (n:Nat) (L:DL) (g:G) (w:World):Prop where
 size:a.tmps.size=n
 defers:a.defers=Dfr.ds
 get:Hold L (λt=>a.tmps.getD t undef) g w
theorem Fr.frm {a:Act} {n:Nat} {L:DL} (h:Fr a n L g w):Frm a n (LN L λt=>a.tmps.getD t undef):=by refine⟨h.size,h.defers,λt v hv=> ?_⟩;rw[gK]at hv;obtain⟨s,h1,rfl⟩:=ak.1 hv;exact(h.get t s h1).val.symm
def Bo (L:DL):List Nat->DL
 |[]=>[]
 |t::ts=>match D4 L t with
  |some s=>(t,s)::Bo L ts
  |none=>Bo L ts
theorem Fl {L:DL}:∀{ts:List Nat} {t:Nat} {s:D},D4 (Bo L ts) t=some s->t∈ts/\D4 L t=some s
 |[],t,s,h=>by simp [Bo,D4]at h
 |u::ts,t,s,h=>by
  simp only[Bo]at h;cases hu:D4 L u with
  |none=>rw[hu]at h;obtain⟨h1,h2⟩:=Fl h;exact⟨a_ _ h1,h2⟩
  |some x=>
   rw[hu]at h;simp only[D4]at h;by_cases e:u=t
   ·subst e;simp at h;subst h;exact⟨bz ..,hu⟩
   ·rw[BL e]at h;obtain⟨h1,h2⟩:=Fl h;exact⟨a_ _ h1,h2⟩
def FJ (H:Hp):List Nat->Hp
 |[]=>[]
 |t::ts=>match Fe H t with
  |some s=>(t,s)::FJ H ts
  |none=>FJ H ts
theorem My {H:Hp}:∀{ts:List Nat} {t:Nat} {s:Option O},Fe (FJ H ts) t=some s->t∈ts/\Fe H t=some s
 |[],t,s,h=>by simp [FJ,Fe]at h
 |u::ts,t,s,h=>by
  simp only[FJ]at h;cases hu:Fe H u with
  |none=>rw[hu]at h;obtain⟨h1,h2⟩:=My h;exact⟨a_ _ h1,h2⟩
  |some x=>
   rw[hu]at h;simp only[Fe]at h;by_cases e:u=t
   ·subst e;simp at h;subst h;exact⟨bz ..,hu⟩
   ·rw[BL e]at h;obtain⟨h1,h2⟩:=My h;exact⟨a_ _ h1,h2⟩
theorem BS {H:Hp} {k:Nat} {o:O}:A4 H k=some o↔Fe H k=some (some o):=by
 unfold A4;cases h:Fe H k with
 |none=>simp
 |some x=>simp
theorem JV {H:Hp} {ts:List Nat} {k:Nat} {o:O} (h:A4 (FJ H ts) k=some o):A4 H k=some o:=BS.2 (My (BS.1 h)).2
structure Eff where
 rd:List Nat
 wr:Hp
 nw:List (Nat×O)
 r:D
def Ax {α:Type} (l:List (Nat×α)):List Nat:=l.map (·.1)
def Eff.outs (e:Eff):Hp:=e.wr++e.nw.map λp=>(p.1,some p.2)
def Eff.foot (e:Eff) (H:Nat->Option O) (g:G):Nat->Prop:=λb=>∃k,k∈Ax e.wr/\∃o,H k=some o/\b∈g.F k
structure Post (H:Nat->Option O) (e:Eff) (g:G) (w:World) (v:Value) (g':G) (w':World):Prop where
 go:Go (e.foot H g) g w g' w'
 r:Sm g' w' e.r v
 hs:HS (A4 e.outs) g' w'
 fp:∀k o,A4 e.outs k=some o->∀b∈g'.F k,e.foot H g b\/w.heap.size<=b
 nm:∀k v,g'.N k=some v->g.N k=some v\/k∈Ax e.nw
def EOk (P:Program) (n:Nat) (o:Oper) (L:DL) (H:Nat->Option O) (e:Eff):Prop:=
 ∀ξ g w,HS (Cj (e.rd++Ax e.wr) H) g w->Hold L ξ g w->(∀p∈e.nw,g.N p.1=none)->Ok1 P o n (LN L ξ) w λv w'=>∃g',Post H e g w v g' w'
theorem Post.pure {H:Nat->Option O} {rd:List Nat} {d:D} {v:Value} (hw:Wf g w) (h:Sm g w d v):Post H ⟨rd,[],[],d⟩ g w v g w:=
 ⟨Go.refl _ _ _ (λx ⟨k,hk,_⟩=>by simp [Ax]at hk),h,⟨hw,λk o h=>by simp [Eff.outs,A4,Fe]at h,λk o h=>by simp [Eff.outs,A4,Fe]at h,λk o k' o' h=>by simp [Eff.outs,A4,Fe]at h⟩,λk o h=>by simp [Eff.outs,A4,Fe]at h,λk v h=> .inl h⟩
end Go.Sx
namespace Go.Sx
open Go.Mi Go.RowKit
variable [Dfr]
def lw {β γ:Type} (d:Nat->Bool) (f:β->Nat->Option γ):Nat->List β->(Nat->γ)->Nat->γ
 |_,[],H=>H
 |i,b::bs,H=>lw d f (i+1) bs λk=>bif d i then(f b k).getD (H k)else H k
def dB {β γ:Type} (f:β->Nat->Option γ) (H:Nat->γ) (b:β):Nat->γ:=λk=>(f b k).getD (H k)
theorem Eh {β γ:Type} {f:β->Nat->Option γ} {d d':Nat->Bool} {k:Nat}:∀{bs:List β} {i:Nat} {H H':Nat->γ},(∀(j:Nat) (b:β),bs[j]? =some b->f b k≠none->d (i+j)=d' (i+j))->H k=H' k->lw d f i bs H k=lw d' f i bs H' k
 |[],i,H,H',_,h=>h
 |b::bs,i,H,H',hd,h=>by
  simp only[lw];refine Eh (λj b' hj hf=> ?_) ?_
  ·have :=hd (j+1) b' (by simpa using hj) hf
   rwa [show i+(j+1)=i+1+j by omega]at this
  ·cases hf:f b k with
   |none=>cases d i<;>cases d' i<;>simpa using h
   |some x=>
    have :=hd 0 b rfl (by rw[hf];simp);simp only[ey]at this;rw[this];cases d' i<;>simp [h]
theorem JU {β γ:Type} {f:β->Nat->Option γ} {k:Nat}:∀{bs:List β} {i j:Nat} {H:Nat->γ},lw (λx=>Nat.blt x (i+j)) f i bs H k=(bs.take j).foldl (dB f) H k
 |[],i,j,H=>by simp [lw]
 |b::bs,i,0,H=>by
  simp only[lw,gl,List.foldl_nil];have h1:Nat.blt i (i+0)=false:=by
   cases h:Nat.blt i (i+0)with
   |false=>rfl
   |true=>rw[ay]at h;omega
  rw[h1];simp only[cond_false];have :=JU (bs:=bs) (i:=i+1) (j:=0) (H:=H) (f:=f) (k:=k);rw[gl,List.foldl_nil]at this;refine Eq.trans (Eh (λj b' _ _=> ?_) rfl) this;have h2:∀m,i<=m->Nat.blt m i=false:=λm hm=>by
   cases h:Nat.blt m i with
   |false=>rfl
   |true=>rw[ay]at h;omega
  have h3:Nat.blt (i+1+j) (i+1+0)=false:=by
   cases h:Nat.blt (i+1+j) (i+1+0)with
   |false=>rfl
   |true=>rw[ay]at h;omega
  rw[h3];exact h2 _ (by omega)
 |b::bs,i,j+1,H=>by
  simp only[lw,gd,gt];have h1:Nat.blt i (i+(j+1))=true:=by rw[ay];omega
  rw[h1];simp only[cond_true];have :=JU (bs:=bs) (i:=i+1) (j:=j) (H:=dB f H b) (f:=f) (k:=k);rw[<-this,show i+(j+1)=i+1+j by omega];rfl
section
variable {P:Program} {Q:Exit->Act->World->Prop} {l:List Oper}
theorem JB {a : Act} {w : World} {id : Nat} (hm : P.follows .mixedOrders = true) (hback : ∀ (i : Nat) (o : Oper), l[i]? = some o -> ∀ e ∈ o.after.toList, Region.binds .any e = true -> e.on < i) (I : (Nat -> Bool) -> Act -> World -> Prop)
  (hcg:∀d d' a w,(∀i,i<l.length->d i=d' i)->I d a w->I d' a w) (h0:I (λ_=>false) a {w with drawn:=w.drawn+1})
  (hstep:∀d i a w,i<l.length->d i=false->(∀i' j,C7 l i' j->d i'=true->d j=true)->(∀j,C7 l i j->d j=true)->I d a w->wpOp P l.toArray Q i (λa' w'=>I (λj=>bif Nat.beq j i then true else d j) a' w') a w)
  (hend:∀a w,I (λ_=>true) a w->Q .normal a w):(Code.region id l.toArray true).wp P Q a w:=by
 refine wp_region_any hm ?_
 let I2:Array Bool->Act->World->Prop:=λlisted a w=>listed.size=l.length/\(∀i o,l[i]? =some o->listed.getD i false=true->∀e∈o.after.toList,Region.binds .any e=true->listed.getD e.on false=true)/\I (λi=>listed.getD i false) a w
 have closed:∀{listed:Array Bool} {a:Act} {w:World},I2 listed a w->∀i j,C7 l i j->listed.getD i false=true->listed.getD j false=true:=by
  intro listed a w h i j ha
  induction ha with
  |edge h1 h2 h3=>exact λhi=>h.2.1 _ _ h1 hi _ h2 h3
  |trans _ _ ih1 ih2=>exact λhi=>ih2 (ih1 hi)
 have whenAll:∀(listed:Array Bool) (a:Act) (w:World),I2 listed a w->(∀i,i<l.length->listed.getD i false=true)->Q .normal a w:=by intro listed a w h hall;exact hend a w (hcg _ _ a w (λi hi=>hall i hi) h.2.2)
 have hready:∀(listed:Array Bool) (a:Act) (w:World),I2 listed a w->Region.ready .any l.toArray listed=[]->∀i,i<l.length->listed.getD i false=true:=by
  intro listed a w h hnil i0 hi0;have :∀k i,i<=k->i<l.length->listed.getD i false=false->False:=by
   intro k
   induction k with
   |zero=>
    intro i hik hil hif;have hi0:i=0:=by omega
    subst hi0;have ho:l[0]? =some l[0]:=am hil;have hmem:0∈Region.ready .any l.toArray listed:=by
     simp only[Region.ready,gv,el,ap];refine⟨by simpa using hil,?_,?_⟩
     ·have :0<listed.size:=by rw[h.1];exact hil
      simpa[this]using hif
     ·simp only[db,ho,ew,ej,Array.all_eq_true'];intro e he;cases hbd:Region.binds .any e with
      |false=>simp
      |true=>have :=hback 0 _ ho e (by simpa using he) hbd;omega
    rw[hnil]at hmem;simp at hmem
   |succ k ihk=>
    intro i hik hil hif;by_cases hlow:∃j,j<i/\listed.getD j false=false
    ·obtain⟨j,hj,hjf⟩:=hlow;exact ihk j (by omega) (by omega) hjf
    ·have ho:l[i]? =some l[i]:=am hil;have hmem:i∈Region.ready .any l.toArray listed:=by
      simp only[Region.ready,gv,el,ap];refine⟨by simpa using hil,?_,?_⟩
      ·have :i<listed.size:=by rw[h.1];exact hil
       simpa[this]using hif
      ·simp only[db,ho,ew,ej,Array.all_eq_true'];intro e he;cases hbd:Region.binds .any e with
       |false=>simp
       |true=>
        have hlt:=hback i _ ho e (by simpa using he) hbd;cases hb:listed.getD e.on false with
        |true=>simp
        |false=>exact absurd ⟨e.on,hlt,hb⟩ hlow
     rw[hnil]at hmem;simp at hmem
  cases hb:listed.getD i0 false with
  |true=>rfl
  |false=>exact(this i0 i0 (an _) hi0 hb).elim
 have main:∀(fuel:Nat) (listed:Array Bool) (a:Act) (w:World),I2 listed a w->left l.length listed<=fuel->wpAny P .any l.toArray Q fuel listed a w:=by
  intro fuel
  induction fuel with
  |zero=>
   intro listed a w h hf;have hall:∀i,i<l.length->listed.getD i false=true:=by
    intro i hi;have h0:left l.length listed=0:=by omega
    unfold left at h0;rw[List.countP_eq_zero]at h0;simpa using h0 i (by simpa using hi)
   refine⟨?_,whenAll listed a w h hall⟩;unfold Region.ready;rw[List.filter_eq_nil_iff];intro i hi;have hi':i<l.length:=by simpa using hi
   have h1:=hall i hi';have h2:i<listed.size:=by rw[h.1];exact hi'
   have h3:listed.getD i true=true:=by simpa[h2]using h1
   rw[h3];simp
  |succ fuel ih=>
   intro listed a w h hf;refine⟨λhnil=>whenAll listed a w h (hready listed a w h hnil),λi hi=> ?_⟩;have hlt:i<l.length:=by simpa using(UQ hi).1
   have hsz:i<listed.size:=by rw[h.1];exact hlt
   have hf':listed.getD i false=false:=by have :=(UQ hi).2;simpa[hsz]using this
   obtain⟨oi,hoi⟩:∃o,l[i]? =some o:=⟨_,am hlt⟩;have hed:=UR hoi hi;have hah:∀j,C7 l i j->listed.getD j false=true:=by
    intro j hj;have key:∀i' j',C7 l i' j'->i'=i->listed.getD j' false=true:=by
     intro i' j' ha
     induction ha with
     |edge h1 h2 h3=>intro e;subst e;rw[hoi]at h1;cases h1;exact hed _ h2 h3
     |trans _ hb ih1 _=>intro e;exact closed h _ _ hb (ih1 e)
    exact key i j hj rfl
   refine wpOp_mono (λa' w' h'=> ?_) (hstep _ i a w hlt hf' (closed h) hah h.2.2);refine ih _ a' w' ⟨by simp [h.1],λi' o ho hd e he hb=> ?_,hcg _ _ _ _ (λj _=> ?_) h'⟩ ?_
   ·rw[JZ hsz]at hd⊢;by_cases h1:e.on=i
    ·rw[ab h1]
    ·rw[aj h1];by_cases h2:i'=i
     ·subst h2;rw[hoi]at ho;cases ho;exact hed e he hb
     ·rw[aj h2]at hd;exact h.2.1 i' o ho hd e he hb
   ·show _=(listed.setIfInBounds i true).getD j false;rw[JZ hsz];by_cases hji:j=i
    ·subst hji;simp
    ·rw[aj hji,BL hji];rfl
   ·have :=gM hsz hlt hf';omega
 refine main _ _ _ _ ?_ ?_
 ·have h0' : ∀ j, (Array.replicate l.toArray.size false).getD j false = false := by intro j;simp only[Array.getD_eq_getD_getElem?,Array.getElem?_replicate];split<;>rfl
  refine⟨by simp,λi o _ h=> ?_,hcg _ _ _ _ (λi _=>(h0' i).symm) h0⟩;rw[h0']at h;simp at h
 ·unfold left;have :=List.countP_le_length (l:=List.range l.length) (p:=λi=> !(Array.replicate l.toArray.size false).getD i false);simpa using this
theorem IV {a : Act} {w : World} {id : Nat} (I : (Nat -> Bool) -> Act -> World -> Prop)
  (h0:I (λ_=>false) a w) (hcg:∀d d' a w,(∀i,i<l.length->d i=d' i)->I d a w->I d' a w)
  (hstep:∀i a w,i<l.length->I (λj=>Nat.blt j i) a w->wpOp P l.toArray Q i (λa' w'=>I (λj=>bif Nat.beq j i then true else Nat.blt j i) a' w') a w)
  (hend:∀a w,I (λ_=>true) a w->Q .normal a w):(Code.region id l.toArray false).wp P Q a w:=by
 refine wp_region_lit ?_;have main:∀(os:List Oper) (i:Nat) (a:Act) (w:World),(∀(j:Nat) o,os[j]? =some o->l[i+j]? =some o)->i+os.length=l.length->I (λj=>Nat.blt j i) a w->wpList P l.toArray Q os a w:=by
  intro os
  induction os with
  |nil=>
   intro i a w _ hl h;refine hend a w (hcg _ _ a w (λj hj=> ?_) h);show Nat.blt j i=true;rw[ay];simp at hl;omega
  |cons o os ih=>
   intro i a w ho hl h;simp only[aw]at hl;have hs:=hstep i a w (by omega) h;have hi:l[i]? =some o:=by simpa using ho 0 o rfl
   unfold wpOp at hs;simp only[db,hi]at hs;unfold wpList;have hn:∀a' w',I (λj=>bif Nat.beq j i then true else Nat.blt j i) a' w'->wpList P l.toArray Q os a' w':=λa' w' h'=>by
    refine ih (i+1) a' w' (λj o' hj=> ?_) (by omega) (hcg _ _ _ _ (λj _=> ?_) h')
    ·rw[show i+1+j=i+(j+1) by omega];exact ho (j+1) o' (by simpa using hj)
    ·show _=Nat.blt j (i+1);by_cases hji:j=i
     ·subst hji;simp [ay]
     ·rw[BL hji];simp only[cond_false];cases h1:Nat.blt j i with
      |true=>rw[ay]at h1;symm;rw[ay];omega
      |false=>
       cases h2:Nat.blt j (i+1)with
       |false=>rfl
       |true=>
        rw[ay]at h2;have :Nat.blt j i=true:=by rw[ay];omega
        rw[this]at h1;cases h1
   split
   ·rename_i hw;rw[ab hw]at hs;rcases hs with hs|hs
    ·exact .inl (Oper.wp_mono hn hs)
    ·exact .inr hs
   ·rename_i hw;rw[aj hw]at hs;exact hn _ _ hs
 refine main l 0 a w (λj o h=>by simpa using h) (by simp) ?_;refine hcg _ _ a w (λi _=> ?_) h0;cases h:Nat.blt i 0 with
 |false=>rfl
 |true=>rw[ay]at h;omega
end
end Go.Sx
namespace Go.Sx
open Go.Mi Go.RowKit
variable [Dfr]
abbrev Rw:=Option Eff
def GK:Rw->Hp
 |none=>[]
 |some e=>e.outs
def u3:Rw->D
 |none=> .v undef
 |some e=>e.r
def rdR:Rw->List Nat
 |none=>[]
 |some e=>e.rd
def ZT:Rw->List Nat
 |none=>[]
 |some e=>Ax e.nw
def fL (b:Oper×Rw) (t:Nat):Option (Option D):=match b.1.dst with
 |some s=>bif Nat.beq s t then some (some (u3 b.2))else none
 |none=>none
def fH (b:Oper×Rw) (k:Nat):Option (Option O):=Fe (GK b.2) k
def LL (ops:List Oper) (o:Oper):List Nat:=
 (match o.guard with
  |some (j,_)=>((ops[j]?).bind (·.dst)).toList
  |none=>[])++o.op.operands.toList.filterMap λx=>match x with
  | .tmp t=>some t
  |_=>none
def gW (ops:List Oper) (L:DL) (o:Oper):Option Bool:=match o.guard with
 |none=>some true
 |some (j,b)=>(match((ops[j]?).bind (·.dst)).bind (D4 L)with
  |some (.v v)=>some (vb v==some b)
  |_=>none)
def LC (a b:List Nat):Bool:=a.all λx=> !CN x b
theorem OM {a b:List Nat} (h:LC a b=true) {x:Nat} (ha:x∈a) (hb:x∈b):False:=by have h1:=ax.1 h x ha;rw[A1.2 hb]at h1;cases h1
structure mR where
 rds:List Nat
 dst:List Nat
 rd:List Nat
 wr:List Nat
 nw:List Nat
def Ji (l:List Oper) (b:Oper×Rw):mR:=⟨LL l b.1,b.1.dst.toList,rdR b.2,Ax (GK b.2),ZT b.2⟩
def EV (a b:mR):Bool:=LC a.dst b.rds&&LC b.dst a.rds&&LC a.dst b.dst&&LC a.wr (b.rd++b.wr)&&LC b.wr a.rd
def TN (m:Nat) (s:mR):Nat->List mR->Bool
 |_,[]=>true
 |i,x::xs=>(EV x s||m.testBit i)&&LC x.nw s.nw&&TN m s (i+1) xs
def TM (B:List Nat) (acc:List mR):Nat->List mR->Bool
 |_,[]=>true
 |j,s::ss=>TN (B.getD j 0) s 0 acc&&TM B (acc++[s]) (j+1) ss
def YW:Nat->List Oper->Bool
 |_,[]=>true
 |i,o::os=>(o.after.toList.all λe=> !(Region.binds .any e)||Nat.blt e.on i)&&YW (i+1) os
def Q0 (n nb nb':Nat) (l:List Oper) (rows:List Rw):Bool:=
 Nat.beq rows.length l.length&&YW 0 l&&(l.all λo=>match o.dst with
  |some d=>Nat.blt d n
  |none=>true)&&TM (Xu l []) [] 0 ((l.zip rows).map (Ji l))&&(rows.all λr=>(ZT r).all λk=>Nat.ble nb k&&Nat.blt k nb')
structure ChkR (n nb nb':Nat) (l:List Oper) (rows:List Rw):Prop where
 len:rows.length=l.length
 back:∀(i:Nat) (o:Oper),l[i]? =some o->∀e∈o.after.toList,Region.binds .any e=true->e.on<i
 slot:∀o∈l,∀d,o.dst=some d->d<n
 pair:∀(i j:Nat) (a b:Oper×Rw),(l.zip rows)[i]? =some a->(l.zip rows)[j]? =some b->i<j->EV (Ji l a) (Ji l b)=true\/C7 l j i
 fresh:∀(i j:Nat) (a b:Oper×Rw),(l.zip rows)[i]? =some a->(l.zip rows)[j]? =some b->i<j->LC (ZT a.2) (ZT b.2)=true
 name:∀r∈rows,∀k∈ZT r,nb<=k/\k<nb'
theorem Sc {m:Nat} {s:mR}:∀{xs:List mR} {i:Nat},TN m s i xs=true->∀(k:Nat) (x:mR),xs[k]? =some x->(EV x s=true\/m.testBit (i+k)=true)/\LC x.nw s.nw=true
 |[],i,_,k,x,h=>by simp at h
 |y::ys,i,h,k,x,hk=>by
  simp only[TN,ap,Bool.or_eq_true]at h;cases k with
  |zero=>simp at hk;subst hk;exact⟨h.1.1,h.1.2⟩
  |succ k=>
   have :=Sc h.2 k x (by simpa using hk)
   rwa [show i+1+k=i+(k+1) by omega]at this
theorem Sb {B:List Nat}:∀{ss acc:List mR} {j:Nat},acc.length=j->TM B acc j ss=true->∀(i k:Nat) (x y:mR),(acc++ss)[i]? =some x->ss[k]? =some y->i<j+k->(EV x y=true\/(B.getD (j+k) 0).testBit i=true)/\LC x.nw y.nw=true
 |[],acc,j,_,_,i,k,x,y,_,h,_=>by simp at h
 |s::ss,acc,j,hl,h,i,k,x,y,hx,hy,hi=>by
  simp only[TM,ap]at h;cases k with
  |zero=>
   simp at hy;subst hy;have hx':acc[i]? =some x:=by rw[dj (by omega)]at hx;exact hx
   have :=Sc h.1 i x hx';simpa using this
  |succ k=>
   have :=Sb (acc:=acc++[s]) (by simp [hl]) h.2 i k x y (by simpa using hx) (by simpa using hy) (by omega)
   rwa [show j+1+k=j+(k+1) by omega]at this
theorem VN:∀{os:List Oper} {i:Nat},YW i os=true->∀(k:Nat) (o:Oper),os[k]? =some o->∀e∈o.after.toList,Region.binds .any e=true->e.on<i+k
 |[],i,_,k,o,h=>by simp at h
 |x::os,i,h,k,o,hk=>by
  simp only[YW,ap,ax,Bool.or_eq_true]at h;cases k with
  |zero=>
   simp at hk;subst hk;intro e he hb;rcases h.1 e he with h1|h1
   ·rw[hb]at h1;cases h1
   ·rw[ay]at h1;exact h1
  |succ k=>
   have :=VN h.2 k o (by simpa using hk)
   rwa [show i+1+k=i+(k+1) by omega]at this
theorem ChkR.of {n nb nb':Nat} {l:List Oper} {rows:List Rw} (h:Q0 n nb nb' l rows=true):ChkR n nb nb' l rows:=by
 simp only[Q0,ap]at h;obtain⟨⟨⟨⟨h1,h2⟩,h3⟩,h4⟩,h5⟩:=h;have hB:=OY l l [] (λj o hj=>by simpa using hj) (by simp);have hp:∀(i j:Nat) (a b:Oper×Rw),(l.zip rows)[i]? =some a->(l.zip rows)[j]? =some b->i<j->(EV (Ji l a) (Ji l b)=true\/((Xu l []).getD j 0).testBit i=true)/\LC (ZT a.2) (ZT b.2)=true:=by intro i j a b ha hb hij;have :=Sb (acc:=[]) (j:=0) rfl h4 i j (Ji l a) (Ji l b) (by simp only[dx,eo,ha,ew]) (by simp only[eo,hb,ew]) (by omega);rw[bu]at this;exact this
 refine⟨aq h1,λi o ho e he hb=>by simpa using VN h2 i o ho e he hb,λo ho d hd=> ?_,λi j a b ha hb hij=>(hp i j a b ha hb hij).1.imp id (hB j i),λi j a b ha hb hij=>(hp i j a b ha hb hij).2,λr hr k hk=> ?_⟩
 ·have :=ax.1 h3 o ho;rw[hd]at this;simpa[ay]using this
 ·have :=ax.1 (ax.1 h5 r hr) k hk;rw[ap,ay]at this;exact⟨bq this.1,this.2⟩
structure SS (n:Nat) (S0:Nat->Prop) (g0:G) (w0:World) (L:Nat->Option D) (H:Nat->Option O) (nm:Nat->Prop) (a:Act) (g:G) (w:World):Prop where
 size:a.tmps.size=n
 defers:a.defers=Dfr.ds
 fr:∀t d,L t=some d->Sm g w d (a.tmps.getD t undef)
 hs:HS H g w
 go:Go S0 g0 w0 g w
 wf0:Wf g0 w0
 fp:∀k o,H k=some o->∀b∈g.F k,S0 b\/w0.heap.size<=b
 nm:∀k v,g.N k=some v->nm k
variable {n:Nat} {S0:Nat->Prop} {g0:G} {w0:World}
theorem SS.step {L : Nat -> Option D} {H : Nat -> Option O} {nm : Nat -> Prop} {a : Act} {g : G} {w : World} (h : SS n S0 g0 w0 L H nm a g w) {e : Eff} {v : Value} {g' : G} {w' : World} {dst : Option Nat} (hd : ∀ t, dst = some t -> t < n) (p : Post H e g w v g' w') {L' : Nat -> Option D} {H' : Nat -> Option O} {nm' : Nat -> Prop}
  (hL:∀t d,L' t=some d->(dst=some t/\d=e.r)\/(dst≠some t/\L t=some d)) (hH:∀k o,H' k=some o->A4 e.outs k=some o\/(k∉Ax e.outs/\H k=some o)) (hnm:∀k,nm k\/k∈Ax e.nw->nm' k):SS n S0 g0 w0 L' H' nm' (a.put dst v) g' w':=by
 have wk:∀k,k∈Ax e.wr->k∈Ax e.outs:=λk hk=>by simp only[Ax,Eff.outs,ce,bn]at hk⊢;exact .inl hk
 have hnf:∀k o,k∉Ax e.outs->H k=some o->∀b∈g.F k,¬e.foot H g b:=λk o hk ho b hb ⟨k',h1,o',h2,h3⟩=>
  h.hs.dis k o k' o' ho h2 (λe'=>hk (e'▸wk k' h1)) b hb h3
 have hF:∀k o,k∉Ax e.outs->H k=some o->g'.F k=g.F k:=λk o hk ho=>by
  have :=h.hs.os k o ho;cases o with
  |ob ty ds=>obtain⟨b,c,h1,_⟩:=this;exact p.go.f k _ h1
  |sl ty e xs=>obtain⟨u,ls,h1,_⟩:=this;exact p.go.f k _ h1
 have ft:∀b,e.foot H g b->S0 b\/w0.heap.size<=b:=λb ⟨k,_,o,h2,h3⟩=>h.fp k o h2 b h3;refine⟨by cases dst<;>simp [Act.put,h.size],by cases dst<;>simpa[Act.put]using h.defers,λt d ht=> ?_,⟨p.hs.wf,λk o hk=> ?_,λk o hk=> ?_,λk o k' o' hk hk' hne=> ?_⟩,h.go.trans p.go h.wf0 ft,h.wf0,λk o hk b hb=> ?_,λk u hk=>hnm k ((p.nm k u hk).imp (h.nm k u) id)⟩
 ·rcases hL t d ht with⟨h1,rfl⟩|⟨h1,h2⟩
  ·subst h1;have :(a.put (some t) v).tmps.getD t undef=v:=by simp [Act.put,h.size,hd t rfl]
   rw[this];exact p.r
  ·have : (a.put dst v).tmps.getD t undef = a.tmps.getD t undef := by
    cases dst with
    |none=>rfl
    |some s=>simp [Act.put,dl (λe=>h1 (by rw[e]):s≠t)]
   rw[this];exact(h.fr t d h2).mv p.go
 ·rcases hH k o hk with h1|⟨h1,h2⟩
  ·exact p.hs.os k o h1
  ·exact(h.hs.os k o h2).mv p.go (hnf k o h1 h2)
 ·rcases hH k o hk with h1|⟨h1,h2⟩
  ·exact p.hs.own k o h1
  ·intro b hb;rw[hF k o h1 h2]at hb;exact p.go.k b (h.hs.own k o h2 b hb) (hnf k o h1 h2 b hb)
 ·have cross : ∀ k o k' o', A4 e.outs k = some o -> k' ∉ Ax e.outs -> H k' = some o' -> ∀ b ∈ g'.F k, b ∉ g'.F k' := by
   intro k o k' o' h1 h2 h3 b hb hb';rw[hF k' o' h2 h3]at hb';rcases p.fp k o h1 b hb with h4|h4
   ·exact hnf k' o' h2 h3 b hb' h4
   ·have :=(h.hs.os k' o' h3).lt b hb';omega
  rcases hH k o hk with h1|⟨h1,h2⟩<;>rcases hH k' o' hk' with h3|⟨h3,h4⟩
  ·exact p.hs.dis k o k' o' h1 h3 hne
  ·exact cross k o k' o' h1 h3 h4
  ·exact λb hb hb'=>cross k' o' k o h3 h1 h2 b hb' hb
  ·intro b hb hb';rw[hF k o h1 h2]at hb;rw[hF k' o' h3 h4]at hb';exact h.hs.dis k o k' o' h2 h4 hne b hb hb'
 ·rcases hH k o hk with h1|⟨h1,h2⟩
  ·rcases p.fp k o h1 b hb with h3|h3
   ·exact ft b h3
   ·exact .inr (b_ h.go.ch.size h3)
  ·rw[hF k o h1 h2]at hb;exact h.fp k o h2 b hb
theorem SS.drew {L:Nat->Option D} {H:Nat->Option O} {nm:Nat->Prop} {a:Act} {g:G} {w:World} (h:SS n S0 g0 w0 L H nm a g w):SS n S0 g0 w0 L H nm a g {w with drawn:=w.drawn+1}:=by have k:=Go.drew g w;exact⟨h.size,h.defers,λt d ht=>(h.fr t d ht).mv k,⟨h.hs.wf,λi o ho=>(h.hs.os i o ho).mv k λ_ _=>id,h.hs.own,h.hs.dis⟩,h.go.trans k h.wf0 λ_ h=>h.elim,h.wf0,h.fp,h.nm⟩
theorem SS.weak {L L':Nat->Option D} {H H':Nat->Option O} {nm nm':Nat->Prop} {a:Act} {g:G} {w:World} (h:SS n S0 g0 w0 L H nm a g w) (hL:∀t d,L' t=some d->L t=some d) (hH:∀k o,H' k=some o->H k=some o) (hn:∀k,nm k->nm' k):SS n S0 g0 w0 L' H' nm' a g w:=
 ⟨h.size,h.defers,λt d ht=>h.fr t d (hL t d ht),h.hs.sub hH,h.go,h.wf0,λk o hk=>h.fp k o (hH k o hk),λk v hv=>hn k (h.nm k v hv)⟩
end Go.Sx
namespace Go.Sx
open Go.Mi Go.RowKit
variable [Dfr]
theorem cF {ops:List Oper} {a:Act} {j d:Nat} {u:Value} (h1:(ops[j]?).bind (·.dst)=some d) (h3:a.tmps.getD d undef=u):yielded ops.toArray a.tmps j=vb u:=by
 unfold yielded;rw[show(ops.toArray[j]?).bind (·.dst)=some d by simpa using h1];simp only[Option.bind_some];cases h4:a.tmps[d]? with
 |none=>
  simp [h4]at h3;subst h3;rfl
 |some x=>
  simp [h4]at h3;subst h3;cases x<;>rfl
theorem M9 {ops:List Oper} {L:DL} {o:Oper} {c:Bool} {a:Act} {g:G} {w:World} (hg:gW ops L o=some c) (hF:∀t,t∈LL ops o->∀d,D4 L t=some d->Sm g w d (a.tmps.getD t undef)):Region.wanted o (yielded ops.toArray a.tmps)=c:=by
 unfold gW at hg;unfold Region.wanted;split at hg
 ·rename_i hn;cases hg;rw[hn]
 ·rename_i j b hn;rw[hn];split at hg
  ·rename_i u hb;cases hg;obtain⟨d,h1,h2⟩:=be.1 hb;have h3:=hF d (by simp [LL,hn,h1]) _ h2;have h4:[a.tmps.getD d undef]=[u]:=h3;simp only[List.cons.injEq,and_true]at h4;simp only;rw[cF h1 h4]
  ·cases hg
def GV (L:DL) (b:Oper×Rw):DL:=match b.1.dst with
 |some t=>(t,u3 b.2)::L
 |none=>L
def Il (H:Hp) (b:Oper×Rw):Hp:=GK b.2++H
theorem Kx {A B : Hp} {k : Nat} : Fe (A ++ B) k = match Fe A k with
  |some o=>some o
  |none=>Fe B k:=by
 induction A with
 |nil=>rfl
 |cons x A ih=>
  obtain⟨s,o⟩:=x;simp only[gp,Fe];by_cases h:s=k
  ·subst h;simp
  ·rw[BL h];simpa using ih
theorem HM {A:Hp} {k:Nat}:k∈Ax A↔Fe A k≠none:=by
 induction A with
 |nil=>simp [Ax,Fe]
 |cons x A ih=>
  obtain⟨s,o⟩:=x;simp only[Ax,bg,ez,Fe]at ih⊢;by_cases h:s=k
  ·subst h;simp
  ·rw[BL h];have :¬k=s:=λe=>h e.symm;simp only[this,false_or,cond_false];exact ih
theorem Qi (L:DL) (bs:List (Oper×Rw)) (t:Nat):D4 (bs.foldl GV L) t=bs.foldl (dB fL) (D4 L) t:=by
 have key:∀(bs:List (Oper×Rw)) (L:DL) (f:Nat->Option D),(∀t,D4 L t=f t)->∀t,D4 (bs.foldl GV L) t=bs.foldl (dB fL) f t:=by
  intro bs
  induction bs with
  |nil=>exact λL f h t=>h t
  |cons b bs ih=>
   intro L f h t;simp only[gt];refine ih _ _ (λt=> ?_) t;unfold dB fL GV;cases hb:b.1.dst with
   |none=>simpa using h t
   |some s=>
    simp only[D4];by_cases e:s=t
    ·subst e;simp
    ·rw[BL e];simpa using h t
 exact key bs L _ (λ_=>rfl) t
theorem Qj (H:Hp) (bs:List (Oper×Rw)) (k:Nat):A4 (bs.foldl Il H) k=bs.foldl (dB fH) (A4 H) k:=by
 have key:∀(bs:List (Oper×Rw)) (H:Hp) (f:Nat->Option O),(∀t,A4 H t=f t)->∀t,A4 (bs.foldl Il H) t=bs.foldl (dB fH) f t:=by
  intro bs
  induction bs with
  |nil=>exact λL f h t=>h t
  |cons b bs ih=>
   intro H f h t;simp only[gt];refine ih _ _ (λt=> ?_) t;unfold dB fH Il A4;rw[Kx];cases hb:Fe (GK b.2) t with
   |none=>simpa[A4]using h t
   |some o=>simp
 exact key bs H _ (λ_=>rfl) k
section
variable {P:Program} {n:Nat} {l:List Oper} {rows:List Rw} {L0:DL} {H0:Hp}
def M0 (P:Program) (n:Nat) (l:List Oper) (L:DL) (H:Hp) (b:Oper×Rw):Prop:=match b.2 with
 |none=>gW l L b.1=some false
 |some e=>gW l L b.1=some true/\EOk P n b.1 (Bo L (LL l b.1)) (A4 H) e
def RowsOk (P:Program) (n:Nat) (l:List Oper):DL->Hp->List (Oper×Rw)->Prop
 |_,_,[]=>True
 |L,H,b::bs=>M0 P n l L H b/\RowsOk P n l (GV L b) (Il H b) bs
theorem RowsOk.at:∀{bs:List (Oper×Rw)} {L:DL} {H:Hp},RowsOk P n l L H bs->∀(j:Nat) (b:Oper×Rw),bs[j]? =some b->M0 P n l ((bs.take j).foldl GV L) ((bs.take j).foldl Il H) b
 |[],_,_,_,j,b,h=>by simp at h
 |x::bs,L,H,h,0,b,hb=>by simp at hb;subst hb;exact h.1
 |x::bs,L,H,h,j+1,b,hb=>by simpa using h.2.at j b (by simpa using hb)
variable {S0:Nat->Prop} {g0:G} {w0:World} {nb nb':Nat} {Q:Exit->Act->World->Prop} {a:Act} {g:G} {w:World}
def RI (n:Nat) (S0:Nat->Prop) (g0:G) (w0:World) (l:List Oper) (rows:List Rw) (L0:DL) (H0:Hp) (nb:Nat) (d:Nat->Bool) (a:Act) (w:World):Prop:=
 ∃g,SS n S0 g0 w0 (lw d fL 0 (l.zip rows) (D4 L0)) (lw d fH 0 (l.zip rows) (A4 H0)) (λk=>k<nb\/∃(i:Nat) (b:Oper×Rw),(l.zip rows)[i]? =some b/\d i=true/\k∈ZT b.2) a g w
theorem Sn (hc:ChkR n nb nb' l rows) {i:Nat} (hi:i<l.length):∃o r,l[i]? =some o/\rows[i]? =some r/\(l.zip rows)[i]? =some (o,r):=by refine⟨l[i],rows[i]'(by rw[hc.len];exact hi),am hi,am _,?_⟩;rw[dw];exact⟨am hi,am _⟩
theorem Wo (hc : ChkR n nb nb' l rows) {d : Nat -> Bool} {i : Nat} {o : Oper} {e : Eff} (hz : (l.zip rows)[i]? = some (o, some e)) (hdi : d i = false) (hcl : ∀ i' j, C7 l i' j -> d i' = true -> d j = true) (hah : ∀ j, C7 l i j -> d j = true)
  (h:RI n S0 g0 w0 l rows L0 H0 nb d a w):∃g,SS n S0 g0 w0 (lw d fL 0 (l.zip rows) (D4 L0)) (lw d fH 0 (l.zip rows) (A4 H0)) (λk=>k<nb\/∃(i:Nat) (b:Oper×Rw),(l.zip rows)[i]? =some b/\d i=true/\k∈ZT b.2) a g w/\Fr a n (Bo (((l.zip rows).take i).foldl GV L0) (LL l o)) g w/\
   HS (Cj (e.rd++Ax e.wr) (A4 (((l.zip rows).take i).foldl Il H0))) g w/\(∀b,e.foot (A4 (((l.zip rows).take i).foldl Il H0)) g b->e.foot (lw d fH 0 (l.zip rows) (A4 H0)) g b)/\∀c,gW l (((l.zip rows).take i).foldl GV L0) o=some c->Region.wanted o (yielded l.toArray a.tmps)=c:=by
 obtain⟨g,V⟩:=h
 -- others that touch the same are where they are in the text's order
 have far:∀(k:Nat) (b:Oper×Rw),(l.zip rows)[k]? =some b->k≠i->(k<i->EV (Ji l b) (Ji l (o,some e))=false)->(i<k->EV (Ji l (o,some e)) (Ji l b)=false)->d k=Nat.blt k i:=by
  intro k b hb hki h1 h2;rcases Nat.lt_or_gt_of_ne hki with hlt|hgt
  ·rcases hc.pair k i b (o,some e) hb hz hlt with h3|h3
   ·rw[h1 hlt]at h3;cases h3
   ·rw[hah k h3,show Nat.blt k i=true by rw[ay];exact hlt]
  ·rcases hc.pair i k (o,some e) b hz hb hgt with h3|h3
   ·rw[h2 hgt]at h3;cases h3
   ·cases hk:d k with
    |true=>rw[hcl k i h3 hk]at hdi;cases hdi
    |false=>
     cases hb2:Nat.blt k i with
     |false=>rfl
     |true=>rw[ay]at hb2;omega
 have bl:Nat.blt i i=false:=by
  cases hb:Nat.blt i i with
  |false=>rfl
  |true=>rw[ay]at hb;omega
 have ndis:∀{xs ys:List Nat} {x:Nat},x∈xs->x∈ys->LC xs ys=false:=λ{xs ys x} h1 h2=>by
  cases hd:LC xs ys with
  |false=>rfl
  |true=>exact(OM hd h1 h2).elim
 have dstm:∀{b:Oper×Rw} {t:Nat},fL b t≠none->t∈(Ji l b).dst:=λ{b t} hf=>by
  unfold fL at hf;simp only[Ji];cases hbd:b.1.dst with
  |none=>simp [hbd]at hf
  |some s=>
   rw[hbd]at hf;by_cases e:s=t
   ·subst e;simp
   ·simp [BL e]at hf
 have wrm:∀{b:Oper×Rw} {k:Nat},fH b k≠none->k∈(Ji l b).wr:=λ{b k} hf=>HM.2 hf
 -- slots that are read
 have rdL:∀t,t∈LL l o->lw d fL 0 (l.zip rows) (D4 L0) t=D4 (((l.zip rows).take i).foldl GV L0) t:=by
  intro t ht;rw[Qi,<-JU (i:=0)];refine Eh (λk b hb hf=> ?_) rfl;rw[bu];show d k=Nat.blt k (0+i);rw[bu];by_cases hki:k=i
  ·subst hki;rw[hdi,bl]
  ·have h1:=dstm (b:=b) hf;refine far k b hb hki (λ_=> ?_) (λ_=> ?_)
   ·simp only[EV,ndis h1 (show t∈(Ji l (o,some e)).rds from ht),dz]
   ·simp only[EV,ndis h1 (show t∈(Ji l (o,some e)).rds from ht),eh,dz]
 have rdH:∀k,k∈rdR (some e)++Ax (GK (some e))->lw d fH 0 (l.zip rows) (A4 H0) k=A4 (((l.zip rows).take i).foldl Il H0) k:=by
  intro k hk;rw[Qj,<-JU (i:=0)];refine Eh (λj b hb hf=> ?_) rfl;rw[bu];show d j=Nat.blt j (0+i);rw[bu];by_cases hki:j=i
  ·subst hki;rw[hdi,bl]
  ·have h1:=wrm (b:=b) hf;refine far j b hb hki (λ_=> ?_) (λ_=> ?_)
   ·simp only[EV,ndis h1 (show k∈(Ji l (o,some e)).rd++(Ji l (o,some e)).wr from hk),eh,dz]
   ·rcases bn.1 hk with hk|hk
    ·simp only[EV,ndis h1 (show k∈(Ji l (o,some e)).rd from hk),eh]
    ·simp only[EV,ndis (show k∈(Ji l (o,some e)).wr from hk) (cz _ h1),eh,dz]
 have hfr:∀t,t∈LL l o->∀dd,D4 (((l.zip rows).take i).foldl GV L0) t=some dd->Sm g w dd (a.tmps.getD t undef):=λt ht dd hdd=>V.fr t dd ((rdL t ht).trans hdd);have hHold:Hold (Bo (((l.zip rows).take i).foldl GV L0) (LL l o)) (λt=>a.tmps.getD t undef) g w:=λt dd hdd=>by obtain⟨h1,h2⟩:=Fl hdd;exact hfr t h1 dd h2
 have hHS:HS (Cj (e.rd++Ax e.wr) (A4 (((l.zip rows).take i).foldl Il H0))) g w:=V.hs.sub λk o' hk=>by
  unfold Cj at hk;cases hm:CN k (e.rd++Ax e.wr)with
  |false=>rw[hm]at hk;cases hk
  |true=>
   rw[hm]at hk;have hk2:=A1.1 hm;rw[rdH k ?_]
   ·exact hk
   ·rcases bn.1 hk2 with h1|h1
    ·exact eu _ h1
    ·refine cz _ ?_;simp only[GK,Eff.outs,Ax,ce,bn]at h1⊢;exact .inl h1
 refine⟨g,V,⟨V.size,V.defers,hHold⟩,hHS,λb ⟨k,h1,o',h2,h3⟩=>⟨k,h1,o',?_,h3⟩,λc hg=>M9 hg hfr⟩;rw[rdH k (cz _ (by simp only[GK,Eff.outs,Ax,ce,bn]at h1⊢;exact .inl h1))];exact h2
theorem H5 (hc : ChkR n nb nb' l rows) {d : Nat -> Bool} {i : Nat} (hr : ∀ b, (l.zip rows)[i]? = some b -> M0 P n l (((l.zip rows).take i).foldl GV L0) (((l.zip rows).take i).foldl Il H0) b) (hi : i < l.length) (hdi : d i = false) (hcl : ∀ i' j, C7 l i' j -> d i' = true -> d j = true) (hah : ∀ j, C7 l i j -> d j = true)
  (h:RI n S0 g0 w0 l rows L0 H0 nb d a w):wpOp P l.toArray Q i (λa' w'=>RI n S0 g0 w0 l rows L0 H0 nb (λj=>bif Nat.beq j i then true else d j) a' w') a w:=by
 obtain⟨o,r,ho,hrw,hz⟩:=Sn hc hi;obtain⟨g,V⟩:=h
 -- others that touch the same are where they are in the text's order
 have far:∀(k:Nat) (b:Oper×Rw),(l.zip rows)[k]? =some b->k≠i->(k<i->EV (Ji l b) (Ji l (o,r))=false)->(i<k->EV (Ji l (o,r)) (Ji l b)=false)->d k=Nat.blt k i:=by
  intro k b hb hki h1 h2;rcases Nat.lt_or_gt_of_ne hki with hlt|hgt
  ·rcases hc.pair k i b (o,r) hb hz hlt with h3|h3
   ·rw[h1 hlt]at h3;cases h3
   ·rw[hah k h3,show Nat.blt k i=true by rw[ay];exact hlt]
  ·rcases hc.pair i k (o,r) b hz hb hgt with h3|h3
   ·rw[h2 hgt]at h3;cases h3
   ·cases hk:d k with
    |true=>rw[hcl k i h3 hk]at hdi;cases hdi
    |false=>
     cases hb2:Nat.blt k i with
     |false=>rfl
     |true=>rw[ay]at hb2;omega
 have bl:Nat.blt i i=false:=by
  cases hb:Nat.blt i i with
  |false=>rfl
  |true=>rw[ay]at hb;omega
 have ndis:∀{xs ys:List Nat} {x:Nat},x∈xs->x∈ys->LC xs ys=false:=λ{xs ys x} h1 h2=>by
  cases hd:LC xs ys with
  |false=>rfl
  |true=>exact(OM hd h1 h2).elim
 have dstm:∀{b:Oper×Rw} {t:Nat},fL b t≠none->t∈(Ji l b).dst:=λ{b t} hf=>by
  unfold fL at hf;simp only[Ji];cases hbd:b.1.dst with
  |none=>simp [hbd]at hf
  |some s=>
   rw[hbd]at hf;by_cases e:s=t
   ·subst e;simp
   ·simp [BL e]at hf
 have wrm:∀{b:Oper×Rw} {k:Nat},fH b k≠none->k∈(Ji l b).wr:=λ{b k} hf=>HM.2 hf
 -- slots that are read
 have rdL:∀t,t∈LL l o->lw d fL 0 (l.zip rows) (D4 L0) t=D4 (((l.zip rows).take i).foldl GV L0) t:=by
  intro t ht;rw[Qi,<-JU (i:=0)];refine Eh (λk b hb hf=> ?_) rfl;rw[bu];show d k=Nat.blt k (0+i);rw[bu];by_cases hki:k=i
  ·subst hki;rw[hdi,bl]
  ·have h1:=dstm (b:=b) hf;refine far k b hb hki (λ_=> ?_) (λ_=> ?_)
   ·simp only[EV,ndis h1 (show t∈(Ji l (o,r)).rds from ht),dz]
   ·simp only[EV,ndis h1 (show t∈(Ji l (o,r)).rds from ht),eh,dz]
 have rdH:∀k,k∈rdR r++Ax (GK r)->lw d fH 0 (l.zip rows) (A4 H0) k=A4 (((l.zip rows).take i).foldl Il H0) k:=by
  intro k hk;rw[Qj,<-JU (i:=0)];refine Eh (λj b hb hf=> ?_) rfl;rw[bu];show d j=Nat.blt j (0+i);rw[bu];by_cases hki:j=i
  ·subst hki;rw[hdi,bl]
  ·have h1:=wrm (b:=b) hf;refine far j b hb hki (λ_=> ?_) (λ_=> ?_)
   ·simp only[EV,ndis h1 (show k∈(Ji l (o,r)).rd++(Ji l (o,r)).wr from hk),eh,dz]
   ·rcases bn.1 hk with hk|hk
    ·simp only[EV,ndis h1 (show k∈(Ji l (o,r)).rd from hk),eh]
    ·simp only[EV,ndis (show k∈(Ji l (o,r)).wr from hk) (cz _ h1),eh,dz]
 have wL:∀t,o.dst=some t->lw (λj=>bif Nat.beq j i then true else d j) fL 0 (l.zip rows) (D4 L0) t=some (u3 r):=by
  intro t ht;have :lw (λj=>bif Nat.beq j i then true else d j) fL 0 (l.zip rows) (D4 L0) t=lw (λx=>Nat.blt x (0+(i+1))) fL 0 (l.zip rows) (D4 L0) t:=by
   refine Eh (λk b hb hf=> ?_) rfl;rw[bu,bu];by_cases hki:k=i
   ·subst hki;simp [ay]
   ·have h1:=dstm (b:=b) hf;have h2:t∈(Ji l (o,r)).dst:=by simp [Ji,ht]
    rw[BL hki];simp only[cond_false];rw[far k b hb hki (λ_=>by simp only[EV,ndis h1 h2,eh,dz]) (λ_=>by simp only[EV,ndis h2 h1,eh,dz])];cases hx:Nat.blt k i with
    |true=>rw[ay]at hx;symm;rw[ay];omega
    |false=>
     cases hy:Nat.blt k (i+1)with
     |false=>rfl
     |true=>
      rw[ay]at hy;have :Nat.blt k i=true:=by rw[ay];omega
      rw[this]at hx;cases hx
  rw[this,JU,List.take_add_one,hz,List.foldl_append];simp [dB,fL,ht]
 have wL2:∀t,o.dst≠some t->lw (λj=>bif Nat.beq j i then true else d j) fL 0 (l.zip rows) (D4 L0) t=lw d fL 0 (l.zip rows) (D4 L0) t:=by
  intro t ht;refine Eh (λk b hb hf=> ?_) rfl;rw[bu];by_cases hki:k=i
  ·subst hki;rw[hz]at hb;cases hb;exfalso;apply hf;unfold fL;cases hx:o.dst with
   |none=>simp [hx]
   |some s=>simp only[hx];rw[BL (λe=>ht (by rw[hx,e]))];rfl
  ·rw[BL hki];rfl
 have wH:∀k,k∈Ax (GK r)->lw (λj=>bif Nat.beq j i then true else d j) fH 0 (l.zip rows) (A4 H0) k=A4 (GK r) k:=by
  intro t ht;have :lw (λj=>bif Nat.beq j i then true else d j) fH 0 (l.zip rows) (A4 H0) t=lw (λx=>Nat.blt x (0+(i+1))) fH 0 (l.zip rows) (A4 H0) t:=by
   refine Eh (λk b hb hf=> ?_) rfl;rw[bu,bu];by_cases hki:k=i
   ·subst hki;simp [ay]
   ·have h1:=wrm (b:=b) hf;have h2:t∈(Ji l (o,r)).wr:=ht;rw[BL hki];simp only[cond_false];rw[far k b hb hki (λ_=>by simp only[EV,ndis h1 (cz (Ji l (o,r)).rd h2),eh,dz]) (λ_=>by simp only[EV,ndis h2 (cz (Ji l b).rd h1),eh,dz])];cases hx:Nat.blt k i with
    |true=>rw[ay]at hx;symm;rw[ay];omega
    |false=>
     cases hy:Nat.blt k (i+1)with
     |false=>rfl
     |true=>
      rw[ay]at hy;have :Nat.blt k i=true:=by rw[ay];omega
      rw[this]at hx;cases hx
  rw[this,JU,List.take_add_one,hz,List.foldl_append];have hne:=HM.1 ht;simp only[Option.toList_some,gt,List.foldl_nil,dB,fH,A4];cases hx:Fe (GK r) t with
  |none=>exact absurd hx hne
  |some x=>rfl
 have wH2:∀k,k∉Ax (GK r)->lw (λj=>bif Nat.beq j i then true else d j) fH 0 (l.zip rows) (A4 H0) k=lw d fH 0 (l.zip rows) (A4 H0) k:=by
  intro t ht;refine Eh (λk b hb hf=> ?_) rfl;rw[bu];by_cases hki:k=i
  ·subst hki;rw[hz]at hb;cases hb;exact absurd (HM.2 hf) ht
  ·rw[BL hki];rfl
 have hrow:=hr (o,r) hz;have hfr:∀t,t∈LL l o->∀dd,D4 (((l.zip rows).take i).foldl GV L0) t=some dd->Sm g w dd (a.tmps.getD t undef):=λt ht dd hdd=>V.fr t dd ((rdL t ht).trans hdd);have hslot:∀t,o.dst=some t->t<n:=λt ht=>hc.slot o (ee ho) t ht;have hnm:∀k,(k<nb\/∃(i:Nat) (b:Oper×Rw),(l.zip rows)[i]? =some b/\d i=true/\k∈ZT b.2)\/k∈ZT r->(k<nb\/∃(i':Nat) (b:Oper×Rw),(l.zip rows)[i']? =some b/\(bif Nat.beq i' i then true else d i')=true/\k∈ZT b.2):=by
  rintro k ((h1|⟨i',b,h1,h2,h3⟩)|h1)
  ·exact .inl h1
  ·refine .inr ⟨i',b,h1,?_,h3⟩;rw[h2];cases Nat.beq i' i<;>rfl
  ·exact .inr ⟨i,(o,r),hz,by simp,h1⟩
 unfold wpOp;simp only[db,ho];cases r with
 |none=>
  have hg:gW l _ o=some false:=hrow;rw[aj (by rw[M9 hg hfr];decide)];refine⟨g,SS.step V (e:=⟨[],[],[],.v undef⟩) hslot (Post.pure V.hs.wf rfl) (λt dd ht=> ?_) (λk o' hk=> ?_) λk hk=>hnm k (hk.imp id λh=>by simp [Ax]at h)⟩
  ·by_cases e:o.dst=some t
   ·rw[wL t e]at ht;cases ht;exact .inl ⟨e,rfl⟩
   ·rw[wL2 t e]at ht;exact .inr ⟨e,ht⟩
  ·rw[wH2 k (by simp [GK,Ax])]at hk;exact .inr ⟨by simp [Eff.outs,Ax],hk⟩
 |some e=>
  have hg:gW l _ o=some true/\EOk P n o _ _ e:=hrow;rw[ab (by rw[M9 hg.1 hfr])];refine .inl ?_;have hHold:Hold (Bo (((l.zip rows).take i).foldl GV L0) (LL l o)) (λt=>a.tmps.getD t undef) g w:=λt dd hdd=>by obtain⟨h1,h2⟩:=Fl hdd;exact hfr t h1 dd h2
  have hfrm:Fr a n (Bo (((l.zip rows).take i).foldl GV L0) (LL l o)) g w:=⟨V.size,V.defers,hHold⟩;have hHS:HS (Cj (e.rd++Ax e.wr) (A4 (((l.zip rows).take i).foldl Il H0))) g w:=V.hs.sub λk o' hk=>by
   unfold Cj at hk;cases hm:CN k (e.rd++Ax e.wr)with
   |false=>rw[hm]at hk;cases hk
   |true=>
    rw[hm]at hk;have hk2:=A1.1 hm;rw[rdH k ?_]
    ·exact hk
    ·rcases bn.1 hk2 with h1|h1
     ·exact eu _ h1
     ·refine cz _ ?_;simp only[GK,Eff.outs,Ax,ce,bn]at h1⊢;exact .inl h1
  have hnew:∀p∈e.nw,g.N p.1=none:=λp hp=>by
   have hpk:p.1∈ZT (some e):=cr.2 ⟨p,hp,rfl⟩;cases hN:g.N p.1 with
   |none=>rfl
   |some v=>
    exfalso;have hnm0:=hc.name (some e) (ee hrw) p.1 hpk;rcases V.nm p.1 v hN with h1|⟨i',b,h1,h2,h3⟩
    ·omega
    ·have hne:i'≠i:=λe'=>by subst e';rw[hdi]at h2;cases h2
     rcases Nat.lt_or_gt_of_ne hne with hlt|hgt
     ·exact OM (hc.fresh i' i b (o,some e) h1 hz hlt) h3 hpk
     ·exact OM (hc.fresh i i' (o,some e) b hz h1 hgt) hpk h3
  refine hg.2 _ g w hHS hHold hnew a _ Q hfrm.frm ?_;rintro v w' ⟨g',hp⟩;have hfoot:∀b,e.foot (A4 (((l.zip rows).take i).foldl Il H0)) g b->e.foot (lw d fH 0 (l.zip rows) (A4 H0)) g b:=λb ⟨k,h1,o',h2,h3⟩=>⟨k,h1,o',by
   rw[rdH k (cz _ (by simp only[GK,Eff.outs,Ax,ce,bn]at h1⊢;exact .inl h1))];exact h2,h3⟩
  have hfoot2:∀b,e.foot (lw d fH 0 (l.zip rows) (A4 H0)) g b->g.X b:=λb ⟨k,h1,o',h2,h3⟩=>V.hs.own k o' h2 b h3;refine⟨g',SS.step V hslot ⟨hp.go.mono hfoot hfoot2,hp.r,hp.hs,λk o' hk b hb=>(hp.fp k o' hk b hb).imp (hfoot b) id,hp.nm⟩ (λt dd ht=> ?_) (λk o' hk=> ?_) λk hk=>hnm k hk⟩
  ·by_cases e':o.dst=some t
   ·rw[wL t e']at ht;cases ht;exact .inl ⟨e',rfl⟩
   ·rw[wL2 t e']at ht;exact .inr ⟨e',ht⟩
  ·by_cases hk2:k∈Ax e.outs
   ·rw[wH k hk2]at hk;exact .inl hk
   ·rw[wH2 k hk2]at hk;exact .inr ⟨hk2,hk⟩
end
end Go.Sx
namespace Go.Sx
open Go.Mi Go.RowKit
variable [Dfr]
def AllP:List Prop->Prop
 |[]=>True
 |p::ps=>p/\AllP ps
theorem AllP.append:∀{ps qs:List Prop},AllP (ps++qs)↔AllP ps/\AllP qs
 |[],qs=>by simp [AllP]
 |p::ps,qs=>by simp [AllP,AllP.append (ps:=ps),and_assoc]
abbrev St (n:Nat) (S0:Nat->Prop) (g0:G) (w0:World) (L:DL) (H:Hp) (nb:Nat) (a:Act) (g:G) (w:World):Prop:=SS n S0 g0 w0 (D4 L) (A4 H) (· <nb) a g w
abbrev Ex:=Nat->DL->Hp->Nat->Oper->Option (Eff×List Prop)
def M4 (P:Program) (n:Nat) (ex:Ex):Prop:=∀i L H nb o e ps,ex i L H nb o=some (e,ps)->AllP ps->EOk P n o L (A4 H) e
def PR (ops:List Oper) (ex:Ex):Nat->List Oper->DL->Hp->Nat->Option (List Rw×List Prop×DL×Hp×Nat)
 |_,[],L,H,nb=>some ([],[],L,H,nb)
 |i,o::os,L,H,nb=>match gW ops L o with
  |none=>none
  |some false=>(PR ops ex (i+1) os (GV L (o,none)) H nb).map λr=>(none::r.1,r.2)
  |some true=>match ex i (Bo L (LL ops o)) H nb o with
   |none=>none
   |some (e,ps)=>(PR ops ex (i+1) os (GV L (o,some e)) (Il H (o,some e)) (nb+e.nw.length)).map λr=>(some e::r.1,ps++r.2.1,r.2.2)
theorem fI {P : Program} {n : Nat} {ops : List Oper} {ex : Ex} (hex : M4 P n ex) : ∀ {os : List Oper} {i : Nat} {L : DL} {H : Hp} {nb : Nat} {rows : List Rw} {ps : List Prop} {L' : DL} {H' : Hp} {nb' : Nat}, PR ops ex i os L H nb = some (rows, ps, L', H', nb') -> AllP ps ->
  RowsOk P n ops L H (os.zip rows)/\L'=(os.zip rows).foldl GV L/\H'=(os.zip rows).foldl Il H:=by
 intro os
 induction os with
 |nil=>
  intro i L H nb rows ps L' H' nb' h _;simp only[PR,Option.some.injEq,Prod.mk.injEq]at h;obtain⟨rfl,_,rfl,rfl,_⟩:=h;exact⟨aa,rfl,rfl⟩
 |cons o os ih=>
  intro i L H nb rows ps L' H' nb' h hp;simp only[PR]at h;cases hg:gW ops L o with
  |none=>rw[hg]at h;cases h
  |some b=>
   rw[hg]at h;cases b with
   |false=>
    obtain⟨⟨r1,r2,r3,r4,r5⟩,h1,h2⟩:=ak.1 h;simp only[Prod.mk.injEq]at h2;obtain⟨rfl,rfl,rfl,rfl,rfl⟩:=h2;obtain⟨k1,k2,k3⟩:=ih h1 hp;exact⟨⟨hg,k1⟩,k2,k3⟩
   |true=>
    simp only at h;cases he:ex i (Bo L (LL ops o)) H nb o with
    |none=>rw[he]at h;cases h
    |some x=>
     obtain⟨e,qs⟩:=x;rw[he]at h;simp only at h;obtain⟨⟨r1,r2,r3,r4,r5⟩,h1,h2⟩:=ak.1 h;simp only[Prod.mk.injEq]at h2;obtain⟨rfl,rfl,rfl,rfl,rfl⟩:=h2;rw[AllP.append]at hp;obtain⟨k1,k2,k3⟩:=ih h1 hp.2;exact⟨⟨⟨hg,hex _ _ _ _ _ _ _ he hp.1⟩,k1⟩,by simpa using k2,by simpa using k3⟩
def plX (n:Nat) (ops:List Oper) (ex:Ex) (L:DL) (H:Hp) (nb:Nat) (kL kH:List Nat):Option (List Prop×DL×Hp×Nat):=match PR ops ex 0 ops L H nb with
 |some (rows,ps,L',H',nb')=>bif Q0 n nb nb' ops rows then some (ps,Bo L' kL,FJ H' kH,nb')else none
 |none=>none
section
variable {P:Program} {n:Nat} {ops:List Oper} {ex:Ex} {L:DL} {H:Hp} {nb:Nat} {kL kH:List Nat} {S0:Nat->Prop} {g0 g:G} {w0 w:World} {Q:Exit->Act->World->Prop} {a:Act}
theorem fK {ps : List Prop} {Lo : DL} {Ho : Hp} {nb' : Nat} (hex : M4 P n ex) (h : plX n ops ex L H nb kL kH = some (ps, Lo, Ho, nb')) (hp : AllP ps) :
  ∃rows,ChkR n nb nb' ops rows/\RowsOk P n ops L H (ops.zip rows)/\(∀t d,D4 Lo t=some d->D4 ((ops.zip rows).foldl GV L) t=some d)/\(∀k o,A4 Ho k=some o->A4 ((ops.zip rows).foldl Il H) k=some o):=by
 unfold plX at h;cases hx:PR ops ex 0 ops L H nb with
 |none=>rw[hx]at h;cases h
 |some x=>
  obtain⟨rows,qs,L',H',nb2⟩:=x;rw[hx]at h;simp only at h;cases hc:Q0 n nb nb2 ops rows with
  |false=>rw[hc]at h;cases h
  |true=>
   rw[hc]at h;simp only[cond_true,Option.some.injEq,Prod.mk.injEq]at h;obtain⟨rfl,rfl,rfl,rfl⟩:=h;obtain⟨k1,k2,k3⟩:=fI hex hx hp;exact⟨rows,ChkR.of hc,k1,λt d hd=>by rw[<-k2];exact(Fl hd).2,λk o ho=>by rw[<-k3];exact JV ho⟩
theorem Tf {β γ:Type} {f:β->Nat->Option γ} {bs:List β} {H:Nat->γ} {k:Nat}:lw (λ_=>true) f 0 bs H k=bs.foldl (dB f) H k:=by
 have :=JU (f:=f) (bs:=bs) (i:=0) (j:=bs.length) (H:=H) (k:=k);rw[e_]at this;rw[<-this];refine Eh (λj b hb _=> ?_) rfl;have :j<bs.length:=by
  rcases ci j bs.length with h|h
  ·exact h
  ·rw[bf h]at hb;cases hb
 symm;rw[ay];omega
theorem KY {β γ:Type} {f:β->Nat->Option γ} {bs:List β} {H:Nat->γ} {k:Nat}:lw (λ_=>false) f 0 bs H k=H k:=by
 have :∀(bs:List β) (i:Nat) (H:Nat->γ),lw (λ_=>false) f i bs H k=H k:=by
  intro bs
  induction bs with
  |nil=>exact λi H=>rfl
  |cons b bs ih=>intro i H;simp only[lw,cond_false];exact ih _ _
 exact this bs 0 H
theorem NR {l:List Oper} {rows:List Rw} (hl:rows.length=l.length) {d d':Nat->Bool} {a:Act} {w:World} (h:∀i,i<l.length->d i=d' i) (hr:RI n S0 g0 w0 l rows L H nb d a w):RI n S0 g0 w0 l rows L H nb d' a w:=by
 have hlen:∀(j:Nat) (b:Oper×Rw),(l.zip rows)[j]? =some b->j<l.length:=λj b hb=>by
  rcases ci j l.length with h|h
  ·exact h
  ·rw[bf (by simp;omega)]at hb;cases hb
 obtain⟨g,V⟩:=hr;refine⟨g,V.weak (λt d ht=> ?_) (λk o hk=> ?_) λk hk=>hk.imp id λ⟨i,b,h1,h2,h3⟩=>⟨i,b,h1,by rw[<-h i (hlen i b h1)];exact h2,h3⟩⟩
 ·rw[<-ht];exact Eh (λj b hb _=>by rw[bu];exact h j (hlen j b hb)) rfl
 ·rw[<-hk];exact Eh (λj b hb _=>by rw[bu];exact h j (hlen j b hb)) rfl
theorem UM {id : Nat} {dr : Bool} (hm : P.follows .mixedOrders = true) (hex : M4 P n ex) {ps : List Prop} {Lo : DL} {Ho : Hp} {nb' : Nat} (h : plX n ops ex L H nb kL kH = some (ps, Lo, Ho, nb')) (hp : AllP ps) (hle : Nat.ble nb nb' = true) (V : St n S0 g0 w0 L H nb a g w)
  (hend:∀a g w,St n S0 g0 w0 Lo Ho nb' a g w->Q .normal a w):(Code.region id ops.toArray dr).wp P Q a w:=by
 obtain⟨rows,hc,hr,h1,h2⟩:=fK hex h hp;have hle:=bq hle;have fin:∀a w,RI n S0 g0 w0 ops rows L H nb (λ_=>true) a w->Q .normal a w:=λa w ⟨g,hs⟩=>hend a g w (hs.weak (λt d ht=>by rw[Tf,<-Qi];exact h1 t d ht) (λk o hk=>by rw[Tf,<-Qj];exact h2 k o hk) λk hk=>by
  rcases hk with hk|⟨i,b,hb,_,hk⟩
  ·exact ca hk hle
  ·obtain⟨_,hz⟩:=dw.1 hb;exact(hc.name b.2 (ee hz) k hk).2)
 have ini:∀w,St n S0 g0 w0 L H nb a g w->RI n S0 g0 w0 ops rows L H nb (λ_=>false) a w:=λw hs=>⟨g,hs.weak (λt d ht=>by rw[KY]at ht;exact ht) (λk o hk=>by rw[KY]at hk;exact hk) λk hk=> .inl hk⟩;cases dr with
 |true=>
  exact JB hm hc.back (RI n S0 g0 w0 ops rows L H nb) (λd d' a w hd=>NR hc.len hd) (ini _ V.drew) (λd i a w hi hdi hcl hah hri=>H5 hc (λb hb=>hr.at i b hb) hi hdi hcl hah hri) fin
 |false=>
  refine IV (RI n S0 g0 w0 ops rows L H nb) (ini _ V) (λd d' a w hd=>NR hc.len hd) (λi a w hi hri=> ?_) fin;have ahead_lt:∀i j,C7 ops i j->j<i:=λi j ha=>by
   induction ha with
   |edge h1 h2 h3=>exact hc.back _ _ h1 _ h2 h3
   |trans _ _ ih1 ih2=>omega
  refine H5 hc (λb hb=>hr.at i b hb) hi ?_ (λi' j ha hi'=> ?_) (λj ha=> ?_) hri
  ·cases hb:Nat.blt i i with
   |false=>rfl
   |true=>rw[ay]at hb;omega
  ·rw[ay]at hi'⊢;have :=ahead_lt _ _ ha;omega
  ·rw[ay];exact ahead_lt _ _ ha
end
end Go.Sx
namespace Go.Sx
open Go.Mi Go.RowKit
variable [Dfr]
def A6 (k:IntKind) (p q:Int):Int:=k.wrap (p+q)
def EO (k:IntKind) (p q:Int):Int:=k.wrap (p-q)
def BE (k:IntKind) (p q:Int):Int:=k.wrap (p*q)
def QU (k:IntKind) (p q:Int):Int:=k.wrap (p.tdiv q)
def DY (p q:Int):Int:=p.tmod q
def BI (k:IntKind) (p q:Int):Int:=k.wrap (BitVec.ofInt k.bits p&&&BitVec.ofInt k.bits q).toNat
def Ew (k:IntKind) (p q:Int):Int:=k.wrap (BitVec.ofInt k.bits p|||BitVec.ofInt k.bits q).toNat
def AV (k:IntKind) (p q:Int):Int:=k.wrap (BitVec.ofInt k.bits p^^^BitVec.ofInt k.bits q).toNat
def E_ (k:IntKind) (p q:Int):Int:=k.wrap (BitVec.ofInt k.bits p&&& ~~~BitVec.ofInt k.bits q).toNat
def BW (k:IntKind) (p q:Int):Int:=k.wrap (p*2^(min q.toNat k.bits))
def Bi (k:IntKind) (p q:Int):Int:=p.fdiv (2^(min q.toNat k.bits))
def Fc (L:DL):Operand->Option D
 | .tmp t=>D4 L t
 | .const v=>some (.v v)
 | .global k=>some (.v (.pointer (some ⟨k,0,none⟩)))
 | .func f=>some (.v (.func (.func f) #[] #[]))
theorem Bh {L:DL} {ξ:Nat->Value} {g:G} {w:World} {x:Operand} {d:D} (hH:Hold L ξ g w) (h:Fc L x=some d):∃v,ev (LN L ξ) x=some v/\Sm g w d v:=by
 cases x with
 |tmp t=>exact⟨ξ t,hH.lk h,hH t d h⟩
 |const u=>simp only[Fc,Option.some.injEq]at h;subst h;exact⟨u,rfl,rfl⟩
 |global k=>simp only[Fc,Option.some.injEq]at h;subst h;exact⟨_,rfl,rfl⟩
 |func f=>simp only[Fc,Option.some.injEq]at h;subst h;exact⟨_,rfl,rfl⟩
theorem Sm.eq {g:G} {w:World} {x v:Value} (h:Sm g w (.v x) v):v=x:=by have :[v]=[x]:=h;simpa using this
theorem B2 {L:DL} {ξ:Nat->Value} {g:G} {w:World} {x:Operand} {c:Value} (hH:Hold L ξ g w) (h:Fc L x=some (.v c)):ev (LN L ξ) x=some c:=by obtain⟨v,h1,h2⟩:=Bh hH h;rw[h1,h2.eq]
def Aa0 (P:Program) (t f:Nat):Option Nat:=match P.underlying t with
 |some (.struct fs)=>(match fs[f]? with
  |some fd=>(match(P.info? fd.type).map (·.size)with
   |some (_+1)=>some fd.offset
   |_=>none)
  |none=>none)
 |_=>none
def bM (P:Program) (t:Nat):Option (Nat×Nat):=match P.underlying t with
 |some (.array len e)=>(match(P.info? e).map (·.size)with
  |some (m+1)=>some (len,m+1)
  |_=>none)
 |_=>none
def UE (P:Program) (t:Nat):Option Nat:=match P.underlying t with
 |some (.slice e)=>(P.info? e).map (·.size)
 |_=>none
def Abs:BinOp->Int->Int->Option Bool
 | .lss,p,q=>some (decide (p<q))
 | .leq,p,q=>some (decide (p<=q))
 | .gtr,p,q=>some (decide (q<p))
 | .geq,p,q=>some (decide (q<=p))
 | .eql,p,q=>some (decide (p=q))
 | .neq,p,q=>some (!decide (p=q))
 |_,_,_=>none
def Ua (k k':IntKind):Bool:=decide (k=k')
def arI:BinOp->IntKind->Int->Int->Option (Int×List Prop)
 | .add,k,p,q=>some (A6 k p q,[])
 | .sub,k,p,q=>some (EO k p q,[])
 | .mul,k,p,q=>some (BE k p q,[])
 | .quo,k,p,q=>some (QU k p q,[q≠0])
 | .rem,_,p,q=>some (DY p q,[q≠0])
 | .and,k,p,q=>some (BI k p q,[])
 | .or,k,p,q=>some (Ew k p q,[])
 | .xor,k,p,q=>some (AV k p q,[])
 | .andNot,k,p,q=>some (E_ k p q,[])
 |_,_,_,_=>none
def zI (op:BinOp) (k:IntKind) (p:Int) (k':IntKind) (q:Int):Option (D×List Prop):=match op with
 | .shl=>some (.v (.int k (BW k p q)),[0<=q])
 | .shr=>some (.v (.int k (Bi k p q)),[0<=q])
 |op=>bif Ua k k' then(match Abs op p q with
  |some b=>some (.v (.bool b),[])
  |none=>(arI op k p q).map λr=>(.v (.int k r.1),r.2))else none
theorem xR {P:Program} {w:World} {n:Nat} {L:List (Nat×Value)} {ds:Option Tmp} {ty:TypeId} {pos:String} {af:Array Edge} {gu:Option (Nat×Bool)} {x y:Operand} {k:IntKind} {p q r:Int} {t t':TypeId} (hx:ev L x=some (.int k p)) (hy:ev L y=some (.int k q)) (hr:E_ k p q=r):Det P ⟨ds,.binOp .andNot t x y t',ty,pos,af,gu⟩ n L w (.int k r) w:=
 Det.of_run λa hF=>by subst hr;simp [execOp,hF.eval hx,hF.eval hy,eqGuard,binOp,Op.intBits,E_]
section
variable {P:Program} {n:Nat} {L:DL} {ξ:Nat->Value} {g:G} {w:World} {ds:Option Nat} {ty:TypeId} {pos:String} {af:Array Edge} {gu:Option (Nat×Bool)}
def PureOk (P:Program) (n:Nat) (o:Oper) (L:DL) (d:D) (ps:List Prop):Prop:=AllP ps->∀ξ g w,Hold L ξ g w->Wf g w->∃v,Sm g w d v/\Det P o n (LN L ξ) w v w
theorem sF {op:BinOp} {x y:Operand} {t t':TypeId} {k k':IntKind} {p q:Int} {d:D} {ps:List Prop} (hx:Fc L x=some (.v (.int k p))) (hy:Fc L y=some (.v (.int k' q))) (h:zI op k p k' q=some (d,ps)):PureOk P n ⟨ds,.binOp op t x y t',ty,pos,af,gu⟩ L d ps:=by
 intro hp ξ g w hH _;have hx':=B2 hH hx;have hy':=B2 hH hy;unfold zI at h;split at h
 ·simp only[Option.some.injEq,Prod.mk.injEq]at h;obtain⟨rfl,rfl⟩:=h;exact⟨_,rfl,Aa8 hx' hy' hp.1 rfl⟩
 ·simp only[Option.some.injEq,Prod.mk.injEq]at h;obtain⟨rfl,rfl⟩:=h;exact⟨_,rfl,Aa7 hx' hy' hp.1 rfl⟩
 ·cases hk:Ua k k' with
  |false=>rw[hk]at h;cases h
  |true=>
   rw[hk]at h;obtain rfl:=cj hk;simp only[cond_true]at h;split at h
   ·rename_i b hb;simp only[Option.some.injEq,Prod.mk.injEq]at h;obtain⟨rfl,rfl⟩:=h;unfold Abs at hb;split at hb<;>cases hb
    ·exact⟨_,rfl,Abj hx' hy'⟩
    ·exact⟨_,rfl,Abk hx' hy'⟩
    ·exact⟨_,rfl,Abm hx' hy'⟩
    ·exact⟨_,rfl,Abn hx' hy'⟩
    ·exact⟨_,rfl,Abo hx' hy'⟩
    ·exact⟨_,rfl,Abe hx' hy'⟩
   ·obtain⟨⟨r,qs⟩,h1,h2⟩:=ak.1 h;simp only[Prod.mk.injEq]at h2;obtain⟨rfl,rfl⟩:=h2;unfold arI at h1;split at h1<;>simp only[Option.some.injEq,Prod.mk.injEq,reduceCtorEq]at h1<;>obtain⟨rfl,rfl⟩:=h1
    ·exact⟨_,rfl,Abr hx' hy' rfl⟩
    ·exact⟨_,rfl,Aa6 hx' hy' rfl⟩
    ·exact⟨_,rfl,Abf hx' hy' rfl⟩
    ·exact⟨_,rfl,Aba hx' hy' hp.1 rfl⟩
    ·exact⟨_,rfl,Aa9 hx' hy' hp.1 rfl⟩
    ·exact⟨_,rfl,Abq hx' hy' rfl⟩
    ·exact⟨_,rfl,Ab7 hx' hy' rfl⟩
    ·exact⟨_,rfl,Aa5 hx' hy' rfl⟩
    ·exact⟨_,rfl,xR hx' hy' rfl⟩
end
end Go.Sx
namespace Go.Sx
open Go.Mi Go.RowKit
variable [Dfr]
def HT:D->Nat
 | .ar _ n _=>n
 | .nil=>0
 | .cons a b=>HT a+HT b
 | .ag d=>HT d
 |_=>1
def Ig:D->List D
 | .nil=>[]
 | .cons a b=>Ig a++Ig b
 | .ag d=>Ig d
 |d=>[d]
def Ag:List D->D
 |[]=> .nil
 |d::ds=> .cons d (Ag ds)
def mk1:List D->D
 |[d]=>match d with
  | .ar k n f=> .ar k n f
  |d=> .ag (.cons d .nil)
 |ds=> .ag (Ag ds)
def D.isOne:D->Bool
 | .v x=>x.oneCell'
 | .ls .. | .os .. | .fn .. | .ifc .. | .cp .. | .ep .. | .xp .. | .sk _| .sv .. | .im .. | .ip .. =>true
 |_=>false
section
variable {X:Nat->Prop} {N:Nat->Option Value} {w:World}
def DD (X:Nat->Prop) (N:Nat->Option Value) (w:World):List D->List Value->Prop
 |[],l=>l=[]
 |d::ds,l=>∃l1 l2,l=l1++l2/\CS X N w d false l1/\DD X N w ds l2
theorem Jv:∀{a b:List D} {l:List Value},DD X N w (a++b) l↔∃l1 l2,l=l1++l2/\DD X N w a l1/\DD X N w b l2
 |[],b,l=>⟨λh=>⟨[],l,rfl,rfl,h⟩,λ⟨l1,l2,e,h1,h2⟩=>by have :l1=[]:=h1;subst this;subst e;simpa using h2⟩
 |d::a,b,l=>by
  constructor
  ·rintro⟨l1,l2,rfl,h1,h2⟩;obtain⟨l3,l4,rfl,h3,h4⟩:=Jv.1 h2;exact⟨l1++l3,l4,by simp,⟨l1,l3,rfl,h1,h3⟩,h4⟩
  ·rintro⟨l1,l2,rfl,⟨l3,l4,rfl,h1,h2⟩,h3⟩;exact⟨l3,l4++l2,by simp,h1,Jv.2 ⟨l4,l2,rfl,h2,h3⟩⟩
theorem DR {d:D} {l:List Value}:DD X N w [d] l↔CS X N w d false l:=
 ⟨λ⟨l1,l2,e,h1,h2⟩=>by have :l2=[]:=h2;subst this;subst e;simpa using h1,λh=>⟨l,[],by simp,h,rfl⟩⟩
theorem FI:∀{ds:List D} {l:List Value},CS X N w (Ag ds) false l↔DD X N w ds l
 |[],l=>Iff.rfl
 |d::ds,l=>⟨λ⟨l1,l2,e,h1,h2⟩=>⟨l1,l2,e,h1,FI.1 h2⟩,λ⟨l1,l2,e,h1,h2⟩=>⟨l1,l2,e,h1,FI.2 h2⟩⟩
theorem Eu:∀{d:D} {l:List Value},CS X N w d false l->DD X N w (Ig d) l:=by
 intro d
 induction d with
 |nil=>exact λh=>h
 |cons a b iha ihb=>rintro l ⟨l1,l2,rfl,h1,h2⟩;exact Jv.2 ⟨l1,l2,rfl,iha h1,ihb h2⟩
 |ag d ih=>rintro l ⟨l',h1,h2,h3⟩;have :l=l':=h3;subst this;exact ih h1
 |_=>exact λh=>DR.2 h
theorem Bq {k:IntKind} {n:Nat} {f:Nat->Int}:(cells k n f).length=n:=by simp [cells]
theorem Cc {k:IntKind} {n:Nat} {f:Nat->Int} {i:Nat} (h:i<n):(cells k n f)[i]? =some (.int k (f i)):=by simp [cells,h]
theorem GE:∀{d:D} {l:List Value},CS X N w d false l->l.length=HT d:=by
 intro d
 induction d with
 |nil=>intro l h;have :l=[]:=h;subst this;rfl
 |cons a b iha ihb=>rintro l ⟨l1,l2,rfl,h1,h2⟩;simp [iha h1,ihb h2,HT]
 |ag d ih=>rintro l ⟨l',h1,h2,h3⟩;have :l=l':=h3;subst this;exact ih h1
 |ar k n f=>intro l h;have :l=cells k n f:=h;subst this;exact Bq
 |tu d ih=>rintro l ⟨l',h1,rfl⟩;rfl
 |v x=>intro l h;have :l=[x]:=h;subst this;rfl
 |ls nn e xs=>rintro l ⟨v,ls,rfl,_⟩;rfl
 |os e o=>rintro l ⟨v,rfl,_⟩;rfl
 |fn f a b=>rintro l ⟨_,_,_,_,rfl⟩;rfl
 |ifc t d=>rintro l ⟨_,_,rfl⟩;rfl
 |cp k o=>rintro l ⟨_,_,rfl⟩;rfl
 |ep k o m n i=>rintro l ⟨_,_,_,rfl⟩;rfl
 |xp k m n i o=>rintro l ⟨_,_,_,_,rfl⟩;rfl
 |sk k=>rintro l ⟨_,_,rfl,_⟩;rfl
 |sv k o n=>rintro l ⟨_,_,_,rfl,_⟩;rfl
 |im d o=>rintro l ⟨_,_,_,_,rfl,_⟩;rfl
 |ip e x o=>rintro l ⟨_,_,_,_,_,rfl,_⟩;rfl
 |top=>rintro l ⟨_,rfl⟩;rfl
theorem Nf {d:D} {m:Bool} {l:List Value} (h:CS X N w d m l) (ho:d.isOne=true):∃v,l=[v]/\v.oneCell'=true/\CS X N w d (!m) [v]:=by
 cases d with
 |v x=>have :l=[x]:=h;subst this;exact⟨x,rfl,ho,rfl⟩
 |ls nn e xs=>
  obtain⟨v,ls,rfl,h1,h2⟩:=h;refine⟨v,rfl,?_,v,ls,rfl,h1,h2⟩;rcases h1.at' with⟨_,⟨_,rfl⟩|⟨_,_,rfl⟩⟩|⟨_,_,_,rfl,_⟩<;>rfl
 |os e o=>
  obtain⟨v,rfl,h1⟩:=h;refine⟨v,rfl,?_,v,rfl,h1⟩;cases o with
  |none=>have :v=vN:=h1;subst this;rfl
  |some xs=>
   obtain⟨vs,h2,_⟩:=h1;rcases h2.at' with⟨_,⟨_,rfl⟩|⟨_,_,rfl⟩⟩|⟨_,_,_,rfl,_⟩<;>rfl
 |fn f a b=>obtain⟨va,vb,h1,h2,rfl⟩:=h;exact⟨_,rfl,rfl,va,vb,h1,h2,rfl⟩
 |ifc t d=>obtain⟨v,h1,rfl⟩:=h;exact⟨_,rfl,rfl,v,h1,rfl⟩
 |cp k o=>obtain⟨b,h1,rfl⟩:=h;exact⟨_,rfl,rfl,b,h1,rfl⟩
 |ep k o m n i=>obtain⟨h0,b,h1,rfl⟩:=h;exact⟨_,rfl,rfl,h0,b,h1,rfl⟩
 |xp k m n i o=>obtain⟨h0,b,c,h1,rfl⟩:=h;exact⟨_,rfl,rfl,h0,b,c,h1,rfl⟩
 |sk k=>obtain⟨v,h1,rfl,h2⟩:=h;exact⟨_,rfl,h2,v,h1,rfl,h2⟩
 |sv k o n=>obtain⟨b,c,h1,rfl,h2⟩:=h;exact⟨_,rfl,rfl,b,c,h1,rfl,h2⟩
 |im d o=>obtain⟨b,l',h1,h2,rfl,h3⟩:=h;exact⟨_,rfl,rfl,b,l',h1,h2,rfl,h3⟩
 |ip e x o=>obtain⟨b,o0,l',h1,h2,rfl,h3⟩:=h;exact⟨_,rfl,rfl,b,o0,l',h1,h2,rfl,h3⟩
 |_=>cases ho
def nD:D->Option (List D)
 | .ag d=>some (Ig d)
 | .ar k n f=>some [.ar k n f]
 |d=>bif d.isOne then some [d]else none
theorem Pe {d:D} {ds:List D} {v:Value} (h:CS X N w d true [v]) (hc:nD d=some ds):DD X N w ds v.cells.toList/\∀u∈v.cells.toList,u.oneCell'=true:=by
 have one:∀{d:D},d.isOne=true->CS X N w d true [v]->nD d=some [d]->DD X N w [d] v.cells.toList/\∀u∈v.cells.toList,u.oneCell'=true:=λ{d} ho h _=>by
  obtain⟨u,hu,h1,h2⟩:=Nf h ho;simp only[List.cons.injEq,and_true]at hu;subst hu;have :v.cells= #[v]:=by cases v<;>simp_all [Value.cells,Value.oneCell']
  rw[this];exact⟨DR.2 h2,λq hq=>by simp at hq;subst hq;exact h1⟩
 cases d with
 |ag d=>
  simp only[nD,Option.some.injEq]at hc;subst hc;obtain⟨l',h1,h2,h3⟩:=h;simp only[cond_true,List.cons.injEq,and_true]at h3;subst h3;exact⟨Eu h1,h2⟩
 |ar k n f=>
  simp only[nD,Option.some.injEq]at hc;subst hc;have h3:[v]=[.agg (cells k n f).toArray]:=h;simp only[List.cons.injEq,and_true]at h3;subst h3;refine⟨DR.2 rfl,λq hq=> ?_⟩;simp only[Value.cells,cells,cr]at hq;obtain⟨i,_,rfl⟩:=hq;rfl
 |_=>
  simp only[nD]at hc;cases ho:D.isOne _ with
  |false=>rw[ho]at hc;cases hc
  |true=>
   rw[ho]at hc;simp only[cond_true,Option.some.injEq]at hc;subst hc;exact one ho h (by simp only[nD,ho];rfl)
def Jm:List D->Nat->Nat->Option (List D)
 |_,_,0=>some []
 |[],_,_+1=>none
 |d::ds,o,m+1=>bif Nat.ble (HT d) o then Jm ds (o-HT d) (m+1)
  else bif Nat.beq o 0&&Nat.ble (HT d) (m+1)then(Jm ds 0 (m+1-HT d)).map (d:: ·)
  else match d with
   | .ar k n f=>(Jm ds 0 (m+1-min (m+1) (n-o))).map (D.ar k (min (m+1) (n-o)) (λj=>f (o+j)):: ·)
   |_=>none
theorem Ib:∀{ds:List D} {o m:Nat} {r:List D} {l:List Value},DD X N w ds l->Jm ds o m=some r->DD X N w r ((l.drop o).take m)/\o+m<=l.length+(if m=0 then o else 0)
 |_,o,0,r,l,_,h=>by
  simp only[Jm,Option.some.injEq]at h;subst h;exact⟨by simp [DD],by simp⟩
 |[],o,m+1,r,l,_,h=>by simp [Jm]at h
 |d::ds,o,m+1,r,l,⟨l1,l2,e,h1,h2⟩,h=>by
  subst e;have hl:=GE h1;simp only[Jm]at h;cases hb:Nat.ble (HT d) o with
  |true=>
   rw[hb]at h;have hle:=bq hb;obtain⟨k1,k2⟩:=Ib h2 h;have :List.drop o (l1++l2)=List.drop (o-HT d) l2:=by rw[fw,dm (by omega),hl];rfl
   rw[this];refine⟨k1,?_⟩;simp at k2⊢;omega
  |false=>
   rw[hb]at h;have hgt:o<HT d:=by
    rcases ci o (HT d)with h'|h'
    ·exact h'
    ·rw[fu h']at hb;cases hb
   simp only[cond_false]at h;cases hc:Nat.beq o 0&&Nat.ble (HT d) (m+1)with
   |true=>
    rw[hc]at h;rw[ap]at hc;have h0:=aq hc.1;have h3:=bq hc.2;subst h0;obtain⟨r',hr,rfl⟩:=ak.1 h;obtain⟨k1,k2⟩:=Ib h2 hr;refine⟨⟨l1,(l2.drop 0).take (m+1-HT d),?_,h1,k1⟩,?_⟩
    ·simp only[ig];rw[ff,bp (by omega),hl]
    ·simp only[ah,hl,bu]at k2⊢;split at k2<;>simp<;>omega
   |false=>
    rw[hc]at h;simp only[cond_false]at h;cases d with
    |ar k n f=>
     simp only at h;obtain⟨r',hr,rfl⟩:=ak.1 h;obtain⟨k1,k2⟩:=Ib h2 hr;have h1':l1=cells k n f:=h1;have hn:l1.length=n:=by rw[h1',Bq]
     have hgt':o<n:=hgt;refine⟨⟨(l1.drop o).take (m+1),(l2.drop 0).take (m+1-min (m+1) (n-o)),?_,?_,k1⟩,?_⟩
     ·rw[du (by omega),ff,ig];congr 2;rw[au,hn];omega
     ·show _=cells k _ _;rw[h1'];apply gi;intro j;rw[dc,dh];by_cases hj:j<min (m+1) (n-o)
      ·rw[ab (by omega),Cc hj,Cc (by omega)]
      ·have hR:(cells k (min (m+1) (n-o)) (λj=>f (o+j)))[j]? =none:=bf (by rw[Bq];omega);rw[hR];split
       ·exact bf (by rw[Bq];omega)
       ·rfl
     ·simp only[ah,hn,bu]at k2⊢;split at k2<;>simp<;>omega
    |_=>simp at h
def Ek (f:Nat->Int) (o m:Nat) (g:Nat->Int):Nat->Int:=λj=>bif Nat.ble o j&&Nat.blt j (o+m)then g (j-o)else f j
def WJ (k:IntKind) (n:Nat) (f:Nat->Int) (o:Nat):List D->Option D
 |[.v (.int k' x)]=>bif Ua k k'&&Nat.blt o n then some (.ar k n (upd f o x))else none
 |[.ar k' m g]=>bif Ua k k'&&Nat.ble (o+m) n then some (.ar k n (Ek f o m g))else none
 |_=>none
def K7:List D->Nat->Option (List D)
 |ds,0=>some ds
 |[],_+1=>none
 |d::ds,m+1=>bif Nat.ble (HT d) (m+1)then K7 ds (m+1-HT d)else match d with
  | .ar k n f=>some (.ar k (n-(m+1)) (λj=>f (m+1+j))::ds)
  |_=>none
def UZ (e:List D) (m:Nat):List D->Nat->Option (List D)
 |[],_=>none
 |d::ds,o=>bif Nat.ble (HT d) o then(UZ e m ds (o-HT d)).map (d:: ·)
  else match d with
   | .ar k n f=>bif Nat.beq o 0&&Nat.ble n m then(K7 (D.ar k n f::ds) m).map (e++ ·)else(match WJ k n f o e with
    |some d'=>some (d'::ds)
    |none=>bif Nat.beq o 0 then(K7 (D.ar k n f::ds) m).map (e++ ·)else none)
   |d=>bif Nat.beq o 0 then(K7 (d::ds) m).map (e++ ·)else none
theorem Qq:∀{ds:List D} {m:Nat} {r:List D} {l:List Value},DD X N w ds l->K7 ds m=some r->DD X N w r (l.drop m)/\m<=l.length
 |ds,0,r,l,h,hd=>by cases ds<;>(simp only[K7,Option.some.injEq]at hd;subst hd;exact⟨by simpa using h,br _⟩)
 |[],m+1,r,l,h,hd=>by simp [K7]at hd
 |d::ds,m+1,r,l,⟨l1,l2,e,h1,h2⟩,hd=>by
  subst e;have hl:=GE h1;simp only[K7]at hd;cases hb:Nat.ble (HT d) (m+1)with
  |true=>
   rw[hb]at hd;have :=bq hb;obtain⟨k1,k2⟩:=Qq h2 hd;refine⟨?_,by simp;omega⟩;rw[fw,dm (by omega),hl];exact k1
  |false=>
   rw[hb]at hd;have hgt:m+1<HT d:=by
    rcases ci (m+1) (HT d)with h'|h'
    ·exact h'
    ·rw[fu h']at hb;cases hb
   simp only[cond_false]at hd;cases d with
   |ar k n f=>
    simp only[Option.some.injEq]at hd;subst hd;have h1':l1=cells k n f:=h1;have hn:l1.length=n:=by rw[h1',Bq]
    have hgt':m+1<n:=hgt;refine⟨⟨l1.drop (m+1),l2,by rw[du (by omega)],?_,h2⟩,by simp;omega⟩;show _=cells k _ _;rw[h1'];apply gi;intro j;rw[dh];by_cases hj:j<n-(m+1)
    ·rw[Cc hj,Cc (by omega)]
    ·rw[bf (by rw[Bq];omega),bf (by rw[Bq];omega)]
   |_=>simp at hd
theorem YF {k:IntKind} {n:Nat} {f:Nat->Int} {o:Nat} {e:List D} {d:D} {le:List Value} (he:DD X N w e le) (h:WJ k n f o e=some d):CS X N w d false ((cells k n f).take o++le++(cells k n f).drop (o+le.length))/\o+le.length<=n:=by
 have ext:∀{F:Nat->Int} {L:List Value},L.length=n->(∀j,j<n->L[j]? =some (.int k (F j)))->L=cells k n F:=λ{F L} h1 h2=>by
  apply gi;intro j;by_cases hj:j<n
  ·rw[h2 j hj,Cc hj]
  ·rw[bf (by omega),bf (by rw[Bq];omega)]
 unfold WJ at h;split at h
 ·rename_i k' x;cases hc:Ua k k'&&Nat.blt o n with
  |false=>rw[hc]at h;cases h
  |true=>
   rw[hc]at h;rw[ap,ay]at hc;obtain rfl:=cj hc.1;simp only[cond_true,Option.some.injEq]at h;subst h;have hle:le=[.int k x]:=DR.1 he;subst hle;refine⟨?_,by simp;omega⟩;show _=cells k n _;refine ext (by simp [Bq];omega) λj hj=> ?_;rw[bw,f_,ao,Bq,ei (by omega)];by_cases h1:j<o
   ·rw[ab h1,dc,ab h1,Cc hj,cH (by omega)]
   ·rw[aj h1];by_cases h2:j=o
    ·subst h2;simp [cG]
    ·rw[df (by simp;omega),dh];simp only[aw,av];rw[show o+(0+1)+(j-o-(0+1))=j by omega,Cc hj,cH h2]
 ·rename_i k' m g;cases hc:Ua k k'&&Nat.ble (o+m) n with
  |false=>rw[hc]at h;cases h
  |true=>
   rw[hc]at h;rw[ap]at hc;obtain rfl:=cj hc.1;have hm:=bq hc.2;simp only[cond_true,Option.some.injEq]at h;subst h;have hle:le=cells k m g:=DR.1 he;subst hle;rw[Bq];refine⟨?_,hm⟩;show _=cells k n _;refine ext (by simp [Bq];omega) λj hj=> ?_;rw[bw,f_,ao,Bq,ei (by omega)];by_cases h1:j<o
   ·rw[ab h1,dc,ab h1,Cc hj];have :Nat.ble o j=false:=by
     cases hb:Nat.ble o j with
     |false=>rfl
     |true=>have :=bq hb;omega
    simp [Ek,this]
   ·rw[aj h1,f_,Bq];by_cases h2:j<o+m
    ·rw[ab (by omega),Cc (by omega)];have h3:Nat.ble o j=true:=fu (by omega);have h4:Nat.blt j (o+m)=true:=by rw[ay];exact h2
     simp [Ek,h3,h4]
    ·rw[aj (by omega),dh,show o+m+(j-o-m)=j by omega,Cc hj];have h4:Nat.blt j (o+m)=false:=by
      cases hb:Nat.blt j (o+m)with
      |false=>rfl
      |true=>rw[ay]at hb;omega
     simp [Ek,h4]
 ·cases h
theorem Ml {e:List D} {le:List Value} (he:DD X N w e le):∀{ds:List D} {o:Nat} {r:List D} {l:List Value},DD X N w ds l->UZ e le.length ds o=some r->DD X N w r (l.take o++le++l.drop (o+le.length))/\o+le.length<=l.length
 |[],o,r,l,_,hp=>by simp [UZ]at hp
 |d::ds,o,r,l,hds,hp=>by
  obtain⟨l1,l2,e',h1,h2⟩:=hds;subst e';have hl:=GE h1;simp only[UZ]at hp;cases hb:Nat.ble (HT d) o with
  |true=>
   rw[hb]at hp;have hle:=bq hb;obtain⟨r',hr,rfl⟩:=ak.1 hp;obtain⟨k1,k2⟩:=Ml he h2 hr;refine⟨⟨l1,_,?_,h1,k1⟩,by simp;omega⟩;rw[ff,bp (by omega),fw,dm (by omega),hl];simp only[dx,bw];rw[show o+le.length-HT d=o-HT d+le.length by omega]
  |false=>
   rw[hb]at hp;have hgt:o<HT d:=by
    rcases ci o (HT d)with h'|h'
    ·exact h'
    ·rw[fu h']at hb;cases hb
   simp only[cond_false]at hp;have fin:∀{d:D},CS X N w d false l1->(bif Nat.beq o 0 then(K7 (d::ds) le.length).map (e++ ·)else none)=some r->DD X N w r ((l1++l2).take o++le++(l1++l2).drop (o+le.length))/\o+le.length<=(l1++l2).length:=by
    intro d h1 hp;cases h0:Nat.beq o 0 with
    |false=>rw[h0]at hp;cases hp
    |true=>
     have :=aq h0;subst this;rw[h0]at hp;obtain⟨r',hr,rfl⟩:=ak.1 hp;obtain⟨k1,k2⟩:=Qq (X:=X) (N:=N) (w:=w) (ds:=d::ds) (l:=l1++l2) ⟨l1,l2,rfl,h1,h2⟩ hr;refine⟨?_,by omega⟩;simp only[gl,dx,bu];exact Jv.2 ⟨le,_,rfl,he,k1⟩
   cases d with
   |ar k n f=>
    simp only at hp;have h1':l1=cells k n f:=h1;have hn:l1.length=n:=by rw[h1',Bq]
    have hgt':o<n:=hgt;cases hw:Nat.beq o 0&&Nat.ble n le.length with
    |true=>
     rw[hw]at hp;rw[ap]at hw;exact fin h1 (by rw[hw.1];exact hp)
    |false=>
    rw[hw]at hp;simp only[cond_false]at hp;cases hi:WJ k n f o e with
    |none=>rw[hi]at hp;exact fin h1 hp
    |some d'=>
     rw[hi]at hp;simp only[Option.some.injEq]at hp;subst hp;obtain⟨k1,k2⟩:=YF he hi;refine⟨⟨_,l2,?_,k1,h2⟩,by simp;omega⟩;rw[<-h1',ck (by omega),du (by omega)];simp
   |_=>exact fin h1 hp
end
end Go.Sx
namespace Go.Sx
open Go.Mi Go.RowKit
variable [Dfr]
def dF:(a:Fk)->a.T->D
 | .int k,x=> .v (.int k x)
 | .bool,b=> .v (.bool b)
 | .str,s=> .v (.string s)
 | .sl e,xs=> .ls false [e] xs
 | .os e,o=> .os e o
 | .ref,p=> .cp p.1 p.2
 | .val,x=> .v x
def d7:(e:List Fk)->RT e->List D
 |[],_=>[]
 |a::r,x=>match r,x with
  |[],x=>[dF a x]
  |b::s,x=>dF a x.1::d7 (b::s) x.2
def YX (a b:Fk) (xs:List a.T):Option (List b.T):=if h:a=b then some (h▸xs)else none
def kR (a b:Fk) (xs:Option (List a.T)):Option (Option (List b.T)):=if h:a=b then some (h▸xs)else none
def tI (k:IntKind):D->Option Int
 | .v (.int k' x)=>bif Ua k k' then some x else none
 |_=>none
def tB:D->Option Bool
 | .v (.bool b)=>some b
 |_=>none
def cY:D->Option ByteArray
 | .v (.string s)=>some s
 |_=>none
def tSl (e:Fk):D->Option (List e.T)
 | .ls _ [e'] xs=>YX e' e xs
 | .v (.slice none 0 0)=>some []
 |_=>none
def z7 (e:Fk):D->Option (Option (List e.T))
 | .ls true [e'] xs=>(YX e' e xs).map some
 | .v (.slice none 0 0)=>some none
 | .os e' o=>kR e' e o
 |_=>none
def cZ:D->Option (Nat×Nat)
 | .cp k o=>some (k,o)
 |_=>none
def cX:D->Option Value
 | .v x=>bif x.oneCell' then some x else none
 |_=>none
def cN:(a:Fk)->D->Option a.T
 | .int k,d=>tI k d
 | .bool,d=>tB d
 | .str,d=>cY d
 | .sl e,d=>tSl e d
 | .os e,d=>z7 e d
 | .ref,d=>cZ d
 | .val,d=>cX d
def s8 {a b:Type}:Option a->Option b->Option (a×b)
 |some x,some y=>some (x,y)
 |_,_=>none
def cW:List D->List D
 |_::ds=>ds
 |[]=>[]
def iG:List D->Option D
 |d::_=>some d
 |[]=>none
def tA:List D->Option D
 |[d]=>some d
 |_=>none
def z6:(e:List Fk)->List D->Option (RT e)
 |[],ds=>bif ds.isEmpty then some ()else none
 |[a],ds=>(tA ds).bind (cN a)
 |a::b::s,ds=>s8 ((iG ds).bind (cN a)) (z6 (b::s) (cW ds))
section
variable {X:Nat->Prop} {N:Nat->Option Value} {w:World}
theorem Lsl.gen {nn:Bool} {n m:Nat} {v:Value} {cs:List Value} (h:Lsl X w nn n v m cs):Lsl X w false n v m cs:=⟨h.le,h.len,h.at'.imp (λ⟨h2,h3⟩=>⟨h2,h3.imp (λh=>⟨rfl,h.2⟩) id⟩) id⟩
theorem Vx {l:List (List Value)} {vs:List Value} (h:l=vs.map λv=>[v]):l.flatten=vs:=by
 subst h
 induction vs with
 |nil=>rfl
 |cons v vs ih=>simp [ih]
theorem dZ {e:Fk}:∀{xs:List e.T} {vs:List Value},Fa2 (fS X N w e) xs vs↔Fa2 (rS X N w [e]) xs (vs.map λv=>[v])
 |[],[]=>Iff.rfl
 |[],_::_=>Iff.rfl
 |_::_,[]=>Iff.rfl
 |x::xs,v::vs=>⟨λh=>⟨⟨v,rfl,h.1⟩,dZ.1 h.2⟩,λh=>⟨by obtain⟨u,h1,h2⟩:=h.1;simp only[List.cons.injEq,and_true]at h1;subst h1;exact h2,dZ.2 h.2⟩⟩
theorem Lg {e:Fk}:∀{xs:List e.T} {ls:List (List Value)},Fa2 (rS X N w [e]) xs ls->∃vs:List Value,ls=vs.map (λv=>[v])/\Fa2 (fS X N w e) xs vs
 |[],[],_=>⟨[],rfl,aa⟩
 |x::xs,l::ls,h=>by obtain⟨v,h1,h2⟩:=h.1;obtain⟨vs,h3,h4⟩:=Lg h.2;exact⟨v::vs,by simp [h1,h3],h2,h4⟩
theorem dS:∀{a:Fk} {x:a.T} {v:Value} {m:Bool},fS X N w a x v->CS X N w (dF a x) m [v]:=by
 intro a x v m h;cases a with
 |int k=>have :v=_:=h;subst this;rfl
 |bool=>have :v=_:=h;subst this;rfl
 |str=>have :v=_:=h;subst this;rfl
 |sl e=>
  obtain⟨vs,h1,h2⟩:=h;exact⟨v,vs.map λv=>[v],rfl,by rw[Vx rfl];exact h1,dZ.1 h2⟩
 |os e=>exact⟨v,rfl,h⟩
 |ref=>obtain⟨b,h1,h2⟩:=h;subst h2;exact⟨b,h1,rfl⟩
 |val=>have :v=x:=h.1;subst this;rfl
theorem iX:∀{a:Fk} {x:a.T} {v:Value},fS X N w a x v->v.oneCell'=true:=by
 intro a x v h;cases a with
 |int k=>have :v=_:=h;subst this;rfl
 |bool=>have :v=_:=h;subst this;rfl
 |str=>have :v=_:=h;subst this;rfl
 |sl e=>obtain⟨vs,h1,_⟩:=h;rcases h1.at' with⟨_,⟨_,rfl⟩|⟨_,_,rfl⟩⟩|⟨_,_,_,rfl,_⟩<;>rfl
 |os e=>
  cases x with
  |none=>have :v=_:=h;subst this;rfl
  |some xs=>obtain⟨vs,h1,_⟩:=h;rcases h1.at' with⟨_,⟨_,rfl⟩|⟨_,_,rfl⟩⟩|⟨_,_,_,rfl,_⟩<;>rfl
 |ref=>obtain⟨b,h1,h2⟩:=h;subst h2;rfl
 |val=>exact h.1▸h.2
theorem SO:∀{e:List Fk} {x:RT e} {l:List Value},rS X N w e x l->∀u∈l,u.oneCell'=true
 |[],x,l,h,u,hu=>by rw[show l=[]from h]at hu;simp at hu
 |[a],x,l,⟨v,h1,h2⟩,u,hu=>by rw[h1]at hu;simp at hu;subst hu;exact iX h2
 |a::b::s,x,l,⟨v,l',h1,h2,h3⟩,u,hu=>by
  rw[h1]at hu;rcases ez.1 hu with rfl|hu
  ·exact iX h2
  ·exact SO (e:=b::s) h3 u hu
theorem FX {e:List Fk}:∀{xs:List (RT e)} {ls:List (List Value)},Fa2 (rS X N w e) xs ls->∀u∈ls.flatten,u.oneCell'=true
 |[],[],_,u,hu=>by simp at hu
 |x::xs,l::ls,h,u,hu=>by
  simp only[bc,bn]at hu;rcases hu with hu|hu
  ·exact SO h.1 u hu
  ·exact FX h.2 u hu
theorem L9:∀{e:List Fk} {x:RT e} {l:List Value},rS X N w e x l->DD X N w (d7 e x) l
 |[],x,l,h=>h
 |[a],x,l,⟨v,h1,h2⟩=>by subst h1;exact DR.2 (dS h2)
 |a::b::s,x,l,⟨v,l',h1,h2,h3⟩=>by subst h1;exact⟨[v],l',rfl,dS h2,L9 (e:=b::s) h3⟩
theorem VR {a b:Fk} {xs:List a.T} {ys:List b.T} (h:YX a b xs=some ys):∃e:a=b,ys=e▸xs:=by
 unfold YX at h;split at h
 ·rename_i e;simp only[Option.some.injEq]at h;exact⟨e,h.symm⟩
 ·cases h
theorem kQ {a b:Fk} {xs:Option (List a.T)} {ys:Option (List b.T)} (h:kR a b xs=some ys):∃e:a=b,ys=e▸xs:=by
 unfold kR at h;split at h
 ·rename_i e;simp only[Option.some.injEq]at h;exact⟨e,h.symm⟩
 ·cases h
theorem Lsl.nil {m:Nat}:Lsl X w false 0 vN m []:=⟨br _,by simp,.inl ⟨rfl,.inl ⟨rfl,rfl⟩⟩⟩
theorem Ld:∀{a:Fk} {d:D} {x:a.T} {v:Value} {m:Bool},CS X N w d m [v]->cN a d=some x->fS X N w a x v/\HT d=1:=by
 intro a d x v m h hx;cases a with
 |int k=>
  replace hx:tI k d=some x:=hx;unfold tI at hx;split at hx
  ·rename_i k' y;cases hk:Ua k k' with
   |false=>rw[hk]at hx;cases hx
   |true=>
    rw[hk]at hx;obtain rfl:=cj hk;obtain rfl:=Option.some.inj hx;have :[v]=_:=h;exact⟨(List.cons.inj this).1,rfl⟩
  ·cases hx
 |bool=>
  replace hx:tB d=some x:=hx;unfold tB at hx;split at hx
  ·obtain rfl:=Option.some.inj hx;have :[v]=_:=h;exact⟨(List.cons.inj this).1,rfl⟩
  ·cases hx
 |str=>
  replace hx:cY d=some x:=hx;unfold cY at hx;split at hx
  ·obtain rfl:=Option.some.inj hx;have :[v]=_:=h;exact⟨(List.cons.inj this).1,rfl⟩
  ·cases hx
 |sl e=>
  replace hx:tSl e d=some x:=hx;unfold tSl at hx;split at hx
  ·obtain⟨rfl,rfl⟩:=VR hx;obtain⟨u,ls,h1,h2,h3⟩:=h;obtain rfl:=(List.cons.inj h1).1;obtain⟨vs,rfl,h4⟩:=Lg h3;rw[Vx rfl]at h2;exact⟨⟨vs,h2.gen,h4⟩,rfl⟩
  ·obtain rfl:=Option.some.inj hx;have :[v]=_:=h;obtain rfl:=(List.cons.inj this).1;exact⟨⟨[],Lsl.nil,aa⟩,rfl⟩
  ·cases hx
 |os e=>
  replace hx:z7 e d=some x:=hx;unfold z7 at hx;split at hx
  ·obtain⟨ys,hy,hz⟩:=ak.1 hx;subst hz;obtain⟨rfl,rfl⟩:=VR hy;obtain⟨u,ls,h1,h2,h3⟩:=h;obtain rfl:=(List.cons.inj h1).1;obtain⟨vs,rfl,h4⟩:=Lg h3;rw[Vx rfl]at h2;exact⟨⟨vs,h2,h4⟩,rfl⟩
  ·obtain rfl:=Option.some.inj hx;have :[v]=_:=h;obtain rfl:=(List.cons.inj this).1;exact⟨rfl,rfl⟩
  ·obtain⟨rfl,rfl⟩:=kQ hx;obtain⟨u,h1,h2⟩:=h;obtain rfl:=(List.cons.inj h1).1;exact⟨h2,rfl⟩
  ·cases hx
 |ref=>
  replace hx:cZ d=some x:=hx;unfold cZ at hx;split at hx
  ·obtain rfl:=Option.some.inj hx;obtain⟨b,h1,h2⟩:=h;exact⟨⟨b,h1,(List.cons.inj h2).1⟩,rfl⟩
  ·cases hx
 |val=>
  replace hx:cX d=some x:=hx;unfold cX at hx;split at hx
  ·rename_i y;cases hy:Value.oneCell' y with
   |false=>rw[hy]at hx;cases hx
   |true=>
    rw[hy]at hx;obtain rfl:=Option.some.inj hx;have :[v]=_:=h;exact⟨⟨(List.cons.inj this).1,hy⟩,rfl⟩
  ·cases hx
theorem uN {a:Fk} {d:D} {x:a.T} (h:cN a d=some x):HT d=1:=by
 cases a with
 |int k=>have hx:tI k d=some x:=h;unfold tI at hx;split at hx<;>first |rfl|cases hx
 |bool=>have hx:tB d=some x:=h;unfold tB at hx;split at hx<;>first |rfl|cases hx
 |str=>have hx:cY d=some x:=h;unfold cY at hx;split at hx<;>first |rfl|cases hx
 |sl e=>have hx:tSl e d=some x:=h;unfold tSl at hx;split at hx<;>first |rfl|cases hx
 |os e=>have hx:z7 e d=some x:=h;unfold z7 at hx;split at hx<;>first |rfl|cases hx
 |ref=>have hx:cZ d=some x:=h;unfold cZ at hx;split at hx<;>first |rfl|cases hx
 |val=>have hx:cX d=some x:=h;unfold cX at hx;split at hx<;>first |rfl|cases hx
theorem Ps {d:D} {ds:List D} {l:List Value} {a:Fk} {x:a.T} (h:DD X N w (d::ds) l) (hx:cN a d=some x):∃v l',l=v::l'/\fS X N w a x v/\DD X N w ds l':=by obtain⟨l1,l2,rfl,h1,h2⟩:=h;have h3:=GE h1;rw[uN hx]at h3;obtain⟨v,rfl⟩:=List.length_eq_one_iff.1 h3;exact⟨v,l2,rfl,(Ld h1 hx).1,h2⟩
theorem Wc:∀{e:List Fk} {ds:List D} {x:RT e} {l:List Value},DD X N w ds l->z6 e ds=some x->rS X N w e x l
 |[],ds,x,l,h,hx=>by
  have hx:(bif ds.isEmpty then some ()else none)=some x:=hx;cases ds with
  |nil=>exact h
  |cons d ds=>cases hx
 |[a],ds,x,l,h,hx=>by
  have hx:(tA ds).bind (cN a)=some x:=hx;obtain⟨d,h1,h2⟩:=be.1 hx
  match ds,h1 with
  |[d'],h1=>
   obtain rfl:=Option.some.inj h1;obtain⟨v,l',rfl,k1,k2⟩:=Ps h h2;have :l'=[]:=k2;subst this;exact⟨v,rfl,k1⟩
 |a::b::s,ds,x,l,h,hx=>by
  have hx:s8 ((iG ds).bind (cN a)) (z6 (b::s) (cW ds))=some x:=hx;cases hy:(iG ds).bind (cN a)with
  |none=>rw[hy]at hx;cases hx
  |some y=>
   cases hz:z6 (b::s) (cW ds)with
   |none=>rw[hy,hz]at hx;cases hx
   |some z=>
    rw[hy,hz]at hx;obtain rfl:=Option.some.inj hx;obtain⟨d,h1,h2⟩:=be.1 hy;cases ds with
    |nil=>cases h1
    |cons d' ds=>
     obtain rfl:=Option.some.inj h1;obtain⟨v,l',rfl,k1,k2⟩:=Ps h h2;exact⟨v,l',rfl,k1,Wc k2 hz⟩
end
end Go.Sx
namespace Go.Sx
open Go.Mi Go.RowKit
variable [Dfr]
section
variable {P:Program} {n:Nat} {L:List (Nat×Value)} {w:World} {ds:Option Nat} {ty:TypeId} {pos:String} {af:Array Edge} {gu:Option (Nat×Bool)} {x y:Operand} {t t':TypeId}
theorem Abl {k : IntKind} {e : TypeId} {len b o m : Nat} {i : Int} (hT : P.underlying t = some (.array len e)) (hs : (P.info? e).map (·.size) = some m) (hx : ev L x = some (.pointer (some ⟨b, o, none⟩))) (hy : ev L y = some (.int k i))
  (h0:0<=i) (h1:i<len):Det P ⟨ds,.indexAddr t x y,ty,pos,af,gu⟩ n L w (.pointer (some ⟨b,o+i.toNat*m,none⟩)) w:=
 Det.of_run λa hF=>by obtain⟨inf,hi,hz⟩:=ak.1 hs;simp [execOp,hF.eval hx,hF.eval hy,Instr.indexAt,asIntOf,Aq hT,Instr.sureAddr,h0,h1,sizeOf,typeInfo,hi,hz,Dm]
theorem W_ {k : IntKind} {e : TypeId} {len cap b o m : Nat} {i : Int} (hT : P.underlying t = some (.slice e)) (hs : (P.info? e).map (·.size) = some m) (hx : ev L x = some (.slice (some ⟨b, o, none⟩) len cap)) (hy : ev L y = some (.int k i))
  (h0:0<=i) (h1:i<len):Det P ⟨ds,.indexAddr t x y,ty,pos,af,gu⟩ n L w (.pointer (some ⟨b,o+i.toNat*m,none⟩)) w:=
 Det.of_run λa hF=>by obtain⟨inf,hi,hz⟩:=ak.1 hs;simp [execOp,hF.eval hx,hF.eval hy,Instr.indexAt,asIntOf,Aq hT,h0,h1,sizeOf,typeInfo,hi,hz,Dm]
def nk:TypeDesc->Value->Value->Option Bool
 | .pointer _,.pointer a,.pointer none=>some a.isNone
 | .slice _,.slice a _ _,.slice none _ _=>some a.isNone
 | .func _ _ _,.nilFunc,.nilFunc=>some true
 | .func _ _ _,.func _ _ _,.nilFunc=>some false
 | .interface _,.iface _ _,.nilIface=>some false
 |_,_,_=>none
theorem nV (m:Nat) {d:TypeDesc} {u z:Value} {b:Bool} (ht:P.underlying t=some d) (h:nk d u z=some b):(Op.equalIn (m+1) t u z).run P w= .ok b w:=by
 unfold nk at h;split at h<;>simp only[Option.some.injEq,reduceCtorEq]at h<;>subst h
 ·rename_i e a;cases a<;>simp [Op.equalIn,Aq ht]
 ·rename_i e a l c l' c';cases a<;>simp [Op.equalIn,Aq ht]
 ·simp [Op.equalIn,Aq ht]
 ·simp [Op.equalIn,Aq ht]
 ·simp [Op.equalIn,Aq ht]
theorem dV {d:TypeDesc} {u z:Value} {b:Bool} (ht:P.underlying t=some d) (h:nk d u z=some b):(Op.equal t u z).run P w= .ok b w:=nV 9999 ht h
theorem Vf {d:TypeDesc} {u z:Value} {b:Bool} (h:nk d u z=some b):(binOp .eql t u z=(Op.equal t u z>>=λr=>pure (Value.bool r)))/\(binOp .neq t u z=(Op.equal t u z>>=λr=>pure (Value.bool !r)))/\∀op,eqGuard op t x y u z=pure ():=by unfold nk at h;split at h<;>simp only[Option.some.injEq,reduceCtorEq]at h<;>subst h<;>refine⟨rfl,rfl,λop=> ?_⟩<;>unfold eqGuard<;>split<;>rfl
theorem Abd {d:TypeDesc} {u z:Value} {b:Bool} (ht:P.underlying t=some d) (h:nk d u z=some b) (hx:ev L x=some u) (hy:ev L y=some z):Det P ⟨ds,.binOp .eql t x y t',ty,pos,af,gu⟩ n L w (.bool b) w:=
 Det.of_run λa hF=>by obtain⟨h1,_,h3⟩:=Vf (x:=x) (y:=y) (t:=t) h;simp [execOp,hF.eval hx,hF.eval hy,h1,h3,dV ht h]
theorem Abc {d:TypeDesc} {u z:Value} {b:Bool} (ht:P.underlying t=some d) (h:nk d u z=some b) (hx:ev L x=some u) (hy:ev L y=some z):Det P ⟨ds,.binOp .neq t x y t',ty,pos,af,gu⟩ n L w (.bool !b) w:=
 Det.of_run λa hF=>by obtain⟨_,h2,h3⟩:=Vf (x:=x) (y:=y) (t:=t) h;simp [execOp,hF.eval hx,hF.eval hy,h2,h3,dV ht h]
def YC:TypeDesc->Bool
 | .interface _=>true
 |_=>false
theorem Abg {d:TypeDesc} {u:Value} (ht:P.underlying t=some d) (hd:YC d=false) (hx:ev L x=some u):Det P ⟨ds,.makeInterface t x,ty,pos,af,gu⟩ n L w (.iface t u) w:=
 Det.of_run λa hF=>by simp only[execOp,hF.eval hx,Instr.makeInterface,Sem.run_bind,Aq ht,Result.andThen_ok];cases d<;>simp_all [YC]
theorem tX {fn:Fn} {fs xs:Array Operand} {us vs:List Value} (hf:m5 L fs.toList=some us) (hx:m5 L xs.toList=some vs):Det P ⟨ds,.makeFunc fn fs xs,ty,pos,af,gu⟩ n L w (.func fn us.toArray vs.toArray) w:=
 Det.of_run λa hF=>by
  have h1:fs.map a.eval=us.toArray:=by rw[<-hF.evals hf,<-il]
  have h2:xs.map a.eval=vs.toArray:=by rw[<-hF.evals hx,<-il]
  simp only[execOp,h1,h2,Instr.makeFunc];rfl
theorem xJ {ad:Addr} (hx:ev L x=some (.pointer (some ad))):Det P ⟨ds,.nilCheck x,ty,pos,af,gu⟩ n L w (.pointer (some ad)) w:=
 Det.of_run λ_ hF=>by simp [execOp,hF.eval hx]
def Lm (k:IntKind) (p:Int):Int:=AV k (if k.signed then -1 else k.max) p
theorem Abp {k:IntKind} {p:Int} (hx:ev L x=some (.int k p)):Det P ⟨ds,.unOp .xor t x,ty,pos,af,gu⟩ n L w (.int k (Lm k p)) w:=
 Det.of_run λa hF=>by simp [execOp,hF.eval hx,Op.unary,Op.intBits,Lm,AV]
end
end Go.Sx
namespace Go.Sx
open Go.Mi Go.RowKit
variable [Dfr]
def mN:D->Nat->Option D
 | .cp k o,f=>some (.cp k (o+f))
 | .ep k o m n i,f=>some (.ep k (o+f) m n i)
 | .xp k m n i o,f=>some (.xp k m n i (o+f))
 | .im d o,f=>some (.im d (o+f))
 | .ip e x o,f=>some (.ip e x (o+f))
 |_,_=>none
def mP (len m:Nat):D->Nat->Option D
 | .cp k o,i=>some (.ep k o m len i)
 | .ep k o m' n i',i=>some (.ep k (o+i'*m') m len i)
 | .xp k m' n i' o,i=>some (.xp k m' n i' (o+i*m))
 | .im d o,i=>some (.im d (o+i*m))
 | .ip e x o,i=>some (.ip e x (o+i*m))
 |_,_=>none
def Yz:D->Bool
 | .cp .. | .ep .. | .xp .. | .im .. | .ip .. =>true
 | .v (.pointer (some _))=>true
 |_=>false
def nkD:TypeDesc->D->Option Bool
 | .pointer _,.v (.pointer a)=>some a.isNone
 | .pointer _,.cp .. =>some false
 | .pointer _,.ep .. =>some false
 | .pointer _,.xp .. =>some false
 | .pointer _,.im .. =>some false
 | .pointer _,.ip .. =>some false
 | .slice _,.v (.slice a _ _)=>some a.isNone
 | .slice _,.ls true _ _=>some false
 | .slice _,.os _ o=>some o.isNone
 | .slice _,.sv .. =>some false
 | .func _ _ _,.fn .. =>some false
 | .func _ _ _,.v (.func ..)=>some false
 | .func _ _ _,.v .nilFunc=>some true
 | .interface _,.ifc .. =>some false
 | .interface _,.v (.iface ..)=>some false
 |_,_=>none
def YA:TypeDesc->Value->Bool
 | .pointer _,.pointer none=>true
 | .slice _,.slice none _ _=>true
 | .func _ _ _,.nilFunc=>true
 | .interface _,.nilIface=>true
 |_,_=>false
section
variable {g:G} {w:World}
theorem sI {d d':D} {f b o:Nat} (h:Sm g w d (vP b o)) (hd:mN d f=some d'):Sm g w d' (vP b (o+f)):=by
 cases d<;>simp only[mN,Option.some.injEq,reduceCtorEq]at hd<;>subst hd
 ·obtain⟨b',h1,h2⟩:=h;simp only[List.cons.injEq,Value.pointer.injEq,Option.some.injEq,Addr.mk.injEq,and_true]at h2;obtain⟨rfl,rfl⟩:=h2;exact⟨b,h1,rfl⟩
 ·obtain⟨h0,b',h1,h2⟩:=h;simp only[List.cons.injEq,Value.pointer.injEq,Option.some.injEq,Addr.mk.injEq,and_true]at h2;obtain⟨rfl,rfl⟩:=h2;exact⟨h0,b,h1,by simp;omega⟩
 ·obtain⟨h0,b',c,h1,h2⟩:=h;simp only[List.cons.injEq,Value.pointer.injEq,Option.some.injEq,Addr.mk.injEq,and_true]at h2;obtain⟨rfl,rfl⟩:=h2;exact⟨h0,b,c,h1,by simp;omega⟩
 ·obtain⟨b',l',h1,h2,h3,h4⟩:=h;simp only[List.cons.injEq,Value.pointer.injEq,Option.some.injEq,Addr.mk.injEq,and_true]at h3;obtain⟨rfl,rfl⟩:=h3;exact⟨b,l',h1,h2,rfl,h4⟩
 ·obtain⟨b',o0,l',h1,h2,h3,h4⟩:=h;simp only[List.cons.injEq,Value.pointer.injEq,Option.some.injEq,Addr.mk.injEq,and_true]at h3;obtain⟨rfl,rfl⟩:=h3;exact⟨b,o0,l',h1,h2,by simp;omega,h4⟩
theorem sJ {d d':D} {len m i b o:Nat} (h:Sm g w d (vP b o)) (hi:i<len) (hd:mP len m d i=some d'):Sm g w d' (vP b (o+i*m)):=by
 cases d<;>simp only[mP,Option.some.injEq,reduceCtorEq]at hd<;>subst hd
 ·obtain⟨b',h1,h2⟩:=h;simp only[List.cons.injEq,Value.pointer.injEq,Option.some.injEq,Addr.mk.injEq,and_true]at h2;obtain⟨rfl,rfl⟩:=h2;exact⟨hi,b,h1,rfl⟩
 ·obtain⟨h0,b',h1,h2⟩:=h;simp only[List.cons.injEq,Value.pointer.injEq,Option.some.injEq,Addr.mk.injEq,and_true]at h2;obtain⟨rfl,rfl⟩:=h2;exact⟨hi,b,h1,rfl⟩
 ·obtain⟨h0,b',c,h1,h2⟩:=h;simp only[List.cons.injEq,Value.pointer.injEq,Option.some.injEq,Addr.mk.injEq,and_true]at h2;obtain⟨rfl,rfl⟩:=h2;exact⟨h0,b,c,h1,by simp;omega⟩
 ·obtain⟨b',l',h1,h2,h3,h4⟩:=h;simp only[List.cons.injEq,Value.pointer.injEq,Option.some.injEq,Addr.mk.injEq,and_true]at h3;obtain⟨rfl,rfl⟩:=h3;exact⟨b,l',h1,h2,rfl,h4⟩
 ·obtain⟨b',o0,l',h1,h2,h3,h4⟩:=h;simp only[List.cons.injEq,Value.pointer.injEq,Option.some.injEq,Addr.mk.injEq,and_true]at h3;obtain⟨rfl,rfl⟩:=h3;exact⟨b,o0,l',h1,h2,by simp;omega,h4⟩
theorem g7 {d:D} {v:Value} (h:Sm g w d v) (hp:Yz d=true):∃ad,v= .pointer (some ad):=by
 cases d with
 |v x=>
  have :=h.eq;subst this;unfold Yz at hp;split at hp<;>simp_all
 |cp k o=>obtain⟨b,_,h2⟩:=h;exact⟨_,(List.cons.inj h2).1⟩
 |ep k o m n i=>obtain⟨_,b,_,h2⟩:=h;exact⟨_,(List.cons.inj h2).1⟩
 |xp k m n i o=>obtain⟨_,b,c,_,h2⟩:=h;exact⟨_,(List.cons.inj h2).1⟩
 |im d o=>obtain⟨b,l',_,_,h2,_⟩:=h;exact⟨_,(List.cons.inj h2).1⟩
 |ip e x o=>obtain⟨b,o0,l',_,_,h2,_⟩:=h;exact⟨_,(List.cons.inj h2).1⟩
 |_=>cases hp
theorem mM {d d':D} {f:Nat} {v:Value} (h:Sm g w d v) (hd:mN d f=some d'):∃b o,v=vP b o:=by
 cases d<;>simp only[mN,reduceCtorEq]at hd
 ·obtain⟨b,_,h2⟩:=h;exact⟨_,_,(List.cons.inj h2).1⟩
 ·obtain⟨_,b,_,h2⟩:=h;exact⟨_,_,(List.cons.inj h2).1⟩
 ·obtain⟨_,b,c,_,h2⟩:=h;exact⟨_,_,(List.cons.inj h2).1⟩
 ·obtain⟨b,l',_,_,h2,_⟩:=h;exact⟨_,_,(List.cons.inj h2).1⟩
 ·obtain⟨b,o0,l',_,_,h2,_⟩:=h;exact⟨_,_,(List.cons.inj h2).1⟩
theorem mO {d d':D} {len m i:Nat} {v:Value} (h:Sm g w d v) (hd:mP len m d i=some d'):∃b o,v=vP b o:=by
 cases d<;>simp only[mP,reduceCtorEq]at hd
 ·obtain⟨b,_,h2⟩:=h;exact⟨_,_,(List.cons.inj h2).1⟩
 ·obtain⟨_,b,_,h2⟩:=h;exact⟨_,_,(List.cons.inj h2).1⟩
 ·obtain⟨_,b,c,_,h2⟩:=h;exact⟨_,_,(List.cons.inj h2).1⟩
 ·obtain⟨b,l',_,_,h2,_⟩:=h;exact⟨_,_,(List.cons.inj h2).1⟩
 ·obtain⟨b,o0,l',_,_,h2,_⟩:=h;exact⟨_,_,(List.cons.inj h2).1⟩
theorem f7 {td:TypeDesc} {d:D} {v z:Value} {b:Bool} (h:Sm g w d v) (hz:YA td z=true) (hn:nkD td d=some b):nk td v z=some b:=by
 unfold YA at hz;split at hz
 ·cases d with
  |v x=>
   have :=h.eq;subst this;cases v<;>simp only[nkD,Option.some.injEq,reduceCtorEq]at hn;subst hn;rfl
  |cp k o=>obtain⟨b,_,h2⟩:=h;cases(List.cons.inj h2).1;cases hn;rfl
  |ep k o m n i=>obtain⟨_,b,_,h2⟩:=h;cases(List.cons.inj h2).1;cases hn;rfl
  |xp k m n i o=>obtain⟨_,b,c,_,h2⟩:=h;cases(List.cons.inj h2).1;cases hn;rfl
  |im d o=>obtain⟨b,l',_,_,h2,_⟩:=h;cases(List.cons.inj h2).1;cases hn;rfl
  |ip e x o=>obtain⟨b,o0,l',_,_,h2,_⟩:=h;cases(List.cons.inj h2).1;cases hn;rfl
  |_=>cases hn
 ·cases d with
  |v x=>
   have :=h.eq;subst this;cases v<;>simp only[nkD,Option.some.injEq,reduceCtorEq]at hn;subst hn;rfl
  |ls nn e xs=>
   cases nn with
   |false=>cases hn
   |true=>
    cases hn;obtain⟨u,ls,h1,h2,_⟩:=h;cases(List.cons.inj h1).1;rcases h2.at' with⟨_,⟨h3,_⟩|⟨_,_,rfl⟩⟩|⟨_,_,_,rfl,_⟩
    ·cases h3
    ·rfl
    ·rfl
  |os e o=>
   cases hn;obtain⟨u,h1,h2⟩:=h;cases(List.cons.inj h1).1;cases o with
   |none=>have :v=vN:=h2;subst this;rfl
   |some xs=>
    obtain⟨vs,h3,_⟩:=h2;rcases h3.at' with⟨_,⟨h4,_⟩|⟨_,_,rfl⟩⟩|⟨_,_,_,rfl,_⟩
    ·cases h4
    ·rfl
    ·rfl
  |sv k o n=>obtain⟨b,c,_,h2,_⟩:=h;cases(List.cons.inj h2).1;cases hn;rfl
  |_=>cases hn
 ·cases d with
  |v x=>
   have :=h.eq;subst this;cases v<;>simp only[nkD,Option.some.injEq,reduceCtorEq]at hn
   all_goals subst hn;rfl
  |fn f a b=>obtain⟨_,_,_,_,h2⟩:=h;cases(List.cons.inj h2).1;cases hn;rfl
  |_=>cases hn
 ·cases d with
  |v x=>
   have :=h.eq;subst this;cases v<;>simp only[nkD,Option.some.injEq,reduceCtorEq]at hn
   all_goals subst hn;rfl
  |ifc t d=>obtain⟨_,_,h2⟩:=h;cases(List.cons.inj h2).1;cases hn;rfl
  |_=>cases hn
 ·cases hz
end
end Go.Sx
namespace Go.Sx
open Go.Mi Go.RowKit
variable [Dfr]
def U7 (L:DL):List Operand->Option (List D)
 |[]=>some []
 |x::r=>match Fc L x,U7 L r with
  |some d,some ds=>some (d::ds)
  |_,_=>none
def ZU:D->Nat->Option D
 | .cons d ds,i=>match i with
  |0=>bif d.one then some d else none
  |i+1=>bif d.one then ZU ds i else none
 |_,_=>none
def qP (P:Program) (t:TypeId) (L:DL) (x y:Operand):Option (D×List Prop):=match Fc L x,Fc L y with
 |some d,some (.v (.int _ i))=>(match bM P t with
  |some (len,m)=>(mP len m d i.toNat).map (·,[0<=i/\i<(len:Int)])
  |none=>(match UE P t,d with
   |some m,.ls _ e xs=>bif Nat.beq e.length m then some (.ip e (xs.getD i.toNat (rz e)) 0,[0<=i/\i<(xs.length:Int)])else none
   |some m,.sv k o n=>bif Nat.beq m 1 then some (.ep k o 1 n i.toNat,[0<=i/\i<(n:Int)])else none
   |_,_=>none))
 |_,_=>none
def jP (P:Program) (op:BinOp) (t:TypeId) (L:DL) (x y:Operand):Option (D×List Prop):=match Fc L x,Fc L y with
 |some (.v (.int k p)),some (.v (.int k' q))=>zI op k p k' q
 |some (.v (.bool a)),some (.v (.bool b))=>(match P.underlying t,op with
  |some .bool,.eql=>some (.v (.bool (a==b)),[])
  |some .bool,.neq=>some (.v (.bool (!(a==b))),[])
  |_,_=>none)
 |some (.v (.string a)),some (.v (.string b))=>(match op with
  | .eql=>some (.v (.bool (a.toList==b.toList)),[])
  | .neq=>some (.v (.bool (!(a.toList==b.toList))),[])
  |_=>none)
 |some d,some (.v z)=>(match P.underlying t with
  |some td=>bif YA td z then(match nkD td d,op with
   |some b,.eql=>some (.v (.bool b),[])
   |some b,.neq=>some (.v (.bool !b),[])
   |_,_=>none)else none
  |none=>none)
 |_,_=>none
def YN (P:Program) (t:TypeId) (L:DL) (x:Operand):Option (D×List Prop):=match Fc L x,P.underlying t with
 |some (.ls _ _ xs),some (.slice _)=>some (.v (.int .i64 xs.length),[])
 |some (.os _ o),some (.slice _)=>some (.v (.int .i64 (o.getD []).length),[])
 |some (.sv _ _ n),some (.slice _)=>some (.v (.int .i64 n),[])
 |some (.v (.slice none 0 0)),some (.slice _)=>some (.v (.int .i64 0),[])
 |some (.v (.string s)),some .string=>some (.v (.int .i64 s.size),[])
 |_,_=>none
def WV (P:Program) (s t:TypeId) (L:DL) (x:Operand):Option (D×List Prop):=match Fc L x,P.underlying s,P.underlying t with
 |some (.v (.int _ p)),some _,some (.int k')=>some (.v (.int k' (k'.wrap p)),[])
 |some (.ls _ [.int .u8] xs),some (.slice e),some .string=>(match P.underlying e with
  |some (.int .u8)=>some (.v (.string (DW xs)),[])
  |_=>none)
 |some (.v (.slice none 0 0)),some (.slice e),some .string=>(match P.underlying e with
  |some (.int .u8)=>some (.v (.string ByteArray.empty),[])
  |_=>none)
 |_,_,_=>none
def qL (mx:Bool) (L:DL):List Operand->Option (D×List Prop)
 |[x,y]=>match Fc L x,Fc L y with
  |some (.v (.int k p)),some (.v (.int k' q))=>bif Ua k k' then some (.v (.int k (bif mx then(if q>p then q else p)else(if q<p then q else p))),[])else none
  |_,_=>none
 |_=>none
def Ab0 (t:TypeId):D->D
 | .v u=> .v (.iface t u)
 |d=> .ifc t d
def exP (P:Program) (L:DL):Op->Option (D×List Prop)
 | .move x=>(Fc L x).map (·,[])
 | .assign x=>(Fc L x).map (·,[])
 | .pick c x y=>(match Fc L c with
  |some (.v (.bool b))=>(bif b then Fc L x else Fc L y).map (·,[])
  |_=>none)
 | .nilCheck x=>(match Fc L x with
  |some d=>bif Yz d then some (d,[])else none
  |none=>none)
 | .fieldAddr t x f=>(match Fc L x,Aa0 P t f with
  |some d,some o=>(mN d o).map (·,[])
  |_,_=>none)
 | .indexAddr t x y=>qP P t L x y
 | .binOp op t x y _=>jP P op t L x y
 | .unOp .not _ x=>(match Fc L x with
  |some (.v (.bool b))=>some (.v (.bool !b),[])
  |_=>none)
 | .unOp .xor _ x=>(match Fc L x with
  |some (.v (.int k p))=>some (.v (.int k (Lm k p)),[])
  |_=>none)
 | .convert s t x=>WV P s t L x
 | .makeInterface t x=>(match Fc L x,P.underlying t with
  |some d,some td=>bif YC td then none else some (Ab0 t d,[])
  |_,_=>none)
 | .makeFunc (.func f) a b=>(match U7 L a.toList,U7 L b.toList with
  |some [],some []=>some (.v (.func (.func f) #[] #[]),[])
  |some ds,some es=>some (.fn f (Ag ds) (Ag es),[])
  |_,_=>none)
 | .extract x i=>(match Fc L x with
  |some (.tu ds)=>(ZU ds i).map (·,[])
  |some (.v (.tuple vs))=>(vs[i]?).map (.v ·,[])
  |_=>none)
 | .call c=>(match c.callee,c.args.toList,c.argTypes.toList with
  | .builtin .len,[x],[t]=>YN P t L x
  | .builtin .min,xs,_=>qL false L xs
  | .builtin .max,xs,_=>qL true L xs
  |_,_,_=>none)
 |_=>none
section
variable {P:Program} {n:Nat} {L:DL} {ds:Option Nat} {ty:TypeId} {pos:String} {af:Array Edge} {gu:Option (Nat×Bool)}
theorem EJ {ξ:Nat->Value} {g:G} {w:World} (hH:Hold L ξ g w):∀{xs:List Operand} {es:List D},U7 L xs=some es->∃vs,m5 (LN L ξ) xs=some vs/\CS g.X g.N w (Ag es) true vs/\vs.length=es.length
 |[],es,h=>by simp only[U7,Option.some.injEq]at h;subst h;exact⟨[],rfl,rfl,rfl⟩
 |x::r,es,h=>by
  simp only[U7]at h;split at h
  ·rename_i d es' h1 h2;simp only[Option.some.injEq]at h;subst h;obtain⟨v,k1,k2⟩:=Bh hH h1;obtain⟨vs,k3,k4,k5⟩:=EJ hH h2;exact⟨v::vs,by simp only[m5,k1,k3],⟨[v],vs,rfl,k2,k4⟩,by simp [k5]⟩
  ·cases h
theorem o7 {g:G} {w:World}:∀{d:D} {i:Nat} {r:D} {vs:List Value},CS g.X g.N w d true vs->ZU d i=some r->∃v,vs[i]? =some v/\Sm g w r v:=by
 intro d
 induction d with
 |cons d ds _ ih=>
  rintro i r vs ⟨l1,l2,rfl,h1,h2⟩ h;cases i with
  |zero=>
   simp only[ZU]at h;cases ho:d.one with
   |false=>rw[ho]at h;cases h
   |true=>
    rw[ho]at h;simp only[cond_true,Option.some.injEq]at h;subst h;obtain⟨v,rfl⟩:=G8 h1 ho;exact⟨v,rfl,h1⟩
  |succ i=>
   simp only[ZU]at h;cases ho:d.one with
   |false=>rw[ho]at h;cases h
   |true=>
    rw[ho]at h;obtain⟨v,rfl⟩:=G8 h1 ho;simpa using ih h2 h
 |_=>intro i r vs _ h;simp [ZU]at h
theorem MZ {t len m:Nat} (h:bM P t=some (len,m)):∃e,P.underlying t=some (.array len e)/\(P.info? e).map (·.size)=some m:=by
 unfold bM at h;split at h
 ·rename_i len' e hu;split at h
  ·rename_i m' hm;simp only[Option.some.injEq,Prod.mk.injEq]at h;obtain⟨rfl,rfl⟩:=h;exact⟨e,hu,hm⟩
  ·cases h
 ·cases h
theorem H4 {t m:Nat} (h:UE P t=some m):∃e,P.underlying t=some (.slice e)/\(P.info? e).map (·.size)=some m:=by
 unfold UE at h;split at h
 ·rename_i e hu;exact⟨e,hu,h⟩
 ·cases h
theorem Fa2.row {X:Nat->Prop} {N:Nat->Option Value} {w:World} {e:List Fk} {xs:List (RT e)} {ls:List (List Value)} (h:Fa2 (rS X N w e) xs ls):∀l∈ls,l.length=e.length:=by
 intro l hl;obtain⟨i,hi⟩:=List.mem_iff_getElem?.1 hl;have hlt:i<xs.length:=by
  rw[h.len];rcases ci i ls.length with h'|h'
  ·exact h'
  ·rw[bf h']at hi;cases hi
 obtain⟨l',h1,h2⟩:=h.get (am hlt);rw[hi]at h1;cases h1;exact eY _ _ _ h2
theorem OI {α:Type} {m:Nat}:∀{ls:List (List α)} {i:Nat} {l:List α},(∀l∈ls,l.length=m)->ls[i]? =some l->ls.flatten=(ls.take i).flatten++l++(ls.drop (i+1)).flatten/\(ls.take i).flatten.length=i*m
 |[],i,l,_,h=>by simp at h
 |x::ls,0,l,hm,h=>by simp at h;subst h;simp
 |x::ls,i+1,l,hm,h=>by obtain⟨h1,h2⟩:=OI (ls:=ls) (λl hl=>hm l (a_ _ hl)) (i:=i) (l:=l) (by simpa using h);refine⟨by simp only[bc,gd,iu,bw];rw[h1];simp,?_⟩;simp only[gd,bc,ah,h2,hm x (bz ..)];rw[iz,gj];omega
theorem At.sub {w:World} {b o:Nat} {vs a l c:List Value} (h:At w b o vs) (e:vs=a++l++c):At w b (o+a.length) l:=by subst e;rw[bw]at h;exact(At.app.1 (At.app.1 h).2).1
theorem getD_some {α:Type} {xs:List α} {i:Nat} {z:α} (h:i<xs.length):xs[i]? =some (xs.getD i z):=by rw[am h,al,am h];rfl
theorem YO {t:TypeId} {x y:Operand} {d:D} {ps:List Prop} (h:qP P t L x y=some (d,ps)):PureOk P n ⟨ds,.indexAddr t x y,ty,pos,af,gu⟩ L d ps:=by
 intro hp ξ g w hH _;unfold qP at h;split at h
 ·rename_i d0 k i hx hy;have hy':=B2 hH hy;obtain⟨v,hv,hs⟩:=Bh hH hx;split at h
  ·rename_i len m ha;obtain⟨e,h1,h2⟩:=MZ ha;obtain⟨d',hd,h3⟩:=ak.1 h;simp only[Prod.mk.injEq]at h3;obtain⟨rfl,rfl⟩:=h3;obtain⟨b,o,rfl⟩:=mO hs hd;have hi:i.toNat<len:=by have :=hp.1;omega
   exact⟨_,sJ hs hi hd,Abl h1 h2 hv hy' hp.1.1 hp.1.2⟩
  ·split at h
   ·rename_i m nn e xs hsi;obtain⟨te,h1,h2⟩:=H4 hsi;cases hm:Nat.beq e.length m with
    |false=>rw[hm]at h;cases h
    |true=>
     rw[hm]at h;have :=aq hm;subst this;simp only[cond_true,Option.some.injEq,Prod.mk.injEq]at h;obtain⟨rfl,rfl⟩:=h;obtain⟨u,ls,k1,k2,k3⟩:=hs;cases(List.cons.inj k1).1;rcases k2.at' with⟨h0,_⟩|⟨b,o,c,rfl,k4,k5,k6,k7,k8⟩
     ·have :=hp.1;omega
     ·have hi:i.toNat<xs.length:=by have :=hp.1;omega
      obtain⟨l,k9,k10⟩:=k3.get (getD_some (z:=rz e) hi);obtain⟨k11,k12⟩:=OI k3.row k9;refine⟨_,⟨b,o+i.toNat*e.length,l,k6,k7,rfl,?_,k10⟩,W_ h1 h2 hv hy' hp.1.1 hp.1.2⟩;rw[<-k12];exact At.sub k8 k11
   ·rename_i m k' o n' hsi;obtain⟨te,h1,h2⟩:=H4 hsi;cases hm:Nat.beq m 1 with
    |false=>rw[hm]at h;cases h
    |true=>
     rw[hm]at h;have :=aq hm;subst this;simp only[cond_true,Option.some.injEq,Prod.mk.injEq]at h;obtain⟨rfl,rfl⟩:=h;obtain⟨b,c,k1,k2,k3⟩:=hs;cases(List.cons.inj k2).1;have hi:i.toNat<n':=by have :=hp.1;omega
     exact⟨_,⟨hi,b,k1,rfl⟩,W_ h1 h2 hv hy' hp.1.1 hp.1.2⟩
   ·cases h
 ·cases h
theorem jO {op:BinOp} {t t':TypeId} {x y:Operand} {d:D} {ps:List Prop} (h:jP P op t L x y=some (d,ps)):PureOk P n ⟨ds,.binOp op t x y t',ty,pos,af,gu⟩ L d ps:=by
 unfold jP at h;split at h
 ·rename_i hx hy;exact sF hx hy h
 ·rename_i a b hx hy;intro hp ξ g w hH _;split at h
  ·rename_i hu;cases h;exact⟨_,rfl,xO hu (B2 hH hx) (B2 hH hy)⟩
  ·rename_i hu;cases h;exact⟨_,rfl,xL hu (B2 hH hx) (B2 hH hy)⟩
  ·cases h
 ·rename_i a b hx hy;intro hp ξ g w hH _;split at h
  ·cases h;exact⟨_,rfl,xN (B2 hH hx) (B2 hH hy)⟩
  ·cases h;exact⟨_,rfl,xK (B2 hH hx) (B2 hH hy)⟩
  ·cases h
 ·rename_i d0 z _ _ _ hx hy;intro hp ξ g w hH _;obtain⟨v,hv,hs⟩:=Bh hH hx;split at h
  ·rename_i td hu;cases hz:YA td z with
   |false=>rw[hz]at h;cases h
   |true=>
    rw[hz]at h;simp only[cond_true]at h;split at h
    ·rename_i b hn;cases h;exact⟨_,rfl,Abd hu (f7 hs hz hn) hv (B2 hH hy)⟩
    ·rename_i b hn;cases h;exact⟨_,rfl,Abc hu (f7 hs hz hn) hv (B2 hH hy)⟩
    ·cases h
  ·cases h
 ·cases h
end
end Go.Sx
namespace Go.Sx
open Go.Mi Go.RowKit
variable [Dfr]
section
variable {P:Program} {n:Nat} {L:DL} {ds:Option Nat} {ty:TypeId} {pos:String} {af:Array Edge} {gu:Option (Nat×Bool)}
theorem Lsl.shape {X:Nat->Prop} {w:World} {nn:Bool} {k m:Nat} {v:Value} {cs:List Value} (h:Lsl X w nn k v m cs):(v=vN/\k=0/\nn=false)\/(∃b o c,v=vS b o k c/\k<=c/\At w b o cs)\/(k=0/\∃a c,v= .slice (some a) 0 c):=by
 rcases h.at' with⟨h1,h2|h2⟩|⟨b,o,c,h1,h2,_,_,_,h3⟩
 ·exact .inl ⟨h2.2,h1,h2.1⟩
 ·exact .inr (.inr ⟨h1,h2⟩)
 ·exact .inr (.inl ⟨b,o,c,h1,h2,h3⟩)
theorem VC {t:TypeId} {x:Operand} {d:D} {ps:List Prop} (h:YN P t L x=some (d,ps)):PureOk P n ⟨ds,.call ⟨.builtin .len,#[x],#[t]⟩,ty,pos,af,gu⟩ L d ps:=by
 intro hp ξ g w hH _;unfold YN at h;split at h<;>simp only[Option.some.injEq,Prod.mk.injEq,reduceCtorEq]at h
 ·rename_i nn e xs _ hx hu;obtain⟨rfl,rfl⟩:=h;obtain⟨v,hv,u,ls,h1,h2,h3⟩:=Bh hH hx;cases(List.cons.inj h1).1;refine⟨_,rfl,?_⟩;rcases h2.shape with⟨rfl,h4,_⟩|⟨b,o,c,rfl,_,_⟩|⟨h4,_,_,rfl⟩
  ·have :=Dq (P:=P) (n:=n) (w:=w) (ds:=ds) (ty:=ty) (pos:=pos) (af:=af) (gu:=gu) hu hv
   rwa [<-h4]at this
  ·exact Dq hu hv
  ·have :=Dq (P:=P) (n:=n) (w:=w) (ds:=ds) (ty:=ty) (pos:=pos) (af:=af) (gu:=gu) hu hv
   rwa [<-h4]at this
 ·rename_i e o _ hx hu;obtain⟨rfl,rfl⟩:=h;obtain⟨v,hv,u,h1,h2⟩:=Bh hH hx;cases(List.cons.inj h1).1;refine⟨_,rfl,?_⟩;cases o with
  |none=>have :v=vN:=h2;subst this;exact Dq hu hv
  |some xs=>
   obtain⟨vs,h3,_⟩:=h2;rcases h3.shape with⟨_,_,h4⟩|⟨b,o,c,rfl,_,_⟩|⟨h4,_,_,rfl⟩
   ·cases h4
   ·exact Dq hu hv
   ·have :=Dq (P:=P) (n:=n) (w:=w) (ds:=ds) (ty:=ty) (pos:=pos) (af:=af) (gu:=gu) hu hv
    rwa [<-h4]at this
 ·rename_i k o m _ hx hu;obtain⟨rfl,rfl⟩:=h;obtain⟨v,hv,b,c,h1,h2,_⟩:=Bh hH hx;cases(List.cons.inj h2).1;exact⟨_,rfl,Dq hu hv⟩
 ·rename_i _ hx hu;obtain⟨rfl,rfl⟩:=h;exact⟨_,rfl,Dq hu (B2 hH hx)⟩
 ·rename_i s hx hu;obtain⟨rfl,rfl⟩:=h;exact⟨_,rfl,TJ hu (B2 hH hx)⟩
theorem OF {xs:List Int} {vs:List Value} {X:Nat->Prop} {N:Nat->Option Value} {w:World} {k:IntKind} (h:Fa2 (fS X N w (.int k)) xs vs):vs=xs.map (Value.int k):=by
 induction xs generalizing vs with
 |nil=>
  cases vs with
  |nil=>rfl
  |cons v vs=>exact h.elim
 |cons x xs ih=>
  cases vs with
  |nil=>exact h.elim
  |cons v vs=>rw[bg,<-ih h.2,show v= .int k x from h.1]
theorem Qr {x : Operand} {s t e : TypeId} {xs : List Int} {v : Value} {cs : List Value} {X : Nat -> Prop} {w : World} {nn : Bool} {Lv : List (Nat × Value)} (hs : P.underlying s = some (.slice e)) (he : P.underlying e = some (.int .u8)) (ht : P.underlying t = some .string)
  (hx:ev Lv x=some v) (hl:Lsl X w nn xs.length v 1 cs) (hc:cs=xs.map (Value.int .u8)):Det P ⟨ds,.convert s t x,ty,pos,af,gu⟩ n Lv w (.string (DW xs)) w:=by
 subst hc;rcases hl.shape with⟨rfl,h0,_⟩|⟨b,o,c,rfl,_,ha⟩|⟨h0,a0,c0,rfl⟩
 ·obtain rfl:=bm h0;exact Det.of_run λa' hF=>by have h1:(Conv.bytesToString vN).run P w= .ok (.string ByteArray.empty) w:=rfl;simp [execOp,hF.eval hx,run_convert_bytes_string w s t e none 0 0 hs he ht,h1,DW]
 ·have hX:∀j,j<xs.length->w.cell? ⟨b,o+j,none⟩=some (.int .u8 (xs.getD j 0)):=λj hj=>ha j _ (by simp [am hj,List.getD]);have :=J6 (P:=P) (n:=n) (L:=Lv) (w:=w) (ds:=ds) (ty:=ty) (pos:=pos) (af:=af) (gu:=gu) (X:=λj=>xs.getD j 0) hs he ht hx ⟨.inr ⟨b,o,rfl,hX⟩⟩ (λh=>by cases h);have e1:OT xs.length (λj=>xs.getD j 0)=DW xs:=by
   unfold OT DW;congr 1;apply io
   ·simp
   ·intro i h1 h2;simp at h1;simp [List.getD,h1]
  rwa [e1]at this
 ·obtain rfl:=bm h0;exact J6 (P:=P) (n:=n) (L:=Lv) (w:=w) (ds:=ds) (ty:=ty) (pos:=pos) (af:=af) (gu:=gu) (X:=λ_=>0) hs he ht hx ⟨.inl rfl⟩ (λh=>by cases h)
theorem aC {s t:TypeId} {x:Operand} {d:D} {ps:List Prop} (h:WV P s t L x=some (d,ps)):PureOk P n ⟨ds,.convert s t x,ty,pos,af,gu⟩ L d ps:=by
 intro hp ξ g w hH _;unfold WV at h;split at h
 ·rename_i k p _ k' hx hs ht;simp only[Option.some.injEq,Prod.mk.injEq]at h;obtain⟨rfl,rfl⟩:=h;exact⟨_,rfl,xQ hs ht (B2 hH hx) rfl⟩
 ·rename_i nn xs e hx hs ht;split at h
  ·rename_i he;simp only[Option.some.injEq,Prod.mk.injEq]at h;obtain⟨rfl,rfl⟩:=h;obtain⟨v,hv,u,ls,h1,h2,h3⟩:=Bh hH hx;cases(List.cons.inj h1).1;obtain⟨vs,rfl,h4⟩:=Lg h3;rw[Vx rfl]at h2;exact⟨_,rfl,Qr hs he ht hv h2 (OF h4)⟩
  ·cases h
 ·rename_i e hx hs ht;split at h
  ·rename_i he;simp only[Option.some.injEq,Prod.mk.injEq]at h;obtain⟨rfl,rfl⟩:=h;have hv:=B2 hH hx;exact⟨_,rfl,Qr (xs:=[]) (cs:=[]) (nn:=false) (X:=g.X) hs he ht hv ⟨br _,by simp,.inl ⟨rfl,.inl ⟨rfl,rfl⟩⟩⟩ rfl⟩
  ·cases h
 ·cases h
theorem Abi {x y : Operand} {T : Array TypeId} {k : IntKind} {p q r : Int} {Lv : List (Nat × Value)} {w : World} (hx : ev Lv x = some (.int k p)) (hy : ev Lv y = some (.int k q)) (hr : (if q > p then q else p) = r) :
  Det P ⟨ds,.call ⟨.builtin .max,#[x,y],T⟩,ty,pos,af,gu⟩ n Lv w (.int k r) w:=
 Det.of_run λa hF=>by subst hr;simp [execOp,hF.eval hx,hF.eval hy,resolve,invoke,builtin,Builtin.max_,Builtin.max2]
theorem YM {mx:Bool} {xs:Array Operand} {T:Array TypeId} {d:D} {ps:List Prop} (h:qL mx L xs.toList=some (d,ps)):PureOk P n ⟨ds,.call ⟨.builtin (bif mx then .max else .min),xs,T⟩,ty,pos,af,gu⟩ L d ps:=by
 intro hp ξ g w hH _;obtain⟨l⟩:=xs;simp only at h;unfold qL at h;split at h
 ·rename_i x y;split at h
  ·rename_i k p k' q hx hy;cases hk:Ua k k' with
   |false=>rw[hk]at h;cases h
   |true=>
    rw[hk]at h;obtain rfl:=cj hk;simp only[cond_true,Option.some.injEq,Prod.mk.injEq]at h;obtain⟨rfl,rfl⟩:=h;cases mx with
    |true=>exact⟨_,rfl,Abi (B2 hH hx) (B2 hH hy) rfl⟩
    |false=>exact⟨_,rfl,Abh (B2 hH hx) (B2 hH hy) rfl⟩
  ·cases h
 ·cases h
theorem WR {op:Op} {d:D} {ps:List Prop} (h:exP P L op=some (d,ps)):PureOk P n ⟨ds,op,ty,pos,af,gu⟩ L d ps:=by
 unfold exP at h;split at h
 ·rename_i x;obtain⟨d',h1,h2⟩:=ak.1 h;cases h2;intro hp ξ g w hH _;obtain⟨v,hv,hs⟩:=Bh hH h1;exact⟨v,hs,xM hv⟩
 ·rename_i x;obtain⟨d',h1,h2⟩:=ak.1 h;cases h2;intro hp ξ g w hH _;obtain⟨v,hv,hs⟩:=Bh hH h1;exact⟨v,hs,kG hv⟩
 ·rename_i c x y;split at h
  ·rename_i b hc;obtain⟨d',h1,h2⟩:=ak.1 h;cases h2;intro hp ξ g w hH _;have hc':=B2 hH hc;cases b with
   |true=>obtain⟨v,hv,hs⟩:=Bh hH h1;exact⟨v,hs,kE hc' hv⟩
   |false=>obtain⟨v,hv,hs⟩:=Bh hH h1;exact⟨v,hs,kE hc' hv⟩
  ·cases h
 ·rename_i x;split at h
  ·rename_i d0 hx;cases hp:Yz d0 with
   |false=>rw[hp]at h;cases h
   |true=>
    rw[hp]at h;cases h;intro _ ξ g w hH _;obtain⟨v,hv,hs⟩:=Bh hH hx;obtain⟨ad,rfl⟩:=g7 hs hp;exact⟨_,hs,xJ hv⟩
  ·cases h
 ·rename_i t x f;split at h
  ·rename_i d0 o hx hf;obtain⟨d',h1,h2⟩:=ak.1 h;cases h2;intro _ ξ g w hH _;obtain⟨v,hv,hs⟩:=Bh hH hx;obtain⟨b,o',rfl⟩:=mM hs h1;unfold Aa0 at hf;split at hf
   ·rename_i fs hu;split at hf
    ·rename_i fd hfd;split at hf
     ·rename_i m hm;cases hf;exact⟨_,sI hs h1,VK hu hfd hm hv⟩
     ·cases hf
    ·cases hf
   ·cases hf
  ·cases h
 ·exact YO h
 ·exact jO h
 ·split at h
  ·rename_i b hx;cases h;intro _ ξ g w hH _;exact⟨_,rfl,Abb (B2 hH hx)⟩
  ·cases h
 ·split at h
  ·rename_i k p hx;cases h;intro _ ξ g w hH _;exact⟨_,rfl,Abp (B2 hH hx)⟩
  ·cases h
 ·exact aC h
 ·rename_i t x;split at h
  ·rename_i d0 td hx hu;cases hd:YC td with
   |true=>rw[hd]at h;cases h
   |false=>
    rw[hd]at h;simp only[cond_false,Option.some.injEq,Prod.mk.injEq]at h;obtain⟨rfl,rfl⟩:=h;intro _ ξ g w hH _;obtain⟨v,hv,hs⟩:=Bh hH hx;refine⟨.iface t v,?_,Abg hu hd hv⟩;cases d0 with
    |v u=>have :=hs.eq;subst this;rfl
    |_=>exact⟨v,hs,rfl⟩
  ·cases h
 ·rename_i f a b;intro _ ξ g w hH _;split at h
  ·rename_i h1 h2;cases h;obtain⟨us,k1,_,k3⟩:=EJ hH h1;obtain⟨vs,k4,_,k6⟩:=EJ hH h2;obtain rfl:=bm k3;obtain rfl:=bm k6;exact⟨_,rfl,tX k1 k4⟩
  ·rename_i es fs _ h1 h2;cases h;obtain⟨us,k1,k2,_⟩:=EJ hH h1;obtain⟨vs,k4,k5,_⟩:=EJ hH h2;exact⟨_,⟨us,vs,k2,k5,rfl⟩,tX k1 k4⟩
  ·cases h
 ·rename_i x i;intro _ ξ g w hH _;split at h
  ·rename_i es hx;obtain⟨d',h1,h2⟩:=ak.1 h;cases h2;obtain⟨v,hv,l',k1,k2⟩:=Bh hH hx;cases(List.cons.inj k2).1;obtain⟨u,k3,k4⟩:=o7 k1 h1;exact⟨u,k4,R9 hv (by simpa using k3)⟩
  ·rename_i vs hx;obtain⟨d',h1,h2⟩:=ak.1 h;cases h2;exact⟨_,rfl,R9 (B2 hH hx) h1⟩
  ·cases h
 ·rename_i c;obtain⟨cl,⟨xs⟩,⟨ts⟩⟩:=c;simp only at h;split at h
  ·exact VC h
  ·exact YM (mx:=false) (xs:=⟨_⟩) h
  ·exact YM (mx:=true) (xs:=⟨_⟩) h
  ·cases h
 ·cases h
end
end Go.Sx
namespace Go.Sx
open Go.Mi Go.RowKit
variable [Dfr]
def pS (o i m:Nat):Nat:=bif Nat.beq m 1 then(bif Nat.beq o 0 then i else o+i)else(bif Nat.beq o 0 then i*m else o+i*m)
theorem Ny (o i m:Nat):pS o i m=o+i*m:=by
 unfold pS;cases hm:Nat.beq m 1 with
 |true=>
  have :=aq hm;subst this;cases ho:Nat.beq o 0 with
  |true=>have :=aq ho;subst this;simp
  |false=>simp
 |false=>
  cases ho:Nat.beq o 0 with
  |true=>have :=aq ho;subst this;simp
  |false=>simp
def oX:D->Option D
 | .ar k n f=>bif Nat.beq n 1 then some (.v (.int k (f 0)))else none
 |d=>bif d.isOne then some d else none
def I5 (flat:Bool) (r:List D):Option D:=bif flat then(match r with
 |[d]=>oX d
 |_=>none)else some (mk1 r)
def N9 (P:Program) (t:TypeId):Option (Bool×Nat):=match P.underlying t,P.info? t with
 |some d,some i=>some (TypeDesc.flat d,i.size)
 |_,_=>none
def xE (P:Program) (L:DL) (H:Hp) (t:TypeId) (x:Operand):Option (List Nat×D):=match Fc L x,N9 P t with
 |some (.cp k o),some (fl,m)=>(match A4 H k with
  |some (.ob _ d)=>((Jm (Ig d) o m).bind (I5 fl)).map ([k], ·)
  |_=>none)
 |some (.ep k o mm n i),some (fl,m)=>(match A4 H k with
  |some (.ob _ d)=>(match Jm (Ig d) o (n*mm)with
   |some [.ar kk _ f]=>bif fl then(bif Nat.beq m 1&&Nat.ble 1 mm then some ([k],.v (.int kk (f (pS 0 i mm))))else none)
    else(bif Nat.ble m mm then some ([k],.ar kk m λj=>f (pS 0 i mm+j))else none)
   |_=>((Jm (Ig d) (o+i*mm) m).bind (I5 fl)).map ([k], ·))
  |_=>none)
 |some (.xp k mm _ i o),some (fl,m)=>(match A4 H k with
  |some (.sl _ e xs)=>bif Nat.beq mm e.length then((Jm (d7 e (xs.getD i (rz e))) o m).bind (I5 fl)).map ([k], ·)else none
  |_=>none)
 |some (.im d o),some (fl,m)=>((Jm (Ig d) o m).bind (I5 fl)).map ([], ·)
 |some (.ip e x o),some (fl,m)=>((Jm (d7 e x) o m).bind (I5 fl)).map ([], ·)
 |_,_=>none
section
variable {P:Program} {n:Nat} {L:DL} {ds:Option Nat} {ty:TypeId} {pos:String} {af:Array Edge} {gu:Option (Nat×Bool)} {g:G} {w:World}
theorem EOk.rd {o:Oper} {H:Nat->Option O} {rd:List Nat} {d:D} (h:∀ξ g w,HS (Cj rd H) g w->Hold L ξ g w->∃v,Sm g w d v/\Det P o n (LN L ξ) w v w):EOk P n o L H ⟨rd,[],[],d⟩:=by
 intro ξ g w V hH _;have hS':HS (Cj rd H) g w:=by simpa[Ax]using V
 obtain⟨v,h1,h2⟩:=h ξ g w hS' hH;exact h2.mono λv' w' ⟨e1,e2⟩=>by subst e1;subst e2;exact⟨g,Post.pure V.wf h1⟩
theorem FT {t:TypeId} {fl:Bool} {m:Nat} (h:N9 P t=some (fl,m)):∃d,P.underlying t=some d/\TypeDesc.flat d=fl/\(P.info? t).map (·.size)=some m:=by
 unfold N9 at h;split at h
 ·rename_i d i hu hi;simp only[Option.some.injEq,Prod.mk.injEq]at h;exact⟨d,hu,h.1,by rw[hi];exact dn some h.2⟩
 ·cases h
theorem Tb {r:List D} {l:List Value} (h:DD g.X g.N w r l) (ho:∀u∈l,u.oneCell'=true):Sm g w (mk1 r) (.agg l.toArray):=by
 have gen:∀{r:List D},DD g.X g.N w r l->Sm g w (.ag (Ag r)) (.agg l.toArray):=λh=>⟨l,FI.2 h,ho,rfl⟩;unfold mk1;split
 ·rename_i d;split
  ·rename_i k n f;have :l=cells k n f:=DR.1 h;subst this;exact rfl
  ·exact gen h
 ·exact gen h
theorem S8 {d d':D} {l:List Value} (h:CS g.X g.N w d false l) (ho:oX d=some d'):∃v,l=[v]/\Sm g w d' v:=by
 unfold oX at ho;split at ho
 ·rename_i k m f;cases hm:Nat.beq m 1 with
  |false=>rw[hm]at ho;cases ho
  |true=>
   rw[hm]at ho;have :=aq hm;subst this;cases ho;have h1:l=cells k 1 f:=h;subst h1;exact⟨_,rfl,rfl⟩
 ·cases hi:D.isOne _ with
  |false=>rw[hi]at ho;cases ho
  |true=>
   rw[hi]at ho;cases ho;obtain⟨v,h1,_,h2⟩:=Nf h hi;exact⟨v,h1,h2⟩
theorem tE {t : TypeId} {x : Operand} {fl : Bool} {m b o : Nat} {r : List D} {d : D} {l : List Value} {Lv : List (Nat × Value)} (ht : N9 P t = some (fl, m)) (hx : ev Lv x = some (vP b o)) (ha : At w b o l) (hl : l.length = m) (hs : DD g.X g.N w r l) (ho : ∀ u ∈ l, u.oneCell' = true) (hf : I5 fl r = some d) :
  ∃v,Sm g w d v/\Det P ⟨ds,.load t x,ty,pos,af,gu⟩ n Lv w v w:=by
 obtain⟨td,h1,h2,h3⟩:=FT ht;unfold I5 at hf;cases fl with
 |true=>
  simp only[cond_true]at hf;split at hf
  ·rename_i d0;obtain⟨v,rfl,h4⟩:=S8 (DR.1 hs) hf;exact⟨v,h4,YT h1 h2 hx (by simpa using ha 0 v rfl)⟩
  ·cases hf
 |false=>
  simp only[cond_false,Option.some.injEq]at hf;subst hf;exact⟨_,Tb hs ho,ON h1 h2 h3 hx ha hl⟩
theorem Vp {t : TypeId} {x : Operand} {fl : Bool} {m b o0 o : Nat} {ss r : List D} {d : D} {l : List Value} {Lv : List (Nat × Value)} (ht : N9 P t = some (fl, m)) (hx : ev Lv x = some (vP b (o0 + o))) (ha : At w b o0 l) (hs : DD g.X g.N w ss l) (ho : ∀ u ∈ l, u.oneCell' = true) (hg : Jm ss o m = some r) (hf : I5 fl r = some d) :
  ∃v,Sm g w d v/\Det P ⟨ds,.load t x,ty,pos,af,gu⟩ n Lv w v w:=by
 obtain⟨k1,k2⟩:=Ib hs hg;cases hm:m with
 |zero=>
  subst hm;refine tE ht hx (l:=[]) (λi u hu=>by simp at hu) rfl (by simpa using k1) (by simp) hf
 |succ m'=>
  have k2':o+m<=l.length:=by rw[aj (by omega)]at k2;simpa using k2
  refine tE ht hx (l:=(l.drop o).take m) ?_ (by simp;omega) k1 (λu hu=>ho u (cw (cv hu))) hf;have h3:l=l.take o++(l.drop o).take m++(l.drop o).drop m:=by rw[bw,dg,dg]
  have :=At.sub ha h3;rw[ao,ei (by omega)]at this;exact this
theorem qO {H:Hp} {t:TypeId} {x:Operand} {rd:List Nat} {d:D} (h:xE P L H t x=some (rd,d)):EOk P n ⟨ds,.load t x,ty,pos,af,gu⟩ L (A4 H) ⟨rd,[],[],d⟩:=by
 refine EOk.rd λξ g w V hH=> ?_;have obj:∀{k:Nat} {o:O},k∈rd->A4 H k=some o->OS g w k o:=λ{k o} hk ho=>V.os k o (by unfold Cj;rw[A1.2 hk];exact ho);unfold xE at h;split at h
 ·rename_i k o fl m hx ht;split at h
  ·rename_i ty' d0 hk;obtain⟨d',h1,h2⟩:=ak.1 h;cases h2;obtain⟨r,h3,h4⟩:=be.1 h1;obtain⟨v,hv,b',e1,e2⟩:=Bh hH hx;cases(List.cons.inj e2).1;obtain⟨b,c,k1,k2,k3,k4,k5⟩:=obj (by simp) hk;rw[k1]at e1;cases e1;exact Vp ht (o0:=0) (by simpa using hv) (At.of_blk k3) (Eu k4) k5 h3 h4
  ·cases h
 ·rename_i k o mm nn i fl m hx ht;split at h
  ·rename_i ty' d0 hk;obtain⟨v,hv,hi,b',e1,e2⟩:=Bh hH hx;cases(List.cons.inj e2).1;split at h
   ·rename_i kk q f hg;have hkr:k∈rd:=by
     cases fl with
     |true=>
      cases hc:Nat.beq m 1&&Nat.ble 1 mm with
      |false=>rw[hc]at h;cases h
      |true=>rw[hc]at h;cases h;simp
     |false=>
      cases hc:Nat.ble m mm with
      |false=>rw[hc]at h;cases h
      |true=>rw[hc]at h;cases h;simp
    obtain⟨b,c,k1,k2,k3,k4,k5⟩:=obj hkr hk;rw[k1]at e1;cases e1;obtain⟨k6,k7⟩:=Ib (Eu k4) hg;have k6:=DR.1 k6;have hq:q=nn*mm:=by
     have h5:=GE k6;rw[ao,au]at h5;have :HT (.ar kk q f)=q:=rfl;rw[this]at h5;have h6:0<nn:=by omega
     by_cases hz:nn*mm=0
     ·rw[hz]at h5;simp at h5;omega
     ·rw[aj hz]at k7;omega
    have k8:(c.toList.drop o).take (nn*mm)=cells kk q f:=k6;have atc:∀j,j<mm->w.cell? ⟨b',o+i*mm+j,none⟩=some (.int kk (f (i*mm+j))):=by
     intro j hj;have h6:i*mm+j<nn*mm:=by have :(i+1)*mm<=nn*mm:=cx _ hi;rw[iz,gj]at this;omega
     have h7:(cells kk q f)[i*mm+j]? =some (.int kk (f (i*mm+j))):=Cc (by rw[hq];exact h6);rw[<-k8,dc,ab h6,dh]at h7;rw[MM k3,<-gh,gx];exact h7
    obtain⟨td,t1,t2,t3⟩:=FT ht;cases fl with
    |true=>
     cases hc:Nat.beq m 1&&Nat.ble 1 mm with
     |false=>rw[hc]at h;cases h
     |true=>
      rw[hc]at h;rw[ap]at hc;cases h;have hm:=bq hc.2;refine⟨_,rfl,YT t1 t2 hv ?_⟩;have :=atc 0 (by omega);rw[Ny,bu];simpa using this
    |false=>
     cases hc:Nat.ble m mm with
     |false=>rw[hc]at h;cases h
     |true=>
      rw[hc]at h;cases h;have hm:=bq hc;refine⟨_,rfl,ON t1 t2 t3 hv (vs:=cells kk m λj=>f (pS 0 i mm+j)) (λj u hu=> ?_) Bq⟩;have hj:j<m:=by
       rcases ci j m with h'|h'
       ·exact h'
       ·rw[bf (by rw[Bq];exact h')]at hu;cases hu
      rw[Cc hj]at hu;cases hu;rw[Ny,bu];exact atc j (by omega)
   ·obtain⟨d',h1,h2⟩:=ak.1 h;cases h2;obtain⟨r,h3,h4⟩:=be.1 h1;obtain⟨b,c,k1,k2,k3,k4,k5⟩:=obj (by simp) hk;rw[k1]at e1;cases e1;exact Vp ht (o0:=0) (by simpa using hv) (At.of_blk k3) (Eu k4) k5 h3 h4
  ·cases h
 ·rename_i k mm nn i o fl m hx ht;split at h
  ·rename_i ty' e xs hk;cases hm:Nat.beq mm e.length with
   |false=>rw[hm]at h;cases h
   |true=>
    rw[hm]at h;have :=aq hm;subst this;obtain⟨d',h1,h2⟩:=ak.1 h;cases h2;obtain⟨r,h3,h4⟩:=be.1 h1;obtain⟨v,hv,hi,b',cc,e1,e2⟩:=Bh hH hx;cases(List.cons.inj e2).1;obtain⟨v,ls,k1,k2,k3,k4,k5,k6⟩:=obj (by simp) hk;rw[k1]at e1;cases e1;rcases k3.at with⟨h5,_⟩|⟨b,cap,h5,h6,h7⟩
    ·cases h5
    ·cases h5;obtain⟨l,h8,h9⟩:=k5.get (getD_some (z:=rz e) hi);obtain⟨h10,h11⟩:=OI k5.row h8;have ha:=At.sub h7 h10;rw[h11,bu]at ha;exact Vp ht hv ha (L9 h9) (SO h9) h3 h4
  ·cases h
 ·rename_i d0 o fl m hx ht;obtain⟨d',h1,h2⟩:=ak.1 h;cases h2;obtain⟨r,h3,h4⟩:=be.1 h1;obtain⟨v,hv,b,l',_,_,e2,e3,e4,e5⟩:=Bh hH hx;cases(List.cons.inj e2).1;exact Vp ht (o0:=0) (by simpa using hv) e3 (Eu e5) e4 h3 h4
 ·rename_i e x0 o fl m hx ht;obtain⟨d',h1,h2⟩:=ak.1 h;cases h2;obtain⟨r,h3,h4⟩:=be.1 h1;obtain⟨v,hv,b,o0,l',_,_,e2,e3,e4⟩:=Bh hH hx;cases(List.cons.inj e2).1;exact Vp ht hv e3 (L9 e4) (SO e4) h3 h4
 ·cases h
end
end Go.Sx
namespace Go.Sx
open Go.Mi Go.RowKit
variable [Dfr]
def cI (cs:List D) (mm n i:Nat):List D->Nat->Option (List D)
 |[],_=>none
 |d::ds,o=>bif Nat.ble (HT d) o then(cI cs mm n i ds (o-HT d)).map (d:: ·)else match d with
  | .ar k N f=>bif Nat.ble (o+n*mm) N then(match cs with
   |[.v (.int k' x)]=>bif Ua k k'&&Nat.ble 1 mm then some (.ar k N (upd f (pS o i mm) x)::ds)else none
   |[.ar k' m h]=>bif Ua k k'&&Nat.ble m mm then some (.ar k N (Ek f (pS o i mm) m h)::ds)else none
   |_=>none)else none
  |_=>none
def T7 (cs:List D):Nat:=cs.foldr (λd a=>HT d+a) 0
def w9 (P:Program) (L:DL) (H:Hp) (t:TypeId) (x y:Operand):Option (Nat×O):=match Fc L x,(Fc L y).bind nD,N9 P t with
 |some (.cp k o),some cs,some (_,m)=>bif Nat.beq (T7 cs) m then(match A4 H k with
  |some (.ob ty d)=>(UZ cs m (Ig d) o).map λr=>(k,.ob ty (Ag r))
  |_=>none)else none
 |some (.ep k o mm n i),some cs,some (_,m)=>bif Nat.beq (T7 cs) m then(match A4 H k with
  |some (.ob ty d)=>(match cI cs mm n i (Ig d) o with
   |some r=>some (k,.ob ty (Ag r))
   |none=>(UZ cs m (Ig d) (o+i*mm)).map λr=>(k,.ob ty (Ag r)))
  |_=>none)else none
 |some (.xp k mm _ i o),some cs,some (_,m)=>bif Nat.beq (T7 cs) m then(match A4 H k with
  |some (.sl ty e xs)=>bif Nat.beq mm e.length then((UZ cs m (d7 e (xs.getD i (rz e))) o).bind (z6 e)).map λr=>(k,.sl ty e (xs.set i r))else none
  |_=>none)else none
 |_,_,_=>none
section
variable {P:Program} {n:Nat} {L:DL} {ds:Option Nat} {ty:TypeId} {pos:String} {af:Array Edge} {gu:Option (Nat×Bool)} {g:G} {w:World}
theorem Km {X:Nat->Prop} {N:Nat->Option Value}:∀{cs:List D} {l:List Value},DD X N w cs l->l.length=T7 cs
 |[],l,h=>by rw[show l=[]from h];rfl
 |d::cs,l,⟨l1,l2,e,h1,h2⟩=>by subst e;rw[ah,GE h1,Km h2];rfl
theorem XO {X:Nat->Prop} {N:Nat->Option Value} {cs:List D} {le:List Value} {mm nn i:Nat} (he:DD X N w cs le) (hi:i<nn):∀{ss:List D} {o:Nat} {r:List D} {l:List Value},DD X N w ss l->cI cs mm nn i ss o=some r->DD X N w r (l.take (o+i*mm)++le++l.drop (o+i*mm+le.length))/\o+i*mm+le.length<=l.length
 |[],o,r,l,_,hp=>by simp [cI]at hp
 |d::ss,o,r,l,⟨l1,l2,e',h1,h2⟩,hp=>by
  subst e';have hl:=GE h1;simp only[cI]at hp;cases hb:Nat.ble (HT d) o with
  |true=>
   rw[hb]at hp;have hle:=bq hb;obtain⟨r',hr,rfl⟩:=ak.1 hp;obtain⟨k1,k2⟩:=XO he hi h2 hr;refine⟨⟨l1,_,?_,h1,k1⟩,by simp;omega⟩;rw[ff,bp (by omega),fw,dm (by omega),hl];simp only[dx,bw];rw[show o+i*mm+le.length-HT d=o-HT d+i*mm+le.length by omega,show o+i*mm-HT d=o-HT d+i*mm by omega]
  |false=>
   rw[hb]at hp;simp only[cond_false]at hp;cases d with
   |ar k N' f=>
    simp only at hp;have h1':l1=cells k N' f:=h1;have hn:l1.length=N':=by rw[h1',Bq]
    cases hc:Nat.ble (o+nn*mm) N' with
    |false=>rw[hc]at hp;cases hp
    |true=>
     rw[hc]at hp;have hle:=bq hc;simp only[cond_true]at hp;have him:(i+1)*mm<=nn*mm:=cx _ hi;rw[iz,gj]at him;have fin:∀{d':D},WJ k N' f (o+i*mm) cs=some d'->DD X N w (d'::ss) ((l1++l2).take (o+i*mm)++le++(l1++l2).drop (o+i*mm+le.length))/\o+i*mm+le.length<=(l1++l2).length:=λ{d'} h=>by obtain⟨k1,k2⟩:=YF he h;refine⟨⟨_,l2,?_,k1,h2⟩,by simp;omega⟩;rw[<-h1',ck (by omega),du (by omega)];simp
     split at hp
     ·rename_i k' x;cases hk:Ua k k'&&Nat.ble 1 mm with
      |false=>rw[hk]at hp;cases hp
      |true=>
       rw[hk]at hp;rw[ap]at hk;have hm1:=bq hk.2;simp only[cond_true,Option.some.injEq]at hp;subst hp;refine fin ?_;have hlt:Nat.blt (o+i*mm) N'=true:=by rw[ay];omega
       simp only[WJ,hk.1,hlt,Ny,Bool.and_self,cond_true]
     ·rename_i k' m h;cases hk:Ua k k'&&Nat.ble m mm with
      |false=>rw[hk]at hp;cases hp
      |true=>
       rw[hk]at hp;rw[ap]at hk;have hm1:=bq hk.2;simp only[cond_true,Option.some.injEq]at hp;subst hp;refine fin ?_;have hlt:Nat.ble (o+i*mm+m) N'=true:=fu (by omega);simp only[WJ,hk.1,hlt,Ny,Bool.and_self,cond_true]
     ·cases hp
   |_=>simp at hp
theorem Post.upd {H:Nat->Option O} {k ty b:Nat} {o o':O} {c':Array Value} {v:Value} {w':World} (V:HS (Cj [k] H) g w) (hk:H k=some o) (hb:g.F k=[b]) (hu:Upd w w' b c' ty) (ho:∀w',Go (λx=>x∈g.F k) g w g w'->w'.heap[b]? =some (.cells c' ty (0,0))->OS g w' k o'):Post H ⟨[],[(k,some o')],[],.top⟩ g w v g w':=by
 have hk':Cj [k] H k=some o:=by simp [Cj,CN,hk]
 have hX:g.X b:=V.own k o hk' b (by rw[hb];simp);have hch:Chp (λx=>x∈g.F k) w w':=⟨hu.os,hu.tape,hu.output,by rw[hu.size];exact an _,λx hx hn=>hu.other x λe=>hn (by rw[hb,e];simp)⟩;have hgo:Go (λx=>x∈g.F k) g w g w':=⟨hch,λx hx=>V.own k o hk' x hx,λx h=> .inl h,λx h _=>h,λ_ _ h=>h,λ_ _ _=>rfl⟩;have e1:∀j q,A4 (Eff.outs ⟨[],[(k,some o')],[],.top⟩) j=some q->j=k/\q=o':=λj q h=>by
  simp only[Eff.outs,fg,fm,A4,Fe]at h;by_cases e:k=j
  ·subst e;simp at h;exact⟨rfl,h.symm⟩
  ·rw[BL e]at h;cases h
 have hft:∀x,x∈g.F k->Eff.foot ⟨[],[(k,some o')],[],.top⟩ H g x:=λx hx=>⟨k,by simp [Ax],o,hk,hx⟩;have hft2:∀x,Eff.foot ⟨[],[(k,some o')],[],.top⟩ H g x->x∈g.F k:=λx ⟨j,h1,q,h2,h3⟩=>by simp only[Ax,bg,fg,bo]at h1;subst h1;exact h3
 refine⟨hgo.mono hft λx hx=>hgo.s x (hft2 x hx),⟨v,rfl⟩,⟨λx hx=>by rw[hu.size];exact V.wf x hx,λj q h=> ?_,λj q h x hx=> ?_,λj q j' q' h h' hne=> ?_⟩,λj q h x hx=> ?_,λj u h=> .inl h⟩
 ·obtain⟨rfl,rfl⟩:=e1 j q h;exact ho w' hgo hu.blk
 ·obtain⟨rfl,rfl⟩:=e1 j q h;exact V.own j o hk' x hx
 ·exact absurd ((e1 j q h).1.trans (e1 j' q' h').1.symm) hne
 ·obtain⟨rfl,rfl⟩:=e1 j q h;exact .inl (hft x hx)
theorem C5 (c:Array Value) (o:Nat) (vs:List Value):(put c o vs).toList=c.toList.take o++vs++c.toList.drop (o+vs.length):=by simp [put]
theorem qH {H:Hp} {t:TypeId} {x y:Operand} {k:Nat} {o':O} (h:w9 P L H t x y=some (k,o')):EOk P n ⟨ds,.store t x y,ty,pos,af,gu⟩ L (A4 H) ⟨[],[(k,some o')],[],.top⟩:=by
 intro ξ g w V hH _;have V:HS (Cj [k] (A4 H)) g w:=V;have obj:∀{o:O},A4 H k=some o->OS g w k o:=λ{o} ho=>V.os k o (by simp [Cj,CN,ho]);unfold w9 at h;split at h
 ·rename_i k' o cs fl m hx hy ht;obtain⟨dy,hy1,hy2⟩:=be.1 hy;obtain⟨td,t1,t2,t3⟩:=FT ht;obtain⟨u,hu,hus⟩:=Bh hH hy1;obtain⟨c1,c2⟩:=Pe hus hy2;cases hm:Nat.beq (T7 cs) m with
  |false=>rw[hm]at h;cases h
  |true=>
   rw[hm]at h;have hm':=aq hm;simp only[cond_true]at h;split at h
   ·rename_i ty' d hk;obtain⟨r,h1,h2⟩:=ak.1 h;cases h2;obtain⟨v,hv,b',e1,e2⟩:=Bh hH hx;cases(List.cons.inj e2).1;obtain⟨b,c,k1,k2,k3,k4,k5⟩:=obj hk;rw[k1]at e1;cases e1;have hlen:=Km c1;have hsz:u.cells.size=m:=by rw[<-co,hlen,hm']
    rw[<-hm',<-hlen]at h1;obtain⟨p1,p2⟩:=Ml c1 (Eu k4) h1;refine(Nt t3 hv hu hsz c2 k3 (by simpa[<-hsz]using p2)).mono λv' w' hw=>⟨g,Post.upd V hk k2 hw λw' hgo hb=> ?_⟩;refine⟨b',_,k1,k2,hb,?_,?_⟩
    ·rw[C5];exact GY hgo.goes _ _ _ (FI.2 p1)
    ·intro q hq;rw[C5]at hq;rcases bn.1 hq with hq|hq
     ·rcases bn.1 hq with hq|hq
      ·exact k5 q (cv hq)
      ·exact c2 q hq
     ·exact k5 q (cw hq)
   ·cases h
 ·rename_i k' o mm nn i cs fl m hx hy ht;obtain⟨dy,hy1,hy2⟩:=be.1 hy;obtain⟨td,t1,t2,t3⟩:=FT ht;obtain⟨u,hu,hus⟩:=Bh hH hy1;obtain⟨c1,c2⟩:=Pe hus hy2;cases hm:Nat.beq (T7 cs) m with
  |false=>rw[hm]at h;cases h
  |true=>
   rw[hm]at h;have hm':=aq hm;simp only[cond_true]at h;split at h
   ·rename_i ty' d hk;have hlen:=Km c1;have hsz:u.cells.size=m:=by rw[<-co,hlen,hm']
    have key:∃r,o'= .ob ty' (Ag r)/\k=k'/\(∀l,i<nn->DD g.X g.N w (Ig d) l->DD g.X g.N w r (l.take (o+i*mm)++u.cells.toList++l.drop (o+i*mm+u.cells.toList.length))/\o+i*mm+u.cells.toList.length<=l.length):=by
     split at h
     ·rename_i r hr;cases h;exact⟨r,rfl,rfl,λl hi hl=>XO c1 hi hl hr⟩
     ·obtain⟨r,h1,h2⟩:=ak.1 h;cases h2;rw[<-hm',<-hlen]at h1;exact⟨r,rfl,rfl,λl hi hl=>Ml c1 hl h1⟩
    obtain⟨r,rfl,rfl,hr⟩:=key;obtain⟨v,hv,hi,b',e1,e2⟩:=Bh hH hx;cases(List.cons.inj e2).1;obtain⟨b,c,k1,k2,k3,k4,k5⟩:=obj hk;rw[k1]at e1;cases e1;obtain⟨p1,p2⟩:=hr _ hi (Eu k4);refine(Nt t3 hv hu hsz c2 k3 (by simpa[<-hsz]using p2)).mono λv' w' hw=>⟨g,Post.upd V hk k2 hw λw' hgo hb=> ?_⟩;refine⟨b',_,k1,k2,hb,?_,?_⟩
    ·rw[C5];exact GY hgo.goes _ _ _ (FI.2 p1)
    ·intro q hq;rw[C5]at hq;rcases bn.1 hq with hq|hq
     ·rcases bn.1 hq with hq|hq
      ·exact k5 q (cv hq)
      ·exact c2 q hq
     ·exact k5 q (cw hq)
   ·cases h
 ·rename_i k' mm nn i o cs fl m hx hy ht;obtain⟨dy,hy1,hy2⟩:=be.1 hy;obtain⟨td,t1,t2,t3⟩:=FT ht;obtain⟨u,hu,hus⟩:=Bh hH hy1;obtain⟨c1,c2⟩:=Pe hus hy2;cases hm:Nat.beq (T7 cs) m with
  |false=>rw[hm]at h;cases h
  |true=>
   rw[hm]at h;have hm':=aq hm;simp only[cond_true]at h;split at h
   ·rename_i ty' e xs hk;cases hq:Nat.beq mm e.length with
    |false=>rw[hq]at h;cases h
    |true=>
     rw[hq]at h;have :=aq hq;subst this;obtain⟨r,h1,h2⟩:=ak.1 h;cases h2;obtain⟨ps,h3,h4⟩:=be.1 h1;have hlen:=Km c1;have hsz:u.cells.size=m:=by rw[<-co,hlen,hm']
     rw[<-hm',<-hlen]at h3;obtain⟨v,hv,hi,b',cc,e1,e2⟩:=Bh hH hx;cases(List.cons.inj e2).1;obtain⟨v,ls,k1,k2,k3,k4,k5,k6⟩:=obj hk;rw[k1]at e1;cases e1;rcases k3.2 with⟨h5,_⟩|⟨b,cap,cur,h5,_,h6,h7,h8,h9,h10⟩
     ·cases h5
     ·cases h5;obtain⟨l,h11,h12⟩:=k5.get (getD_some (z:=rz e) hi);obtain⟨h13,h14⟩:=OI k5.row h11;have hll:=k5.row l (ee h11);obtain⟨p1,p2⟩:=Ml c1 (L9 h12) h3;have p3:=Wc p1 h4;have hcs:cur.toList.length=cur.size:=co;have hus':u.cells.toList.length=u.cells.size:=co;have hcl:xs.length*e.length<=cur.toList.length:=by rw[hcs,h9];exact cx _ h7
      have hie:(i+1)*e.length<=xs.length*e.length:=cx _ hi;rw[iz,gj]at hie;have hcc:i*e.length+o+m<=cur.size:=by omega
      refine(Nt t3 hv hu hsz c2 h6 hcc).mono λv' w' hw=>⟨g,Post.upd V hk (b:=b') (by rw[k2];rfl) hw λw' hgo hb=> ?_⟩;have hnew:(ls.set i (l.take o++u.cells.toList++l.drop (o+u.cells.toList.length))).flatten=(put cur (i*e.length+o) u.cells.toList).toList.take (xs.length*e.length):=by
       rw[C5];have hcur:cur.toList=ls.flatten++cur.toList.drop (xs.length*e.length):=by rw[<-h10,dg]
       have hil:i<ls.length:=by rw[<-k5.len];exact hi
       have hset:(ls.set i (l.take o++u.cells.toList++l.drop (o+u.cells.toList.length)))=ls.take i++[l.take o++u.cells.toList++l.drop (o+u.cells.toList.length)]++ls.drop (i+1):=by rw[List.set_eq_take_append_cons_drop,ab hil];simp
       rw[hset];simp only[de,bc,cd,fm];rw[hcur,h13];generalize hA:(ls.take i).flatten=A at h14⊢;generalize hB:(ls.drop (i+1)).flatten=B;have hlenB:A.length+l.length+B.length=xs.length*e.length:=by have :=dn List.length h13;rw[<-h10,ao,ei hcl]at this;simp only[ah,hA,hB]at this;omega
       have q1:(A++l++B++cur.toList.drop (xs.length*e.length)).take (i*e.length+o)=A++l.take o:=by rw[bw,bw,ff,bp (by omega),h14,Nat.add_sub_cancel_left,ck (by omega)]
       have q2:(A++l++B++cur.toList.drop (xs.length*e.length)).drop (i*e.length+o+u.cells.toList.length)=l.drop (o+u.cells.toList.length)++(B++cur.toList.drop (xs.length*e.length)):=by rw[bw,bw,fw,dm (by omega),h14,dx,show i*e.length+o+u.cells.toList.length-i*e.length=o+u.cells.toList.length by omega,du (by omega)]
       rw[q1,q2];rw[show A++l.take o++u.cells.toList++(l.drop (o+u.cells.toList.length)++(B++cur.toList.drop (xs.length*e.length)))=(A++(l.take o++u.cells.toList++l.drop (o+u.cells.toList.length))++B)++cur.toList.drop (xs.length*e.length) by simp];have hln:(A++(l.take o++u.cells.toList++l.drop (o+u.cells.toList.length))++B).length=xs.length*e.length:=by simp only[ah,ao,au];omega
       rw[ck (by omega)];exact(bp (by omega)).symm
      have hFa:Fa2 (rS g.X g.N w e) (xs.set i r) (ls.set i (l.take o++u.cells.toList++l.drop (o+u.cells.toList.length))):=k5.set i p3;refine⟨_,_,k1,k2,⟨?_,.inr ⟨b',cc,_,by rw[c_],br _,hb,by rw[c_];exact h7,h8,?_,?_⟩⟩,by rw[c_];exact k4,hFa.mono (FY hgo.goes e),FX hFa⟩
      ·rw[hnew,ao,c_,C5];simp;omega
      ·rw[PM (by rw[hus',hsz];exact hcc)];exact h9
      ·rw[c_];exact hnew.symm
   ·cases h
 ·cases h
end
end Go.Sx
namespace Go.Sx
open Go.Mi Go.RowKit
variable [Dfr]
def sQ:D->Option (List Value)
 | .v x=>bif x.oneCell' then some [x]else none
 | .ar k n f=>some (cells k n f)
 |_=>none
def O9:List D->Option (List Value)
 |[]=>some []
 |d::ds=>match sQ d,O9 ds with
  |some a,some b=>some (a++b)
  |_,_=>none
abbrev Zt:=List (TypeId×List D)
def lkZ:Zt->TypeId->Option (List D)
 |[],_=>none
 |(s,v)::r,t=>bif Nat.beq s t then some v else lkZ r t
def XA (P:Program):Zt->Prop
 |[]=>True
 |(t,ds)::r=>(((P.info? t).bind (·.zero)).map (λz=>z.cells.toList)=O9 ds/\(O9 ds).isSome=true)/\XA P r
def R6 (place:Nat->Option (Nat×Nat)):List D->List (Nat×D)->Option (List D)
 |ss,[]=>some ss
 |ss,(i,d)::r=>match place i,nD d with
  |some (off,sz),some cs=>bif Nat.beq (T7 cs) sz then(UZ cs sz ss off).bind λq=>R6 place q r else none
  |_,_=>none
def Nr (L:DL):List (Nat×Operand)->Option (List (Nat×D))
 |[]=>some []
 |(i,x)::r=>match Fc L x,Nr L r with
  |some d,some ds=>some ((i,d)::ds)
  |_,_=>none
def fJ (P:Program) (t:TypeId):Option (Nat->Option (Nat×Nat)):=match P.underlying t with
 |some (.array _ e)=>(P.info? e).map λi=>λj=>some (j*i.size,i.size)
 |some (.struct fs)=>(fs.toList.mapM λf=>(P.info? f.type).map λi=>(f.offset,i.size)).map λpl=>λj=>pl.toArray[j]?
 |_=>none
def UH (e:List Fk) (m:Nat):Nat->List D->Option (List (RT e))
 |0,ss=>bif ss.isEmpty then some []else none
 |k+1,ss=>match(Jm ss 0 m).bind (z6 e),K7 ss m with
  |some r,some q=>(UH e m k q).map (r:: ·)
  |_,_=>none
def u4 (k:Nat) (ss:List D):List D:=(List.replicate k ss).flatten
section
variable {P:Program} {n:Nat} {L:DL} {ds:Option Nat} {ty:TypeId} {pos:String} {af:Array Edge} {gu:Option (Nat×Bool)} {g:G} {w:World} {X:Nat->Prop} {N:Nat->Option Value}
theorem LW:∀{ss:List D} {l:List Value},O9 ss=some l->DD X N w ss l/\∀u∈l,u.oneCell'=true
 |[],l,h=>by simp only[O9,Option.some.injEq]at h;subst h;exact⟨rfl,by simp⟩
 |d::ss,l,h=>by
  simp only[O9]at h;split at h
  ·rename_i a b h1 h2;cases h;obtain⟨k1,k2⟩:=LW h2;have k3:CS X N w d false a/\∀u∈a,u.oneCell'=true:=by
    unfold sQ at h1;split at h1
    ·rename_i x;cases hx:Value.oneCell' x with
     |false=>rw[hx]at h1;cases h1
     |true=>rw[hx]at h1;cases h1;exact⟨rfl,by simpa using hx⟩
    ·cases h1;refine⟨rfl,λu hu=> ?_⟩;simp only[cells,cr]at hu;obtain⟨_,_,rfl⟩:=hu;rfl
    ·cases h1
   exact⟨⟨a,b,rfl,k3.1,k1⟩,λu hu=>(bn.1 hu).elim (k3.2 u) (k2 u)⟩
  ·cases h
theorem Tg:∀{Z:Zt} {t:TypeId} {ss:List D},XA P Z->lkZ Z t=some ss->∃z,(P.info? t).bind (·.zero)=some z/\O9 ss=some z.cells.toList
 |[],t,ss,_,h=>by cases h
 |(s,v)::r,t,ss,hz,h=>by
  simp only[lkZ]at h;by_cases e:s=t
  ·subst e;simp at h;subst h;obtain⟨⟨h1,h2⟩,_⟩:=hz;obtain⟨q,hq⟩:=gk.1 h2;rw[hq]at h1;obtain⟨z,h3,h4⟩:=ak.1 h1;exact⟨z,h3,by rw[hq,<-h4]⟩
  ·rw[BL e]at h;exact Tg hz.2 h
theorem Vw (off:Nat):∀(vs:List Value) (j:Nat) (c:Array Value),off+j+vs.length<=c.size->(vs.zipIdx j).foldl (λ(cs:Array Value) (p:Value×Nat)=>cs.setIfInBounds (off+p.2) p.1) c=put c (off+j) vs
 |[],j,c,_=>by simp [put]
 |v::vs,j,c,h=>by
  simp only[aw]at h;rw[fv,gt,Vw off vs (j+1) _ (by simp;omega)];apply Array.ext';rw[C5,C5,Array.toList_setIfInBounds];have hlt:off+j<c.toList.length:=by simp;omega
  rw[List.set_eq_take_append_cons_drop,ab hlt];have e1:(c.toList.take (off+j)).length=off+j:=by rw[ao];omega
  rw[show off+(j+1)=off+j+1 by omega];have e2:(c.toList.take (off+j)++v::c.toList.drop (off+j+1)).take (off+j+1)=c.toList.take (off+j)++[v]:=by rw[ff,bp (by omega),e1,show off+j+1-(off+j)=1 by omega];simp
  have e3:(c.toList.take (off+j)++v::c.toList.drop (off+j+1)).drop (off+j+1+vs.length)=c.toList.drop (off+j+(v::vs).length):=by rw[fw,dm (by omega),e1,show off+j+1+vs.length-(off+j)=vs.length+1 by omega,iu,List.drop_drop,dx];congr 1;simp;omega
  rw[e2,e3];simp
theorem Qk {place : Nat -> Option (Nat × Nat)} : ∀ {ps : List (Nat × D)} {vs : List (Nat × Value)} {ss ss' : List D} {c : Array Value}, Fa2 (λ(p : Nat × D) (q : Nat × Value) => p.1 = q.1 /\ Sm g w p.2 q.2) ps vs -> DD g.X g.N w ss c.toList -> (∀ u ∈ c.toList, u.oneCell' = true) -> R6 place ss ps = some ss' ->
  ∃c',Instr.fill place c vs=some c'/\DD g.X g.N w ss' c'.toList/\(∀u∈c'.toList,u.oneCell'=true)/\c'.size=c.size
 |[],[],ss,ss',c,_,h1,h2,h=>by simp only[R6,Option.some.injEq]at h;subst h;exact⟨c,rfl,h1,h2,rfl⟩
 |(i,d)::ps,(j,v)::vs,ss,ss',c,hf,h1,h2,h=>by
  obtain⟨⟨rfl,hd⟩,hf⟩:=hf;simp only[R6]at h;split at h
  ·rename_i off sz cs hp hc;obtain⟨c1,c2⟩:=Pe hd hc;have hl:=Km c1;cases hb:Nat.beq (T7 cs) sz with
   |false=>rw[hb]at h;cases h
   |true=>
    rw[hb]at h;have hs:=aq hb;simp only[cond_true]at h;obtain⟨q,k1,k2⟩:=be.1 h;rw[<-hs,<-hl]at k1;obtain⟨p1,p2⟩:=Ml c1 h1 k1;have hlen:v.cells.toList.length=v.cells.size:=co;have hcl:c.toList.length=c.size:=co;have e1:(put c off v.cells.toList).toList=c.toList.take off++v.cells.toList++c.toList.drop (off+v.cells.toList.length):=C5 c off _;obtain⟨c',q1,q2,q3,q4⟩:=Qk (ss:=q) (c:=put c off v.cells.toList) hf (by rw[e1];exact p1) (λu hu=>by
     rw[e1]at hu;rcases bn.1 hu with hu|hu
     ·rcases bn.1 hu with hu|hu
      ·exact h2 u (cv hu)
      ·exact c2 u hu
     ·exact h2 u (cw hu)) k2
    refine⟨c',?_,q2,q3,by rw[q4,PM (by omega)]⟩;have hsz:v.cells.size=sz:=by rw[<-hlen,hl,hs]
    have hno:¬((decide (v.cells.size≠sz)||decide (off+v.cells.size>c.size))=true):=by simp;omega
    simp only[Instr.fill,hp];rw[aj hno];rw[<-q1];congr 1;rw[<-Array.foldl_toList,Array.toList_zipIdx];have :=Vw off v.cells.toList 0 c (by omega);simpa using this
  ·cases h
theorem Nq {ξ:Nat->Value} (hH:Hold L ξ g w):∀{ps:List (Nat×Operand)} {es:List (Nat×D)},Nr L ps=some es->∃vs:List (Nat×Value),(∀a nn,Frm a nn (LN L ξ)->ps.map (λp=>(p.1,a.eval p.2))=vs)/\Fa2 (λ(p:Nat×D) (q:Nat×Value)=>p.1=q.1/\Sm g w p.2 q.2) es vs
 |[],es,h=>by simp only[Nr,Option.some.injEq]at h;subst h;exact⟨[],λ_ _ _=>rfl,aa⟩
 |(i,x)::r,es,h=>by
  simp only[Nr]at h;split at h
  ·rename_i d es' h1 h2;cases h;obtain⟨v,k1,k2⟩:=Bh hH h1;obtain⟨vs,k3,k4⟩:=Nq hH h2;exact⟨(i,v)::vs,λa nn hF=>by rw[bg,k3 a nn hF,hF.eval k1],⟨rfl,k2⟩,k4⟩
  ·cases h
def TD (P:Program) (Z:Zt) (L:DL) (t:TypeId) (ps:List (Nat×Operand)):Option D:=match lkZ Z t,fJ P t,Nr L ps with
 |some zs,some pl,some ds=>(R6 pl zs ds).map mk1
 |_,_,_=>none
theorem WW {Z:Zt} {t:TypeId} {ps:Array (Nat×Operand)} {d:D} (hZ:XA P Z) (h:TD P Z L t ps.toList=some d):PureOk P n ⟨ds,.build t ps,ty,pos,af,gu⟩ L d []:=by
 intro _ ξ g w hH _;unfold TD at h;split at h
 ·rename_i zs pl es hz hp hps;obtain⟨ss,h1,rfl⟩:=ak.1 h;obtain⟨z,hz1,hz2⟩:=Tg hZ hz;obtain⟨v1,v2⟩:=LW (X:=g.X) (N:=g.N) (w:=w) hz2;obtain⟨vs,k1,k2⟩:=Nq hH hps;obtain⟨c',q1,q2,q3,q4⟩:=Qk k2 v1 v2 h1;refine⟨.agg c',?_,Det.of_run λa hF=> ?_⟩
  ·have :=Tb q2 q3;simpa using this
  ·have e1:(ps.map λp=>(p.1,a.eval p.2)).toList=vs:=by rw[iq];exact k1 a n hF
   obtain⟨it,hi,hzr⟩:=be.1 hz1;have hb:P.built t (ps.map λp=>(p.1,a.eval p.2)).toList=some c':=by
    rw[e1];unfold fJ at hp;unfold Program.built;split at hp
    ·rename_i len e hu;obtain⟨ie,h2,rfl⟩:=ak.1 hp;simp only[hi,hu,hzr,h2];exact q1
    ·rename_i fs hu;obtain⟨places,h2,rfl⟩:=ak.1 hp;simp only[hi,hu,hzr,h2];exact q1
    ·cases hp
   simp only[execOp,Sem.run_bind,run_build w t _ c' hb,Result.andThen_ok];rfl
 ·cases h
end
end Go.Sx
namespace Go.Sx
open Go.Mi Go.RowKit
variable [Dfr]
section
variable {P:Program} {n:Nat} {L:DL} {ds:Option Nat} {ty:TypeId} {pos:String} {af:Array Edge} {gu:Option (Nat×Bool)} {g:G} {w w':World} {H:Nat->Option O}
def G.more (g:G) (k:Nat) (v:Value) (F:List Nat) (X:Nat->Prop):G:=⟨λj=>bif Nat.beq k j then some v else g.N j,λj=>bif Nat.beq k j then F else g.F j,X⟩
theorem G.more_N {g:G} {k:Nat} {v:Value} {F:List Nat} {X:Nat->Prop}:(g.more k v F X).N k=some v:=by simp [G.more]
theorem G.more_F {g:G} {k:Nat} {v:Value} {F:List Nat} {X:Nat->Prop}:(g.more k v F X).F k=F:=by simp [G.more]
theorem Go.more {S:Nat->Prop} {k:Nat} {v:Value} {F:List Nat} {X:Nat->Prop} (hk:g.N k=none) (hch:Chp S w w') (hs:∀x,S x->g.X x) (hx:∀x,X x->g.X x\/w.heap.size<=x) (hx2:∀x,g.X x->¬S x->X x):Go S g w (g.more k v F X) w':=by
 refine⟨hch,hs,hx,hx2,λj u hj=> ?_,λj u hj=> ?_⟩
 ·have :¬k=j:=λe=>by subst e;rw[hk]at hj;cases hj
  simp only[G.more,BL this];exact hj
 ·have :¬k=j:=λe=>by subst e;rw[hk]at hj;cases hj
  simp only[G.more,BL this];rfl
theorem Post.quiet {rd:List Nat} {d:D} {v:Value} (hw:Wf g w) (hc:Chp (λ_=>False) w w') (h:Sm g w' d v):Post H ⟨rd,[],[],d⟩ g w v g w':=by
 have hf:∀x,¬Eff.foot ⟨rd,[],[],d⟩ H g x:=λx ⟨k,hk,_⟩=>by simp [Ax]at hk
 refine⟨⟨⟨hc.os,hc.tape,hc.output,hc.size,λb hb _=>hc.blk b hb id⟩,λx hx=>(hf x hx).elim,λx h=> .inl h,λx h _=>h,λ_ _ h=>h,λ_ _ _=>rfl⟩,h,⟨λx hx=>ca (hw x hx) hc.size,λk o h=>by simp [Eff.outs,A4,Fe]at h,λk o h=>by simp [Eff.outs,A4,Fe]at h,λk o k' o' h=>by simp [Eff.outs,A4,Fe]at h⟩,λk o h=>by simp [Eff.outs,A4,Fe]at h,λk v h=> .inl h⟩
theorem Post.new {rd : List Nat} {wr : Hp} {k : Nat} {o : O} {d : D} {v u : Value} {F : List Nat} (V : HS (Cj (rd ++ Ax wr) H) g w) (hk : g.N k = none) (hwr : ∀ p ∈ wr, p.2 = none) (hkw : k ∉ Ax wr) (hch : Chp (Eff.foot ⟨rd, wr, [(k, o)], d⟩ H g) w w')
  (hF:∀b∈F,(Eff.foot ⟨rd,wr,[(k,o)],d⟩ H g b\/w.heap.size<=b)/\b<w'.heap.size)
  (ho:∀g',Go (Eff.foot ⟨rd,wr,[(k,o)],d⟩ H g) g w g' w'->g'.N k=some u->g'.F k=F->OS g' w' k o/\Sm g' w' d v):∃g',Post H ⟨rd,wr,[(k,o)],d⟩ g w v g' w':=by
 have hfx:∀x,Eff.foot ⟨rd,wr,[(k,o)],d⟩ H g x->g.X x:=λx ⟨j,h1,q,h2,h3⟩=>V.own j q (by
  have :CN j (rd++Ax wr)=true:=A1.2 (cz _ h1);simp only[Cj,this];exact h2) x h3
 have hg:=Go.more (v:=u) (F:=F) (X:=λx=>(g.X x/\¬Eff.foot ⟨rd,wr,[(k,o)],d⟩ H g x)\/x∈F) hk hch hfx (λx hx=>by
  rcases hx with hx|hx
  ·exact .inl hx.1
  ·exact(hF x hx).1.imp (hfx x) id) (λx hx hn=> .inl ⟨hx,hn⟩)
 obtain⟨h1,h2⟩:=ho _ hg G.more_N G.more_F;have e1:∀j q,A4 (Eff.outs ⟨rd,wr,[(k,o)],d⟩) j=some q->j=k/\q=o:=λj q h=>by
  have h:=BS.1 h;simp only[Eff.outs,bg,fg]at h;rw[Kx]at h;cases hw:Fe wr j with
  |some q'=>
   rw[hw]at h;cases h;have key:∀(wr:Hp),(∀p∈wr,p.2=none)->Fe wr j≠some (some q):=by
    intro wr
    induction wr with
    |nil=>intro _ h;cases h
    |cons p wr ih=>
     intro hp h;obtain⟨s,p2⟩:=p;simp only[Fe]at h;by_cases e:s=j
     ·subst e;simp at h;have :=hp (s,p2) (bz ..);simp at this;rw[this]at h;cases h
     ·rw[BL e]at h;exact ih (λp hp'=>hp p (a_ _ hp')) h
   exact absurd hw (key wr hwr)
  |none=>
   rw[hw]at h;simp only[Fe]at h;by_cases e:k=j
   ·subst e;simp at h;exact⟨rfl,h.symm⟩
   ·rw[BL e]at h;cases h
 refine⟨_,hg,h2,⟨λx hx=> ?_,λj q h=> ?_,λj q h x hx=> ?_,λj q j' q' h h' hne=> ?_⟩,λj q h x hx=> ?_,λj u' h=> ?_⟩
 ·rcases hx with hx|hx
  ·exact ca (V.wf x hx.1) hch.size
  ·exact(hF x hx).2
 ·obtain⟨rfl,rfl⟩:=e1 j q h;exact h1
 ·obtain⟨rfl,rfl⟩:=e1 j q h;rw[G.more_F]at hx;exact .inr hx
 ·exact absurd ((e1 j q h).1.trans (e1 j' q' h').1.symm) hne
 ·obtain⟨rfl,rfl⟩:=e1 j q h;rw[G.more_F]at hx;exact(hF x hx).1
 ·by_cases e:k=j
  ·subst e;exact .inr (by simp [Ax])
  ·simp only[G.more,BL e]at h;exact .inl h
end
end Go.Sx
namespace Go.Sx
open Go.Mi Go.RowKit
variable [Dfr]
section
variable {P:Program} {n:Nat} {L:DL} {ds:Option Nat} {ty:TypeId} {pos:String} {af:Array Edge} {gu:Option (Nat×Bool)} {g:G} {w w':World} {H:Nat->Option O}
theorem NewB.at {b:Nat} {c:Array Value} {t:TypeId} (h:NewB w w' b c t):b=w.heap.size/\w'.heap[b]? =some (.cells c t (0,0))/\Chp (λ_=>False) w w'/\w'.heap.size=w.heap.size+1:=by obtain⟨rfl,rfl⟩:=h;have h1:(w.alloc (.cells c t)).heap=w.heap.push (.cells c t):=rfl;refine⟨rfl,by rw[h1];simp,⟨rfl,rfl,rfl,by rw[h1];simp,λb hb _=>by rw[h1,Array.getElem?_push_lt hb,Array.getElem?_eq_getElem hb]⟩,by rw[h1];simp⟩
theorem gC {k b:Nat} {c:Array Value} {t:TypeId} {ds':D} (V:HS (Cj [] H) g w) (hk:g.N k=none) (hn:NewB w w' b c t) (hs:CS g.X g.N w ds' false c.toList) (h1:∀u∈c.toList,u.oneCell'=true):∃g',Post H ⟨[],[],[(k,.ob t ds')],.cp k 0⟩ g w (vp b) g' w':=by obtain⟨e1,e2,e3,e4⟩:=NewB.at hn;refine Post.new (u:=vp b) (F:=[b]) (by simpa[Ax]using V) hk (by simp) (by simp [Ax]) ⟨e3.os,e3.tape,e3.output,e3.size,λx hx _=>e3.blk x hx id⟩ (λx hx=>by simp at hx;subst hx;exact⟨.inr (by omega),by omega⟩) λg' hg hN hF=>⟨⟨b,c,hN,hF,e2,GY hg.goes _ _ _ hs,h1⟩,⟨b,hN,rfl⟩⟩
def YQ (Z:Zt) (t:TypeId) (nb:Nat):Option Eff:=(lkZ Z t).map λzs=>⟨[],[],[(nb,.ob t (Ag zs))],.cp nb 0⟩
theorem WX {Z:Zt} {t:TypeId} {nb:Nat} {e:Eff} (hZ:XA P Z) (h:YQ Z t nb=some e):EOk P n ⟨ds,.alloc t,ty,pos,af,gu⟩ L H e:=by obtain⟨zs,hz,rfl⟩:=ak.1 h;intro ξ g w V hH hn;obtain⟨z,hz1,hz2⟩:=Tg hZ hz;obtain⟨v1,v2⟩:=LW (X:=g.X) (N:=g.N) (w:=w) hz2;refine(fX hz1).mono λv w' ⟨b,hv,hb⟩=> ?_;subst hv;exact gC V (hn (nb,_) (bo.2 rfl)) hb (FI.2 v1) v2
def tS (L:DL) (t:TypeId) (x:Operand) (nb:Nat):Option Eff:=((Fc L x).bind nD).map λcs=>⟨[],[],[(nb,.ob t (Ag cs))],.cp nb 0⟩
theorem jN {t:TypeId} {x:Operand} {nb:Nat} {e:Eff} (h:tS L t x nb=some e):EOk P n ⟨ds,.box t x,ty,pos,af,gu⟩ L H e:=by obtain⟨cs,hc,rfl⟩:=ak.1 h;obtain⟨d,h1,h2⟩:=be.1 hc;intro ξ g w V hH hn;obtain⟨u,hu,hus⟩:=Bh hH h1;obtain⟨c1,c2⟩:=Pe hus h2;refine(vZ hu).mono λv w' ⟨b,hv,hb⟩=> ?_;subst hv;exact gC V (hn (nb,_) (bo.2 rfl)) hb (FI.2 c1) c2
theorem UC {X:Nat->Prop} {N:Nat->Option Value} {ss:List D} {l:List Value} (h:DD X N w ss l):∀k,DD X N w (u4 k ss) (List.replicate k l).flatten
 |0=>rfl
 |k+1=>by simp only[u4,List.replicate_succ,bc];exact Jv.2 ⟨l,_,rfl,h,UC h k⟩
theorem UG {X:Nat->Prop} {N:Nat->Option Value} {e:List Fk} {m:Nat} (hm:0<m):∀{k:Nat} {ss:List D} {rows:List (RT e)} {l:List Value},DD X N w ss l->UH e m k ss=some rows->∃ls,l=ls.flatten/\Fa2 (rS X N w e) rows ls/\rows.length=k
 |0,ss,rows,l,h,hr=>by
  simp only[UH]at hr;cases ss with
  |nil=>cases hr;exact⟨[],h,aa,rfl⟩
  |cons d ss=>cases hr
 |k+1,ss,rows,l,h,hr=>by
  simp only[UH]at hr;split at hr
  ·rename_i r q h1 h2;obtain⟨rs,h3,rfl⟩:=ak.1 hr;obtain⟨es,h4,h5⟩:=be.1 h1;obtain⟨k1,k2⟩:=Ib h h4;obtain⟨k3,k4⟩:=Qq h h2;obtain⟨ls,k5,k6,k7⟩:=UG hm k3 h3;refine⟨l.take m::ls,?_,⟨by simpa using Wc k1 h5,k6⟩,by simp [k7]⟩;rw[bc,<-k5,dg]
  ·cases hr
abbrev Kt:=List (TypeId×List Fk)
def lkK:Kt->TypeId->Option (List Fk)
 |[],_=>none
 |(s,v)::r,t=>bif Nat.beq s t then some v else lkK r t
def LB (P:Program) (t:TypeId):Option TypeId:=match P.underlying t with
 |some (.slice e)=>some e
 |_=>none
def On (P:Program) (t:TypeId):Option Nat:=(P.info? t).map (·.size)
structure Bs where
 te:TypeId
 e:List Fk
 rows:List (RT e)
def aE (P:Program) (Z:Zt) (K:Kt) (L:DL) (t:TypeId) (len:Nat) (ps:List (Nat×Operand)):Option Bs:=match LB P t with
 |some te=>(match On P te,lkZ Z te,lkK K te,Nr L ps with
  | some m, some zs, some e, some qs => bif Nat.blt 0 m && Nat.ble (len * m) 16777216 && Nat.beq e.length m && Nat.beq (T7 zs) m then
    ((R6 (λi=>some (i*m,m)) (u4 len zs) qs).bind (UH e m len)).map λrows=>⟨te,e,rows⟩else none
  |_,_,_,_=>none)
 |none=>none
theorem QR {zs:List Value} {len m:Nat} (hz:zs.length=m):((Array.range (len*m)).map (λi=>zs.toArray[i%zs.toArray.size]!)).toList=(List.replicate len zs).flatten:=by
 subst hz;apply gi;intro i;by_cases hi:i<len*zs.length
 ·have h0 : 0 < zs.length := by
   rcases fc zs.length with h|h
   ·rw[h]at hi;simp at hi
   ·exact h
  have hmod:=di i h0;have hr:∀(len:Nat) (i:Nat),i<len*zs.length->((List.replicate len zs).flatten)[i]? =zs[i%zs.length]? :=by
   intro len
   induction len with
   |zero=>intro i hi;simp at hi
   |succ k ih=>
    intro i hi;rw[List.replicate_succ,bc,f_];split
    ·rename_i h;rw[Nat.mod_eq_of_lt h]
    ·rename_i h;rw[fb]at hi;rw[ih (i-zs.length) (by omega)];congr 1;exact(Nat.mod_eq_sub_mod (by omega)).symm
  rw[hr len i hi];simp [hi,hmod]
 ·have h1:((Array.range (len*zs.length)).map (λi=>zs.toArray[i%zs.toArray.size]!)).toList.length=len*zs.length:=by simp
  have h2:(List.replicate len zs).flatten.length=len*zs.length:=by simp
  rw[bf (by rw[h1];exact Nat.le_of_not_lt hi),bf (by rw[h2];exact Nat.le_of_not_lt hi)]
theorem YP {Z : Zt} {K : Kt} {t : TypeId} {len : Nat} {ps : Array (Nat × Operand)} {B : Bs} {ξ : Nat -> Value} (hZ : XA P Z) (h : aE P Z K L t len ps.toList = some B) (hH : Hold L ξ g w) :
  Ok1 P ⟨ds,.buildSlice t len ps,ty,pos,af,gu⟩ n (LN L ξ) w λv w'=>∃b c ls,v=vS b 0 len len/\NewB w w' b c B.te/\c.toList=ls.flatten/\Fa2 (rS g.X g.N w B.e) B.rows ls/\B.rows.length=len/\len<=maxLen:=by
 unfold aE at h;split at h
 ·rename_i te he;split at h
  ·rename_i m zs e qs hm hz hk hq;cases hc:Nat.blt 0 m&&Nat.ble (len*m) 16777216&&Nat.beq e.length m&&Nat.beq (T7 zs) m with
   |false=>rw[hc]at h;cases h
   |true=>
    rw[hc]at h;simp only[ap,ay]at hc;obtain⟨⟨⟨c1,c3⟩,c4⟩,c5⟩:=hc;have c3:=bq c3;have c5:=aq c5;obtain⟨rows,h1,rfl⟩:=ak.1 h;obtain⟨ss,h2,h3⟩:=be.1 h1;obtain⟨z,hz1,hz2⟩:=Tg hZ hz;obtain⟨v1,v2⟩:=LW (X:=g.X) (N:=g.N) (w:=w) hz2;obtain⟨vs,k1,k2⟩:=Nq hH hq;obtain⟨inf,hi,hzr⟩:=be.1 hz1;have hms:inf.size=m:=by unfold On at hm;rw[hi]at hm;simpa using hm
    have hu:P.underlying t=some (.slice te):=by
     unfold LB at he;split at he
     ·rename_i e' hu;cases he;exact hu
     ·cases he
    have hzl:z.cells.toList.length=m:=by rw[Km v1,c5]
    have e0:((Array.range (len*m)).map (z.cells[· %z.cells.size]!)).toList=(List.replicate len z.cells.toList).flatten:=by have :=QR (len:=len) hzl;simpa using this
    obtain⟨c',q1,q2,q3,q4⟩:=Qk (c:=(Array.range (len*m)).map (z.cells[· %z.cells.size]!)) k2 (by rw[e0];exact UC v1 len) (λu hu=>by
     rw[e0]at hu;obtain⟨l,hl,hu⟩:=ir.1 hu;rw[List.mem_replicate]at hl;rw[hl.2]at hu;exact v2 u hu) h2
    obtain⟨ls,p1,p2,p3⟩:=UG c1 q2 h3;have hd:Det P ⟨ds,.buildSlice t len ps,ty,pos,af,gu⟩ n (LN L ξ) w (vS w.heap.size 0 len len) (w.alloc (.cells c' te)):=Det.of_run λa hF=>by
     have e1:(ps.map λp=>(p.1,a.eval p.2)).toList=vs:=by rw[iq];exact k1 a n hF
     have h1':¬len*m>2^24:=by omega
     rcases fc len with hl0|c2
     ·subst hl0;have em:∀f:Nat->Value,Array.map f (Array.range 0)= #[]:=λf=>by simp
      have q1':=q1;rw[iw,em]at q1';simp only[execOp,Instr.buildSlice,Sem.run_bind,Aq hu,Result.andThen_ok,sizeOf,typeInfo,zeroValue];simp [hi,hms];simp only[iq]at e1;rw[e1,em,q1'];simp [newRow]
     have hp:=Nat.mul_pos c2 c1;have h0:¬len*m=0:=by omega
     simp only[execOp,Instr.buildSlice,Sem.run_bind,Aq hu,Result.andThen_ok,sizeOf,typeInfo,zeroValue];simp [hi,hms,hzr,h1',h0];simp only[iq]at e1;rw[e1,q1];simp [newRow]
    refine hd.mono λv w' ⟨r1,r2⟩=>⟨_,c',ls,r1,⟨rfl,r2⟩,p1,p2,p3,?_⟩;have :len<=len*m:=Nat.le_mul_of_pos_right len c1;simp only[maxLen];omega
  ·cases h
 ·cases h
def tR (B:Bs):Eff:=⟨[],[],[],.ls true B.e B.rows⟩
def tQ (B:Bs) (nb:Nat):Eff:=⟨[],[],[(nb,.sl B.te B.e B.rows)],.sk nb⟩
theorem jM {Z:Zt} {K:Kt} {t:TypeId} {len:Nat} {ps:Array (Nat×Operand)} {B:Bs} (hZ:XA P Z) (h:aE P Z K L t len ps.toList=some B) (hm:On P B.te=some B.e.length):EOk P n ⟨ds,.buildSlice t len ps,ty,pos,af,gu⟩ L H (tR B):=by
 intro ξ g w V hH hn;refine(YP hZ h hH).mono λv w' ⟨b,c,ls,hv,hb,h1,h2,h3,h4⟩=>⟨g,?_⟩;subst hv;obtain⟨e1,e2,e3,e4⟩:=NewB.at hb;refine Post.quiet V.wf e3 ⟨_,ls,rfl,⟨by rw[h3];exact h4,?_,.inr ⟨b,0,len,by rw[h3],by rw[h3];exact an _,h4,λhx=> ?_,by omega,?_⟩⟩,h2.mono λx l hr=> ?_⟩
 ·have :=h2.row;have hl:ls.length=B.rows.length:=h2.len.symm;rw[<-hl];clear h2 h1 hl
  induction ls with
  |nil=>simp
  |cons l ls ih=>
   rw[bc,ah,aw,fb,ih λl hl=>this l (a_ _ hl),this l (bz ..)];omega
 ·have :=V.wf b hx;omega
 ·rw[<-h1];exact At.of_blk e2
 ·exact FY (S:=λ_=>False) ⟨e3,λ_ h=>h.elim,λ_ h=> .inl h,λ_ _ h=>h⟩ _ _ _ hr
theorem Dj {α:Type} {m:Nat}:∀{ls:List (List α)},(∀l∈ls,l.length=m)->ls.flatten.length=ls.length*m
 |[],_=>by simp
 |l::ls,h=>by rw[bc,ah,aw,fb,Dj λl hl=>h l (a_ _ hl),h l (bz ..)];omega
theorem f8 {k b c te : Nat} {wr : Hp} {rd : List Nat} {cc : Array Value} {e : List Fk} {rows : List (RT e)} {ls : List (List Value)} (V : HS (Cj rd H) g w) (hk : g.N k = none) (hn : NewB w w' b cc te) (h1 : cc.toList = ls.flatten) (h2 : Fa2 (rS g.X g.N w e) rows ls) (hm : rows.length <= maxLen) :
  ∃g',Post H ⟨rd,[],[(k,.sl te e rows)],.sk k⟩ g w (vS b 0 rows.length rows.length) g' w':=by
 obtain⟨e1,e2,e3,e4⟩:=NewB.at hn;have hlen:cc.toList.length=rows.length*e.length:=by rw[h1,Dj h2.row,h2.len]
 have hsz:cc.size=rows.length*e.length:=hlen;refine Post.new (u:=vS b 0 rows.length rows.length) (F:=[b]) (by simpa[Ax]using V) hk (by simp) (by simp [Ax]) ⟨e3.os,e3.tape,e3.output,e3.size,λx hx _=>e3.blk x hx id⟩ (λx hx=>by simp at hx;subst hx;exact⟨.inr (by omega),by omega⟩) λg' hg hN hF=>⟨⟨_,ls,hN,hF,⟨by rw[<-h1];exact hlen,.inr ⟨b,rows.length,cc,rfl,br _,e2,an _,hm,hsz,by rw[<-hlen,e_,h1]⟩⟩,hm,h2.mono (FY hg.goes e),FX h2⟩,⟨_,hN,rfl,rfl⟩⟩
theorem jL {Z:Zt} {K:Kt} {t:TypeId} {len:Nat} {ps:Array (Nat×Operand)} {B:Bs} {nb:Nat} (hZ:XA P Z) (h:aE P Z K L t len ps.toList=some B):EOk P n ⟨ds,.buildSlice t len ps,ty,pos,af,gu⟩ L H (tQ B nb):=by intro ξ g w V hH hn;refine(YP hZ h hH).mono λv w' ⟨b,c,ls,hv,hb,h1,h2,h3,h4⟩=> ?_;subst hv;have hS':HS (Cj [] H) g w:=V;have :=f8 (k:=nb) (rd:=[]) (c:=0) (wr:=[]) hS' (hn (nb,_) (bo.2 rfl)) hb h1 h2 (by rw[h3];exact h4);rw[h3]at this;exact this
def TC (P:Program) (K:Kt) (L:DL) (t:TypeId) (x y:Operand) (nb:Nat):Option (Eff×List Prop):=match LB P t,Fc L x,Fc L y with
 |some te,some (.v (.int .i64 i)),some (.v (.int .i64 j))=>(match P.info? te,lkK K te with
  |some inf,some [a]=>(match inf.zero with
   |some z=>bif Nat.beq inf.size 1&&z.oneCell' then(cN a (.v z)).map λq=>(⟨[],[],[(nb,.sl te [a] (List.replicate i.toNat q))],.sk nb⟩,[i=j,0<=i,inf.bytes*i.toNat<=281474976710656,i<=9223372036854775807])else none
   |none=>none)
  |_,_=>none)
 |_,_,_=>none
theorem Hr {t te:TypeId} (h:LB P t=some te):P.underlying t=some (.slice te):=by
 unfold LB at h;split at h
 ·rename_i e' hu;cases h;exact hu
 ·cases h
theorem qM {K:Kt} {t:TypeId} {x y:Operand} {nb:Nat} {e:Eff} {ps:List Prop} (h:TC P K L t x y nb=some (e,ps)) (hp:AllP ps) (hxy:y=x):EOk P n ⟨ds,.makeSlice t x y,ty,pos,af,gu⟩ L H e:=by
 subst hxy;unfold TC at h;split at h
 ·rename_i te i j he hx hy;split at h
  ·rename_i inf a hi hk;split at h
   ·rename_i z hz;cases hb:Nat.beq inf.size 1&&z.oneCell' with
    |false=>rw[hb]at h;cases h
    |true=>
     rw[hb]at h;rw[ap]at hb;have hs1:=aq hb.1;simp only[cond_true]at h;obtain⟨q,hq,h2⟩:=ak.1 h;simp only[Prod.mk.injEq]at h2;obtain⟨rfl,rfl⟩:=h2;obtain⟨_,p2,p3,p4,_⟩:=hp;intro ξ g w V hH hn;have hS':HS (Cj [] H) g w:=V;obtain⟨m,rfl⟩:=cb p2;have hm:m<2^63:=by omega
     simp only[bh]at p3;refine(oY (m:=m) (bytes:=inf.bytes) (z:=z) (Hr he) (by rw[hi,ew,hs1,hz]) (B2 hH hx) hb.2 (by omega) hm).mono λv w' ⟨b,hv,hbn⟩=> ?_;subst hv;have hf:fS g.X g.N w a q z:=(Ld (X:=g.X) (N:=g.N) (w:=w) (m:=true) (v:=z) (d:= .v z) (show[z]=[z]from rfl) hq).1;have hfl:∀k:Nat,Fa2 (rS g.X g.N w [a]) (List.replicate k q) (List.replicate k [z]):=by
      intro k
      induction k with
      |zero=>trivial
      |succ k ih=>exact⟨⟨z,rfl,hf⟩,ih⟩
     have hfl2:∀k:Nat,((Array.range k).map λ_=>z).toList=(List.replicate k [z]).flatten:=by intro k;simp [List.map_const']
     have hl:(List.replicate m q).length=m:=by simp
     have :=f8 (k:=nb) (rd:=[]) (c:=0) (wr:=[]) (te:=te) (e:=[a]) (rows:=List.replicate m q) hS' (hn (nb,_) (bo.2 rfl)) hbn (hfl2 m) (hfl m) (by simp only[az,maxLen];omega);rw[az]at this;exact this
   ·cases h
  ·cases h
 ·cases h
end
end Go.Sx
namespace Go.Sx
open Go.Mi Go.RowKit
variable [Dfr]
inductive Src (g:G) (w:World) (e:List Fk) (xs:List (RT e)) (v:Value):Prop where
 |nil (h1:v=vN\/∃a c,v= .slice (some a) 0 c) (h2:xs=[])
 |at(b o c:Nat) (ls:List (List Value)) (h1:v=vS b o xs.length c) (h2:At w b o ls.flatten) (h3:Fa2 (rS g.X g.N w e) xs ls)
structure Sx where
 e:List Fk
 xs:List (RT e)
 rd:List Nat
def dI (H:Hp):D->Option Sx
 | .ls _ e xs=>some ⟨e,xs,[]⟩
 | .sk k=>(match A4 H k with
  |some (.sl _ e xs)=>some ⟨e,xs,[k]⟩
  |_=>none)
 |_=>none
section
variable {P:Program} {n:Nat} {L:DL} {ds:Option Nat} {ty:TypeId} {pos:String} {af:Array Edge} {gu:Option (Nat×Bool)} {g:G} {w w':World} {H:Hp}
theorem Ol {d:D} {s:Sx} {v:Value} (hos:∀k o,k∈s.rd->A4 H k=some o->OS g w k o) (h:dI H d=some s) (hd:Sm g w d v):Src g w s.e s.xs v:=by
 unfold dI at h;split at h
 ·rename_i nn e xs;cases h;obtain⟨u,ls,h1,h2,h3⟩:=hd;cases(List.cons.inj h1).1;rcases h2.shape with⟨rfl,h4,_⟩|⟨b,o,c,rfl,_,h4⟩|⟨h4,h5⟩
  ·exact .nil (.inl rfl) (bm h4)
  ·exact .at b o c ls rfl h4 h3
  ·exact .nil (.inr h5) (bm h4)
 ·rename_i k;split at h
  ·rename_i te e xs hk;cases h;obtain⟨u,h1,h2,_⟩:=hd;cases(List.cons.inj h2).1;obtain⟨v',ls,k1,k2,k3,k4,k5,k6⟩:=hos k _ (by simp) hk;rw[k1]at h1;cases h1;rcases k3.at with⟨rfl,h4,_⟩|⟨b,cap,rfl,_,h4⟩
   ·exact .nil (.inl rfl) (bm h4)
   ·exact .at b 0 cap ls rfl h4 k5
  ·cases h
 ·cases h
theorem v5 {s x : Operand} {t te : TypeId} {inf : TypeInfo} {z v u : Value} {e : List Fk} {xs ys : List (RT e)} {ls : List (List Value)} {Lv : List (Nat × Value)} (ht : P.underlying t = some (.slice te)) (hi : P.info? te = some inf) (hz : inf.zero = some z) (hm : inf.size = e.length) (hzs : z.cells.size = e.length) (hm0 : 0 < e.length)
    (hs:ev Lv s=some v) (hx:ev Lv x=some u) (hown:Own w 0 te e.length v xs.length ls.flatten) (hF:Fa2 (rS g.X g.N w e) xs ls) (hu:Src g w e ys u) (h63:xs.length+ys.length<=maxLen) (hby:(xs.length+ys.length)*inf.bytes<=140737488355328):
    Ok1 P ⟨ds,.call ⟨.builtin .append,#[s,x],#[t,t]⟩,ty,pos,af,gu⟩ n Lv w λv' w'=>∃ms,Own w' 0 te e.length v' (xs++ys).length ms.flatten/\Fa2 (rS g.X g.N w e) (xs++ys) ms/\Ch (C8 v) w w'/\(C8 v'=C8 v\/C8 v'=[w.heap.size]):=by
  cases hu with
  | nil h1 h2 =>
    subst h2;have hd : Det P ⟨ds, .call ⟨.builtin .append, #[s, x], #[t, t]⟩, ty, pos, af, gu⟩ n Lv w v w := Det.of_run λa hF => by
      have hr:(Builtin.append_ #[t,t] ty #[v,u]).run P w= .ok v w:=by
       rcases h1 with rfl|⟨a0,c0,rfl⟩
       · rcases hown.2 with ⟨rfl, h0⟩ | ⟨b, cap, cur, rfl, _, hb, hc, hc2, hcs, hct⟩
         · simp [Builtin.append_,Aq ht,sizeOf,typeInfo,hi,Builtin.lenOf,Builtin.firstCells]
         · have h5 : (storeCells ((⟨b, 0, none⟩ : Addr).add (xs.length * inf.size)) []).run P w = .ok () w := rfl
           simp [Builtin.append_,Aq ht,sizeOf,typeInfo,hi,Builtin.lenOf,Builtin.firstCells,hc,h5]
       · have hl0 := run_loadCells_list (P := P) w a0 [] (by simp)
         simp only[av]at hl0;rcases hown.2 with⟨rfl,h0⟩|⟨b,cap,cur,rfl,_,hb,hc,hc2,hcs,hct⟩
         · simp [Builtin.append_,Aq ht,sizeOf,typeInfo,hi,Builtin.lenOf,Builtin.firstCells,hl0]
         · have h5 : (storeCells ((⟨b, 0, none⟩ : Addr).add (xs.length * inf.size)) []).run P w = .ok () w := rfl
           simp [Builtin.append_,Aq ht,sizeOf,typeInfo,hi,Builtin.lenOf,Builtin.firstCells,hc,h5,hl0]
      simp [execOp,hF.eval hs,hF.eval hx,resolve,invoke,builtin,hr]
    refine hd.mono λv' w' ⟨e1,e2⟩=> ?_;subst e1;subst e2;exact⟨ls,by simpa using hown,by simpa using hF,Ch.refl _ _,.inl rfl⟩
  | «at» b o c ms h1 h2 h3 =>
    subst h1;have hml:ms.flatten.length=ys.length*e.length:=by rw[Dj h3.row,h3.len]
    refine(ZR ht hi hz hm rfl hzs hm0 hs hx hown hml h2 (FX h3) h63 hby (br _)).mono λv' w' ⟨k1,k2,k3⟩=>⟨ls++ms,?_,hF.append h3,k2,k3⟩;rw[ah,de];exact k1
structure Ap where
 te:TypeId
 e:List Fk
 xs:List (RT e)
 ys:List (RT e)
 wr:Hp
 rd:List Nat
def Se (a b:List Fk) (xs:List (RT a)):Option (List (RT b)):=if h:a=b then some (h▸xs)else none
def V_ (inf:TypeInfo) (m:Nat):Bool:=match inf.zero with
 |some z=>Nat.beq z.cells.size m
 |none=>false
def qW (P:Program) (K:Kt) (L:DL) (H:Hp) (t:TypeId) (s x:Operand):Option Ap:=match LB P t,Fc L s with
 |some te,some (.v (.slice none 0 0))=>(match lkK K te,(Fc L x).bind (dI H)with
  |some e,some q=>(Se q.e e q.xs).map λys=>⟨te,e,[],ys,[],q.rd⟩
  |_,_=>none)
 |some te,some (.sk k)=>(match A4 H k,Fc L x with
  |some (.sl te' e xs),some (.v (.slice none 0 0))=>bif Nat.beq te te' then some ⟨te,e,xs,[],[(k,none)],[]⟩else none
  |some (.sl te' e xs),some d=>(match dI H d with
   |some q=>bif Nat.beq te te'&& !(CN k q.rd)then(Se q.e e q.xs).map λys=>⟨te,e,xs,ys,[(k,none)],q.rd⟩else none
   |none=>none)
  |_,_=>none)
 |_,_=>none
def jR (P:Program) (A:Ap) (nb:Nat):Option (Eff×List Prop):=match P.info? A.te with
 |some inf=>bif Nat.beq inf.size A.e.length&&V_ inf A.e.length&&Nat.blt 0 A.e.length then some (⟨A.rd,A.wr,[(nb,.sl A.te A.e (A.xs++A.ys))],.sk nb⟩,[A.xs.length+A.ys.length<=9223372036854775807,(A.xs.length+A.ys.length)*inf.bytes<=140737488355328])else none
 |none=>none
theorem kP {a b:List Fk} {xs:List (RT a)} {ys:List (RT b)} (h:Se a b xs=some ys):∃e:a=b,ys=e▸xs:=by
 unfold Se at h;split at h
 ·rename_i e;simp only[Option.some.injEq]at h;exact⟨e,h.symm⟩
 ·cases h
theorem Src.cast {a b:List Fk} {xs:List (RT a)} {ys:List (RT b)} {v:Value} (h:Src g w a xs v) (hc:Se a b xs=some ys):Src g w b ys v:=by obtain⟨rfl,rfl⟩:=kP hc;exact h
structure Acd (H:Hp) (g:G) (w:World) (A:Ap) (v u:Value):Prop where
 own:∃ls,Own w 0 A.te A.e.length v A.xs.length ls.flatten/\Fa2 (rS g.X g.N w A.e) A.xs ls
 src:Src g w A.e A.ys u
 wr:(A.wr=[]/\C8 v=[])\/∃k o,A.wr=[(k,none)]/\A4 H k=some o/\g.F k=C8 v
theorem qV {K:Kt} {t:TypeId} {s x:Operand} {A:Ap} {ξ:Nat->Value} (h:qW P K L H t s x=some A) (V:HS (Cj (A.rd++Ax A.wr) (A4 H)) g w) (hH:Hold L ξ g w):P.underlying t=some (.slice A.te)/\∃v u,ev (LN L ξ) s=some v/\ev (LN L ξ) x=some u/\Acd H g w A v u:=by
 have obj:∀k o,k∈A.rd++Ax A.wr->A4 H k=some o->OS g w k o:=λk o hk ho=>V.os k o (by simp only[Cj,A1.2 hk];exact ho);unfold qW at h;split at h
 ·rename_i te he hs;split at h
  ·rename_i e q hk hx;obtain⟨ys,hc,rfl⟩:=ak.1 h;obtain⟨d,hx1,hx2⟩:=be.1 hx;obtain⟨u,hu,hus⟩:=Bh hH hx1;have hsr:=Ol (λk o hk ho=>obj k o (eu _ hk) ho) hx2 hus;exact⟨Hr he,vN,u,B2 hH hs,hu,⟨[],⟨by simp,.inl ⟨rfl,rfl⟩⟩,aa⟩,hsr.cast hc,.inl ⟨rfl,rfl⟩⟩
  ·cases h
 ·rename_i te k he hs;obtain⟨v,hv,v',h1,h2,_⟩:=Bh hH hs;cases(List.cons.inj h2).1;split at h
  ·rename_i te' e xs hk hx;cases hb:Nat.beq te te' with
   |false=>rw[hb]at h;cases h
   |true=>
    rw[hb]at h;have :=aq hb;subst this;cases h;obtain⟨v2,ls,k1,k2,k3,k4,k5,k6⟩:=obj k _ (by simp [Ax]) hk;rw[h1]at k1;cases k1;exact⟨Hr he,v,vN,hv,B2 hH hx,⟨ls,k3,k5⟩,.nil (.inl rfl) rfl,.inr ⟨k,_,rfl,hk,k2⟩⟩
  ·rename_i te' e xs d _ hk hx;split at h
   ·rename_i q hq;cases hb:Nat.beq te te'&& !(CN k q.rd)with
    |false=>rw[hb]at h;cases h
    |true=>
     rw[hb]at h;rw[ap]at hb;have :=aq hb.1;subst this;obtain⟨ys,hc,rfl⟩:=ak.1 h;obtain⟨u,hu,hus⟩:=Bh hH hx;have hsr:=Ol (λk o hk ho=>obj k o (eu _ hk) ho) hq hus;obtain⟨v2,ls,k1,k2,k3,k4,k5,k6⟩:=obj k _ (by simp [Ax]) hk;rw[h1]at k1;cases k1;exact⟨Hr he,v,u,hv,hu,⟨ls,k3,k5⟩,hsr.cast hc,.inr ⟨k,_,rfl,hk,k2⟩⟩
   ·cases h
  ·cases h
 ·cases h
theorem jQ {K:Kt} {t:TypeId} {s x:Operand} {A:Ap} {nb:Nat} {e:Eff} {ps:List Prop} (h:qW P K L H t s x=some A) (h2:jR P A nb=some (e,ps)) (hp:AllP ps):EOk P n ⟨ds,.call ⟨.builtin .append,#[s,x],#[t,t]⟩,ty,pos,af,gu⟩ L (A4 H) e:=by
 unfold jR at h2;split at h2
 ·rename_i inf hi;cases hb:Nat.beq inf.size A.e.length&&V_ inf A.e.length&&Nat.blt 0 A.e.length with
  |false=>rw[hb]at h2;cases h2
  |true=>
   rw[hb]at h2;simp only[ap,ay]at hb;obtain⟨⟨b1,b2⟩,b3⟩:=hb;have b1:=aq b1;simp only[cond_true,Option.some.injEq,Prod.mk.injEq]at h2;obtain⟨rfl,rfl⟩:=h2;obtain⟨p1,p2,_⟩:=hp;unfold V_ at b2;split at b2
   ·rename_i z hz;have b2:=aq b2;intro ξ g w V hH hn;have hS':HS (Cj (A.rd++Ax A.wr) (A4 H)) g w:=V;obtain⟨hu,v,u,hv,hu2,hA⟩:=qV h hS' hH;obtain⟨ls,o1,o2⟩:=hA.own;refine(v5 hu hi hz b1 b2 b3 hv hu2 o1 o2 hA.src (by simp only[maxLen];omega) p2).mono λv' w' ⟨ms,q1,q2,q3,q4⟩=> ?_;have hft:∀b∈C8 v,Eff.foot ⟨A.rd,A.wr,[(nb,.sl A.te A.e (A.xs++A.ys))],.sk nb⟩ (A4 H) g b:=λb hb=>by
     rcases hA.wr with⟨_,h0⟩|⟨k,o,h1,h2,h3⟩
     ·rw[h0]at hb;simp at hb
     ·exact⟨k,by simp [h1,Ax],o,h2,by rw[h3];exact hb⟩
    have hkw:nb∉Ax A.wr:=λhk=>by
     rcases hA.wr with⟨h0,_⟩|⟨k,o,h1,h2,h3⟩
     ·rw[h0]at hk;simp [Ax]at hk
     ·rw[h1]at hk;simp only[Ax,bg,fg,bo]at hk;subst hk;have hos:OS g w nb o:=hS'.os nb o (by simp only[Cj,A1.2 (show nb∈A.rd++Ax A.wr by simp [h1,Ax])];exact h2);have hN:g.N nb=none:=hn (nb,_) (bo.2 rfl);cases o with
      |ob ty ds=>obtain⟨b,c,k1,_⟩:=hos;rw[hN]at k1;cases k1
      |sl ty e xs=>obtain⟨b,c,k1,_⟩:=hos;rw[hN]at k1;cases k1
    refine Post.new (u:=v') (F:=C8 v') hS' (hn (nb,_) (bo.2 rfl)) (λp hp=> ?_) hkw ⟨q3.os,q3.tape,q3.output,q3.size,λb hb hnf=>q3.blk b hb λhm=>hnf (hft b hm)⟩ (λb hb=>⟨?_,(q1.lt b hb).2⟩) λg' hg hN hF=>⟨⟨v',ms,hN,hF,q1,?_,q2.mono (FY hg.goes A.e),FX q2⟩,⟨v',hN,rfl,?_⟩⟩
    ·rcases hA.wr with⟨h0,_⟩|⟨k,o,h1,_⟩
     ·rw[h0]at hp;simp at hp
     ·rw[h1]at hp;simp at hp;rw[hp]
    ·rcases q4 with q4|q4
     ·rw[q4]at hb;exact .inl (hft b hb)
     ·rw[q4]at hb;simp at hb;exact .inr (by omega)
    ·simp only[maxLen,ah];omega
    ·rcases q1.at with⟨rfl,_⟩|⟨b,cap,rfl,_⟩<;>rfl
   ·cases b2
 ·cases h2
end
end Go.Sx
