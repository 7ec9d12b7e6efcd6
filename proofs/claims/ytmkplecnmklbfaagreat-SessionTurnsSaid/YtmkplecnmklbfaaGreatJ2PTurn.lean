/- General lemmas, walks. -/
import Derived.Lib.AppendZerosOnto
import Derived.Laws.CopyRow
import Derived.Lib.ConvBytes
import GoSem.Claim
import Derived.WideShapes
import Derived.Below
import Derived.WalkSmall
import Derived.Recover
import Derived.Test.YtmkplecnmklbfaaGreatJ1PTurn
set_option maxRecDepth 100000
set_option maxHeartbeats 1000000
set_option linter.unusedSimpArgs false
set_option linter.unusedVariables false
set_option linter.unnecessarySimpa false
set_option linter.unusedSectionVars false
namespace Go.Sx
open Go.Mi Go.RowKit
variable [Dfr]
section
variable {P:Program} {n:Nat} {L:DL} {ds:Option Nat} {ty:TypeId} {pos:String} {af:Array Edge} {gu:Option (Nat×Bool)} {g:G} {w w':World} {H:Nat→Option O}
theorem NewB.at {b:Nat} {c:Array Value} {t:TypeId} (h:NewB w w' b c t):b=w.heap.size∧w'.heap[b]? =some (.cells c t (0,0))∧Chp (fun _=>False) w w'∧w'.heap.size=w.heap.size+1:=by
 obtain⟨rfl,rfl⟩:=h
 have h1:(w.alloc (.cells c t)).heap=w.heap.push (.cells c t):=rfl
 refine⟨rfl,by rw[h1];simp,⟨rfl,rfl,rfl,by rw[h1];simp,fun b hb _=>by rw[h1,Array.getElem?_push_lt hb,Array.getElem?_eq_getElem hb]⟩,by rw[h1];simp⟩
theorem mS {k b:Nat} {c:Array Value} {t:TypeId} {ds':D} (hS:HS (BF [] H) g w) (hk:g.N k=none) (hn:NewB w w' b c t) (hs:B4 g.X g.N w ds' false c.toList) (h1:∀u∈c.toList,u.oneCell'=true):∃g',Post H ⟨[],[],[(k,.ob t ds')],.cp k 0⟩ g w (vp b) g' w':=by
 obtain⟨e1,e2,e3,e4⟩:=NewB.at hn
 refine Post.new (u:=vp b) (F:=[b]) (by simpa[An]using hS) hk (by simp) (by simp [An]) ⟨e3.os,e3.tape,e3.output,e3.size,fun x hx _=>e3.blk x hx id⟩ (fun x hx=>by simp at hx;subst hx;exact⟨.inr (by omega),by omega⟩) fun g' hg hN hF=>⟨⟨b,c,hN,hF,e2,FM hg.goes _ _ _ hs,h1⟩,⟨b,hN,rfl⟩⟩
def bA (Z:Zt) (t:TypeId) (nb:Nat):Option Eff:=(lkZ Z t).map fun zs=>⟨[],[],[(nb,.ob t (chain zs))],.cp nb 0⟩
theorem YE {Z:Zt} {t:TypeId} {nb:Nat} {e:Eff} (hZ:b9 P Z) (h:bA Z t nb=some e):EOk P n ⟨ds,.alloc t,ty,pos,af,gu⟩ L H e:=by
 obtain⟨zs,hz,rfl⟩:=Option.map_eq_some_iff.1 h
 intro ξ g w hS hH hn
 obtain⟨z,hz1,hz2⟩:=Um hZ hz
 obtain⟨v1,v2⟩:=Lj (X:=g.X) (N:=g.N) (w:=w) hz2
 refine(mK hz1).mono fun v w' ⟨b,hv,hb⟩=> ?_
 subst hv
 exact mS hS (hn (nb,_) (List.mem_singleton.2 rfl)) hb (EC.2 v1) v2
def Aa0 (L:DL) (t:TypeId) (x:Operand) (nb:Nat):Option Eff:=((Eb L x).bind tZ).map fun cs=>⟨[],[],[(nb,.ob t (chain cs))],.cp nb 0⟩
theorem oX {t:TypeId} {x:Operand} {nb:Nat} {e:Eff} (h:Aa0 L t x nb=some e):EOk P n ⟨ds,.box t x,ty,pos,af,gu⟩ L H e:=by
 obtain⟨cs,hc,rfl⟩:=Option.map_eq_some_iff.1 h
 obtain⟨d,h1,h2⟩:=Option.bind_eq_some_iff.1 hc
 intro ξ g w hS hH hn
 obtain⟨u,hu,hus⟩:=A4 hH h1
 obtain⟨c1,c2⟩:=O9 hus h2
 refine(AbS hu).mono fun v w' ⟨b,hv,hb⟩=> ?_
 subst hv
 exact mS hS (hn (nb,_) (List.mem_singleton.2 rfl)) hb (EC.2 c1) c2
theorem VJ {X:Nat→Prop} {N:Nat→Option Value} {ss:List D} {l:List Value} (h:CI X N w ss l):∀k,CI X N w (Abu k ss) (List.replicate k l).flatten
 |0=>rfl
 |k+1=>by
  simp only[Abu,List.replicate_succ,List.flatten_cons]
  exact II.2 ⟨l,_,rfl,h,VJ h k⟩
theorem VN {X:Nat→Prop} {N:Nat→Option Value} {e:List Fk} {m:Nat} (hm:0<m):∀{k:Nat} {ss:List D} {rows:List (RT e)} {l:List Value},CI X N w ss l→VO e m k ss=some rows→∃ls,l=ls.flatten∧Fa2 (rS X N w e) rows ls∧rows.length=k
 |0,ss,rows,l,h,hr=>by
  simp only[VO]at hr
  cases ss with
  |nil=>cases hr;exact⟨[],h,trivial,rfl⟩
  |cons d ss=>cases hr
 |k+1,ss,rows,l,h,hr=>by
  simp only[VO]at hr
  split at hr
  ·rename_i r q h1 h2
   obtain⟨rs,h3,rfl⟩:=Option.map_eq_some_iff.1 hr
   obtain⟨es,h4,h5⟩:=Option.bind_eq_some_iff.1 h1
   obtain⟨k1,k2⟩:=GR h h4
   obtain⟨k3,k4⟩:=QO h h2
   obtain⟨ls,k5,k6,k7⟩:=VN hm k3 h3
   refine⟨l.take m::ls,?_,⟨by simpa using XO k1 h5,k6⟩,by simp [k7]⟩
   rw[List.flatten_cons,←k5,List.take_append_drop]
  ·cases hr
abbrev Kt:=List (TypeId×List Fk)
def lkK:Kt→TypeId→Option (List Fk)
 |[],_=>none
 |(s,v)::r,t=>bif Nat.beq s t then some v else lkK r t
def K4 (P:Program) (t:TypeId):Option TypeId:=match P.underlying t with
 |some (.slice e)=>some e
 |_=>none
def N_ (P:Program) (t:TypeId):Option Nat:=(P.info? t).map (·.size)
structure Bs where
 te:TypeId
 e:List Fk
 rows:List (RT e)
def eN (P:Program) (Z:Zt) (K:Kt) (L:DL) (t:TypeId) (len:Nat) (ps:List (Nat×Operand)):Option Bs:=match K4 P t with
 |some te=>(match N_ P te,lkZ Z te,lkK K te,Ni L ps with
  | some m, some zs, some e, some qs => bif Nat.blt 0 m && Nat.ble (len * m) 16777216 && Nat.beq e.length m && Nat.beq (Vb zs) m then
    ((SK (fun i=>some (i*m,m)) (Abu len zs) qs).bind (VO e m len)).map fun rows=>⟨te,e,rows⟩else none
  |_,_,_,_=>none)
 |none=>none
theorem Ro {zs:List Value} {len m:Nat} (hz:zs.length=m):((Array.range (len*m)).map (fun i=>zs.toArray[i%zs.toArray.size]!)).toList=(List.replicate len zs).flatten:=by
 subst hz
 apply List.ext_getElem?
 intro i
 by_cases hi:i<len*zs.length
 ·have h0 : 0 < zs.length := by
   rcases Nat.eq_zero_or_pos zs.length with h|h
   ·rw[h]at hi;simp at hi
   ·exact h
  have hmod:=Nat.mod_lt i h0
  have hr:∀(len:Nat) (i:Nat),i<len*zs.length→((List.replicate len zs).flatten)[i]? =zs[i%zs.length]? :=by
   intro len
   induction len with
   |zero=>intro i hi;simp at hi
   |succ k ih=>
    intro i hi
    rw[List.replicate_succ,List.flatten_cons,List.getElem?_append]
    split
    ·rename_i h;rw[Nat.mod_eq_of_lt h]
    ·rename_i h
     rw[Nat.succ_mul]at hi
     rw[ih (i-zs.length) (by omega)]
     congr 1
     exact(Nat.mod_eq_sub_mod (by omega)).symm
  rw[hr len i hi]
  simp [hi,hmod]
 ·have h1:((Array.range (len*zs.length)).map (fun i=>zs.toArray[i%zs.toArray.size]!)).toList.length=len*zs.length:=by simp
  have h2:(List.replicate len zs).flatten.length=len*zs.length:=by simp
  rw[List.getElem?_eq_none (by rw[h1];exact Nat.le_of_not_lt hi),List.getElem?_eq_none (by rw[h2];exact Nat.le_of_not_lt hi)]
theorem a9 {Z : Zt} {K : Kt} {t : TypeId} {len : Nat} {ps : Array (Nat × Operand)} {B : Bs} {ξ : Nat → Value} (hZ : b9 P Z) (h : eN P Z K L t len ps.toList = some B) (hH : Hold L ξ g w) :
  Ok1 P ⟨ds,.buildSlice t len ps,ty,pos,af,gu⟩ n (Lf L ξ) w fun v w'=>∃b c ls,v=vS b 0 len len∧NewB w w' b c B.te∧c.toList=ls.flatten∧Fa2 (rS g.X g.N w B.e) B.rows ls∧B.rows.length=len∧len≤maxLen:=by
 unfold eN at h
 split at h
 ·rename_i te he
  split at h
  ·rename_i m zs e qs hm hz hk hq
   cases hc:Nat.blt 0 m&&Nat.ble (len*m) 16777216&&Nat.beq e.length m&&Nat.beq (Vb zs) m with
   |false=>rw[hc]at h;cases h
   |true=>
    rw[hc]at h
    simp only[Bool.and_eq_true,Nat.blt_eq]at hc
    obtain⟨⟨⟨c1,c3⟩,c4⟩,c5⟩:=hc
    have c3:=Nat.le_of_ble_eq_true c3
    have c5:=Nat.eq_of_beq_eq_true c5
    obtain⟨rows,h1,rfl⟩:=Option.map_eq_some_iff.1 h
    obtain⟨ss,h2,h3⟩:=Option.bind_eq_some_iff.1 h1
    obtain⟨z,hz1,hz2⟩:=Um hZ hz
    obtain⟨v1,v2⟩:=Lj (X:=g.X) (N:=g.N) (w:=w) hz2
    obtain⟨vs,k1,k2⟩:=Nh hH hq
    obtain⟨inf,hi,hzr⟩:=Option.bind_eq_some_iff.1 hz1
    have hms:inf.size=m:=by unfold N_ at hm;rw[hi]at hm;simpa using hm
    have hu:P.underlying t=some (.slice te):=by
     unfold K4 at he
     split at he
     ·rename_i e' hu;cases he;exact hu
     ·cases he
    have hzl:z.cells.toList.length=m:=by rw[Jr v1,c5]
    have e0:((Array.range (len*m)).map (z.cells[· %z.cells.size]!)).toList=(List.replicate len z.cells.toList).flatten:=by
     have :=Ro (len:=len) hzl
     simpa using this
    obtain⟨c',q1,q2,q3,q4⟩:=Qy (c:=(Array.range (len*m)).map (z.cells[· %z.cells.size]!)) k2 (by rw[e0];exact VJ v1 len) (fun u hu=>by
     rw[e0]at hu
     obtain⟨l,hl,hu⟩:=List.mem_flatten.1 hu
     rw[List.mem_replicate]at hl
     rw[hl.2]at hu
     exact v2 u hu) h2
    obtain⟨ls,p1,p2,p3⟩:=VN c1 q2 h3
    have hd:Det P ⟨ds,.buildSlice t len ps,ty,pos,af,gu⟩ n (Lf L ξ) w (vS w.heap.size 0 len len) (w.alloc (.cells c' te)):=Det.of_run fun a hF=>by
     have e1:(ps.map fun p=>(p.1,a.eval p.2)).toList=vs:=by rw[Array.toList_map];exact k1 a n hF
     have h1':¬len*m>2^24:=by omega
     rcases Nat.eq_zero_or_pos len with hl0|c2
     ·subst hl0
      have em:∀f:Nat→Value,Array.map f (Array.range 0)= #[]:=fun f=>by simp
      have q1':=q1
      rw[Nat.zero_mul,em]at q1'
      simp only[execOp,Instr.buildSlice,Sem.run_bind,Ak hu,Result.andThen_ok,sizeOf,typeInfo,zeroValue]
      simp [hi,hms]
      simp only[Array.toList_map]at e1
      rw[e1,em,q1']
      simp [newRow]
     have hp:=Nat.mul_pos c2 c1
     have h0:¬len*m=0:=by omega
     simp only[execOp,Instr.buildSlice,Sem.run_bind,Ak hu,Result.andThen_ok,sizeOf,typeInfo,zeroValue]
     simp [hi,hms,hzr,h1',h0]
     simp only[Array.toList_map]at e1
     rw[e1,q1]
     simp [newRow]
    refine hd.mono fun v w' ⟨r1,r2⟩=>⟨_,c',ls,r1,⟨rfl,r2⟩,p1,p2,p3,?_⟩
    have :len≤len*m:=Nat.le_mul_of_pos_right len c1
    simp only[maxLen]
    omega
  ·cases h
 ·cases h
def AaZ (B:Bs):Eff:=⟨[],[],[],.ls true B.e B.rows⟩
def AaY (B:Bs) (nb:Nat):Eff:=⟨[],[],[(nb,.sl B.te B.e B.rows)],.sk nb⟩
theorem oW {Z:Zt} {K:Kt} {t:TypeId} {len:Nat} {ps:Array (Nat×Operand)} {B:Bs} (hZ:b9 P Z) (h:eN P Z K L t len ps.toList=some B) (hm:N_ P B.te=some B.e.length):EOk P n ⟨ds,.buildSlice t len ps,ty,pos,af,gu⟩ L H (AaZ B):=by
 intro ξ g w hS hH hn
 refine(a9 hZ h hH).mono fun v w' ⟨b,c,ls,hv,hb,h1,h2,h3,h4⟩=>⟨g,?_⟩
 subst hv
 obtain⟨e1,e2,e3,e4⟩:=NewB.at hb
 refine Post.quiet hS.wf e3 ⟨_,ls,rfl,⟨by rw[h3];exact h4,?_,.inr ⟨b,0,len,by rw[h3],by rw[h3];exact Nat.le_refl _,h4,fun hx=> ?_,by omega,?_⟩⟩,h2.mono fun x l hr=> ?_⟩
 ·have :=h2.row
  have hl:ls.length=B.rows.length:=h2.len.symm
  rw[←hl]
  clear h2 h1 hl
  induction ls with
  |nil=>simp
  |cons l ls ih=>
   rw[List.flatten_cons,List.length_append,List.length_cons,Nat.succ_mul,ih fun l hl=>this l (List.mem_cons_of_mem _ hl),this l (List.mem_cons_self ..)]
   omega
 ·have :=hS.wf b hx;omega
 ·rw[←h1];exact At.of_blk e2
 ·exact ET (S:=fun _=>False) ⟨e3,fun _ h=>h.elim,fun _ h=> .inl h,fun _ _ h=>h⟩ _ _ _ hr
theorem Cs {α:Type} {m:Nat}:∀{ls:List (List α)},(∀l∈ls,l.length=m)→ls.flatten.length=ls.length*m
 |[],_=>by simp
 |l::ls,h=>by
  rw[List.flatten_cons,List.length_append,List.length_cons,Nat.succ_mul,Cs fun l hl=>h l (List.mem_cons_of_mem _ hl),h l (List.mem_cons_self ..)]
  omega
theorem mR {k b c te : Nat} {wr : Hp} {rd : List Nat} {cc : Array Value} {e : List Fk} {rows : List (RT e)} {ls : List (List Value)} (hS : HS (BF rd H) g w) (hk : g.N k = none) (hn : NewB w w' b cc te) (h1 : cc.toList = ls.flatten) (h2 : Fa2 (rS g.X g.N w e) rows ls) (hm : rows.length ≤ maxLen) :
  ∃g',Post H ⟨rd,[],[(k,.sl te e rows)],.sk k⟩ g w (vS b 0 rows.length rows.length) g' w':=by
 obtain⟨e1,e2,e3,e4⟩:=NewB.at hn
 have hlen:cc.toList.length=rows.length*e.length:=by rw[h1,Cs h2.row,h2.len]
 have hsz:cc.size=rows.length*e.length:=hlen
 refine Post.new (u:=vS b 0 rows.length rows.length) (F:=[b]) (by simpa[An]using hS) hk (by simp) (by simp [An]) ⟨e3.os,e3.tape,e3.output,e3.size,fun x hx _=>e3.blk x hx id⟩ (fun x hx=>by simp at hx;subst hx;exact⟨.inr (by omega),by omega⟩) fun g' hg hN hF=>⟨⟨_,ls,hN,hF,⟨by rw[←h1];exact hlen,.inr ⟨b,rows.length,cc,rfl,Nat.zero_le _,e2,Nat.le_refl _,hm,hsz,by rw[←hlen,List.take_length,h1]⟩⟩,hm,h2.mono (ET hg.goes e),ES h2⟩,⟨_,hN,rfl,rfl⟩⟩
theorem oV {Z:Zt} {K:Kt} {t:TypeId} {len:Nat} {ps:Array (Nat×Operand)} {B:Bs} {nb:Nat} (hZ:b9 P Z) (h:eN P Z K L t len ps.toList=some B):EOk P n ⟨ds,.buildSlice t len ps,ty,pos,af,gu⟩ L H (AaY B nb):=by
 intro ξ g w hS hH hn
 refine(a9 hZ h hH).mono fun v w' ⟨b,c,ls,hv,hb,h1,h2,h3,h4⟩=> ?_
 subst hv
 have hS':HS (BF [] H) g w:=hS
 have :=mR (k:=nb) (rd:=[]) (c:=0) (wr:=[]) hS' (hn (nb,_) (List.mem_singleton.2 rfl)) hb h1 h2 (by rw[h3];exact h4)
 rw[h3]at this
 exact this
def UB (P:Program) (K:Kt) (L:DL) (t:TypeId) (x y:Operand) (nb:Nat):Option (Eff×List Prop):=match K4 P t,Eb L x,Eb L y with
 |some te,some (.v (.int .i64 i)),some (.v (.int .i64 j))=>(match P.info? te,lkK K te with
  |some inf,some [a]=>(match inf.zero with
   |some z=>bif Nat.beq inf.size 1&&z.oneCell' then(iP a (.v z)).map fun q=>(⟨[],[],[(nb,.sl te [a] (List.replicate i.toNat q))],.sk nb⟩,[i=j,0≤i,inf.bytes*i.toNat≤281474976710656,i≤9223372036854775807])else none
   |none=>none)
  |_,_=>none)
 |_,_,_=>none
theorem Gd {t te:TypeId} (h:K4 P t=some te):P.underlying t=some (.slice te):=by
 unfold K4 at h
 split at h
 ·rename_i e' hu;cases h;exact hu
 ·cases h
theorem wZ {K:Kt} {t:TypeId} {x y:Operand} {nb:Nat} {e:Eff} {ps:List Prop} (h:UB P K L t x y nb=some (e,ps)) (hp:AllP ps) (hxy:y=x):EOk P n ⟨ds,.makeSlice t x y,ty,pos,af,gu⟩ L H e:=by
 subst hxy
 unfold UB at h
 split at h
 ·rename_i te i j he hx hy
  split at h
  ·rename_i inf a hi hk
   split at h
   ·rename_i z hz
    cases hb:Nat.beq inf.size 1&&z.oneCell' with
    |false=>rw[hb]at h;cases h
    |true=>
     rw[hb]at h
     rw[Bool.and_eq_true]at hb
     have hs1:=Nat.eq_of_beq_eq_true hb.1
     simp only[cond_true]at h
     obtain⟨q,hq,h2⟩:=Option.map_eq_some_iff.1 h
     simp only[Prod.mk.injEq]at h2
     obtain⟨rfl,rfl⟩:=h2
     obtain⟨_,p2,p3,p4,_⟩:=hp
     intro ξ g w hS hH hn
     have hS':HS (BF [] H) g w:=hS
     obtain⟨m,rfl⟩:=Int.eq_ofNat_of_zero_le p2
     have hm:m<2^63:=by omega
     simp only[Int.toNat_natCast]at p3
     refine(vM (m:=m) (bytes:=inf.bytes) (z:=z) (Gd he) (by rw[hi,Option.map_some,hs1,hz]) (Bo hH hx) hb.2 (by omega) hm).mono fun v w' ⟨b,hv,hbn⟩=> ?_
     subst hv
     have hf:fS g.X g.N w a q z:=(Ko (X:=g.X) (N:=g.N) (w:=w) (m:=true) (v:=z) (d:= .v z) (show[z]=[z]from rfl) hq).1
     have hfl:∀k:Nat,Fa2 (rS g.X g.N w [a]) (List.replicate k q) (List.replicate k [z]):=by
      intro k
      induction k with
      |zero=>trivial
      |succ k ih=>exact⟨⟨z,rfl,hf⟩,ih⟩
     have hfl2:∀k:Nat,((Array.range k).map fun _=>z).toList=(List.replicate k [z]).flatten:=by
      intro k
      simp [List.map_const']
     have hl:(List.replicate m q).length=m:=by simp
     have :=mR (k:=nb) (rd:=[]) (c:=0) (wr:=[]) (te:=te) (e:=[a]) (rows:=List.replicate m q) hS' (hn (nb,_) (List.mem_singleton.2 rfl)) hbn (hfl2 m) (hfl m) (by simp only[List.length_replicate,maxLen];omega)
     rw[List.length_replicate]at this
     exact this
   ·cases h
  ·cases h
 ·cases h
end
end Go.Sx
namespace Go.Sx
open Go.Mi Go.RowKit
variable [Dfr]
inductive Src (g:G) (w:World) (e:List Fk) (xs:List (RT e)) (v:Value):Prop where
 |nil (h1:v=vN∨∃a c,v= .slice (some a) 0 c) (h2:xs=[])
 |at(b o c:Nat) (ls:List (List Value)) (h1:v=vS b o xs.length c) (h2:At w b o ls.flatten) (h3:Fa2 (rS g.X g.N w e) xs ls)
structure Sx where
 e:List Fk
 xs:List (RT e)
 rd:List Nat
def jM (H:Hp):D→Option Sx
 | .ls _ e xs=>some ⟨e,xs,[]⟩
 | .sk k=>(match AS H k with
  |some (.sl _ e xs)=>some ⟨e,xs,[k]⟩
  |_=>none)
 |_=>none
section
variable {P:Program} {n:Nat} {L:DL} {ds:Option Nat} {ty:TypeId} {pos:String} {af:Array Edge} {gu:Option (Nat×Bool)} {g:G} {w w':World} {H:Hp}
theorem N6 {d:D} {s:Sx} {v:Value} (hos:∀k o,k∈s.rd→AS H k=some o→OS g w k o) (h:jM H d=some s) (hd:Sm g w d v):Src g w s.e s.xs v:=by
 unfold jM at h
 split at h
 ·rename_i nn e xs
  cases h
  obtain⟨u,ls,h1,h2,h3⟩:=hd
  cases(List.cons.inj h1).1
  rcases h2.shape with⟨rfl,h4,_⟩|⟨b,o,c,rfl,_,h4⟩|⟨h4,h5⟩
  ·exact .nil (.inl rfl) (List.eq_nil_of_length_eq_zero h4)
  ·exact .at b o c ls rfl h4 h3
  ·exact .nil (.inr h5) (List.eq_nil_of_length_eq_zero h4)
 ·rename_i k
  split at h
  ·rename_i te e xs hk
   cases h
   obtain⟨u,h1,h2,_⟩:=hd
   cases(List.cons.inj h2).1
   obtain⟨v',ls,k1,k2,k3,k4,k5,k6⟩:=hos k _ (by simp) hk
   rw[k1]at h1
   cases h1
   rcases k3.at with⟨rfl,h4,_⟩|⟨b,cap,rfl,_,h4⟩
   ·exact .nil (.inl rfl) (List.eq_nil_of_length_eq_zero h4)
   ·exact .at b 0 cap ls rfl h4 k5
  ·cases h
 ·cases h
theorem AbT {s x : Operand} {t te : TypeId} {inf : TypeInfo} {z v u : Value} {e : List Fk} {xs ys : List (RT e)} {ls : List (List Value)} {Lv : List (Nat × Value)} (ht : P.underlying t = some (.slice te)) (hi : P.info? te = some inf) (hz : inf.zero = some z) (hm : inf.size = e.length) (hzs : z.cells.size = e.length) (hm0 : 0 < e.length)
    (hs:ev Lv s=some v) (hx:ev Lv x=some u) (hown:Own w 0 te e.length v xs.length ls.flatten) (hF:Fa2 (rS g.X g.N w e) xs ls) (hu:Src g w e ys u) (h63:xs.length+ys.length≤maxLen) (hby:(xs.length+ys.length)*inf.bytes≤140737488355328):
    Ok1 P ⟨ds,.call ⟨.builtin .append,#[s,x],#[t,t]⟩,ty,pos,af,gu⟩ n Lv w fun v' w'=>∃ms,Own w' 0 te e.length v' (xs++ys).length ms.flatten∧Fa2 (rS g.X g.N w e) (xs++ys) ms∧Ch (Cd v) w w'∧(Cd v'=Cd v∨Cd v'=[w.heap.size]):=by
  cases hu with
  | nil h1 h2 =>
    subst h2
    have hd : Det P ⟨ds, .call ⟨.builtin .append, #[s, x], #[t, t]⟩, ty, pos, af, gu⟩ n Lv w v w := Det.of_run fun a hF => by
      have hr:(Builtin.append_ #[t,t] ty #[v,u]).run P w= .ok v w:=by
       rcases h1 with rfl|⟨a0,c0,rfl⟩
       · rcases hown.2 with ⟨rfl, h0⟩ | ⟨b, cap, cur, rfl, _, hb, hc, hc2, hcs, hct⟩
         · simp [Builtin.append_,Ak ht,sizeOf,typeInfo,hi,Builtin.lenOf,Builtin.firstCells]
         · have h5 : (storeCells ((⟨b, 0, none⟩ : Addr).add (xs.length * inf.size)) []).run P w = .ok () w := rfl
           simp [Builtin.append_,Ak ht,sizeOf,typeInfo,hi,Builtin.lenOf,Builtin.firstCells,hc,h5]
       · have hl0 := run_loadCells_list (P := P) w a0 [] (by simp)
         simp only[List.length_nil]at hl0
         rcases hown.2 with⟨rfl,h0⟩|⟨b,cap,cur,rfl,_,hb,hc,hc2,hcs,hct⟩
         · simp [Builtin.append_,Ak ht,sizeOf,typeInfo,hi,Builtin.lenOf,Builtin.firstCells,hl0]
         · have h5 : (storeCells ((⟨b, 0, none⟩ : Addr).add (xs.length * inf.size)) []).run P w = .ok () w := rfl
           simp [Builtin.append_,Ak ht,sizeOf,typeInfo,hi,Builtin.lenOf,Builtin.firstCells,hc,h5,hl0]
      simp [execOp,hF.eval hs,hF.eval hx,resolve,invoke,builtin,hr]
    refine hd.mono fun v' w' ⟨e1,e2⟩=> ?_
    subst e1;subst e2
    exact⟨ls,by simpa using hown,by simpa using hF,Ch.refl _ _,.inl rfl⟩
  | «at» b o c ms h1 h2 h3 =>
    subst h1
    have hml:ms.flatten.length=ys.length*e.length:=by rw[Cs h3.row,h3.len]
    refine(dU ht hi hz hm rfl hzs hm0 hs hx hown hml h2 (ES h3) h63 hby (Nat.zero_le _)).mono fun v' w' ⟨k1,k2,k3⟩=>⟨ls++ms,?_,hF.append h3,k2,k3⟩
    rw[List.length_append,List.flatten_append]
    exact k1
structure Ap where
 te:TypeId
 e:List Fk
 xs:List (RT e)
 ys:List (RT e)
 wr:Hp
 rd:List Nat
def S9 (a b:List Fk) (xs:List (RT a)):Option (List (RT b)):=if h:a=b then some (h▸xs)else none
def XH (inf:TypeInfo) (m:Nat):Bool:=match inf.zero with
 |some z=>Nat.beq z.cells.size m
 |none=>false
def xG (P:Program) (K:Kt) (L:DL) (H:Hp) (t:TypeId) (s x:Operand):Option Ap:=match K4 P t,Eb L s with
 |some te,some (.v (.slice none 0 0))=>(match lkK K te,(Eb L x).bind (jM H)with
  |some e,some q=>(S9 q.e e q.xs).map fun ys=>⟨te,e,[],ys,[],q.rd⟩
  |_,_=>none)
 |some te,some (.sk k)=>(match AS H k,Eb L x with
  |some (.sl te' e xs),some (.v (.slice none 0 0))=>bif Nat.beq te te' then some ⟨te,e,xs,[],[(k,none)],[]⟩else none
  |some (.sl te' e xs),some d=>(match jM H d with
   |some q=>bif Nat.beq te te'&& !(BM k q.rd)then(S9 q.e e q.xs).map fun ys=>⟨te,e,xs,ys,[(k,none)],q.rd⟩else none
   |none=>none)
  |_,_=>none)
 |_,_=>none
def o5 (P:Program) (A:Ap) (nb:Nat):Option (Eff×List Prop):=match P.info? A.te with
 |some inf=>bif Nat.beq inf.size A.e.length&&XH inf A.e.length&&Nat.blt 0 A.e.length then some (⟨A.rd,A.wr,[(nb,.sl A.te A.e (A.xs++A.ys))],.sk nb⟩,[A.xs.length+A.ys.length≤9223372036854775807,(A.xs.length+A.ys.length)*inf.bytes≤140737488355328])else none
 |none=>none
theorem p8 {a b:List Fk} {xs:List (RT a)} {ys:List (RT b)} (h:S9 a b xs=some ys):∃e:a=b,ys=e▸xs:=by
 unfold S9 at h
 split at h
 ·rename_i e;simp only[Option.some.injEq]at h;exact⟨e,h.symm⟩
 ·cases h
theorem Src.cast {a b:List Fk} {xs:List (RT a)} {ys:List (RT b)} {v:Value} (h:Src g w a xs v) (hc:S9 a b xs=some ys):Src g w b ys v:=by
 obtain⟨rfl,rfl⟩:=p8 hc
 exact h
structure AfL (H:Hp) (g:G) (w:World) (A:Ap) (v u:Value):Prop where
 own:∃ls,Own w 0 A.te A.e.length v A.xs.length ls.flatten∧Fa2 (rS g.X g.N w A.e) A.xs ls
 src:Src g w A.e A.ys u
 wr:(A.wr=[]∧Cd v=[])∨∃k o,A.wr=[(k,none)]∧AS H k=some o∧g.F k=Cd v
theorem xF {K:Kt} {t:TypeId} {s x:Operand} {A:Ap} {ξ:Nat→Value} (h:xG P K L H t s x=some A) (hS:HS (BF (A.rd++An A.wr) (AS H)) g w) (hH:Hold L ξ g w):P.underlying t=some (.slice A.te)∧∃v u,ev (Lf L ξ) s=some v∧ev (Lf L ξ) x=some u∧AfL H g w A v u:=by
 have obj:∀k o,k∈A.rd++An A.wr→AS H k=some o→OS g w k o:=fun k o hk ho=>hS.os k o (by simp only[BF,AN.2 hk];exact ho)
 unfold xG at h
 split at h
 ·rename_i te he hs
  split at h
  ·rename_i e q hk hx
   obtain⟨ys,hc,rfl⟩:=Option.map_eq_some_iff.1 h
   obtain⟨d,hx1,hx2⟩:=Option.bind_eq_some_iff.1 hx
   obtain⟨u,hu,hus⟩:=A4 hH hx1
   have hsr:=N6 (fun k o hk ho=>obj k o (List.mem_append_left _ hk) ho) hx2 hus
   exact⟨Gd he,vN,u,Bo hH hs,hu,⟨[],⟨by simp,.inl ⟨rfl,rfl⟩⟩,trivial⟩,hsr.cast hc,.inl ⟨rfl,rfl⟩⟩
  ·cases h
 ·rename_i te k he hs
  obtain⟨v,hv,v',h1,h2,_⟩:=A4 hH hs
  cases(List.cons.inj h2).1
  split at h
  ·rename_i te' e xs hk hx
   cases hb:Nat.beq te te' with
   |false=>rw[hb]at h;cases h
   |true=>
    rw[hb]at h
    have :=Nat.eq_of_beq_eq_true hb
    subst this
    cases h
    obtain⟨v2,ls,k1,k2,k3,k4,k5,k6⟩:=obj k _ (by simp [An]) hk
    rw[h1]at k1
    cases k1
    exact⟨Gd he,v,vN,hv,Bo hH hx,⟨ls,k3,k5⟩,.nil (.inl rfl) rfl,.inr ⟨k,_,rfl,hk,k2⟩⟩
  ·rename_i te' e xs d _ hk hx
   split at h
   ·rename_i q hq
    cases hb:Nat.beq te te'&& !(BM k q.rd)with
    |false=>rw[hb]at h;cases h
    |true=>
     rw[hb]at h
     rw[Bool.and_eq_true]at hb
     have :=Nat.eq_of_beq_eq_true hb.1
     subst this
     obtain⟨ys,hc,rfl⟩:=Option.map_eq_some_iff.1 h
     obtain⟨u,hu,hus⟩:=A4 hH hx
     have hsr:=N6 (fun k o hk ho=>obj k o (List.mem_append_left _ hk) ho) hq hus
     obtain⟨v2,ls,k1,k2,k3,k4,k5,k6⟩:=obj k _ (by simp [An]) hk
     rw[h1]at k1
     cases k1
     exact⟨Gd he,v,u,hv,hu,⟨ls,k3,k5⟩,hsr.cast hc,.inr ⟨k,_,rfl,hk,k2⟩⟩
   ·cases h
  ·cases h
 ·cases h
theorem o4 {K:Kt} {t:TypeId} {s x:Operand} {A:Ap} {nb:Nat} {e:Eff} {ps:List Prop} (h:xG P K L H t s x=some A) (h2:o5 P A nb=some (e,ps)) (hp:AllP ps):EOk P n ⟨ds,.call ⟨.builtin .append,#[s,x],#[t,t]⟩,ty,pos,af,gu⟩ L (AS H) e:=by
 unfold o5 at h2
 split at h2
 ·rename_i inf hi
  cases hb:Nat.beq inf.size A.e.length&&XH inf A.e.length&&Nat.blt 0 A.e.length with
  |false=>rw[hb]at h2;cases h2
  |true=>
   rw[hb]at h2
   simp only[Bool.and_eq_true,Nat.blt_eq]at hb
   obtain⟨⟨b1,b2⟩,b3⟩:=hb
   have b1:=Nat.eq_of_beq_eq_true b1
   simp only[cond_true,Option.some.injEq,Prod.mk.injEq]at h2
   obtain⟨rfl,rfl⟩:=h2
   obtain⟨p1,p2,_⟩:=hp
   unfold XH at b2
   split at b2
   ·rename_i z hz
    have b2:=Nat.eq_of_beq_eq_true b2
    intro ξ g w hS hH hn
    have hS':HS (BF (A.rd++An A.wr) (AS H)) g w:=hS
    obtain⟨hu,v,u,hv,hu2,hA⟩:=xF h hS' hH
    obtain⟨ls,o1,o2⟩:=hA.own
    refine(AbT hu hi hz b1 b2 b3 hv hu2 o1 o2 hA.src (by simp only[maxLen];omega) p2).mono fun v' w' ⟨ms,q1,q2,q3,q4⟩=> ?_
    have hft:∀b∈Cd v,Eff.foot ⟨A.rd,A.wr,[(nb,.sl A.te A.e (A.xs++A.ys))],.sk nb⟩ (AS H) g b:=fun b hb=>by
     rcases hA.wr with⟨_,h0⟩|⟨k,o,h1,h2,h3⟩
     ·rw[h0]at hb;simp at hb
     ·exact⟨k,by simp [h1,An],o,h2,by rw[h3];exact hb⟩
    have hkw:nb∉An A.wr:=fun hk=>by
     rcases hA.wr with⟨h0,_⟩|⟨k,o,h1,h2,h3⟩
     ·rw[h0]at hk;simp [An]at hk
     ·rw[h1]at hk
      simp only[An,List.map_cons,List.map_nil,List.mem_singleton]at hk
      subst hk
      have hos:OS g w nb o:=hS'.os nb o (by simp only[BF,AN.2 (show nb∈A.rd++An A.wr by simp [h1,An])];exact h2)
      have hN:g.N nb=none:=hn (nb,_) (List.mem_singleton.2 rfl)
      cases o with
      |ob ty ds=>obtain⟨b,c,k1,_⟩:=hos;rw[hN]at k1;cases k1
      |sl ty e xs=>obtain⟨b,c,k1,_⟩:=hos;rw[hN]at k1;cases k1
    refine Post.new (u:=v') (F:=Cd v') hS' (hn (nb,_) (List.mem_singleton.2 rfl)) (fun p hp=> ?_) hkw ⟨q3.os,q3.tape,q3.output,q3.size,fun b hb hnf=>q3.blk b hb fun hm=>hnf (hft b hm)⟩ (fun b hb=>⟨?_,(q1.lt b hb).2⟩) fun g' hg hN hF=>⟨⟨v',ms,hN,hF,q1,?_,q2.mono (ET hg.goes A.e),ES q2⟩,⟨v',hN,rfl,?_⟩⟩
    ·rcases hA.wr with⟨h0,_⟩|⟨k,o,h1,_⟩
     ·rw[h0]at hp;simp at hp
     ·rw[h1]at hp;simp at hp;rw[hp]
    ·rcases q4 with q4|q4
     ·rw[q4]at hb;exact .inl (hft b hb)
     ·rw[q4]at hb;simp at hb;exact .inr (by omega)
    ·simp only[maxLen,List.length_append];omega
    ·rcases q1.at with⟨rfl,_⟩|⟨b,cap,rfl,_⟩<;>rfl
   ·cases b2
 ·cases h2
end
end Go.Sx
namespace Go.Sx
open Go.Mi Go.RowKit
variable [Dfr]
def gM (L:DL):Option Operand→Option (Option Int)
 |none=>some none
 |some x=>match Eb L x with
  |some (.v (.int _ i))=>some (some i)
  |_=>none
def bl (o:Option Int) (d:Nat):Nat:=match o with
 |some i=>i.toNat
 |none=>d
def FX:Option Int→Prop
 |some i=>0≤i
 |none=>True
def E3 (lo hi mx:Option Int) (n c:Nat):Prop:=FX lo∧FX hi∧FX mx∧(mx.isSome=true→hi.isSome=true)∧bl lo 0≤bl hi n∧bl hi n≤bl mx c∧bl mx c≤c
def W7 {α:Type} (lo hi:Option Int) (xs:List α):List α:=match lo,hi with
 |none,none=>xs
 |none,some h=>xs.take h.toNat
 |some l,none=>xs.drop l.toNat
 |some l,some h=>(xs.take h.toNat).drop l.toNat
theorem bJ {α:Type} (lo hi:Option Int) (xs:List α):W7 lo hi xs=(xs.take (bl hi xs.length)).drop (bl lo 0):=by
 unfold W7 bl
 cases lo<;>cases hi<;>simp
section
variable {P:Program} {n:Nat} {L:DL} {ds:Option Nat} {ty:TypeId} {pos:String} {af:Array Edge} {gu:Option (Nat×Bool)} {g:G} {w w':World}
structure GG (a:Act) (x:Option Operand) (i:Option Int):Prop where
 h:(x=none∧i=none)∨∃y k j,x=some y∧i=some j∧a.eval y= .int k j
theorem D8 {ξ:Nat→Value} {x:Option Operand} {i:Option Int} (hH:Hold L ξ g w) (h:gM L x=some i):∀a nn,Frm a nn (Lf L ξ)→GG a x i:=by
 intro a nn hF
 unfold gM at h
 split at h
 ·cases h;exact⟨.inl ⟨rfl,rfl⟩⟩
 ·rename_i y
  split at h
  ·rename_i k j hy
   cases h
   exact⟨.inr ⟨y,k,j,rfl,rfl,hF.eval (Bo hH hy)⟩⟩
  ·cases h
theorem Py {a:Act} {sl:Bool} {xl xh xm:Option Operand} {lo hi mx:Option Int} {m c:Nat} (hl:GG a xl lo) (hh:GG a xh hi) (hm:GG a xm mx) (h:E3 lo hi mx m c):(Instr.sliceBounds sl m c (xl.map a.eval) (xh.map a.eval) (xm.map a.eval)).run P w= .ok (bl lo 0,bl hi m,bl mx c) w:=by
 obtain⟨n1,n2,n3,n4,n5,n6,n7⟩:=h
 rcases hm.h with⟨rfl,rfl⟩|⟨ym,km,jm,rfl,rfl,hvm⟩<;>rcases hh.h with⟨rfl,rfl⟩|⟨yh,kh,jh,rfl,rfl,hvh⟩<;>rcases hl.h with⟨rfl,rfl⟩|⟨yl,kl,jl,rfl,rfl,hvl⟩<;>simp only[FX,bl]at n1 n2 n3 n5 n6 n7
 ·simp [Instr.sliceBounds,bl]
 ·obtain⟨jl,rfl⟩:=Int.eq_ofNat_of_zero_le n1
  simp only[Int.toNat_natCast]at n5 n6 n7
  simp [Instr.sliceBounds,bl,hvl,Instr.sliceBound,asIntOf,n5]
 ·obtain⟨jh,rfl⟩:=Int.eq_ofNat_of_zero_le n2
  simp only[Int.toNat_natCast]at n5 n6 n7
  simp [Instr.sliceBounds,bl,hvh,Instr.sliceBound,asIntOf,n6]
 ·obtain⟨jh,rfl⟩:=Int.eq_ofNat_of_zero_le n2
  obtain⟨jl,rfl⟩:=Int.eq_ofNat_of_zero_le n1
  simp only[Int.toNat_natCast]at n5 n6 n7
  simp [Instr.sliceBounds,bl,hvh,hvl,Instr.sliceBound,asIntOf,n6,n5]
 ·have :=n4 rfl;cases this
 ·have :=n4 rfl;cases this
 ·obtain⟨jh,rfl⟩:=Int.eq_ofNat_of_zero_le n2
  obtain⟨jm,rfl⟩:=Int.eq_ofNat_of_zero_le n3
  simp only[Int.toNat_natCast]at n5 n6 n7
  simp [Instr.sliceBounds,bl,hvh,hvm,Instr.sliceBound,asIntOf,n7,n6]
 ·obtain⟨jh,rfl⟩:=Int.eq_ofNat_of_zero_le n2
  obtain⟨jl,rfl⟩:=Int.eq_ofNat_of_zero_le n1
  obtain⟨jm,rfl⟩:=Int.eq_ofNat_of_zero_le n3
  simp only[Int.toNat_natCast]at n5 n6 n7
  simp [Instr.sliceBounds,bl,hvh,hvl,hvm,Instr.sliceBound,asIntOf,n7,n6,n5]
theorem S3 {x : Operand} {xl xh xm : Option Operand} {t te : TypeId} {lo hi mx : Option Int} {m len cap : Nat} {ad : Option Addr} {Lv : List (Nat × Value)} (ht : P.underlying t = some (.slice te)) (hs : (P.info? te).map (·.size) = some m) (hx : ev Lv x = some (.slice ad len cap))
  (hb:∀a,Frm a n Lv→GG a xl lo∧GG a xh hi∧GG a xm mx) (h:E3 lo hi mx len cap):Det P ⟨ds,.slice t x xl xh xm,ty,pos,af,gu⟩ n Lv w (.slice (if bl mx cap=bl lo 0 then ad else ad.map (·.add (bl lo 0*m))) (bl hi len-bl lo 0) (bl mx cap-bl lo 0)) w:=
 Det.of_run fun a hF=>by
  obtain⟨h1,h2,h3⟩:=hb a hF
  obtain⟨inf,hi',hz⟩:=Option.map_eq_some_iff.1 hs
  have hr:=Py (P:=P) (w:=w) (sl:=true) h1 h2 h3 h
  have hsz:(sizeOf te).run P w= .ok m w:=by simp [sizeOf,typeInfo,hi',hz]
  simp only[execOp,hF.eval hx,Instr.sliceAt,Sem.run_bind,Ak ht,Result.andThen_ok,Instr.slice,hr,hsz]
  rfl
theorem pT {x : Operand} {xl xh xm : Option Operand} {t te : TypeId} {lo hi mx : Option Int} {m len b o : Nat} {Lv : List (Nat × Value)} (ht : P.underlying t = some (.array len te)) (hs : (P.info? te).map (·.size) = some m) (hx : ev Lv x = some (vP b o))
  (hb:∀a,Frm a n Lv→GG a xl lo∧GG a xh hi∧GG a xm mx) (h:E3 lo hi mx len len):Det P ⟨ds,.slice t x xl xh xm,ty,pos,af,gu⟩ n Lv w (.slice (some (if bl mx len=bl lo 0 then⟨b,o,none⟩else⟨b,o+bl lo 0*m,none⟩)) (bl hi len-bl lo 0) (bl mx len-bl lo 0)) w:=
 Det.of_run fun a hF=>by
  obtain⟨h1,h2,h3⟩:=hb a hF
  obtain⟨inf,hi',hz⟩:=Option.map_eq_some_iff.1 hs
  have hr:=Py (P:=P) (w:=w) (sl:=false) h1 h2 h3 h
  have hsz:(sizeOf te).run P w= .ok m w:=by simp [sizeOf,typeInfo,hi',hz]
  simp only[execOp,hF.eval hx,Instr.sliceAt,Sem.run_bind,Ak ht,Result.andThen_ok,Instr.sureAddr,Sem.run_pure,hr,hsz,CY]
def oS (P:Program) (L:DL) (t:TypeId) (x:Operand) (xl xh xm:Option Operand):Option (D×List Prop):=match Eb L x,gM L xl,gM L xh,gM L xm with
 |some (.ls nn e xs),some lo,some hi,some mx=>(match VK P t with
  |some m=>bif Nat.beq e.length m then some (.ls nn e (W7 lo hi xs),[E3 lo hi mx xs.length xs.length])else none
  |none=>none)
 |some (.v (.slice none 0 0)),some lo,some hi,some mx=>(match VK P t with
  |some _=>some (.v vN,[E3 lo hi mx 0 0])
  |none=>none)
 |some (.cp k o),some lo,some hi,some mx=>(match gU P t with
  |some (len,m)=>bif Nat.beq m 1 then some (.sv k (o+bl lo 0) (bl hi len-bl lo 0),[E3 lo hi mx len len,len≤9223372036854775807,bl lo 0<bl mx len])else none
  |none=>none)
 |_,_,_,_=>none
theorem oR {t:TypeId} {x:Operand} {xl xh xm:Option Operand} {d:D} {ps:List Prop} (h:oS P L t x xl xh xm=some (d,ps)):PureOk P n ⟨ds,.slice t x xl xh xm,ty,pos,af,gu⟩ L d ps:=by
 intro hp ξ g w hH _
 unfold oS at h
 split at h
 ·rename_i nn e xs lo hi mx hx h1 h2 h3
  split at h
  ·rename_i m hsi
   obtain⟨te,u1,u2⟩:=GL hsi
   cases hb:Nat.beq e.length m with
   |false=>rw[hb]at h;cases h
   |true=>
    rw[hb]at h
    have :=Nat.eq_of_beq_eq_true hb
    subst this
    cases h
    obtain⟨v,hv,u,ls,k1,k2,k3⟩:=A4 hH hx
    cases(List.cons.inj k1).1
    obtain⟨hp1,_⟩:=hp
    have bnd:=fun a hF=>(⟨D8 hH h1 a n hF,D8 hH h2 a n hF,D8 hH h3 a n hF⟩:GG a xl lo∧GG a xh hi∧GG a xm mx)
    have q:=hp1
    obtain⟨n1,n2,n3,n4,n5,n6,n7⟩:=hp1
    have hcl:(W7 lo hi xs).length=bl hi xs.length-bl lo 0:=by
     rw[bJ,List.length_drop,List.length_take,Nat.min_eq_left (by cases mx<;>simp only[bl]at n6 n7⊢<;>omega)]
    have hfa:Fa2 (rS g.X g.N w e) (W7 lo hi xs) ((ls.take (bl hi xs.length)).drop (bl lo 0)):=by
     rw[bJ];exact(k3.take _).drop _
    have hml:=Cs hfa.row
    rcases k2.at' with⟨j2,⟨j1,rfl⟩|⟨a0,c0,rfl⟩⟩|⟨b,o,c,rfl,j1,j2,j3,j4,j5⟩
    ·have e1:bl mx 0=bl lo 0:=by rw[j2]at n5 n6 n7;have :=n5;cases mx<;>cases lo<;>simp only[bl]at * <;>omega
     have hd:=S3 (P:=P) (n:=n) (w:=w) (ds:=ds) (ty:=ty) (pos:=pos) (af:=af) (gu:=gu) u1 u2 hv bnd (by rw[j2]at q;exact q)
     rw[if_pos e1]at hd
     have z1:bl hi 0-bl lo 0=0:=by rw[j2]at n5 n6 n7;omega
     have z2:bl mx 0-bl lo 0=0:=by omega
     rw[z1,z2]at hd
     have hc0:(W7 lo hi xs).length=0:=by rw[hcl,j2];exact z1
     refine⟨_,⟨vN,_,rfl,⟨by rw[hc0];exact Nat.zero_le _,by rw[hml,←hfa.len],.inl ⟨hc0,.inl ⟨j1,rfl⟩⟩⟩,hfa⟩,hd⟩
    ·have q2 : E3 lo hi mx 0 c0 := by
      rw[j2]at n5 n6 n7
      exact⟨n1,n2,n3,n4,n5,by cases mx<;>simp only[bl]at n6 n7⊢<;>omega,by cases mx<;>simp only[bl]at n6 n7⊢<;>omega⟩
     have hd:=S3 (P:=P) (n:=n) (w:=w) (ds:=ds) (ty:=ty) (pos:=pos) (af:=af) (gu:=gu) u1 u2 hv bnd q2
     have z1:bl hi 0-bl lo 0=0:=by rw[j2]at n5 n6 n7;omega
     have hc0:(W7 lo hi xs).length=0:=by rw[hcl,j2];exact z1
     rw[z1]at hd
     refine⟨_,⟨_,_,rfl,⟨by rw[hc0];exact Nat.zero_le _,by rw[hml,←hfa.len],.inl ⟨hc0,.inr ?_⟩⟩,hfa⟩,hd⟩
     split
     ·exact⟨_,_,rfl⟩
     ·exact⟨_,_,rfl⟩
    ·have q2:E3 lo hi mx xs.length c:=⟨n1,n2,n3,n4,n5,by cases mx<;>simp only[bl]at n6 n7⊢<;>omega,by cases mx<;>simp only[bl]at n6 n7⊢<;>omega⟩
     have hd:=S3 (P:=P) (n:=n) (w:=w) (ds:=ds) (ty:=ty) (pos:=pos) (af:=af) (gu:=gu) u1 u2 hv bnd q2
     have hbm:bl hi xs.length≤bl mx c:=q2.2.2.2.2.2.1
     have hbc:bl mx c≤c:=q2.2.2.2.2.2.2
     have ha:At w b (o+bl lo 0*e.length) ((ls.take (bl hi xs.length)).drop (bl lo 0)).flatten:=by
      have e1:ls.flatten=((ls.take (bl hi xs.length)).take (bl lo 0)).flatten++((ls.take (bl hi xs.length)).drop (bl lo 0)).flatten++(ls.drop (bl hi xs.length)).flatten:=by
       rw[←List.flatten_append,List.take_append_drop,←List.flatten_append,List.take_append_drop]
      have :=At.sub j5 e1
      rw[Cs (m:=e.length) (fun l hl=>k3.row l (List.mem_of_mem_take (List.mem_of_mem_take hl)))]at this
      have e2:((ls.take (bl hi xs.length)).take (bl lo 0)).length=bl lo 0:=by
       rw[List.length_take,List.length_take,←k3.len]
       have :bl hi xs.length≤xs.length:=by cases mx<;>simp only[bl]at n6 n7⊢<;>omega
       omega
      rwa [e2]at this
     by_cases hz:bl mx c=bl lo 0
     ·rw[if_pos hz]at hd
      have z1:bl hi xs.length-bl lo 0=0:=by omega
      have hc0:(W7 lo hi xs).length=0:=by rw[hcl];exact z1
      refine⟨_,⟨_,_,rfl,⟨by rw[hc0];exact Nat.zero_le _,by rw[hml,←hfa.len],.inr ⟨b,o,_,by rw[hcl],by rw[hcl];omega,by omega,j3,j4,?_⟩⟩,hfa⟩,hd⟩
      have hnil:((ls.take (bl hi xs.length)).drop (bl lo 0)).flatten=[]:=by
       apply List.eq_nil_of_length_eq_zero
       rw[hml,←hfa.len,hc0,Nat.zero_mul]
      rw[hnil]
      intro i u hu;simp at hu
     ·rw[if_neg hz]at hd
      simp only[Option.map_some,CY]at hd
      refine⟨_,⟨_,_,rfl,⟨by rw[hcl];have :=k2.le;omega,by rw[hml,←hfa.len],.inr ⟨b,o+bl lo 0*e.length,_,by rw[hcl],by rw[hcl];omega,by omega,j3,j4,ha⟩⟩,hfa⟩,hd⟩
  ·cases h
 ·rename_i lo hi mx hx h1 h2 h3
  split at h
  ·rename_i m hsi
   cases h
   obtain⟨te,u1,u2⟩:=GL hsi
   have bnd:=fun a hF=>(⟨D8 hH h1 a n hF,D8 hH h2 a n hF,D8 hH h3 a n hF⟩:GG a xl lo∧GG a xh hi∧GG a xm mx)
   have hd:=S3 (P:=P) (n:=n) (w:=w) (ds:=ds) (ty:=ty) (pos:=pos) (af:=af) (gu:=gu) u1 u2 (Bo hH hx) bnd hp.1
   obtain⟨n1,n2,n3,n4,n5,n6,n7⟩:=hp.1
   rw[if_pos (by omega),show bl hi 0-bl lo 0=0 by omega,show bl mx 0-bl lo 0=0 by omega]at hd
   exact⟨_,rfl,hd⟩
  ·cases h
 ·rename_i k o lo hi mx hx h1 h2 h3
  split at h
  ·rename_i len m ha
   cases hb:Nat.beq m 1 with
   |false=>rw[hb]at h;cases h
   |true=>
    rw[hb]at h
    have :=Nat.eq_of_beq_eq_true hb
    subst this
    cases h
    obtain⟨te,u1,u2⟩:=MO ha
    obtain⟨p1,p2,p3,_⟩:=hp
    obtain⟨v,hv,b,k1,k2⟩:=A4 hH hx
    cases(List.cons.inj k2).1
    have bnd:=fun a hF=>(⟨D8 hH h1 a n hF,D8 hH h2 a n hF,D8 hH h3 a n hF⟩:GG a xl lo∧GG a xh hi∧GG a xm mx)
    have hd:=pT (P:=P) (n:=n) (w:=w) (ds:=ds) (ty:=ty) (pos:=pos) (af:=af) (gu:=gu) u1 u2 hv bnd p1
    obtain⟨n1,n2,n3,n4,n5,n6,n7⟩:=p1
    rw[if_neg (by omega),Nat.mul_one]at hd
    refine⟨_,⟨b,_,k1,rfl,by omega,?_⟩,hd⟩
    simp only[maxLen]
    omega
  ·cases h
 ·cases h
end
end Go.Sx
namespace Go.Sx
open Go.Mi Go.RowKit
variable [Dfr]
def Fk.flat:Fk→Bool
 | .ref=>false
 | .sl e=>e.flat
 | .os e=>e.flat
 |_=>true
def D.ren (r:Nat→Nat):D→D
 | .cons d ds=> .cons (d.ren r) (ds.ren r)
 | .ag ds=> .ag (ds.ren r)
 | .tu ds=> .tu (ds.ren r)
 | .fn f a b=> .fn f (a.ren r) (b.ren r)
 | .ifc t d=> .ifc t (d.ren r)
 | .cp k o=> .cp (r k) o
 | .ep k o m n i=> .ep (r k) o m n i
 | .xp k m n i o=> .xp (r k) m n i o
 | .sk k=> .sk (r k)
 | .sv k o n=> .sv (r k) o n
 | .im d o=> .im (d.ren r) o
 |d=>d
def D.plain:D→Bool
 | .cons d ds=>d.plain&&ds.plain
 | .ag ds=>ds.plain
 | .tu ds=>ds.plain
 | .fn _ a b=>a.plain&&b.plain
 | .ifc _ d=>d.plain
 | .im d _=>d.plain
 | .ls _ e _=>e.all Fk.flat
 | .os e _=>e.flat
 | .ip e _ _=>e.all Fk.flat
 |_=>true
def D.nm:D→List Nat
 | .cons d ds=>d.nm++ds.nm
 | .ag ds=>ds.nm
 | .tu ds=>ds.nm
 | .fn _ a b=>a.nm++b.nm
 | .ifc _ d=>d.nm
 | .im d _=>d.nm
 | .cp k _=>[k]
 | .ep k _ _ _ _=>[k]
 | .xp k _ _ _ _=>[k]
 | .sk k=>[k]
 | .sv k _ _=>[k]
 |_=>[]
def O.ren (r:Nat→Nat):O→O
 | .ob ty d=> .ob ty (d.ren r)
 | .sl ty e xs=> .sl ty e xs
def O.plain:O→Bool
 | .ob _ d=>d.plain
 | .sl _ e _=>e.all Fk.flat
def O.nm:O→List Nat
 | .ob _ d=>d.nm
 | .sl .. =>[]
section
variable {X:Nat→Prop} {N N':Nat→Option Value} {w:World}
theorem JI:∀(a:Fk) (x:a.T) (v:Value),a.flat=true→(fS X N w a x v↔fS X N' w a x v):=by
 intro a
 induction a with
 |int k=>exact fun x v _=>Iff.rfl
 |bool=>exact fun x v _=>Iff.rfl
 |str=>exact fun x v _=>Iff.rfl
 |val=>exact fun x v _=>Iff.rfl
 |sl e ih=>
  intro x v h
  have ih':=fun x v=>ih x v h
  exact⟨fun⟨vs,h1,h2⟩=>⟨vs,h1,h2.mono fun x v=>(ih' x v).1⟩,fun⟨vs,h1,h2⟩=>⟨vs,h1,h2.mono fun x v=>(ih' x v).2⟩⟩
 |os e ih=>
  intro x v h
  have ih':=fun x v=>ih x v h
  cases x with
  |none=>exact Iff.rfl
  |some xs=>exact⟨fun⟨vs,h1,h2⟩=>⟨vs,h1,h2.mono fun x v=>(ih' x v).1⟩,fun⟨vs,h1,h2⟩=>⟨vs,h1,h2.mono fun x v=>(ih' x v).2⟩⟩
 |ref=>exact fun x v h=>by cases h
theorem FW:∀(e:List Fk) (x:RT e) (l:List Value),e.all Fk.flat=true→(rS X N w e x l↔rS X N' w e x l)
 |[],x,l,_=>Iff.rfl
 |[a],x,l,h=>by
  simp only[List.all_cons,List.all_nil,Bool.and_true]at h
  exact⟨fun⟨v,h1,h2⟩=>⟨v,h1,(JI a _ _ h).1 h2⟩,fun⟨v,h1,h2⟩=>⟨v,h1,(JI a _ _ h).2 h2⟩⟩
 |a::b::s,x,l,h=>by
  rw[List.all_cons,Bool.and_eq_true]at h
  exact⟨fun⟨v,l',h1,h2,h3⟩=>⟨v,l',h1,(JI a _ _ h.1).1 h2,(FW (b::s) _ _ h.2).1 h3⟩,fun⟨v,l',h1,h2,h3⟩=>⟨v,l',h1,(JI a _ _ h.1).2 h2,(FW (b::s) _ _ h.2).2 h3⟩⟩
theorem Fu {r:Nat→Nat}:∀(d:D) (m:Bool) (l:List Value),d.plain=true→(∀k∈d.nm,N' k=N (r k))→(B4 X N w (d.ren r) m l↔B4 X N' w d m l):=by
 intro d
 induction d with
 |ls nn e xs=>
  intro m l h _
  exact⟨fun⟨v,ls,h2,h3,h4⟩=>⟨v,ls,h2,h3,h4.mono fun x l=>(FW e x l h).1⟩,fun⟨v,ls,h2,h3,h4⟩=>⟨v,ls,h2,h3,h4.mono fun x l=>(FW e x l h).2⟩⟩
 |os e o=>intro m l h _;exact⟨fun⟨v,h2,h3⟩=>⟨v,h2,(JI (.os e) _ _ h).1 h3⟩,fun⟨v,h2,h3⟩=>⟨v,h2,(JI (.os e) _ _ h).2 h3⟩⟩
 |cons d ds ih1 ih2=>
  intro m l h hn
  simp only[D.plain,Bool.and_eq_true]at h
  have n1:=fun k hk=>hn k (List.mem_append_left _ hk)
  have n2:=fun k hk=>hn k (List.mem_append_right _ hk)
  exact⟨fun⟨l1,l2,e,h1,h2⟩=>⟨l1,l2,e,(ih1 _ _ h.1 n1).1 h1,(ih2 _ _ h.2 n2).1 h2⟩,fun⟨l1,l2,e,h1,h2⟩=>⟨l1,l2,e,(ih1 _ _ h.1 n1).2 h1,(ih2 _ _ h.2 n2).2 h2⟩⟩
 |ag d ih=>intro m l h hn;exact⟨fun⟨l',h1,h2,h3⟩=>⟨l',(ih _ _ h hn).1 h1,h2,h3⟩,fun⟨l',h1,h2,h3⟩=>⟨l',(ih _ _ h hn).2 h1,h2,h3⟩⟩
 |tu d ih=>intro m l h hn;exact⟨fun⟨l',h1,h2⟩=>⟨l',(ih _ _ h hn).1 h1,h2⟩,fun⟨l',h1,h2⟩=>⟨l',(ih _ _ h hn).2 h1,h2⟩⟩
 |fn f a b iha ihb=>
  intro m l h hn
  simp only[D.plain,Bool.and_eq_true]at h
  have n1:=fun k hk=>hn k (List.mem_append_left _ hk)
  have n2:=fun k hk=>hn k (List.mem_append_right _ hk)
  exact⟨fun⟨va,vb,h1,h2,h3⟩=>⟨va,vb,(iha _ _ h.1 n1).1 h1,(ihb _ _ h.2 n2).1 h2,h3⟩,fun⟨va,vb,h1,h2,h3⟩=>⟨va,vb,(iha _ _ h.1 n1).2 h1,(ihb _ _ h.2 n2).2 h2,h3⟩⟩
 |ifc t d ih=>intro m l h hn;exact⟨fun⟨v,h1,h2⟩=>⟨v,(ih _ _ h hn).1 h1,h2⟩,fun⟨v,h1,h2⟩=>⟨v,(ih _ _ h hn).2 h1,h2⟩⟩
 |im d o ih=>intro m l h hn;exact⟨fun⟨b,l',h2,h3,h4,h5,h7,h6⟩=>⟨b,l',h2,h3,h4,h5,h7,(ih _ _ h hn).1 h6⟩,fun⟨b,l',h2,h3,h4,h5,h7,h6⟩=>⟨b,l',h2,h3,h4,h5,h7,(ih _ _ h hn).2 h6⟩⟩
 |ip e x o=>intro m l h _;exact⟨fun⟨b,o0,l',h2,h3,h4,h5,h6⟩=>⟨b,o0,l',h2,h3,h4,h5,(FW e _ _ h).1 h6⟩,fun⟨b,o0,l',h2,h3,h4,h5,h6⟩=>⟨b,o0,l',h2,h3,h4,h5,(FW e _ _ h).2 h6⟩⟩
 |cp k o=>intro m l _ hn;simp only[D.ren,B4,hn k (by simp [D.nm])]
 |ep k o z n i=>intro m l _ hn;simp only[D.ren,B4,hn k (by simp [D.nm])]
 |xp k z n i o=>intro m l _ hn;simp only[D.ren,B4,hn k (by simp [D.nm])]
 |sk k=>intro m l _ hn;simp only[D.ren,B4,hn k (by simp [D.nm])]
 |sv k o n=>intro m l _ hn;simp only[D.ren,B4,hn k (by simp [D.nm])]
 |_=>exact fun m l _ _=>Iff.rfl
end
theorem Jm {g g':G} {w:World} {r:Nat→Nat} {k:Nat} {o:O} (hp:o.plain=true) (hn:∀j∈o.nm,g'.N j=g.N (r j)) (hk:g'.N k=g.N (r k)) (hf:g'.F k=g.F (r k)) (hx:g'.X=g.X):OS g w (r k) (o.ren r)↔OS g' w k o:=by
 cases o with
 |ob ty d=>
  simp only[O.ren,OS,hk,hf,hx]
  constructor
  ·rintro⟨b,c,h1,h2,h3,h4,h5⟩;exact⟨b,c,h1,h2,h3,(Fu d _ _ hp hn).1 h4,h5⟩
  ·rintro⟨b,c,h1,h2,h3,h4,h5⟩;exact⟨b,c,h1,h2,h3,(Fu d _ _ hp hn).2 h4,h5⟩
 |sl ty e xs=>
  simp only[O.ren,OS,hk,hf,hx]
  constructor
  ·rintro⟨v,ls,h1,h2,h3,h4,h5,h6⟩;exact⟨v,ls,h1,h2,h3,h4,h5.mono fun x l=>(FW e x l hp).1,h6⟩
  ·rintro⟨v,ls,h1,h2,h3,h4,h5,h6⟩;exact⟨v,ls,h1,h2,h3,h4,h5.mono fun x l=>(FW e x l hp).2,h6⟩
abbrev Hc:=List (Nat×O)
def DF:Hc→Nat→Option O
 |[],_=>none
 |(s,o)::r,t=>bif Nat.beq s t then some o else DF r t
structure Con where
 args:List D
 H0:Hc
 res:D
 H1:Hc
def Con.foot (c:Con) (g:G):Nat→Prop:=fun b=>∃k o,DF c.H0 k=some o∧b∈g.F k
structure C6 (c:Con) (g:G) (w:World) (v:Value) (g':G) (w':World):Prop where
 go:Go (c.foot g) g w g' w'
 r:Sm g' w' c.res v
 hs:HS (DF c.H1) g' w'
 fp:∀k o,DF c.H1 k=some o→∀b∈g'.F k,c.foot g b∨w.heap.size≤b
def ConOk (P:Program) (f:FuncId) (c:Con):Prop:=
 Go.Mi.Callee P f∧∀vs g w,HS (DF c.H0) g w→(∀k v,g.N k=some v→k∈An c.H0)→B4 g.X g.N w (chain c.args) true vs→Calls P f vs.toArray w (Rh fun v w'=>∃g',C6 c g w v g' w')
def Zl (E:Value→Ending) (P:Program) (f:FuncId) (c:Con):Prop:=
 Go.Mi.Callee P f∧∀vs g w,HS (DF c.H0) g w→(∀k v,g.N k=some v→k∈An c.H0)→B4 g.X g.N w (chain c.args) true vs→Calls P f vs.toArray w (fun e w'=>∃v,e=E v∧∃g',C6 c g w v g' w')
theorem FE {A:Hc} {k:Nat}:k∈An A↔DF A k≠none:=by
 induction A with
 |nil=>simp [An,DF]
 |cons x A ih=>
  obtain⟨s,o⟩:=x
  simp only[An,List.map_cons,List.mem_cons,DF]at ih⊢
  by_cases h:s=k
  ·subst h;simp
  ·rw[Bb h]
   have :¬k=s:=fun e=>h e.symm
   simp only[this,false_or,cond_false]
   exact ih
abbrev Ny:=List (Nat×Nat)
def rn:Ny→Nat→Nat
 |[],k=>k
 |(s,t)::r,k=>bif Nat.beq s k then t else rn r k
def weak:D→D→D
 | .ls true e xs,.ls false _ _=> .ls false e xs
 | .v (.slice none 0 0),.ls false e _=> .ls false e []
 | .v (.slice none 0 0),.os e _=> .os e none
 | .ls true e xs,.os a o=>(match tOs a (.ls true e xs)with
  |some q=> .os a q
  |none=> .ls true e xs)
 |d,_=>d
theorem N4 {g:G} {w:World} {d e:D} {v:Value} (h:Sm g w d v):Sm g w (weak d e) v:=by
 unfold weak
 split
 ·obtain⟨u,ls,h1,h2,h3⟩:=h;exact⟨u,ls,h1,h2.gen,h3⟩
 ·have :[v]=[vN]:=h
  exact⟨v,[],rfl,(List.cons.inj this).1▸Lsl.nil,trivial⟩
 ·have :[v]=[vN]:=h
  exact⟨v,rfl,(List.cons.inj this).1⟩
 ·split
  ·rename_i q hq
   exact⟨v,rfl,(Ko (a:= .os _) h hq).1⟩
  ·exact h
 ·exact h
def Zp:List D→List D→List D
 |d::ds,e::es=>weak d e::Zp ds es
 |ds,_=>ds
theorem Lh {g:G} {w:World}:∀{ds es:List D} {vs:List Value},B4 g.X g.N w (chain ds) true vs→(∀d∈ds,d.one=true)→B4 g.X g.N w (chain (Zp ds es)) true vs
 |[],es,vs,h,_=>by cases es<;>exact h
 |d::ds,[],vs,h,_=>h
 |d::ds,e::es,vs,⟨l1,l2,h1,h2,h3⟩,ho=>by
  obtain⟨v,rfl⟩:=FU h2 (ho d (List.mem_cons_self ..))
  exact⟨[v],l2,h1,N4 h2,Lh h3 fun d hd=>ho d (List.mem_cons_of_mem _ hd)⟩
structure CR where
 f:FuncId
 c:Con
 ρ:Ny
 σ:Ny
def CR.r (q:CR):Nat→Nat:=rn (q.ρ++q.σ)
def D_ (ks:List Nat) (d:D):Bool:=d.plain&&d.nm.all (BM · ks)
def Ec (ks:List Nat) (o:O):Bool:=o.plain&&o.nm.all (BM · ks)
def Gq:List Nat→Bool
 |[]=>true
 |x::xs=> !(BM x xs)&&Gq xs
def CR.chk (q:CR):Bool:=
 let a:=An q.ρ
 let b:=An (q.ρ++q.σ)
 (q.c.args.all (D_ a))&&(q.c.H0.all fun p=>BM p.1 a&&Ec a p.2)&&(a.all fun k=>BM k (An q.c.H0))&&D_ b q.c.res&&(q.c.H1.all fun p=>BM p.1 b&&Ec b p.2)&&((An q.σ).all fun k=>BM k (An q.c.H1)&& !(BM k a))&&
  Gq (q.ρ.map (·.2))&&Gq (q.σ.map (·.2))&&Gq b&&Gq (An q.c.H1)
def CR.eff (q:CR):Eff:=⟨[],q.ρ.map fun p=>(p.2,(DF q.c.H1 p.1).map (O.ren q.r)),q.σ.filterMap fun p=>(DF q.c.H1 p.1).map fun o=>(p.2,o.ren q.r),q.c.res.ren q.r⟩
def Ri (H:Hp) (r:Nat→Nat):Hc→Prop
 |[]=>True
 |(j,o)::rest=>AS H (r j)=some (o.ren r)∧Ri H r rest
def CR.exp (q:CR):List D×List (Option O):=(q.c.args.map (D.ren q.r),q.c.H0.map fun p=>some (p.2.ren q.r))
def CR.need (q:CR) (ays:List D) (H:Hp):Prop:=(Zp ays (q.c.args.map (D.ren q.r)),q.c.H0.map fun p=>AS H (q.r p.1))=q.exp
theorem CR.need_of {q:CR} {ays:List D} {H:Hp} (h:q.need ays H):Zp ays (q.c.args.map (D.ren q.r))=q.c.args.map (D.ren q.r)∧Ri H q.r q.c.H0:=by
 have h1:=(Prod.mk.inj h).1
 have h2:=(Prod.mk.inj h).2
 refine⟨h1,?_⟩
 have :∀(A:Hc),(A.map fun p=>AS H (q.r p.1))=(A.map fun p=>some (p.2.ren q.r))→Ri H q.r A:=by
  intro A
  induction A with
  |nil=>exact fun _=>trivial
  |cons p A ih=>
   intro h
   simp only[List.map_cons,List.cons.injEq]at h
   exact⟨h.1,ih h.2⟩
 exact this _ h2
end Go.Sx
namespace Go.Sx
open Go.Mi Go.RowKit
variable [Dfr]
theorem TG {a b:Ny} {k:Nat}:rn (a++b) k=if k∈An a then rn a k else rn b k:=by
 induction a with
 |nil=>simp [An]
 |cons p a ih=>
  obtain⟨s,t⟩:=p
  simp only[List.cons_append,rn]
  by_cases e:s=k
  ·subst e;simp [An]
  ·rw[Bb e]
   have :¬k=s:=fun h=>e h.symm
   simp only[cond_false,ih,An,List.map_cons,List.mem_cons,this,false_or]
   rfl
theorem EE:∀{l:List Nat},Gq l=true→l.Nodup
 |[],_=>List.nodup_nil
 |x::xs,h=>by
  simp only[Gq,Bool.and_eq_true,Bool.not_eq_true']at h
  refine List.nodup_cons.2 ⟨fun hm=> ?_,EE h.2⟩
  rw[AN.2 hm]at h
  cases h.1
def tM:Ny→Nat→Option Nat
 |[],_=>none
 |(s,t)::r,k=>bif Nat.beq t k then some s else tM r k
theorem Et:∀{a:Ny} {k:Nat},(An a).Nodup→k∈An a→(k,rn a k)∈a
 |(s,t)::r,k,hn,h=>by
  simp only[An,List.map_cons,List.nodup_cons,List.mem_cons]at hn h
  simp only[rn]
  by_cases e:s=k
  ·subst e;simp
  ·rw[Bb e]
   exact List.mem_cons_of_mem _ (Et hn.2 (h.resolve_left fun h=>e h.symm))
theorem PD:∀{a:Ny} {k t:Nat},(An a).Nodup→(k,t)∈a→rn a k=t
 |(s,u)::r,k,t,hn,h=>by
  simp only[An,List.map_cons,List.nodup_cons]at hn
  simp only[rn]
  rcases List.mem_cons.1 h with h|h
  ·cases h;simp
  ·have :¬s=k:=fun e=>hn.1 (e▸List.mem_map.2 ⟨_,h,rfl⟩)
   rw[Bb this]
   exact PD hn.2 h
theorem Gu:∀{a:Ny} {k t:Nat},(a.map (·.2)).Nodup→(k,t)∈a→tM a t=some k
 |(s,u)::r,k,t,hn,h=>by
  simp only[List.map_cons,List.nodup_cons]at hn
  simp only[tM]
  rcases List.mem_cons.1 h with h|h
  ·cases h;simp
  ·have :¬u=t:=fun e=>hn.1 (e▸List.mem_map.2 ⟨_,h,rfl⟩)
   rw[Bb this]
   exact Gu hn.2 h
theorem Uq:∀{a:Ny} {k t:Nat},tM a t=some k→(k,t)∈a
 |(s,u)::r,k,t,h=>by
  simp only[tM]at h
  by_cases e:u=t
  ·subst e;simp at h;subst h;simp
  ·rw[Bb e]at h;exact List.mem_cons_of_mem _ (Uq h)
structure CRok (q:CR):Prop where
 args:∀d∈q.c.args,d.plain=true∧∀k∈d.nm,k∈An q.ρ
 h0:∀k o,DF q.c.H0 k=some o→k∈An q.ρ∧o.plain=true∧∀j∈o.nm,j∈An q.ρ
 dom:∀k∈An q.ρ,k∈An q.c.H0
 res:q.c.res.plain=true∧∀k∈q.c.res.nm,k∈An (q.ρ++q.σ)
 h1:∀k o,DF q.c.H1 k=some o→k∈An (q.ρ++q.σ)∧o.plain=true∧∀j∈o.nm,j∈An (q.ρ++q.σ)
 new:∀k∈An q.σ,k∈An q.c.H1∧k∉An q.ρ
 inj:(q.ρ.map (·.2)).Nodup
 inj2:(q.σ.map (·.2)).Nodup
 nod:(An (q.ρ++q.σ)).Nodup
theorem JF:∀{A:Hc} {k:Nat} {o:O},DF A k=some o→(k,o)∈A
 |(s,u)::r,k,o,h=>by
  simp only[DF]at h
  by_cases e:s=k
  ·subst e;simp at h;subst h;simp
  ·rw[Bb e]at h;exact List.mem_cons_of_mem _ (JF h)
theorem CRok.of {q:CR} (h:q.chk=true):CRok q:=by
 simp only[CR.chk,Bool.and_eq_true,List.all_eq_true]at h
 obtain⟨⟨⟨⟨⟨⟨⟨⟨⟨c1,c2⟩,c3⟩,c4⟩,c5⟩,c6⟩,c7⟩,c8⟩,c9⟩,_⟩:=h
 have nm:∀{ks:List Nat} {d:D},D_ ks d=true→d.plain=true∧∀k∈d.nm,k∈ks:=fun {ks d} h=>by
  simp only[D_,Bool.and_eq_true,List.all_eq_true]at h
  exact⟨h.1,fun k hk=>AN.1 (h.2 k hk)⟩
 have nmO:∀{ks:List Nat} {d:O},Ec ks d=true→d.plain=true∧∀k∈d.nm,k∈ks:=fun {ks d} h=>by
  simp only[Ec,Bool.and_eq_true,List.all_eq_true]at h
  exact⟨h.1,fun k hk=>AN.1 (h.2 k hk)⟩
 refine⟨fun d hd=>nm (c1 d hd),fun k o ho=> ?_,fun k hk=>AN.1 (c3 k hk),nm c4,fun k o ho=> ?_,fun k hk=> ?_,EE c7,EE c8,EE c9⟩
 ·have :=c2 _ (JF ho)
  simp only at this
  exact⟨AN.1 this.1,nmO this.2⟩
 ·have :=c5 _ (JF ho)
  simp only at this
  exact⟨AN.1 this.1,nmO this.2⟩
 ·have :=c6 k hk
  simp only[Bool.not_eq_true']at this
  exact⟨AN.1 this.1,fun hm=>by rw[AN.2 hm]at this;cases this.2⟩
theorem MU {H:Hp} {r:Nat→Nat}:∀{A:Hc} {k:Nat} {o:O},Ri H r A→DF A k=some o→AS H (r k)=some (o.ren r)
 |(s,u)::rest,k,o,h,hk=>by
  simp only[DF]at hk
  by_cases e:s=k
  ·subst e;simp at hk;subst hk;exact h.1
  ·rw[Bb e]at hk;exact MU h.2 hk
theorem Nt {r:Nat→Nat}:∀(ds:List D),chain (ds.map (D.ren r))=(chain ds).ren r
 |[]=>rfl
 |d::ds=>by simp only[List.map_cons,chain,D.ren,Nt ds]
theorem Jh:∀{ds:List D},(∀d∈ds,d.plain=true)→(chain ds).plain=true
 |[],_=>rfl
 |d::ds,h=>by simp only[chain,D.plain,h d (List.mem_cons_self ..),Jh fun d hd=>h d (List.mem_cons_of_mem _ hd),Bool.and_self]
theorem QZ:∀{ds:List D} {k:Nat},k∈(chain ds).nm→∃d∈ds,k∈d.nm
 |[],k,h=>by simp [chain,D.nm]at h
 |d::ds,k,h=>by
  simp only[chain,D.nm,List.mem_append]at h
  rcases h with h|h
  ·exact⟨d,List.mem_cons_self ..,h⟩
  ·obtain⟨e,h1,h2⟩:=QZ h;exact⟨e,List.mem_cons_of_mem _ h1,h2⟩
section
variable {P:Program} {g:G} {w:World} {H:Hp}
theorem K7 {E : Value → Ending} {q : CR} (hq : CRok q) (hc : Zl E P q.f q.c) (hH0 : Ri H q.r q.c.H0) (hS : HS (BF (q.eff.rd ++ An q.eff.wr) (AS H)) g w) (hnew : ∀ p ∈ q.eff.nw, g.N p.1 = none) {vs : List Value} (hv : B4 g.X g.N w (chain (q.c.args.map (D.ren q.r))) true vs) :
  Calls P q.f vs.toArray w (fun e w'=>∃v,e=E v∧∃g',Post (AS H) q.eff g w v g' w'):=by
 have hr1:∀k∈An q.ρ,q.r k=rn q.ρ k:=fun k hk=>by simp only[CR.r,TG,hk,if_true]
 have hr2:∀k∈An q.σ,q.r k=rn q.σ k:=fun k hk=>by simp only[CR.r,TG,(hq.new k hk).2,if_false]
 have nd1:(An q.ρ).Nodup:=by
  have :=hq.nod
  simp only[An,List.map_append]at this
  exact(List.nodup_append.1 this).1
 have nd2:(An q.σ).Nodup:=by
  have :=hq.nod
  simp only[An,List.map_append]at this
  exact(List.nodup_append.1 this).2.1
 have hinj:∀i∈An q.ρ,∀j∈An q.ρ,q.r i=q.r j→i=j:=fun i hi j hj e=>by
  have h1:=Gu hq.inj (Et nd1 hi)
  have h2:=Gu hq.inj (Et nd1 hj)
  rw[←hr1 i hi,e,hr1 j hj,h2]at h1
  exact(Option.some.inj h1).symm
 have hwk:∀k∈An q.ρ,q.r k∈An q.eff.wr:=fun k hk=>by
  simp only[CR.eff,An,List.map_map]
  exact List.mem_map.2 ⟨_,Et nd1 hk,(hr1 k hk).symm⟩
 have hkw:∀k∈An q.eff.wr,∃j∈An q.ρ,k=q.r j:=fun k hk=>by
  simp only[CR.eff,An,List.map_map]at hk
  obtain⟨p,hp,rfl⟩:=List.mem_map.1 hk
  have h1:p.1∈An q.ρ:=List.mem_map.2 ⟨p,hp,rfl⟩
  exact⟨p.1,h1,by rw[hr1 _ h1,PD nd1 hp];rfl⟩
 have obj:∀k o,DF q.c.H0 k=some o→AS H (q.r k)=some (o.ren q.r)∧BF (q.eff.rd++An q.eff.wr) (AS H) (q.r k)=some (o.ren q.r):=fun k o ho=>by
  have h1:=MU hH0 ho
  exact⟨h1,by simp only[BF,AN.2 (List.mem_append_right q.eff.rd (hwk k (hq.h0 k o ho).1)),h1,cond_true]⟩
 have hsome:∀k∈An q.ρ,∃v,g.N (q.r k)=some v:=fun k hk=>by
  have :=FE.1 (hq.dom k hk)
  obtain⟨o,ho⟩:=Option.ne_none_iff_exists'.1 this
  have h1:=hS.os _ _ (obj k o ho).2
  cases o with
  |ob ty ds=>obtain⟨b,c,k1,_⟩:=h1;exact⟨_,k1⟩
  |sl ty e xs=>obtain⟨b,c,k1,_⟩:=h1;exact⟨_,k1⟩
 -- what the callee sees
 let gc:G:=⟨fun k=>if k∈An q.ρ then g.N (q.r k)else none,fun k=>g.F (q.r k),g.X⟩
 have gcN:∀k∈An q.ρ,gc.N k=g.N (q.r k):=fun k hk=>if_pos hk
 have hSc:HS (DF q.c.H0) gc w:=by
  refine⟨hS.wf,fun k o ho=> ?_,fun k o ho b hb=> ?_,fun k o k' o' ho ho' hne b hb hb'=> ?_⟩
  ·obtain⟨h1,h2,h3⟩:=hq.h0 k o ho
   exact(Jm h2 (fun j hj=>gcN j (h3 j hj)) (gcN k h1) rfl rfl).1 (hS.os _ _ (obj k o ho).2)
  ·exact hS.own _ _ (obj k o ho).2 b hb
  ·exact hS.dis _ _ _ _ (obj k o ho).2 (obj k' o' ho').2 (fun e=>hne (hinj k (hq.h0 k o ho).1 k' (hq.h0 k' o' ho').1 e)) b hb hb'
 have hvc:B4 gc.X gc.N w (chain q.c.args) true vs:=by
  rw[Nt]at hv
  refine(Fu _ _ _ (Jh fun d hd=>(hq.args d hd).1) fun k hk=> ?_).1 hv
  obtain⟨d,hd,hk⟩:=QZ hk
  exact gcN k ((hq.args d hd).2 k hk)
 refine(hc.2 vs gc w hSc (fun k v hk=> ?_) hvc).mono fun en w' ⟨v,he,g',hp⟩=>⟨v,he,?_⟩
 ·by_cases h:k∈An q.ρ
  ·exact hq.dom k h
  ·rw[show gc.N k=none from if_neg h]at hk;cases hk
 -- behind it
 have hnone:∀k∈An q.σ,g.N (q.r k)=none:=fun k hk=>by
  obtain⟨o,ho⟩:=Option.ne_none_iff_exists'.1 (FE.1 (hq.new k hk).1)
  refine hnew (q.r k,o.ren q.r) ?_
  simp only[CR.eff,List.mem_filterMap]
  exact⟨_,Et nd2 hk,by rw[ho,Option.map_some,hr2 k hk]⟩
 let G':G:=⟨fun k=>match g.N k with
  |some v=>some v
  |none=>(tM q.σ k).bind g'.N,fun k=>match g.N k with
  |some _=>g.F k
  |none=>match tM q.σ k with
   |some j=>g'.F j
   |none=>g.F k,g'.X⟩
 have GN:∀k∈An (q.ρ++q.σ),g'.N k=G'.N (q.r k):=fun k hk=>by
  simp only[An,List.map_append,List.mem_append]at hk
  rcases hk with hk|hk
  ·obtain⟨v,hv⟩:=hsome k hk
   have h1:gc.N k=some v:=(gcN k hk).trans hv
   rw[hp.go.n k v h1]
   simp only[G',hv]
  ·simp only[G',hnone k hk]
   rw[hr2 k hk,Gu hq.inj2 (Et nd2 hk)]
   rfl
 have GF:∀k∈An (q.ρ++q.σ),g'.F k=G'.F (q.r k):=fun k hk=>by
  simp only[An,List.map_append,List.mem_append]at hk
  rcases hk with hk|hk
  ·obtain⟨v,hv⟩:=hsome k hk
   have h1:gc.N k=some v:=(gcN k hk).trans hv
   rw[hp.go.f k v h1]
   simp only[G',hv]
   rfl
  ·simp only[G',hnone k hk]
   rw[hr2 k hk,Gu hq.inj2 (Et nd2 hk)]
 have hft:∀b,q.c.foot gc b→q.eff.foot (AS H) g b:=fun b ⟨k,o,h1,h2⟩=>⟨q.r k,hwk k (hq.h0 k o h1).1,_,(obj k o h1).1,h2⟩
 have hft2:∀b,q.eff.foot (AS H) g b→q.c.foot gc b:=fun b ⟨k,h1,o,h2,h3⟩=>by
  obtain⟨j,hj,rfl⟩:=hkw k h1
  obtain⟨o',ho'⟩:=Option.ne_none_iff_exists'.1 (FE.1 (hq.dom j hj))
  exact⟨j,o',ho',h3⟩
 have houts:∀k o,AS q.eff.outs k=some o→∃j o',j∈An (q.ρ++q.σ)∧k=q.r j∧DF q.c.H1 j=some o'∧o=o'.ren q.r:=by
  intro k o h
  have h:=BD.1 h
  rw[Eff.outs,JD]at h
  cases hw:Es q.eff.wr k with
  |some x=>
   rw[hw]at h
   cases h
   have :∀(a:Ny),(∀p∈a,p∈q.ρ)→Es (a.map fun p=>(p.2,(DF q.c.H1 p.1).map (O.ren q.r))) k=some (some o)→∃p∈q.ρ,p.2=k∧(DF q.c.H1 p.1).map (O.ren q.r)=some o:=by
    intro a
    induction a with
    |nil=>intro _ h;cases h
    |cons p a ih=>
     intro hm h
     simp only[List.map_cons,Es]at h
     by_cases e:p.2=k
     ·have hb:Nat.beq p.2 k=true:=by rw[e];exact Nat.beq_refl k
      rw[hb]at h
      simp only[cond_true,Option.some.injEq]at h
      exact⟨p,hm p (List.mem_cons_self ..),e,h⟩
     ·rw[Bb e]at h;exact ih (fun p hp=>hm p (List.mem_cons_of_mem _ hp)) h
   obtain⟨p,hp1,hp2,hp3⟩:=this q.ρ (fun _ h=>h) hw
   obtain⟨o',h1,h2⟩:=Option.map_eq_some_iff.1 hp3
   have h3:p.1∈An q.ρ:=List.mem_map.2 ⟨p,hp1,rfl⟩
   exact⟨p.1,o',by simp only[An,List.map_append,List.mem_append];exact .inl h3,by rw[hr1 _ h3,PD nd1 hp1,hp2],h1,h2.symm⟩
  |none=>
   rw[hw]at h
   have :∀(a:List (Nat×O)),Es (a.map fun p=>(p.1,some p.2)) k=some (some o)→(k,o)∈a:=by
    intro a
    induction a with
    |nil=>intro h;cases h
    |cons p a ih=>
     intro h
     obtain⟨s,u⟩:=p
     simp only[List.map_cons,Es]at h
     by_cases e:s=k
     ·subst e;simp at h;subst h;simp
     ·rw[Bb e]at h;exact List.mem_cons_of_mem _ (ih h)
   have hm:=this _ h
   simp only[CR.eff,List.mem_filterMap]at hm
   obtain⟨p,hp1,hp2⟩:=hm
   obtain⟨o',h1,h2⟩:=Option.map_eq_some_iff.1 hp2
   cases h2
   have h3:p.1∈An q.σ:=List.mem_map.2 ⟨p,hp1,rfl⟩
   exact⟨p.1,o',by simp only[An,List.map_append,List.mem_append];exact .inr h3,by rw[hr2 _ h3,PD nd2 hp1],h1,rfl⟩
 refine⟨G',⟨⟨⟨hp.go.ch.os,hp.go.ch.tape,hp.go.ch.output,hp.go.ch.size,fun b hb hn=>hp.go.ch.blk b hb fun h=>hn (hft b h)⟩,fun x hx=>hp.go.s x (hft2 x hx),hp.go.x,fun x hx hn=>hp.go.k x hx fun h=>hn (hft x h),fun k u hk=>by simp only[G',hk],fun k u hk=>by simp only[G',hk]⟩,?_,⟨hp.hs.wf,fun k o h=> ?_,fun k o h b hb=> ?_,fun k o k' o' h h' hne b hb hb'=> ?_⟩,fun k o h b hb=> ?_,fun k u hk=> ?_⟩⟩
 ·exact(Fu q.c.res _ _ hq.res.1 fun k hk=>GN k (hq.res.2 k hk)).2 hp.r
 ·obtain⟨j,o',h1,rfl,h2,rfl⟩:=houts k o h
  obtain⟨h3,h4,h5⟩:=hq.h1 j o' h2
  exact(Jm h4 (fun i hi=>GN i (h5 i hi)) (GN j h3) (GF j h3) rfl).2 (hp.hs.os j o' h2)
 ·obtain⟨j,o',h1,rfl,h2,rfl⟩:=houts k o h
  rw[←GF j h1]at hb
  exact hp.hs.own j o' h2 b hb
 ·obtain⟨j,o2,h1,rfl,h2,rfl⟩:=houts k o h
  obtain⟨j',o2',h1',rfl,h2',rfl⟩:=houts k' o' h'
  rw[←GF j h1]at hb
  rw[←GF j' h1']at hb'
  exact hp.hs.dis j o2 j' o2' h2 h2' (fun e=>hne (by rw[e])) b hb hb'
 ·obtain⟨j,o',h1,rfl,h2,rfl⟩:=houts k o h
  rw[←GF j h1]at hb
  exact(hp.fp j o' h2 b hb).imp (hft b) id
 ·simp only[G']at hk
  cases hg:g.N k with
  |some v=>rw[hg]at hk;simp only at hk;exact .inl hk
  |none=>
   rw[hg]at hk
   simp only at hk
   obtain⟨j,hj,_⟩:=Option.bind_eq_some_iff.1 hk
   have hm:=Uq hj
   have h3:j∈An q.σ:=List.mem_map.2 ⟨_,hm,rfl⟩
   obtain⟨o,ho⟩:=Option.ne_none_iff_exists'.1 (FE.1 (hq.new j h3).1)
   refine .inr (List.mem_map.2 ⟨(k,o.ren q.r),?_,rfl⟩)
   simp only[CR.eff,List.mem_filterMap]
   exact⟨_,hm,by rw[ho];rfl⟩
theorem fB {q : CR} (hq : CRok q) (hc : ConOk P q.f q.c) (hH0 : Ri H q.r q.c.H0) (hS : HS (BF (q.eff.rd ++ An q.eff.wr) (AS H)) g w) (hnew : ∀ p ∈ q.eff.nw, g.N p.1 = none) {vs : List Value} (hv : B4 g.X g.N w (chain (q.c.args.map (D.ren q.r))) true vs) :
  Calls P q.f vs.toArray w (Rh fun v w'=>∃g',Post (AS H) q.eff g w v g' w'):=
 K7 (E:= .returned) hq hc hH0 hS hnew hv
end
end Go.Sx
namespace Go.Sx
open Go.Mi Go.RowKit
variable [Dfr]
def Aap (P:Program) (t:TypeId):Option (Nat×Bool×Nat):=match P.underlying t with
 |some (.array len e)=>(NX P e).map fun p=>(len,p)
 |_=>none
def oQ (P:Program) (L:DL) (t:TypeId) (x y:Operand):Option (D×List Prop):=match Eb L x,Eb L y,Aap P t with
 | some (.ar k n f), some (.v (.int _ i)), some (len, fl, m) => bif Nat.ble (len * m) n then (bif fl then (bif Nat.beq m 1 then some (.v (.int k (f (wC 0 i.toNat m))), [0 ≤ i ∧ i < (len : Int)]) else none)
   else some (.ar k m fun j=>f (wC 0 i.toNat m+j),[0≤i∧i<(len:Int)]))else none
 |some (.ag d),some (.v (.int _ i)),some (len,fl,m)=>((It (GV d) (i.toNat*m) m).bind (H4 fl)).map fun r=>(r,[0≤i∧i<(len:Int)])
 |_,_,_=>none
section
variable {P:Program} {n:Nat} {L:DL} {ds:Option Nat} {ty:TypeId} {pos:String} {af:Array Edge} {gu:Option (Nat×Bool)} {g:G} {w:World}
theorem cY {t:TypeId} {fl:Bool} {m o:Nat} {r:List D} {d:D} {cs:Array Value} (ht:NX P t=some (fl,m)) (hl:o+m≤cs.size) (hs:CI g.X g.N w r ((cs.toList.drop o).take m)) (ho:∀u∈cs.toList,u.oneCell'=true) (hf:H4 fl r=some d):∃v,Sm g w d v∧(part t cs o).run P w= .ok v w:=by
 obtain⟨td,h1,h2,h3⟩:=EP ht
 unfold H4 at hf
 cases fl with
 |true=>
  simp only[cond_true]at hf
  split at hf
  ·rename_i d0
   obtain⟨v,hv,h4⟩:=Ua (CP.1 hs) hf
   refine⟨v,h4,cZ h1 h2 ?_⟩
   have :=congrArg (·[0]?) hv
   simp only[List.getElem?_cons_zero,List.getElem?_take,List.getElem?_drop,Nat.add_zero]at this
   split at this
   ·rw[←Array.getElem?_toList];exact this
   ·cases this
  ·cases hf
 |false=>
  simp only[cond_false,Option.some.injEq]at hf
  subst hf
  refine⟨_,Uh hs fun u hu=>ho u (List.mem_of_mem_drop (List.mem_of_mem_take hu)),?_⟩
  obtain⟨inf,hi,hz⟩:=Option.map_eq_some_iff.1 h3
  have hag:(isAgg t).run P w= .ok true w:=by
   simp only[isAgg,Sem.run_bind,Ak h1,Result.andThen_ok]
   cases td<;>simp_all [TypeDesc.flat]
  have e1:cs.extract o (o+m)=((cs.toList.drop o).take m).toArray:=by
   apply Array.ext'
   simp
  simp [part,hag,sizeOf,typeInfo,hi,hz,e1]
theorem oP {t:TypeId} {x y:Operand} {d:D} {ps:List Prop} (h:oQ P L t x y=some (d,ps)):PureOk P n ⟨ds,.index t x y,ty,pos,af,gu⟩ L d ps:=by
 intro hp ξ g w hH _
 have ae:∀{len m:Nat} {fl:Bool},Aap P t=some (len,fl,m)→∃e,P.underlying t=some (.array len e)∧NX P e=some (fl,m):=fun {len m fl} h=>by
  unfold Aap at h
  split at h
  ·rename_i len' e hu
   obtain⟨⟨f',m'⟩,h1,h2⟩:=Option.map_eq_some_iff.1 h
   cases h2
   exact⟨e,hu,h1⟩
  ·cases h
 have fin:∀{len m:Nat} {fl:Bool} {k:IntKind} {i:Int} {cs:Array Value} {r:List D} {d:D},Aap P t=some (len,fl,m)→ev (Lf L ξ) x=some (.agg cs)→ev (Lf L ξ) y=some (.int k i)→0≤i→i<(len:Int)→i.toNat*m+m≤cs.size→CI g.X g.N w r ((cs.toList.drop (i.toNat*m)).take m)→(∀u∈cs.toList,u.oneCell'=true)→H4 fl r=some d→∃v,Sm g w d v∧Det P ⟨ds,.index t x y,ty,pos,af,gu⟩ n (Lf L ξ) w v w:=by
  intro len m fl k i cs r d ha hx hy h0 h1 hl hs ho hf
  obtain⟨e,u1,u2⟩:=ae ha
  obtain⟨v,h2,h3⟩:=cY u2 hl hs ho hf
  obtain⟨td,t1,t2,t3⟩:=EP u2
  obtain⟨inf,hi,hz⟩:=Option.map_eq_some_iff.1 t3
  refine⟨v,h2,Det.of_run fun a hF=> ?_⟩
  simp [execOp,hF.eval hx,hF.eval hy,Instr.index,asIntOf,Ak u1,h0,h1,sizeOf,typeInfo,hi,hz,h3]
 unfold oQ at h
 split at h
 ·rename_i k nn f k' i len fl m hx hy ha
  cases hb:Nat.ble (len*m) nn with
  |false=>rw[hb]at h;cases h
  |true=>
   rw[hb]at h
   have hb:=Nat.le_of_ble_eq_true hb
   obtain⟨v,hv,hs⟩:=A4 hH hx
   have hs':[v]=[.agg (cells k nn f).toArray]:=hs
   cases(List.cons.inj hs').1
   have one:∀u∈(cells k nn f).toArray.toList,u.oneCell'=true:=fun u hu=>by
    simp only[cells,List.mem_map]at hu
    obtain⟨_,_,rfl⟩:=hu
    rfl
   have key:0≤i→i<(len:Int)→i.toNat*m+m≤(cells k nn f).toArray.size∧((cells k nn f).toArray.toList.drop (i.toNat*m)).take m=cells k m fun j=>f (i.toNat*m+j):=fun h0 h1=>by
    have h2:(i.toNat+1)*m≤len*m:=Nat.mul_le_mul_right _ (by omega)
    rw[Nat.add_mul,Nat.one_mul]at h2
    refine⟨by simp [cells];omega,?_⟩
    apply List.ext_getElem?
    intro j
    rw[List.getElem?_take,List.getElem?_drop]
    by_cases hj:j<m
    ·rw[if_pos hj,Bz hj]
     exact Bz (by omega)
    ·rw[if_neg hj,List.getElem?_eq_none (by rw[A7];omega)]
   cases fl with
   |true=>
    simp only[cond_true]at h
    cases hm:Nat.beq m 1 with
    |false=>rw[hm]at h;cases h
    |true=>
     rw[hm]at h
     have :=Nat.eq_of_beq_eq_true hm
     subst this
     cases h
     obtain⟨k1,k2⟩:=key hp.1.1 hp.1.2
     refine fin ha hv (Bo hH hy) hp.1.1 hp.1.2 k1 (r:=[.ar k 1 fun j=>f (i.toNat*1+j)]) (by rw[k2];exact CP.2 rfl) one ?_
     simp only[H4,vL,cond_true,Nat.beq_refl,No,Nat.zero_add,Nat.add_zero]
   |false=>
    cases h
    obtain⟨k1,k2⟩:=key hp.1.1 hp.1.2
    refine fin ha hv (Bo hH hy) hp.1.1 hp.1.2 k1 (r:=[.ar k m fun j=>f (i.toNat*m+j)]) (by rw[k2];exact CP.2 rfl) one ?_
    simp only[H4,mk1,cond_false,No,Nat.zero_add]
 ·rename_i d0 k' i len fl m hx hy ha
  obtain⟨r,h1,h2⟩:=Option.map_eq_some_iff.1 h
  cases h2
  obtain⟨ss,h3,h4⟩:=Option.bind_eq_some_iff.1 h1
  obtain⟨v,hv,l',k1,k2,k3⟩:=A4 hH hx
  cases(List.cons.inj k3).1
  obtain⟨q1,q2⟩:=GR (Dq k1) h3
  by_cases hm:m=0
  ·subst hm
   obtain⟨e,u1,u2⟩:=ae ha
   have hr:ss=[]:=by cases hsd:GV d0<;>simp [hsd,It]at h3<;>exact h3
   subst hr
   cases fl with
   |true=>simp [H4]at h4
   |false=>
    simp only[H4,cond_false,Option.some.injEq]at h4
    subst h4
    obtain⟨td,t1,t2,t3⟩:=EP u2
    obtain⟨inf,hi,hz⟩:=Option.map_eq_some_iff.1 t3
    have hag:(isAgg e).run P w= .ok true w:=by
     simp only[isAgg,Sem.run_bind,Ak t1,Result.andThen_ok]
     cases td<;>simp_all [TypeDesc.flat]
    refine⟨.agg #[],⟨[],rfl,by simp,rfl⟩,Det.of_run fun a hF=> ?_⟩
    have e0:(Array.extract l'.toArray 0 0)= #[]:=by apply Array.ext';simp
    simp [execOp,hF.eval hv,hF.eval (Bo hH hy),Instr.index,asIntOf,Ak u1,hp.1.1,hp.1.2,sizeOf,typeInfo,hi,hz,part,hag]
  ·rw[if_neg hm]at q2
   exact fin ha hv (Bo hH hy) hp.1.1 hp.1.2 (by simpa using q2) (by simpa using q1) (by simpa using k2) h4
 ·cases h
end
end Go.Sx
namespace Go.Sx
open Go.Mi Go.RowKit
variable [Dfr]
theorem N3 (z:Value) (m:Nat):(Builtin.zeroCells #[z] m).toList=List.replicate m z:=by
 unfold Builtin.zeroCells
 apply List.ext_getElem
 ·simp
 ·intro i h1 h2
  simp [Nat.mod_one]
theorem Zn (z:Value) (m:Nat):(Builtin.zeroCells #[z] m).size=m:=by rw[←Array.length_toList,N3];simp
section
variable {P:Program} {n:Nat} {ds:Option Nat} {ty:TypeId} {pos:String} {af:Array Edge} {gu:Option (Nat×Bool)} {w:World}
theorem vO {s x : Operand} {t tn te : TypeId} {inf : TypeInfo} {z v : Value} {k : Nat} {kk kn : IntKind} {xs : List Value} {m : Nat} {Lv : List (Nat × Value)} (ht : P.underlying t = some (.slice te)) (htn : P.underlying tn = some (.int kn)) (hi : P.info? te = some inf) (hz : inf.zero = some z) (hm : inf.size = 1) (hzs : z.oneCell' = true)
  (hs:ev Lv s=some v) (hx:ev Lv x=some (.int kk m)) (hown:Own w 0 te 1 v k xs) (h63:k+m≤9223372036854775807) (hby:(k+m)*inf.bytes≤140737488355328):
  Ok1 P ⟨ds,.call ⟨.builtin .append,#[s,x],#[t,tn]⟩,ty,pos,af,gu⟩ n Lv w fun v' w'=>Own w' 0 te 1 v' (k+m) (xs++List.replicate m z)∧Ch (Cd v) w w'∧(Cd v'=Cd v∨Cd v'=[w.heap.size]):=by
 have hzc:z.cells= #[z]:=by cases z<;>simp_all [Value.cells,Value.oneCell']
 have hwr:IntKind.i64.wrap (m:Int)=m:=Ed (by omega) (by omega)
 have hw0:IntKind.i64.wrap 0=0:=rfl
 have hneg:¬((m:Int)<0):=by omega
 have hbm:m*inf.bytes≤140737488355328:=Nat.le_trans (Nat.mul_le_mul_right _ (by omega)) hby
 have h48i:¬(281474976710656<(m:Int)*(inf.bytes:Int)):=by
  rw[←Int.natCast_mul];omega
 have run:∀{v' w'},(Builtin.append_ #[t,tn] ty #[v,.int kk m]).run P w= .ok v' w'→Det P ⟨ds,.call ⟨.builtin .append,#[s,x],#[t,tn]⟩,ty,pos,af,gu⟩ n Lv w v' w':=fun hr=>Det.of_run fun a hF=>by
  simp [execOp,hF.eval hs,hF.eval hx,resolve,invoke,builtin,hr]
 rcases hown.2 with⟨rfl,rfl⟩|⟨b,cap,cur,rfl,_,hb,hc,hc2,hcs,hct⟩
 ·have hx0:xs=[]:=List.eq_nil_of_length_eq_zero (by simpa using hown.1)
  subst hx0
  rcases Nat.eq_zero_or_pos m with rfl|hpos
  ·refine(run (v':=vN) (w':=w) ?_).mono fun v' w' ⟨e1,e2⟩=> ?_
   ·simp [Builtin.append_,Ak ht,Ak htn,sizeOf,typeInfo,hi,asInt,asIntOf,hw0]
   ·subst e1;subst e2
    exact⟨⟨by simp,.inl ⟨rfl,rfl⟩⟩,Ch.refl _ _,.inl rfl⟩
  ·have hr:=Lib.run_append_grow_zeros (P:=P) w t tn ty te inf z kk kn ht htn hi hz none 0 0 [] (run_firstCells_none w.drew _ 0 0 0) m hpos (by omega) (by omega) (by omega) (by omega) (growslice_fits (need:=0+m) (old:=0) (by omega) hby)
   refine(run hr).mono fun v' w' ⟨e1,e2⟩=> ?_
   subst e1;subst e2
   obtain⟨G,hG⟩:∃G,G=grownCap w (0+m) 0 te:=⟨_,rfl⟩
   have hGn:0+m≤grownCap w (0+m) 0 te:=grownCap_ge w _ _ _
   have hG63:=grownCap_le_maxLen w (0+m) 0 te (by unfold maxLen;omega)
   rw[←hG]at hGn hG63⊢
   have hch:Ch [] w w.drew:=⟨rfl,rfl,rfl,Nat.le_refl _,fun _ _ _=>rfl⟩
   have hnb:NewB w.drew (w.drew.alloc (.cells (([]:List Value).toArray++Builtin.zeroCells z.cells m++Builtin.zeroCells z.cells (G-(0+m))) te)) w.heap.size _ te:=⟨rfl,rfl⟩
   refine⟨⟨by simp,.inr ⟨_,G,_,rfl,Nat.zero_le _,(NewB.at hnb).2.1,hGn,hG63,?_,?_⟩⟩,?_,.inr rfl⟩
   ·rw[hzc]
    simp only[Array.size_append,Zn]
    simp;omega
   ·rw[hzc]
    simp only[Array.toList_append,N3]
    simp
   ·exact(hch.trans hnb.ch).mono (by simp)
 ·by_cases hroom:k+m≤cap
  ·have hfit:0+k*inf.size+(List.replicate m z).length≤cur.size:=by rw[hm,hcs];simp;omega
   have hst:=run_storeCells_at P b (0+k*inf.size) te (List.replicate m z) 0 cur w hb (by simpa using hfit) (fun u hu=>by rw[(List.mem_replicate.1 hu).2];exact hzs)
   have happ:(Builtin.append_ #[t,tn] ty #[vS b 0 k cap,.int kk m]).run P w= .ok (vS b 0 (k+m) cap) (w.setRow b (cur.toList.take (0+k*inf.size)++List.replicate m z++cur.toList.drop (0+k*inf.size+m)).toArray):=by
    rcases Nat.eq_zero_or_pos m with rfl|hpos
    ·have e0:(cur.toList.take (0+k*inf.size)++List.replicate 0 z++cur.toList.drop (0+k*inf.size+0)).toArray=cur:=by simp
     rw[e0,setRow_self w b cur te (0,0) hb]
     have h5:(storeCells ((⟨b,0,none⟩:Addr).add (k*inf.size)) []).run P w= .ok () w:=rfl
     simp [Builtin.append_,Ak ht,Ak htn,sizeOf,typeInfo,hi,asInt,asIntOf,hw0,h5]
     exact fun h=>by omega
    ·have hns:¬(m*inf.size=0):=Nat.mul_ne_zero (by omega) (by omega)
     have e1:(Builtin.zeroCells z.cells m).toList=List.replicate m z:=by rw[hzc,N3]
     have hst2:(storeCells ((⟨b,0,none⟩:Addr).add (k*inf.size)) (List.replicate m z)).run P w= .ok () (w.setRow b (cur.toList.take (0+k*inf.size)++List.replicate m z++cur.toList.drop (0+k*inf.size+m)).toArray):=by
      rw[CY]
      simpa using hst
     simp [Builtin.append_,Ak ht,Ak htn,sizeOf,typeInfo,zeroValue,hi,hz,asInt,asIntOf,hwr,hroom,hneg,h48i,hns,e1,hst2]
   refine(run happ).mono fun v' w' ⟨e1,e2⟩=> ?_
   subst e1;subst e2
   have hkc:(cur.toList.take (0+k*inf.size))=xs:=by rw[hm];simpa using hct
   refine⟨⟨by rw[List.length_append,hown.1];simp,.inr ⟨b,cap,_,rfl,Nat.zero_le _,setRow_heap w b cur _ te _ hb,hroom,hc2,?_,?_⟩⟩,⟨rfl,rfl,rfl,by simp,fun j _ hn=>setRow_other w b j _ fun e=>hn (by simp [Cd,e])⟩,.inl rfl⟩
   ·have h1:=hown.1
    have hcl:cur.toList.length=cur.size:=Array.length_toList
    simp only[List.size_toArray,List.length_append,hkc,List.length_replicate,List.length_drop]
    rw[hm]
    omega
   ·rw[hkc]
    have h1:=hown.1
    rw[List.take_append_of_le_length (by simp;omega),List.take_of_length_le (by simp;omega)]
  ·have hold : (Builtin.firstCells inf.size k (vS b 0 k cap)).run P w.drew = .ok xs.toArray w.drew := by
    have ha:At w.drew b 0 xs:=by
     rcases hown.at with⟨h1,_⟩|⟨b',cap',h1,_,h2⟩
     ·cases h1
     ·cases h1;exact h2
    have :=run_loadCells_list (P:=P) w.drew ⟨b,0,none⟩ xs (fun j u hj=>by rw[CY];exact ha j u hj)
    simp only[Builtin.firstCells]
    rw[show k*inf.size=xs.length by rw[hown.1,hm]]
    exact this
   have hr:=Lib.run_append_grow_zeros (P:=P) w t tn ty te inf z kk kn ht htn hi hz (some ⟨b,0,none⟩) k cap xs hold m (by omega) (by omega) (by omega) (by omega) (by omega) (growslice_fits (need:=k+m) (old:=cap) (by omega) hby)
   refine(run hr).mono fun v' w' ⟨e1,e2⟩=> ?_
   subst e1;subst e2
   obtain⟨G,hG⟩:∃G,G=grownCap w (k+m) cap te:=⟨_,rfl⟩
   have hGn:k+m≤grownCap w (k+m) cap te:=grownCap_ge w _ _ _
   have hG63:=grownCap_le_maxLen w (k+m) cap te (by unfold maxLen;omega)
   rw[←hG]at hGn hG63⊢
   have hch:Ch [] w w.drew:=⟨rfl,rfl,rfl,Nat.le_refl _,fun _ _ _=>rfl⟩
   have hnb:NewB w.drew (w.drew.alloc (.cells (xs.toArray++Builtin.zeroCells z.cells m++Builtin.zeroCells z.cells (G-(k+m))) te)) w.heap.size _ te:=⟨rfl,rfl⟩
   have h1:=hown.1
   refine⟨⟨by rw[List.length_append,hown.1];simp,.inr ⟨_,G,_,rfl,Nat.zero_le _,(NewB.at hnb).2.1,hGn,hG63,?_,?_⟩⟩,?_,.inr rfl⟩
   ·rw[hzc]
    simp only[Array.size_append,Zn]
    simp;omega
   ·rw[hzc]
    simp only[Array.toList_append,N3,List.append_assoc]
    rw[←List.append_assoc,List.take_append_of_le_length (by simp;omega),List.take_of_length_le (by simp;omega)]
   ·exact(hch.trans hnb.ch).mono (by simp)
structure Az where
 te:TypeId
 a:Fk
 xs:List a.T
 q:a.T
 i:Int
 wr:Hp
 bytes:Nat
def aO (P:Program) (t:TypeId):Bool:=match P.underlying t with
 |some (.int _)=>true
 |_=>false
def Ad7:(e:List Fk)→List (RT e)→Option (Σ a:Fk,List a.T)
 |[a],xs=>some ⟨a,xs⟩
 |_,_=>none
def xE (P:Program) (K:Kt) (L:DL) (H:Hp) (t tn:TypeId) (s x:Operand):Option Az:=bif aO P tn then(match K4 P t,Eb L s,Eb L x with
 |some te,some (.v (.slice none 0 0)),some (.v (.int _ i))=>(match P.info? te,lkK K te with
  |some inf,some [a]=>(match inf.zero with
   |some z=>bif Nat.beq inf.size 1&&z.oneCell' then(iP a (.v z)).map fun q=>⟨te,a,[],q,i,[],inf.bytes⟩else none
   |none=>none)
  |_,_=>none)
 |some te,some (.sk k),some (.v (.int _ i))=>(match P.info? te,AS H k with
  |some inf,some (.sl te' e xs)=>(match inf.zero,Ad7 e xs with
   |some z,some ⟨a,ys⟩=>bif Nat.beq inf.size 1&&z.oneCell'&&Nat.beq te te'&&Nat.beq e.length 1 then(iP a (.v z)).map fun q=>⟨te,a,ys,q,i,[(k,none)],inf.bytes⟩else none
   |_,_=>none)
  |_,_=>none)
 |_,_,_=>none)else none
def Az.eff (A:Az) (nb:Nat):Eff×List Prop:=(⟨[],A.wr,[(nb,.sl A.te [A.a] (A.xs++List.replicate A.i.toNat A.q))],.sk nb⟩,[0≤A.i,A.xs.length+A.i.toNat≤9223372036854775807,(A.xs.length+A.i.toNat)*A.bytes≤140737488355328])
theorem vK:∀{e:List Fk} {xs:List (RT e)} {a:Fk} {ys:List a.T},Ad7 e xs=some ⟨a,ys⟩→e=[a]∧HEq xs ys
 |[a],xs,a',ys,h=>by
  cases h
  exact⟨rfl,HEq.rfl⟩
 |[],xs,a',ys,h=>by cases h
 |_::_::_,xs,a',ys,h=>by cases h
theorem xD {K:Kt} {L:DL} {H:Hp} {t tn:TypeId} {s x:Operand} {A:Az} {nb:Nat} (h:xE P K L H t tn s x=some A) (hp:AllP (A.eff nb).2):EOk P n ⟨ds,.call ⟨.builtin .append,#[s,x],#[t,tn]⟩,ty,pos,af,gu⟩ L (AS H) (A.eff nb).1:=by
 have hI:∃kn,P.underlying tn=some (.int kn):=by
  unfold xE at h
  cases hb:aO P tn with
  |false=>rw[hb]at h;cases h
  |true=>
   unfold aO at hb
   split at hb
   ·rename_i kn hu;exact⟨kn,hu⟩
   ·cases hb
 obtain⟨kn,htn⟩:=hI
 obtain⟨p1,p2,p3,_⟩:=hp
 intro ξ g w hS hH hn
 have hS':HS (BF ([]++An A.wr) (AS H)) g w:=hS
 have key:∃inf z v u kk,P.underlying t=some (.slice A.te)∧P.info? A.te=some inf∧inf.zero=some z∧inf.size=1∧z.oneCell'=true∧inf.bytes=A.bytes∧fS g.X g.N w A.a A.q z∧ev (Lf L ξ) s=some v∧ev (Lf L ξ) x=some u∧u= .int kk A.i∧(∃ls,Own w 0 A.te 1 v A.xs.length ls.flatten∧Fa2 (rS g.X g.N w [A.a]) A.xs ls)∧((A.wr=[]∧Cd v=[])∨∃k o,A.wr=[(k,none)]∧AS H k=some o∧g.F k=Cd v):=by
  unfold xE at h
  cases hb:aO P tn with
  |false=>rw[hb]at h;cases h
  |true=>
   rw[hb]at h
   simp only[cond_true]at h
   split at h
   ·rename_i te kk i he hs hx
    split at h
    ·rename_i inf a hi hk
     split at h
     ·rename_i z hz
      cases hc:Nat.beq inf.size 1&&z.oneCell' with
      |false=>rw[hc]at h;cases h
      |true=>
       rw[hc]at h
       rw[Bool.and_eq_true]at hc
       obtain⟨q,hq,rfl⟩:=Option.map_eq_some_iff.1 h
       exact⟨inf,z,vN,_,kk,Gd he,hi,hz,Nat.eq_of_beq_eq_true hc.1,hc.2,rfl,(Ko (X:=g.X) (N:=g.N) (w:=w) (m:=true) (v:=z) (d:= .v z) (show[z]=[z]from rfl) hq).1,Bo hH hs,Bo hH hx,rfl,⟨[],⟨by simp,.inl ⟨rfl,rfl⟩⟩,trivial⟩,.inl ⟨rfl,rfl⟩⟩
     ·cases h
    ·cases h
   ·rename_i te k kk i he hs hx
    split at h
    ·rename_i inf te' e xs hi hk
     split at h
     ·rename_i z a ys hz ho
      cases hc:Nat.beq inf.size 1&&z.oneCell'&&Nat.beq te te'&&Nat.beq e.length 1 with
      |false=>rw[hc]at h;cases h
      |true=>
       rw[hc]at h
       simp only[Bool.and_eq_true]at hc
       obtain⟨⟨⟨c1,c2⟩,c3⟩,c4⟩:=hc
       have :=Nat.eq_of_beq_eq_true c3
       subst this
       obtain⟨q,hq,rfl⟩:=Option.map_eq_some_iff.1 h
       obtain⟨rfl,hh⟩:=vK ho
       have hh2:xs=ys:=eq_of_heq hh
       subst hh2
       obtain⟨v,hv,v',h1,h2,_⟩:=A4 hH hs
       cases(List.cons.inj h2).1
       obtain⟨v2,ls,k1,k2,k3,k4,k5,k6⟩:=hS'.os k _ (by simp only[BF,AN.2 (show k∈[]++An [(k,(none:Option O))] by simp [An])];exact hk)
       rw[h1]at k1
       cases k1
       exact⟨inf,z,v,_,kk,Gd he,hi,hz,Nat.eq_of_beq_eq_true c1,c2,rfl,(Ko (X:=g.X) (N:=g.N) (w:=w) (m:=true) (v:=z) (d:= .v z) (show[z]=[z]from rfl) hq).1,hv,Bo hH hx,rfl,⟨ls,k3,k5⟩,.inr ⟨k,_,rfl,hk,k2⟩⟩
     ·cases h
    ·cases h
   ·cases h
 obtain⟨inf,z,v,u,kk,ht,hi,hz,h1,h2,hb,hf,hv,hu,rfl,⟨ls,o1,o2⟩,hwr⟩:=key
 obtain⟨m,hm⟩:=Int.eq_ofNat_of_zero_le p1
 rw[hm]at hu p2 p3
 simp only[Int.toNat_natCast]at p2 p3
 have hfl:∀k:Nat,Fa2 (rS g.X g.N w [A.a]) (List.replicate k A.q) (List.replicate k [z]):=by
  intro k
  induction k with
  |zero=>trivial
  |succ k ih=>exact⟨⟨z,rfl,hf⟩,ih⟩
 have hfl2:∀k:Nat,List.replicate k z=(List.replicate k [z]).flatten:=by
  intro k
  induction k with
  |zero=>rfl
  |succ k ih=>simp [List.replicate_succ,←ih]
 have hft:∀b∈Cd v,Eff.foot (A.eff nb).1 (AS H) g b:=fun b hb=>by
  rcases hwr with⟨_,h0⟩|⟨k,o,e1,e2,e3⟩
  ·rw[h0]at hb;simp at hb
  ·exact⟨k,by simp [Az.eff,e1,An],o,e2,by rw[e3];exact hb⟩
 have hkw:nb∉An A.wr:=fun hk=>by
  rcases hwr with⟨h0,_⟩|⟨k,o,e1,e2,e3⟩
  ·rw[h0]at hk;simp [An]at hk
  ·rw[e1]at hk
   simp only[An,List.map_cons,List.map_nil,List.mem_singleton]at hk
   subst hk
   have hos:OS g w nb o:=hS'.os nb o (by simp only[BF,AN.2 (show nb∈[]++An A.wr by simp [e1,An])];exact e2)
   have hN:g.N nb=none:=hn (nb,_) (List.mem_singleton.2 rfl)
   cases o with
   |ob ty ds=>obtain⟨b,c,k1,_⟩:=hos;rw[hN]at k1;cases k1
   |sl ty e xs=>obtain⟨b,c,k1,_⟩:=hos;rw[hN]at k1;cases k1
 have hmi:A.i.toNat=m:=by rw[hm];rfl
 refine(vO ht htn hi hz h1 h2 hv hu o1 p2 (by rw[hb];exact p3)).mono fun v' w' ⟨q1,q2,q3⟩=> ?_
 have hfa:Fa2 (rS g.X g.N w [A.a]) (A.xs++List.replicate m A.q) (ls++List.replicate m [z]):=Fa2.append (α:=RT [A.a]) o2 (hfl m)
 refine Post.new (u:=v') (F:=Cd v') hS' (hn (nb,_) (List.mem_singleton.2 rfl)) (fun p hp=> ?_) hkw ⟨q2.os,q2.tape,q2.output,q2.size,fun b hb hnf=>q2.blk b hb fun hm=>hnf (hft b hm)⟩ (fun b hb=>⟨?_,(q1.lt b hb).2⟩) fun g' hg hN hF=>⟨⟨v',ls++List.replicate m [z],hN,hF,?_,?_,?_,ES hfa⟩,⟨v',hN,rfl,?_⟩⟩
 ·rcases hwr with⟨h0,_⟩|⟨k,o,e1,_⟩
  ·rw[h0]at hp;simp at hp
  ·rw[e1]at hp;simp at hp;rw[hp]
 ·rcases q3 with q3|q3
  ·rw[q3]at hb;exact .inl (hft b hb)
  ·rw[q3]at hb;simp at hb;exact .inr (by omega)
 ·have e3:(A.xs++List.replicate m A.q).length=A.xs.length+m:=by simp
  rw[hmi,List.flatten_append,←hfl2]
  show Own w' 0 A.te 1 v' (A.xs++List.replicate m A.q).length _
  rw[e3]
  exact q1
 ·have e3:(A.xs++List.replicate m A.q).length=A.xs.length+m:=by simp
  rw[hmi]
  show(A.xs++List.replicate m A.q).length≤maxLen
  rw[e3]
  simp only[maxLen];omega
 ·rw[hmi];exact hfa.mono (ET hg.goes [A.a])
 ·rcases q1.at with⟨rfl,_⟩|⟨b,cap,rfl,_⟩<;>rfl
end
end Go.Sx
namespace Go.Sx
open Go.Mi Go.RowKit
variable [Dfr]
def cpA (kk:IntKind) (n:Nat) (xs:List Int):List D→Nat→Option (List D)
 |[],_=>none
 |d::ds,o=>bif Nat.ble (GA d) o then(cpA kk n xs ds (o-GA d)).map (d:: ·)else match d with
  | .ar k N f=>bif Vg kk k&&Nat.ble (o+n) N then some (.ar k N (Dg f o (min xs.length n) fun j=>xs.getD j 0)::ds)else none
  |_=>none
def Ur (kk:IntKind):(e:List Fk)→List (RT e)→Option (List Int)
 |[.int k],xs=>bif Vg kk k then some xs else none
 |_,_=>none
theorem d8 {kk:IntKind}:∀{e:List Fk} {xs:List (RT e)} {ys:List Int},Ur kk e xs=some ys→e=[.int kk]∧HEq xs ys
 |[.int k],xs,ys,h=>by
  simp only[Ur]at h
  cases hk:Vg kk k with
  |false=>rw[hk]at h;cases h
  |true=>
   rw[hk]at h
   obtain rfl:=of_decide_eq_true hk
   cases h
   exact⟨rfl,HEq.rfl⟩
section
variable {P:Program} {n:Nat} {L:DL} {ds:Option Nat} {ty:TypeId} {pos:String} {af:Array Edge} {gu:Option (Nat×Bool)} {g g':G} {w w':World} {H:Hp}
theorem Post.res {F:Nat→Option O} {rd rd':List Nat} {wr:Hp} {nw:List (Nat×O)} {r d:D} {v u:Value} (h:Post F ⟨rd,wr,nw,r⟩ g w v g' w') (hd:Sm g' w' d u):Post F ⟨rd',wr,nw,d⟩ g w u g' w':=⟨h.go,hd,h.hs,h.fp,h.nm⟩
theorem Post.same {F:Nat→Option O} {k:Nat} {o o':O} {v:Value} (hS:HS (BF [k] F) g w) (hk:F k=some o) (ho:OS g w k o'):Post F ⟨[],[(k,some o')],[],.top⟩ g w v g w:=by
 have hk':BF [k] F k=some o:=by simp [BF,BM,hk]
 have e1:∀j q,AS (Eff.outs ⟨[],[(k,some o')],[],.top⟩) j=some q→j=k∧q=o':=fun j q h=>by
  simp only[Eff.outs,List.map_nil,List.append_nil,AS,Es]at h
  by_cases e:k=j
  ·subst e;simp at h;exact⟨rfl,h.symm⟩
  ·rw[Bb e]at h;cases h
 have hft:∀x,x∈g.F k→Eff.foot ⟨[],[(k,some o')],[],.top⟩ F g x:=fun x hx=>⟨k,by simp [An],o,hk,hx⟩
 have hft2:∀x,Eff.foot ⟨[],[(k,some o')],[],.top⟩ F g x→x∈g.F k:=fun x ⟨j,h1,q,h2,h3⟩=>by
  simp only[An,List.map_cons,List.map_nil,List.mem_singleton]at h1
  subst h1;exact h3
 refine⟨Go.refl _ _ _ fun x hx=>hS.own k o hk' x (hft2 x hx),⟨v,rfl⟩,⟨hS.wf,fun j q h=> ?_,fun j q h x hx=> ?_,fun j q j' q' h h' hne=> ?_⟩,fun j q h x hx=> ?_,fun j u h=> .inl h⟩
 ·obtain⟨rfl,rfl⟩:=e1 j q h;exact ho
 ·obtain⟨rfl,rfl⟩:=e1 j q h;exact hS.own j o hk' x hx
 ·exact absurd ((e1 j q h).1.trans (e1 j' q' h').1.symm) hne
 ·obtain⟨rfl,rfl⟩:=e1 j q h;exact .inl (hft x hx)
theorem KQ {α:Type}:∀{ls:List (List α)} (k:Nat),(∀l∈ls,l.length=1)→(ls.take k).flatten=ls.flatten.take k
 |[],k,_=>by simp
 |l::ls,0,_=>by simp
 |l::ls,k+1,h=>by
  obtain⟨a,rfl⟩:=List.length_eq_one_iff.1 (h l (List.mem_cons_self ..))
  simp [KQ k fun l hl=>h l (List.mem_cons_of_mem _ hl)]
theorem KS {α:Type}:∀{ls:List (List α)} (k:Nat),(∀l∈ls,l.length=1)→(ls.drop k).flatten=ls.flatten.drop k
 |[],k,_=>by simp
 |l::ls,0,_=>by simp
 |l::ls,k+1,h=>by
  obtain⟨a,rfl⟩:=List.length_eq_one_iff.1 (h l (List.mem_cons_self ..))
  simp [KS k fun l hl=>h l (List.mem_cons_of_mem _ hl)]
theorem Src.ints {kk:IntKind} {e:List Fk} {xs:List (RT e)} {ys:List Int} {v:Value} (h:Src g w e xs v) (hc:Ur kk e xs=some ys):Src g w [.int kk] (ys:List (RT [.int kk])) v:=by
 obtain⟨rfl,h2⟩:=d8 hc
 have h3:xs=ys:=eq_of_heq h2
 exact h3▸h
theorem pV {X:Nat→Prop} {N:Nat→Option Value} {kk:IntKind} {m:Nat} {xs:List Int}:∀{ss:List D} {o:Nat} {r:List D} {l:List Value},CI X N w ss l→cpA kk m xs ss o=some r→CI X N w r (l.take o++(xs.take (min xs.length m)).map (Value.int kk)++l.drop (o+min xs.length m))∧o+m≤l.length
 |[],o,r,l,_,hp=>by simp [cpA]at hp
 |d::ss,o,r,l,⟨l1,l2,e',h1,h2⟩,hp=>by
  subst e'
  have hl:=Fv h1
  simp only[cpA]at hp
  cases hb:Nat.ble (GA d) o with
  |true=>
   rw[hb]at hp
   have hle:=Nat.le_of_ble_eq_true hb
   obtain⟨r',hr,rfl⟩:=Option.map_eq_some_iff.1 hp
   obtain⟨k1,k2⟩:=pV h2 hr
   refine⟨⟨l1,_,?_,h1,k1⟩,by simp;omega⟩
   rw[List.take_append,List.take_of_length_le (by omega),List.drop_append,List.drop_eq_nil_of_le (by omega),hl]
   simp only[List.nil_append,List.append_assoc]
   rw[show o+min xs.length m-GA d=o-GA d+min xs.length m by omega]
  |false=>
   rw[hb]at hp
   simp only[cond_false]at hp
   cases d with
   |ar k N' f=>
    simp only at hp
    have h1':l1=cells k N' f:=h1
    have hn:l1.length=N':=by rw[h1',A7]
    cases hc:Vg kk k&&Nat.ble (o+m) N' with
    |false=>rw[hc]at hp;cases hp
    |true=>
     rw[hc]at hp
     rw[Bool.and_eq_true]at hc
     obtain rfl:=of_decide_eq_true hc.1
     have hle:=Nat.le_of_ble_eq_true hc.2
     simp only[cond_true,Option.some.injEq]at hp
     subst hp
     refine⟨⟨l1.take o++(xs.take (min xs.length m)).map (Value.int kk)++l1.drop (o+min xs.length m),l2,?_,?_,h2⟩,by simp;omega⟩
     ·rw[List.take_append_of_le_length (by omega),List.drop_append_of_le_length (by omega)]
      simp
     ·show _=cells kk N' _
      rw[h1']
      apply List.ext_getElem?
      intro j
      by_cases hj:j<N'
      ·rw[Bz hj,List.append_assoc,List.getElem?_append,List.length_take,A7,Nat.min_eq_left (by omega)]
       by_cases h3:j<o
       ·rw[if_pos h3,List.getElem?_take,if_pos h3,Bz hj]
        have :Nat.ble o j=false:=by
         cases hb:Nat.ble o j with
         |false=>rfl
         |true=>have :=Nat.le_of_ble_eq_true hb;omega
        simp [Dg,this]
       ·rw[if_neg h3,List.getElem?_append,List.length_map,List.length_take,Nat.min_eq_left (by omega)]
        by_cases h4:j<o+min xs.length m
        ·rw[if_pos (by omega),List.getElem?_map,List.getElem?_take,if_pos (by omega)]
         have h5:Nat.ble o j=true:=Nat.ble_eq_true_of_le (by omega)
         have h6:Nat.blt j (o+min xs.length m)=true:=by rw[Nat.blt_eq];exact h4
         have h7:j-o<xs.length:=by omega
         simp [Dg,h5,h6,List.getElem?_eq_getElem h7,List.getD]
        ·rw[if_neg (by omega),List.getElem?_drop,show o+min xs.length m+(j-o-min xs.length m)=j by omega,Bz hj]
         have h6:Nat.blt j (o+min xs.length m)=false:=by
          cases hb:Nat.blt j (o+min xs.length m)with
          |false=>rfl
          |true=>rw[Nat.blt_eq]at hb;omega
         simp [Dg,h6]
      ·rw[List.getElem?_eq_none (by simp [A7];omega),List.getElem?_eq_none (by rw[A7];omega)]
   |_=>simp at hp
structure Cp where
 k:Nat
 rd:List Nat
 o:O
 n:Int
def Acr (P:Program) (L:DL) (H:Hp) (t:TypeId) (x y:Operand):Option Cp:=match VK P t,Eb L x,(Eb L y).bind (jM H)with
 |some 1,some (.sv k o m),some q=>(match AS H k with
  |some (.ob ty d)=>bif BM k q.rd then none else(match GV d,q.e with
   |ss,[.int kk]=>(Ur kk q.e q.xs).bind fun xs=>(cpA kk m xs ss o).map fun r=>⟨k,q.rd,.ob ty (chain r),((min xs.length m:Nat):Int)⟩
   |_,_=>none)
  |_=>none)
 |some 1,some (.sk k),some q=>(match AS H k with
  |some (.sl te e xs)=>bif BM k q.rd|| !(Nat.beq e.length 1)then none else(S9 q.e e q.xs).map fun ys=>⟨k,q.rd,.sl te e (ys.take xs.length++xs.drop ys.length),((min ys.length xs.length:Nat):Int)⟩
  |_=>none)
 |_,_,_=>none
def Cp.eff (c:Cp):Eff:=⟨c.rd,[(c.k,some c.o)],[],.v (.int .i64 c.n)⟩
theorem Z7 {x y : Operand} {t t' te : TypeId} {b o len cap T : Nat} {cur : Array Value} {v : Value} {e : List Fk} {ys : List (RT e)} {Lv : List (Nat × Value)} (ht : P.underlying t = some (.slice te)) (hs : (P.info? te).map (·.size) = some 1) (he : e.length = 1) (hx : ev Lv x = some (vS b o len cap)) (hy : ev Lv y = some v) (hsr : Src g w e ys v) (hb : w.heap[b]? = some (.cells cur T (0, 0))) (hc : o + len ≤ cur.size) :
  Ok1 P ⟨ds,.call ⟨.builtin .copy,#[x,y],#[t,t']⟩,ty,pos,af,gu⟩ n Lv w fun v' w'=>v'= .int .i64 ((min ys.length len:Nat):Int)∧∃ls,Fa2 (rS g.X g.N w e) ys ls∧Upd w w' b (put cur o (ls.flatten.take (min ys.length len))) T:=by
 cases hsr with
 |nil h1 h2=>
  subst h2
  have hr:(Builtin.copy_ #[t,t'] ty #[.slice (some ⟨b,o,none⟩) len cap,v]).run P w= .ok (goInt 0) w:=by
   rcases h1 with rfl|⟨a0,c0,rfl⟩
   ·exact run_copy_nil P w t t' ty te ⟨b,o,none⟩ len cap ht (by rw[hs];rfl)
   ·have hl0:=run_loadCells_list (P:=P) w a0 [] (by simp)
    simp only[List.length_nil]at hl0
    cases hq:P.info? te with
    |none=>simp [hq]at hs
    |some i=>simp [Builtin.copy_,Ak ht,Builtin.lenOf,Builtin.firstCells,sizeOf,typeInfo,hq,hl0,storeCells]
  have hd:Det P ⟨ds,.call ⟨.builtin .copy,#[x,y],#[t,t']⟩,ty,pos,af,gu⟩ n Lv w (.int .i64 0) w:=Det.of_run fun a hF=>by
   simp [execOp,hF.eval hx,hF.eval hy,resolve,invoke,builtin,hr,goInt]
  refine hd.mono fun v' w' ⟨e1,e2⟩=> ?_
  subst e1;subst e2
  refine⟨by simp,[],trivial,?_⟩
  have :put cur o ((([]:List (List Value)).flatten).take (min ([]:List (RT e)).length len))=cur:=by
   apply Array.ext'
   rw[Cb]
   simp
  rw[this]
  exact Upd.refl hb
 |«at» b' o' c' ls h1 h2 h3=>
  subst h1
  have hml:ls.flatten.length=ys.length:=by rw[Cs h3.row,h3.len,he,Nat.mul_one]
  have hcs:(ls.flatten.take (min ys.length len)).length=min ys.length len:=by rw[List.length_take,hml];omega
  have hr:=run_copy_row P w t t' ty te b o len cap ⟨b',o',none⟩ ys.length c' cur T (ls.flatten.take (min ys.length len)) ht hs hb (by rw[hcs]) (fun j u hj=>by
   rw[CY]
   rw[List.getElem?_take]at hj
   split at hj
   ·exact h2 j u hj
   ·cases hj) (by rw[hcs];omega) (fun u hu=>ES h3 u (List.mem_of_mem_take hu))
  have hd:Det P ⟨ds,.call ⟨.builtin .copy,#[x,y],#[t,t']⟩,ty,pos,af,gu⟩ n Lv w (.int .i64 ((min ys.length len:Nat):Int)) (w.setRow b (put cur o (ls.flatten.take (min ys.length len)))):=Det.of_run fun a hF=>by
   simp [execOp,hF.eval hx,hF.eval hy,resolve,invoke,builtin,hr,goInt,hcs,put]
  refine hd.mono fun v' w' ⟨e1,e2⟩=> ?_
  subst e1;subst e2
  exact⟨rfl,ls,h3,O3 hb _⟩
theorem xB {t t':TypeId} {x y:Operand} {c:Cp} (h:Acr P L H t x y=some c):EOk P n ⟨ds,.call ⟨.builtin .copy,#[x,y],#[t,t']⟩,ty,pos,af,gu⟩ L (AS H) c.eff:=by
 intro ξ g w hS hH _
 unfold Acr at h
 split at h
 ·rename_i k o m q hsi hx hq
  obtain⟨te,u1,u2⟩:=GL hsi
  split at h
  ·rename_i T d hk
   cases hm:BM k q.rd with
   |true=>rw[hm]at h;cases h
   |false=>
    rw[hm]at h
    simp only[cond_false]at h
    split at h
    ·rename_i kk he
     obtain⟨xs,h1,h2⟩:=Option.bind_eq_some_iff.1 h
     obtain⟨r,h3,rfl⟩:=Option.map_eq_some_iff.1 h2
     have hS1:HS (BF (q.rd++[k]) (AS H)) g w:=hS
     have obj:∀j o,j∈q.rd++[k]→AS H j=some o→OS g w j o:=fun j o hj ho=>hS1.os j o (by simp only[BF,AN.2 hj];exact ho)
     obtain⟨dy,hy1,hy2⟩:=Option.bind_eq_some_iff.1 hq
     obtain⟨u,hu,hus⟩:=A4 hH hy1
     have hsr:=N6 (fun j o hj ho=>obj j o (List.mem_append_left _ hj) ho) hy2 hus
     obtain⟨v,hv,b,cc,e1,e2,e3,e4⟩:=A4 hH hx
     cases(List.cons.inj e2).1
     obtain⟨b',c,k1,k2,k3,k4,k5⟩:=obj k _ (by simp) hk
     rw[k1]at e1
     cases e1
     obtain⟨p1,p2⟩:=pV (Dq k4) h3
     have hsr':=hsr.ints h1
     refine(Z7 (e:=[.int kk]) (ys:=(xs:List (RT [.int kk]))) u1 u2 rfl hv hu hsr' k3 (by simpa using p2)).mono fun v' w' ⟨q1,ls,q2,q3⟩=>⟨g,Post.res (rd:=[]) (r:= .top) (v:=v') (Post.upd (hS1.sub fun j o hj=> ?_) hk k2 q3 fun w' hgo hb=> ?_) (by subst q1;rfl)⟩
     ·simp only[BF,BM]at hj⊢
      by_cases e:j=k
      ·subst e;simp at hj;rw[AN.2 (by simp)];exact hj
      ·rw[Bb e]at hj;cases hj
     ·obtain⟨vs,rfl,h4⟩:=Kv q2
      have hvs:vs=xs.map (Value.int kk):=Oq h4
      have e5:((vs.map fun v=>[v]).flatten.take (min xs.length m))=(xs.take (min xs.length m)).map (Value.int kk):=by rw[WK rfl,hvs,List.map_take]
      have e6:((xs.take (min xs.length m)).map (Value.int kk)).length=min xs.length m:=by simp
      refine⟨_,_,k1,k2,hb,?_,?_⟩
      ·rw[Cb]
       show B4 g.X g.N w' (chain r) false (c.toList.take o++((vs.map fun v=>[v]).flatten.take (min xs.length m))++c.toList.drop (o+((vs.map fun v=>[v]).flatten.take (min xs.length m)).length))
       rw[e5,e6]
       exact FM hgo.goes _ _ _ (EC.2 p1)
      ·intro z hz
       rw[Cb]at hz
       have hz:z∈c.toList.take o++((vs.map fun v=>[v]).flatten.take (min xs.length m))++c.toList.drop (o+((vs.map fun v=>[v]).flatten.take (min xs.length m)).length):=hz
       rw[e5]at hz
       rcases List.mem_append.1 hz with hz|hz
       ·rcases List.mem_append.1 hz with hz|hz
        ·exact k5 z (List.mem_of_mem_take hz)
        ·obtain⟨_,_,rfl⟩:=List.mem_map.1 hz
         rfl
       ·exact k5 z (List.mem_of_mem_drop hz)
    ·cases h
  ·cases h
 ·rename_i k q hsi hx hq
  obtain⟨te,u1,u2⟩:=GL hsi
  split at h
  ·rename_i T e xs hk
   cases hm:BM k q.rd|| !(Nat.beq e.length 1)with
   |true=>rw[hm]at h;cases h
   |false=>
    rw[hm]at h
    simp only[Bool.or_eq_false_iff,Bool.not_eq_false']at hm
    have he1:=Nat.eq_of_beq_eq_true hm.2
    simp only[cond_false]at h
    obtain⟨ys,h1,rfl⟩:=Option.map_eq_some_iff.1 h
    have hS1:HS (BF (q.rd++[k]) (AS H)) g w:=hS
    have obj:∀j o,j∈q.rd++[k]→AS H j=some o→OS g w j o:=fun j o hj ho=>hS1.os j o (by simp only[BF,AN.2 hj];exact ho)
    obtain⟨dy,hy1,hy2⟩:=Option.bind_eq_some_iff.1 hq
    obtain⟨u,hu,hus⟩:=A4 hH hy1
    have hsr:=(N6 (fun j o hj ho=>obj j o (List.mem_append_left _ hj) ho) hy2 hus).cast h1
    obtain⟨v,hv,v',e1,e2,_⟩:=A4 hH hx
    cases(List.cons.inj e2).1
    obtain⟨v2,ls,k1,k2,k3,k4,k5,k6⟩:=obj k _ (by simp) hk
    rw[e1]at k1
    cases k1
    rcases k3.2 with⟨rfl,h0⟩|⟨b,cap,cur,rfl,_,hb,hc,hc2,hcs,hct⟩
    ·have hx0:xs=[]:=List.eq_nil_of_length_eq_zero h0
     subst hx0
     have hd:Det P ⟨ds,.call ⟨.builtin .copy,#[x,y],#[t,t']⟩,ty,pos,af,gu⟩ n (Lf L ξ) w (.int .i64 0) w:=Det.of_run fun a hF=>by
      obtain⟨inf,hi,hz⟩:=Option.map_eq_some_iff.1 u2
      cases hsr with
      |nil h1 h2=>
       rcases h1 with rfl|⟨a0,c0,rfl⟩
       ·simp [execOp,hF.eval hv,hF.eval hu,resolve,invoke,builtin,Builtin.copy_,Ak u1,Builtin.lenOf,Builtin.firstCells,sizeOf,typeInfo,hi,goInt]
       ·have hl:(loadCells a0 0).run P w= .ok #[] w:=rfl
        simp [execOp,hF.eval hv,hF.eval hu,resolve,invoke,builtin,Builtin.copy_,Ak u1,Builtin.lenOf,Builtin.firstCells,sizeOf,typeInfo,hi,goInt,hl]
      |«at» b o c ls h1 h2 h3=>
       subst h1
       have hl:(loadCells ⟨b,o,none⟩ 0).run P w= .ok #[] w:=rfl
       simp [execOp,hF.eval hv,hF.eval hu,resolve,invoke,builtin,Builtin.copy_,Ak u1,Builtin.lenOf,Builtin.firstCells,sizeOf,typeInfo,hi,goInt,hl]
     refine hd.mono fun v' w' ⟨q1,q2⟩=>⟨g,?_⟩
     subst q2
     refine Post.res (rd:=[]) (r:= .top) (v:=v') (Post.same (hS1.sub fun j o hj=> ?_) hk ⟨_,ls,e1,k2,?_,by simp,?_,k6⟩) (by subst q1;simp;rfl)
     ·simp only[BF,BM]at hj⊢
      by_cases e:j=k
      ·subst e;simp at hj;rw[AN.2 (by simp)];exact hj
      ·rw[Bb e]at hj;cases hj
     ·simpa using k3
     ·simpa using k5
    ·have hfit:0+xs.length≤cur.size:=by rw[hcs,he1];omega
     refine(Z7 u1 u2 he1 hv hu hsr hb hfit).mono fun v' w' ⟨q1,ms,q2,q3⟩=>⟨g,Post.res (rd:=[]) (r:= .top) (v:=v') (Post.upd (hS1.sub fun j o hj=> ?_) hk (by rw[k2];rfl) q3 fun w' hgo hb'=> ?_) (by subst q1;rfl)⟩
     ·simp only[BF,BM]at hj⊢
      by_cases e:j=k
      ·subst e;simp at hj;rw[AN.2 (by simp)];exact hj
      ·rw[Bb e]at hj;cases hj
     ·have hr1:∀l∈ls,l.length=1:=fun l hl=>by rw[k5.row l hl,he1]
      have hr2:∀l∈ms,l.length=1:=fun l hl=>by rw[q2.row l hl,he1]
      have hL:(ys.take xs.length++xs.drop ys.length).length=xs.length:=by simp;omega
      have hfl:(ms.take xs.length++ls.drop ys.length).flatten=(put cur 0 (ms.flatten.take (min ys.length xs.length))).toList.take (xs.length*e.length):=by
       rw[Cb,List.flatten_append,KQ _ hr2,KS _ hr1,he1,Nat.mul_one]
       have hml:ms.flatten.length=ys.length:=by rw[Cs hr2,Nat.mul_one,q2.len]
       have hlm:ls.flatten.length=xs.length:=by rw[Cs hr1,Nat.mul_one,k5.len]
       have hcur:cur.toList=ls.flatten++cur.toList.drop xs.length:=by
        have :=hct
        rw[he1,Nat.mul_one]at this
        rw[←this,List.take_append_drop]
       have e7:ms.flatten.take xs.length=ms.flatten.take (min ys.length xs.length):=by
        rw[←hml,Nat.min_comm,←List.take_take,List.take_length]
       have e8:(ms.flatten.take (min ys.length xs.length)).length=min ys.length xs.length:=by rw[List.length_take,hml];omega
       rw[e7,e8,Nat.zero_add,List.take_zero,List.nil_append]
       have t1:(ms.flatten.take (min ys.length xs.length)++cur.toList.drop (min ys.length xs.length)).take xs.length=ms.flatten.take (min ys.length xs.length)++(cur.toList.drop (min ys.length xs.length)).take (xs.length-min ys.length xs.length):=by
        rw[List.take_append,List.take_of_length_le (l:=ms.flatten.take (min ys.length xs.length)) (by omega),e8]
       have t2:(cur.toList.drop (min ys.length xs.length)).take (xs.length-min ys.length xs.length)=ls.flatten.drop ys.length:=by
        have hld:(ls.flatten.drop (min ys.length xs.length)).length=xs.length-min ys.length xs.length:=by rw[List.length_drop,hlm]
        rw[hcur,List.drop_append_of_le_length (by omega),List.take_append_of_le_length (by omega),List.take_of_length_le (l:=ls.flatten.drop (min ys.length xs.length)) (by omega)]
        by_cases hle:ys.length≤xs.length
        ·rw[Nat.min_eq_left hle]
        ·rw[Nat.min_eq_right (by omega),List.drop_eq_nil_of_le (by omega),List.drop_eq_nil_of_le (by omega)]
       rw[t1,t2]
      have hFa:Fa2 (rS g.X g.N w e) (ys.take xs.length++xs.drop ys.length) (ms.take xs.length++ls.drop ys.length):=(q2.take _).append (k5.drop _)
      have hps:(put cur 0 (ms.flatten.take (min ys.length xs.length))).size=cur.size:=PY (by rw[List.length_take];omega)
      have hpl:(put cur 0 (ms.flatten.take (min ys.length xs.length))).toList.length=cur.size:=by rw[Array.length_toList,hps]
      have hFl:(ms.take xs.length++ls.drop ys.length).flatten.length=xs.length*e.length:=by
       rw[hfl,List.length_take,hpl,hcs]
       exact Nat.min_eq_left (Nat.mul_le_mul_right _ hc)
      exact⟨_,_,e1,k2,⟨by rw[hFl,hL],.inr ⟨b,cap,_,by rw[hL],Nat.zero_le _,hb',by rw[hL];exact hc,hc2,by rw[hps];exact hcs,by rw[hL];exact hfl.symm⟩⟩,by rw[hL];exact k4,hFa.mono (ET hgo.goes e),ES hFa⟩
  ·cases h
 ·cases h
end
end Go.Sx
namespace Go.Sx
open Go.Mi Go.RowKit
variable [Dfr]
def oU (P:Program) (L:DL) (t:TypeId) (x:Operand):Option (D×List Prop):=match Eb L x,P.underlying t with
 |some (.v (.slice none 0 0)),some (.slice _)=>some (.v (.int .i64 0),[])
 |_,_=>none
def Ft (s:ByteArray):List Int:=s.data.toList.map fun b=>(b.toNat:Int)
def u8S (P:Program) (t:TypeId):Option TypeId:=match P.underlying t with
 |some (.slice te)=>(match P.underlying te with
  |some (.int .u8)=>some te
  |_=>none)
 |_=>none
theorem iO {P:Program} {t te:TypeId} (h:u8S P t=some te):P.underlying t=some (.slice te)∧P.underlying te=some (.int .u8):=by
 unfold u8S at h
 split at h
 ·rename_i te' h1
  split at h
  ·rename_i h2;cases h;exact⟨h1,h2⟩
  ·cases h
 ·cases h
def Yz (P:Program) (L:DL) (H:Hp) (s t:TypeId) (x:Operand):Option (Eff×List Prop):=match Eb L x,u8S P t with
 |some (.sk k),some te=>bif Nat.beq s t then(match AS H k with
  |some (.sl _ [.int .u8] xs)=>some (⟨[],[(k,none)],[],.ls true [.int .u8] xs⟩,[0<xs.length])
  |_=>none)else none
 |_,_=>none
def Acs (P:Program) (L:DL) (s t:TypeId) (x:Operand):Option (Eff×List Prop):=match Eb L x,P.underlying s,u8S P t with
 |some (.v (.string b)),some .string,some te=>some (⟨[],[],[],.ls true [.int .u8] (Ft b)⟩,[b.size≤140737488355328])
 |_,_,_=>none
section
variable {P:Program} {n:Nat} {L:DL} {ds:Option Nat} {ty:TypeId} {pos:String} {af:Array Edge} {gu:Option (Nat×Bool)} {g g':G} {w w':World} {H:Hp}
theorem oT {t:TypeId} {x:Operand} {d:D} {ps:List Prop} (h:oU P L t x=some (d,ps)):PureOk P n ⟨ds,.call ⟨.builtin .cap,#[x],#[t]⟩,ty,pos,af,gu⟩ L d ps:=by
 intro hp ξ g w hH _
 unfold oU at h
 split at h
 ·rename_i e hx hu
  simp only[Option.some.injEq,Prod.mk.injEq]at h
  obtain⟨rfl,rfl⟩:=h
  have hv:=Bo hH hx
  exact⟨_,rfl,Det.of_run fun a hF=>by simp [execOp,hF.eval hv,resolve,invoke,builtin,Builtin.cap_,Ak hu,goInt]⟩
 ·cases h
theorem eC {b:Nat} {k:Nat} {cur:Array Value} {te:TypeId} (hb:w.heap[b]? =some (.cells cur te (0,0))):(w.freeze ⟨b,k,none⟩ 1).heap[b]? =some (.cells cur te (k,k+1))∧Chp (· =b) w (w.freeze ⟨b,k,none⟩ 1):=by
 have hlt:b<w.heap.size:=by
  rcases Nat.lt_or_ge b w.heap.size with h'|h'
  ·exact h'
  ·rw[Array.getElem?_eq_none h']at hb;cases hb
 refine⟨?_,⟨rfl,rfl,rfl,by simp [World.freeze],fun j hj hn=> ?_⟩⟩
 ·simp only[World.freeze]
  rw[if_neg (by decide)]
  simp only[Array.getElem?_modify,if_pos trivial,hb]
  rfl
 ·simp only[World.freeze]
  rw[if_neg (by decide)]
  have :¬b=j:=fun h=>hn h.symm
  simp only[Array.getElem?_modify,if_neg this]
theorem eJ {s t:TypeId} {x:Operand} {e:Eff} {ps:List Prop} (h:Yz P L H s t x=some (e,ps)) (hp:AllP ps):EOk P n ⟨ds,.convert s t x,ty,pos,af,gu⟩ L (AS H) e:=by
 intro ξ g w hS hH hn
 unfold Yz at h
 split at h
 ·rename_i k te hx hu
  cases hst:Nat.beq s t with
  |false=>rw[hst]at h;cases h
  |true=>
   rw[hst]at h
   obtain rfl:=Nat.eq_of_beq_eq_true hst
   simp only[cond_true]at h
   split at h
   ·rename_i te' xs hk
    cases h
    obtain⟨u1,u2⟩:=iO hu
    obtain⟨v,hv,v',h1,h2,_⟩:=A4 hH hx
    cases(List.cons.inj h2).1
    have hkk:BF ([]++An [(k,(none:Option O))]) (AS H) k=some (.sl te' [.int .u8] xs):=by simp [BF,An,BM,hk]
    obtain⟨v2,ls,k1,k2,k3,k4,k5,k6⟩:=hS.os k _ hkk
    rw[h1]at k1
    cases k1
    rcases k3.2 with⟨rfl,h0⟩|⟨b,cap,cur,rfl,_,hb,hc,hc2,hcs,hct⟩
    ·have :=hp.1;omega
    ·have hm:w.shape? b=some (te',cur.size):=by simp [World.shape?,hb]
     obtain⟨q1,q2⟩:=eC (k:=cur.size) hb
     have hbF:b∈g.F k:=by rw[k2];simp [Cd]
     have hd:Det P ⟨ds,.convert s s x,ty,pos,af,gu⟩ n (Lf L ξ) w (vS b 0 xs.length cap) (w.freeze ⟨b,cur.size,none⟩ 1):=Det.of_run fun a hF=>by
      simp [execOp,hF.eval hv,convert,Ak u1,Ak u2,markStringish,hm]
     refine hd.mono fun v' w' ⟨e1,e2⟩=> ?_
     subst e1;subst e2
     have hfx:∀x,Eff.foot ⟨[],[(k,none)],[],.ls true [.int .u8] xs⟩ (AS H) g x↔x∈g.F k:=fun x=>⟨fun⟨j,h1,q,h2,h3⟩=>by
      simp only[An,List.map_cons,List.map_nil,List.mem_singleton]at h1
      subst h1;exact h3,fun hx=>⟨k,by simp [An],_,hk,hx⟩⟩
     have hsub:∀x,x=b→Eff.foot ⟨[],[(k,none)],[],.ls true [.int .u8] xs⟩ (AS H) g x:=fun x hx=>(hfx x).2 (hx▸hbF)
     have hch:Chp (Eff.foot ⟨[],[(k,none)],[],.ls true [.int .u8] xs⟩ (AS H) g) w (w.freeze ⟨b,cur.size,none⟩ 1):=⟨q2.os,q2.tape,q2.output,q2.size,fun j hj hn=>q2.blk j hj fun hy=>hn (hsub j hy)⟩
     let g':G:=⟨g.N,g.F,fun x=>g.X x∧x∉g.F k⟩
     have hgo:Go (Eff.foot ⟨[],[(k,none)],[],.ls true [.int .u8] xs⟩ (AS H) g) g w g' (w.freeze ⟨b,cur.size,none⟩ 1):=⟨hch,fun x hx=>hS.own k _ hkk x ((hfx x).1 hx),fun x hx=> .inl hx.1,fun x h1 h2=>⟨h1,fun h3=>h2 ((hfx x).2 h3)⟩,fun _ _ h=>h,fun _ _ _=>rfl⟩
     have hno:∀j u,AS (Eff.outs ⟨[],[(k,(none:Option O))],[],.ls true [.int .u8] xs⟩) j≠some u:=fun j u h=>by
      have h:=BD.1 h
      simp only[Eff.outs,List.map_nil,List.append_nil,Es]at h
      by_cases e:k=j
      ·subst e;simp at h
      ·rw[Bb e]at h;cases h
     obtain⟨vs,rfl,h4⟩:=Kv k5
     have hvs:vs=xs.map (Value.int .u8):=Oq h4
     refine⟨g',hgo,⟨_,_,rfl,⟨k4,by rw[Cs k5.row,k5.len],.inr ⟨b,0,cap,rfl,hc,hc2,fun hx=>hx.2 hbF,Nat.lt_of_lt_of_le (k3.lt b (by simp [Cd])).2 q2.size,?_⟩⟩,k5.mono (ET hgo.goes _)⟩,⟨fun x hx=>Nat.lt_of_lt_of_le (hS.wf x hx.1) q2.size,fun j u h=>(hno j u h).elim,fun j u h=>(hno j u h).elim,fun j u _ _ h=>(hno j u h).elim⟩,fun j u h=>(hno j u h).elim,fun j u h=> .inl h⟩
     intro j u hj
     rw[←hct,List.getElem?_take]at hj
     split at hj
     ·rw[Nat.zero_add]
      unfold World.cell?
      rw[q1]
      simpa using hj
     ·cases hj
   ·cases h
 ·cases h
theorem n8:∀l:List Int,(l.map fun z=>[Value.int .u8 z]).flatten=l.map (Value.int .u8)
 |[]=>rfl
 |a::l=>by rw[List.map_cons,List.flatten_cons,n8 l];rfl
theorem AaB {X:Nat→Prop} {N:Nat→Option Value} {w:World}:∀l:List Int,Fa2 (rS X N w [.int .u8]) (l:List (RT [.int .u8])) (l.map fun z=>[Value.int .u8 z])
 |[]=>trivial
 |a::l=>⟨⟨_,rfl,rfl⟩,AaB l⟩
theorem xC {s t:TypeId} {x:Operand} {e:Eff} {ps:List Prop} {F:Nat→Option O} (h:Acs P L s t x=some (e,ps)) (hp:AllP ps):EOk P n ⟨ds,.convert s t x,ty,pos,af,gu⟩ L F e:=by
 intro ξ g w hS hH hn
 unfold Acs at h
 split at h
 ·rename_i b te hx hs hu
  cases h
  obtain⟨u1,u2⟩:=iO hu
  have hv:=Bo hH hx
  have hd:Det P ⟨ds,.convert s t x,ty,pos,af,gu⟩ n (Lf L ξ) w (.slice (some ⟨w.heap.size,0,none⟩) b.size (grownCap w b.size 0 te)) (Lib.bytesWorld w te b):=Det.of_run fun a hF=>by
   simp [execOp,hF.eval hv,Lib.run_convert_string_bytes w s t te b hs u1 u2]
  refine hd.mono fun v' w' ⟨e1,e2⟩=>⟨g,?_⟩
  subst e1;subst e2
  have hch:Chp (fun _=>False) w (Lib.bytesWorld w te b):=⟨by simp [Lib.bytesWorld,World.freeze,World.alloc,World.drew,-World.alloc_eq,-World.drew_eq],by simp [Lib.bytesWorld,World.freeze,World.alloc,World.drew,-World.alloc_eq,-World.drew_eq],by simp [Lib.bytesWorld,World.freeze,World.alloc,World.drew,-World.alloc_eq,-World.drew_eq],by rw[Lib.bytesWorld_size];omega,fun j hj _=>Lib.bytesWorld_at_old w te b j hj⟩
  have hl:(Ft b).length=b.size:=by unfold Ft;rw[List.length_map,Array.length_toList];rfl
  have hcap:=grownCap_ge w b.size 0 te
  have hp:=hp.1
  have hmx:(Ft b).length≤maxLen:=by rw[hl];simp only[maxLen];omega
  refine Post.quiet hS.wf hch ⟨_,(Ft b).map fun z=>[Value.int .u8 z],rfl,⟨hmx,?_,.inr ⟨w.heap.size,0,grownCap w b.size 0 te,congrArg (fun z=>Value.slice (some ⟨w.heap.size,0,none⟩) z (grownCap w b.size 0 te)) hl.symm,Nat.le_trans (Nat.le_of_eq hl) hcap,?_,fun hx=> ?_,by rw[Lib.bytesWorld_size];omega,?_⟩⟩,?_⟩
  ·rw[n8,List.length_map];exact(Nat.mul_one _).symm
  ·exact grownCap_le_maxLen w b.size 0 te (by simp only[maxLen];omega)
  ·exact Nat.lt_irrefl _ (hS.wf _ hx)
  ·intro j u hj
   rw[Nat.zero_add]
   rw[n8]at hj
   have hjl:j<b.size:=by
    have :=(List.getElem?_eq_some_iff.1 hj).1
    rw[List.length_map,hl]at this
    exact this
   rw[Lib.bytesWorld_cell w te b j hjl]
   have hjd:j<b.data.toList.length:=hjl
   simp only[Ft,List.map_map,List.getElem?_map,List.getElem?_eq_getElem hjd,Option.map_some,Function.comp,Option.some.injEq]at hj
   rw[←hj]
   simp [List.getD,List.getElem?_eq_getElem hjd]
  ·exact AaB _
 ·cases h
end
end Go.Sx
namespace Go.Sx
open Go.Mi Go.RowKit
variable [Dfr]
def Aci (P:Program) (L:DL) (H:Hp) (t:TypeId) (x:Operand) (xl xh xm:Option Operand) (nb:Nat):Option (Eff×List Prop):=match xl,xm,Eb L x,gM L xh,VK P t with
 |none,none,some (.sk k),some (some j),some _=>(match AS H k with
  |some (.sl te e xs)=>some (⟨[],[(k,none)],[(nb,.sl te e (xs.take j.toNat))],.sk nb⟩,[0≤j∧j≤(xs.length:Int)])
  |_=>none)
 |_,_,_,_,_=>none
section
variable {P:Program} {n:Nat} {L:DL} {ds:Option Nat} {ty:TypeId} {pos:String} {af:Array Edge} {gu:Option (Nat×Bool)} {g g':G} {w w':World} {H:Hp}
theorem Pf {α:Type} {m:Nat}:∀{ls:List (List α)} (k:Nat),(∀l∈ls,l.length=m)→(ls.take k).flatten=ls.flatten.take (k*m)
 |[],k,_=>by simp
 |l::ls,0,_=>by simp
 |l::ls,k+1,h=>by
  have hl:=h l (List.mem_cons_self ..)
  have ih:=Pf (ls:=ls) k fun l hl=>h l (List.mem_cons_of_mem _ hl)
  rw[List.take_succ_cons,List.flatten_cons,List.flatten_cons,ih,List.take_append,hl,Nat.succ_mul,List.take_of_length_le (l:=l) (by omega),show k*m+m-m=k*m by omega]
theorem wS {t:TypeId} {x:Operand} {xl xh xm:Option Operand} {nb:Nat} {e:Eff} {ps:List Prop} (h:Aci P L H t x xl xh xm nb=some (e,ps)) (hp:AllP ps):EOk P n ⟨ds,.slice t x xl xh xm,ty,pos,af,gu⟩ L (AS H) e:=by
 intro ξ g w hS hH hn
 unfold Aci at h
 split at h
 ·rename_i k j m hx hb hsi
  split at h
  ·rename_i te e' xs hk
   cases h
   obtain⟨⟨p1,p2⟩,_⟩:=hp
   obtain⟨jn,rfl⟩:=Int.eq_ofNat_of_zero_le p1
   have p2:jn≤xs.length:=by omega
   simp only[Int.toNat_natCast]at hn⊢
   obtain⟨te',u1,u2⟩:=GL hsi
   obtain⟨v,hv,v',h1,h2,_⟩:=A4 hH hx
   cases(List.cons.inj h2).1
   have hkk:BF ([]++An [(k,(none:Option O))]) (AS H) k=some (.sl te e' xs):=by simp [BF,An,BM,hk]
   obtain⟨v2,ls,k1,k2,k3,k4,k5,k6⟩:=hS.os k _ hkk
   rw[h1]at k1
   cases k1
   have hlen:∀l∈ls,l.length=e'.length:=k5.row
   have hS':HS (BF ([]++An [(k,(none:Option O))]) (AS H)) g w:=hS
   have bnd:=fun a hF=>(⟨⟨.inl ⟨rfl,rfl⟩⟩,D8 hH hb a n hF,⟨.inl ⟨rfl,rfl⟩⟩⟩:GG a none none∧GG a xh (some (jn:Int))∧GG a none none)
   have hne:k≠nb:=fun e=>by
    have :=hn (nb,_) (List.mem_singleton.2 rfl)
    rw[←e,h1]at this
    cases this
   have fin:∀v',Det P ⟨ds,.slice t x none xh none,ty,pos,af,gu⟩ n (Lf L ξ) w v' w→Cd v'=Cd v→Own w 0 te e'.length v' (xs.take jn).length (ls.take jn).flatten→(∃ad a b,v'= .slice ad a b)→Ok1 P ⟨ds,.slice t x none xh none,ty,pos,af,gu⟩ n (Lf L ξ) w fun v w'=>∃g',Post (AS H) ⟨[],[(k,none)],[(nb,.sl te e' (xs.take jn))],.sk nb⟩ g w v g' w':=by
    intro v' hd hbl hown hsl
    refine hd.mono fun z z' ⟨e1,e2⟩=> ?_
    subst e1;subst e2
    refine Post.new (u:=z) (F:=Cd z) hS' (hn (nb,_) (List.mem_singleton.2 rfl)) (fun p hp=>by simp at hp;rw[hp]) (fun hk'=>by simp only[An,List.map_cons,List.map_nil,List.mem_singleton]at hk';exact hne hk'.symm) (Chp.refl _ _) (fun b hb=>⟨.inl ⟨k,by simp [An],_,hk,by rw[k2,←hbl];exact hb⟩,(hown.lt b hb).2⟩) fun g' hg hN hF=>⟨⟨z,ls.take jn,hN,hF,hown,by rw[List.length_take];omega,(k5.take jn).mono (ET hg.goes e'),ES (k5.take jn)⟩,⟨z,hN,rfl,?_⟩⟩
    obtain⟨ad,a,b,rfl⟩:=hsl
    cases ad<;>rfl
   obtain⟨o1,o2⟩:=k3
   have hl2:(ls.take jn).flatten.length=(xs.take jn).length*e'.length:=by
    rw[Cs fun l hl=>hlen l (List.mem_of_mem_take hl),List.length_take,List.length_take,k5.len]
   have lt:(xs.take jn).length=jn:=by rw[List.length_take];omega
   rcases o2 with⟨rfl,h0⟩|⟨b,cap,cur,rfl,hb0,hb1,hc,hc2,hcs,hct⟩
   ·have hj:jn=0:=by omega
    subst hj
    have hd:=S3 (P:=P) (n:=n) (w:=w) (ds:=ds) (ty:=ty) (pos:=pos) (af:=af) (gu:=gu) u1 u2 hv bnd ⟨trivial,Int.le_refl _,trivial,fun h=>(by cases h),Nat.le_refl _,Nat.le_refl _,Nat.le_refl _⟩
    exact fin _ hd rfl ⟨hl2,.inl ⟨rfl,lt⟩⟩ ⟨_,_,_,rfl⟩
   ·have hd:=S3 (P:=P) (n:=n) (w:=w) (ds:=ds) (ty:=ty) (pos:=pos) (af:=af) (gu:=gu) (lo:=none) (mx:=none) (hi:=some (jn:Int)) u1 u2 hv bnd ⟨trivial,Int.natCast_nonneg _,trivial,fun h=>(by cases h),Nat.zero_le _,by simp only[bl];omega,Nat.le_refl _⟩
    have hv':(Value.slice (if bl none cap=bl none 0 then some ⟨b,0,none⟩else(some (⟨b,0,none⟩:Addr)).map (·.add (bl none 0*m))) (bl (some (jn:Int)) xs.length-bl none 0) (bl none cap-bl none 0))= .slice (some ⟨b,0,none⟩) jn cap:=by
     simp [bl,CY]
    rw[hv']at hd
    refine fin _ hd rfl ⟨hl2,.inr ⟨b,cap,cur,by rw[lt],hb0,hb1,by rw[lt];omega,hc2,hcs,?_⟩⟩ ⟨_,_,_,rfl⟩
    rw[lt,Pf jn hlen,←hct,List.take_take,Nat.min_eq_left (Nat.mul_le_mul_right _ p2)]
  ·cases h
 ·cases h
end
end Go.Sx
namespace Go.Sx
open Go.Mi Go.RowKit
variable [Dfr]
inductive Rx where
 |call (q:CR)
 |own
 |oi (z:Int)
 |ob (b:Bool)
 |ov (d:D)
def lkR:List (Nat×Rx)→Nat→Option Rx
 |[],_=>none
 |(s,v)::r,t=>bif Nat.beq s t then some v else lkR r t
structure hO where
 P:Program
 Z:Zt
 K:Kt
def iL:D→Option (List D)
 | .nil=>some []
 | .cons d ds=>bif d.one then(iL ds).map (d:: ·)else none
 |_=>none
def YB (L:DL) (f:Operand) (xs:List Operand):Option (FuncId×List D):=match Eb L f,Wh L xs with
 |some (.v (.func (.func f) first captured)),some ays=>bif first.isEmpty&&captured.isEmpty then some (f,ays)else none
 |some (.fn f a b),some ays=>(match iL a,iL b with
  |some a,some b=>some (f,a++ays++b)
  |_,_=>none)
 |_,_=>none
def YA (P:Program) (L:DL) (H:Hp) (t:TypeId) (x:Operand):Option Eff:=match Eb L x,P.underlying t with
 |some (.sk k),some (.slice _)=>(match AS H k with
  |some (.sl _ _ xs)=>some ⟨[k],[],[],.v (.int .i64 xs.length)⟩
  |_=>none)
 |_,_=>none
def oO (P:Program) (L:DL) (H:Hp) (t:TypeId) (x y:Operand):Option (Eff×List Prop):=match Eb L x,Eb L y,VK P t with
 |some (.sk k),some (.v (.int _ i)),some m=>(match AS H k with
  |some (.sl _ e xs)=>bif Nat.beq e.length m then some (⟨[k],[],[],.xp k m xs.length i.toNat 0⟩,[0≤i∧i<(xs.length:Int)])else none
  |_=>none)
 |_,_,_=>none
def J4 (r:Option (D×List Prop)):Option (Eff×List Prop):=r.map fun p=>(⟨[],[],[],p.1⟩,p.2)
def noP (e:Option Eff):Option (Eff×List Prop):=e.map (·,[])
def exB (E:hO) (L:DL) (H:Hp) (nb:Nat):Op→Option (Eff×List Prop)
 | .load t x=>(Acp E.P L H t x).map fun p=>(⟨p.1,[],[],p.2⟩,[])
 | .store t x y=>(Ack E.P L H t x y).map fun p=>(⟨[],[(p.1,some p.2)],[],.top⟩,[])
 | .alloc t=>noP (bA E.Z t nb)
 | .box t x=>noP (Aa0 L t x nb)
 | .build t ps=>J4 ((UC E.P E.Z L t ps.toList).map (·,[]))
 | .buildSlice t len ps=>(match eN E.P E.Z E.K L t len ps.toList with
  |some B=>(match N_ E.P B.te with
   |some m=>bif Nat.beq m B.e.length then some (AaZ B,[])else none
   |none=>none)
  |none=>none)
 | .makeSlice t x y=>UB E.P E.K L t x y nb
 | .slice t x a b c=>(match Aci E.P L H t x a b c nb with
  |some r=>some r
  |none=>J4 (oS E.P L t x a b c))
 | .index t x y=>J4 (oQ E.P L t x y)
 | .indexAddr t x y=>(match oO E.P L H t x y with
  |some r=>some r
  |none=>J4 (w9 E.P t L x y))
 | .call c=>(match c.callee,c.args.toList,c.argTypes.toList with
  | .builtin .append,[s,x],[t,t']=>bif Nat.beq t t' then(match xG E.P E.K L H t s x with
   |some A=>o5 E.P A nb
   |none=>none)else(xE E.P E.K L H t t' s x).map fun A=>A.eff nb
  | .builtin .len,[x],[t]=>(match YA E.P L H t x with
   |some e=>some (e,[])
   |none=>J4 (a7 E.P t L x))
  | .builtin .copy,[x,y],[t,_]=>(Acr E.P L H t x y).map fun c=>(c.eff,[])
  | .builtin .cap,[x],[t]=>J4 (oU E.P L t x)
  |_,_,_=>J4 (exP E.P L (.call c)))
 | .convert s t x=>(match Yz E.P L H s t x with
  |some r=>some r
  |none=>(match Acs E.P L s t x with
   |some r=>some r
   |none=>J4 (exP E.P L (.convert s t x))))
 |op=>J4 (exP E.P L op)
def bB (E:hO) (C:List (Nat×Rx)):Ex:=fun i L H nb o=>match lkR C i with
 |none=>exB E L H nb o.op
 |some (.call q)=>(match o.op with
  | .call c=>(match c.callee with
   | .value f=>(match YB L f c.args.toList with
    |some (f,ays)=>bif Nat.beq f q.f&&q.chk&&ays.all D.one then some (q.eff,[q.need ays H])else none
    |none=>none)
   |_=>none)
  |_=>none)
 |some .own=>(match o.op with
  | .buildSlice t len ps=>(eN E.P E.Z E.K L t len ps.toList).map fun B=>(AaY B nb,[])
  |_=>none)
 |some (.oi z)=>(match exB E L H nb o.op with
  |some (⟨rd,[],[],.v (.int k x)⟩,ps)=>some (⟨rd,[],[],.v (.int k z)⟩,(x=z)::ps)
  |_=>none)
 |some (.ob z)=>(match exB E L H nb o.op with
  |some (⟨rd,[],[],.v (.bool x)⟩,ps)=>some (⟨rd,[],[],.v (.bool z)⟩,(x=z)::ps)
  |_=>none)
 |some (.ov d)=>(match exB E L H nb o.op with
  |some (⟨rd,wr,nw,r⟩,ps)=>some (⟨rd,wr,nw,d⟩,(r=d)::ps)
  |_=>none)
section
variable {n:Nat} {L:DL} {H:Hp} {ds:Option Nat} {ty:TypeId} {pos:String} {af:Array Edge} {gu:Option (Nat×Bool)}
theorem PureOk.eok {P:Program} {o:Oper} {d:D} {ps:List Prop} {H:Nat→Option O} (h:PureOk P n o L d ps) (hp:AllP ps):EOk P n o L H ⟨[],[],[],d⟩:=EOk.rd fun ξ g w hS hH=>h hp ξ g w hH hS.wf
theorem EU {P:Program} {o:Oper} {r:Option (D×List Prop)} {e:Eff} {ps:List Prop} {H:Nat→Option O} (h:J4 r=some (e,ps)) (hp:AllP ps) (hr:∀d ps,r=some (d,ps)→PureOk P n o L d ps):EOk P n o L H e:=by
 obtain⟨⟨d,qs⟩,h1,h2⟩:=Option.map_eq_some_iff.1 h
 cases h2
 exact(hr d _ h1).eok hp
theorem vX {P:Program} {t:TypeId} {x y:Operand} {Lv:List (Nat×Value)} {w:World} {R:Value→World→Prop} {v:Value} (hx:ev Lv x=some v) (hy:ev Lv y=some v) (h:Ok1 P ⟨ds,.makeSlice t x x,ty,pos,af,gu⟩ n Lv w R):Ok1 P ⟨ds,.makeSlice t x y,ty,pos,af,gu⟩ n Lv w R:=by
 intro a K Q hF hk
 have :=h a K Q hF hk
 simp only[Oper.wp,execOp,hF.eval hx,hF.eval hy]at this⊢
 exact this
theorem WR {P:Program} {K:Kt} {t:TypeId} {x y:Operand} {nb:Nat} {e:Eff} {ps:List Prop} {H:Nat→Option O} (h:UB P K L t x y nb=some (e,ps)) (hp:AllP ps):EOk P n ⟨ds,.makeSlice t x y,ty,pos,af,gu⟩ L H e:=by
 have key:∃i,Eb L x=some (.v (.int .i64 i))∧Eb L y=some (.v (.int .i64 i))∧UB P K L t x x nb=some (e,ps):=by
  unfold UB at h⊢
  split at h
  ·rename_i te i j he hx hy
   have hij:i=j:=by
    split at h
    ·split at h
     ·rename_i inf a _ _ _ z _
      cases hb:Nat.beq inf.size 1&&z.oneCell' with
      |false=>rw[hb]at h;cases h
      |true=>
       rw[hb]at h
       obtain⟨q,_,h2⟩:=Option.map_eq_some_iff.1 h
       simp only[Prod.mk.injEq]at h2
       obtain⟨_,rfl⟩:=h2
       exact hp.1
     ·cases h
    ·cases h
   subst hij
   refine⟨i,hx,hy,?_⟩
   rw[he,hx]
   exact h
  ·cases h
 obtain⟨i,hx,hy,h2⟩:=key
 intro ξ g w hS hH hn
 exact vX (Bo hH hx) (Bo hH hy) (wZ (y:=x) h2 hp rfl ξ g w hS hH hn)
theorem eK {P:Program} {t:TypeId} {x:Operand} {e:Eff} (h:YA P L H t x=some e):EOk P n ⟨ds,.call ⟨.builtin .len,#[x],#[t]⟩,ty,pos,af,gu⟩ L (AS H) e:=by
 unfold YA at h
 split at h
 ·rename_i k te hx hu
  split at h
  ·rename_i te' e' xs hk
   cases h
   refine EOk.rd fun ξ g w hS hH=>⟨_,rfl,?_⟩
   obtain⟨v,hv,v',h1,h2,_⟩:=A4 hH hx
   cases(List.cons.inj h2).1
   obtain⟨v2,ls,k1,k2,k3,_⟩:=hS.os k _ (by simp only[BF,AN.2 (List.mem_singleton.2 rfl)];exact hk)
   rw[h1]at k1
   cases k1
   rcases k3.at with⟨rfl,h4,_⟩|⟨b,cap,rfl,_,_⟩
   ·rw[h4];exact Cv hu hv
   ·exact Cv hu hv
  ·cases h
 ·cases h
theorem oN {P:Program} {t:TypeId} {x y:Operand} {e:Eff} {ps:List Prop} (h:oO P L H t x y=some (e,ps)) (hp:AllP ps):EOk P n ⟨ds,.indexAddr t x y,ty,pos,af,gu⟩ L (AS H) e:=by
 unfold oO at h
 split at h
 ·rename_i k kk i m hx hy hsi
  split at h
  ·rename_i te' e' xs hk
   cases hb:Nat.beq e'.length m with
   |false=>rw[hb]at h;cases h
   |true=>
    rw[hb]at h
    have :=Nat.eq_of_beq_eq_true hb
    subst this
    cases h
    obtain⟨te,u1,u2⟩:=GL hsi
    refine EOk.rd fun ξ g w hS hH=> ?_
    obtain⟨v,hv,v',h1,h2,_⟩:=A4 hH hx
    cases(List.cons.inj h2).1
    obtain⟨v2,ls,k1,k2,k3,_⟩:=hS.os k _ (by simp only[BF,AN.2 (List.mem_singleton.2 rfl)];exact hk)
    rw[h1]at k1
    cases k1
    have hi:i.toNat<xs.length:=by have :=hp.1;omega
    rcases k3.at with⟨rfl,h4,_⟩|⟨b,cap,rfl,_,_⟩
    ·omega
    ·refine⟨_,⟨hi,b,cap,h1,rfl⟩,?_⟩
     have :=YP (P:=P) (n:=n) (w:=w) (ds:=ds) (ty:=ty) (pos:=pos) (af:=af) (gu:=gu) u1 u2 hv (Bo hH hy) hp.1.1 hp.1.2
     simpa using this
  ·cases h
 ·cases h
theorem UD {E:hO} {nb:Nat} {op:Op} {e:Eff} {ps:List Prop} (hZ:b9 E.P E.Z) (h:exB E L H nb op=some (e,ps)) (hp:AllP ps):EOk E.P n ⟨ds,op,ty,pos,af,gu⟩ L (AS H) e:=by
 unfold exB at h
 split at h
 ·obtain⟨⟨rd,d⟩,h1,h2⟩:=Option.map_eq_some_iff.1 h
  cases h2
  exact w8 h1
 ·obtain⟨⟨k,o'⟩,h1,h2⟩:=Option.map_eq_some_iff.1 h
  cases h2
  exact wU h1
 ·obtain⟨e',h1,h2⟩:=Option.map_eq_some_iff.1 h
  cases h2
  exact YE hZ h1
 ·obtain⟨e',h1,h2⟩:=Option.map_eq_some_iff.1 h
  cases h2
  exact oX h1
 ·refine EU h hp fun d qs hq=> ?_
  obtain⟨d',h1,h2⟩:=Option.map_eq_some_iff.1 hq
  cases h2
  exact YD hZ h1
 ·split at h
  ·rename_i B hB
   split at h
   ·rename_i m hm
    cases hb:Nat.beq m B.e.length with
    |false=>rw[hb]at h;cases h
    |true=>
     rw[hb]at h
     have :=Nat.eq_of_beq_eq_true hb
     subst this
     cases h
     exact oW hZ hB hm
   ·cases h
  ·cases h
 ·exact WR h hp
 ·split at h
  ·rename_i r hr
   cases h
   exact wS hr hp
  ·exact EU h hp fun d qs hq=>oR hq
 ·exact EU h hp fun d qs hq=>oP hq
 ·split at h
  ·rename_i r hr
   cases h
   exact oN hr hp
  ·exact EU h hp fun d qs hq=>a8 hq
 ·rename_i c
  obtain⟨cl,⟨xs⟩,⟨ts⟩⟩:=c
  simp only at h
  split at h
  ·rename_i s x t t'
   cases hb:Nat.beq t t' with
   |false=>
    rw[hb]at h
    simp only[cond_false]at h
    obtain⟨A,hA,hE⟩:=Option.map_eq_some_iff.1 h
    have e1:e=(A.eff nb).1:=by rw[hE]
    have e2:ps=(A.eff nb).2:=by rw[hE]
    subst e1
    exact xD hA (e2▸hp)
   |true=>
    rw[hb]at h
    have :=Nat.eq_of_beq_eq_true hb
    subst this
    simp only[cond_true]at h
    split at h
    ·rename_i A hA
     exact o4 hA h hp
    ·cases h
  ·split at h
   ·rename_i e' he
    cases h
    exact eK he
   ·exact EU h hp fun d qs hq=>WS hq
  ·obtain⟨c,h1,h2⟩:=Option.map_eq_some_iff.1 h
   cases h2
   exact xB h1
  ·exact EU h hp fun d qs hq=>oT hq
  ·exact EU h hp fun d qs hq=>Yy hq
 ·split at h
  ·rename_i r hr
   cases h
   exact eJ hr hp
  ·split at h
   ·rename_i r hr
    cases h
    exact xC hr hp
   ·exact EU h hp fun d qs hq=>Yy hq
 ·exact EU h hp fun d qs hq=>Yy hq
def CsOk (P:Program):List (Nat×Rx)→Prop
 |[]=>True
 |(_,.call q)::r=>ConOk P q.f q.c∧CsOk P r
 |_::r=>CsOk P r
theorem CsOk.at {P:Program}:∀{C:List (Nat×Rx)} {i:Nat} {q:CR},CsOk P C→lkR C i=some (.call q)→ConOk P q.f q.c
 |(s,x)::r,i,q,h,hl=>by
  simp only[lkR]at hl
  by_cases e:s=i
  ·subst e
   simp at hl
   subst hl
   exact h.1
  ·rw[Bb e]at hl
   cases x with
   |call q'=>exact h.2.at hl
   |own=>exact CsOk.at (C:=r) h hl
   |oi z=>exact CsOk.at (C:=r) h hl
   |ob z=>exact CsOk.at (C:=r) h hl
   |ov z=>exact CsOk.at (C:=r) h hl
theorem GI {g:G} {w:World}:∀{d:D} {ds:List D} {vs:List Value},iL d=some ds→B4 g.X g.N w d true vs→B4 g.X g.N w (chain ds) true vs:=by
 intro d
 induction d with
 |nil=>intro ds vs h hs;cases h;exact hs
 |cons a b _ ih=>
  intro ds vs h hs
  simp only[iL]at h
  cases ho:a.one with
  |false=>rw[ho]at h;cases h
  |true=>
   rw[ho]at h
   obtain⟨q,h1,rfl⟩:=Option.map_eq_some_iff.1 h
   obtain⟨l1,l2,rfl,h2,h3⟩:=hs
   exact⟨l1,l2,rfl,h2,ih h1 h3⟩
 |_=>intro ds vs h;cases h
theorem Dy {g:G} {w:World} {m:Bool}:∀{a b:List D} {va vb:List Value},B4 g.X g.N w (chain a) m va→B4 g.X g.N w (chain b) m vb→B4 g.X g.N w (chain (a++b)) m (va++vb)
 |[],b,va,vb,h,k=>by have :va=[]:=h;subst this;exact k
 |d::a,b,va,vb,⟨l1,l2,e,h1,h2⟩,k=>by subst e;exact⟨l1,l2++vb,by simp,h1,Dy h2 k⟩
theorem GZ {E:hO} {C:List (Nat×Rx)} (hZ:b9 E.P E.Z) (hC:CsOk E.P C):Nz E.P n (bB E C):=by
 intro i L H nb o e ps h hp
 obtain⟨ds,op,ty,pos,af,gu⟩:=o
 unfold bB at h
 split at h
 ·exact UD hZ h hp
 ·rename_i q hq
  have hc:=hC.at hq
  split at h
  ·rename_i c hop
   simp only at hop
   subst hop
   obtain⟨cl,xs,ts⟩:=c
   split at h
   ·rename_i f hf
    simp only at hf
    subst hf
    split at h
    ·rename_i f' ays hfn
     cases hb:Nat.beq f' q.f&&q.chk&&ays.all D.one with
     |false=>rw[hb]at h;cases h
     |true=>
      rw[hb]at h
      simp only[Bool.and_eq_true,List.all_eq_true]at hb
      obtain⟨⟨b1,b2⟩,b3⟩:=hb
      have b1:=Nat.eq_of_beq_eq_true b1
      subst b1
      cases h
      have hq':=CRok.of b2
      obtain⟨n1,n2⟩:=CR.need_of hp.1
      intro ξ g w hS hH hn
      have fin:∀{vs:List Value},B4 g.X g.N w (chain ays) true vs→Calls E.P q.f vs.toArray w (Rh fun v w'=>∃g',Post (AS H) q.eff g w v g' w'):=fun hv=>by
       have :=Lh (es:=q.c.args.map (D.ren q.r)) hv b3
       rw[n1]at this
       exact fB hq' hc n2 hS hn this
      unfold YB at hfn
      split at hfn
      ·rename_i f0 first captured as' hx has
       cases he:first.isEmpty&&captured.isEmpty with
       |false=>rw[he]at hfn;cases hfn
       |true=>
        rw[he]at hfn
        simp only[cond_true,Option.some.injEq,Prod.mk.injEq]at hfn
        obtain⟨rfl,rfl⟩:=hfn
        rw[Bool.and_eq_true,Array.isEmpty_iff,Array.isEmpty_iff]at he
        obtain⟨rfl,rfl⟩:=he
        obtain⟨vs,k1,k2,_⟩:=DD hH has
        refine LZ (first := #[]) (captured:= #[]) (Bo hH hx) hc.1 k1 ?_
        simpa using fin k2
      ·rename_i f0 a b as' hx has
       split at hfn
       ·rename_i a' b' ha hb'
        simp only[Option.some.injEq,Prod.mk.injEq]at hfn
        obtain⟨rfl,rfl⟩:=hfn
        obtain⟨v,hv,va,vb,h1,h2,h3⟩:=A4 hH hx
        cases(List.cons.inj h3).1
        obtain⟨vs,k1,k2,_⟩:=DD hH has
        refine LZ hv hc.1 k1 ?_
        have :=fin (Dy (Dy (GI ha h1) k2) (GI hb' h2))
        simpa using this
       ·cases hfn
      ·cases hfn
    ·cases h
   ·cases h
  ·cases h
 ·split at h
  ·rename_i t len qs hop
   simp only at hop
   subst hop
   obtain⟨B,h1,h2⟩:=Option.map_eq_some_iff.1 h
   cases h2
   exact oV hZ h1
  ·cases h
 ·rename_i z hz
  split at h
  ·rename_i rd k x qs hb
   cases h
   obtain⟨rfl,hp⟩:=hp
   exact UD hZ hb hp
  ·cases h
 ·rename_i z hz
  split at h
  ·rename_i rd x qs hb
   cases h
   obtain⟨rfl,hp⟩:=hp
   exact UD hZ hb hp
  ·cases h
 ·rename_i d hz
  split at h
  ·rename_i rd wr nw r qs hb
   cases h
   obtain⟨rfl,hp⟩:=hp
   exact UD hZ hb hp
  ·cases h
end
end Go.Sx
namespace Go.Sx
open Go.Mi Go.RowKit
variable [Dfr]
def Acl (P:Program) (L:DL) (H:Hp):ResultVar→Option D
 | .tmp t=>Do L t
 | .cell x t=>match Do L x,NX P t with
  |some (.cp k o),some (fl,m)=>(match AS H k with
   |some (.ob _ d)=>(It (GV d) o m).bind (H4 fl)
   |_=>none)
  |_,_=>none
def I7 (P:Program) (L:DL) (H:Hp):List ResultVar→Option (List D)
 |[]=>some []
 |r::rs=>match Acl P L H r,I7 P L H rs with
  |some d,some ds=>bif d.one then some (d::ds)else none
  |_,_=>none
def X8:List D→D
 |[d]=>d
 |ds=> .tu (chain ds)
section
variable {P:Program} {n:Nat} {L:DL} {H:Hp} {S0:Nat→Prop} {g0 g:G} {w0 w:World} {nb:Nat} {a:Act} {Q:Exit→Act→World→Prop}
theorem St.fx (h:St n S0 g0 w0 L H nb a g w):Fr a n L g w:=⟨h.size,h.defers,h.fr⟩
theorem ZG {t:TypeId} {fl:Bool} {m b o:Nat} {r:List D} {d:D} {l:List Value} (ht:NX P t=some (fl,m)) (ha:At w b o l) (hl:l.length=m) (hs:CI g.X g.N w r l) (ho:∀u∈l,u.oneCell'=true) (hf:H4 fl r=some d):∃v,Sm g w d v∧(loadVar t ⟨b,o,none⟩).run P w= .ok v w:=by
 obtain⟨td,h1,h2,h3⟩:=EP ht
 unfold H4 at hf
 cases fl with
 |true=>
  simp only[cond_true]at hf
  split at hf
  ·rename_i d0
   obtain⟨v,rfl,h4⟩:=Ua (CP.1 hs) hf
   have hc:w.cell? ⟨b,o,none⟩=some v:=by simpa using ha 0 v rfl
   exact⟨v,h4,by simp [loadVar,Gi h1 h2,hc]⟩
  ·cases hf
 |false=>
  simp only[cond_false,Option.some.injEq]at hf
  subst hf
  refine⟨_,Uh hs ho,?_⟩
  obtain⟨inf,hi,hz⟩:=Option.map_eq_some_iff.1 h3
  have hag:(isAgg t).run P w= .ok true w:=by
   simp only[isAgg,Sem.run_bind,Ak h1,Result.andThen_ok]
   cases td<;>simp_all [TypeDesc.flat]
  have hld:=run_loadCells_list (P:=P) w ⟨b,o,none⟩ l (fun j v hj=>by rw[CY];exact ha j v hj)
  subst hl
  simp [loadVar,hag,sizeOf,typeInfo,hi,hz,hld]
theorem wV (hS:St n S0 g0 w0 L H nb a g w) {r:ResultVar} {d:D} (h:Acl P L H r=some d):∃v,RV P a w r v∧Sm g w d v:=by
 cases r with
 |tmp t=>exact⟨_,RV.tmp hS.fx.frm (hS.fx.get.lk h),hS.fx.get t d h⟩
 |cell x t=>
  simp only[Acl]at h
  split at h
  ·rename_i k o fl m hx ht
   split at h
   ·rename_i ty d0 hk
    obtain⟨r,h1,h2⟩:=Option.bind_eq_some_iff.1 h
    obtain⟨b,c,k1,k2,k3,k4,k5⟩:=hS.hs.os k _ hk
    obtain⟨b',e1,e2⟩:=hS.fx.get x _ hx
    rw[k1]at e1
    cases e1
    have hxv:a.tmps.getD x undef=vP b o:=(List.cons.inj e2).1
    obtain⟨q1,q2⟩:=GR (Dq k4) h1
    have ha:At w b 0 c.toList:=At.of_blk k3
    have key:∃v,Sm g w d v∧(loadVar t ⟨b,o,none⟩).run P w= .ok v w:=by
     cases hm:m with
     |zero=>
      subst hm
      exact ZG ht (l:=[]) (fun i u hu=>by simp at hu) rfl (by simpa using q1) (by simp) h2
     |succ m'=>
      have q2':o+m≤c.toList.length:=by rw[if_neg (by omega)]at q2;simpa using q2
      refine ZG ht (l:=(c.toList.drop o).take m) ?_ (by simp at q2'⊢;omega) q1 (fun u hu=>k5 u (List.mem_of_mem_drop (List.mem_of_mem_take hu))) h2
      have h3:c.toList=c.toList.take o++(c.toList.drop o).take m++(c.toList.drop o).drop m:=by rw[List.append_assoc,List.take_append_drop,List.take_append_drop]
      have :=At.sub ha h3
      rw[List.length_take,Nat.min_eq_left (by omega),Nat.zero_add]at this
      exact this
    obtain⟨v,h3,h4⟩:=key
    exact⟨v,by simp only[RV,rv,hxv,asAddr,Sem.run_bind,Sem.run_pure,Result.andThen_ok,h4],h3⟩
   ·cases h
  ·cases h
theorem WQ (hS:St n S0 g0 w0 L H nb a g w):∀{rs:List ResultVar} {ds:List D},I7 P L H rs=some ds→∃vs,(rs.mapM (rv a.tmps)).run P w= .ok vs w∧B4 g.X g.N w (chain ds) true vs∧vs.length=ds.length∧∀d∈ds,d.one=true
 |[],ds,h=>by simp only[I7,Option.some.injEq]at h;subst h;exact⟨[],by simp,rfl,rfl,by simp⟩
 |r::rs,ds,h=>by
  simp only[I7]at h
  split at h
  ·rename_i d ds' h1 h2
   cases ho:d.one with
   |false=>rw[ho]at h;cases h
   |true=>
    rw[ho]at h
    cases h
    obtain⟨v,k1,k2⟩:=wV hS h1
    obtain⟨vs,k3,k4,k5,k6⟩:=WQ hS h2
    unfold RV at k1
    refine⟨v::vs,by simp [List.mapM_cons,k1,k3],⟨[v],vs,rfl,k2,k4⟩,by simp [k5],fun e he=> ?_⟩
    rcases List.mem_cons.1 he with rfl|he
    ·exact ho
    ·exact k6 e he
  ·cases h
theorem kZ (hS:St n S0 g0 w0 L H nb a g w) {fn:Func} {ds:List D} (h:I7 P L H fn.results.toList=some ds):∃v,(results fn a.tmps).run P w= .ok v w∧Sm g w (X8 ds) v:=by
 obtain⟨vs,h1,h2,h3,h4⟩:=WQ hS h
 have hr:(results fn a.tmps).run P w= .ok (if h:vs.toArray.size=1 then vs.toArray[0]else .tuple vs.toArray) w:=by
  rw[X7,Array.mapM_eq_mapM_toList]
  simp [h1]
 refine⟨_,hr,?_⟩
 match ds,vs,h2,h3 with
 |[],[],h2,_=>exact⟨[],rfl,rfl⟩
 |[d],[v],h2,_=>
  obtain⟨l1,l2,e,k1,k2⟩:=h2
  have :l2=[]:=k2
  subst this
  rw[List.append_nil]at e
  subst e
  exact k1
 |d::e::ds,u::v::vs,h2,_=>exact⟨_,h2,rfl⟩
def La:List D→Nat→DL
 |[],_=>[]
 |d::ds,i=>(i,d)::La ds (i+1)
def DK (H:Hp):Hc→Bool→Prop
 |[],_=>True
 |(k,o)::r,b=>AS H k=some o∧DK H r b
def FZ (c:Hc):Hp:=c.map fun p=>(p.1,some p.2)
theorem FY {c:Hc} {k:Nat}:AS (FZ c) k=DF c k:=by
 induction c with
 |nil=>rfl
 |cons p c ih=>
  obtain⟨s,o⟩:=p
  simp only[FZ,List.map_cons,AS,Es,DF]at ih⊢
  by_cases e:s=k
  ·subst e;simp
  ·rw[Bb e];exact ih
theorem Fi {E : Value → Ending} (hD : Dfr.ds = ([] : List Deferred)) {f : FuncId} {fn : Func} {code : Code} {c : Con} {nb : Nat} (hf : P.funcs[f]? = some fn) (hname : (fn.name == "runtime.NumGoroutine") = false) (hb : fn.body = some code) (hn : fn.ntmps = n) (hl : Nat.ble c.args.length n = true) (hone : c.args.all D.one = true) (hk : (An c.H0).all (Nat.blt · nb) = true)
  (h:∀(g0:G) (w0:World) (a:Act) (g:G) (w:World),(∀k v,g0.N k=some v→k∈An c.H0)→St n (c.foot g0) g0 w0 (La c.args 0) (FZ c.H0) nb a g w→code.wp P (bodyPost P fn (fun e w'=>∃v,e=E v∧∃g',C6 c g0 w0 v g' w')) a w):Zl E P f c:=by
 refine⟨⟨fn,hf,hname,by rw[hb];rfl⟩,fun vs g w hS hN hv=> ?_⟩
 have hlen:∀{ds:List D} {vs:List Value},(∀d∈ds,d.one=true)→B4 g.X g.N w (chain ds) true vs→vs.length=ds.length:=by
  intro ds
  induction ds with
  |nil=>intro vs _ h;have :vs=[]:=h;subst this;rfl
  |cons d ds ih=>
   rintro vs ho ⟨l1,l2,rfl,h1,h2⟩
   obtain⟨v,rfl⟩:=FU h1 (ho d (List.mem_cons_self ..))
   simp [ih (fun e he=>ho e (List.mem_cons_of_mem _ he)) h2]
 have ho:=List.all_eq_true.1 hone
 have hvl:=hlen ho hv
 refine qE hf hb hn (by rw[hvl];exact hl) hD fun a hF=> ?_
 refine h g w a g w hN ⟨hF.size,hF.defers,fun t d ht=> ?_,?_,Go.refl _ _ _ fun x ⟨k,o,h1,h2⟩=>hS.own k o h1 x h2,hS.wf,fun k o hk b hb=> .inl ⟨k,o,by rw[←FY];exact hk,hb⟩,fun k v hkv=> ?_⟩
 ·have key : ∀ (ds : List D) (us : List Value) (i : Nat), (∀ d ∈ ds, d.one = true) → B4 g.X g.N w (chain ds) true us → (∀ s v, lk ((us.zipIdx i).map fun p => (p.2, p.1)) s = some v → a.tmps.getD s undef = v) → Do (La ds i) t = some d → Sm g w d (a.tmps.getD t undef) := by
   intro ds
   induction ds with
   |nil=>intro us i _ _ _ ht;cases ht
   |cons e ds ih=>
    rintro us i ho ⟨l1,l2,rfl,h1,h2⟩ hg ht
    obtain⟨v,rfl⟩:=FU h1 (ho e (List.mem_cons_self ..))
    simp only[La,Do]at ht
    by_cases e':i=t
    ·subst e'
     simp at ht
     subst ht
     have :=hg i v (by simp [lk])
     rw[this]
     exact h1
    ·rw[Bb e']at ht
     refine ih l2 (i+1) (fun q hq=>ho q (List.mem_cons_of_mem _ hq)) h2 (fun s v hs=>hg s v ?_) ht
     simp only[List.singleton_append,List.zipIdx_cons,List.map_cons,lk]
     have hne:¬i=s:=fun es=>by
      subst es
      have :∀(us:List Value) (j:Nat),i<j→lk ((us.zipIdx j).map fun p=>(p.2,p.1)) i=none:=by
       intro us
       induction us with
       |nil=>intro j _;rfl
       |cons u us ih2=>
        intro j hj
        simp only[List.zipIdx_cons,List.map_cons,lk]
        rw[Bb (show¬j=i by omega)]
        exact ih2 (j+1) (by omega)
      rw[this l2 (i+1) (by omega)]at hs
      cases hs
     rw[Bb hne]
     exact hs
  exact key c.args vs 0 ho hv hF.get ht
 ·exact hS.sub fun k o hk=>by rw[←FY];exact hk
 ·have :=List.all_eq_true.1 hk k (hN k v hkv)
  simpa[Nat.blt_eq]using this
theorem pW (hD : Dfr.ds = ([] : List Deferred)) {f : FuncId} {fn : Func} {code : Code} {c : Con} {nb : Nat} (hf : P.funcs[f]? = some fn) (hname : (fn.name == "runtime.NumGoroutine") = false) (hb : fn.body = some code) (hn : fn.ntmps = n) (hl : Nat.ble c.args.length n = true) (hone : c.args.all D.one = true) (hk : (An c.H0).all (Nat.blt · nb) = true)
  (h:∀(g0:G) (w0:World) (a:Act) (g:G) (w:World),(∀k v,g0.N k=some v→k∈An c.H0)→St n (c.foot g0) g0 w0 (La c.args 0) (FZ c.H0) nb a g w→code.wp P (bodyPost P fn (Rh fun v w'=>∃g',C6 c g0 w0 v g' w')) a w):ConOk P f c:=
 Fi (E:= .returned) hD hf hname hb hn hl hone hk h
theorem AaT (hD:Dfr.ds=([]:List Deferred)) {fn:Func} {c:Con} {ds:List D} {e:Exit} (he:e= .normal∨e= .ret) (hS:St n (c.foot g0) g0 w0 L H nb a g w) (h:I7 P L H fn.results.toList=some ds) (hr:weak (X8 ds) c.res=c.res) (h1:DK H c.H1 true):bodyPost P fn (Rh fun v w'=>∃g',C6 c g0 w0 v g' w') e a w:=by
 obtain⟨v,h2,h3⟩:=kZ hS h
 have h4:Sm g w c.res v:=hr▸N4 h3
 have key:∀k o,DF c.H1 k=some o→AS H k=some o:=by
  have :∀(r:Hc),DK H r true→∀k o,DF r k=some o→AS H k=some o:=by
   intro r
   induction r with
   |nil=>intro _ k o h;cases h
   |cons p r ih=>
    obtain⟨s,u⟩:=p
    intro hh k o h
    simp only[DF]at h
    by_cases e:s=k
    ·subst e;simp at h;subst h;exact hh.1
    ·rw[Bb e]at h;exact ih hh.2 k o h
  exact this c.H1 h1
 have post:∃g',C6 c g0 w0 v g' w:=⟨g,hS.go,h4,hS.hs.sub key,fun k o hk b hb=>hS.fp k o (key k o hk) b hb⟩
 rcases he with rfl|rfl
 ·exact sQ hD hS.fx.frm h2 post
 ·exact sP hD hS.fx.frm h2 post
theorem nH {x y:Code} {c:Operand} {t:Bool} (hS:St n S0 g0 w0 L H nb a g w) (hc:Eb L c=some (.v (.bool t))) (ht:t=true→x.wp P Q a w) (hf:t=false→y.wp P Q a w):(Code.cond c x y).wp P Q a w:=
 AdP hS.fx.frm (Bo hS.fx.get hc) ht hf
theorem Ab6 {σ : Type} {code : Code} (m : σ → Nat) (Li : σ → DL) (Hi : σ → Hp) (Pi : σ → Prop) {nb' : Nat} (s0 : σ) (hP : Pi s0) (hS : St n S0 g0 w0 (Li s0) (Hi s0) nb' a g w)
  (step:∀s a g w,Pi s→St n S0 g0 w0 (Li s) (Hi s) nb' a g w→code.wp P (Exit.then (fun a' w'=>∃s',m s'<m s∧Pi s'∧∃g',St n S0 g0 w0 (Li s') (Hi s') nb' a' g' w') Q) a w):(Code.loop code).wp P Q a w:=by
 refine cE (fun k a w=>∃s,m s=k∧Pi s∧∃g,St n S0 g0 w0 (Li s) (Hi s) nb' a g w) (m s0) ⟨s0,rfl,hP,g,hS⟩ ?_
 rintro k a w ⟨s,rfl,hp,g,hS⟩
 refine wp_mono (step s a g w hp hS) fun e a w h=> ?_
 cases e<;>first |exact h|skip
 obtain⟨s',h1,h2,g',h3⟩:=h
 exact⟨m s',h1,s',rfl,h2,g',h3⟩
end
end Go.Sx
namespace Go.Sx
open Go.Mi Go.RowKit
variable [Dfr]
def Gy (ρ:Ny) (ks0:List Nat) (L':DL) (H':Hc) (nb':Nat):Bool:=
 let a:=An ρ
 Gq a&&Gq (ρ.map (·.2))&&(ks0.all fun k=>BM k a&&Nat.beq (rn ρ k) k)&&(L'.all fun p=>D_ a p.2)&&(H'.all fun p=>BM p.1 a&&Ec a p.2)&&(a.all (Nat.blt · nb'))
section
variable {P:Program} {n:Nat} {L:DL} {H:Hp} {S0:Nat→Prop} {g0 g:G} {w0 w:World} {nb:Nat} {a:Act}
theorem On:∀{L:DL} {t:Nat} {d:D},Do L t=some d→(t,d)∈L
 |(s,u)::r,t,d,h=>by
  simp only[Do]at h
  by_cases e:s=t
  ·subst e;simp at h;subst h;simp
  ·rw[Bb e]at h;exact List.mem_cons_of_mem _ (On h)
theorem Oo {r:D→D} {L:DL} {t:Nat}:Do (L.map fun p=>(p.1,r p.2)) t=(Do L t).map r:=by
 induction L with
 |nil=>rfl
 |cons p L ih=>
  obtain⟨s,u⟩:=p
  simp only[List.map_cons,Do]
  by_cases e:s=t
  ·subst e;simp
  ·rw[Bb e];simpa using ih
theorem St.ren {ks0:List Nat} (hg0:∀k v,g0.N k=some v→k∈ks0) (hS:St n S0 g0 w0 L H nb a g w) (ρ:Ny) (L':DL) (H':Hc) (nb':Nat) (hc:Gy ρ ks0 L' H' nb'=true) (hL:Bc L (An L')=L'.map fun p=>(p.1,p.2.ren (rn ρ))) (hH:Ri H (rn ρ) H'):∃g',St n S0 g0 w0 L' (FZ H') nb' a g' w:=by
 simp only[Gy,Bool.and_eq_true,List.all_eq_true]at hc
 obtain⟨⟨⟨⟨⟨c1,c2⟩,c3⟩,c4⟩,c5⟩,c6⟩:=hc
 have c1:=EE c1
 have c2:=EE c2
 have nm:∀{ks:List Nat} {d:D},D_ ks d=true→d.plain=true∧∀k∈d.nm,k∈ks:=fun {ks d} h=>by
  simp only[D_,Bool.and_eq_true,List.all_eq_true]at h
  exact⟨h.1,fun k hk=>AN.1 (h.2 k hk)⟩
 have nmO:∀{ks:List Nat} {d:O},Ec ks d=true→d.plain=true∧∀k∈d.nm,k∈ks:=fun {ks d} h=>by
  simp only[Ec,Bool.and_eq_true,List.all_eq_true]at h
  exact⟨h.1,fun k hk=>AN.1 (h.2 k hk)⟩
 let g':G:=⟨fun k=>if k∈An ρ then g.N (rn ρ k)else none,fun k=>g.F (rn ρ k),g.X⟩
 have gN:∀k∈An ρ,g'.N k=g.N (rn ρ k):=fun k hk=>if_pos hk
 have hk0:∀k∈ks0,k∈An ρ∧rn ρ k=k:=fun k hk=>by
  have :=c3 k hk
  exact⟨AN.1 this.1,Nat.eq_of_beq_eq_true this.2⟩
 have hob:∀k o,AS (FZ H') k=some o→k∈An ρ∧o.plain=true∧(∀j∈o.nm,j∈An ρ)∧AS H (rn ρ k)=some (o.ren (rn ρ)):=fun k o ho=>by
  rw[FY]at ho
  have :=c5 _ (JF ho)
  simp only at this
  exact⟨AN.1 this.1,(nmO this.2).1,(nmO this.2).2,MU hH ho⟩
 have hinj:∀i∈An ρ,∀j∈An ρ,rn ρ i=rn ρ j→i=j:=fun i hi j hj e=>by
  have h1:=Gu c2 (Et c1 hi)
  have h2:=Gu c2 (Et c1 hj)
  rw[e,h2]at h1
  exact(Option.some.inj h1).symm
 refine⟨g',hS.size,hS.defers,fun t d ht=> ?_,⟨hS.hs.wf,fun k o ho=> ?_,fun k o ho b hb=> ?_,fun k o k' o' ho ho' hne b hb hb'=> ?_⟩,⟨hS.go.ch,hS.go.s,hS.go.x,hS.go.k,fun k v hk=> ?_,fun k v hk=> ?_⟩,hS.wf0,fun k o ho b hb=> ?_,fun k v hk=> ?_⟩
 ·have h1:Do (Bc L (An L')) t=some (d.ren (rn ρ)):=by rw[hL,Oo,ht];rfl
  have h2:=hS.fr t _ (Ef h1).2
  obtain⟨p1,p2⟩:=nm (c4 _ (On ht))
  exact(Fu d _ _ p1 fun k hk=>gN k (p2 k hk)).1 h2
 ·obtain⟨h1,h2,h3,h4⟩:=hob k o ho
  exact(Jm h2 (fun j hj=>gN j (h3 j hj)) (gN k h1) rfl rfl).1 (hS.hs.os _ _ h4)
 ·exact hS.hs.own _ _ (hob k o ho).2.2.2 b hb
 ·exact hS.hs.dis _ _ _ _ (hob k o ho).2.2.2 (hob k' o' ho').2.2.2 (fun e=>hne (hinj k (hob k o ho).1 k' (hob k' o' ho').1 e)) b hb hb'
 ·obtain⟨h1,h2⟩:=hk0 k (hg0 k v hk)
  rw[gN k h1,h2]
  exact hS.go.n k v hk
 ·obtain⟨h1,h2⟩:=hk0 k (hg0 k v hk)
  show g.F (rn ρ k)=_
  rw[h2]
  exact hS.go.f k v hk
 ·exact hS.fp _ _ (hob k o ho).2.2.2 b hb
 ·by_cases h:k∈An ρ
  ·have :=c6 k h
   rw[Nat.blt_eq]at this
   exact this
  ·rw[show g'.N k=none from if_neg h]at hk;cases hk
def D.sb (d:D) (k:Nat) (q:Nat→D) (s:D):D:=match d with
 | .cons d ds=> .cons (d.sb k q s) (ds.sb k q s)
 | .ag d=> .ag (d.sb k q s)
 | .tu d=> .tu (d.sb k q s)
 | .fn f a b=> .fn f (a.sb k q s) (b.sb k q s)
 | .ifc t d=> .ifc t (d.sb k q s)
 | .im d o=> .im (d.sb k q s) o
 | .cp j o=>bif Nat.beq j k then q o else .cp j o
 | .sk j=>bif Nat.beq j k then s else .sk j
 |d=>d
theorem jZ {X X' : Nat → Prop} {N : Nat → Option Value} {k : Nat} {q : Nat → D} {s : D} (hx : ∀ x, X' x → X x) (hq : ∀ b o m, N k = some (vp b) → B4 X' N w (q o) m [vP b o]) (hs : ∀ v m, N k = some v → v.oneCell' = true → B4 X' N w s m [v]) :
  ∀{d:D} {m:Bool} {l:List Value},B4 X N w d m l→B4 X' N w (d.sb k q s) m l:=by
 intro d
 induction d with
 |cons a b iha ihb=>rintro m l ⟨l1,l2,rfl,h1,h2⟩;exact⟨l1,l2,rfl,iha h1,ihb h2⟩
 |ag d ih=>rintro m l ⟨l',h1,h2,h3⟩;exact⟨l',ih h1,h2,h3⟩
 |tu d ih=>rintro m l ⟨l',h1,h2⟩;exact⟨l',ih h1,h2⟩
 |fn f a b iha ihb=>rintro m l ⟨va,vb,h1,h2,h3⟩;exact⟨va,vb,iha h1,ihb h2,h3⟩
 |ifc t d ih=>rintro m l ⟨v,h1,h2⟩;exact⟨v,ih h1,h2⟩
 |im d o ih=>rintro m l ⟨b,l',h1,h2,h3,h4,h5,h6⟩;exact⟨b,l',fun h=>h1 (hx b h),h2,h3,h4,h5,ih h6⟩
 |cp j o=>
  intro m l h
  simp only[D.sb]
  by_cases e:j=k
  ·subst e
   simp only[Nat.beq_refl,cond_true]
   obtain⟨b,h1,rfl⟩:=h
   exact hq b o m h1
  ·rw[Bb e];exact h
 |sk j=>
  intro m l h
  simp only[D.sb]
  by_cases e:j=k
  ·subst e
   simp only[Nat.beq_refl,cond_true]
   obtain⟨v,h1,rfl,h2⟩:=h
   exact hs v m h1 h2
  ·rw[Bb e];exact h
 |_=>intro m l h;exact Aay h hx
def O.sb (o:O) (k:Nat) (q:Nat→D) (s:D):O:=match o with
 | .ob ty d=> .ob ty (d.sb k q s)
 | .sl ty e xs=> .sl ty e xs
theorem St.drop (hS : St n S0 g0 w0 L H nb a g w) (k : Nat) {o : O} (hk : AS H k = some o) (q : Nat → D) (s : D) {L' : DL} {H' : Hp} (hL : L' = L.map fun p => (p.1, p.2.sb k q s)) (hH : H' = (k, none) :: H.map fun p => (p.1, p.2.map (O.sb · k q s)))
  (hq:∀X',(∀x,X' x→g.X x∧x∉g.F k)→∀b o m,g.N k=some (vp b)→B4 X' g.N w (q o) m [vP b o]) (hs:∀X',(∀x,X' x→g.X x∧x∉g.F k)→∀v m,g.N k=some v→v.oneCell'=true→B4 X' g.N w s m [v]):∃g',St n S0 g0 w0 L' H' nb a g' w:=by
 subst hL;subst hH
 have hx:∀x,(g.X x∧x∉g.F k)→g.X x:=fun x h=>h.1
 have hsem:=fun {d:D} {m:Bool} {l:List Value} (h:B4 g.X g.N w d m l)=>jZ hx (hq (fun x=>g.X x∧x∉g.F k) fun _ h=>h) (hs (fun x=>g.X x∧x∉g.F k) fun _ h=>h) h
 have hob:∀j u,AS ((k,none)::H.map fun p=>(p.1,p.2.map (O.sb · k q s))) j=some u→j≠k∧∃u',AS H j=some u'∧u=u'.sb k q s:=by
  intro j u h
  have h:=BD.1 h
  simp only[Es]at h
  by_cases e:k=j
  ·subst e;simp at h
  ·rw[Bb e]at h
   refine⟨fun h=>e h.symm,?_⟩
   have :∀(H:Hp),Es (H.map fun p=>(p.1,p.2.map (O.sb · k q s))) j=some (some u)→∃u',Es H j=some (some u')∧u=u'.sb k q s:=by
    intro H
    induction H with
    |nil=>intro h;cases h
    |cons p H ih=>
     obtain⟨s',p2⟩:=p
     intro h
     simp only[List.map_cons,Es]at h⊢
     by_cases e:s'=j
     ·subst e
      simp only[Nat.beq_refl,cond_true,Option.some.injEq]at h⊢
      obtain⟨u',h1,h2⟩:=Option.map_eq_some_iff.1 h
      exact⟨u',h1,h2.symm⟩
     ·rw[Bb e]at h⊢;exact ih h
   obtain⟨u',h1,h2⟩:=this H h
   exact⟨u',BD.2 h1,h2⟩
 refine⟨⟨g.N,g.F,fun x=>g.X x∧x∉g.F k⟩,hS.size,hS.defers,fun t d ht=> ?_,⟨fun x h=>hS.hs.wf x h.1,fun j u h=> ?_,fun j u h b hb=> ?_,fun j u j' u' h h' hne=> ?_⟩,⟨hS.go.ch,hS.go.s,fun x h=>hS.go.x x h.1,fun x h1 h2=>⟨hS.go.k x h1 h2,fun h3=> ?_⟩,hS.go.n,hS.go.f⟩,hS.wf0,fun j u h b hb=> ?_,hS.nm⟩
 ·rw[Oo (r:=fun d=>d.sb k q s)]at ht
  obtain⟨d',h1,rfl⟩:=Option.map_eq_some_iff.1 ht
  exact hsem (hS.fr t d' h1)
 ·obtain⟨hne,u',h1,rfl⟩:=hob j u h
  have :=hS.hs.os j u' h1
  cases u' with
  |ob ty ds=>obtain⟨b,c,k1,k2,k3,k4,k5⟩:=this;exact⟨b,c,k1,k2,k3,hsem k4,k5⟩
  |sl ty e xs=>
   obtain⟨v,ls,k1,k2,k3,k4,k5,k6⟩:=this
   exact⟨v,ls,k1,k2,k3,k4,k5.mono (ET (S:=fun _=>False) ⟨Chp.refl _ _,fun _ h=>h.elim,fun x h=> .inl (hx x h),fun _ _ h=>h⟩ e),k6⟩
 ·obtain⟨hne,u',h1,rfl⟩:=hob j u h
  exact⟨hS.hs.own j u' h1 b hb,hS.hs.dis j u' k o h1 hk hne b hb⟩
 ·obtain⟨_,v,h1,rfl⟩:=hob j u h
  obtain⟨_,v',h1',rfl⟩:=hob j' u' h'
  exact hS.hs.dis j v j' v' h1 h1' hne
 ·rcases hS.fp k o hk x h3 with h4|h4
  ·exact h2 h4
  ·have :=hS.wf0 x h1;omega
 ·obtain⟨_,u',h1,rfl⟩:=hob j u h
  exact hS.fp j u' h1 b hb
theorem St.frz (hS:St n S0 g0 w0 L H nb a g w) (k:Nat) {te:TypeId} {e:List Fk} {xs:List (RT e)} (nn:Bool) (hnn:nn=true→xs≠[]) (hk:AS H k=some (.sl te e xs)) {L':DL} {H':Hp} (hL:L'=L.map fun p=>(p.1,p.2.sb k (fun o=> .cp k o) (.ls nn e xs))) (hH:H'=(k,none)::H.map fun p=>(p.1,p.2.map (O.sb · k (fun o=> .cp k o) (.ls nn e xs)))):∃g',St n S0 g0 w0 L' H' nb a g' w:=by
 refine hS.drop k hk _ _ hL hH (fun X' hX b o m h=>⟨b,h,rfl⟩) fun X' hX v m h ho=> ?_
 obtain⟨v',ls,k1,k2,k3,k4,k5,k6⟩:=hS.hs.os k _ hk
 rw[h]at k1
 cases k1
 refine⟨v,ls,rfl,⟨k4,by rw[Cs k5.row,k5.len],?_⟩,k5.mono (ET (S:=fun _=>False) ⟨Chp.refl _ _,fun _ h=>h.elim,fun x h=> .inl (hX x h).1,fun _ _ h=>h⟩ e)⟩
 rcases k3.2 with⟨rfl,h0⟩|⟨b,cap,cur,rfl,_,hb,hc,hc2,_,_⟩
 ·refine .inl ⟨h0,.inl ⟨?_,rfl⟩⟩
  cases nn with
  |false=>rfl
  |true=>exact absurd (List.eq_nil_of_length_eq_zero h0) (hnn rfl)
 ·have hbF:b∈g.F k:=by rw[k2];simp [Cd]
  refine .inr ⟨b,0,cap,rfl,hc,hc2,fun hx=>(hX b hx).2 hbF,(k3.lt b (by simp [Cd])).2,?_⟩
  rcases k3.at with⟨h1,_⟩|⟨b',cap',h1,_,h2⟩
  ·cases h1
  ·cases h1;exact h2
theorem St.imm (hS:St n S0 g0 w0 L H nb a g w) (k:Nat) {ty:TypeId} {d:D} (hk:AS H k=some (.ob ty d)) {L':DL} {H':Hp} (hL:L'=L.map fun p=>(p.1,p.2.sb k (fun o=> .im d o) (.sk k))) (hH:H'=(k,none)::H.map fun p=>(p.1,p.2.map (O.sb · k (fun o=> .im d o) (.sk k)))):∃g',St n S0 g0 w0 L' H' nb a g' w:=by
 refine hS.drop k hk _ _ hL hH (fun X' hX b o m h=> ?_) fun X' hX v m h ho=>⟨v,h,rfl,ho⟩
 obtain⟨b',c,k1,k2,k3,k4,k5⟩:=hS.hs.os k _ hk
 rw[h]at k1
 cases k1
 have hbF:b∈g.F k:=by rw[k2];simp
 exact⟨b,c.toList,fun hx=>(hX b hx).2 hbF,(hS.hs.os k _ hk).lt b hbF,rfl,At.of_blk k3,k5,Aay k4 fun x hx=>(hX x hx).1⟩
end
end Go.Sx
namespace Go.Sx
open Go.Mi Go.RowKit
variable [Dfr]
def tH (t:Nat) (s:D) (L:DL):DL:=L.map fun p=>(p.1,bif Nat.beq p.1 t then s else p.2)
theorem JE {t:Nat} {s:D}:∀{L:DL} {u:Nat} {d:D},Do (tH t s L) u=some d→(u=t∧d=s)∨Do L u=some d
 |[],_,_,h=>by cases h
 |(v,x)::L,u,d,h=>by
  simp only[tH,List.map_cons,Do]at h⊢
  by_cases e:v=u
  ·subst e
   simp only[Nat.beq_refl,cond_true,Option.some.injEq]at h⊢
   by_cases e:v=t
   ·subst e;simp at h;exact .inl ⟨rfl,h.symm⟩
   ·rw[Bb e]at h;exact .inr h
  ·rw[Bb e]at h⊢
   exact JE (L:=L) h
section
variable {P:Program} {n:Nat} {L:DL} {H:Hp} {S0:Nat→Prop} {g0 g:G} {w0 w:World} {nb:Nat} {a:Act}
theorem St.nilk (hS:St n S0 g0 w0 L H nb a g w) (t:Nat) (te:TypeId) (e:List Fk) (ht:Do L t=some (.v (.slice none 0 0))) {L':DL} {H':Hp} (hL:L'=tH t (.sk nb) L) (hH:H'=(nb,some (.sl te e []))::H):∃g',St n S0 g0 w0 L' H' (nb+1) a g' w:=by
 subst hL;subst hH
 let g':G:=⟨fun k=>if k=nb then some (.slice none 0 0)else g.N k,fun k=>if k=nb then[]else g.F k,g.X⟩
 have hne:∀k v,g.N k=some v→k≠nb:=fun k v h e=>by have :k<nb:=hS.nm k v h;omega
 have gn:∀k,k≠nb→g'.N k=g.N k:=fun k h=>if_neg h
 have gf:∀k,k≠nb→g'.F k=g.F k:=fun k h=>if_neg h
 have gF:g'.F nb=[]:=if_pos rfl
 have gN:g'.N nb=some (.slice none 0 0):=if_pos rfl
 have hgo:Go (fun _=>False) g w g' w:=⟨Chp.refl _ _,fun _ h=>h.elim,fun _ h=> .inl h,fun _ h _=>h,fun k v h=>(gn k (hne k v h)).trans h,fun k v h=>gf k (hne k v h)⟩
 have hl:∀k o,AS ((nb,some (O.sl te e []))::H) k=some o→(k=nb∧o= .sl te e [])∨(k≠nb∧AS H k=some o):=fun k o h=>by
  have h:=BD.1 h
  simp only[Es]at h
  by_cases e:nb=k
  ·subst e;simp at h;exact .inl ⟨rfl,h.symm⟩
  ·rw[Bb e]at h;exact .inr ⟨fun x=>e x.symm,BD.2 h⟩
 refine⟨g',hS.size,hS.defers,fun u d hu=> ?_,⟨hS.hs.wf,fun k o h=> ?_,fun k o h b hb=> ?_,fun k o k' o' h h' hk b hb hb'=> ?_⟩,⟨hS.go.ch,hS.go.s,hS.go.x,hS.go.k,fun k v hk=> ?_,fun k v hk=> ?_⟩,hS.wf0,fun k o h b hb=> ?_,fun k v h=> ?_⟩
 ·rcases JE hu with⟨rfl,rfl⟩|h
  ·have h1:[a.tmps.getD u undef]=[Value.slice none 0 0]:=hS.fr u _ ht
   exact⟨_,gN,h1,rfl⟩
  ·exact(hS.fr u d h).mv hgo
 ·rcases hl k o h with⟨rfl,rfl⟩|⟨h1,h2⟩
  ·exact⟨_,[],gN,gF,⟨by simp,.inl ⟨rfl,rfl⟩⟩,by simp [maxLen],trivial,by simp⟩
  ·exact(hS.hs.os k o h2).mv hgo fun _ _ h=>h
 ·rcases hl k o h with⟨rfl,rfl⟩|⟨h1,h2⟩
  ·rw[gF]at hb;cases hb
  ·rw[gf k h1]at hb;exact hS.hs.own k o h2 b hb
 ·rcases hl k o h with⟨rfl,rfl⟩|⟨h1,h2⟩
  ·rw[gF]at hb;cases hb
  ·rcases hl k' o' h' with⟨rfl,rfl⟩|⟨h3,h4⟩
   ·rw[gF]at hb';cases hb'
   ·rw[gf k h1]at hb;rw[gf k' h3]at hb';exact hS.hs.dis k o k' o' h2 h4 hk b hb hb'
 ·have :=hS.go.n k v hk
  exact(gn k (hne k v this)).trans this
 ·exact(gf k (hne k v (hS.go.n k v hk))).trans (hS.go.f k v hk)
 ·rcases hl k o h with⟨rfl,rfl⟩|⟨h1,h2⟩
  ·rw[gF]at hb;cases hb
  ·rw[gf k h1]at hb;exact hS.fp k o h2 b hb
 ·by_cases e:k=nb
  ·subst e;exact Nat.lt_succ_self _
  ·rw[gn k e]at h;exact Nat.lt_succ_of_lt (hS.nm k v h)
end
end Go.Sx
namespace Go.Sx
open Go.Mi Go.RowKit
variable [Dfr]
def ndC (C:List (Nat×Rx)) (i:Nat):Prop:=match lkR C i with
 |some (.call q)=>q.exp=q.exp
 |_=>False
section
variable {P:Program} {n:Nat} {L:DL} {H:Hp} {S0:Nat→Prop} {g0 g:G} {w0 w:World} {nb:Nat} {a:Act} {Q:Exit→Act→World→Prop}
theorem St.len (hS:St n S0 g0 w0 L H nb a g w) (t:Nat) {nn:Bool} {e:List Fk} {xs:List (RT e)} (ht:Do L t=some (.ls nn e xs)):xs.length≤9223372036854775807:=by
 obtain⟨u,ls,_,h2,_⟩:=hS.fr t _ ht
 exact h2.1
theorem St.lens (hS:St n S0 g0 w0 L H nb a g w) (k:Nat) {te:TypeId} {e:List Fk} {xs:List (RT e)} (hk:AS H k=some (.sl te e xs)):xs.length≤9223372036854775807:=by
 obtain⟨v,ls,_,_,_,h,_⟩:=hS.hs.os k _ hk
 exact h
end
theorem Jo {k:IntKind} {x:Int} (h:k.signed=false):0≤k.wrap x:=by
 have h8:=EN x
 have h16:=E5 x
 have h32:=cD x
 cases k with
 |u8=>omega
 |u16=>omega
 |u32=>omega
 |u64=>simp only[IntKind.wrap,IntKind.bits,IntKind.signed];simp;omega
 |_=>cases h
theorem nK {p q:Int} (h1: -9223372036854775808≤p+q) (h2:p+q≤9223372036854775807):AZ .i64 p q=p+q:=Ed h1 h2
theorem Qq {p q:Int} (h1: -9223372036854775808≤p-q) (h2:p-q≤9223372036854775807):Eu .i64 p q=p-q:=Ed h1 h2
theorem nG {p q:Int} (h1: -9223372036854775808≤p*q) (h2:p*q≤9223372036854775807):BJ .i64 p q=p*q:=Ed h1 h2
theorem nC {p q:Int} (h1:0≤p):CV p q=p%q:=Int.tmod_eq_emod_of_nonneg h1
theorem Aca {p q:Int} (h1:0≤p) (h2:0≤q) (h3:p≤9223372036854775807):Me .i64 p q=p/q:=u6 h1 h2 h3
end Go.Sx
namespace Go.Sx
open Go.Mi Go.RowKit
variable [Dfr]
noncomputable def AJ {α:Type} (x:α):α:=Classical.choose (p:=fun y=>y=x) ⟨x,rfl⟩
theorem Af {α:Type} (x:α):AJ x=x:=Classical.choose_spec (p:=fun y=>y=x) ⟨x,rfl⟩
noncomputable def CU (P:Nat→Prop):Nat:=Classical.epsilon fun k=>¬P k∧∀j,j<k→P j
theorem BP {P:Nat→Prop} {k:Nat} (h:¬P k) (h':∀j,j<k→P j):k=CU P:=by
 have :=Classical.epsilon_spec (p:=fun k=>¬P k∧∀j,j<k→P j) ⟨k,h,h'⟩
 unfold CU
 rcases Nat.lt_trichotomy k (Classical.epsilon fun k=>¬P k∧∀j,j<k→P j)with h1|h1|h1
 ·exact absurd (this.2 k h1) h
 ·exact h1
 ·exact absurd (h' _ h1) this.1
theorem A1 {P:Nat→Prop} {k:Nat} (hk:∀j,j<k→P j) (h:P k):∀j,j<k+1→P j:=fun j hj=>by
 rcases Nat.lt_or_eq_of_le (Nat.le_of_lt_succ hj)with h1|h1
 ·exact hk j h1
 ·exact h1▸h
theorem St.wk {n:Nat} {L:DL} {H:Hp} {S0:Nat→Prop} {g0 g:G} {w0 w:World} {nb:Nat} {a:Act} (hS:St n S0 g0 w0 L H nb a g w) (t:Nat) (e:D) {d:D} (ht:Do L t=some d) {L':DL} (hL:L'=tH t (weak d e) L):St n S0 g0 w0 L' H nb a g w:=by
 subst hL
 refine⟨hS.size,hS.defers,fun u q hu=> ?_,hS.hs,hS.go,hS.wf0,hS.fp,hS.nm⟩
 rcases JE hu with⟨rfl,rfl⟩|h
 ·exact N4 (hS.fr u d ht)
 ·exact hS.fr u q h
def nd (a:List D) (b:List (Option O)):Prop:=(a,b)=(a,b)
theorem NV {b:Bool} (h:b=false):¬b=true:=by rw[h];decide
end Go.Sx
namespace Go.Sx
open Go.Mi Go.RowKit
variable [Dfr]
theorem AbR {P:Program} {w:World} {r:Reach} {base:Nat} {t e:TypeId} {x:Addr} {len cap:Nat} (ht:P.underlying t=some (.slice e)) (h:Value.okWide P w r base t (.slice (some x) len cap)):x.spot=none∧x.block<w.heap.size∧len≤cap:=by
 simp only[Value.okWide,ht,Cell.okWide,Cell.ok]at h
 obtain⟨h1,h2,h3,h4,row,cells,h5,_⟩:=h
 refine⟨h4,?_,h1⟩
 unfold World.shape? at h5
 rcases Nat.lt_or_ge x.block w.heap.size with h6|h6
 ·exact h6
 ·rw[Array.getElem?_eq_none h6]at h5;simp at h5
def g00:G:=⟨fun _=>none,fun _=>[],fun _=>False⟩
theorem AfE (w:World):HS (DF []) g00 w:=⟨fun x h=>h.elim,fun k o h=>by simp [DF]at h,fun k o h=>by simp [DF]at h,fun k o k' o' h=>by simp [DF]at h⟩
theorem nZ {k:IntKind}:∀l:List Int,(l.map fun x=>[Value.int k x]).flatten=l.map (Value.int k)
 |[]=>rfl
 |x::l=>by simp [nZ l]
theorem fa1 {X:Nat→Prop} {N:Nat→Option Value} {w:World} {k:IntKind}:∀l:List Int,Fa2 (rS X N w [.int k]) l (l.map fun x=>[Value.int k x])
 |[]=>trivial
 |_::l=>⟨⟨_,rfl,rfl⟩,fa1 l⟩
theorem Ab4 {w:World} {k:IntKind} (l:List Int) {b o c:Nat} (hc:l.length≤c) (hm:c≤maxLen) (hb:b<w.heap.size) (hat:∀i u,l[i]? =some u→w.cell? ⟨b,o+i,none⟩=some (.int k u)):Sm g00 w (.ls false [.int k] l) (vS b o l.length c):=by
 refine⟨_,l.map fun x=>[Value.int k x],rfl,⟨Nat.le_trans hc hm,?_,.inr ⟨b,o,c,rfl,hc,hm,id,hb,fun i u hu=> ?_⟩⟩,fa1 l⟩
 ·rw[nZ,List.length_map];exact(Nat.mul_one _).symm
 ·rw[nZ,List.getElem?_map]at hu
  obtain⟨y,hy,rfl⟩:=Option.map_eq_some_iff.1 hu
  exact hat i y hy
theorem Abo {w : World} {a : Option Addr} {len cap : Nat} {zs : List Int} {k : IntKind} (h : (a = none ∧ len = 0 ∧ cap = 0 ∧ zs = []) ∨
  ∃x,a=some x∧len≤cap∧cap≤maxLen∧zs.length=cap∧(∀i,i<zs.length→w.cell? (x.add i)=some (.int k (zs.getD i 0)))∧∀n∈zs,(Lit.int k n).wf=true) (ho:∀x,a=some x→x.spot=none∧x.block<w.heap.size∧len≤cap):Sm g00 w (.ls false [.int k] (zs.take len:List Int)) (.slice a len cap):=by
 rcases h with⟨rfl,rfl,rfl,rfl⟩|⟨x,rfl,h1,h2,h3,h4,_⟩
 ·exact⟨_,[],rfl,Lsl.nil,trivial⟩
 ·obtain⟨h5,h6,_⟩:=ho x rfl
  obtain⟨b,o,s⟩:=x
  simp only at h5
  subst h5
  have hl:(zs.take len).length=len:=by rw[List.length_take];omega
  have key:=Ab4 (w:=w) (k:=k) (zs.take len) (b:=b) (o:=o) (c:=cap) (by omega) h2 h6 fun i u hu=>by
   have hi:i<len:=by
    rcases Nat.lt_or_ge i len with h|h
    ·exact h
    ·rw[List.getElem?_eq_none (by rw[hl];exact h)]at hu;cases hu
   rw[List.getElem?_take_of_lt hi]at hu
   have :=h4 i (by omega)
   rw[List.getD_eq_getElem?_getD,hu,Option.getD_some]at this
   rw[←CY];exact this
  rw[hl]at key
  exact key
theorem sW {c:Con} {w w':World} {g g':G} (h0:c.H0=[]) (h:Go (c.foot g) g w g' w'):Below w.heap.size w w':=
 ⟨h.ch.os,h.ch.tape,h.ch.output,h.ch.size,fun k hk=>h.ch.blk k hk fun⟨j,o,h1,_⟩=>by rw[h0]at h1;simp [DF]at h1⟩
theorem dZ {P:Program} {f:FuncId} {c:Con} (h:ConOk P f c) (h0:c.H0=[]) (hr:c.res= .v (.bool true)) {w:World} {vs:List Value} (hv:B4 g00.X g00.N w (chain c.args) true vs):Calls P f vs.toArray w fun e w'=>e= .returned (.bool true)∧Below w.heap.size w w':=by
 refine(h.2 vs g00 w (by rw[h0];exact AfE w) (fun k v hk=>by cases hk) hv).mono fun e w' ⟨v,he,g',hp⟩=> ?_
 have h1:=hp.r
 rw[hr]at h1
 have h2:v= .bool true:=Sm.eq h1
 subst h2
 exact⟨he,sW h0 hp.go⟩
end Go.Sx
namespace Go.Sx
open Go.Mi Go.RowKit
variable [Dfr]
def pn (v:Value):Ending:= .panicked [{v,recovered:=false}]
abbrev GU:=Zl pn
def Pn1 (P:Program) (o:Oper) (n:Nat) (L:List (Nat×Value)) (w:World) (R:Value→World→Prop):Prop:=
 ∀(a:Act) (K:Act→World→Prop) (Q:Exit→Act→World→Prop),Frm a n L→(∀v w',R v w'→Q (.panic [{v,recovered:=false}]) a w')→o.wp P a w K Q
theorem LQ {P : Program} {w : World} {n : Nat} {L : List (Nat × Value)} {ds : Option Tmp} {ty : TypeId} {pos : String} {af : Array Edge} {gu : Option (Nat × Bool)} {x : Operand} {xs : Array Operand} {ts : Array TypeId} {f : FuncId} {first captured : Array Value} {vs : List Value} {R : Value → World → Prop} (hx : ev L x = some (.func (.func f) first captured)) (hc : Go.Mi.Callee P f) (ha : tN L xs.toList = some vs)
  (h:Calls P f ((first ++vs.toArray)++captured) w (fun e w'=>∃v,e=pn v∧R v w')):Pn1 P ⟨ds,.call ⟨.value x,xs,ts⟩,ty,pos,af,gu⟩ n L w R:=by
 intro a K Q hF k
 obtain⟨fn,h1,h2,h3⟩:=hc.ok
 have hxs:xs.map a.eval=vs.toArray:=by
  have :=hF.evals ha
  rw[←this,←List.map_toArray]
 simp only[Oper.wp,execOp,resolve,hF.eval hx,Deferred.ofValue,Sem.run_bind,Sem.run_pure,Result.andThen_ok,invoke,callFunc,run_program,h1,h2,h3,hxs]
 simp only[Bool.false_eq_true,if_false,Sem.run_pure,Oper.upon_enter]
 refine h.mono fun e w' he=> ?_
 obtain⟨v,rfl,hr⟩:=he
 exact k v w' hr
theorem V9 {P:Program} {w:World} {n:Nat} {L:List (Nat×Value)} {ds:Option Tmp} {ty:TypeId} {pos:String} {af:Array Edge} {gu:Option (Nat×Bool)} {x:Operand} {t:TypeId} {v:Value} {R:Value→World→Prop} (hx:ev L x=some (.iface t v)) (h:R (.iface t v) w):Pn1 P ⟨ds,.panic x,ty,pos,af,gu⟩ n L w R:=by
 intro a K Q hF k
 have :=k _ _ h
 simpa[Oper.wp,execOp,hF.eval hx,run_panic_iface,Oper.upon]using this
def tD (P:Program) (n:Nat) (o:Oper) (L:DL) (H:Nat→Option O) (e:Eff) (d:D):Prop:=
 ∀ξ g w,HS (BF (e.rd++An e.wr) H) g w→Hold L ξ g w→Pn1 P o n (Lf L ξ) w fun v w'=>∃g',Go (e.foot H g) g w g' w'∧Wf g' w'∧Sm g' w' d v
def QE (q:Option CR) (L:DL) (H:Hp) (o:Oper):Option (Eff×D×List Prop):=match q,o.op with
 |some q,.call c=>(match c.callee with
  | .value f=>(match YB L f c.args.toList with
   |some (f,ays)=>bif Nat.beq f q.f&&q.chk&&ays.all D.one&&q.σ.isEmpty then some (q.eff,q.c.res.ren q.r,[q.need ays H])else none
   |none=>none)
  |_=>none)
 |none,.panic x=>(match Eb L x with
  |some (.v (.iface t v))=>some (⟨[],[],[],.top⟩,.v (.iface t v),[])
  |_=>none)
 |_,_=>none
theorem oK {P:Program} {n:Nat} {q:Option CR} (hc:∀r,q=some r→GU P r.f r.c) {L:DL} {H:Hp} {o:Oper} {e:Eff} {d:D} {ps:List Prop} (h:QE q L H o=some (e,d,ps)) (hp:AllP ps):e.nw=[]∧tD P n o L (AS H) e d:=by
 obtain⟨ds,op,ty,pos,af,gu⟩:=o
 unfold QE at h
 split at h
 ·rename_i q c hop
  simp only at hop
  subst hop
  have hc:=hc q rfl
  obtain⟨cl,xs,ts⟩:=c
  split at h
  ·rename_i f hf
   simp only at hf
   subst hf
   split at h
   ·rename_i f' ays hfn
    cases hb:Nat.beq f' q.f&&q.chk&&ays.all D.one&&q.σ.isEmpty with
    |false=>rw[hb]at h;cases h
    |true=>
     rw[hb]at h
     simp only[Bool.and_eq_true,List.all_eq_true,List.isEmpty_iff]at hb
     obtain⟨⟨⟨b1,b2⟩,b3⟩,b4⟩:=hb
     have b1:=Nat.eq_of_beq_eq_true b1
     subst b1
     cases h
     have hq':=CRok.of b2
     obtain⟨n1,n2⟩:=CR.need_of hp.1
     have hnw:q.eff.nw=[]:=by simp only[CR.eff,b4,List.filterMap_nil]
     refine⟨hnw,fun ξ g w hS hH=> ?_⟩
     have fin:∀{vs:List Value},B4 g.X g.N w (chain ays) true vs→Calls P q.f vs.toArray w (fun e w'=>∃v,e=pn v∧∃g',Go (q.eff.foot (AS H) g) g w g' w'∧Wf g' w'∧Sm g' w' (q.c.res.ren q.r) v):=fun hv=>by
      have :=Lh (es:=q.c.args.map (D.ren q.r)) hv b3
      rw[n1]at this
      refine(K7 hq' hc n2 hS (fun p hp=>by rw[hnw]at hp;cases hp) this).mono fun e w' ⟨v,he,g',hpo⟩=>⟨v,he,g',hpo.go,hpo.hs.wf,hpo.r⟩
     unfold YB at hfn
     split at hfn
     ·rename_i f0 first captured as' hx has
      cases he:first.isEmpty&&captured.isEmpty with
      |false=>rw[he]at hfn;cases hfn
      |true=>
       rw[he]at hfn
       simp only[cond_true,Option.some.injEq,Prod.mk.injEq]at hfn
       obtain⟨rfl,rfl⟩:=hfn
       rw[Bool.and_eq_true,Array.isEmpty_iff,Array.isEmpty_iff]at he
       obtain⟨rfl,rfl⟩:=he
       obtain⟨vs,k1,k2,_⟩:=DD hH has
       refine LQ (first := #[]) (captured:= #[]) (Bo hH hx) hc.1 k1 ?_
       simpa using fin k2
     ·rename_i f0 a b as' hx has
      split at hfn
      ·rename_i a' b' ha hb'
       simp only[Option.some.injEq,Prod.mk.injEq]at hfn
       obtain⟨rfl,rfl⟩:=hfn
       obtain⟨v,hv,va,vb,h1,h2,h3⟩:=A4 hH hx
       cases(List.cons.inj h3).1
       obtain⟨vs,k1,k2,_⟩:=DD hH has
       refine LQ hv hc.1 k1 ?_
       have :=fin (Dy (Dy (GI ha h1) k2) (GI hb' h2))
       simpa using this
      ·cases hfn
     ·cases hfn
   ·cases h
  ·cases h
 ·rename_i x hop
  simp only at hop
  subst hop
  split at h
  ·rename_i t v hx
   cases h
   refine⟨rfl,fun ξ g w hS hH=>V9 (Bo hH hx) ⟨g,Go.refl _ _ _ (fun x ⟨k,hk,_⟩=>by simp [An]at hk),hS.wf,rfl⟩⟩
  ·cases h
 ·cases h
section
variable {P:Program} {n nb nb':Nat} {l:List Oper} {rows:List Rw} {L0:DL} {H0:Hp} {S0:Nat→Prop} {g0:G} {w0:World} {Q:Exit→Act→World→Prop} {a:Act} {w:World}
theorem wpOp_mono {ops:Array Oper} {i:Nat} {K K':Act→World→Prop} (h:∀a w,K a w→K' a w) (hh:wpOp P ops Q i K a w):wpOp P ops Q i K' a w:=by
 unfold wpOp at hh⊢
 split
 ·rename_i e;rw[e]at hh;exact h _ _ hh
 ·rename_i o e
  rw[e]at hh
  simp only at hh
  split
  ·rename_i hw
   rw[if_pos hw]at hh
   exact hh.imp (Oper.wp_mono h) id
  ·rename_i hw
   rw[if_neg hw]at hh
   exact h _ _ hh
abbrev StN (n:Nat) (S0:Nat→Prop) (g0:G) (w0:World) (a:Act) (g:G) (w:World):Prop:=SS n S0 g0 w0 (fun _=>none) (fun _=>none) (fun _=>True) a g w
theorem kT (hc : ChkR n nb nb' l rows) {d : Nat → Bool} {i : Nat} {o : Oper} {e : Eff} {dv : D} (hz : (l.zip rows)[i]? = some (o, some e)) (hdi : d i = false) (hcl : ∀ i' j, Cg l i' j → d i' = true → d j = true) (hah : ∀ j, Cg l i j → d j = true)
  (hg:gW l (((l.zip rows).take i).foldl FQ L0) o=some true) (hp:tD P n o (Bc (((l.zip rows).take i).foldl FQ L0) (LJ l o)) (AS (((l.zip rows).take i).foldl G8 H0)) e dv)
  (hend:∀a g w v,StN n S0 g0 w0 a g w→Sm g w dv v→Q (.panic [{v,recovered:=false}]) a w) {K:Act→World→Prop} (h:RI n S0 g0 w0 l rows L0 H0 nb d a w):wpOp P l.toArray Q i K a w:=by
 obtain⟨g,hS,hfr,hHS,hfoot,hw⟩:=kU hc hz hdi hcl hah h
 have ho:l[i]? =some o:=(List.getElem?_zip_eq_some.1 hz).1
 unfold wpOp
 simp only[List.getElem?_toArray,ho]
 rw[if_pos (hw true hg)]
 refine .inl (hp _ g w hHS hfr.get a K Q hfr.frm ?_)
 rintro v w' ⟨g',hgo,hwf,hsm⟩
 have hfoot2:∀b,e.foot (lw d fH 0 (l.zip rows) (AS H0)) g b→g.X b:=fun b ⟨k,h1,o',h2,h3⟩=>hS.hs.own k o' h2 b h3
 refine hend a g' w' v ⟨hS.size,hS.defers,fun t d ht=>by simp at ht,⟨hwf,fun k o h=>by simp at h,fun k o h=>by simp at h,fun k o k' o' h=>by simp at h⟩,hS.go.trans (hgo.mono hfoot hfoot2) hS.wf0 ?_,hS.wf0,fun k o h=>by simp at h,fun _ _ _=>trivial⟩ hsm
 rintro y ⟨k,_,o',h2,h3⟩
 exact hS.fp k o' h2 y h3
end
def GO (ops:List Oper) (ex:Ex) (q:Option CR) (p dd:Nat):Nat→List Oper→DL→Hp→Nat→Option (List Rw×List Prop×D×Nat)
 |_,[],_,_,nb=>some ([],[],.top,nb)
 |i,o::os,L,H,nb=>bif dd.testBit i then(GO ops ex q p dd (i+1) os (FQ L (o,none)) H nb).map fun r=>(none::r.1,r.2)else
  match gW ops L o with
  |none=>none
  |some false=>bif Nat.beq i p then none else(GO ops ex q p dd (i+1) os (FQ L (o,none)) H nb).map fun r=>(none::r.1,r.2)
  |some true=>bif Nat.beq i p then(match QE q (Bc L (LJ ops o)) H o with
   |none=>none
   |some (e,d,ps)=>(GO ops ex q p dd (i+1) os (FQ L (o,some e)) (G8 H (o,some e)) nb).map fun r=>(some e::r.1,ps++r.2.1,d,r.2.2.2))else
   (match ex i (Bc L (LJ ops o)) H nb o with
   |none=>none
   |some (e,ps)=>(GO ops ex q p dd (i+1) os (FQ L (o,some e)) (G8 H (o,some e)) (nb+e.nw.length)).map fun r=>(some e::r.1,ps++r.2.1,r.2.2))
theorem l7 {P : Program} {n : Nat} {ops : List Oper} {ex : Ex} {q : Option CR} {p dd : Nat} (hex : Nz P n ex) (hc : ∀ r, q = some r → GU P r.f r.c) : ∀ {os : List Oper} {i : Nat} {L : DL} {H : Hp} {nb : Nat} {rows : List Rw} {ps : List Prop} {d : D} {nb' : Nat}, GO ops ex q p dd i os L H nb = some (rows, ps, d, nb') → AllP ps →
  ∀(j:Nat) (b:Oper×Rw),(os.zip rows)[j]? =some b→dd.testBit (i+j)=false→
   if i+j=p then ∃e,b.2=some e∧gW ops (((os.zip rows).take j).foldl FQ L) b.1=some true∧tD P n b.1 (Bc (((os.zip rows).take j).foldl FQ L) (LJ ops b.1)) (AS (((os.zip rows).take j).foldl G8 H)) e d
   else MP P n ops (((os.zip rows).take j).foldl FQ L) (((os.zip rows).take j).foldl G8 H) b:=by
 intro os
 induction os with
 |nil=>intro i L H nb rows ps d nb' _ _ j b hb;simp at hb
 |cons o os ih=>
  intro i L H nb rows ps d nb' h hp j b hb hdd
  have tail : ∀ {r1 : Rw} {rows' : List Rw} {L' : DL} {H' : Hp} {nb2 : Nat} {ps' : List Prop} {d' : D}, rows = r1 :: rows' → GO ops ex q p dd (i + 1) os L' H' nb2 = some (rows', ps', d', nb') → AllP ps' → FQ L (o, r1) = L' → G8 H (o, r1) = H' → (∀ j', j = j' + 1 → i + j = p → d' = d) → (j = 0 → b = (o, r1) → if i + 0 = p then ∃ e, b.2 = some e ∧ gW ops L b.1 = some true ∧ tD P n b.1 (Bc L (LJ ops b.1)) (AS H) e d else MP P n ops L H b) →
    if i+j=p then ∃e,b.2=some e∧gW ops ((((o::os).zip rows).take j).foldl FQ L) b.1=some true∧tD P n b.1 (Bc ((((o::os).zip rows).take j).foldl FQ L) (LJ ops b.1)) (AS ((((o::os).zip rows).take j).foldl G8 H)) e d
    else MP P n ops ((((o::os).zip rows).take j).foldl FQ L) ((((o::os).zip rows).take j).foldl G8 H) b:=by
   intro r1 rows' L' H' nb2 ps' d' hr hpl hp' hL hH hdt h0
   subst hr
   cases j with
   |zero=>
    have hb':(o,r1)=b:=by simpa using hb
    have :=h0 rfl hb'.symm
    simpa using this
   |succ j'=>
    have hb':(os.zip rows')[j']? =some b:=by simpa using hb
    have :=ih hpl hp' j' b hb' (by rw[show i+1+j'=i+(j'+1) by omega];exact hdd)
    rw[show i+1+j'=i+(j'+1) by omega]at this
    have e1:(((o::os).zip (r1::rows')).take (j'+1)).foldl FQ L=((os.zip rows').take j').foldl FQ L':=by rw[←hL];rfl
    have e2:(((o::os).zip (r1::rows')).take (j'+1)).foldl G8 H=((os.zip rows').take j').foldl G8 H':=by rw[←hH];rfl
    rw[e1,e2]
    by_cases hip:i+(j'+1)=p
    ·rw[if_pos hip]at this⊢
     rw[hdt j' rfl hip]at this
     exact this
    ·rw[if_neg hip]at this⊢
     exact this
  simp only[GO]at h
  cases hdi:dd.testBit i with
  |true=>
   rw[hdi]at h
   simp only[cond_true]at h
   obtain⟨⟨r1,r2,r3,r4⟩,h1,h2⟩:=Option.map_eq_some_iff.1 h
   simp only[Prod.mk.injEq]at h2
   obtain⟨h2a,rfl,rfl,rfl⟩:=h2
   refine tail h2a.symm h1 hp rfl rfl (fun _ _ _=>rfl) fun hj _=> ?_
   subst hj
   rw[Nat.add_zero,hdi]at hdd
   cases hdd
  |false=>
   rw[hdi]at h
   simp only[cond_false]at h
   cases hg:gW ops L o with
   |none=>rw[hg]at h;cases h
   |some c=>
    rw[hg]at h
    cases c with
    |false=>
     simp only at h
     cases hip:Nat.beq i p with
     |true=>rw[hip]at h;cases h
     |false=>
      rw[hip]at h
      simp only[cond_false]at h
      obtain⟨⟨r1,r2,r3,r4⟩,h1,h2⟩:=Option.map_eq_some_iff.1 h
      simp only[Prod.mk.injEq]at h2
      obtain⟨h2a,rfl,rfl,rfl⟩:=h2
      refine tail h2a.symm h1 hp rfl rfl (fun _ _ _=>rfl) fun hj hb0=> ?_
      subst hb0
      rw[if_neg (fun e=>by rw[Nat.add_zero]at e;rw[e,Nat.beq_refl]at hip;cases hip)]
      exact hg
    |true=>
     simp only at h
     cases hip:Nat.beq i p with
     |true=>
      have hip':=Nat.eq_of_beq_eq_true hip
      rw[hip]at h
      simp only[cond_true]at h
      cases he:QE q (Bc L (LJ ops o)) H o with
      |none=>rw[he]at h;cases h
      |some x=>
       obtain⟨e,d1,qs⟩:=x
       rw[he]at h
       simp only at h
       obtain⟨⟨r1,r2,r3,r4⟩,h1,h2⟩:=Option.map_eq_some_iff.1 h
       simp only[Prod.mk.injEq]at h2
       obtain⟨h2a,rfl,rfl,rfl⟩:=h2
       rw[AllP.append]at hp
       refine tail h2a.symm h1 hp.2 rfl rfl (fun j' hj hp2=>by omega) fun hj hb0=> ?_
       subst hb0
       rw[if_pos (by omega)]
       exact⟨e,rfl,hg,(oK hc he hp.1).2⟩
     |false=>
      rw[hip]at h
      simp only[cond_false]at h
      cases he:ex i (Bc L (LJ ops o)) H nb o with
      |none=>rw[he]at h;cases h
      |some x=>
       obtain⟨e,qs⟩:=x
       rw[he]at h
       simp only at h
       obtain⟨⟨r1,r2,r3,r4⟩,h1,h2⟩:=Option.map_eq_some_iff.1 h
       simp only[Prod.mk.injEq]at h2
       obtain⟨h2a,rfl,rfl,rfl⟩:=h2
       rw[AllP.append]at hp
       refine tail h2a.symm h1 hp.2 rfl rfl (fun _ _ _=>rfl) fun hj hb0=> ?_
       subst hb0
       rw[if_neg (fun e=>by rw[Nat.add_zero]at e;rw[e,Nat.beq_refl]at hip;cases hip)]
       exact⟨hg,hex _ _ _ _ _ _ _ he hp.1⟩
def xL (dr:Bool) (ops:List Oper) (p dd:Nat):Bool:=(List.range ops.length).all fun i=> !(dd.testBit i)||(bif dr then((gO ops []).getD i 0).testBit p else Nat.blt p i)
def plP (n:Nat) (dr:Bool) (ops:List Oper) (ex:Ex) (q:Option CR) (p dd:Nat) (L:DL) (H:Hp) (nb:Nat):Option (List Prop×D):=match GO ops ex q p dd 0 ops L H nb with
 |some (rows,ps,d,nb')=>bif Xa n nb nb' ops rows&&xL dr ops p dd&&Nat.blt p ops.length&& !(dd.testBit p)then some (ps,d)else none
 |none=>none
section
variable {P:Program} {n:Nat} {ops:List Oper} {ex:Ex} {L:DL} {H:Hp} {nb:Nat} {S0:Nat→Prop} {g0 g:G} {w0 w:World} {Q:Exit→Act→World→Prop} {a:Act}
theorem X9 {id : Nat} {dr : Bool} (hm : P.follows .mixedOrders = true) (hex : Nz P n ex) {q : Option CR} (hc : ∀ r, q = some r → GU P r.f r.c) (p dd : Nat) {ps : List Prop} {d : D} (h : plP n dr ops ex q p dd L H nb = some (ps, d)) (hp : AllP ps) (hS : St n S0 g0 w0 L H nb a g w)
  (hend:∀a g w v,StN n S0 g0 w0 a g w→Sm g w d v→Q (.panic [{v,recovered:=false}]) a w):(Code.region id ops.toArray dr).wp P Q a w:=by
 unfold plP at h
 cases hx:GO ops ex q p dd 0 ops L H nb with
 |none=>rw[hx]at h;cases h
 |some x=>
  obtain⟨rows,qs,d1,nb'⟩:=x
  rw[hx]at h
  simp only at h
  cases hb:Xa n nb nb' ops rows&&xL dr ops p dd&&Nat.blt p ops.length&& !(dd.testBit p)with
  |false=>rw[hb]at h;cases h
  |true=>
   rw[hb]at h
   cases h
   simp only[Bool.and_eq_true,Bool.not_eq_true',Nat.blt_eq]at hb
   obtain⟨⟨⟨b1,b2⟩,b3⟩,b4⟩:=hb
   have hck:=ChkR.of b1
   have rowAt:=fun j b (hz:(ops.zip rows)[j]? =some b) (hd:dd.testBit j=false)=>by
    have :=l7 hex hc hx hp j b hz (by rw[Nat.zero_add];exact hd)
    rw[Nat.zero_add]at this
    exact this
   have ini:∀w,St n S0 g0 w0 L H nb a g w→RI n S0 g0 w0 ops rows L H nb (fun _=>false) a w:=fun w hs=>⟨g,hs.weak (fun t d ht=>by rw[NL]at ht;exact ht) (fun k o hk=>by rw[NL]at hk;exact hk) fun k hk=> .inl hk⟩
   obtain⟨op,rp,ho,hrp,hzp⟩:=XG hck b3
   obtain⟨e,he1,he2,he3⟩:∃e,rp=some e∧_∧_:=by
    have :=rowAt p (op,rp) hzp b4
    rw[if_pos rfl]at this
    exact this
   subst he1
   have dead:∀i,i<ops.length→dd.testBit i=true→(bif dr then((gO ops []).getD i 0).testBit p else Nat.blt p i)=true:=fun i hi hd=>by
    have :=List.all_eq_true.1 b2 i (List.mem_range.2 hi)
    rw[hd]at this
    simpa using this
   cases dr with
   |true=>
    refine NF hm hck.back (fun d a w=>RI n S0 g0 w0 ops rows L H nb d a w∧d p=false) (fun d d' a w hd hI=>⟨Sd hck.len hd hI.1,by rw[←hd p b3];exact hI.2⟩) ⟨ini _ hS.drew,rfl⟩ (fun d i a w hi hdi hcl hah hI=> ?_) fun a w hI=>by have :=hI.2;cases this
    by_cases hip:i=p
    ·subst hip
     exact kT hck hzp hdi hcl hah he2 he3 hend hI.1
    ·have hnd : dd.testBit i = false := by
      cases hd:dd.testBit i with
      |false=>rfl
      |true=>
       have h1:=U3 ops ops [] (fun j o hj=>by simpa using hj) (by simp) i p (dead i hi hd)
       have h2:=hah p h1
       rw[hI.2]at h2;cases h2
     refine wpOp_mono (fun a' w' hri=>⟨hri,?_⟩) (Ju hck (fun b hb=>by have :=rowAt i b hb hnd;rwa [if_neg hip]at this) hi hdi hcl hah hI.1)
     show(bif Nat.beq p i then true else d p)=false
     rw[Bb (fun e=>hip e.symm)]
     exact hI.2
   |false=>
    refine Kx (fun d a w=>RI n S0 g0 w0 ops rows L H nb d a w∧d p=false) ⟨ini _ hS,rfl⟩ (fun d d' a w hd hI=>⟨Sd hck.len hd hI.1,by rw[←hd p b3];exact hI.2⟩) (fun i a w hi hI=> ?_) fun a w hI=>by have :=hI.2;cases this
    have ahead_lt:∀i j,Cg ops i j→j<i:=fun i j ha=>by
     induction ha with
     |edge h1 h2 h3=>exact hck.back _ _ h1 _ h2 h3
     |trans _ _ ih1 ih2=>omega
    have k1:Nat.blt i i=false:=by
     cases hb:Nat.blt i i with
     |false=>rfl
     |true=>rw[Nat.blt_eq]at hb;omega
    have k2:∀i' j,Cg ops i' j→Nat.blt i' i=true→Nat.blt j i=true:=fun i' j ha hi'=>by
     rw[Nat.blt_eq]at hi'⊢;have :=ahead_lt _ _ ha;omega
    have k3:∀j,Cg ops i j→Nat.blt j i=true:=fun j ha=>by rw[Nat.blt_eq];exact ahead_lt _ _ ha
    have hpi:¬p<i:=fun hlt=>by
     have :Nat.blt p i=true:=by rw[Nat.blt_eq];exact hlt
     have h2:Nat.blt p i=false:=hI.2
     rw[this]at h2;cases h2
    by_cases hip:i=p
    ·subst hip
     exact kT (d:=fun j=>Nat.blt j i) hck hzp k1 k2 k3 he2 he3 hend hI.1
    ·have hnd : dd.testBit i = false := by
      cases hd:dd.testBit i with
      |false=>rfl
      |true=>
       have h1:=dead i hi hd
       simp only[cond_false,Nat.blt_eq]at h1
       exact absurd h1 hpi
     refine wpOp_mono (fun a' w' hri=>⟨hri,?_⟩) (Ju (d:=fun j=>Nat.blt j i) hck (fun b hb=>by have :=rowAt i b hb hnd;rwa [if_neg hip]at this) hi k1 k2 k3 hI.1)
     show(bif Nat.beq p i then true else Nat.blt p i)=false
     rw[Bb (fun e=>hip e.symm)]
     exact hI.2
theorem vG (hD:Dfr.ds=([]:List Deferred)) {fn:Func} {c:Con} {v:Value} (hH:c.H1=[]) (hS:StN n (c.foot g0) g0 w0 a g w) (hv:Sm g w c.res v):bodyPost P fn (fun e w'=>∃v,e=pn v∧∃g',C6 c g0 w0 v g' w') (.panic [{v,recovered:=false}]) a w:=
 ⟨hS.defers.trans hD,v,rfl,g,hS.go,hv,⟨hS.hs.wf,fun k o h=>by rw[hH]at h;simp [DF]at h,fun k o h=>by rw[hH]at h;simp [DF]at h,fun k o k' o' h=>by rw[hH]at h;simp [DF]at h⟩,fun k o h=>by rw[hH]at h;simp [DF]at h⟩
end
end Go.Sx
namespace Go.Sx
open Go.Mi Go.RowKit
variable [Dfr]
theorem AM {next:Act→World→Prop} {Q:Exit→Act→World→Prop} {c:List PanicEntry} {a:Act} {w:World} (h:Q (.panic c) a w):Exit.then next Q (.panic c) a w:=h
theorem Bg {id:Nat} {Q:Exit→Act→World→Prop} {c:List PanicEntry} {a:Act} {w:World} (h:Q (.panic c) a w):Exit.inBlock id Q (.panic c) a w:=h
theorem DR {n : Nat} {L : DL} {H : Hp} {S0 : Nat → Prop} {g0 g : G} {w0 w : World} {nb : Nat} {a : Act} {Q : Exit → Act → World → Prop} {E : hO} (hm : E.P.follows .mixedOrders = true) (hZ : b9 E.P E.Z) (C : List (Nat × Rx)) (hC : CsOk E.P C) (q : Option CR) (hq : ∀ r, q = some r → GU E.P r.f r.c) (p dd : Nat) (ps : List (Nat × Rx) → List Prop) (d : D) {id : Nat} {dr : Bool} {ops : List Oper}
  (h:plP n dr ops (bB E C) q p dd L H nb=some (ps C,d)) (hp:AllP (ps C)) (hS:St n S0 g0 w0 L H nb a g w) (hend:∀a g w v,StN n S0 g0 w0 a g w→Sm g w d v→Q (.panic [{v,recovered:=false}]) a w):(Code.region id ops.toArray dr).wp E.P Q a w:=
 X9 hm (GZ hZ hC) hq p dd h hp hS hend
theorem I5 {P:Program} {n:Nat} {g0 g:G} {w0 w:World} {a:Act} (hD:Dfr.ds=([]:List Deferred)) {fn:Func} {c:Con} {v:Value} (hS:StN n (c.foot g0) g0 w0 a g w) {d:D} (hv:Sm g w d v) (hd:d=c.res) (hH:c.H1=[]):bodyPost P fn (fun e w'=>∃v,e=pn v∧∃g',C6 c g0 w0 v g' w') (.panic [{v,recovered:=false}]) a w:=
 vG hD hH hS (hd▸hv)
theorem Em {b:Bool} (h:¬b=true):b=false:=by cases b<;>simp_all
theorem St.nilor {n : Nat} {L : DL} {H : Hp} {S0 : Nat → Prop} {g0 g : G} {w0 w : World} {nb : Nat} {a : Act} (hS : St n S0 g0 w0 L H nb a g w) (t : Nat) {e : List Fk} {xs : List (RT e)} (ht : Do L t = some (.ls false e xs)) {L1 L2 : DL} (h1 : L1 = tH t (.v (.slice none 0 0)) L) (h2 : L2 = tH t (.ls true e xs) L) :
  (xs=[]∧St n S0 g0 w0 L1 H nb a g w)∨St n S0 g0 w0 L2 H nb a g w:=by
 subst h1;subst h2
 obtain⟨v,ls,k1,k2,k3⟩:=hS.fr t _ ht
 rcases k2.at' with⟨h4,⟨_,h5⟩|h5⟩|h4
 ·refine .inl ⟨List.eq_nil_of_length_eq_zero h4,hS.size,hS.defers,fun u q hu=> ?_,hS.hs,hS.go,hS.wf0,hS.fp,hS.nm⟩
  rcases JE hu with⟨rfl,rfl⟩|h
  ·show[a.tmps.getD u undef]=[Value.slice none 0 0]
   rw[k1,h5]
  ·exact hS.fr u q h
 ·refine .inr ⟨hS.size,hS.defers,fun u q hu=> ?_,hS.hs,hS.go,hS.wf0,hS.fp,hS.nm⟩
  rcases JE hu with⟨rfl,rfl⟩|h
  ·exact⟨v,ls,k1,⟨k2.le,k2.len,.inl ⟨h4,.inr h5⟩⟩,k3⟩
  ·exact hS.fr u q h
 ·refine .inr ⟨hS.size,hS.defers,fun u q hu=> ?_,hS.hs,hS.go,hS.wf0,hS.fp,hS.nm⟩
  rcases JE hu with⟨rfl,rfl⟩|h
  ·exact⟨v,ls,k1,⟨k2.le,k2.len,.inr h4⟩,k3⟩
  ·exact hS.fr u q h
end Go.Sx
namespace Go.Sx
open Go.Mi Go.RowKit
variable [Dfr]
def nlD (nb:Nat):Nat→D→Option D
 |0,.cons (.v (.slice none 0 0)) ds=>some (.cons (.sk nb) ds)
 |i+1,.cons d ds=>(nlD nb i ds).map (.cons d ·)
 |_,_=>none
theorem AbV {X:Nat→Prop} {N N':Nat→Option Value} {w:World} {nb:Nat} (hn:∀k v,N k=some v→N' k=some v) (hb:N' nb=some (.slice none 0 0)):∀{i:Nat} {d d':D} {l:List Value},nlD nb i d=some d'→B4 X N w d false l→B4 X N' w d' false l:=by
 have mv:=fun(d:D) (m:Bool) (l:List Value) (h:B4 X N w d m l)=>FM (X':=X) (S:=fun _=>False) ⟨Chp.refl _ _,fun _ h=>h.elim,fun _ h=> .inl h,hn⟩ d m l h
 intro i
 induction i with
 |zero=>
  intro d d' l h hs
  unfold nlD at h
  split at h
  ·cases h
   obtain⟨l1,l2,rfl,h1,h2⟩:=hs
   exact⟨l1,l2,rfl,⟨_,hb,h1,rfl⟩,mv _ _ _ h2⟩
  ·rename_i e;cases e
  ·cases h
 |succ i ih=>
  intro d d' l h hs
  unfold nlD at h
  split at h
  ·rename_i e;cases e
  ·rename_i j d0 ds e
   cases e
   obtain⟨q,h1,rfl⟩:=Option.map_eq_some_iff.1 h
   obtain⟨l1,l2,rfl,h2,h3⟩:=hs
   exact⟨l1,l2,rfl,mv _ _ _ h2,ih h1 h3⟩
  ·cases h
section
variable {P:Program} {n:Nat} {L:DL} {H:Hp} {S0:Nat→Prop} {g0 g:G} {w0 w:World} {nb:Nat} {a:Act}
theorem St.nilob (hS:St n S0 g0 w0 L H nb a g w) (k i:Nat) (te:TypeId) (e:List Fk) {ty:TypeId} {d d':D} (hk:AS H k=some (.ob ty d)) (hd:nlD nb i d=some d') {H':Hp} (hH:H'=(nb,some (.sl te e []))::(k,some (.ob ty d'))::H):∃g',St n S0 g0 w0 L H' (nb+1) a g' w:=by
 subst hH
 let g':G:=⟨fun k=>if k=nb then some (.slice none 0 0)else g.N k,fun k=>if k=nb then[]else g.F k,g.X⟩
 have hne:∀k v,g.N k=some v→k≠nb:=fun k v h e=>by have :k<nb:=hS.nm k v h;omega
 have gn:∀k,k≠nb→g'.N k=g.N k:=fun k h=>if_neg h
 have gf:∀k,k≠nb→g'.F k=g.F k:=fun k h=>if_neg h
 have gF:g'.F nb=[]:=if_pos rfl
 have gN:g'.N nb=some (.slice none 0 0):=if_pos rfl
 have gm:∀k v,g.N k=some v→g'.N k=some v:=fun k v h=>(gn k (hne k v h)).trans h
 have hgo:Go (fun _=>False) g w g' w:=⟨Chp.refl _ _,fun _ h=>h.elim,fun _ h=> .inl h,fun _ h _=>h,gm,fun k v h=>gf k (hne k v h)⟩
 have knb:k≠nb:=by
  obtain⟨b,c,h1,_⟩:=hS.hs.os k _ hk
  exact hne k _ h1
 have hl:∀j o,AS ((nb,some (O.sl te e []))::(k,some (O.ob ty d'))::H) j=some o→(j=nb∧o= .sl te e [])∨(j≠nb∧((j=k∧o= .ob ty d')∨(j≠k∧AS H j=some o))):=fun j o h=>by
  have h:=BD.1 h
  simp only[Es]at h
  by_cases e1:nb=j
  ·subst e1;simp at h;exact .inl ⟨rfl,h.symm⟩
  ·rw[Bb e1]at h
   refine .inr ⟨fun x=>e1 x.symm,?_⟩
   by_cases e2:k=j
   ·subst e2;simp at h;exact .inl ⟨rfl,h.symm⟩
   ·rw[Bb e2]at h;exact .inr ⟨fun x=>e2 x.symm,BD.2 h⟩
 have old:∀j o,AS ((nb,some (O.sl te e []))::(k,some (O.ob ty d'))::H) j=some o→j=nb∨(j≠nb∧∃u,AS H j=some u):=fun j o h=>by
  rcases hl j o h with⟨rfl,_⟩|⟨h1,⟨rfl,_⟩|⟨_,h2⟩⟩
  ·exact .inl rfl
  ·exact .inr ⟨h1,_,hk⟩
  ·exact .inr ⟨h1,_,h2⟩
 refine⟨g',hS.size,hS.defers,fun u d hu=>(hS.fr u d hu).mv hgo,⟨hS.hs.wf,fun j o h=> ?_,fun j o h b hb=> ?_,fun j o j' o' h h' hj b hb hb'=> ?_⟩,⟨hS.go.ch,hS.go.s,hS.go.x,hS.go.k,fun j v hj=>gm j v (hS.go.n j v hj),fun j v hj=> ?_⟩,hS.wf0,fun j o h b hb=> ?_,fun j v h=> ?_⟩
 ·rcases hl j o h with⟨rfl,rfl⟩|⟨h1,⟨rfl,rfl⟩|⟨_,h2⟩⟩
  ·exact⟨_,[],gN,gF,⟨by simp,.inl ⟨rfl,rfl⟩⟩,by simp [maxLen],trivial,by simp⟩
  ·obtain⟨b,c,k1,k2,k3,k4,k5⟩:=hS.hs.os j _ hk
   exact⟨b,c,gm _ _ k1,(gf j h1).trans k2,k3,AbV gm gN hd k4,k5⟩
  ·exact(hS.hs.os j o h2).mv hgo fun _ _ h=>h
 ·rcases old j o h with rfl|⟨h1,u,h2⟩
  ·rw[gF]at hb;cases hb
  ·rw[gf j h1]at hb;exact hS.hs.own j u h2 b hb
 ·rcases old j o h with rfl|⟨h1,u,h2⟩
  ·rw[gF]at hb;cases hb
  ·rcases old j' o' h' with rfl|⟨h3,u',h4⟩
   ·rw[gF]at hb';cases hb'
   ·rw[gf j h1]at hb;rw[gf j' h3]at hb';exact hS.hs.dis j u j' u' h2 h4 hj b hb hb'
 ·exact(gf j (hne j v (hS.go.n j v hj))).trans (hS.go.f j v hj)
 ·rcases old j o h with rfl|⟨h1,u,h2⟩
  ·rw[gF]at hb;cases hb
  ·rw[gf j h1]at hb;exact hS.fp j u h2 b hb
 ·by_cases e:j=nb
  ·subst e;exact Nat.lt_succ_self _
  ·rw[gn j e]at h;exact Nat.lt_succ_of_lt (hS.nm j v h)
theorem St.alias (hS:St n S0 g0 w0 L H nb a g w) (k:Nat) {o:O} (hk:AS H k=some o) {L':DL} {H':Hp} (hL:L'=L.map fun p=>(p.1,p.2.sb k (fun o=> .cp nb o) (.sk nb))) (hH:H'=(k,none)::(nb,some (o.sb k (fun o=> .cp nb o) (.sk nb)))::H.map fun p=>(p.1,p.2.map (O.sb · k (fun o=> .cp nb o) (.sk nb)))):∃g',St n S0 g0 w0 L' H' (nb+1) a g' w:=by
 subst hL;subst hH
 let g':G:=⟨fun j=>if j=nb then g.N k else g.N j,fun j=>if j=nb then g.F k else g.F j,g.X⟩
 have hne:∀j v,g.N j=some v→j≠nb:=fun j v h e=>by have :j<nb:=hS.nm j v h;omega
 have gn:∀j,j≠nb→g'.N j=g.N j:=fun j h=>if_neg h
 have gf:∀j,j≠nb→g'.F j=g.F j:=fun j h=>if_neg h
 have gF:g'.F nb=g.F k:=if_pos rfl
 have gN:g'.N nb=g.N k:=if_pos rfl
 have gm:∀j v,g.N j=some v→g'.N j=some v:=fun j v h=>(gn j (hne j v h)).trans h
 have hgo:Go (fun _=>False) g w g' w:=⟨Chp.refl _ _,fun _ h=>h.elim,fun _ h=> .inl h,fun _ h _=>h,gm,fun j v h=>gf j (hne j v h)⟩
 have ssb:∀{d:D} {m:Bool} {l:List Value},B4 g.X g.N w d m l→B4 g.X g'.N w (d.sb k (fun o=> .cp nb o) (.sk nb)) m l:=fun {d m l} h=>by
  have h1:=FM hgo.goes d m l h
  have hkk:∀v,g'.N k=some v→g'.N nb=some v:=fun v hv=>by
   by_cases e:k=nb
   ·rw[←e];exact hv
   ·rw[gN,←gn k e];exact hv
  exact jZ (X':=g.X) (q:=fun o=> .cp nb o) (s:= .sk nb) (fun _ h=>h) (fun b o m h=>⟨b,hkk _ h,rfl⟩) (fun v m h ho=>⟨v,hkk _ h,rfl,ho⟩) h1
 have osb:∀j u j',OS g w j u→g'.N j'=g.N j→g'.F j'=g.F j→OS g' w j' (u.sb k (fun o=> .cp nb o) (.sk nb)):=fun j u j' h e1 e2=>by
  cases u with
  |ob ty ds=>obtain⟨b,c,k1,k2,k3,k4,k5⟩:=h;exact⟨b,c,e1.trans k1,e2.trans k2,k3,ssb k4,k5⟩
  |sl ty e xs=>obtain⟨v,ls,k1,k2,k3,k4,k5,k6⟩:=h;exact⟨v,ls,e1.trans k1,e2.trans k2,k3,k4,k5.mono (ET hgo.goes e),k6⟩
 have hob:∀j u,AS ((k,none)::(nb,some (o.sb k (fun o=> .cp nb o) (.sk nb)))::H.map fun p=>(p.1,p.2.map (O.sb · k (fun o=> .cp nb o) (.sk nb)))) j=some u→j≠k∧((j=nb∧u=o.sb k (fun o=> .cp nb o) (.sk nb))∨(j≠nb∧∃u',AS H j=some u'∧u=u'.sb k (fun o=> .cp nb o) (.sk nb))):=by
  intro j u h
  have h:=BD.1 h
  simp only[Es]at h
  by_cases e:k=j
  ·subst e;simp at h
  ·rw[Bb e]at h
   refine⟨fun h=>e h.symm,?_⟩
   simp only[cond_false]at h
   by_cases e2:nb=j
   ·subst e2;simp at h;exact .inl ⟨rfl,h.symm⟩
   ·rw[Bb e2]at h
    refine .inr ⟨fun h=>e2 h.symm,?_⟩
    simp only[cond_false]at h
    have :∀(H:Hp),Es (H.map fun p=>(p.1,p.2.map (O.sb · k (fun o=> .cp nb o) (.sk nb)))) j=some (some u)→∃u',Es H j=some (some u')∧u=u'.sb k (fun o=> .cp nb o) (.sk nb):=by
     intro H
     induction H with
     |nil=>intro h;cases h
     |cons p H ih=>
      obtain⟨s',p2⟩:=p
      intro h
      simp only[List.map_cons,Es]at h⊢
      by_cases e:s'=j
      ·subst e
       simp only[Nat.beq_refl,cond_true,Option.some.injEq]at h⊢
       obtain⟨u',h1,h2⟩:=Option.map_eq_some_iff.1 h
       exact⟨u',h1,h2.symm⟩
      ·rw[Bb e]at h⊢;exact ih h
    obtain⟨u',h1,h2⟩:=this H h
    exact⟨u',BD.2 h1,h2⟩
 -- whose name, whose thing
 have src:∀j u,AS ((k,none)::(nb,some (o.sb k (fun o=> .cp nb o) (.sk nb)))::H.map fun p=>(p.1,p.2.map (O.sb · k (fun o=> .cp nb o) (.sk nb)))) j=some u→∃i u',AS H i=some u'∧u=u'.sb k (fun o=> .cp nb o) (.sk nb)∧g'.N j=g.N i∧g'.F j=g.F i∧((j=nb∧i=k)∨(j≠nb∧i=j∧j≠k)):=fun j u h=>by
  obtain⟨h1,⟨rfl,rfl⟩|⟨h2,u',h3,rfl⟩⟩:=hob j u h
  ·exact⟨k,o,hk,rfl,gN,gF,.inl ⟨rfl,rfl⟩⟩
  ·exact⟨j,u',h3,rfl,gn j h2,gf j h2,.inr ⟨h2,rfl,h1⟩⟩
 refine⟨g',hS.size,hS.defers,fun t d ht=> ?_,⟨hS.hs.wf,fun j u h=> ?_,fun j u h b hb=> ?_,fun j u j' u' h h' hj b hb hb'=> ?_⟩,⟨hS.go.ch,hS.go.s,hS.go.x,hS.go.k,fun j v hj=>gm j v (hS.go.n j v hj),fun j v hj=> ?_⟩,hS.wf0,fun j u h b hb=> ?_,fun j v h=> ?_⟩
 ·rw[Oo (r:=fun d=>d.sb k (fun o=> .cp nb o) (.sk nb))]at ht
  obtain⟨d',h1,rfl⟩:=Option.map_eq_some_iff.1 ht
  exact ssb (hS.fr t d' h1)
 ·obtain⟨i,u',h1,rfl,e1,e2,_⟩:=src j u h
  exact osb i u' j (hS.hs.os i u' h1) e1 e2
 ·obtain⟨i,u',h1,_,_,e2,_⟩:=src j u h
  rw[e2]at hb
  exact hS.hs.own i u' h1 b hb
 ·obtain⟨i,v,h1,_,_,e2,c1⟩:=src j u h
  obtain⟨i',v',h1',_,_,e2',c1'⟩:=src j' u' h'
  rw[e2]at hb;rw[e2']at hb'
  refine hS.hs.dis i v i' v' h1 h1' (fun e=>hj ?_) b hb hb'
  rcases c1 with⟨a1,a2⟩|⟨a1,a2,a3⟩<;>rcases c1' with⟨b1,b2⟩|⟨b1,b2,b3⟩
  ·rw[a1,b1]
  ·exact absurd (by rw[←b2,←e,a2]) b3
  ·exact absurd (by rw[←a2,e,b2]) a3
  ·rw[←a2,e,b2]
 ·exact(gf j (hne j v (hS.go.n j v hj))).trans (hS.go.f j v hj)
 ·obtain⟨i,u',h1,_,_,e2,_⟩:=src j u h
  rw[e2]at hb
  exact hS.fp i u' h1 b hb
 ·by_cases e:j=nb
  ·subst e;exact Nat.lt_succ_self _
  ·rw[gn j e]at h;exact Nat.lt_succ_of_lt (hS.nm j v h)
end
end Go.Sx
namespace Go.Sx
open Go.Mi Go.RowKit
variable [Dfr]
inductive R2 where
 |frz
 |at(p v:Nat)
 |ta
 |nn
 |mf
def Aej:List (Nat×R2)→Nat→Option R2
 |[],_=>none
 |(s,v)::r,t=>bif Nat.beq s t then some v else Aej r t
def Acq (P:Program) (L:DL) (H:Hp) (t:TypeId) (x:Operand):Option (Eff×List Prop):=match Eb L x,gU P t with
 |some (.cp k o),some (len,m)=>(match AS H k with
  |some (.ob _ d)=>(match GV d with
   |[.ar kk n f]=>bif Nat.beq m 1&&Nat.beq o 0&&Nat.beq n len&&Nat.blt 0 len&&Nat.ble len 140737488355328 then some (⟨[],[(k,none)],[],.ls true [.int kk] ((List.range n).map f:List Int)⟩,[])else none
   |_=>none)
  |_=>none)
 |_,_=>none
def oJ (P:Program) (L:DL) (H:Hp) (t:TypeId) (x:Operand):Option (Eff×List Prop):=match Eb L x,gU P t with
 |some (.sk k),some (len,_)=>(match AS H k with
  |some (.sl _ e xs)=>bif Nat.beq e.length 1 then some (⟨[k],[],[],.xp k 1 xs.length 0 0⟩,[len≤xs.length,0<xs.length])else none
  |_=>none)
 |some (.sv k o n),some (len,_)=>some (⟨[],[],[],.cp k o⟩,[len≤n])
 |_,_=>none
def oM (P:Program) (L:DL) (H:Hp) (t:TypeId) (x:Operand) (p v:Nat):Option (Eff×List Prop):=match Eb L x,NX P t with
 |some (.cp k o),some (false,m)=>(match AS H k with
  |some (.ob _ d)=>(match(GV d)[p]? with
   |some (.ar kk q f)=>some (⟨[k],[],[],.ar kk m fun j=>f (v+j)⟩,[o=Vb ((GV d).take p)+v,v+m≤q])
   |_=>none)
  |_=>none)
 |some (.xp k mm _ i o),some (false,m)=>(match AS H k with
  |some (.sl _ [.int kk] xs)=>bif Nat.beq mm 1&&Nat.beq o 0 then some (⟨[k],[],[],.ar kk m fun j=>List.getD (α:=Int) xs (i+j) 0⟩,[i+m≤xs.length])else none
  |_=>none)
 |_,_=>none
def Acj (P:Program) (L:DL) (x:Operand) (T:TypeId) (ok:Bool):Option (Eff×List Prop):=match Eb L x,P.underlying T with
 |some (.v (.iface t v)),some (.int _)=>bif Nat.beq t T&&v.oneCell'&&ok then some (⟨[],[],[],.tu (chain [.v v,.v (.bool true)])⟩,[])else none
 |_,_=>none
def Acn (P:Program) (L:DL) (t:TypeId) (x:Operand):Option (Eff×List Prop):=match Eb L x,P.underlying t with
 |some (.v .nilIface),some (.interface _)=>some (⟨[],[],[],.v (.bool false)⟩,[])
 |_,_=>none
def Aco (P:Program) (K:Kt) (t:TypeId) (x y:Operand):Option (Eff×List Prop):=match UB P K [] t x y 0 with
 |some (⟨[],[],[(_,.sl _ [.int k] xs)],_⟩,ps)=>some (⟨[],[],[],.ls false [.int k] xs⟩,ps)
 |_=>none
def Acu (E:hO) (C:List (Nat×Rx)) (C2:List (Nat×R2)):Ex:=fun i L H nb o=>match Aej C2 i with
 |none=>bB E C i L H nb o
 |some .frz=>(match o.op with
  | .slice t x none none none=>Acq E.P L H t x
  | .sliceToArrayPointer t x=>oJ E.P L H t x
  |_=>none)
 |some (.at p v)=>(match o.op with
  | .load t x=>oM E.P L H t x p v
  |_=>none)
 |some .ta=>(match o.op with
  | .typeAssert x _ T ok=>Acj E.P L x T ok
  |_=>none)
 |some .nn=>(match o.op with
  | .binOp .neq t x (.const .nilIface) _=>Acn E.P L t x
  |_=>none)
 |some .mf=>(match o.op with
  | .makeSlice t x y=>Aco E.P E.K t x y
  |_=>none)
section
variable {P:Program} {n:Nat} {L:DL} {H:Hp} {ds:Option Nat} {ty:TypeId} {pos:String} {af:Array Edge} {gu:Option (Nat×Bool)} {X:Nat→Prop} {N:Nat→Option Value} {w:World}
theorem jC (d:D) (r:List D):Vb (d::r)=GA d+Vb r:=rfl
theorem ZD:∀{ss:List D} {l:List Value} {p:Nat} {d:D},CI X N w ss l→ss[p]? =some d→B4 X N w d false ((l.drop (Vb (ss.take p))).take (GA d))
 |[],_,_,_,_,h=>by simp at h
 |e::ss,l,0,d,⟨l1,l2,he,h1,h2⟩,h=>by
  simp at h;subst h;subst he
  have hl:=Fv h1
  rw[List.take_zero,show Vb []=0 from rfl,List.drop_zero,List.take_append_of_le_length (by omega),List.take_of_length_le (by omega)]
  exact h1
 |e::ss,l,p+1,d,⟨l1,l2,he,h1,h2⟩,h=>by
  subst he
  have hl:=Fv h1
  rw[List.take_succ_cons,jC,←hl,←List.drop_drop,List.drop_left]
  exact ZD h2 (by simpa using h)
theorem S8 (k:IntKind) (n:Nat) (f:Nat→Int):((((List.range n).map f).map fun z=>[Value.int k z])).flatten=cells k n f:=by
 have :∀l:List Nat,(((l.map f).map fun z=>[Value.int k z])).flatten=l.map fun i=>Value.int k (f i):=by
  intro l
  induction l with
  |nil=>rfl
  |cons a l ih=>rw[List.map_cons,List.map_cons,List.flatten_cons,ih];rfl
 exact this _
theorem kJ {k:IntKind}:∀l:List Int,Fa2 (rS X N w [.int k]) (l:List (RT [.int k])) (l.map fun z=>[Value.int k z])
 |[]=>trivial
 |a::l=>⟨⟨_,rfl,rfl⟩,kJ l⟩
theorem xA {t:TypeId} {x:Operand} {e:Eff} {ps:List Prop} (h:Acq P L H t x=some (e,ps)):EOk P n ⟨ds,.slice t x none none none,ty,pos,af,gu⟩ L (AS H) e:=by
 intro ξ g w hS hH hn
 unfold Acq at h
 split at h
 ·rename_i k o len m hx ha
  split at h
  ·rename_i ty' d hk
   split at h
   ·rename_i kk q f hd
    cases hb:Nat.beq m 1&&Nat.beq o 0&&Nat.beq q len&&Nat.blt 0 len&&Nat.ble len 140737488355328 with
    |false=>rw[hb]at h;cases h
    |true=>
     rw[hb]at h
     simp only[Bool.and_eq_true]at hb
     obtain⟨⟨⟨⟨b1,b2⟩,b3⟩,b4⟩,b5⟩:=hb
     obtain rfl:=Nat.eq_of_beq_eq_true b1
     obtain rfl:=Nat.eq_of_beq_eq_true b2
     obtain rfl:=Nat.eq_of_beq_eq_true b3
     have b5:=Nat.le_of_ble_eq_true b5
     rw[Nat.blt_eq]at b4
     cases h
     obtain⟨te,u1,u2⟩:=MO ha
     obtain⟨v,hv,b',k1,k2⟩:=A4 hH hx
     cases(List.cons.inj k2).1
     have hkk:BF ([]++An [(k,(none:Option O))]) (AS H) k=some (.ob ty' d):=by simp [BF,An,BM,hk]
     obtain⟨b,c,e1,e2,e3,e4,e5⟩:=hS.os k _ hkk
     rw[k1]at e1
     cases e1
     have hbF:b'∈g.F k:=by rw[e2];simp
     have hcc:=Dq e4
     rw[hd]at hcc
     have hce:c.toList=cells kk q f:=CP.1 hcc
     have hd2:=pT (P:=P) (n:=n) (w:=w) (ds:=ds) (ty:=ty) (pos:=pos) (af:=af) (gu:=gu) (lo:=none) (hi:=none) (mx:=none) u1 u2 hv (fun a hF=>⟨D8 (x:=none) (i:=none) hH rfl a n hF,D8 (x:=none) (i:=none) hH rfl a n hF,D8 (x:=none) (i:=none) hH rfl a n hF⟩) ⟨trivial,trivial,trivial,by simp,by simp [bl],by simp [bl],by simp [bl]⟩
     rw[if_neg (show¬bl (none:Option Int) q=bl none 0 from by show¬q=0;omega)]at hd2
     have hd2:Det P ⟨ds,.slice t x none none none,ty,pos,af,gu⟩ n (Lf L ξ) w (vS b' 0 q q) w:=by simpa[bl]using hd2
     refine hd2.mono fun v' w' ⟨f1,f2⟩=> ?_
     subst f1;subst f2
     have hfx:∀x,Eff.foot ⟨[],[(k,none)],[],.ls true [.int kk] ((List.range q).map f:List Int)⟩ (AS H) g x↔x∈g.F k:=fun x=>⟨fun⟨j,h1,q,h2,h3⟩=>by
      simp only[An,List.map_cons,List.map_nil,List.mem_singleton]at h1
      subst h1;exact h3,fun hx=>⟨k,by simp [An],_,hk,hx⟩⟩
     let g':G:=⟨g.N,g.F,fun x=>g.X x∧x∉g.F k⟩
     have hgo:Go (Eff.foot ⟨[],[(k,none)],[],.ls true [.int kk] ((List.range q).map f:List Int)⟩ (AS H) g) g w' g' w':=⟨Chp.refl _ _,fun x hx=>hS.own k _ hkk x ((hfx x).1 hx),fun x hx=> .inl hx.1,fun x h1 h2=>⟨h1,fun h3=>h2 ((hfx x).2 h3)⟩,fun _ _ h=>h,fun _ _ _=>rfl⟩
     have hno:∀j u,AS (Eff.outs ⟨[],[(k,(none:Option O))],[],.ls true [.int kk] ((List.range q).map f:List Int)⟩) j≠some u:=fun j u h=>by
      have h:=BD.1 h
      simp only[Eff.outs,List.map_nil,List.append_nil,Es]at h
      by_cases e:k=j
      ·subst e;simp at h
      ·rw[Bb e]at h;cases h
     have hlt:b'<w'.heap.size:=OS.lt (hS.os k _ hkk) b' hbF
     have hll:((List.range q).map f:List Int).length=q:=by simp
     refine⟨g',hgo,⟨_,((List.range q).map f).map fun z=>[Value.int kk z],rfl,⟨?_,?_,.inr ⟨b',0,q,?_,?_,?_,fun hx=>hx.2 hbF,hlt,?_⟩⟩,kJ _⟩,⟨fun x hx=>hS.wf x hx.1,fun j u h=>(hno j u h).elim,fun j u h=>(hno j u h).elim,fun j u _ _ h=>(hno j u h).elim⟩,fun j u h=>(hno j u h).elim,fun j u h=> .inl h⟩
     ·show((List.range q).map f:List Int).length≤maxLen
      rw[hll];simp only[maxLen];omega
     ·rw[S8,A7]
      show q=((List.range q).map f:List Int).length*1
      rw[hll];omega
     ·show _=vS b' 0 ((List.range q).map f:List Int).length q
      rw[hll]
     ·show((List.range q).map f:List Int).length≤q
      rw[hll];exact Nat.le_refl _
     ·simp only[maxLen];omega
     ·rw[S8,←hce];exact At.of_blk e3
   ·cases h
  ·cases h
 ·cases h
theorem Lz (arr e:TypeId) (n:Nat) (a:Option Addr) (len cap:Nat) (h:P.underlying arr=some (.array n e)) (hn:n≤len):(Instr.arrayAt arr (.slice a len cap)).run P w= .ok (.pointer a) w:=by
 simp [Instr.arrayAt,Ak h,Nat.not_lt.2 hn]
theorem oI {t:TypeId} {x:Operand} {e:Eff} {ps:List Prop} (h:oJ P L H t x=some (e,ps)) (hp:AllP ps):EOk P n ⟨ds,.sliceToArrayPointer t x,ty,pos,af,gu⟩ L (AS H) e:=by
 unfold oJ at h
 split at h
 ·rename_i k len m hx ha
  split at h
  ·rename_i te' e' xs hk
   cases hb:Nat.beq e'.length 1 with
   |false=>rw[hb]at h;cases h
   |true=>
    rw[hb]at h
    cases h
    obtain⟨te,u1,u2⟩:=MO ha
    refine EOk.rd fun ξ g w hS hH=> ?_
    obtain⟨v,hv,v',h1,h2,_⟩:=A4 hH hx
    cases(List.cons.inj h2).1
    obtain⟨v2,ls,k1,k2,k3,_⟩:=hS.os k _ (by simp only[BF,AN.2 (List.mem_singleton.2 rfl)];exact hk)
    rw[h1]at k1
    cases k1
    have p1:=hp.1
    have p2:=hp.2.1
    rcases k3.at with⟨rfl,h4,_⟩|⟨b,cap,rfl,_,_⟩
    ·omega
    ·exact⟨_,⟨p2,b,cap,h1,rfl⟩,Det.of_run fun a hF=>by simp [execOp,hF.eval hv,Lz _ _ _ _ _ _ u1 p1]⟩
  ·cases h
 ·rename_i k o q len m hx ha
  cases h
  obtain⟨te,u1,u2⟩:=MO ha
  refine EOk.rd fun ξ g w hS hH=> ?_
  obtain⟨v,hv,b,c,h1,h2,h3,h4⟩:=A4 hH hx
  cases(List.cons.inj h2).1
  exact⟨_,⟨b,h1,rfl⟩,Det.of_run fun a hF=>by simp [execOp,hF.eval hv,Lz _ _ _ _ _ _ u1 hp.1]⟩
 ·cases h
theorem oL {t:TypeId} {x:Operand} {p v0:Nat} {e:Eff} {ps:List Prop} (h:oM P L H t x p v0=some (e,ps)) (hp:AllP ps):EOk P n ⟨ds,.load t x,ty,pos,af,gu⟩ L (AS H) e:=by
 unfold oM at h
 split at h
 ·rename_i k o m hx ht
  split at h
  ·rename_i ty' d hk
   split at h
   ·rename_i kk q f hg
    cases h
    obtain⟨td,t1,t2,t3⟩:=EP ht
    refine EOk.rd fun ξ g w hS hH=> ?_
    obtain⟨v,hv,b',e1,e2⟩:=A4 hH hx
    cases(List.cons.inj e2).1
    obtain⟨b,c,k1,k2,k3,k4,k5⟩:=hS.os k _ (by simp only[BF,AN.2 (List.mem_singleton.2 rfl)];exact hk)
    rw[k1]at e1
    cases e1
    have k6:(c.toList.drop (Vb ((GV d).take p))).take q=cells kk q f:=ZD (Dq k4) hg
    have p1:=hp.1
    have p2:=hp.2.1
    refine⟨_,rfl,OA t1 t2 t3 hv (vs:=cells kk m fun j=>f (v0+j)) (fun j u hu=> ?_) A7⟩
    have hj:j<m:=by
     rcases Nat.lt_or_ge j m with h'|h'
     ·exact h'
     ·rw[List.getElem?_eq_none (by rw[A7];exact h')]at hu;cases hu
    rw[Bz hj]at hu
    cases hu
    have h7:(cells kk q f)[v0+j]? =some (.int kk (f (v0+j))):=Bz (by omega)
    rw[←k6,List.getElem?_take,if_pos (by omega),List.getElem?_drop]at h7
    rw[Ji k3,←Array.getElem?_toList,p1,Nat.add_assoc]
    exact h7
   ·cases h
  ·cases h
 ·rename_i k mm nn i o m hx ht
  split at h
  ·rename_i ty' kk xs hk
   cases hb:Nat.beq mm 1&&Nat.beq o 0 with
   |false=>rw[hb]at h;cases h
   |true=>
    rw[hb,]at h
    rw[Bool.and_eq_true]at hb
    obtain rfl:=Nat.eq_of_beq_eq_true hb.1
    obtain rfl:=Nat.eq_of_beq_eq_true hb.2
    cases h
    obtain⟨td,t1,t2,t3⟩:=EP ht
    refine EOk.rd fun ξ g w hS hH=> ?_
    obtain⟨v,hv,hi,b,c,h1,h2⟩:=A4 hH hx
    cases(List.cons.inj h2).1
    obtain⟨v2,ls,k1,k2,k3,k4,k5,k6⟩:=hS.os k _ (by simp only[BF,AN.2 (List.mem_singleton.2 rfl)];exact hk)
    rw[h1]at k1
    cases k1
    obtain⟨vs,rfl,h4⟩:=Kv k5
    have hvs:vs=List.map (Value.int kk) (xs:List Int):=Oq h4
    have p1:=hp.1
    rcases k3.at with⟨hc,_⟩|⟨b',cap,hc,_,hat⟩
    ·cases hc
    ·cases hc
     refine⟨_,rfl,OA t1 t2 t3 hv (vs:=cells kk m fun j=>List.getD (α:=Int) xs (i+j) 0) (fun j u hu=> ?_) A7⟩
     have hj:j<m:=by
      rcases Nat.lt_or_ge j m with h'|h'
      ·exact h'
      ·rw[List.getElem?_eq_none (by rw[A7];exact h')]at hu;cases hu
     rw[Bz hj]at hu
     cases hu
     have hlt:i+j<List.length (α:=Int) xs:=Nat.lt_of_lt_of_le (by omega) p1
     have key:∀(l:List Int) (q:Nat),q<l.length→((l.map (Value.int kk)).map fun v=>[v]).flatten[q]? =some (.int kk (l.getD q 0)):=by
      intro l q hq
      have e:∀l:List Int,((l.map (Value.int kk)).map fun v=>[v]).flatten=l.map (Value.int kk):=by
       intro l
       induction l with
       |nil=>rfl
       |cons a l ih=>rw[List.map_cons,List.map_cons,List.flatten_cons,ih];rfl
      rw[e,List.getElem?_map,List.getElem?_eq_getElem hq]
      simp [List.getD_eq_getElem?_getD,List.getElem?_eq_getElem hq]
     have :=hat (i+j) (.int kk (List.getD (α:=Int) xs (i+j) 0)) (by rw[hvs];exact key xs (i+j) hlt)
     rw[Nat.zero_add]at this
     rw[Nat.mul_one,Nat.add_zero]
     exact this
  ·cases h
 ·cases h
theorem wT {x:Operand} {xT T:TypeId} {ok:Bool} {e:Eff} {ps:List Prop} {F:Nat→Option O} (h:Acj P L x T ok=some (e,ps)):EOk P n ⟨ds,.typeAssert x xT T ok,ty,pos,af,gu⟩ L F e:=by
 unfold Acj at h
 split at h
 ·rename_i t v k hx hu
  cases hb:Nat.beq t T&&v.oneCell'&&ok with
  |false=>rw[hb]at h;cases h
  |true=>
   rw[hb]at h
   simp only[Bool.and_eq_true]at hb
   obtain⟨⟨b1,b2⟩,rfl⟩:=hb
   obtain rfl:=Nat.eq_of_beq_eq_true b1
   cases h
   refine EOk.rd fun ξ g w hS hH=>⟨.tuple #[v,.bool true],⟨[v,.bool true],⟨[v],[.bool true],rfl,rfl,⟨[.bool true],[],rfl,rfl,rfl⟩⟩,rfl⟩,?_⟩
   have hv:=Bo hH hx
   exact Det.of_run fun a hF=>by simp [execOp,hF.eval hv,Instr.typeAssert,Ak hu]
 ·cases h
theorem wX {t t':TypeId} {x:Operand} {e:Eff} {ps:List Prop} {F:Nat→Option O} (h:Acn P L t x=some (e,ps)):EOk P n ⟨ds,.binOp .neq t x (.const .nilIface) t',ty,pos,af,gu⟩ L F e:=by
 unfold Acn at h
 split at h
 ·rename_i k hx hu
  cases h
  refine EOk.rd fun ξ g w hS hH=>⟨_,rfl,?_⟩
  have hvx:=Bo hH hx
  have key:∀m,(Op.equalIn (m+1) t Value.nilIface Value.nilIface).run P w= .ok true w:=fun m=>by simp [Op.equalIn,Ak hu]
  have he:(Op.equalIn Op.maxDepth t Value.nilIface Value.nilIface).run P w= .ok true w:=key 9999
  refine Det.of_run fun a hF=> ?_
  have hc:a.eval (.const .nilIface)=Value.nilIface:=rfl
  simp [execOp,hF.eval hvx,hc,binOp,eqGuard,Op.equal,he]
 ·cases h
theorem eI {K:Kt} {t:TypeId} {x y:Operand} {nb:Nat} {e:Eff} {ps:List Prop} (h:UB P K L t x y nb=some (e,ps)):∃te q xs,e=⟨[],[],[(nb,.sl te q xs)],.sk nb⟩:=by
 unfold UB at h
 split at h
 ·split at h
  ·split at h
   ·rename_i inf a _ _ _ z _
    cases hb:Nat.beq inf.size 1&&z.oneCell' with
    |false=>rw[hb]at h;cases h
    |true=>
     rw[hb]at h
     obtain⟨q,_,h2⟩:=Option.map_eq_some_iff.1 h
     simp only[Prod.mk.injEq]at h2
     exact⟨_,_,_,h2.1.symm⟩
   ·cases h
  ·cases h
 ·cases h
theorem w7 {K:Kt} {t:TypeId} {x y:Operand} {e:Eff} {ps:List Prop} (h:Aco P K t x y=some (e,ps)) (hp:AllP ps):EOk P n ⟨ds,.makeSlice t x y,ty,pos,af,gu⟩ L (AS H) e:=by
 unfold Aco at h
 split at h
 ·rename_i j te k xs rr qs he
  cases h
  obtain⟨te',q',xs',e1⟩:=eI he
  intro ξ g w hS hH hn
  have hS0:HS (BF ([]++An ([]:Hp)) (AS H)) (⟨fun _=>none,g.F,g.X⟩:G) w:=⟨hS.wf,fun k o hk=>by simp [BF,An,BM]at hk,fun k o hk=>by simp [BF,An,BM]at hk,fun k o k' o' hk=>by simp [BF,An,BM]at hk⟩
  have h1:=WR (n:=n) (ds:=ds) (ty:=ty) (pos:=pos) (af:=af) (gu:=gu) (H:=AS H) he hp ξ ⟨fun _=>none,g.F,g.X⟩ w (by simp only[Eff.mk.injEq]at e1;simpa[An]using hS0) (fun _ _ h=>by cases h) (fun _ _=>rfl)
  intro a KK Q hF hk
  refine h1 a KK Q ⟨hF.size,hF.defers,fun _ _ h=>by cases h⟩ fun v w' ⟨g',hpo⟩=>hk v w' ?_
  cases e1
  obtain⟨u,ls,n1,n2,n3,n4,n5,n6⟩:=hpo.hs.os 0 (.sl te [.int k] xs) rfl
  have hr:v=u:=by
   obtain⟨u',h1,h2,_⟩:=hpo.r
   rw[n1]at h1
   cases h1
   exact(List.cons.inj h2).1
  subst hr
  have hno:∀j u,AS (Eff.outs ⟨[],[],[],.ls false [.int k] xs⟩) j≠some u:=fun j u h=>by simp [Eff.outs,AS,Es]at h
  have hft:∀x,¬Eff.foot ⟨[],[],[],.ls false [.int k] xs⟩ (AS H) g x:=fun x ⟨k,hk,_⟩=>by simp [An]at hk
  have hft2:∀x,¬Eff.foot ⟨[],[],[(0,.sl te [.int k] xs)],.sk 0⟩ (AS H) ⟨fun _=>none,g.F,g.X⟩ x:=fun x ⟨k,hk,_⟩=>by simp [An]at hk
  refine⟨g,⟨⟨hpo.go.ch.os,hpo.go.ch.tape,hpo.go.ch.output,hpo.go.ch.size,fun b hb _=>hpo.go.ch.blk b hb (hft2 b)⟩,fun x hx=>(hft x hx).elim,fun x hx=> .inl hx,fun x hx _=>hx,fun _ _ h=>h,fun _ _ _=>rfl⟩,?_,⟨fun x hx=>Nat.lt_of_lt_of_le (hS.wf x hx) hpo.go.ch.size,fun j u h=>(hno j u h).elim,fun j u h=>(hno j u h).elim,fun j u j' u' h=>(hno j u h).elim⟩,fun j u h=>(hno j u h).elim,fun k v h=> .inl h⟩
  refine⟨v,ls,rfl,⟨n4,by rw[Cs n5.row,n5.len],?_⟩,n5.mono (fun _ _ h=>h)⟩
  rcases n3.2 with⟨e1,h0⟩|⟨b,cap,cur,e1,k2,k3,k4,k5,k6,k7⟩
  ·exact .inl ⟨h0,.inl ⟨rfl,e1⟩⟩
  ·refine .inr ⟨b,0,cap,e1,k4,k5,fun hx=> ?_,OS.lt (hpo.hs.os 0 (.sl te [.int k] xs) rfl) b (by rw[n2,e1];simp [Cd]),?_⟩
   ·have h4:=hpo.fp 0 (.sl te [.int k] xs) rfl b (by rw[n2,e1];simp [Cd])
    have h5:=hS.wf b hx
    rcases h4 with h4|h4
    ·exact hft2 b h4
    ·omega
   ·rcases n3.at with⟨e2,_⟩|⟨b',cap',e2,_,h3⟩
    ·rw[e1]at e2;cases e2
    ·rw[e1]at e2;cases e2;exact h3
 ·cases h
theorem xH {E:hO} {C:List (Nat×Rx)} {C2:List (Nat×R2)} (hZ:b9 E.P E.Z) (hC:CsOk E.P C):Nz E.P n (Acu E C C2):=by
 intro i L H nb o e ps h hp
 unfold Acu at h
 split at h
 ·exact GZ hZ hC i L H nb o e ps h hp
 ·obtain⟨ds,op,ty,pos,af,gu⟩:=o
  simp only at h
  split at h
  ·exact xA h
  ·exact oI h hp
  ·cases h
 ·obtain⟨ds,op,ty,pos,af,gu⟩:=o
  simp only at h
  split at h
  ·exact oL h hp
  ·cases h
 ·obtain⟨ds,op,ty,pos,af,gu⟩:=o
  simp only at h
  split at h
  ·exact wT h
  ·cases h
 ·obtain⟨ds,op,ty,pos,af,gu⟩:=o
  simp only at h
  split at h
  ·exact wX h
  ·cases h
 ·obtain⟨ds,op,ty,pos,af,gu⟩:=o
  simp only at h
  split at h
  ·exact w7 h hp
  ·cases h
end
end Go.Sx
namespace Go.Sx
open Go.Mi Go.RowKit
variable [Dfr]
def wkC:D→List D→D
 | .cons a b,e::es=> .cons (weak a e) (wkC b es)
 |d,_=>d
theorem iG {X:Nat→Prop} {N:Nat→Option Value} {w:World} {d e:D} {l:List Value} (h:B4 X N w d false l):B4 X N w (weak d e) false l:=by
 unfold weak
 split
 ·obtain⟨u,ls,h1,h2,h3⟩:=h;exact⟨u,ls,h1,h2.gen,h3⟩
 ·have :l=[vN]:=h
  subst this
  exact⟨_,[],rfl,Lsl.nil,trivial⟩
 ·have :l=[vN]:=h
  subst this
  exact⟨_,rfl,rfl⟩
 ·split
  ·rename_i e2 xs a o q hq
   obtain⟨u,ls,h1,h2,h3⟩:=h
   subst h1
   exact⟨u,rfl,(Ko (X:=X) (N:=N) (w:=w) (m:=false) (a:= .os _) (d:= .ls true _ _) ⟨u,ls,rfl,h2,h3⟩ hq).1⟩
  ·exact h
 ·exact h
theorem Abh {X:Nat→Prop} {N:Nat→Option Value} {w:World}:∀{d:D} {es:List D} {l:List Value},B4 X N w d false l→B4 X N w (wkC d es) false l:=by
 intro d
 induction d with
 |cons a b _ ih=>
  intro es l h
  cases es with
  |nil=>exact h
  |cons e es=>
   obtain⟨l1,l2,rfl,h1,h2⟩:=h
   exact⟨l1,l2,rfl,iG h1,ih h2⟩
 |_=>intro es l h;cases es<;>exact h
theorem St.wko {n:Nat} {L:DL} {H:Hp} {S0:Nat→Prop} {g0 g:G} {w0 w:World} {nb:Nat} {a:Act} (hS:St n S0 g0 w0 L H nb a g w) (k:Nat) (es:List D) {ty:TypeId} {d:D} (hk:AS H k=some (.ob ty d)) {H':Hp} (hH:H'=(k,some (.ob ty (wkC d es)))::H):St n S0 g0 w0 L H' nb a g w:=by
 subst hH
 have hl:∀j o,AS ((k,some (.ob ty (wkC d es)))::H) j=some o→(j=k∧o= .ob ty (wkC d es))∨(j≠k∧AS H j=some o):=fun j o h=>by
  have h:=BD.1 h
  simp only[Es]at h
  by_cases e:k=j
  ·subst e;simp at h;exact .inl ⟨rfl,h.symm⟩
  ·rw[Bb e]at h;exact .inr ⟨fun x=>e x.symm,BD.2 h⟩
 have old:∀j o,AS ((k,some (.ob ty (wkC d es)))::H) j=some o→∃u,AS H j=some u:=fun j o h=>by
  rcases hl j o h with⟨rfl,_⟩|⟨_,h⟩
  ·exact⟨_,hk⟩
  ·exact⟨_,h⟩
 refine⟨hS.size,hS.defers,hS.fr,⟨hS.hs.wf,fun j o h=> ?_,fun j o h b hb=> ?_,fun j o j' o' h h' hj=> ?_⟩,hS.go,hS.wf0,fun j o h b hb=> ?_,hS.nm⟩
 ·rcases hl j o h with⟨rfl,rfl⟩|⟨_,h⟩
  ·obtain⟨b,c,h1,h2,h3,h4,h5⟩:=hS.hs.os j _ hk
   exact⟨b,c,h1,h2,h3,Abh h4,h5⟩
  ·exact hS.hs.os j o h
 ·obtain⟨u,hu⟩:=old j o h
  exact hS.hs.own j u hu b hb
 ·obtain⟨u,hu⟩:=old j o h
  obtain⟨u',hu'⟩:=old j' o' h'
  exact hS.hs.dis j u j' u' hu hu' hj
 ·obtain⟨u,hu⟩:=old j o h
  exact hS.fp j u hu b hb
end Go.Sx
namespace Go.Sx
open Go.Mi Go.RowKit
variable [Dfr]
def Rr:D→Bool
 | .v _=>true
 | .ar _ _ _=>true
 | .nil=>true
 | .cons a b=>Rr a&&Rr b
 | .ag d=>Rr d
 | .tu d=>Rr d
 | .cp _ _=>true
 | .sk _=>true
 |_=>false
def fkI:Fk→Bool
 | .int _=>true
 | .bool=>true
 | .str=>true
 |_=>false
def AaJ:O→Bool
 | .ob _ d=>Rr d
 | .sl _ e _=>e.all fkI
section
variable {P:Program} {X X':Nat→Prop} {N N':Nat→Option Value} {w w':World} {g g':G}
theorem Uc:∀{d:D} {m:Bool} {l:List Value},Rr d=true→(∀k∈d.nm,N' k=N k)→B4 X N w d m l→B4 X' N' w' d m l:=by
 intro d
 induction d with
 |v x=>intro m l _ _ h;exact h
 |ar k n f=>intro m l _ _ h;exact h
 |nil=>intro m l _ _ h;exact h
 |cons a b iha ihb=>
  intro m l hz hn h
  simp only[Rr,Bool.and_eq_true]at hz
  obtain⟨l1,l2,rfl,h1,h2⟩:=h
  exact⟨l1,l2,rfl,iha hz.1 (fun k hk=>hn k (by simp only[D.nm,List.mem_append];exact .inl hk)) h1,ihb hz.2 (fun k hk=>hn k (by simp only[D.nm,List.mem_append];exact .inr hk)) h2⟩
 |ag d ih=>intro m l hz hn h;obtain⟨l',h1,h2,h3⟩:=h;exact⟨l',ih hz hn h1,h2,h3⟩
 |tu d ih=>intro m l hz hn h;obtain⟨l',h1,h2⟩:=h;exact⟨l',ih hz hn h1,h2⟩
 |cp k o=>intro m l _ hn h;obtain⟨b,h1,h2⟩:=h;exact⟨b,(hn k (by simp [D.nm])).trans h1,h2⟩
 |sk k=>intro m l _ hn h;obtain⟨v,h1,h2⟩:=h;exact⟨v,(hn k (by simp [D.nm])).trans h1,h2⟩
 |_=>intro m l hz;cases hz
theorem oA {a:Fk} {x:a.T} {v:Value} (h:fkI a=true) (k:fS X N w a x v):fS X' N' w' a x v:=by
 cases a<;>first |exact k|cases h
theorem TA:∀{e:List Fk} {x:RT e} {l:List Value},e.all fkI=true→rS X N w e x l→rS X' N' w' e x l
 |[],x,l,_,h=>h
 |[a],x,l,hz,⟨v,h1,h2⟩=>⟨v,h1,oA (by simpa using hz) h2⟩
 |a::b::s,x,l,hz,⟨v,l',h1,h2,h3⟩=>by
  rw[List.all_cons,Bool.and_eq_true]at hz
  exact⟨v,l',h1,oA hz.1 h2,TA (e:=b::s) hz.2 h3⟩
theorem mP {k:Nat} {o:O} (hz:AaJ o=true) (hn:∀i∈o.nm,g'.N i=g.N i) (hk:g'.N k=g.N k) (hf:g'.F k=g.F k) (h:OS g w k o):OS g' w k o:=by
 cases o with
 |ob ty d=>
  obtain⟨b,c,h1,h2,h3,h4,h5⟩:=h
  exact⟨b,c,hk.trans h1,hf.trans h2,h3,Uc hz hn h4,h5⟩
 |sl ty e xs=>
  obtain⟨v,ls,h1,h2,h3,h4,h5,h6⟩:=h
  exact⟨v,ls,hk.trans h1,hf.trans h2,h3,h4,h5.mono fun _ _=>TA hz,h6⟩
theorem Pv {d:D} {m:Bool} {l:List Value} (hp:d.plain=true) (hn:∀k∈d.nm,N' k=N k) (hx:∀x,X' x→X x) (h:B4 X N w d m l):B4 X' N' w d m l:=by
 have h1:=(Fu (X:=X) (N:=N) (N':=N) (w:=w) (r:=id) d m l hp fun _ _=>rfl).2 h
 have h2:=(Fu (X:=X) (N:=N) (N':=N') (w:=w) (r:=id) d m l hp hn).1 h1
 exact FM (S:=fun _=>False) ⟨Chp.refl _ _,fun _ h=>h.elim,fun x h=> .inl (hx x h),fun _ _ h=>h⟩ d m l h2
theorem cB {k:Nat} {o:O} (hp:o.plain=true) (hn:∀i∈o.nm,g'.N i=g.N i) (hk:g'.N k=g.N k) (hf:g'.F k=g.F k) (hx:∀x,g'.X x→g.X x) (h:OS g w k o):OS g' w k o:=by
 have h1:OS (⟨g'.N,g'.F,g.X⟩:G) w k o:=by
  have h0:=(Jm (g:=g) (g':=g) (r:=id) hp (fun _ _=>rfl) rfl rfl rfl).2 h
  exact(Jm (g:=g) (g':=(⟨g'.N,g'.F,g.X⟩:G)) (r:=id) hp hn hk hf rfl).1 h0
 have gs:Zk g.X g'.N w (fun _=>False) g'.X g'.N w:=⟨Chp.refl _ _,fun _ h=>h.elim,fun x h=> .inl (hx x h),fun _ _ h=>h⟩
 cases o with
 |ob ty d=>
  obtain⟨b,c,h1,h2,h3,h4,h5⟩:=h1
  exact⟨b,c,h1,h2,h3,FM gs _ _ _ h4,h5⟩
 |sl ty e xs=>
  obtain⟨v,ls,h1,h2,h3,h4,h5,h6⟩:=h1
  exact⟨v,ls,h1,h2,h3,h4,h5.mono (ET gs _),h6⟩
theorem Xe {j:Nat} {a2:List D}:∀{a1:List D} {vs:List Value},B4 X N w (chain (a1++ .sk j::a2)) true vs→∃v1 v v2,vs=v1++v::v2∧B4 X N w (chain a1) true v1∧N j=some v∧B4 X N w (chain a2) true v2
 |[],vs,⟨l1,l2,e,⟨v,h1,h2,_⟩,h3⟩=>⟨[],v,l2,by rw[e,h2];rfl,rfl,h1,h3⟩
 |d::a1,vs,⟨l1,l2,e,h1,h2⟩=>by
  obtain⟨v1,v,v2,e2,h3,h4,h5⟩:=Xe h2
  exact⟨l1++v1,v,v2,by rw[e,e2,List.append_assoc],⟨l1,v1,rfl,h1,h3⟩,h4,h5⟩
def aG (a1 a2:List D) (H0 H1:Hc) (res:D) (j:Nat):Bool:=
 (a1.all (D_ (An H0)))&&(a2.all (D_ (An H0)))&&(H0.all fun p=>Ec (An H0) p.2)&& !(BM j (An H0))&& !(BM j (An H1))&&Rr res&&D_ (An H1) res&&(H1.all fun p=>AaJ p.2&&Ec (An H1) p.2)
theorem Ht:∀{H:Hc} {k:Nat} {o:O},DF H k=some o→(k,o)∈H
 |(s,u)::r,k,o,h=>by
  simp only[DF]at h
  by_cases e:s=k
  ·subst e;simp at h;subst h;exact List.mem_cons_self ..
  ·rw[Bb e]at h;exact List.mem_cons_of_mem _ (Ht h)
theorem ConOk.lend {f : FuncId} {a1 a2 : List D} {nn : Bool} {kk : IntKind} {xs : List Int} {H0 H1 : Hc} {res : D} (j te : Nat) (h : ConOk P f ⟨a1 ++ .ls nn [.int kk] xs :: a2, H0, res, H1⟩) (hnn : nn = true → 0 < xs.length) (hk : aG a1 a2 H0 H1 res j = true) :
  ConOk P f ⟨a1++ .sk j::a2,(j,.sl te [.int kk] xs)::H0,res,(j,.sl te [.int kk] xs)::H1⟩:=by
 refine⟨h.1,fun vs g w hS hN hv=> ?_⟩
 simp only[aG,Bool.and_eq_true,List.all_eq_true,Bool.not_eq_true']at hk
 obtain⟨⟨⟨⟨⟨⟨⟨c1,c2⟩,c3⟩,c4⟩,c5⟩,c6⟩,c7⟩,c8⟩:=hk
 have nj:∀{H:Hc},BM j (An H)=false→∀k o,DF H k=some o→k≠j:=fun {H} hm k o hk e=>by
  subst e
  have :k∈An H:=List.mem_map.2 ⟨_,Ht hk,rfl⟩
  rw[AN.2 this]at hm;cases hm
 have nmj:∀{H:Hc} {ks:List Nat},BM j (An H)=false→(∀k∈ks,BM k (An H)=true)→∀k∈ks,k≠j:=fun hm hks k hk e=>by
  subst e;rw[hks k hk]at hm;cases hm
 have lk1:∀(H:Hc) k o,k≠j→(DF ((j,.sl te [.int kk] xs)::H) k=some o↔DF H k=some o):=fun H k o hne=>by
  simp only[DF]
  rw[Bb (fun e=>hne e.symm)];rfl
 have lkj:∀(H:Hc),DF ((j,(.sl te [.int kk] xs:O))::H) j=some (.sl te [.int kk] xs):=fun H=>by simp [DF]
 obtain⟨v1,v,v2,rfl,s1,hNj,s2⟩:=Xe hv
 have hOj:=hS.os j _ (lkj H0)
 obtain⟨v',ls,n1,n2,n3,n4,n5,n6⟩:=hOj
 rw[hNj]at n1
 cases n1
 have hlt:∀b∈g.F j,b<w.heap.size:=OS.lt (hS.os j _ (lkj H0))
 let gf:G:=⟨fun k=>if k=j then none else g.N k,g.F,fun x=>g.X x∧x∉g.F j⟩
 have fN:∀k,k≠j→gf.N k=g.N k:=fun k hk=>if_neg hk
 have ft1:∀x,Con.foot ⟨a1++ .ls nn [.int kk] xs::a2,H0,res,H1⟩ gf x→∃k o,k≠j∧DF H0 k=some o∧x∈g.F k:=fun x ⟨k,o,hk,hx⟩=>⟨k,o,nj c4 k o hk,hk,hx⟩
 have ft:∀x,Con.foot ⟨a1++ .ls nn [.int kk] xs::a2,H0,res,H1⟩ gf x→Con.foot ⟨a1++ .sk j::a2,(j,.sl te [.int kk] xs)::H0,res,(j,.sl te [.int kk] xs)::H1⟩ g x:=fun x hx=>by
  obtain⟨k,o,h1,h2,h3⟩:=ft1 x hx
  exact⟨k,o,(lk1 H0 k o h1).2 h2,h3⟩
 have ftj:∀x,x∈g.F j→Con.foot ⟨a1++ .sk j::a2,(j,.sl te [.int kk] xs)::H0,res,(j,.sl te [.int kk] xs)::H1⟩ g x:=fun x hx=>⟨j,_,lkj H0,hx⟩
 have ftd:∀x,Con.foot ⟨a1++ .ls nn [.int kk] xs::a2,H0,res,H1⟩ gf x→x∉g.F j:=fun x hx hj=>by
  obtain⟨k,o,h1,h2,h3⟩:=ft1 x hx
  exact hS.dis k o j _ ((lk1 H0 k o h1).2 h2) (lkj H0) h1 x h3 hj
 have hSf:HS (DF H0) gf w:=by
  refine⟨fun x hx=>hS.wf x hx.1,fun k o hk=> ?_,fun k o hk b hb=> ?_,fun k o k' o' hk hk'=> ?_⟩
  ·have hne:=nj c4 k o hk
   have hc:=c3 (k,o) (Ht hk)
   simp only[Ec,Bool.and_eq_true,List.all_eq_true]at hc
   exact cB hc.1 (fun i hi=>fN i (nmj c4 hc.2 i hi)) (fN k hne) rfl (fun x hx=>hx.1) (hS.os k o ((lk1 H0 k o hne).2 hk))
  ·have hne:=nj c4 k o hk
   exact⟨hS.own k o ((lk1 H0 k o hne).2 hk) b hb,fun hj=>hS.dis k o j _ ((lk1 H0 k o hne).2 hk) (lkj H0) hne b hb hj⟩
  ·exact hS.dis k o k' o' ((lk1 H0 k o (nj c4 k o hk)).2 hk) ((lk1 H0 k' o' (nj c4 k' o' hk')).2 hk')
 have hNf:∀k u,gf.N k=some u→k∈An H0:=fun k u hk=>by
  by_cases e:k=j
  ·rw[e]at hk;simp [gf]at hk
  ·rw[fN k e]at hk
   have :=hN k u hk
   simp only[An,List.map_cons,List.mem_cons]at this
   exact this.resolve_left e
 have mvl:∀{ays:List D} {us:List Value},(∀d∈ays,D_ (An H0) d=true)→B4 g.X g.N w (chain ays) true us→B4 gf.X gf.N w (chain ays) true us:=by
  intro ays
  induction ays with
  |nil=>intro us _ h;exact h
  |cons d ays ih=>
   rintro us hc ⟨l1,l2,e,k1,k2⟩
   have hd:=hc d (List.mem_cons_self ..)
   simp only[D_,Bool.and_eq_true,List.all_eq_true]at hd
   exact⟨l1,l2,e,Pv hd.1 (fun i hi=>fN i (nmj c4 hd.2 i hi)) (fun x hx=>hx.1) k1,ih (fun e he=>hc e (List.mem_cons_of_mem _ he)) k2⟩
 have hls:B4 gf.X gf.N w (.ls nn [.int kk] xs) true [v]:=by
  refine⟨v,ls,rfl,⟨n4,by rw[Cs n5.row,n5.len],?_⟩,n5.mono fun _ _=>TA rfl⟩
  rcases n3.2 with⟨e1,h0⟩|⟨b,cap,cur,e1,k2,k3,k4,k5,k6,k7⟩
  ·cases nn with
   |true=>have h0:xs.length=0:=h0;have :=hnn rfl;omega
   |false=>exact .inl ⟨h0,.inl ⟨rfl,e1⟩⟩
  ·refine .inr ⟨b,0,cap,e1,k4,k5,fun hx=>hx.2 (by rw[n2,e1];simp [Cd]),hlt b (by rw[n2,e1];simp [Cd]),?_⟩
   rcases n3.at with⟨e2,_⟩|⟨b',cap',e2,_,h3⟩
   ·rw[e1]at e2;cases e2
   ·rw[e1]at e2;cases e2;exact h3
 have hv':B4 gf.X gf.N w (chain (a1++ .ls nn [.int kk] xs::a2)) true (v1++v::v2):=Dy (mvl c1 s1) ⟨[v],v2,rfl,hls,mvl c2 s2⟩
 refine(h.2 (v1++v::v2) gf w hSf hNf hv').mono fun e w' he=> ?_
 obtain⟨r,rfl,g',hp⟩:=he
 have fj:∀b∈g.F j,b<w.heap.size:=hlt
 let gg:G:=⟨fun k=>if k=j then g.N j else g'.N k,fun k=>if k=j then g.F j else g'.F k,fun x=>g'.X x∨x∈g.F j⟩
 have gN:∀k,k≠j→gg.N k=g'.N k:=fun k hk=>if_neg hk
 have gF:∀k,k≠j→gg.F k=g'.F k:=fun k hk=>if_neg hk
 have gNj:gg.N j=some v:=(if_pos rfl).trans hNj
 have gFj:gg.F j=g.F j:=if_pos rfl
 have chp:Chp (Con.foot ⟨a1++ .sk j::a2,(j,.sl te [.int kk] xs)::H0,res,(j,.sl te [.int kk] xs)::H1⟩ g) w w':=⟨hp.go.ch.os,hp.go.ch.tape,hp.go.ch.output,hp.go.ch.size,fun b hb hn=>hp.go.ch.blk b hb fun hh=>hn (ft b hh)⟩
 refine⟨r,rfl,gg,⟨⟨chp,fun x ⟨k,o,hk,hx⟩=>hS.own k o hk x hx,fun x hx=> ?_,fun x hx hn=> ?_,fun k u hk=> ?_,fun k u hk=> ?_⟩,?_,⟨fun x hx=> ?_,fun k o hk=> ?_,fun k o hk b hb=> ?_,fun k o k' o' hk hk' hne b hb hb'=> ?_⟩,fun k o hk b hb=> ?_⟩⟩
 ·rcases hx with hx|hx
  ·exact(hp.go.x x hx).imp (fun h=>h.1) id
  ·exact .inl (hS.own j _ (lkj H0) x hx)
 ·exact .inl (hp.go.k x ⟨hx,fun hj=>hn (ftj x hj)⟩ fun hh=>hn (ft x hh))
 ·by_cases e:k=j
  ·rw[e]at hk⊢;rw[gNj,←hNj];exact hk
  ·rw[gN k e];exact hp.go.n k u ((fN k e).trans hk)
 ·by_cases e:k=j
  ·rw[e,gFj]
  ·rw[gF k e];exact hp.go.f k u ((fN k e).trans hk)
 ·simp only[D_,Bool.and_eq_true,List.all_eq_true]at c7
  exact Uc c6 (fun i hi=>gN i (nmj c5 c7.2 i hi)) hp.r
 ·rcases hx with hx|hx
  ·exact hp.hs.wf x hx
  ·exact Nat.lt_of_lt_of_le (fj x hx) hp.go.ch.size
 ·by_cases e:k=j
  ·subst e
   rw[lkj]at hk
   cases hk
   exact⟨v,ls,gNj,gFj.trans n2,Own.mvp n3 hp.go.ch fun b hb hh=>ftd b hh (by rw[n2];exact hb),n4,n5.mono fun _ _=>TA rfl,n6⟩
  ·have hk:=(lk1 H1 k o e).1 hk
   have hc:=c8 (k,o) (Ht hk)
   simp only[Ec,Bool.and_eq_true,List.all_eq_true]at hc
   exact mP hc.1 (fun i hi=>gN i (nmj c5 hc.2.2 i hi)) (gN k e) (gF k e) (hp.hs.os k o hk)
 ·by_cases e:k=j
  ·subst e;rw[gFj]at hb;exact .inr hb
  ·rw[gF k e]at hb;exact .inl (hp.hs.own k o ((lk1 H1 k o e).1 hk) b hb)
 ·have key : ∀ k o b, k ≠ j → DF ((j, (.sl te [.int kk] xs : O)) :: H1) k = some o → b ∈ gg.F k → b ∈ g.F j → False := fun k o b e hk hb hj => by
   rw[gF k e]at hb
   rcases hp.fp k o ((lk1 H1 k o e).1 hk) b hb with h1|h1
   ·exact ftd b h1 hj
   ·have :=fj b hj;omega
  by_cases e:k=j
  ·subst e;rw[gFj]at hb;exact key k' o' b (fun x=>hne x.symm) hk' hb' hb
  ·by_cases e':k'=j
   ·subst e';rw[gFj]at hb';exact key k o b e hk hb hb'
   ·rw[gF k e]at hb;rw[gF k' e']at hb'
    exact hp.hs.dis k o k' o' ((lk1 H1 k o e).1 hk) ((lk1 H1 k' o' e').1 hk') hne b hb hb'
 ·by_cases e:k=j
  ·subst e;rw[gFj]at hb;exact .inl (ftj b hb)
  ·rw[gF k e]at hb;exact(hp.fp k o ((lk1 H1 k o e).1 hk) b hb).imp (ft b) id
end
end Go.Sx
namespace Go.Sx
open Go.Mi Go.RowKit
variable [Dfr]
section
variable {P:Program}
theorem v6 {A B:Hc} {k:Nat} {o:O} (h:DF A k=some o):DF (A++B) k=some o:=by
 induction A with
 |nil=>cases h
 |cons p A ih=>
  obtain⟨s,u⟩:=p
  simp only[List.cons_append,DF]at h⊢
  by_cases e:s=k
  ·subst e;simpa using h
  ·rw[Bb e]at h⊢;exact ih h
theorem mZ {A:Hc} {k:Nat} {o:O} (hk:BM k (An A)=false):DF (A++[(k,o)]) k=some o:=by
 induction A with
 |nil=>simp [DF]
 |cons p A ih=>
  obtain⟨s,u⟩:=p
  have hne:¬s=k:=fun e=>by
   subst e
   rw[AN.2 (by simp [An])]at hk;cases hk
  simp only[List.cons_append,DF]
  rw[Bb hne]
  refine ih ?_
  cases hm:BM k (An A)with
  |false=>rfl
  |true=>
   rw[AN.2 (by simp only[An,List.map_cons,List.mem_cons];exact .inr (AN.1 hm))]at hk
   cases hk
theorem ConOk.frz {f:FuncId} {ays:List D} {H0:Hc} (H1:Hc) (k te:Nat) (e:List Fk) (xs:List (RT e)) (h:ConOk P f ⟨ays,H0,.sk k,H1++[(k,.sl te e xs)]⟩) (hk:(!(BM k (An H1))&&H1.all fun p=>Ec (An H1) p.2)=true):ConOk P f ⟨ays,H0,.ls false e xs,H1⟩:=by
 refine⟨h.1,fun vs g w hS hN hv=>(h.2 vs g w hS hN hv).mono fun r w' he=> ?_⟩
 simp only[Bool.and_eq_true,List.all_eq_true,Bool.not_eq_true']at hk
 obtain⟨c1,c2⟩:=hk
 obtain⟨v,rfl,g',hp⟩:=he
 have hl:=mZ (A:=H1) (o:= .sl te e xs) c1
 have up:∀j o,DF H1 j=some o→DF (H1++[(k,.sl te e xs)]) j=some o:=fun j o hj=>v6 hj
 have ne:∀j o,DF H1 j=some o→j≠k:=fun j o hj e=>by
  subst e
  have hm:j∈An H1:=List.mem_map.2 ⟨_,Ht hj,rfl⟩
  rw[AN.2 hm]at c1;cases c1
 let gg:G:=⟨g'.N,g'.F,fun x=>g'.X x∧x∉g'.F k⟩
 obtain⟨u,ls,n1,n2,n3,n4,n5,n6⟩:=hp.hs.os k _ hl
 have gs:Zk g'.X g'.N w' (fun _=>False) gg.X gg.N w':=⟨Chp.refl _ _,fun _ h=>h.elim,fun x h=> .inl h.1,fun _ _ h=>h⟩
 have hr:v=u:=by
  obtain⟨u',h1,h2,_⟩:=hp.r
  rw[n1]at h1
  cases h1
  exact(List.cons.inj h2).1
 refine⟨v,rfl,gg,⟨hp.go.ch,hp.go.s,fun x hx=>hp.go.x x hx.1,fun x hx hn=>⟨hp.go.k x hx hn,fun hk=> ?_⟩,hp.go.n,hp.go.f⟩,?_,⟨fun x hx=>hp.hs.wf x hx.1,fun j o hj=> ?_,fun j o hj b hb=>⟨hp.hs.own j o (up j o hj) b hb,fun hk=>hp.hs.dis j o k _ (up j o hj) hl (ne j o hj) b hb hk⟩,fun j o j' o' hj hj'=>hp.hs.dis j o j' o' (up j o hj) (up j' o' hj')⟩,fun j o hj=>hp.fp j o (up j o hj)⟩
 ·rcases hp.fp k _ hl x hk with h1|h1
  ·exact hn h1
  ·have :=hS.wf x hx;omega
 ·subst hr
  refine⟨v,ls,rfl,⟨n4,by rw[Cs n5.row,n5.len],?_⟩,n5.mono (ET gs _)⟩
  rcases n3.2 with⟨e1,h0⟩|⟨b,cap,cur,e1,k2,k3,k4,k5,k6,k7⟩
  ·exact .inl ⟨h0,.inl ⟨rfl,e1⟩⟩
  ·refine .inr ⟨b,0,cap,e1,k4,k5,fun hx=>hx.2 (by rw[n2,e1];simp [Cd]),OS.lt (hp.hs.os k _ hl) b (by rw[n2,e1];simp [Cd]),?_⟩
   rcases n3.at with⟨e2,_⟩|⟨b',cap',e2,_,h3⟩
   ·rw[e1]at e2;cases e2
   ·rw[e1]at e2;cases e2;exact h3
 ·have hc:=c2 (j,o) (Ht hj)
  simp only[Ec,Bool.and_eq_true,List.all_eq_true]at hc
  exact cB (g:=g') (g':=gg) hc.1 (fun _ _=>rfl) rfl rfl (fun x hx=>hx.1) (hp.hs.os j o (up j o hj))
end
end Go.Sx
namespace Go.Sx
open Go.Mi Go.RowKit
variable [Dfr]
end Go.Sx
namespace Go.Sx
open Go.Mi Go.RowKit
variable [Dfr]
section
variable {P:Program} {g:G} {w:World} {H:Hp}
def tG (T:List Value→World→(Value→World→Prop)→Prop) (c:Con):Prop:=
 ∀vs g w,HS (DF c.H0) g w→(∀k v,g.N k=some v→k∈An c.H0)→B4 g.X g.N w (chain c.args) true vs→T vs w fun v w'=>∃g',C6 c g w v g' w'
theorem YV {T : List Value → World → (Value → World → Prop) → Prop} (hmono : ∀ {vs : List Value} {w : World} {R R' : Value → World → Prop}, T vs w R → (∀ v w', R v w' → R' v w') → T vs w R') {q : CR} (hq : CRok q) (hc : tG T q.c) (hH0 : Ri H q.r q.c.H0) (hS : HS (BF (q.eff.rd ++ An q.eff.wr) (AS H)) g w) (hnew : ∀ p ∈ q.eff.nw, g.N p.1 = none) {vs : List Value} (hv : B4 g.X g.N w (chain (q.c.args.map (D.ren q.r))) true vs) :
  T vs w (fun v w'=>∃g',Post (AS H) q.eff g w v g' w'):=by
 have hr1:∀k∈An q.ρ,q.r k=rn q.ρ k:=fun k hk=>by simp only[CR.r,TG,hk,if_true]
 have hr2:∀k∈An q.σ,q.r k=rn q.σ k:=fun k hk=>by simp only[CR.r,TG,(hq.new k hk).2,if_false]
 have nd1:(An q.ρ).Nodup:=by
  have :=hq.nod
  simp only[An,List.map_append]at this
  exact(List.nodup_append.1 this).1
 have nd2:(An q.σ).Nodup:=by
  have :=hq.nod
  simp only[An,List.map_append]at this
  exact(List.nodup_append.1 this).2.1
 have hinj:∀i∈An q.ρ,∀j∈An q.ρ,q.r i=q.r j→i=j:=fun i hi j hj e=>by
  have h1:=Gu hq.inj (Et nd1 hi)
  have h2:=Gu hq.inj (Et nd1 hj)
  rw[←hr1 i hi,e,hr1 j hj,h2]at h1
  exact(Option.some.inj h1).symm
 have hwk:∀k∈An q.ρ,q.r k∈An q.eff.wr:=fun k hk=>by
  simp only[CR.eff,An,List.map_map]
  exact List.mem_map.2 ⟨_,Et nd1 hk,(hr1 k hk).symm⟩
 have hkw:∀k∈An q.eff.wr,∃j∈An q.ρ,k=q.r j:=fun k hk=>by
  simp only[CR.eff,An,List.map_map]at hk
  obtain⟨p,hp,rfl⟩:=List.mem_map.1 hk
  have h1:p.1∈An q.ρ:=List.mem_map.2 ⟨p,hp,rfl⟩
  exact⟨p.1,h1,by rw[hr1 _ h1,PD nd1 hp];rfl⟩
 have obj:∀k o,DF q.c.H0 k=some o→AS H (q.r k)=some (o.ren q.r)∧BF (q.eff.rd++An q.eff.wr) (AS H) (q.r k)=some (o.ren q.r):=fun k o ho=>by
  have h1:=MU hH0 ho
  exact⟨h1,by simp only[BF,AN.2 (List.mem_append_right q.eff.rd (hwk k (hq.h0 k o ho).1)),h1,cond_true]⟩
 have hsome:∀k∈An q.ρ,∃v,g.N (q.r k)=some v:=fun k hk=>by
  have :=FE.1 (hq.dom k hk)
  obtain⟨o,ho⟩:=Option.ne_none_iff_exists'.1 this
  have h1:=hS.os _ _ (obj k o ho).2
  cases o with
  |ob ty ds=>obtain⟨b,c,k1,_⟩:=h1;exact⟨_,k1⟩
  |sl ty e xs=>obtain⟨b,c,k1,_⟩:=h1;exact⟨_,k1⟩
 -- what the callee sees
 let gc:G:=⟨fun k=>if k∈An q.ρ then g.N (q.r k)else none,fun k=>g.F (q.r k),g.X⟩
 have gcN:∀k∈An q.ρ,gc.N k=g.N (q.r k):=fun k hk=>if_pos hk
 have hSc:HS (DF q.c.H0) gc w:=by
  refine⟨hS.wf,fun k o ho=> ?_,fun k o ho b hb=> ?_,fun k o k' o' ho ho' hne b hb hb'=> ?_⟩
  ·obtain⟨h1,h2,h3⟩:=hq.h0 k o ho
   exact(Jm h2 (fun j hj=>gcN j (h3 j hj)) (gcN k h1) rfl rfl).1 (hS.os _ _ (obj k o ho).2)
  ·exact hS.own _ _ (obj k o ho).2 b hb
  ·exact hS.dis _ _ _ _ (obj k o ho).2 (obj k' o' ho').2 (fun e=>hne (hinj k (hq.h0 k o ho).1 k' (hq.h0 k' o' ho').1 e)) b hb hb'
 have hvc:B4 gc.X gc.N w (chain q.c.args) true vs:=by
  rw[Nt]at hv
  refine(Fu _ _ _ (Jh fun d hd=>(hq.args d hd).1) fun k hk=> ?_).1 hv
  obtain⟨d,hd,hk⟩:=QZ hk
  exact gcN k ((hq.args d hd).2 k hk)
 refine hmono (hc vs gc w hSc (fun k v hk=> ?_) hvc) fun v w' ⟨g',hp⟩=> ?_
 ·by_cases h:k∈An q.ρ
  ·exact hq.dom k h
  ·rw[show gc.N k=none from if_neg h]at hk;cases hk
 -- behind it
 have hnone:∀k∈An q.σ,g.N (q.r k)=none:=fun k hk=>by
  obtain⟨o,ho⟩:=Option.ne_none_iff_exists'.1 (FE.1 (hq.new k hk).1)
  refine hnew (q.r k,o.ren q.r) ?_
  simp only[CR.eff,List.mem_filterMap]
  exact⟨_,Et nd2 hk,by rw[ho,Option.map_some,hr2 k hk]⟩
 let G':G:=⟨fun k=>match g.N k with
  |some v=>some v
  |none=>(tM q.σ k).bind g'.N,fun k=>match g.N k with
  |some _=>g.F k
  |none=>match tM q.σ k with
   |some j=>g'.F j
   |none=>g.F k,g'.X⟩
 have GN:∀k∈An (q.ρ++q.σ),g'.N k=G'.N (q.r k):=fun k hk=>by
  simp only[An,List.map_append,List.mem_append]at hk
  rcases hk with hk|hk
  ·obtain⟨v,hv⟩:=hsome k hk
   have h1:gc.N k=some v:=(gcN k hk).trans hv
   rw[hp.go.n k v h1]
   simp only[G',hv]
  ·simp only[G',hnone k hk]
   rw[hr2 k hk,Gu hq.inj2 (Et nd2 hk)]
   rfl
 have GF:∀k∈An (q.ρ++q.σ),g'.F k=G'.F (q.r k):=fun k hk=>by
  simp only[An,List.map_append,List.mem_append]at hk
  rcases hk with hk|hk
  ·obtain⟨v,hv⟩:=hsome k hk
   have h1:gc.N k=some v:=(gcN k hk).trans hv
   rw[hp.go.f k v h1]
   simp only[G',hv]
   rfl
  ·simp only[G',hnone k hk]
   rw[hr2 k hk,Gu hq.inj2 (Et nd2 hk)]
 have hft:∀b,q.c.foot gc b→q.eff.foot (AS H) g b:=fun b ⟨k,o,h1,h2⟩=>⟨q.r k,hwk k (hq.h0 k o h1).1,_,(obj k o h1).1,h2⟩
 have hft2:∀b,q.eff.foot (AS H) g b→q.c.foot gc b:=fun b ⟨k,h1,o,h2,h3⟩=>by
  obtain⟨j,hj,rfl⟩:=hkw k h1
  obtain⟨o',ho'⟩:=Option.ne_none_iff_exists'.1 (FE.1 (hq.dom j hj))
  exact⟨j,o',ho',h3⟩
 have houts:∀k o,AS q.eff.outs k=some o→∃j o',j∈An (q.ρ++q.σ)∧k=q.r j∧DF q.c.H1 j=some o'∧o=o'.ren q.r:=by
  intro k o h
  have h:=BD.1 h
  rw[Eff.outs,JD]at h
  cases hw:Es q.eff.wr k with
  |some x=>
   rw[hw]at h
   cases h
   have :∀(a:Ny),(∀p∈a,p∈q.ρ)→Es (a.map fun p=>(p.2,(DF q.c.H1 p.1).map (O.ren q.r))) k=some (some o)→∃p∈q.ρ,p.2=k∧(DF q.c.H1 p.1).map (O.ren q.r)=some o:=by
    intro a
    induction a with
    |nil=>intro _ h;cases h
    |cons p a ih=>
     intro hm h
     simp only[List.map_cons,Es]at h
     by_cases e:p.2=k
     ·have hb:Nat.beq p.2 k=true:=by rw[e];exact Nat.beq_refl k
      rw[hb]at h
      simp only[cond_true,Option.some.injEq]at h
      exact⟨p,hm p (List.mem_cons_self ..),e,h⟩
     ·rw[Bb e]at h;exact ih (fun p hp=>hm p (List.mem_cons_of_mem _ hp)) h
   obtain⟨p,hp1,hp2,hp3⟩:=this q.ρ (fun _ h=>h) hw
   obtain⟨o',h1,h2⟩:=Option.map_eq_some_iff.1 hp3
   have h3:p.1∈An q.ρ:=List.mem_map.2 ⟨p,hp1,rfl⟩
   exact⟨p.1,o',by simp only[An,List.map_append,List.mem_append];exact .inl h3,by rw[hr1 _ h3,PD nd1 hp1,hp2],h1,h2.symm⟩
  |none=>
   rw[hw]at h
   have :∀(a:List (Nat×O)),Es (a.map fun p=>(p.1,some p.2)) k=some (some o)→(k,o)∈a:=by
    intro a
    induction a with
    |nil=>intro h;cases h
    |cons p a ih=>
     intro h
     obtain⟨s,u⟩:=p
     simp only[List.map_cons,Es]at h
     by_cases e:s=k
     ·subst e;simp at h;subst h;simp
     ·rw[Bb e]at h;exact List.mem_cons_of_mem _ (ih h)
   have hm:=this _ h
   simp only[CR.eff,List.mem_filterMap]at hm
   obtain⟨p,hp1,hp2⟩:=hm
   obtain⟨o',h1,h2⟩:=Option.map_eq_some_iff.1 hp2
   cases h2
   have h3:p.1∈An q.σ:=List.mem_map.2 ⟨p,hp1,rfl⟩
   exact⟨p.1,o',by simp only[An,List.map_append,List.mem_append];exact .inr h3,by rw[hr2 _ h3,PD nd2 hp1],h1,rfl⟩
 refine⟨G',⟨⟨⟨hp.go.ch.os,hp.go.ch.tape,hp.go.ch.output,hp.go.ch.size,fun b hb hn=>hp.go.ch.blk b hb fun h=>hn (hft b h)⟩,fun x hx=>hp.go.s x (hft2 x hx),hp.go.x,fun x hx hn=>hp.go.k x hx fun h=>hn (hft x h),fun k u hk=>by simp only[G',hk],fun k u hk=>by simp only[G',hk]⟩,?_,⟨hp.hs.wf,fun k o h=> ?_,fun k o h b hb=> ?_,fun k o k' o' h h' hne b hb hb'=> ?_⟩,fun k o h b hb=> ?_,fun k u hk=> ?_⟩⟩
 ·exact(Fu q.c.res _ _ hq.res.1 fun k hk=>GN k (hq.res.2 k hk)).2 hp.r
 ·obtain⟨j,o',h1,rfl,h2,rfl⟩:=houts k o h
  obtain⟨h3,h4,h5⟩:=hq.h1 j o' h2
  exact(Jm h4 (fun i hi=>GN i (h5 i hi)) (GN j h3) (GF j h3) rfl).2 (hp.hs.os j o' h2)
 ·obtain⟨j,o',h1,rfl,h2,rfl⟩:=houts k o h
  rw[←GF j h1]at hb
  exact hp.hs.own j o' h2 b hb
 ·obtain⟨j,o2,h1,rfl,h2,rfl⟩:=houts k o h
  obtain⟨j',o2',h1',rfl,h2',rfl⟩:=houts k' o' h'
  rw[←GF j h1]at hb
  rw[←GF j' h1']at hb'
  exact hp.hs.dis j o2 j' o2' h2 h2' (fun e=>hne (by rw[e])) b hb hb'
 ·obtain⟨j,o',h1,rfl,h2,rfl⟩:=houts k o h
  rw[←GF j h1]at hb
  exact(hp.fp j o' h2 b hb).imp (hft b) id
 ·simp only[G']at hk
  cases hg:g.N k with
  |some v=>rw[hg]at hk;simp only at hk;exact .inl hk
  |none=>
   rw[hg]at hk
   simp only at hk
   obtain⟨j,hj,_⟩:=Option.bind_eq_some_iff.1 hk
   have hm:=Uq hj
   have h3:j∈An q.σ:=List.mem_map.2 ⟨_,hm,rfl⟩
   obtain⟨o,ho⟩:=Option.ne_none_iff_exists'.1 (FE.1 (hq.new j h3).1)
   refine .inr (List.mem_map.2 ⟨(k,o.ren q.r),?_,rfl⟩)
   simp only[CR.eff,List.mem_filterMap]
   exact⟨_,hm,by rw[ho];rfl⟩
def RetD (P:Program) (f:FuncId) (u u':FrameMode) (vs:List Value) (w:World) (R:Value→World→Prop):Prop:=CallsD P f vs.toArray u w fun e x w'=>∃v,e= .returned v∧x=u'∧R v w'
theorem RetD.mono {f:FuncId} {u u':FrameMode} {vs:List Value} {w:World} {R R':Value→World→Prop} (h:RetD P f u u' vs w R) (hr:∀v w',R v w'→R' v w'):RetD P f u u' vs w R':=
 CallsD.mono h fun _ _ w' ⟨v,h1,h2,h3⟩=>⟨v,h1,h2,hr v w' h3⟩
def Rj (P:Program) (f:FuncId) (u u':FrameMode) (c:Con):Prop:=Go.Mi.Callee P f∧tG (RetD P f u u') c
def pnd (v:Value):FrameMode:= .panicking [{v,recovered:=false}]
def rcd (v:Value):FrameMode:= .panicking [{v,recovered:=true}]
def rcv:FrameMode→Option (Value×FrameMode)
 | .returning=>some (.nilIface,.returning)
 | .panicking [⟨v,false,false⟩]=>some (v,rcd v)
 |_=>none
theorem AbB {u u' : FrameMode} {x : Value} (h : rcv u = some (x, u')) {c₀ : Frame} {cs : List Frame} (hu : c₀.mode = u) :
  (recoverD (c₀::cs)=none∧x= .nilIface∧u'=u)∨recoverD (c₀::cs)=some (x,{c₀ with mode:=u'}::cs):=by
 unfold rcv at h
 split at h
 ·cases h
  exact .inl ⟨by simp [recoverD,hu],rfl,rfl⟩
 ·cases h
  exact .inr (by simp [recoverD,hu,rcd])
 ·cases h
theorem UL (hD : Dfr.ds = ([] : List Deferred)) {f : FuncId} {fn : Func} {rest : Code} {c : Con} {n nb id t0 t1 : Nat} {u u' : FrameMode} {x : Value} {ty ty' : TypeId} {ps ps' : String} {af af' : Array Edge} (hf : P.funcs[f]? = some fn) (hname : (fn.name == "runtime.NumGoroutine") = false)
  (hb:fn.body=some (.seq (.region id #[⟨some t0,.call ⟨.builtin .recover,#[],#[]⟩,ty,ps,af,none⟩,⟨some t1,.assign (.tmp t0),ty',ps',af',none⟩] false) rest)) (hn:fn.ntmps=n) (hl:Nat.ble c.args.length t1=true) (ht:Nat.blt t1 t0=true) (ht2:Nat.blt t0 n=true) (hone:c.args.all D.one=true) (hk:(An c.H0).all (Nat.blt · nb)=true) (hr:rcv u=some (x,u'))
  (h:∀(g0:G) (w0:World) (a:Act) (g:G) (w:World),(∀k v,g0.N k=some v→k∈An c.H0)→St n (c.foot g0) g0 w0 ((t1,.v x)::La c.args 0) (FZ c.H0) nb a g w→rest.wp P (bodyPost P fn (Rh fun v w'=>∃g',C6 c g0 w0 v g' w')) a w):Rj P f u u' c:=by
 refine⟨⟨fn,hf,hname,by rw[hb];rfl⟩,fun vs g w hS hN hv=> ?_⟩
 have hlen:∀{ds:List D} {vs:List Value},(∀d∈ds,d.one=true)→B4 g.X g.N w (chain ds) true vs→vs.length=ds.length:=by
  intro ds
  induction ds with
  |nil=>intro vs _ h;have :vs=[]:=h;subst this;rfl
  |cons d ds ih=>
   rintro vs ho ⟨l1,l2,rfl,h1,h2⟩
   obtain⟨v,rfl⟩:=FU h1 (ho d (List.mem_cons_self ..))
   simp [ih (fun e he=>ho e (List.mem_cons_of_mem _ he)) h2]
 have ho:=List.all_eq_true.1 hone
 have hvl:=hlen ho hv
 have hl:=Nat.le_of_ble_eq_true hl
 rw[Nat.blt_eq]at ht ht2
 let a0:Act:={tmps:=vs.toArray++Array.replicate (fn.ntmps-vs.toArray.size) undef,defers:=[]}
 have hF0:Frm a0 n (vs.zipIdx.map fun p=>(p.2,p.1)):=by subst hn;exact Frm.enter hD (by omega)
 -- the first two
 let a1:Act:=(a0.put (some t0) x).put (some t1) x
 have get1:∀t,a1.tmps.getD t undef=if t=t1 then x else if t=t0 then x else a0.tmps.getD t undef:=fun t=>by
  have hs:=hF0.size
  by_cases e1:t=t1
  ·subst e1;simp [a1,Act.put,hs,show t<n by omega]
  ·rw[if_neg e1]
   have :a1.tmps.getD t undef=(a0.put (some t0) x).tmps.getD t undef:=by
    simp [a1,Act.put,Array.getElem?_setIfInBounds_ne (fun e=>e1 e.symm:t1≠t)]
   rw[this]
   by_cases e0:t=t0
   ·subst e0;simp [Act.put,hs,ht2]
   ·rw[if_neg e0];simp [Act.put,Array.getElem?_setIfInBounds_ne (fun e=>e0 e.symm:t0≠t)]
 have hSt:St n (c.foot g) g w ((t1,.v x)::La c.args 0) (FZ c.H0) nb a1 g w:=by
  refine⟨by simp [a1,Act.put,hF0.size],by simp [a1,Act.put,a0,hD],fun t d ht'=> ?_,?_,Go.refl _ _ _ fun x ⟨k,o,h1,h2⟩=>hS.own k o h1 x h2,hS.wf,fun k o hk b hb=> .inl ⟨k,o,by rw[←FY];exact hk,hb⟩,fun k v hkv=> ?_⟩
  ·simp only[Do]at ht'
   by_cases e:t1=t
   ·subst e
    simp at ht'
    subst ht'
    show[_]=[x]
    rw[get1,if_pos rfl]
   ·rw[Bb e]at ht'
    have key:∀(ds:List D) (us:List Value) (i:Nat),(∀d∈ds,d.one=true)→B4 g.X g.N w (chain ds) true us→(∀s v,lk ((us.zipIdx i).map fun p=>(p.2,p.1)) s=some v→a0.tmps.getD s undef=v)→Do (La ds i) t=some d→Sm g w d (a0.tmps.getD t undef)∧t<i+ds.length:=by
     intro ds
     induction ds with
     |nil=>intro us i _ _ _ ht;cases ht
     |cons e ds ih=>
      rintro us i ho ⟨l1,l2,rfl,h1,h2⟩ hg ht
      obtain⟨v,rfl⟩:=FU h1 (ho e (List.mem_cons_self ..))
      simp only[La,Do]at ht
      by_cases e':i=t
      ·subst e'
       simp at ht
       subst ht
       have :=hg i v (by simp [lk])
       rw[this]
       exact⟨h1,by simp⟩
      ·rw[Bb e']at ht
       have hg':∀s v,lk ((l2.zipIdx (i+1)).map fun p=>(p.2,p.1)) s=some v→a0.tmps.getD s undef=v:=by
        intro s v hs
        refine hg s v ?_
        simp only[List.singleton_append,List.zipIdx_cons,List.map_cons,lk]
        have hne:¬i=s:=fun es=>by
         subst es
         have :∀(us:List Value) (j:Nat),i<j→lk ((us.zipIdx j).map fun p=>(p.2,p.1)) i=none:=by
          intro us
          induction us with
          |nil=>intro j _;rfl
          |cons u us ih2=>
           intro j hj
           simp only[List.zipIdx_cons,List.map_cons,lk]
           rw[Bb (show¬j=i by omega)]
           exact ih2 (j+1) (by omega)
         rw[this l2 (i+1) (by omega)]at hs
         cases hs
        rw[Bb hne]
        exact hs
       obtain⟨q1,q2⟩:=ih l2 (i+1) (fun q hq=>ho q (List.mem_cons_of_mem _ hq)) h2 hg' ht
       exact⟨q1,by simp only[List.length_cons];omega⟩
    obtain⟨q1,q2⟩:=key c.args vs 0 ho hv hF0.get ht'
    rw[get1,if_neg (fun e'=>e e'.symm),if_neg (by omega)]
    exact q1
  ·exact hS.sub fun k o hk=>by rw[←FY];exact hk
  ·have :=List.all_eq_true.1 hk k (hN k v hkv)
   simpa[Nat.blt_eq]using this
 have hrest:=h g w a1 g w hN hSt
 refine callsD_of_wpS hf hb fun c₀ cs hu=> ?_
 refine wpS_seq (wpS_region ?_)
 have hfin:∀cs',cs'={c₀ with mode:=u'}::cs→rest.wpS P (bodyPostS P fn c₀ cs fun e x w'=>∃v,e= .returned v∧x=u'∧∃g',C6 c g w v g' w') a1 cs' w:=fun cs' hcs=>by
  subst hcs
  intro b k hb' hro
  obtain⟨e,a',w',hq,harr⟩:=hrest b k ({c₀ with mode:=u'}::cs)
  refine⟨e,a',{c₀ with mode:=u'}::cs,w',?_,harr⟩
  cases e with
  |normal=>obtain⟨h1,v,h2,v2,h3,h4⟩:=hq;cases h3;exact⟨h1,u',rfl,v,h2,v,rfl,rfl,h4⟩
  |ret=>obtain⟨h1,v,h2,v2,h3,h4⟩:=hq;cases h3;exact⟨h1,u',rfl,v,h2,v,rfl,rfl,h4⟩
  |panic chain=>obtain⟨h1,v2,h3,_⟩:=hq;cases h3
  |exit id=>exact hq.elim
  |goto l=>exact hq.elim
  |outgrown=>obtain⟨v2,h3,_⟩:=hq;cases h3
 have hg0':(a0.put (some t0) x).eval (.tmp t0)=x:=by
  show(a0.put (some t0) x).tmps.getD t0 undef=x
  simp [Act.put,hF0.size,ht2]
 have hcm:({c₀ with mode:=u}:Frame)=c₀:=by subst hu;rfl
 have hx:=AbB hr (cs:=cs) hu
 have hstep:wpOpsS P #[⟨some t0,.call ⟨.builtin .recover,#[],#[]⟩,ty,ps,af,none⟩,⟨some t1,.assign (.tmp t0),ty',ps',af',none⟩] (Exit.thenS (rest.wpS P (bodyPostS P fn c₀ cs fun e x w'=>∃v,e= .returned v∧x=u'∧∃g',C6 c g w v g' w')) (bodyPostS P fn c₀ cs fun e x w'=>∃v,e= .returned v∧x=u'∧∃g',C6 c g w v g' w')) [0,1] a0 (c₀::cs) w:=by
  rcases hx with⟨h1,h2,h3⟩|h1
  ·subst h2
   simp only[wpOpsS,Region.wanted,execOp,resolve,invoke,builtin,List.getElem?_toArray,List.getElem?_cons_zero,List.getElem?_cons_succ,Sem.run_bind,Sem.run_pure,Result.andThen_ok,h1,hg0',Oper.upon,if_true,Array.map_empty]
   exact hfin _ (by rw[h3,hcm])
  ·simp only[wpOpsS,Region.wanted,execOp,resolve,invoke,builtin,List.getElem?_toArray,List.getElem?_cons_zero,List.getElem?_cons_succ,Sem.run_bind,Sem.run_pure,Result.andThen_ok,h1,hg0',Oper.upon,if_true,Array.map_empty]
   exact hfin _ rfl
 exact hstep
end
end Go.Sx
