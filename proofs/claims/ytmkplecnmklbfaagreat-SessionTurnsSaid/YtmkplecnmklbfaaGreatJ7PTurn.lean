/- General lemmas, walks. -/
import Derived.Test.YtmkplecnmklbfaaGreatJ6PTurn
set_option maxRecDepth 100000
set_option maxHeartbeats 1000000
set_option linter.unusedSimpArgs false
set_option linter.unusedVariables false
set_option linter.unnecessarySimpa false
set_option linter.unusedSectionVars false
namespace Go.Sx.Tryz
open Go.Mi Go.RowKit Go.Sx Go.Proofs
noncomputable section
def RB (x0 x1:Nat) (x2 x3:Nat):O:= .ob 187 (chain [vi ((x0:Nat):Int),vi ((x1:Nat):Int),vi ((x2:Nat):Int),.sk x3])
def wB (n lo hi:Int):Bool:=decide (lo≤n∧n≤hi)
theorem O1 {n lo hi:Int} (h:lo≤n∧n≤hi):wB n lo hi=true:=decide_eq_true h
section
variable (n lo hi:Int)
def OX:Bool:=if lo≤n then decide (n≤hi)else false
def OY:Bool:=AJ (OX n lo hi)
theorem OZ:OY n lo hi=OX n lo hi:=Af _
end
theorem Vj (n lo hi:Int):OY n lo hi=wB n lo hi:=by
 rw[OZ];unfold OX wB
 by_cases h:lo≤n
 ·rw[if_pos h];simp only[h,true_and]
 ·rw[if_neg h];simp only[h,false_and];rfl
section
variable (n lo hi:Int)
def Q3 (z_:Bool:=OY n lo hi):Con:=⟨[vi n,vi lo,vi hi],[],.v (.bool z_),[]⟩
theorem RE:ConOk Tryz.prog 116 (Q3 n lo hi):=by
 refine cy 0 Tryz.func116 rfl Tryz.ntmps116 fun hg0 hS=>Ae [] 0 hS fun hS=>Au ?_
 by_cases h1:lo≤n
 ·exact Av [(2,Iw h1)] [] 0 hS fun hS=>D6 (Bh (.trans (OZ ..) (if_pos h1)) hS)
 ·exact Av [(2,Ez h1)] [] 0 hS fun hS=>D6 (Bh (.trans (OZ ..) (if_neg h1)) hS)
def xZ:Con:=⟨[vi n,vi lo,vi hi],[],.v (.bool true),[]⟩
theorem CO (hs:wB n lo hi=true):ConOk Tryz.prog 116 (xZ n lo hi):=by
 have h:=RE n lo hi
 unfold Q3 at h
 rw[Vj,hs]at h
 exact h
def yA:Con:=⟨[vi n,vi lo,vi hi],[],.v (.bool false),[]⟩
theorem OW (hs:wB n lo hi=false):ConOk Tryz.prog 116 (yA n lo hi):=by
 have h:=RE n lo hi
 unfold Q3 at h
 rw[Vj,hs]at h
 exact h
end
section
variable (id ct:Nat) (sz ln:Nat)
def Adt:Con:=⟨[vi (id:Int),vi (ct:Int),vi (sz:Int),vi (ln:Int)],[],.tu (chain [.cp 0 0,vi 0]),[(0,RB id sz ln 1),(1,.sl 22 [.os (.int .u8)] (List.replicate ct none))]⟩
theorem MG (hb:id≤1073741824∧1≤ct∧ct≤10000∧1≤sz∧sz≤10000∧1≤ln∧ln≤10000) (hc:ct=(ln+sz-1)/sz):ConOk Tryz.prog 146 (Adt id ct sz ln):=by
 refine cy 0 Tryz.func146 rfl Tryz.ntmps146 fun hg0 hS=> ?_
 have w1:wB (id:Int) 0 1073741824=true:=(O1 ⟨by omega,by omega⟩)
 have w2:wB (ct:Int) 1 10000=true:=(O1 ⟨by omega,by omega⟩)
 have w3:wB (sz:Int) 1 10000=true:=(O1 ⟨by omega,by omega⟩)
 have w4:wB (ln:Int) 1 10000=true:=(O1 ⟨by omega,by omega⟩)
 have w5:(ct:Int)=((((ln+sz)-1)/sz:Nat):Int):=(by rw[←hc])
 refine EO [] 0 hS fun hS=>Au (G5 [(1,AR (CO (id:Int) 0 1073741824 w1)),(5,AR (CO (ct:Int) 1 10000 w2)),(10,AR (CO (sz:Int) 1 10000 w3)),(15,AR (CO (ln:Int) 1 10000 w4)),(22,DI ln sz (ln+sz)),(23,GD (ln+sz) 1 ((ln+sz)-1)),(25,Td ((ln+sz)-1) sz),(26,Ik w5)] [] 0 hS fun hS=>Ai hS (B5 (G5 [(4,g8 ct 24)] [] 2 hS fun hS=>AU ?_)))
 obtain⟨gs,hS⟩:=hS.rx [(0,1),(1,0)] [8,9] [0,1] 2 hg0
 exact Ci hS
end
section
variable (xs:List Int) (sz:Nat)
def sF:Con:=⟨[lb xs,vi (sz:Int)],[],.fn 157 (chain []) (chain [.im (chain [lb xs]) 0,.im (chain [vi (sz:Int)]) 0]),[]⟩
theorem eY (hz:1≤sz∧sz≤1000000):ConOk Tryz.prog 117 (sF xs sz):=by
 refine cy 0 Tryz.func117 rfl Tryz.ntmps117 fun hg0 hS=> ?_
 have A6:xs.length≤9223372036854775807:=hS.len 0 rfl
 have w1:¬(sz:Int)<1:=Ac
 refine Ae [] 2 hS fun hS=>Au (Ay [(1,Ez w1)] [] 2 hS fun hS=>Ai hS (B5 (Ae [] 2 hS fun hS=>AU ?_)))
 obtain⟨gs,hS⟩:=hS.im 0
 obtain⟨gs,hS⟩:=hS.im 1
 exact Ci hS
end
abbrev PcR:=Int×Int×Int×List Int
section
variable (id:Nat) (xs:List Int) (sz:Nat) (pre:List Nat)
def Oj:List PcR:=pre.mapIdx fun j z=>((id:Int),((j:Nat):Int),(0:Int),(xs.drop (z*sz)).take sz)
theorem LR:(Oj id xs sz pre).length=pre.length:=List.length_mapIdx
theorem vF (z:Nat):Oj id xs sz (pre++[z])=Oj id xs sz pre++[((id:Int),(((Oj id xs sz pre).length:Nat):Int),(0:Int),(xs.drop (z*sz)).take sz)]:=by
 rw[LR];unfold Oj;rw[List.mapIdx_append];simp
end
theorem UP {len sz:Nat} (h:1≤sz) (k:Nat):k<(len+sz-1)/sz↔k*sz<len:=by
 rw[Nat.lt_div_iff_mul_lt Ac];omega
theorem YQ {len sz:Nat} (h:1≤sz):(len+sz-1)/sz≤len:=by
 rcases Nat.lt_or_ge len ((len+sz-1)/sz)with h1|h1
 ·have h2:=(UP h len).1 h1
  have h3:=Nat.le_mul_of_pos_right len h
  omega
 ·exact h1
def Pl (x39:Nat):(List (Int×Int×Int×(List Int)))→(List (Int×Int×Int×(List Int))):=fun o1=>o1.set x39 (((o1.getD x39 (rz [.int .i64,.int .i64,.int .i64,.sl (.int .u8)])).1),(((o1.getD x39 (rz [.int .i64,.int .i64,.int .i64,.sl (.int .u8)])).2).1),((o1.length:Nat):Int),(((o1.getD x39 (rz [.int .i64,.int .i64,.int .i64,.sl (.int .u8)])).2).2).2)
section
variable (id:Nat) (xs:List Int) (sz:Nat)
def Dp (id:Nat) (xs:List Int) (sz:Nat):Nat→(List (Int×Int×Int×(List Int)))
 |0=>Oj id xs sz (List.range ((xs.length+sz-1)/sz))
 |x39+1=>Pl x39 (Dp id xs sz x39)
def Tm:(List (Int×Int×Int×(List Int))):=Dp id xs sz ((Oj id xs sz (List.range ((xs.length+sz-1)/sz))).length)
def Al:(List (Int×Int×Int×(List Int))):=AJ (Tm id xs sz)
theorem Tn:Al id xs sz=Tm id xs sz:=Af _
def yK (z_:(List (Int×Int×Int×(List Int))):=Al id xs sz):Con:=⟨[vi (id:Int),lb xs,vi (sz:Int)],[],.tu (chain [.sk 0,vi 0]),[(0,.sl 133 [.int .i64,.int .i64,.int .i64,.sl (.int .u8)] z_)]⟩
theorem Lu (hi:id≤1073741824) (hx:1≤xs.length∧xs.length≤10000) (hz:1≤sz∧sz≤1000):ConOk Tryz.prog 79 (yK id xs sz):=by
 refine eV rfl 1 (nb:=0) Tryz.func79 rfl rfl Tryz.ntmps79 rfl rfl rfl fun g0 w0 ac gs ws hg0 hS=> ?_
 have Bf:xs.length≤9223372036854775807:=hS.len 1 rfl
 have hS:=hS.sp
 have w1:wB (id:Int) 0 1073741824=true:=(O1 ⟨by omega,by omega⟩)
 have w2:wB (sz:Int) 1 1000=true:=(O1 ⟨by omega,by omega⟩)
 have w3:wB ((xs.length:Nat):Int) 1 10000=true:=(O1 ⟨by omega,by omega⟩)
 refine Ae [] 2 hS fun hS=>Au (Ay [(1,AR (CO (id:Int) 0 1073741824 w1)),(5,AR (CO (sz:Int) 1 1000 w2)),(11,AR (CO ((xs.length:Nat):Int) 1 10000 w3))] [] 2 hS fun hS=>Ai hS (EK (Ay [(1,AR (Dt xs AD)),(3,AR (eY xs sz Ac))] [] 2 hS fun hS=>Br ?_)))
 obtain⟨gs,hS⟩:=hS.nilob 1 0 133 [.int .i64,.int .i64,.int .i64,.sl (.int .u8)]
 obtain⟨gs,hS⟩:=hS.rn [(0,1),(1,2),(2,0)] [(3,.cp 2 0),(6,.cp 0 0),(7,vi 0),(27,.fn 157 (chain []) (chain [.im (chain [lb xs]) 0,.im (chain [vi (sz:Int)]) 0]))] [(0,.ob 129 (chain [.sk 1])),(1,.sl 133 [.int .i64,.int .i64,.int .i64,.sl (.int .u8)] (Oj id xs sz [])),(2,MR id)] 3 hg0
 refine V5 (m:=1) xs sz Ac Ac Ac (fun k=>UP Ac k) rfl hg0 (fun pre=>[(0,.ob 129 (chain [.sk 1])),(1,.sl 133 [.int .i64,.int .i64,.int .i64,.sl (.int .u8)] (Oj id xs sz pre)),(2,MR id)]) hS.st rfl rfl rfl rfl (fun e=>by subst e;simp at hx) (fun r pre z g1 W a1 hlt hS=> ?_) (fun Dd Dk ac gs ws hD hDk hk hH hB hS=> ?_) (by decide)
 ·have hS:=SS.sp hS
  have hpl:=LR id xs sz pre
  have hcl:(xs.length+sz-1)/sz≤xs.length:=YQ Ac
  refine rI [] trivial (fun _=>[(Oj id xs sz pre).length+[((id:Int),(((Oj id xs sz pre).length:Nat):Int),0,(xs.drop (z*sz)).take sz)].length≤9223372036854775807,((Oj id xs sz pre).length+[((id:Int),(((Oj id xs sz pre).length:Nat):Int),0,(xs.drop (z*sz)).take sz)].length)*48≤140737488355328]) [] [0,2,3] 4 ⟨by simp<;>omega,by simp<;>omega,trivial⟩ hS Abq (fun ac gs ws hS=> ?_)
  simp only[vF]
  exact Afx hS [(0,0),(1,3),(2,2)]
 ·have hgo:=hg0
  have hg0:=fun k v h=>List.mem_range.2 (SS.nm hS k v h)
  have hS:=SS.sp hS
  refine BV (JN ?_)
  have hpl:=LR id xs sz (List.range ((xs.length+sz-1)/sz))
  have hcl:(xs.length+sz-1)/sz≤xs.length:=YQ Ac
  rw[List.length_range]at hpl
  refine Dn [] 3 hS fun hS=>Ab (Br (Ar (ι:=Nat×(List (Int×Int×Int×(List Int)))) hg0 hS (fun(x39,o1)=>((Oj id xs sz (List.range ((xs.length+sz-1)/sz))).length-x39,[(39,vi ((x39:Nat):Int))],[(1,.sl 133 [.int .i64,.int .i64,.int .i64,.sl (.int .u8)] o1)],(x39≤(Oj id xs sz (List.range ((xs.length+sz-1)/sz))).length)∧(o1=Dp id xs sz x39)∧(o1.length=(Oj id xs sz (List.range ((xs.length+sz-1)/sz))).length)∧True)) [6,7,38] [0] 3 (0,Oj id xs sz (List.range ((xs.length+sz-1)/sz))) [(0,0),(1,1),(2,2)] ⟨Ac,rfl,rfl,trivial⟩ ?_))
  rintro⟨x39,o1⟩ ac gs ws ⟨hx39,hq1,p1,_⟩ hS
  refine Ae [] 3 hS fun hS=>Au (AB ((x39:Int)<(((Oj id xs sz (List.range ((xs.length+sz-1)/sz))).length:Nat):Int)) hS (fun h1=> ?_) (fun h1=> ?_))
  ·exact BG (Ae [] 3 hS fun hS=>Av [(4,AG x39 o1.length)] [] 3 hS fun hS=>BV (Av [(0,BQ x39)] [39] 3 hS fun hS=>Ab (Am hg0 hS (x39+1,o1.set x39 (((o1.getD x39 (rz [.int .i64,.int .i64,.int .i64,.sl (.int .u8)])).1),(((o1.getD x39 (rz [.int .i64,.int .i64,.int .i64,.sl (.int .u8)])).2).1),((o1.length:Nat):Int),(((o1.getD x39 (rz [.int .i64,.int .i64,.int .i64,.sl (.int .u8)])).2).2).2)) [(0,0),(1,1),(2,2)] ⟨Ac,(A2 (st:=Pl) hq1 rfl rfl),(by rw[List.length_set];exact p1),trivial⟩)))
  ·have hT:=hS
   obtain rfl:(Oj id xs sz (List.range ((xs.length+sz-1)/sz))).length=x39:=by omega
   obtain rfl:=hq1.symm
   have hS:=hT
   refine CX (Ae [] 3 hS fun hS=>AU ?_)
   have hM:Al id xs sz=Dp id xs sz ((Oj id xs sz (List.range ((xs.length+sz-1)/sz))).length):=Tn id xs sz
   obtain⟨hS,hk⟩:=unb hk hH hB hS
   have hg0:=hgo
   obtain⟨gs,hS⟩:=hS.rx [(0,1),(1,0)] [6,7] [0,1] 2 hg0
   exact Aes hD hDk hk (.inr rfl) hS [.sk 0,vi 0] [(0,some (.sl 133 [.int .i64,.int .i64,.int .i64,.sl (.int .u8)] (Dp id xs sz ((Oj id xs sz (List.range ((xs.length+sz-1)/sz))).length))))] rfl (by show DK _ [(0,.sl 133 [.int .i64,.int .i64,.int .i64,.sl (.int .u8)] (Al id xs sz))] true;rw[hM];first |(simp only[];exact⟨rfl,trivial⟩)|exact⟨rfl,trivial⟩)
end
end
end Go.Sx.Tryz
namespace Go.Sx.Tryz
open Go.Mi Go.RowKit Go.Sx Go.Proofs
noncomputable section
section
variable (id ai ct:Nat) (d:List Int)
def QF:(List Int)×Nat:=if wB (id:Int) 0 1073741824=true then(if wB (ct:Int) 0 1073741824=true then(if wB (ai:Int) 0 ((ct:Int)-1)=true then(if((d.length:Nat):Int)=0 then([],1)else(if(1000:Int)<((d.length:Nat):Int)then([],11)else(((((([]++Aj id)++Aj ai)++Aj ct)++Aj d.length)++d),0)))else([],1))else([],1))else([],1)
def FH:(List Int)×Nat:=AJ (QF id ai ct d)
theorem Gx:FH id ai ct d=QF id ai ct d:=Af _
def Xn (z_:(List Int)×Nat:=FH id ai ct d):Con:=⟨[.ag (chain [vi (id:Int),vi (ai:Int),vi (ct:Int),lb d])],[],.tu (chain [lb (z_.1),vi ((z_.2:Nat):Int)]),[]⟩
theorem Nq (hb:id≤100000000000∧ai≤100000000000∧ct≤100000000000) (hd:d.length≤100000):ConOk Tryz.prog 80 (Xn id ai ct d):=by
 refine cy 0 Tryz.func80 rfl Tryz.ntmps80 fun hg0 hS=>Ae [] 1 hS fun hS=>Au (Br (Au ?_))
 by_cases h1:wB (id:Int) 0 1073741824=true
 ·by_cases h2:wB (ct:Int) 0 1073741824=true
  ·by_cases h3:wB (ai:Int) 0 ((ct:Int)-1)=true
   ·refine Av [(2,AR (CO (id:Int) 0 1073741824 h1)),(7,AR (CO (ct:Int) 0 1073741824 h2)),(15,Rn ((ct:Int)-1) [Eu .i64 (ct:Int) 1=(ct:Int)-1] ⟨Qq Ac Ac,trivial⟩),(16,AR (CO (ai:Int) 0 ((ct:Int)-1) h3))] [] 1 hS fun hS=>Ab (AB (((d.length:Nat):Int)=0) hS (fun h4=> ?_) (fun h4=> ?_))
    ·refine Ae [] 1 hS fun hS=>AU (AC (Ah ?_))
     have hS:=hS.wk 2 (lb [])
     exact Bh (.trans (Gx ..) ((if_pos h1).trans ((if_pos h2).trans ((if_pos h3).trans (if_pos h4))))) hS
    ·refine Ae [] 1 hS fun hS=>AB ((1000:Int)<((d.length:Nat):Int)) hS (fun h5=> ?_) (fun h5=> ?_)
     ·refine Ae [] 1 hS fun hS=>AU (AC (Ah ?_))
      have hS:=hS.wk 2 (lb [])
      exact Bh (.trans (Gx ..) ((if_pos h1).trans ((if_pos h2).trans ((if_pos h3).trans ((if_neg h4).trans (if_pos h5)))))) hS
     ·refine Iu (Ae [] 2 hS fun hS=>Au ?_)
      have hw1:=AH (n:=id) Ac
      have hw2:=AH (n:=ai) Ac
      have hw3:=AH (n:=ct) Ac
      have hw4:=AH (n:=d.length) Ac
      exact Av [(3,Xx id),(4,AO (Lg id Ac) [(0,1)] [(1,2)]),(7,Xx ai),(8,AO (HG ([]++Aj id) ai AD Ac) [(0,1),(1,2)] [(2,3)]),(11,Xx ct),(12,AO (HG (([]++Aj id)++Aj ai) ct AD Ac) [(0,1),(1,3)] [(2,4)]),(15,AO (F5 ((([]++Aj id)++Aj ai)++Aj ct) d AD AD) [(0,1),(1,4)] [(2,5)]),(16,AO (G4 ((((([]++Aj id)++Aj ai)++Aj ct)++Aj d.length)++d) AD) [(0,1),(1,5)] [])] [] 6 hS fun hS=>D6 (Bh (.trans (Gx ..) ((if_pos h1).trans ((if_pos h2).trans ((if_pos h3).trans ((if_neg h4).trans (if_neg h5)))))) hS)
   ·refine Av [(2,AR (CO (id:Int) 0 1073741824 h1)),(7,AR (CO (ct:Int) 0 1073741824 h2)),(15,Rn ((ct:Int)-1) [Eu .i64 (ct:Int) 1=(ct:Int)-1] ⟨Qq Ac Ac,trivial⟩),(16,AR (OW (ai:Int) 0 ((ct:Int)-1) (Em h3)))] [] 1 hS fun hS=>Ab (AQ hS (Ae [] 1 hS fun hS=>AU (AC (Ah ?_))))
    have hS:=hS.wk 2 (lb [])
    exact Bh (.trans (Gx ..) ((if_pos h1).trans ((if_pos h2).trans (if_neg h3)))) hS
  ·refine Av [(2,AR (CO (id:Int) 0 1073741824 h1)),(7,AR (OW (ct:Int) 0 1073741824 (Em h2)))] [] 1 hS fun hS=>Ab (AQ hS (Ae [] 1 hS fun hS=>AU (AC (Ah ?_))))
   have hS:=hS.wk 2 (lb [])
   exact Bh (.trans (Gx ..) ((if_pos h1).trans (if_neg h2))) hS
 ·refine Av [(2,AR (OW (id:Int) 0 1073741824 (Em h1)))] [] 1 hS fun hS=>Ab (AQ hS (Ae [] 1 hS fun hS=>AU (AC (Ah ?_))))
  have hS:=hS.wk 2 (lb [])
  exact Bh (.trans (Gx ..) (if_neg h1)) hS
end
end
end Go.Sx.Tryz
namespace Go.Sx
open Go.Mi Go.RowKit
variable [Dfr]
def Xz (P:Program) (n:Nat) (o:Oper) (L:DL) (H:Nat→Option O) (e:Eff) (d:D):Prop:=
 ∀ξ g w,HS (BF (e.rd++An e.wr) H) g w→Hold L ξ g w→Pn1 P o n (Lf L ξ) w fun v w'=>∃g',Post H ⟨e.rd,e.wr,e.nw,d⟩ g w v g' w'
theorem eG {P:Program} {n:Nat} {q:Option CR} (hc:∀r,q=some r→GU P r.f r.c) {L:DL} {H:Hp} {o:Oper} {e:Eff} {d:D} {ps:List Prop} (h:QE q L H o=some (e,d,ps)) (hp:AllP ps):e.nw=[]∧Xz P n o L (AS H) e d:=by
 obtain⟨ds,op,ty,pos,af,gu⟩:=o
 unfold QE at h
 split at h
 ·rename_i q c hop
  simp only at hop
  subst hop
  have hc:=hc q rfl
  obtain⟨cl,xs,ts⟩:=c
  split at h
  ·rename_i f hf
   simp only at hf
   subst hf
   split at h
   ·rename_i f' ays hfn
    cases hb:Nat.beq f' q.f&&q.chk&&ays.all D.one&&q.σ.isEmpty with
    |false=>rw[hb]at h;cases h
    |true=>
     rw[hb]at h
     simp only[Bool.and_eq_true,List.all_eq_true,List.isEmpty_iff]at hb
     obtain⟨⟨⟨b1,b2⟩,b3⟩,b4⟩:=hb
     have b1:=Nat.eq_of_beq_eq_true b1
     subst b1
     cases h
     have hq':=CRok.of b2
     obtain⟨n1,n2⟩:=CR.need_of hp.1
     have hnw:q.eff.nw=[]:=by simp only[CR.eff,b4,List.filterMap_nil]
     refine⟨hnw,fun ξ g w hS hH=> ?_⟩
     have fin:∀{vs:List Value},B4 g.X g.N w (chain ays) true vs→Calls P q.f vs.toArray w (fun e w'=>∃v,e=pn v∧∃g',Post (AS H) q.eff g w v g' w'):=fun hv=>by
      have :=Lh (es:=q.c.args.map (D.ren q.r)) hv b3
      rw[n1]at this
      refine(K7 hq' hc n2 hS (fun p hp=>by rw[hnw]at hp;cases hp) this).mono fun e w' ⟨v,he,g',hpo⟩=>⟨v,he,g',hpo⟩
     unfold YB at hfn
     split at hfn
     ·rename_i f0 first captured as' hx has
      cases he:first.isEmpty&&captured.isEmpty with
      |false=>rw[he]at hfn;cases hfn
      |true=>
       rw[he]at hfn
       simp only[cond_true,Option.some.injEq,Prod.mk.injEq]at hfn
       obtain⟨rfl,rfl⟩:=hfn
       rw[Bool.and_eq_true,Array.isEmpty_iff,Array.isEmpty_iff]at he
       obtain⟨rfl,rfl⟩:=he
       obtain⟨vs,k1,k2,_⟩:=DD hH has
       refine LQ (first := #[]) (captured:= #[]) (Bo hH hx) hc.1 k1 ?_
       simpa[CR.eff]using fin k2
     ·rename_i f0 a b as' hx has
      split at hfn
      ·rename_i a' b' ha hb'
       simp only[Option.some.injEq,Prod.mk.injEq]at hfn
       obtain⟨rfl,rfl⟩:=hfn
       obtain⟨v,hv,va,vb,h1,h2,h3⟩:=A4 hH hx
       cases(List.cons.inj h3).1
       obtain⟨vs,k1,k2,_⟩:=DD hH has
       refine LQ hv hc.1 k1 ?_
       have :=fin (Dy (Dy (GI ha h1) k2) (GI hb' h2))
       simpa[CR.eff]using this
      ·cases hfn
     ·cases hfn
   ·cases h
  ·cases h
 ·rename_i x hop
  simp only at hop
  subst hop
  split at h
  ·rename_i t v hx
   cases h
   refine⟨rfl,fun ξ g w hS hH=>V9 (Bo hH hx) ⟨g,Post.pure (rd:=[]) hS.wf rfl⟩⟩
  ·cases h
 ·cases h
theorem dR {P : Program} {n : Nat} {ops : List Oper} {ex : Ex} {q : Option CR} {p dd : Nat} (hex : Nz P n ex) (hc : ∀ r, q = some r → GU P r.f r.c) : ∀ {os : List Oper} {i : Nat} {L : DL} {H : Hp} {nb : Nat} {rows : List Rw} {ps : List Prop} {d : D} {nb' : Nat}, GO ops ex q p dd i os L H nb = some (rows, ps, d, nb') → AllP ps →
  ∀(j:Nat) (b:Oper×Rw),(os.zip rows)[j]? =some b→dd.testBit (i+j)=false→
   if i+j=p then ∃e,b.2=some e∧gW ops (((os.zip rows).take j).foldl FQ L) b.1=some true∧Xz P n b.1 (Bc (((os.zip rows).take j).foldl FQ L) (LJ ops b.1)) (AS (((os.zip rows).take j).foldl G8 H)) e d
   else MP P n ops (((os.zip rows).take j).foldl FQ L) (((os.zip rows).take j).foldl G8 H) b:=by
 intro os
 induction os with
 |nil=>intro i L H nb rows ps d nb' _ _ j b hb;simp at hb
 |cons o os ih=>
  intro i L H nb rows ps d nb' h hp j b hb hdd
  have tail : ∀ {r1 : Rw} {rows' : List Rw} {L' : DL} {H' : Hp} {nb2 : Nat} {ps' : List Prop} {d' : D}, rows = r1 :: rows' → GO ops ex q p dd (i + 1) os L' H' nb2 = some (rows', ps', d', nb') → AllP ps' → FQ L (o, r1) = L' → G8 H (o, r1) = H' → (∀ j', j = j' + 1 → i + j = p → d' = d) → (j = 0 → b = (o, r1) → if i + 0 = p then ∃ e, b.2 = some e ∧ gW ops L b.1 = some true ∧ Xz P n b.1 (Bc L (LJ ops b.1)) (AS H) e d else MP P n ops L H b) →
    if i+j=p then ∃e,b.2=some e∧gW ops ((((o::os).zip rows).take j).foldl FQ L) b.1=some true∧Xz P n b.1 (Bc ((((o::os).zip rows).take j).foldl FQ L) (LJ ops b.1)) (AS ((((o::os).zip rows).take j).foldl G8 H)) e d
    else MP P n ops ((((o::os).zip rows).take j).foldl FQ L) ((((o::os).zip rows).take j).foldl G8 H) b:=by
   intro r1 rows' L' H' nb2 ps' d' hr hpl hp' hL hH hdt h0
   subst hr
   cases j with
   |zero=>
    have hb':(o,r1)=b:=by simpa using hb
    have :=h0 rfl hb'.symm
    simpa using this
   |succ j'=>
    have hb':(os.zip rows')[j']? =some b:=by simpa using hb
    have :=ih hpl hp' j' b hb' (by rw[show i+1+j'=i+(j'+1) by omega];exact hdd)
    rw[show i+1+j'=i+(j'+1) by omega]at this
    have e1:(((o::os).zip (r1::rows')).take (j'+1)).foldl FQ L=((os.zip rows').take j').foldl FQ L':=by rw[←hL];rfl
    have e2:(((o::os).zip (r1::rows')).take (j'+1)).foldl G8 H=((os.zip rows').take j').foldl G8 H':=by rw[←hH];rfl
    rw[e1,e2]
    by_cases hip:i+(j'+1)=p
    ·rw[if_pos hip]at this⊢
     rw[hdt j' rfl hip]at this
     exact this
    ·rw[if_neg hip]at this⊢
     exact this
  simp only[GO]at h
  cases hdi:dd.testBit i with
  |true=>
   rw[hdi]at h
   simp only[cond_true]at h
   obtain⟨⟨r1,r2,r3,r4⟩,h1,h2⟩:=Option.map_eq_some_iff.1 h
   simp only[Prod.mk.injEq]at h2
   obtain⟨h2a,rfl,rfl,rfl⟩:=h2
   refine tail h2a.symm h1 hp rfl rfl (fun _ _ _=>rfl) fun hj _=> ?_
   subst hj
   rw[Nat.add_zero,hdi]at hdd
   cases hdd
  |false=>
   rw[hdi]at h
   simp only[cond_false]at h
   cases hg:gW ops L o with
   |none=>rw[hg]at h;cases h
   |some c=>
    rw[hg]at h
    cases c with
    |false=>
     simp only at h
     cases hip:Nat.beq i p with
     |true=>rw[hip]at h;cases h
     |false=>
      rw[hip]at h
      simp only[cond_false]at h
      obtain⟨⟨r1,r2,r3,r4⟩,h1,h2⟩:=Option.map_eq_some_iff.1 h
      simp only[Prod.mk.injEq]at h2
      obtain⟨h2a,rfl,rfl,rfl⟩:=h2
      refine tail h2a.symm h1 hp rfl rfl (fun _ _ _=>rfl) fun hj hb0=> ?_
      subst hb0
      rw[if_neg (fun e=>by rw[Nat.add_zero]at e;rw[e,Nat.beq_refl]at hip;cases hip)]
      exact hg
    |true=>
     simp only at h
     cases hip:Nat.beq i p with
     |true=>
      have hip':=Nat.eq_of_beq_eq_true hip
      rw[hip]at h
      simp only[cond_true]at h
      cases he:QE q (Bc L (LJ ops o)) H o with
      |none=>rw[he]at h;cases h
      |some x=>
       obtain⟨e,d1,qs⟩:=x
       rw[he]at h
       simp only at h
       obtain⟨⟨r1,r2,r3,r4⟩,h1,h2⟩:=Option.map_eq_some_iff.1 h
       simp only[Prod.mk.injEq]at h2
       obtain⟨h2a,rfl,rfl,rfl⟩:=h2
       rw[AllP.append]at hp
       refine tail h2a.symm h1 hp.2 rfl rfl (fun j' hj hp2=>by omega) fun hj hb0=> ?_
       subst hb0
       rw[if_pos (by omega)]
       exact⟨e,rfl,hg,(eG hc he hp.1).2⟩
     |false=>
      rw[hip]at h
      simp only[cond_false]at h
      cases he:ex i (Bc L (LJ ops o)) H nb o with
      |none=>rw[he]at h;cases h
      |some x=>
       obtain⟨e,qs⟩:=x
       rw[he]at h
       simp only at h
       obtain⟨⟨r1,r2,r3,r4⟩,h1,h2⟩:=Option.map_eq_some_iff.1 h
       simp only[Prod.mk.injEq]at h2
       obtain⟨h2a,rfl,rfl,rfl⟩:=h2
       rw[AllP.append]at hp
       refine tail h2a.symm h1 hp.2 rfl rfl (fun _ _ _=>rfl) fun hj hb0=> ?_
       subst hb0
       rw[if_neg (fun e=>by rw[Nat.add_zero]at e;rw[e,Nat.beq_refl]at hip;cases hip)]
       exact⟨hg,hex _ _ _ _ _ _ _ he hp.1⟩
section
variable {P:Program} {n nb nb':Nat} {l:List Oper} {rows:List Rw} {L0:DL} {H0:Hp} {S0:Nat→Prop} {g0:G} {w0:World} {Q:Exit→Act→World→Prop} {a:Act} {w:World}
theorem uW (hc : ChkR n nb nb' l rows) {i : Nat} {o : Oper} {e : Eff} {dv : D} (hz : (l.zip rows)[i]? = some (o, some e)) (hdi : Nat.blt i i = false) (hcl : ∀ i' j, Cg l i' j → Nat.blt i' i = true → Nat.blt j i = true) (hah : ∀ j, Cg l i j → Nat.blt j i = true)
  (hg:gW l (((l.zip rows).take i).foldl FQ L0) o=some true) (hp:Xz P n o (Bc (((l.zip rows).take i).foldl FQ L0) (LJ l o)) (AS (((l.zip rows).take i).foldl G8 H0)) e dv)
  (hend:∀a g w v,St n S0 g0 w0 (((l.zip rows).take i).foldl FQ L0) (((l.zip rows).take (i+1)).foldl G8 H0) nb' a g w→Sm g w dv v→Q (.panic [{v,recovered:=false}]) a w) (hle:nb≤nb') {K:Act→World→Prop} (h:RI n S0 g0 w0 l rows L0 H0 nb (fun j=>Nat.blt j i) a w):wpOp P l.toArray Q i K a w:=by
 obtain⟨g,hS,hfr,hHS,hfoot,hw⟩:=kU (d:=fun j=>Nat.blt j i) hc hz hdi hcl hah h
 have ho:l[i]? =some o:=(List.getElem?_zip_eq_some.1 hz).1
 unfold wpOp
 simp only[List.getElem?_toArray,ho]
 rw[if_pos (hw true hg)]
 refine .inl (hp _ g w hHS hfr.get a K Q hfr.frm ?_)
 rintro v w' ⟨g',hpo⟩
 have eL:∀t,lw (fun j=>Nat.blt j i) fL 0 (l.zip rows) (Do L0) t=Do (((l.zip rows).take i).foldl FQ L0) t:=fun t=>by
  have :=IX (f:=fL) (bs:=l.zip rows) (i:=0) (j:=i) (H:=Do L0) (k:=t)
  rw[Nat.zero_add]at this
  rw[this,Qv]
 have eH:∀k,lw (fun j=>Nat.blt j i) fH 0 (l.zip rows) (AS H0) k=AS (((l.zip rows).take i).foldl G8 H0) k:=fun k=>by
  have :=IX (f:=fH) (bs:=l.zip rows) (i:=0) (j:=i) (H:=AS H0) (k:=k)
  rw[Nat.zero_add]at this
  rw[this,Qw]
 have hS1:SS n S0 g0 w0 (Do (((l.zip rows).take i).foldl FQ L0)) (AS (((l.zip rows).take i).foldl G8 H0)) (· <nb') a g w:=hS.weak (fun t d ht=>by rw[eL];exact ht) (fun k o hk=>by rw[eH];exact hk) fun k hk=>by
  rcases hk with hk|⟨j,b,hb,_,hk⟩
  ·exact Nat.lt_of_lt_of_le hk hle
  ·obtain⟨_,hz'⟩:=List.getElem?_zip_eq_some.1 hb
   exact(hc.name b.2 (List.mem_of_getElem? hz') k hk).2
 have htake:((l.zip rows).take (i+1)).foldl G8 H0=FB (some e)++((l.zip rows).take i).foldl G8 H0:=by
  rw[List.take_add_one,hz,List.foldl_append];rfl
 have hS2:=SS.step hS1 (dst:=none) (fun t h=>by cases h) hpo (L':=Do (((l.zip rows).take i).foldl FQ L0)) (H':=AS (((l.zip rows).take (i+1)).foldl G8 H0)) (nm':=(· <nb')) (fun t d h=> .inr ⟨(by simp),h⟩) (fun k o h=>by
  rw[htake]at h
  have h:=BD.1 h
  rw[JD]at h
  cases hb:Es (FB (some e)) k with
  |none=>
   rw[hb]at h
   exact .inr ⟨fun hk=>Hs.1 hk hb,BD.2 h⟩
  |some x=>
   rw[hb]at h
   simp only[Option.some.injEq]at h
   subst h
   exact .inl (BD.2 hb)) (fun k h=>by
  rcases h with h|h
  ·exact h
  ·obtain⟨_,hz'⟩:=List.getElem?_zip_eq_some.1 hz
   exact(hc.name _ (List.mem_of_getElem? hz') k h).2)
 exact hend a g' w' v hS2 hpo.r
end
def AbH (n:Nat) (ops:List Oper) (ex:Ex) (q:Option CR) (p dd:Nat) (L:DL) (H:Hp) (nb:Nat):Option (List Prop×D×DL×Hp×Nat):=match GO ops ex q p dd 0 ops L H nb with
 |some (rows,ps,d,nb')=>bif Xa n nb nb' ops rows&&xL false ops p dd&&Nat.blt p ops.length&& !(dd.testBit p)&&Nat.ble nb nb' then some (ps,d,((ops.zip rows).take p).foldl FQ L,((ops.zip rows).take (p+1)).foldl G8 H,nb')else none
 |none=>none
section
variable {P:Program} {n:Nat} {ops:List Oper} {ex:Ex} {L:DL} {H:Hp} {nb:Nat} {S0:Nat→Prop} {g0 g:G} {w0 w:World} {Q:Exit→Act→World→Prop} {a:Act}
theorem VV {id : Nat} (hex : Nz P n ex) {q : Option CR} (hc : ∀ r, q = some r → GU P r.f r.c) (p dd : Nat) {ps : List Prop} {d : D} {L1 : DL} {H1 : Hp} {nb1 : Nat} (h : AbH n ops ex q p dd L H nb = some (ps, d, L1, H1, nb1)) (hp : AllP ps) (hS : St n S0 g0 w0 L H nb a g w)
  (hend:∀a g w v,St n S0 g0 w0 L1 H1 nb1 a g w→Sm g w d v→Q (.panic [{v,recovered:=false}]) a w):(Code.region id ops.toArray false).wp P Q a w:=by
 unfold AbH at h
 cases hx:GO ops ex q p dd 0 ops L H nb with
 |none=>rw[hx]at h;cases h
 |some x=>
  obtain⟨rows,qs,d1,nb'⟩:=x
  rw[hx]at h
  simp only at h
  cases hb:Xa n nb nb' ops rows&&xL false ops p dd&&Nat.blt p ops.length&& !(dd.testBit p)&&Nat.ble nb nb' with
  |false=>rw[hb]at h;cases h
  |true=>
   rw[hb]at h
   cases h
   simp only[Bool.and_eq_true,Bool.not_eq_true',Nat.blt_eq]at hb
   obtain⟨⟨⟨⟨b1,b2⟩,b3⟩,b4⟩,b5⟩:=hb
   have hck:=ChkR.of b1
   have rowAt:=fun j b (hz:(ops.zip rows)[j]? =some b) (hd:dd.testBit j=false)=>by
    have :=dR hex hc hx hp j b hz (by rw[Nat.zero_add];exact hd)
    rw[Nat.zero_add]at this
    exact this
   have ini:∀w,St n S0 g0 w0 L H nb a g w→RI n S0 g0 w0 ops rows L H nb (fun _=>false) a w:=fun w hs=>⟨g,hs.weak (fun t d ht=>by rw[NL]at ht;exact ht) (fun k o hk=>by rw[NL]at hk;exact hk) fun k hk=> .inl hk⟩
   obtain⟨op,rp,ho,hrp,hzp⟩:=XG hck b3
   obtain⟨e,he1,he2,he3⟩:∃e,rp=some e∧_∧_:=by
    have :=rowAt p (op,rp) hzp b4
    rw[if_pos rfl]at this
    exact this
   subst he1
   have dead:∀i,i<ops.length→dd.testBit i=true→Nat.blt p i=true:=fun i hi hd=>by
    have :=List.all_eq_true.1 b2 i (List.mem_range.2 hi)
    rw[hd]at this
    simpa using this
   refine Kx (fun d a w=>RI n S0 g0 w0 ops rows L H nb d a w∧d p=false) ⟨ini _ hS,rfl⟩ (fun d d' a w hd hI=>⟨Sd hck.len hd hI.1,by rw[←hd p b3];exact hI.2⟩) (fun i a w hi hI=> ?_) fun a w hI=>by have :=hI.2;cases this
   have ahead_lt:∀i j,Cg ops i j→j<i:=fun i j ha=>by
    induction ha with
    |edge h1 h2 h3=>exact hck.back _ _ h1 _ h2 h3
    |trans _ _ ih1 ih2=>omega
   have k1:Nat.blt i i=false:=by
    cases hb:Nat.blt i i with
    |false=>rfl
    |true=>rw[Nat.blt_eq]at hb;omega
   have k2:∀i' j,Cg ops i' j→Nat.blt i' i=true→Nat.blt j i=true:=fun i' j ha hi'=>by
    rw[Nat.blt_eq]at hi'⊢;have :=ahead_lt _ _ ha;omega
   have k3:∀j,Cg ops i j→Nat.blt j i=true:=fun j ha=>by rw[Nat.blt_eq];exact ahead_lt _ _ ha
   have hpi:¬p<i:=fun hlt=>by
    have :Nat.blt p i=true:=by rw[Nat.blt_eq];exact hlt
    have h2:Nat.blt p i=false:=hI.2
    rw[this]at h2;cases h2
   by_cases hip:i=p
   ·subst hip
    exact uW hck hzp k1 k2 k3 he2 he3 hend (Nat.le_of_ble_eq_true b5) hI.1
   ·have hnd : dd.testBit i = false := by
     cases hd:dd.testBit i with
     |false=>rfl
     |true=>
      have h1:=dead i hi hd
      simp only[Nat.blt_eq]at h1
      exact absurd h1 hpi
    refine wpOp_mono (fun a' w' hri=>⟨hri,?_⟩) (Ju (d:=fun j=>Nat.blt j i) hck (fun b hb=>by have :=rowAt i b hb hnd;rwa [if_neg hip]at this) hi k1 k2 k3 hI.1)
    show(bif Nat.beq p i then true else Nat.blt p i)=false
    rw[Bb (fun e=>hip e.symm)]
    exact hI.2
end
def AaE (n:Nat) (ops:List Oper) (ex:Ex) (q:Option CR) (p dd:Nat) (L:DL) (H:Hp) (nb:Nat) (kL kH:List Nat):Option (List Prop×D×DL×Hp×Nat):=(AbH n ops ex q p dd L H nb).map fun x=>(x.1,x.2.1,Bc x.2.2.1 kL,IQ x.2.2.2.1 kH,x.2.2.2.2)
section
variable {n nb:Nat} {g0:G} {S0:Nat→Prop} {w0:World} {L:DL} {H:Hp} {a:Act} {g:G} {w:World} {Q:Exit→Act→World→Prop}
theorem D2 {E : hO} (hZ : b9 E.P E.Z) (C : List (Nat × Rx)) (hC : CsOk E.P C) (q : Option CR) (hq : ∀ r, q = some r → GU E.P r.f r.c) (p dd : Nat) (ps : List (Nat × Rx) → List Prop) (d : D) (kL kH : List Nat) (Lo : DL) (Ho : Hp) (nb1 : Nat) {id : Nat} {ops : List Oper}
  (h:AaE n ops (bB E C) q p dd L H nb kL kH=some (ps C,d,Lo,Ho,nb1)) (hp:AllP (ps C)) (hS:St n S0 g0 w0 L H nb a g w) (hend:∀a g w v,St n S0 g0 w0 Lo Ho nb1 a g w→Sm g w d v→Q (.panic [{v,recovered:=false}]) a w):(Code.region id ops.toArray false).wp E.P Q a w:=by
 unfold AaE at h
 obtain⟨⟨x1,x2,x3,x4,x5⟩,h1,h2⟩:=Option.map_eq_some_iff.1 h
 simp only[Prod.mk.injEq]at h2
 obtain⟨rfl,rfl,rfl,rfl,rfl⟩:=h2
 exact VV (GZ hZ hC) hq p dd h1 hp hS fun a g w v hS' hv=>hend a g w v (SS.weak hS' (fun t d ht=>(Ef ht).2) (fun k o hk=>IY hk) fun _ h=>h) hv
theorem KT {P:Program} (hD:Dfr.ds=([]:List Deferred)) {fn:Func} {c:Con} {v:Value} (hS:St n (c.foot g0) g0 w0 L H nb a g w) {d:D} (hv:Sm g w d v) (hd:d=c.res) (h1:DK H c.H1 true):bodyPost P fn (fun e w'=>∃v,e=pn v∧∃g',C6 c g0 w0 v g' w') (.panic [{v,recovered:=false}]) a w:=by
 have key:∀k o,DF c.H1 k=some o→AS H k=some o:=by
  have :∀(r:Hc),DK H r true→∀k o,DF r k=some o→AS H k=some o:=by
   intro r
   induction r with
   |nil=>intro _ k o h;cases h
   |cons p r ih=>
    obtain⟨s,u⟩:=p
    intro hh k o h
    simp only[DF]at h
    by_cases e:s=k
    ·subst e;simp at h;subst h;exact hh.1
    ·rw[Bb e]at h;exact ih hh.2 k o h
  exact this c.H1 h1
 exact⟨hS.defers.trans hD,v,rfl,g,hS.go,hd▸hv,hS.hs.sub key,fun k o hk b hb=>hS.fp k o (key k o hk) b hb⟩
end
end Go.Sx
namespace Go.Sx.Tryz
open Go.Mi Go.RowKit Go.Sx Go.Proofs
noncomputable section
def U8:O:= .ob 133 (chain [vi 0,vi 0,vi 0,.v (.slice none 0 0)])
section
variable (x0:Nat)
def N1 (x1 x2:Nat) (x3:List Int):O:= .ob 133 (chain [vi ((x0:Nat):Int),vi ((x1:Nat):Int),vi ((x2:Nat):Int),lb x3])
def N0 (x1 x2:Nat):O:= .ob 133 (chain [vi ((x0:Nat):Int),vi ((x1:Nat):Int),vi ((x2:Nat):Int),.v (.slice none 0 0)])
def Afr:O:= .ob 133 (chain [vi ((x0:Nat):Int),vi 0,vi 0,.v (.slice none 0 0)])
def Afq (x1:Nat):O:= .ob 133 (chain [vi ((x0:Nat):Int),vi ((x1:Nat):Int),vi 0,.v (.slice none 0 0)])
end
theorem Jp {x:Int} (h:0≤x) (h2:¬1073741824<x):IntKind.wrap .i64 x=((x.toNat:Nat):Int):=by
 rw[Ed Ac Ac];omega
section
variable (xs:List Int)
def UH:Bool:=if FN xs=true then(if(1073741824:Int)<((Ad xs).1)then false else(if FN ((Ad xs).2)=true then(if(1073741824:Int)<((Ad ((Ad xs).2)).1)then false else(if FN ((Ad ((Ad xs).2)).2)=true then(if(1073741824:Int)<((Ad ((Ad ((Ad xs).2)).2)).1)then false else(if Be ((Ad ((Ad ((Ad xs).2)).2)).2) 1000=true then true else false))else false))else false))else false
def FI:Bool:=AJ (UH xs)
theorem G0:FI xs=UH xs:=Af _
def Mz:Nat×Nat×Nat×Nat:=if FN xs=true then(if(1073741824:Int)<((Ad xs).1)then(2,0,0,0)else(if FN ((Ad xs).2)=true then(if(1073741824:Int)<((Ad ((Ad xs).2)).1)then(2,((((Ad xs).1)).toNat),0,0)else(if FN ((Ad ((Ad xs).2)).2)=true then(if(1073741824:Int)<((Ad ((Ad ((Ad xs).2)).2)).1)then(2,((((Ad xs).1)).toNat),((((Ad ((Ad xs).2)).1)).toNat),0)else((BS ((Ad ((Ad ((Ad xs).2)).2)).2) 1000),((((Ad xs).1)).toNat),((((Ad ((Ad xs).2)).1)).toNat),((((Ad ((Ad ((Ad xs).2)).2)).1)).toNat)))else(2,((((Ad xs).1)).toNat),((((Ad ((Ad xs).2)).1)).toNat),0)))else(2,((((Ad xs).1)).toNat),0,0)))else(2,0,0,0)
def AE:Nat×Nat×Nat×Nat:=AJ (Mz xs)
theorem E2:AE xs=Mz xs:=Af _
def bG:(List Int)×Nat×Nat×Nat×(List Int):=((((Ad ((Ad ((Ad ((Ad xs).2)).2)).2)).2).drop (((Ad ((Ad ((Ad ((Ad xs).2)).2)).2)).1).toNat)),((((Ad xs).1)).toNat),((((Ad ((Ad xs).2)).1)).toNat),((((Ad ((Ad ((Ad xs).2)).2)).1)).toNat),(((Ad ((Ad ((Ad ((Ad xs).2)).2)).2)).2).take (((Ad ((Ad ((Ad ((Ad xs).2)).2)).2)).1).toNat)))
def Bw:(List Int)×Nat×Nat×Nat×(List Int):=AJ (bG xs)
theorem bH:Bw xs=bG xs:=Af _
def Aff (z_:(List Int)×Nat×Nat×Nat×(List Int):=Bw xs):Con:=⟨[.cp 0 0,.cp 1 0],[(0,HD xs),(1,U8)],.tu (chain []),[(0,HD (z_.1)),(1,N1 z_.2.1 z_.2.2.1 z_.2.2.2.1 (z_.2.2.2.2))]⟩
theorem pQ (h:xs.length≤100000000000000) (hk:FI xs=true):ConOk Tryz.prog 141 (Aff xs):=by
 refine cy 2 Tryz.func141 rfl Tryz.ntmps141 fun hg0 hS=>JN ?_
 have hnn:=(AW xs).2
 have hn2:=Dr xs
 have hn3:=CS xs
 refine Dn [9] 2 hS fun hS=>Ab (Br (wp_loop_rounds 4 (Ca (n:=3) (Ae [] 2 hS fun hS=>Au (AQ hS (BG (Ay [(0,AG 0 3)] [13,14] 2 hS fun hS=>Au ?_)))))))
 by_cases h1:FN xs=true
 ·refine Av [(1,AO (HX xs AD h1) [(0,0)] [])] [15,16] 2 hS fun hS=>Ej (Ae [17] 2 hS fun hS=>AB ((1073741824:Int)<((Ad xs).1)) hS (fun h2=> ?_) (fun h2=> ?_))
  ·have hK:FI xs=false:=(G0 xs).trans ((if_pos h1).trans (if_pos h2))
   rw[hK]at hk
   cases hk
  ·refine B5 (Av [(2,Rn (((((Ad xs).1)).toNat:Nat):Int) [IntKind.wrap .i64 (((Ad xs).1))=(((((Ad xs).1)).toNat:Nat):Int)] ⟨Jp (AW _).1 h2,trivial⟩)] [20,21,22,23] 2 hS fun hS=>BV (Dn [11,24] 2 hS fun hS=>Ab (Ca (n:=2) (Ae [] 2 hS fun hS=>Au (AQ hS (BG (Ay [(0,AG 1 3)] [13,14] 2 hS fun hS=>Au ?_)))))))
   by_cases h3:FN ((Ad xs).2)=true
   ·refine Av [(1,AO (HX ((Ad xs).2) AD h3) [(0,0)] [])] [15,16] 2 hS fun hS=>Ej (Ae [17] 2 hS fun hS=>AB ((1073741824:Int)<((Ad ((Ad xs).2)).1)) hS (fun h4=> ?_) (fun h4=> ?_))
    ·have hK:FI xs=false:=(G0 xs).trans ((if_pos h1).trans ((if_neg h2).trans ((if_pos h3).trans (if_pos h4))))
     rw[hK]at hk
     cases hk
    ·refine B5 (Av [(2,Rn (((((Ad ((Ad xs).2)).1)).toNat:Nat):Int) [IntKind.wrap .i64 (((Ad ((Ad xs).2)).1))=(((((Ad ((Ad xs).2)).1)).toNat:Nat):Int)] ⟨Jp (AW _).1 h4,trivial⟩)] [20,21,22,23] 2 hS fun hS=>BV (Dn [11,24] 2 hS fun hS=>Ab (Ca (n:=1) (Ae [] 2 hS fun hS=>Au (AQ hS (BG (Ay [(0,AG 2 3)] [13,14] 2 hS fun hS=>Au ?_)))))))
     by_cases h5:FN ((Ad ((Ad xs).2)).2)=true
     ·refine Av [(1,AO (HX ((Ad ((Ad xs).2)).2) AD h5) [(0,0)] [])] [15,16] 2 hS fun hS=>Ej (Ae [17] 2 hS fun hS=>AB ((1073741824:Int)<((Ad ((Ad ((Ad xs).2)).2)).1)) hS (fun h6=> ?_) (fun h6=> ?_))
      ·have hK:FI xs=false:=(G0 xs).trans ((if_pos h1).trans ((if_neg h2).trans ((if_pos h3).trans ((if_neg h4).trans ((if_pos h5).trans (if_pos h6))))))
       rw[hK]at hk
       cases hk
      ·refine B5 (Av [(2,Rn (((((Ad ((Ad ((Ad xs).2)).2)).1)).toNat:Nat):Int) [IntKind.wrap .i64 (((Ad ((Ad ((Ad xs).2)).2)).1))=(((((Ad ((Ad ((Ad xs).2)).2)).1)).toNat:Nat):Int)] ⟨Jp (AW _).1 h6,trivial⟩)] [20,21,22,23] 2 hS fun hS=>BV (Dn [11,24] 2 hS fun hS=>Ab (Ca (n:=0) (Ae [] 2 hS fun hS=>Au (Ai hS (CX ?_))))))
       by_cases h7:Be ((Ad ((Ad ((Ad xs).2)).2)).2) 1000=true
       ·exact Av [(1,AO (Gl ((Ad ((Ad ((Ad xs).2)).2)).2) 1000 AD Ac h7) [(0,0)] [])] [] 2 hS fun hS=>fqN (bH ..) hS
       ·have hK:FI xs=false:=(G0 xs).trans ((if_pos h1).trans ((if_neg h2).trans ((if_pos h3).trans ((if_neg h4).trans ((if_pos h5).trans ((if_neg h6).trans (if_neg h7)))))))
        rw[hK]at hk
        cases hk
     ·have hK:FI xs=false:=(G0 xs).trans ((if_pos h1).trans ((if_neg h2).trans ((if_pos h3).trans ((if_neg h4).trans (if_neg h5)))))
      rw[hK]at hk
      cases hk
   ·have hK:FI xs=false:=(G0 xs).trans ((if_pos h1).trans ((if_neg h2).trans (if_neg h3)))
    rw[hK]at hk
    cases hk
 ·have hK:FI xs=false:=(G0 xs).trans (if_neg h1)
  rw[hK]at hk
  cases hk
def bT:Con:=⟨[.cp 0 0,.cp 1 0],[(0,HD xs),(1,U8)],.v (.iface 44 (.int .i64 (((AE xs).1:Nat):Int))),[(1,N0 ((AE xs).2.1) ((AE xs).2.2.1) ((AE xs).2.2.2))]⟩
theorem pO (h:xs.length≤100000000000000) (hk:FI xs=false):GU Tryz.prog 141 (bT xs):=by
 refine Fi rfl (nb:=2) Tryz.func141 rfl rfl Tryz.ntmps141 rfl rfl rfl fun g0 w0 ac gs ws hg0 hS=> ?_
 have hS:=hS.sp
 refine JN ?_
 have hnn:=(AW xs).2
 have hn2:=Dr xs
 have hn3:=CS xs
 refine Dn [9] 2 hS fun hS=>Ab (Br (wp_loop_rounds 4 (Ca (n:=3) (Ae [] 2 hS fun hS=>Au (AQ hS (BG (Ay [(0,AG 0 3)] [13,14] 2 hS fun hS=>Au ?_)))))))
 by_cases h1:FN xs=true
 ·refine Av [(1,AO (HX xs AD h1) [(0,0)] [])] [15,16] 2 hS fun hS=>Ej (Ae [17] 2 hS fun hS=>AB ((1073741824:Int)<((Ad xs).1)) hS (fun h2=> ?_) (fun h2=> ?_))
  ·refine D2 (E:=E0) hZ [] trivial none (fun r hr=>by cases hr) 1 0 (fun _=>[]) (.v (.iface 44 (.int .i64 2))) [] [1] [] [(1,some (U8))] 2 (by kernel_rfl) trivial hS.st fun ac gs ws pv hS hpv=>AM (Bg (AM (AM (Bg (AM ?_)))))
   have hM:AE xs=(2,0,0,0):=(E2 xs).trans ((if_pos h1).trans (if_pos h2))
   exact KT rfl hS hpv (by show _=(.v (.iface 44 (.int .i64 (((AE xs).1:Nat):Int))):D);rw[hM]<;>rfl) (by show DK _ [(1,N0 ((AE xs).2.1) ((AE xs).2.2.1) ((AE xs).2.2.2))] true;rw[hM];first |(simp only[];exact⟨rfl,trivial⟩)|exact⟨rfl,trivial⟩)
  ·refine B5 (Av [(2,Rn (((((Ad xs).1)).toNat:Nat):Int) [IntKind.wrap .i64 (((Ad xs).1))=(((((Ad xs).1)).toNat:Nat):Int)] ⟨Jp (AW _).1 h2,trivial⟩)] [20,21,22,23] 2 hS fun hS=>BV (Dn [11,24] 2 hS fun hS=>Ab (Ca (n:=2) (Ae [] 2 hS fun hS=>Au (AQ hS (BG (Ay [(0,AG 1 3)] [13,14] 2 hS fun hS=>Au ?_)))))))
   by_cases h3:FN ((Ad xs).2)=true
   ·refine Av [(1,AO (HX ((Ad xs).2) AD h3) [(0,0)] [])] [15,16] 2 hS fun hS=>Ej (Ae [17] 2 hS fun hS=>AB ((1073741824:Int)<((Ad ((Ad xs).2)).1)) hS (fun h4=> ?_) (fun h4=> ?_))
    ·refine D2 (E:=E0) hZ [] trivial none (fun r hr=>by cases hr) 1 0 (fun _=>[]) (.v (.iface 44 (.int .i64 2))) [] [1] [] [(1,some (Afr ((((Ad xs).1)).toNat)))] 2 (by kernel_rfl) trivial hS.st fun ac gs ws pv hS hpv=>AM (Bg (AM (AM (Bg (AM ?_)))))
     have hM:AE xs=(2,((((Ad xs).1)).toNat),0,0):=(E2 xs).trans ((if_pos h1).trans ((if_neg h2).trans ((if_pos h3).trans (if_pos h4))))
     exact KT rfl hS hpv (by show _=(.v (.iface 44 (.int .i64 (((AE xs).1:Nat):Int))):D);rw[hM]<;>rfl) (by show DK _ [(1,N0 ((AE xs).2.1) ((AE xs).2.2.1) ((AE xs).2.2.2))] true;rw[hM];first |(simp only[];exact⟨rfl,trivial⟩)|exact⟨rfl,trivial⟩)
    ·refine B5 (Av [(2,Rn (((((Ad ((Ad xs).2)).1)).toNat:Nat):Int) [IntKind.wrap .i64 (((Ad ((Ad xs).2)).1))=(((((Ad ((Ad xs).2)).1)).toNat:Nat):Int)] ⟨Jp (AW _).1 h4,trivial⟩)] [20,21,22,23] 2 hS fun hS=>BV (Dn [11,24] 2 hS fun hS=>Ab (Ca (n:=1) (Ae [] 2 hS fun hS=>Au (AQ hS (BG (Ay [(0,AG 2 3)] [13,14] 2 hS fun hS=>Au ?_)))))))
     by_cases h5:FN ((Ad ((Ad xs).2)).2)=true
     ·refine Av [(1,AO (HX ((Ad ((Ad xs).2)).2) AD h5) [(0,0)] [])] [15,16] 2 hS fun hS=>Ej (Ae [17] 2 hS fun hS=>AB ((1073741824:Int)<((Ad ((Ad ((Ad xs).2)).2)).1)) hS (fun h6=> ?_) (fun h6=> ?_))
      ·refine D2 (E:=E0) hZ [] trivial none (fun r hr=>by cases hr) 1 0 (fun _=>[]) (.v (.iface 44 (.int .i64 2))) [] [1] [] [(1,some (Afq ((((Ad xs).1)).toNat) ((((Ad ((Ad xs).2)).1)).toNat)))] 2 (by kernel_rfl) trivial hS.st fun ac gs ws pv hS hpv=>AM (Bg (AM (AM (Bg (AM ?_)))))
       have hM:AE xs=(2,((((Ad xs).1)).toNat),((((Ad ((Ad xs).2)).1)).toNat),0):=(E2 xs).trans ((if_pos h1).trans ((if_neg h2).trans ((if_pos h3).trans ((if_neg h4).trans ((if_pos h5).trans (if_pos h6))))))
       exact KT rfl hS hpv (by show _=(.v (.iface 44 (.int .i64 (((AE xs).1:Nat):Int))):D);rw[hM]<;>rfl) (by show DK _ [(1,N0 ((AE xs).2.1) ((AE xs).2.2.1) ((AE xs).2.2.2))] true;rw[hM];first |(simp only[];exact⟨rfl,trivial⟩)|exact⟨rfl,trivial⟩)
      ·refine B5 (Av [(2,Rn (((((Ad ((Ad ((Ad xs).2)).2)).1)).toNat:Nat):Int) [IntKind.wrap .i64 (((Ad ((Ad ((Ad xs).2)).2)).1))=(((((Ad ((Ad ((Ad xs).2)).2)).1)).toNat:Nat):Int)] ⟨Jp (AW _).1 h6,trivial⟩)] [20,21,22,23] 2 hS fun hS=>BV (Dn [11,24] 2 hS fun hS=>Ab (Ca (n:=0) (Ae [] 2 hS fun hS=>Au (Ai hS (CX ?_))))))
       by_cases h7:Be ((Ad ((Ad ((Ad xs).2)).2)).2) 1000=true
       ·refine Av [(1,AO (Gl ((Ad ((Ad ((Ad xs).2)).2)).2) 1000 AD Ac h7) [(0,0)] [])] [] 2 hS fun hS=> ?_
        have hK:FI xs=true:=(G0 xs).trans ((if_pos h1).trans ((if_neg h2).trans ((if_pos h3).trans ((if_neg h4).trans ((if_pos h5).trans ((if_neg h6).trans (if_pos h7)))))))
        rw[hK]at hk
        cases hk
       ·refine D2 (E:=E0) hZ [] trivial (some ⟨102,(NU ((Ad ((Ad ((Ad xs).2)).2)).2) 1000),[(0,0)],[]⟩) (fun r hr=>by cases hr;exact TS ((Ad ((Ad ((Ad xs).2)).2)).2) 1000 AD Ac (Em h7)) 1 12 (fun _=>[nd [.cp 0 0,vi 1000] [some (HD ((Ad ((Ad ((Ad xs).2)).2)).2))]]) (.v (.iface 44 (.int .i64 ((BS ((Ad ((Ad ((Ad xs).2)).2)).2) 1000:Nat):Int)))) [] [1] [] [(1,some (N0 ((((Ad xs).1)).toNat) ((((Ad ((Ad xs).2)).1)).toNat) ((((Ad ((Ad ((Ad xs).2)).2)).1)).toNat)))] 2 (by kernel_rfl) ⟨rfl,trivial⟩ hS.st fun ac gs ws pv hS hpv=> ?_
        have hM:AE xs=((BS ((Ad ((Ad ((Ad xs).2)).2)).2) 1000),((((Ad xs).1)).toNat),((((Ad ((Ad xs).2)).1)).toNat),((((Ad ((Ad ((Ad xs).2)).2)).1)).toNat)):=(E2 xs).trans ((if_pos h1).trans ((if_neg h2).trans ((if_pos h3).trans ((if_neg h4).trans ((if_pos h5).trans (if_neg h6))))))
        exact KT rfl hS hpv (by show _=(.v (.iface 44 (.int .i64 (((AE xs).1:Nat):Int))):D);rw[hM]<;>rfl) (by show DK _ [(1,N0 ((AE xs).2.1) ((AE xs).2.2.1) ((AE xs).2.2.2))] true;rw[hM];first |(simp only[];exact⟨rfl,trivial⟩)|exact⟨rfl,trivial⟩)
     ·refine D2 (E:=E0) hZ [] trivial (some ⟨126,(MC ((Ad ((Ad xs).2)).2)),[(0,0)],[]⟩) (fun r hr=>by cases hr;exact L5 ((Ad ((Ad xs).2)).2) AD (Em h5)) 1 4 (fun _=>[nd [.cp 0 0] [some (HD ((Ad ((Ad xs).2)).2))]]) (.v (.iface 44 (.int .i64 2))) [] [1] [] [(1,some (Afq ((((Ad xs).1)).toNat) ((((Ad ((Ad xs).2)).1)).toNat)))] 2 (by kernel_rfl) ⟨rfl,trivial⟩ hS.st fun ac gs ws pv hS hpv=>AM (Bg (AM (AM (Bg (AM ?_)))))
      have hM:AE xs=(2,((((Ad xs).1)).toNat),((((Ad ((Ad xs).2)).1)).toNat),0):=(E2 xs).trans ((if_pos h1).trans ((if_neg h2).trans ((if_pos h3).trans ((if_neg h4).trans (if_neg h5)))))
      exact KT rfl hS hpv (by show _=(.v (.iface 44 (.int .i64 (((AE xs).1:Nat):Int))):D);rw[hM]<;>rfl) (by show DK _ [(1,N0 ((AE xs).2.1) ((AE xs).2.2.1) ((AE xs).2.2.2))] true;rw[hM];first |(simp only[];exact⟨rfl,trivial⟩)|exact⟨rfl,trivial⟩)
   ·refine D2 (E:=E0) hZ [] trivial (some ⟨126,(MC ((Ad xs).2)),[(0,0)],[]⟩) (fun r hr=>by cases hr;exact L5 ((Ad xs).2) AD (Em h3)) 1 4 (fun _=>[nd [.cp 0 0] [some (HD ((Ad xs).2))]]) (.v (.iface 44 (.int .i64 2))) [] [1] [] [(1,some (Afr ((((Ad xs).1)).toNat)))] 2 (by kernel_rfl) ⟨rfl,trivial⟩ hS.st fun ac gs ws pv hS hpv=>AM (Bg (AM (AM (Bg (AM ?_)))))
    have hM:AE xs=(2,((((Ad xs).1)).toNat),0,0):=(E2 xs).trans ((if_pos h1).trans ((if_neg h2).trans (if_neg h3)))
    exact KT rfl hS hpv (by show _=(.v (.iface 44 (.int .i64 (((AE xs).1:Nat):Int))):D);rw[hM]<;>rfl) (by show DK _ [(1,N0 ((AE xs).2.1) ((AE xs).2.2.1) ((AE xs).2.2.2))] true;rw[hM];first |(simp only[];exact⟨rfl,trivial⟩)|exact⟨rfl,trivial⟩)
 ·refine D2 (E:=E0) hZ [] trivial (some ⟨126,(MC xs),[(0,0)],[]⟩) (fun r hr=>by cases hr;exact L5 xs AD (Em h1)) 1 4 (fun _=>[nd [.cp 0 0] [some (HD xs)]]) (.v (.iface 44 (.int .i64 2))) [] [1] [] [(1,some (U8))] 2 (by kernel_rfl) ⟨rfl,trivial⟩ hS.st fun ac gs ws pv hS hpv=>AM (Bg (AM (AM (Bg (AM ?_)))))
  have hM:AE xs=(2,0,0,0):=(E2 xs).trans (if_neg h1)
  exact KT rfl hS hpv (by show _=(.v (.iface 44 (.int .i64 (((AE xs).1:Nat):Int))):D);rw[hM]<;>rfl) (by show DK _ [(1,N0 ((AE xs).2.1) ((AE xs).2.2.1) ((AE xs).2.2.2))] true;rw[hM];first |(simp only[];exact⟨rfl,trivial⟩)|exact⟨rfl,trivial⟩)
theorem JM:(Bw xs).1.length≤xs.length:=by
 have h3:=CS xs
 have h4:=(AW (Ad (Ad (Ad xs).2).2).2).2
 rw[bH]
 show(List.drop _ _).length≤_
 rw[List.length_drop]
 omega
theorem Fg:0<(AE xs).1:=by
 rw[E2];unfold Mz
 repeat' (first |exact(by decide:(0:Nat)<2)|exact GW _ _|split)
def TM:Bool:=if FI xs=true then(if E8 ((Bw xs).1)=true then true else false)else false
def J1:Bool:=AJ (TM xs)
theorem PO:J1 xs=TM xs:=Af _
def LH:Nat×Nat×Nat×Nat×(List Int):=if FI xs=true then(2,((Bw xs).2.1),((Bw xs).2.2.1),((Bw xs).2.2.2.1),(Bw xs).2.2.2.2)else(((AE xs).1),((AE xs).2.1),((AE xs).2.2.1),((AE xs).2.2.2),[])
def Bp:Nat×Nat×Nat×Nat×(List Int):=AJ (LH xs)
theorem LI:Bp xs=LH xs:=Af _
def lE:Nat×Nat×Nat×(List Int):=(((Bw xs).2.1),((Bw xs).2.2.1),((Bw xs).2.2.2.1),(Bw xs).2.2.2.2)
def BX:Nat×Nat×Nat×(List Int):=AJ (lE xs)
theorem lH:BX xs=lE xs:=Af _
def Ae1 (z_:Nat×Nat×Nat×(List Int):=BX xs):Con:=⟨[lb xs,.fn 141 (chain []) (chain [.cp 0 0])],[(0,U8)],vi 0,[(0,N1 z_.1 z_.2.1 z_.2.2.1 (z_.2.2.2))]⟩
theorem Abv (h:xs.length≤100000000000000) (hk:J1 xs=true):ConOk Tryz.prog 59 (Ae1 xs):=by
 refine Fj rfl (nb:=1) Tryz.func59 rfl rfl Tryz.ntmps59 rfl rfl rfl fun g0 w0 ac gs ws hg0 hS=> ?_
 have A6:xs.length≤9223372036854775807:=hS.len 0 rfl
 have hS:=hS.sp
 refine Ae [] 2 hS fun hS=>Au ?_
 have hS:=hS.rv [(0,lb xs),(1,.fn 141 (chain []) (chain [.cp 0 0])),(4,.cp 1 0)] [(0,some (U8)),(1,some (EA))]
 refine JL rfl hS (cs:=[.cp 1 0]) rfl rfl rfl fun D vds ac hD hcv hB hS=> ?_
 have hS:=hS.sp
 refine Ab (Ay [(1,AO (L6 xs AD) [] [(0,2)])] [] 3 hS fun hS=>Au (Ae [] 3 hS fun hS=>AQ hS ?_))
 have hz:=Fg xs
 by_cases h1:FI xs=true
 ·have hz:=Fg xs
  refine Av [(2,AO (pQ xs AD h1) [(0,2),(1,0)] [])] [] 3 hS fun hS=>Ej ?_
  have hpl:=JM xs
  by_cases h2:E8 ((Bw xs).1)=true
  ·have hpl:=JM xs
   refine Av [(1,AO (Og ((Bw xs).1) h2) [(0,2)] [])] [] 3 hS fun hS=>Ab (Ae [] 3 hS fun hS=>AU ?_)
   have hM:BX xs=(((Bw xs).2.1),((Bw xs).2.2.1),((Bw xs).2.2.2.1),(Bw xs).2.2.2.2):=lH xs
   have hS:=hS.rv [(4,.cp 1 0)] [(0,some (N1 ((Bw xs).2.1) ((Bw xs).2.2.1) ((Bw xs).2.2.2.1) ((Bw xs).2.2.2.2))),(1,some (EA))]
   exact Qx (.inr rfl) hS hD (Gt ⟨88,(OE),[(0,1)],[]⟩ [(1,some (EA)),(0,some (N1 ((Bw xs).2.1) ((Bw xs).2.2.1) ((Bw xs).2.2.2.1) ((Bw xs).2.2.2.2))),(1,some (EA))] hB hS hcv (show FrameMode.returning≠ .run from nofun) rfl rfl rfl (PH) rfl ⟨rfl,trivial⟩ rfl (ds:=[vi 0]) (by kernel_rfl) rfl (by show DK _ [(0,N1 ((BX xs).1) ((BX xs).2.1) ((BX xs).2.2.1) ((BX xs).2.2.2))] true;first |exact⟨rfl,trivial⟩|(rw[hM];first |(simp only[];exact⟨rfl,trivial⟩)|exact⟨rfl,trivial⟩)))
  ·have hpl:=JM xs
   have hK:J1 xs=false:=(PO xs).trans ((if_pos h1).trans (if_neg h2))
   rw[hK]at hk
   cases hk
 ·have hz:=Fg xs
  have hK:J1 xs=false:=(PO xs).trans (if_neg h1)
  rw[hK]at hk
  cases hk
def y9:Con:=⟨[lb xs,.fn 141 (chain []) (chain [.cp 0 0])],[(0,U8)],vi (((Bp xs).1:Nat):Int),[(0,N1 ((Bp xs).2.1) ((Bp xs).2.2.1) ((Bp xs).2.2.2.1) ((Bp xs).2.2.2.2))]⟩
theorem lF (h:xs.length≤100000000000000) (hk:J1 xs=false):ConOk Tryz.prog 59 (y9 xs):=by
 refine Fj rfl (nb:=1) Tryz.func59 rfl rfl Tryz.ntmps59 rfl rfl rfl fun g0 w0 ac gs ws hg0 hS=> ?_
 have A6:xs.length≤9223372036854775807:=hS.len 0 rfl
 have hS:=hS.sp
 refine Ae [] 2 hS fun hS=>Au ?_
 have hS:=hS.rv [(0,lb xs),(1,.fn 141 (chain []) (chain [.cp 0 0])),(4,.cp 1 0)] [(0,some (U8)),(1,some (EA))]
 refine JL rfl hS (cs:=[.cp 1 0]) rfl rfl rfl fun D vds ac hD hcv hB hS=> ?_
 have hS:=hS.sp
 refine Ab (Ay [(1,AO (L6 xs AD) [] [(0,2)])] [] 3 hS fun hS=>Au (Ae [] 3 hS fun hS=>AQ hS ?_))
 have hz:=Fg xs
 by_cases h1:FI xs=true
 ·have hz:=Fg xs
  refine Av [(2,AO (pQ xs AD h1) [(0,2),(1,0)] [])] [] 3 hS fun hS=>Ej ?_
  have hpl:=JM xs
  by_cases h2:E8 ((Bw xs).1)=true
  ·have hpl:=JM xs
   refine Av [(1,AO (Og ((Bw xs).1) h2) [(0,2)] [])] [] 3 hS fun hS=>Ab (Ae [] 3 hS fun hS=>AU ?_)
   have hK:J1 xs=true:=(PO xs).trans ((if_pos h1).trans (if_pos h2))
   rw[hK]at hk
   cases hk
  ·have hpl:=JM xs
   refine D2 (E:=E0) hZ [] trivial (some ⟨90,(Xl ((Bw xs).1)),[(0,2)],[]⟩) (fun r hr=>by cases hr;exact dH ((Bw xs).1) (Em h2)) 1 0 (fun _=>[nd [.cp 2 0] [some (HD ((Bw xs).1))]]) (.v (.iface 44 (.int .i64 2))) [4] [0,1] [(4,.cp 1 0)] [(0,some (N1 ((Bw xs).2.1) ((Bw xs).2.2.1) ((Bw xs).2.2.2.1) ((Bw xs).2.2.2.2))),(1,some (EA))] 3 (by kernel_rfl) ⟨rfl,trivial⟩ hS.st fun ac gs ws pv hS hpv=>AM ?_
   obtain rfl:=hpv.v_of
   have hM:Bp xs=(2,((Bw xs).2.1),((Bw xs).2.2.1),((Bw xs).2.2.2.1),(Bw xs).2.2.2.2):=(LI xs).trans (if_pos h1)
   exact oD hS hD (Gt ⟨88,(UV 2),[(0,1)],[]⟩ [(1,some (.ob 44 (chain [vi 2]))),(0,some (N1 ((Bw xs).2.1) ((Bw xs).2.2.1) ((Bw xs).2.2.2.1) ((Bw xs).2.2.2.2))),(1,some (EA))] hB hS hcv (show FrameMode.panicking _≠ .run from nofun) rfl rfl rfl (VX 2 Ac) rfl ⟨rfl,trivial⟩ rfl (ds:=[vi 2]) (by kernel_rfl) (by show weak _ (vi (((Bp xs).1:Nat):Int))=(vi (((Bp xs).1:Nat):Int));first |rfl|(rw[hM];first |(simp only[];rfl)|(simp only[];done)|rfl)) (by show DK _ [(0,N1 ((Bp xs).2.1) ((Bp xs).2.2.1) ((Bp xs).2.2.2.1) ((Bp xs).2.2.2.2))] true;first |exact⟨rfl,trivial⟩|(rw[hM];first |(simp only[];exact⟨rfl,trivial⟩)|exact⟨rfl,trivial⟩)))
 ·have hz:=Fg xs
  refine D2 (E:=E0) hZ [] trivial (some ⟨141,(bT xs),[(0,2),(1,0)],[]⟩) (fun r hr=>by cases hr;exact pO xs AD (Em h1)) 2 0 (fun _=>[nd [.cp 2 0,.cp 0 0] [some (HD xs),some (U8)]]) (.v (.iface 44 (.int .i64 (((AE xs).1:Nat):Int)))) [4] [0,1] [(4,.cp 1 0)] [(0,some (N0 ((AE xs).2.1) ((AE xs).2.2.1) ((AE xs).2.2.2))),(1,some (EA))] 3 (by kernel_rfl) ⟨rfl,trivial⟩ hS.st fun ac gs ws pv hS hpv=>AM ?_
  have hS:=hS.wko 0 [.top,.top,.top,lb []] rfl (H':=[(0,some (N1 ((AE xs).2.1) ((AE xs).2.2.1) ((AE xs).2.2.2) [])),(0,some (N0 ((AE xs).2.1) ((AE xs).2.2.1) ((AE xs).2.2.2))),(1,some (EA))]) (by kernel_rfl)
  obtain rfl:=hpv.v_of
  have hM:Bp xs=(((AE xs).1),((AE xs).2.1),((AE xs).2.2.1),((AE xs).2.2.2),[]):=(LI xs).trans (if_neg h1)
  exact oD hS hD (Gt ⟨88,(UV ((AE xs).1)),[(0,1)],[]⟩ [(1,some (.ob 44 (chain [vi ((((AE xs).1):Nat):Int)]))),(0,some (N1 ((AE xs).2.1) ((AE xs).2.2.1) ((AE xs).2.2.2) [])),(0,some (N0 ((AE xs).2.1) ((AE xs).2.2.1) ((AE xs).2.2.2))),(1,some (EA))] hB hS hcv (show FrameMode.panicking _≠ .run from nofun) rfl rfl rfl (VX ((AE xs).1) Ac) rfl ⟨rfl,trivial⟩ rfl (ds:=[vi ((((AE xs).1):Nat):Int)]) (by kernel_rfl) (by show weak _ (vi (((Bp xs).1:Nat):Int))=(vi (((Bp xs).1:Nat):Int));first |rfl|(rw[hM];first |(simp only[];rfl)|(simp only[];done)|rfl)) (by show DK _ [(0,N1 ((Bp xs).2.1) ((Bp xs).2.2.1) ((Bp xs).2.2.2.1) ((Bp xs).2.2.2.2))] true;first |exact⟨rfl,trivial⟩|(rw[hM];first |(simp only[];exact⟨rfl,trivial⟩)|exact⟨rfl,trivial⟩)))
end
theorem TT {ys:List Int} {m:Nat} (h:Be ys m=true):(Ad ys).1.toNat≤m:=by
 rw[E9]at h;unfold Gm at h
 split at h
 ·rename_i h1
  rw[G_]at h1;unfold IF at h1
  split at h1
  ·split at h1
   ·cases h1
   ·omega
  ·cases h1
 ·cases h
def pcB (i a c:Nat) (d:List Int):Prop:=(i≤100000000000∧a≤100000000000∧c≤100000000000)∧d.length≤100000
theorem pR {xs:List Int} (hk:FI xs=true):pcB (Bw xs).2.1 (Bw xs).2.2.1 (Bw xs).2.2.2.1 (Bw xs).2.2.2.2:=by
 rw[bH];rw[G0]at hk;unfold UH at hk;unfold bG
 split at hk
 ·split at hk
  ·cases hk
  ·split at hk
   ·split at hk
    ·cases hk
    ·split at hk
     ·split at hk
      ·cases hk
      ·split at hk
       ·rename_i h7
        have h8:=TT h7
        refine⟨⟨?_,?_,?_⟩,?_⟩
        ·show Int.toNat _≤_;omega
        ·show Int.toNat _≤_;omega
        ·show Int.toNat _≤_;omega
        ·show(List.take _ _).length≤_
         rw[List.length_take];omega
       ·cases hk
     ·cases hk
   ·cases hk
 ·cases hk
theorem pP (xs:List Int):pcB (AE xs).2.1 (AE xs).2.2.1 (AE xs).2.2.2 []:=by
 rw[E2];unfold Mz
 have z:(0:Nat)≤100000000000:=by decide
 have f:∀y:Int,¬1073741824<y→y.toNat≤100000000000:=fun y hy=>by omega
 repeat' (first |exact⟨⟨z,z,z⟩,by decide⟩|exact⟨⟨f _ BC,z,z⟩,by decide⟩|exact⟨⟨f _ BC,f _ BC,z⟩,by decide⟩|exact⟨⟨f _ BC,f _ BC,f _ BC⟩,by decide⟩|split)
theorem Abw {xs:List Int} (hk:J1 xs=true):pcB (BX xs).1 (BX xs).2.1 (BX xs).2.2.1 (BX xs).2.2.2:=by
 rw[lH];rw[PO]at hk;unfold TM at hk
 split at hk
 ·rename_i h;exact pR h
 ·cases hk
section
variable (xs:List Int)
theorem lG:pcB (Bp xs).2.1 (Bp xs).2.2.1 (Bp xs).2.2.2.1 (Bp xs).2.2.2.2:=by
 rw[LI];unfold LH
 split
 ·rename_i h;exact pR h
 ·exact pP xs
theorem dJ:0<(Bp xs).1:=by
 rw[LI];unfold LH
 split
 ·exact(by decide:(0:Nat)<2)
 ·exact Fg xs
def QR:Nat×Nat×Nat×(List Int)×Nat:=if J1 xs=true then(if(((FH ((BX xs).1) ((BX xs).2.1) ((BX xs).2.2.1) ((BX xs).2.2.2)).2:Nat):Int)=0 then(if((FH ((BX xs).1) ((BX xs).2.1) ((BX xs).2.2.1) ((BX xs).2.2.2)).1)=xs then(((BX xs).1),((BX xs).2.1),((BX xs).2.2.1),(BX xs).2.2.2,0)else(0,0,0,[],2))else(0,0,0,[],2))else(0,0,0,[],2)
def QS:Nat×Nat×Nat×(List Int)×Nat:=AJ (QR xs)
theorem Jd:QS xs=QR xs:=Af _
def Xo (z_:Nat×Nat×Nat×(List Int)×Nat:=QS xs):Con:=⟨[lb xs],[],.tu (chain [.ag (chain [vi ((z_.1:Nat):Int),vi ((z_.2.1:Nat):Int),vi ((z_.2.2.1:Nat):Int),lb (z_.2.2.2.1)]),vi ((z_.2.2.2.2:Nat):Int)]),[]⟩
theorem eS (h:xs.length≤100000000000000):ConOk Tryz.prog 108 (Xo xs):=by
 refine cy 0 Tryz.func108 rfl Tryz.ntmps108 fun hg0 hS=> ?_
 have A6:xs.length≤9223372036854775807:=hS.len 0 rfl
 refine Ae [] 1 hS fun hS=>Ae [] 2 hS fun hS=>Au ?_
 by_cases h1:J1 xs=true
 ·refine Av [(2,AO (Abv xs AD h1) [(0,1)] [])] [] 2 hS fun hS=> ?_
  have hpb:=Abw h1
  have hpc:=hpb.1
  have hpd:=hpb.2
  refine Ab (Ay [(1,AR (Nq ((BX xs).1) ((BX xs).2.1) ((BX xs).2.2.1) ((BX xs).2.2.2) Ac AD))] [] 2 hS fun hS=>JN ?_)
  by_cases h2:(((FH ((BX xs).1) ((BX xs).2.1) ((BX xs).2.2.1) ((BX xs).2.2.2)).2:Nat):Int)=0
  ·refine Av [(4,Ik h2),(9,AR (Ei ((FH ((BX xs).1) ((BX xs).2.1) ((BX xs).2.2.1) ((BX xs).2.2.2)).1) xs))] [] 2 hS fun hS=>Ab (Is (((FH ((BX xs).1) ((BX xs).2.1) ((BX xs).2.2.1) ((BX xs).2.2.2)).1)=xs) hS (fun h3=> ?_) (fun h3=> ?_))
   ·refine Ae [] 2 hS fun hS=>AU (Ah ?_)
    have hS:=hS.wko 0 [.top,.top,.top,lb []]
    exact Bh (.trans (Jd ..) ((if_pos h1).trans ((if_pos h2).trans (if_neg h3)))) hS
   ·exact B5 (Ae [] 2 hS fun hS=>AU (Bh (.trans (Jd ..) ((if_pos h1).trans ((if_pos h2).trans (if_pos h3)))) hS))
  ·refine Av [(4,Rnt h2)] [] 2 hS fun hS=>Ab (AQ hS (Ae [] 2 hS fun hS=>AU (Ah ?_)))
   have hS:=hS.wko 0 [.top,.top,.top,lb []]
   exact Bh (.trans (Jd ..) ((if_pos h1).trans (if_neg h2))) hS
 ·refine Av [(2,AO (lF xs AD (Em h1)) [(0,1)] [])] [] 2 hS fun hS=> ?_
  have hpb:=lG xs
  have hpc:=hpb.1
  have hpd:=hpb.2
  have hpp:=dJ xs
  have hp0:¬(((Bp xs).1:Nat):Int)=0:=by omega
  refine Ab (Ay [(1,AR (Nq ((Bp xs).2.1) ((Bp xs).2.2.1) ((Bp xs).2.2.2.1) ((Bp xs).2.2.2.2) Ac AD))] [] 2 hS fun hS=>Au (Ay [(1,Rnt hp0)] [] 2 hS fun hS=>AQ hS (Ae [] 2 hS fun hS=>AU (Ah ?_))))
  have hS:=hS.wko 0 [.top,.top,.top,lb []]
  exact Bh (.trans (Jd ..) (if_neg h1)) hS
end
end
end Go.Sx.Tryz
namespace Go.Sx.Tryz
open Go.Mi Go.RowKit Go.Sx Go.Proofs
noncomputable section
section
variable (x0:Nat)
def AdK:O:= .ob 126 (chain [vi ((x0:Nat):Int),vi 1,vi 0,vi 0,.v (.slice none 0 0),.v (.slice none 0 0),.v (.pointer none),.v (.slice none 0 0)])
def AdJ (x1 x2:Nat):O:= .ob 187 (chain [vi ((x0:Nat):Int),vi ((x1:Nat):Int),vi 1088,.sk x2])
def AdI:O:= .ob 126 (chain [vi ((x0:Nat):Int),vi 2,vi 0,vi 0,.v (.slice none 0 0),.v (.slice none 0 0),.v (.pointer none),.v (.slice none 0 0)])
def AdH (x1 x2:Nat):O:= .ob 187 (chain [vi ((x0:Nat):Int),vi ((x1:Nat):Int),vi 1184,.sk x2])
end
theorem eW {ln sz:Nat} (h:1≤ln∧ln≤10000) (hz:1≤sz):1≤(ln+sz-1)/sz∧(ln+sz-1)/sz≤10000:=
 ⟨(Nat.le_div_iff_mul_le Ac).2 Ac,Nat.le_trans (YQ hz) h.2⟩
section
variable (sz ep:Nat)
def r9:Con:=⟨[.cp 0 0,vi (ep:Int)],[(0,AdK sz)],.cp 1 0,[(0,AdK sz),(1,AdJ ((2*ep)+1) sz 2),(2,.sl 22 [.os (.int .u8)] (List.replicate (((1088+sz)-1)/sz) none))]⟩
theorem eR (hz:1≤sz∧sz≤1000) (he:ep≤500000000):ConOk Tryz.prog 114 (r9 sz ep):=by
 refine cy 1 Tryz.func114 rfl Tryz.ntmps114 fun hg0 hS=>EO [] 1 hS fun hS=>G5 [(1,GE 2 ep (2*ep))] [] 1 hS fun hS=>Au (EO [] 1 hS fun hS=>AQ hS (Rl [(1,GE 2 ep (2*ep)),(2,DI (2*ep) 1 ((2*ep)+1))] [] 1 hS fun hS=>Ej ?_))
 have hcb:=eW (ln:=1088) (sz:=sz) (by decide) hz.1
 exact Rl [(6,DI 1088 sz (1088+sz)),(7,GD (1088+sz) 1 ((1088+sz)-1)),(12,Td ((1088+sz)-1) sz),(18,AO (MG ((2*ep)+1) (((1088+sz)-1)/sz) sz 1088 Ac Ac) [] [(0,1),(1,2)])] [] 3 hS fun hS=>Ab (EO [] 3 hS fun hS=>AU (Ci hS))
def r8:Con:=⟨[.cp 0 0,vi (ep:Int)],[(0,AdI sz)],.cp 1 0,[(0,AdI sz),(1,AdH (2*ep) sz 2),(2,.sl 22 [.os (.int .u8)] (List.replicate (((1184+sz)-1)/sz) none))]⟩
theorem eQ (hz:1≤sz∧sz≤1000) (he:ep≤500000000):ConOk Tryz.prog 114 (r8 sz ep):=by
 refine cy 1 Tryz.func114 rfl Tryz.ntmps114 fun hg0 hS=>EO [] 1 hS fun hS=>G5 [(1,GE 2 ep (2*ep))] [] 1 hS fun hS=>Au (EO [] 1 hS fun hS=>Ai hS (EK ?_))
 have hcb:=eW (ln:=1184) (sz:=sz) (by decide) hz.1
 exact Rl [(6,DI 1184 sz (1184+sz)),(7,GD (1184+sz) 1 ((1184+sz)-1)),(12,Td ((1184+sz)-1) sz),(18,AO (MG (2*ep) (((1184+sz)-1)/sz) sz 1184 Ac Ac) [] [(0,1),(1,2)])] [] 3 hS fun hS=>Ab (EO [] 3 hS fun hS=>AU (Ci hS))
def rY:Con:=⟨[.cp 0 0,vi (ep:Int)],[(0,AdK sz)],.cp 0 0,[(0,.ob 126 (chain [vi (sz:Int),vi 1,vi (ep:Int),vi 0,.v (.slice none 0 0),.v (.slice none 0 0),.cp 1 0,.v (.slice none 0 0)])),(1,AdJ ((2*ep)+1) sz 2),(2,.sl 22 [.os (.int .u8)] (List.replicate (((1088+sz)-1)/sz) none))]⟩
theorem eB (hz:1≤sz∧sz≤1000) (he:ep≤500000000):ConOk Tryz.prog 77 (rY sz ep):=by
 exact cy 1 Tryz.func77 rfl Tryz.ntmps77 fun hg0 hS=>EO [] 1 hS fun hS=>G5 [(8,AO (eR sz ep Ac Ac) [(0,0)] [(1,1),(2,2)])] [] 3 hS fun hS=>EO [] 3 hS fun hS=>AU (Ci hS)
def rW:Con:=⟨[.cp 0 0,vi (ep:Int)],[(0,AdI sz)],.cp 0 0,[(0,.ob 126 (chain [vi (sz:Int),vi 2,vi (ep:Int),vi 0,.v (.slice none 0 0),.v (.slice none 0 0),.cp 1 0,.v (.slice none 0 0)])),(1,AdH (2*ep) sz 2),(2,.sl 22 [.os (.int .u8)] (List.replicate (((1184+sz)-1)/sz) none))]⟩
theorem d9 (hz:1≤sz∧sz≤1000) (he:ep≤500000000):ConOk Tryz.prog 77 (rW sz ep):=by
 exact cy 1 Tryz.func77 rfl Tryz.ntmps77 fun hg0 hS=>EO [] 1 hS fun hS=>G5 [(8,AO (eQ sz ep Ac Ac) [(0,0)] [(1,1),(2,2)])] [] 3 hS fun hS=>EO [] 3 hS fun hS=>AU (Ci hS)
end
section
variable (sz:Nat)
def Add:Con:=⟨[.v (.bool true),vi (sz:Int)],[],.tu (chain [.cp 0 0,vi 0]),[(0,.ob 126 (chain [vi (sz:Int),vi 1,vi 0,vi 0,.v (.slice none 0 0),.v (.slice none 0 0),.cp 1 0,.v (.slice none 0 0)])),(1,AdJ ((2*0)+1) sz 2),(2,.sl 22 [.os (.int .u8)] (List.replicate (((1088+sz)-1)/sz) none))]⟩
theorem vV (hz:10≤sz∧sz≤1000):ConOk Tryz.prog 44 (Add sz):=by
 refine cy 0 Tryz.func44 rfl Tryz.ntmps44 fun hg0 hS=> ?_
 have hs1:¬(sz:Int)<10:=Ac
 have hs2:¬(1000:Int)<(sz:Int):=Ac
 exact EO [] 0 hS fun hS=>Au (G5 [(1,Ez hs1),(4,Ez hs2)] [] 0 hS fun hS=>Ai hS (B5 (EO [] 1 hS fun hS=>Au (EO [] 1 hS fun hS=>AQ hS (ugQ [] 1 hS fun hS=>Ab (G5 [(1,AO (eB sz 0 Ac Ac) [(0,0)] [(1,1),(2,2)])] [] 3 hS fun hS=>AU (Ci hS)))))))
def Adc:Con:=⟨[.v (.bool false),vi (sz:Int)],[],.tu (chain [.cp 0 0,vi 0]),[(0,.ob 126 (chain [vi (sz:Int),vi 2,vi 0,vi 0,.v (.slice none 0 0),.v (.slice none 0 0),.cp 1 0,.v (.slice none 0 0)])),(1,AdH (2*0) sz 2),(2,.sl 22 [.os (.int .u8)] (List.replicate (((1184+sz)-1)/sz) none))]⟩
theorem vU (hz:10≤sz∧sz≤1000):ConOk Tryz.prog 44 (Adc sz):=by
 refine cy 0 Tryz.func44 rfl Tryz.ntmps44 fun hg0 hS=> ?_
 have hs1:¬(sz:Int)<10:=Ac
 have hs2:¬(1000:Int)<(sz:Int):=Ac
 exact EO [] 0 hS fun hS=>Au (G5 [(1,Ez hs1),(4,Ez hs2)] [] 0 hS fun hS=>Ai hS (B5 (EO [] 1 hS fun hS=>Au (EO [] 1 hS fun hS=>Ai hS (B5 (G5 [(1,AO (d9 sz 0 Ac Ac) [(0,0)] [(1,1),(2,2)])] [] 3 hS fun hS=>AU (Ci hS)))))))
end
theorem AaR {l:List PcR} {j:Nat} {x:PcR} (z:PcR) (h:l[j]? =some x):l.getD j z=x:=by
 rw[List.getD_eq_getElem?_getD,h];rfl
section
variable (id:Nat) (xs:List Int)
theorem AbI (sz n j:Nat) (hj:j<n):(Oj id xs sz (List.range n))[j]? =some ((id:Int),(j:Int),(0:Int),(xs.drop (j*sz)).take sz):=by
 unfold Oj
 rw[List.getElem?_eq_getElem (by rw[List.length_mapIdx,List.length_range];exact hj),List.getElem_mapIdx,List.getElem_range]
theorem XU (id:Nat) (xs:List Int) (sz:Nat):∀i,(Dp id xs sz i).length=(xs.length+sz-1)/sz∧∀j,j<(xs.length+sz-1)/sz→(Dp id xs sz i)[j]? =some ((id:Int),((j:Nat):Int),((if j<i then(xs.length+sz-1)/sz else 0:Nat):Int),(xs.drop (j*sz)).take sz)
 | 0 => ⟨by show (Oj ..).length = _; rw [LR, List.length_range], fun j hj => by
   rw[if_neg (Nat.not_lt_zero j)]
   exact AbI id xs sz _ j hj⟩
 |i+1=>by
  obtain⟨h1,h2⟩:=XU id xs sz i
  have e:∃v:PcR,Dp id xs sz (i+1)=(Dp id xs sz i).set i v∧∀x:PcR,(Dp id xs sz i)[i]? =some x→v=(x.1,x.2.1,(((Dp id xs sz i).length:Nat):Int),x.2.2.2):=⟨_,rfl,fun x hx=>congrArg (fun q:PcR=>(q.1,q.2.1,(((Dp id xs sz i).length:Nat):Int),q.2.2.2)) (AaR _ hx)⟩
  obtain⟨v,e,hv⟩:=e
  rw[e]
  refine⟨by rw[List.length_set,h1],fun j hj=> ?_⟩
  by_cases hji:i=j
  ·subst hji
   rw[List.getElem?_set_self (by rw[h1];exact hj),hv _ (h2 i hj),h1,if_pos (Nat.lt_succ_self i)]
  ·rw[List.getElem?_set_ne hji,h2 j hj]
   by_cases h3:j<i
   ·rw[if_pos h3,if_pos Ac]
   ·rw[if_neg h3,if_neg Ac]
theorem GK (sz:Nat):(Al id xs sz).length=(xs.length+sz-1)/sz:=by
 rw[Tn];exact(XU id xs sz _).1
theorem N7 (sz i:Nat) (hi:i<(Al id xs sz).length):(Al id xs sz).getD i (rz [.int .i64,.int .i64,.int .i64,.sl (.int .u8)])=((id:Int),(i:Int),(((Al id xs sz).length:Nat):Int),(xs.drop (i*sz)).take sz):=by
 refine AaR _ ?_
 rw[GK]at hi
 rw[GK,Tn]
 unfold Tm
 rw[(XU id xs sz _).2 i hi,if_pos (by rw[LR,List.length_range];exact hi)]
end
end
end Go.Sx.Tryz
namespace Go.Sx.Tryz
open Go.Mi Go.RowKit Go.Sx Go.Proofs
noncomputable section
def Ds (id ai ct:Nat) (d:List Int):List Int:=Aj id++Aj ai++Aj ct++Aj d.length++d
theorem WV {id ai ct:Nat} {d:List Int} (h:id≤1073741824∧ct≤1073741824∧ai<ct) (hd:1≤d.length∧d.length≤1000):FH id ai ct d=(Ds id ai ct d,0):=by
 rw[Gx];unfold QF
 rw[if_pos (O1 ⟨by omega,by omega⟩),if_pos (O1 ⟨by omega,by omega⟩),if_pos (O1 ⟨by omega,by omega⟩),if_neg Ac,if_neg Ac]
 rfl
section
variable (id ai ct:Nat) (d:List Int)
def gA:Con:=⟨[.ag (chain [vi (id:Int),vi (ai:Int),vi (ct:Int),lb d])],[],.tu (chain [lb (Ds id ai ct d),vi 0]),[]⟩
theorem H8 (h:id≤1073741824∧ct≤1073741824∧ai<ct) (hd:1≤d.length∧d.length≤1000):ConOk Tryz.prog 80 (gA id ai ct d):=by
 have h1:=Nq id ai ct d Ac Ac
 unfold Xn at h1
 rw[WV h hd]at h1
 exact h1
end
theorem To {xs:List Int} {sz i:Nat} (hz:1≤sz) (hi:i<(xs.length+sz-1)/sz):1≤((xs.drop (i*sz)).take sz).length∧((xs.drop (i*sz)).take sz).length≤sz:=by
 have h:=(UP (len:=xs.length) hz i).1 hi
 rw[List.length_take,List.length_drop];omega
end
end Go.Sx.Tryz
namespace Go.Sx.Tryz
open Go.Mi Go.RowKit Go.Sx Go.Proofs
noncomputable section
section
variable (l:List (Option (List Int)))
def rM:Con:=⟨[.ls true [.os (.int .u8)] l],[],.sk 0,[(0,.sl 22 [.os (.int .u8)] l)]⟩
theorem dV (h:l.length≤100000000):ConOk Tryz.prog 63 (rM l):=by
 refine cy 0 Tryz.func63 rfl Tryz.ntmps63 fun hg0 hS=> ?_
 have A6:l.length≤9223372036854775807:=hS.len 0 rfl
 refine EO [] 0 hS fun hS=>Au (EO [] 0 hS fun hS=>Ai hS (B5 (G5 [(0,Row),(2,Ge 0 l.length 24)] [] 2 hS fun hS=>AU ?_)))
 obtain⟨gs,hS⟩:=hS.rx [(0,1)] [2] [0] 1 hg0
 exact Ci hS
end
def zU:Con:=⟨[.v (.slice none 0 0),.v .nilFunc],[],.v (.slice none 0 0),[]⟩
theorem pJ:ConOk Tryz.prog 96 (zU):=by
 exact cy 0 Tryz.func96 rfl Tryz.ntmps96 fun hg0 hS=>Ae [] 0 hS fun hS=>Au (Ae [] 0 hS fun hS=>AQ hS (Dn [] 0 hS fun hS=>Ej (Ae [9] 0 hS fun hS=>Br (wp_loop_rounds 1 (Ca (n:=0) (Ae [] 0 hS fun hS=>Au (Ai hS (CX (Ae [4] 0 hS fun hS=>AU (Ci hS))))))))))
end
end Go.Sx.Tryz
namespace Go.Sx
open Go.Mi Go.RowKit
variable [Dfr]
theorem ConOk.args {P:Program} {f:FuncId} {ays as':List D} {H0 H1:Hc} {r:D} (h:ConOk P f ⟨ays,H0,r,H1⟩) (hw:∀(g:G) (w:World) (vs:List Value),B4 g.X g.N w (chain as') true vs→B4 g.X g.N w (chain ays) true vs):ConOk P f ⟨as',H0,r,H1⟩:=
 ⟨h.1,fun vs g w hS hN hv=>(h.2 vs g w hS hN (hw g w vs hv)).mono fun r w' ⟨v,e,g',hp⟩=>⟨v,e,g',⟨hp.go,hp.r,hp.hs,hp.fp⟩⟩⟩
section
variable {X:Nat→Prop} {N:Nat→Option Value} {w:World}
theorem AaX {e:Fk} {o:Option (List e.T)} {v:Value} (h:fS X N w (.os e) o v):fS X N w (.sl e) (o.getD []) v:=by
 cases o with
 |none=>
  have h:v=vN:=h
  subst h
  exact⟨[],Lsl.nil,trivial⟩
 |some xs=>
  obtain⟨vs,h1,h2⟩:=h
  exact⟨vs,h1.gen,h2⟩
theorem Ad6 {e:Fk}:∀{xs:List e.T} {vs:List Value},Fa2 (fS X N w e) xs vs→Fa2 (rS X N w [e]) (xs:List (RT [e])) (vs.map fun v=>[v])
 |[],[],_=>trivial
 |_::_,v::_,h=>⟨⟨v,rfl,h.1⟩,Ad6 h.2⟩
theorem n9:∀(vs:List Value),(vs.map fun v=>[v]).flatten=vs
 |[]=>rfl
 |v::vs=>by rw[List.map_cons,List.flatten_cons,n9 vs];rfl
theorem Abm {e:Fk} {o:Option (List e.T)} {m:Bool} {l:List Value} (h:B4 X N w (.os e o) m l):B4 X N w (.ls false [e] (o.getD []:List e.T)) m l:=by
 obtain⟨v,rfl,h⟩:=h
 obtain⟨vs,h1,h2⟩:=AaX h
 exact⟨v,vs.map fun v=>[v],rfl,(n9 vs).symm▸h1,Ad6 h2⟩
theorem ZH {e:Fk}:∀{xs:List (RT [.os e])} {ls:List (List Value)},Fa2 (rS X N w [.os e]) xs ls→Fa2 (rS X N w [.sl e]) ((xs.map fun(o:Option (List e.T))=>o.getD []:List (List e.T)):List (RT [.sl e])) ls
 |[],[],_=>trivial
 | _ :: _, _ :: _, h => ⟨by
   obtain⟨v,rfl,h1⟩:=h.1
   exact⟨v,rfl,AaX h1⟩,ZH h.2⟩
theorem uJ {e:Fk} {nn:Bool} {xs:List (Option (List e.T))} {m:Bool} {l:List Value} (h:B4 X N w (.ls nn [.os e] xs) m l):B4 X N w (.ls nn [.sl e] (xs.map fun o=>o.getD [])) m l:=by
 obtain⟨v,ls,rfl,h1,h2⟩:=h
 exact⟨v,ls,rfl,by
  have q:(xs.map fun(o:Option (List e.T))=>o.getD []).length=xs.length:=List.length_map _
  exact q.symm▸h1,ZH h2⟩
end
theorem ConOk.os0 {P:Program} {f:FuncId} {ays:List D} {H0 H1:Hc} {r:D} {e:Fk} (o:Option (List e.T)) (h:ConOk P f ⟨.ls false [e] (o.getD []:List e.T)::ays,H0,r,H1⟩):ConOk P f ⟨.os e o::ays,H0,r,H1⟩:=
 h.args fun _ _ _ ⟨l1,l2,e,k1,k2⟩=>⟨l1,l2,e,Abm k1,k2⟩
theorem ConOk.oss0 {P:Program} {f:FuncId} {ays:List D} {H0 H1:Hc} {r:D} {e:Fk} {nn:Bool} (xs:List (Option (List e.T))) (h:ConOk P f ⟨.ls nn [.sl e] (xs.map fun o=>o.getD []:List (List e.T))::ays,H0,r,H1⟩):ConOk P f ⟨.ls nn [.os e] (xs:List (Option (List e.T)))::ays,H0,r,H1⟩:=
 h.args fun _ _ _ ⟨l1,l2,e,k1,k2⟩=>⟨l1,l2,e,uJ k1,k2⟩
theorem ConOk.nnr {P:Program} {f:FuncId} {ays:List D} {H0 H1:Hc} {e:List Fk} {xs:List (RT e)} (h:ConOk P f ⟨ays,H0,.ls false e xs,H1⟩) (hx:xs≠[]):ConOk P f ⟨ays,H0,.ls true e xs,H1⟩:=
 ⟨h.1,fun vs g w hS hN hv=>(h.2 vs g w hS hN hv).mono fun r w' ⟨v,e,g',hp⟩=>⟨v,e,g',⟨hp.go,by
  obtain⟨u,ls,h1,h2,h3⟩:=hp.r
  refine⟨u,ls,h1,⟨h2.le,h2.len,?_⟩,h3⟩
  rcases h2.at' with⟨h4,_⟩|h4
  ·exact absurd (List.eq_nil_of_length_eq_zero h4) hx
  ·exact .inr h4,hp.hs,hp.fp⟩⟩⟩
end Go.Sx
namespace Go.Sx.Tryz
open Go.Mi Go.RowKit Go.Sx Go.Proofs
noncomputable section
section
variable (o:Option (List Int)) (ys:List Int)
def rZ:Con:=⟨[.os (.int .u8) o,lb ys],[],.v (.bool (decide (o.getD []=ys))),[]⟩
theorem eO:ConOk Tryz.prog 37 (rZ o ys):=ConOk.os0 (e:= .int .u8) o (Ei (o.getD []) ys)
end
def sC (xs:List Int):Con:=⟨[lb xs],[],.ls true [.int .u8] xs,[]⟩
theorem S5 (xs:List Int) (h:1≤xs.length∧xs.length≤100000000000000):ConOk Tryz.prog 81 (sC xs):=(Dt xs h.2).nnr (fun e=>by rw[e]at h;exact absurd h.1 (by decide))
theorem Aep {a b q:Nat} (hq:q=a*b) (h:q≤1000000000):(BJ .i64 (a:Int)<|(b:Int))=(q:Int):=by
 rw[hq,nG (by rw[←Int.natCast_mul,←hq];omega) (by rw[←Int.natCast_mul,←hq];omega)]
 exact(Int.natCast_mul _ _).symm
section
variable (id sz ln:Nat) (bx:List (Option (List Int))) (pa ct q:Nat) (d:List Int)
def Zb (id sz ln:Nat) (bx:List (Option (List Int))) (pa ct q:Nat) (d:List Int):(List (Option (List Int)))×Nat:=if((d.length:Nat):Int)=(min (sz:Int) ((ln:Int)-(q:Int)))then(if((bx.getD pa (rz [.os (.int .u8)])).isNone)=true then(bx.set pa (some d),0)else(if(bx.getD pa (rz [.os (.int .u8)])).getD []=d then(bx,8)else(bx,2)))else(bx,2)
def Zc:(List (Option (List Int)))×Nat:=AJ (Zb id sz ln bx pa ct q d)
theorem Ra:Zc id sz ln bx pa ct q d=Zb id sz ln bx pa ct q d:=Af _
def sL (z_:(List (Option (List Int)))×Nat:=Zc id sz ln bx pa ct q d):Con:=⟨[.cp 0 0,.ag (chain [vi (id:Int),vi (pa:Int),vi (ct:Int),lb d])],[(0,RB id sz ln 1),(1,.sl 22 [.os (.int .u8)] bx)],vi ((z_.2:Nat):Int),[(0,RB id sz ln 1),(1,.sl 22 [.os (.int .u8)] (z_.1))]⟩
theorem Aaj (hb:bx.length≤10000) (hz:sz≤1000∧ln≤10000) (hq:q=pa*sz) (hql:q<ln) (hpa:pa<bx.length) (hct:ct=bx.length) (hdl:d.length=min sz (ln-q)) (hd:1≤d.length∧d.length≤100000):ConOk Tryz.prog 133 (sL id sz ln bx pa ct q d):=by
 refine cy 2 Tryz.func133 rfl Tryz.ntmps133 fun hg0 hS=> ?_
 have KN:bx.length≤9223372036854775807:=hS.lens 1 rfl
 have hf0:(id:Int)=(id:Int):=rfl
 have hf1:(ct:Int)=((bx.length:Nat):Int):=Ac
 have hf2:wB (pa:Int) 0 ((bx.length-1:Nat):Int)=true:=(O1 ⟨by omega,by omega⟩)
 refine EO [] 3 hS fun hS=>Au (Br (EO [] 3 hS fun hS=>Ai hS (G5 [(6,Ik hf0),(15,Ik hf1),(25,GD bx.length 1 (bx.length-1)),(26,AR (CO (pa:Int) 0 ((bx.length-1:Nat):Int) hf2)),(47,Rn (q:Int) [BJ .i64 (pa:Int) (sz:Int)=(q:Int)] ⟨Aep hq Ac,trivial⟩),(48,Rn ((ln:Int)-(q:Int)) [Eu .i64 (ln:Int) (q:Int)=(ln:Int)-(q:Int)] ⟨Qq Ac Ac,trivial⟩),(49,Rn (min (sz:Int) ((ln:Int)-(q:Int))) [(if((ln:Int)-(q:Int))<(sz:Int)then((ln:Int)-(q:Int))else(sz:Int))=(min (sz:Int) ((ln:Int)-(q:Int)))] ⟨by split<;>omega,trivial⟩)] [] 3 hS fun hS=>Is (((d.length:Nat):Int)=(min (sz:Int) ((ln:Int)-(q:Int)))) hS (fun h1=> ?_) (fun h1=> ?_))))
 ·exact EO [] 3 hS fun hS=>AU (AC (Ah (Bh (.trans (Ra ..) (if_neg h1)) hS)))
 ·refine G5 [(6,AG pa bx.length)] [] 3 hS fun hS=>WG ((bx.getD pa (rz [.os (.int .u8)])).isNone) hS (fun h2=> ?_) (fun h2=> ?_)
  ·exact G5 [(8,AR (S5 d AD)),(9,AG pa bx.length)] [] 3 hS fun hS=>EO [] 3 hS fun hS=>AU (AC (Ah (Bh (.trans (Ra ..) ((if_pos h1).trans (if_pos h2))) hS)))
  ·refine G5 [(6,AG pa bx.length),(10,AR (eO (bx.getD pa (rz [.os (.int .u8)])) d))] [] 3 hS fun hS=>AB ((bx.getD pa (rz [.os (.int .u8)])).getD []=d) hS (fun h3=> ?_) (fun h3=> ?_)
   ·exact EO [] 3 hS fun hS=>AU (AC (Ah (Bh (.trans (Ra ..) ((if_pos h1).trans ((if_neg (NV h2)).trans (if_pos h3)))) hS)))
   ·exact Iu (EO [] 3 hS fun hS=>AU (Bh (.trans (Ra ..) ((if_pos h1).trans ((if_neg (NV h2)).trans (if_neg h3)))) hS))
end
end
end Go.Sx.Tryz
namespace Go.Sx.Tryz
open Go.Mi Go.RowKit Go.Sx Go.Proofs
noncomputable section
def K9 (bx:List (Option (List Int))) (x12:Nat):(List Int)→(List Int):=fun x2=>if((bx.getD x12 (rz [.os (.int .u8)])).isNone)=true then x2++[(x12:Int)]else x2
def Gz (bx:List (Option (List Int))):Nat→(List Int)
 |0=>[]
 |x12+1=>K9 bx x12 (Gz bx x12)
section
variable (id sz ln:Nat) (bx:List (Option (List Int)))
def bW (id sz ln:Nat) (bx:List (Option (List Int))):(List Int):=Gz bx bx.length
def Ii:(List Int):=AJ (bW id sz ln bx)
theorem bY:Ii id sz ln bx=bW id sz ln bx:=Af _
def z8 (z_:(List Int):=Ii id sz ln bx):Con:=Cq [.cp 0 0] [(0,RB id sz ln 1),(1,.sl 22 [.os (.int .u8)] bx)] (.ls false [.int .i64] z_)
theorem Xr (hb:1≤bx.length∧bx.length≤10000):ConOk Tryz.prog 167 (z8 id sz ln bx):=by
 refine cy 2 Tryz.func167 rfl Tryz.ntmps167 fun hg0 hS=> ?_
 have KN:bx.length≤9223372036854775807:=hS.lens 1 rfl
 refine EO [] 2 hS fun hS=>Au (EO [] 2 hS fun hS=>Ai hS (EK (EO [10] 2 hS fun hS=>Br ?_)))
 obtain⟨gs,hS⟩:=hS.nilk 2 3 [.int .i64]
 refine Ar (ι:=Nat×(List Int)) hg0 hS (fun(x12,x2)=>(bx.length-x12,[(12,vi ((x12:Nat):Int))],[(2,.sl 3 [.int .i64] x2)],(x12≤bx.length)∧(x2=Gz bx x12)∧(x2.length≤x12)∧True)) [2,10,11] [0,1] 3 (0,[]) [(0,0),(1,1),(2,2)] ⟨Ac,rfl,(by simp),trivial⟩ ?_
 rintro⟨x12,x2⟩ ac gs ws ⟨hx12,hq1,p1,_⟩ hS
 refine EO [] 3 hS fun hS=>Au (AB ((x12:Int)<((bx.length:Nat):Int)) hS (fun h1=> ?_) (fun h1=> ?_))
 ·refine BG (G5 [(1,AG x12 bx.length)] [] 3 hS fun hS=>EO [] 3 hS fun hS=>WG ((bx.getD x12 (rz [.os (.int .u8)])).isNone) hS (fun h2=> ?_) (fun h2=> ?_))
  ·exact Rl [(3,Ge x2.length 1 8)] [2] 4 hS fun hS=>BV (Rl [(0,BQ x12)] [12] 4 hS fun hS=>Ab (Am hg0 hS (x12+1,x2++[(x12:Int)]) [(0,0),(1,1),(2,3)] ⟨Ac,(A2 (st:=K9 _) hq1 rfl (Eq.symm (if_pos h2))),(by first |(rw[List.length_append];simp;omega)|omega),trivial⟩))
  ·exact Iu (Rl [(0,BQ x12)] [12] 3 hS fun hS=>Ab (Am hg0 hS (x12+1,x2) [(0,0),(1,1),(2,2)] ⟨Ac,(A2 (st:=K9 _) hq1 rfl (Eq.symm (if_neg (NV h2)))),(by first |(rw[List.length_append];simp;omega)|omega),trivial⟩))
 ·have hT:=hS
  obtain rfl:bx.length=x12:=by omega
  obtain rfl:=hq1.symm
  have hS:=hT
  refine CX (EO [2] 3 hS fun hS=>AU ?_)
  obtain⟨gs,hS⟩:=hS.fz 2
  exact Bh (bY ..) hS
end
section
variable (bx:List (Option (List Int)))
abbrev GY:List (List Int):=bx.map fun o=>o.getD []
def full:Bool:=bx.all Option.isSome
end
theorem bX (id sz ln:Nat) (bx:List (Option (List Int))):(Ii id sz ln bx).length=0↔full bx=true:=by
 have key:∀i,i≤bx.length→((Gz bx i).length=0↔∀j,j<i→(List.getD (α:=Option (List Int)) bx j none).isSome=true):=by
  intro i
  induction i with
  |zero=>exact fun _=>⟨fun _ j hj=>absurd hj (Nat.not_lt_zero j),fun _=>rfl⟩
  |succ i ih=>
   intro hi
   have ih:=ih Ac
   have e:Gz bx (i+1)=if(List.getD (α:=Option (List Int)) bx i none).isNone=true then Gz bx i++[(i:Int)]else Gz bx i:=rfl
   rw[e]
   cases hg:List.getD (α:=Option (List Int)) bx i none with
   |none=>
    rw[if_pos (show(none:Option (List Int)).isNone=true from rfl)]
    refine⟨fun h=>by rw[List.length_append,List.length_cons]at h;omega,fun h=> ?_⟩
    have :=h i Ac
    rw[hg]at this;cases this
   |some x=>
    rw[if_neg (by simp)]
    refine ih.trans ⟨fun h j hj=> ?_,fun h j hj=>h j Ac⟩
    by_cases hji:j=i
    ·rw[hji,hg];rfl
    ·exact h j Ac
 rw[bY]
 refine(key bx.length (Nat.le_refl _)).trans ?_
 unfold full
 rw[List.all_eq_true]
 refine⟨fun h x hx=> ?_,fun h j hj=> ?_⟩
 ·obtain⟨j,hj,rfl⟩:=List.mem_iff_getElem.1 hx
  have :=h j hj
  rw[List.getD_eq_getElem?_getD,List.getElem?_eq_getElem hj]at this
  exact this
 ·rw[List.getD_eq_getElem?_getD,List.getElem?_eq_getElem hj]
  exact h _ (List.getElem_mem hj)
def Adq (l:List (List Int)):Con:=⟨[.ls false [.sl (.int .u8)] l],[],lb l.flatten,[]⟩
theorem xQ (l:List (List Int)) (h:l.flatten.length≤140737488355328):ConOk Tryz.prog 154 (Adq l):=ConOk.frz [] 0 5 [.int .u8] l.flatten (Q0 l h) (by kernel_rfl)
section
variable (l:List (Option (List Int)))
def Adp:Con:=⟨[.ls false [.os (.int .u8)] l],[],lb ((GY l).flatten),[]⟩
theorem xO (h:(GY l).flatten.length≤140737488355328):ConOk Tryz.prog 154 (Adp l):=ConOk.oss0 (e:= .int .u8) (nn:=false) l (xQ (GY l) h)
end
section
variable (id sz ln:Nat) (bx:List (Option (List Int)))
def sI:Con:=Cq [.cp 0 0] [(0,RB id sz ln 1),(1,.sl 22 [.os (.int .u8)] bx)] (.tu (chain [.v (.slice none 0 0),.v (.bool false)]))
theorem gQ (hb:1≤bx.length∧bx.length≤10000) (hf:full bx=false):ConOk Tryz.prog 134 (sI id sz ln bx):=by
 refine cy 2 Tryz.func134 rfl Tryz.ntmps134 fun hg0 hS=> ?_
 have KN:bx.length≤9223372036854775807:=hS.lens 1 rfl
 have hf1:¬((bx.length:Nat):Int)=0:=Ac
 refine EO [] 2 hS fun hS=>JN ?_
 have hbm:=(bX id sz ln bx)
 have hbm2:(Ii id sz ln bx).length≠0:=fun e=>by rw[hbm.1 e]at hf;cases hf
 have hk1:(0:Int)<(((Ii id sz ln bx).length:Nat):Int):=Ac
 exact Rl [(8,Ez hf1),(12,AO (Xr id sz ln bx AD) [(0,0),(1,1)] []),(14,Iw hk1)] [] 2 hS fun hS=>Ab (AQ hS (EO [] 2 hS fun hS=>AU (Ah (Ci hS))))
def sH:Con:=⟨[.cp 0 0],[(0,RB id sz ln 1),(1,.sl 22 [.os (.int .u8)] bx)],.tu (chain [lb ((GY bx).flatten),.v (.bool true)]),[(0,.ob 187 (chain [vi (id:Int),vi (sz:Int),vi (ln:Int),.ls false [.os (.int .u8)] bx]))]⟩
theorem gP (hb:1≤bx.length∧bx.length≤10000) (hf:full bx=true) (hl:(GY bx).flatten.length≤100000):ConOk Tryz.prog 134 (sH id sz ln bx):=by
 refine cy 2 Tryz.func134 rfl Tryz.ntmps134 fun hg0 hS=> ?_
 have KN:bx.length≤9223372036854775807:=hS.lens 1 rfl
 have hf1:¬((bx.length:Nat):Int)=0:=Ac
 refine EO [] 2 hS fun hS=>JN ?_
 have hbm2:(Ii id sz ln bx).length=0:=(bX id sz ln bx).2 hf
 have hk1:¬(0:Int)<(((Ii id sz ln bx).length:Nat):Int):=by omega
 refine Rl [(8,Ez hf1),(12,AO (Xr id sz ln bx AD) [(0,0),(1,1)] []),(14,Ez hk1)] [] 2 hS fun hS=>Ab (Ai hS (EK ?_))
 obtain⟨gs,hS⟩:=hS.fz 1
 exact Rl [(4,AR (xO bx (by first |assumption|omega)))] [] 2 hS fun hS=>D6 (Ci hS)
end
end
end Go.Sx.Tryz
namespace Go.Sx.Tryz
open Go.Mi Go.RowKit Go.Sx Go.Proofs
noncomputable section
section
variable (bx:List (Option (List Int))) (pa:Nat)
def A8 (d:List Int):List (Option (List Int)):=bx.set pa (some d)
def Ld (d:List Int):Prop:=List.getD (α:=Option (List Int)) bx pa none=none∨List.getD (α:=Option (List Int)) bx pa none=some d
def NW:Nat:=if(List.getD (α:=Option (List Int)) bx pa none).isNone=true then 0 else 8
theorem Xt:¬((NW bx pa:Nat):Int)=2:=by unfold NW;split<;>decide
theorem FA (d:List Int):(A8 bx pa d).length=bx.length:=List.length_set
end
theorem AdC {id sz ln:Nat} {bx:List (Option (List Int))} {pa ct q:Nat} {d:List Int} (hpa:pa<bx.length) (hq:q<ln) (hdl:d.length=min sz (ln-q)) (hf:Ld bx pa d):Zc id sz ln bx pa ct q d=(A8 bx pa d,NW bx pa):=by
 rw[Ra];unfold Zb A8 NW
 rw[if_pos Ac]
 show(if(List.getD (α:=Option (List Int)) bx pa none).isNone=true then _ else(if(List.getD (α:=Option (List Int)) bx pa none).getD []=d then _ else _))=_
 rcases hf with h|h
 ·rw[h];rfl
 ·rw[h]
  have e:bx.set pa (some d)=bx:=by
   rw[List.getD_eq_getElem?_getD,List.getElem?_eq_getElem hpa]at h
   have h:bx[pa]=some d:=h
   rw[←h,List.set_getElem_self]
  rw[e]
  simp
section
variable (id sz ln:Nat) (bx:List (Option (List Int))) (pa ct:Nat)
def Aab (q:Nat) (d:List Int):Con:=⟨[.cp 0 0,.ag (chain [vi (id:Int),vi (pa:Int),vi (ct:Int),lb d])],[(0,RB id sz ln 1),(1,.sl 22 [.os (.int .u8)] bx)],vi ((NW bx pa:Nat):Int),[(0,RB id sz ln 1),(1,.sl 22 [.os (.int .u8)] (A8 bx pa d))]⟩
theorem sX (q:Nat) (d:List Int) (hb:bx.length≤10000) (hz:sz≤1000∧ln≤10000) (hq:q=pa*sz) (hql:q<ln) (hpa:pa<bx.length) (hct:ct=bx.length) (hdl:d.length=min sz (ln-q)) (hft:Ld bx pa d) (hd:1≤d.length∧d.length≤100000):ConOk Tryz.prog 133 (Aab id sz ln bx pa ct q d):=by
 have h:=Aaj id sz ln bx pa ct q d hb hz hq hql hpa hct hdl hd
 unfold sL at h
 rw[AdC hpa hql hdl hft]at h
 exact h
end
end
end Go.Sx.Tryz
namespace Go.Sx.Tryz
open Go.Mi Go.RowKit Go.Sx Go.Proofs
noncomputable section
end
end Go.Sx.Tryz
namespace Go.Sx.Tryz
open Go.Mi Go.RowKit Go.Sx Go.Proofs
noncomputable section
def Mx (ct:List Int) (x15:Nat):(Nat→Int)→(Nat→Int):=fun o5_0=>Dg o5_0 (x15*256) 256 (Sz (DW (CZ (ct.drop (320*x15)))))
def Bq (ct:List Int):Nat→(Nat→Int)
 |0=>fun _=>0
 |x15+1=>Mx ct x15 (Bq ct x15)
section
variable (dk ct:List Int)
def SY:(List Int):=JJ (Dl (J0 (Ce (BR (ct.drop 960))) (AL (Bv (AP dk) (Bq ct 3)))))
def BO:(List Int):=AJ (SY dk ct)
theorem SZ:BO dk ct=SY dk ct:=Af _
end
@[simp] theorem W5 (dk ct:List Int):(BO dk ct).length=32:=by rw[SZ];exact WW _
section
variable (dk ct:List Int)
def gI (z_:(List Int):=BO dk ct):Con:=⟨[lb dk,lb ct],[],.sk 0,[(0,.sl 5 [.int .u8] z_)]⟩
theorem YO (hd:dk.length=2400) (hc:ct.length=1088):ConOk Tryz.prog 169 (gI dk ct):=by
 refine cy 0 Tryz.func169 rfl Tryz.ntmps169 fun hg0 hS=> ?_
 have A6:dk.length≤9223372036854775807:=hS.len 0 rfl
 have Bf:ct.length≤9223372036854775807:=hS.len 1 rfl
 refine Ae [] 0 hS fun hS=>Ae [] 1 hS fun hS=>Au (Ae [] 1 hS fun hS=>Br (Ar (ι:=Nat×(Nat→Int)) hg0 hS (fun(x15,o5_0)=>(3-x15,[(15,vi ((x15:Nat):Int))],[(0,Ob5 o5_0)],(x15≤3)∧(o5_0=Bq ct x15)∧True)) [0,1,4,5] [] 1 (0,fun _=>0) [(0,0)] ⟨Ac,rfl,trivial⟩ ?_))
 rintro⟨x15,o5_0⟩ ac gs ws ⟨hx15,hq1,_⟩ hS
 refine Ae [] 1 hS fun hS=>Au (AB ((x15:Int)<3) hS (fun h1=> ?_) (fun h1=> ?_))
 ·exact BG (Ae [] 1 hS fun hS=>Ay [(2,GE 320 x15 (320*x15)),(3,ON (320*x15) ct.length),(4,AR (Vn (ct.drop (320*x15)) (by first |omega|(simp only[List.length_append,List.length_drop,List.length_take,List.length_cons,List.length_nil];omega)))),(5,Ix (WP (CZ (ct.drop (320*x15)))) [] [] [.ar .u16 256 (CZ (ct.drop (320*x15))),vi 10] [])] [7] 2 hS fun hS=>Av [(1,GC (.ar .u16 256 (DW (CZ (ct.drop (320*x15))))) [(.ar .u16 256 (DW (CZ (ct.drop (320*x15)))):D)=(.ar .u16 256 (DW (CZ (ct.drop (320*x15)))))] ⟨rfl,trivial⟩),(2,AR (mO (DW (CZ (ct.drop (320*x15)))))),(3,AG x15 3)] [] 2 hS fun hS=>BV (Av [(0,BQ x15)] [15] 2 hS fun hS=>Ab (Am hg0 hS (x15+1,Dg o5_0 (x15*256) 256 (Sz (DW (CZ (ct.drop (320*x15)))))) [(0,0)] ⟨Ac,(A2 (st:=Mx _) hq1 rfl rfl),trivial⟩)))
 ·have hT:=hS
  obtain rfl:3=x15:=by omega
  obtain rfl:=hq1.symm
  have hS:=hT
  refine CX (Ay [(1,ON 960 ct.length),(2,AR (XL (ct.drop 960) (by first |omega|(simp only[List.length_append,List.length_drop,List.length_take,List.length_cons,List.length_nil];omega)))),(3,Ix (Yv (BR (ct.drop 960))) [] [] [.ar .u16 256 (BR (ct.drop 960)),vi 4] [])] [9] 2 hS fun hS=>Ay [(0,GC (.ar .u16 256 (Ce (BR (ct.drop 960)))) [(.ar .u16 256 (Ce (BR (ct.drop 960))):D)=(.ar .u16 256 (Ce (BR (ct.drop 960))))] ⟨rfl,trivial⟩),(2,AR (LB dk AD)),(3,GC (.ar .u16 768 (Bq ct 3)) [(.ar .u16 768 (Bq ct 3):D)=(.ar .u16 768 (Bq ct 3))] ⟨rfl,trivial⟩),(4,Ix (UF (AP dk) (Bq ct 3)) [] [] [.ar .u16 768 (AP dk),.ar .u16 768 (Bq ct 3)] []),(5,AR (KJ (Bv (AP dk) (Bq ct 3)))),(6,Ix (Abk (Ce (BR (ct.drop 960))) (AL (Bv (AP dk) (Bq ct 3)))) [] [] [.ar .u16 256 (Ce (BR (ct.drop 960))),.ar .u16 256 (AL (Bv (AP dk) (Bq ct 3)))] []),(7,Ix (UN (J0 (Ce (BR (ct.drop 960))) (AL (Bv (AP dk) (Bq ct 3))))) [] [] [.ar .u16 256 (J0 (Ce (BR (ct.drop 960))) (AL (Bv (AP dk) (Bq ct 3)))),vi 1] [])] [11] 3 hS fun hS=>Ay [(0,GC (.ar .u16 256 (Dl (J0 (Ce (BR (ct.drop 960))) (AL (Bv (AP dk) (Bq ct 3)))))) [(.ar .u16 256 (Dl (J0 (Ce (BR (ct.drop 960))) (AL (Bv (AP dk) (Bq ct 3))))):D)=(.ar .u16 256 (Dl (J0 (Ce (BR (ct.drop 960))) (AL (Bv (AP dk) (Bq ct 3))))))] ⟨rfl,trivial⟩),(1,Ix (YG (Dl (J0 (Ce (BR (ct.drop 960))) (AL (Bv (AP dk) (Bq ct 3)))))) [] [(0,3)] [.ar .u16 256 (Dl (J0 (Ce (BR (ct.drop 960))) (AL (Bv (AP dk) (Bq ct 3))))),vi 1] [])] [] 4 hS fun hS=>Ae [] 4 hS fun hS=>AU ?_)
  obtain⟨gs,hS⟩:=hS.rx [(0,3)] [4] [0] 1 hg0
  exact Bh (SZ ..) hS
end
section
variable (ek m r:List Int)
def Y5:Con:=⟨[lb ek,lb m,lb r],[],lb (Dw ek m r),[]⟩
theorem WT (he:ek.length=1184) (hm:m.length=32) (hr:r.length=32):ConOk Tryz.prog 170 (Y5 ek m r):=ConOk.frz [] 0 5 [.int .u8] (Dw ek m r) (KZ ek m r he hm hr) (by kernel_rfl)
end
section
variable (dk ct:List Int)
def QT:(List Int)×Nat:=if((Ek dk:Nat):Int)=0 then(if(Dw ((dk.take 2336).drop 1152) (BO dk ct) ((AA [BO dk ct,(dk.take 2368).drop 2336]).drop 32))=ct then((AA [BO dk ct,(dk.take 2368).drop 2336]).take 32,0)else(Hb [dk.drop 2368,ct],0))else([],(Ek dk))
def HB:(List Int)×Nat:=AJ (QT dk ct)
theorem My:HB dk ct=QT dk ct:=Af _
def sA (z_:(List Int)×Nat:=HB dk ct):Con:=⟨[lb dk,lb ct],[],.tu (chain [lb (z_.1),vi ((z_.2:Nat):Int)]),[]⟩
theorem eT (hc:ct.length=1088):ConOk Tryz.prog 143 (sA dk ct):=by
 refine cy 0 Tryz.func143 rfl Tryz.ntmps143 fun hg0 hS=> ?_
 have A6:dk.length≤9223372036854775807:=hS.len 0 rfl
 have Bf:ct.length≤9223372036854775807:=hS.len 1 rfl
 have hk2:((ct.length:Nat):Int)=1088:=Ac
 refine Ae [] 0 hS fun hS=>Au (Ay [(1,AR (YS dk))] [] 0 hS fun hS=>Ae [] 0 hS fun hS=>Is (((Ek dk:Nat):Int)=0) hS (fun h1=> ?_) (fun h1=> ?_))
 ·refine Ae [] 0 hS fun hS=>AU (Ah ?_)
  have hS:=hS.wk 4 (lb [])
  exact Bh (.trans (My ..) (if_neg h1)) hS
 ·refine EK (Ay [(2,Ik hk2)] [] 0 hS fun hS=>Ai hS (EK ?_))
  have hd:=fA (xs:=dk) Ac
  refine Av [(1,Rbk 1152 2336 dk.length),(3,ON 2368 dk.length)] [] 0 hS fun hS=>Ab (Ay [(2,AO (YO dk ct AD AD) [] [(0,0)])] [] 1 hS fun hS=>Au ?_)
  have hdl:=W5 dk ct
  obtain⟨gs,hS⟩:=hS.fz 0
  refine Av [(2,Rbk 2336 2368 dk.length),(4,AR (Js [BO dk ct,(dk.take 2368).drop 2336] (by first |omega|(simp only[List.flatten_cons,List.flatten_nil,List.length_append,List.length_cons,List.length_nil,List.length_take,List.length_drop,List.length_replicate]<;>omega)|(simp<;>omega))))] [] 1 hS fun hS=>Ej (Au ?_)
  have hsl:=DO [BO dk ct,(dk.take 2368).drop 2336]
  refine Av [(3,ON 32 (AA [BO dk ct,(dk.take 2368).drop 2336]).length),(4,AR (WT ((dk.take 2336).drop 1152) (BO dk ct) ((AA [BO dk ct,(dk.take 2368).drop 2336]).drop 32) AD AD AD)),(6,AR (Ei (Dw ((dk.take 2336).drop 1152) (BO dk ct) ((AA [BO dk ct,(dk.take 2368).drop 2336]).drop 32)) ct))] [] 1 hS fun hS=>Ab (Is ((Dw ((dk.take 2336).drop 1152) (BO dk ct) ((AA [BO dk ct,(dk.take 2368).drop 2336]).drop 32))=ct) hS (fun h2=> ?_) (fun h2=> ?_))
  ·exact Ay [(3,AR (XZ [dk.drop 2368,ct] (by first |omega|(simp only[List.flatten_cons,List.flatten_nil,List.length_append,List.length_cons,List.length_nil,List.length_take,List.length_drop,List.length_replicate]<;>omega)|(simp<;>omega))))] [] 1 hS fun hS=>AU (Ah (Bh (.trans (My ..) ((if_pos h1).trans (if_neg h2))) hS))
  ·exact B5 (Ay [(1,OM (E3 none (some 32) (some 32) (AA [BO dk ct,(dk.take 2368).drop 2336]).length (AA [BO dk ct,(dk.take 2368).drop 2336]).length) ⟨by simp only[FX]<;>omega,by simp only[FX]<;>omega,by simp only[FX]<;>omega,by simp,by simp only[bl]<;>omega,by simp only[bl]<;>omega,by simp only[bl]<;>omega⟩)] [] 1 hS fun hS=>AU (Bh (.trans (My ..) ((if_pos h1).trans (if_pos h2))) hS))
end
end
end Go.Sx.Tryz
namespace Go.Sx.Tryz
open Go.Mi Go.RowKit Go.Sx Go.Proofs
noncomputable section
end
end Go.Sx.Tryz
namespace Go.Sx.Tryz
open Go.Mi Go.RowKit Go.Sx Go.Proofs
noncomputable section
theorem kX (k xs:List Int):(TK k xs).length=128:=by
 have key:∀j,(DC k xs j).2.1.length=32*j:=by
  intro j
  induction j with
  |zero=>rfl
  |succ j ih=>
   show(M_ k xs j (DC k xs j)).2.1.length=_
   generalize DC k xs j=z at ih⊢
   obtain⟨a,b,c⟩:=z
   show(b++Gj _ _).length=_
   rw[List.length_append,PE]
   have ih:b.length=32*j:=ih
   omega
 have hc:∀j,F_ (DC k xs j)↔32*j<128:=by
  intro j
  have hj:=key j
  generalize DC k xs j=z at hj⊢
  obtain⟨a,b,c⟩:=z
  show((b.length:Nat):Int)<128↔_
  have hj:b.length=32*j:=hj
  omega
 have hl:4=CU fun j=>F_ (DC k xs j):=BP (P:=fun j=>F_ (DC k xs j)) (fun h=>absurd ((hc 4).1 h) (by decide)) (fun j hj=>(hc j).2 Ac)
 rw[kY];unfold X6
 rw[←hl,List.length_take,key];rfl
@[simp] theorem lJ (k xs:List Int):(TN k xs).length=128:=by rw[lK];exact kX ..
def zB (v:Int) (n:Nat):Con:=⟨[.v (.int .u64 v),vi (n:Int)],[],lb (C0 v n),[]⟩
theorem lR (v:Int) (n:Nat) (hn:n≤1000):ConOk Tryz.prog 34 (zB v n):=ConOk.frz [] 0 5 [.int .u8] (C0 v n) (TU v n hn) (by kernel_rfl)
def pK (n:Int):(List Int):=TN [100,114,97,119] (C0 (IntKind.wrap .u64 n) 8)
def Aw (n:Int):(List Int):=AJ (pK n)
theorem pL (n:Int):Aw n=pK n:=Af _
@[simp] theorem DY (n:Int):(Aw n).length=128:=by rw[pL];exact lJ ..
def Adl (n:Int) (z_:(List Int):=Aw n):Con:=⟨[vi n],[],lb z_,[]⟩
theorem Ia (n:Int):ConOk Tryz.prog 15 (Adl n):=by
 exact cy 0 Tryz.func15 rfl Tryz.ntmps15 fun hg0 hS=>Ae [] 0 hS fun hS=>Ay [(0,Row),(1,OM (0<[100,114,97,119].length) (by decide)),(4,AR (lR (IntKind.wrap .u64 n) 8 Ac)),(5,AR (uZ [100,114,97,119] (C0 (IntKind.wrap .u64 n) 8) AD AD))] [] 1 hS fun hS=>AU (Bh (pL ..) hS)
section
variable (k:Int)
theorem Hv {n:Nat} (h:0<n): -(n:Int)<CV k n∧CV k n<n:=by
 have h1:=Int.tmod_lt_of_pos k (b:=(n:Int)) Ac
 have h2:=Int.lt_tmod_of_pos k (b:=(n:Int)) Ac
 exact⟨h2,h1⟩
def BW (n:Nat):Nat:=(k%(n:Int)).toNat
theorem kQ {n:Nat} (h:0<n):BW k n<n:=by
 have h1:=Int.emod_lt_of_pos k (b:=(n:Int)) Ac
 have h2:=Int.emod_nonneg k (b:=(n:Int)) Ac
 unfold BW;omega
def TB (n:Nat):Int:=if(CV k (n:Int))<0 then((CV k (n:Int))+(n:Int))else(CV k (n:Int))
def TC (n:Nat):Int:=AJ (TB k n)
theorem TD (n:Nat):TC k n=TB k n:=Af _
def bP (n:Nat) (z_:Int:=TC k n):Con:=⟨[vi k,vi (n:Int)],[],vi z_,[]⟩
theorem kO (n:Nat) (hn:0<n∧n≤2000000):ConOk Tryz.prog 13 (bP k n):=by
 refine cy 0 Tryz.func13 rfl Tryz.ntmps13 fun hg0 hS=>Ae [] 0 hS fun hS=>Au ?_
 have hib:=Hv k hn.1
 refine Av [(2,OL (((n:Int):Int)≠0))] [0] 0 hS fun hS=>Ej (Au ?_)
 have hib:=Hv k hn.1
 refine Dn [] 0 hS fun hS=>Ab (AB ((CV k (n:Int))<0) hS (fun h1=> ?_) (fun h1=> ?_))
 ·have hib:=Hv k hn.1
  refine Av [(2,Rja (CV k (n:Int)) (n:Int))] [0] 0 hS fun hS=>Ej ?_
  have hib:=Hv k hn.1
  exact Dn [] 0 hS fun hS=>D6 (Bh (.trans (TD ..) (if_pos h1)) hS)
 ·refine EK ?_
  have hib:=Hv k hn.1
  exact Dn [] 0 hS fun hS=>D6 (Bh (.trans (TD ..) (if_neg h1)) hS)
theorem uP (n:Nat) (hn:0<n):TC k n=((BW k n:Nat):Int):=by
 have h2:=Int.emod_nonneg k (b:=(n:Int)) Ac
 have h3:CV k n=k.tmod n:=rfl
 have h4:=Int.tmod_eq_emod (a:=k) (b:=(n:Int))
 have hb:=Hv k hn
 have h5:=Int.emod_lt_of_pos k (b:=(n:Int)) Ac
 rw[TD];unfold TB BW
 rw[Int.toNat_of_nonneg h2]
 have ha:((n:Int).natAbs:Int)=n:=by omega
 rw[h3]at hb⊢
 by_cases hc:0≤k∨(n:Int)∣k
 ·rw[if_pos hc]at h4
  rw[if_neg Ac];omega
 ·rw[if_neg hc]at h4
  by_cases hq:k.tmod n<0
  ·rw[if_pos hq];omega
  ·exfalso
   have :k.tmod n≤0:=by omega
   have hz:k.tmod n=0:=by omega
   exact hc (.inr (Int.dvd_of_tmod_eq_zero hz))
def rA (n:Nat):Con:=⟨[vi k,vi (n:Int)],[],vi ((BW k n:Nat):Int),[]⟩
theorem dD (n:Nat) (hn:0<n∧n≤2000000):ConOk Tryz.prog 13 (rA k n):=by
 have h:=kO k n hn
 unfold bP at h
 rw[uP k n hn.1]at h
 exact h
end
end
end Go.Sx.Tryz
namespace Go.Sx.Tryz
open Go.Mi Go.RowKit Go.Sx Go.Proofs
noncomputable section
section
variable (xs ys:List Int)
def rV:Con:=⟨[.ls false [.int .i64] xs,.ls false [.int .i64] ys],[],.v (.bool (decide (xs=ys))),[]⟩
theorem aQ:ConOk Tryz.prog 31 (rV xs ys):=by
 refine cy 0 Tryz.func31 rfl Tryz.ntmps31 fun hg0 hS=> ?_
 have A6:xs.length≤9223372036854775807:=hS.len 0 rfl
 have Bf:ys.length≤9223372036854775807:=hS.len 1 rfl
 refine Ae [] 0 hS fun hS=>Au (Ae [] 0 hS fun hS=>Is (((xs.length:Nat):Int)=((ys.length:Nat):Int)) hS (fun h1=> ?_) (fun h1=> ?_))
 ·exact Ae [] 0 hS fun hS=>AU (Ah (CW rfl (.inr rfl) hS [.v (.bool false)] [] (by show weak _ (.v (.bool (decide (xs=ys))))= .v (.bool (decide (xs=ys)));rw[pD h1];rfl) trivial))
 ·refine EK (Ae [] 0 hS fun hS=>Br (Ar (ι:=Nat) hg0 hS (fun i=>(xs.length-i,[(5,vi ((i:Nat):Int))],[],(i≤xs.length)∧(∀j,j<i→xs.getD j 0=ys.getD j 0)∧True)) [0,1] [] 0 0 [] ⟨Ac,(fun j h=>absurd h (Nat.not_lt_zero j)),trivial⟩ ?_))
  rintro i ac gs ws ⟨hi,pm,_⟩ hS
  refine Au (Ae [] 0 hS fun hS=>AB ((i:Int)<((xs.length:Nat):Int)) hS (fun h2=> ?_) (fun h2=> ?_))
  ·refine BG (Ay [(2,AG i xs.length),(6,AG i ys.length)] [] 0 hS fun hS=>Is ((xs.getD i 0)=(ys.getD i 0)) hS (fun h3=> ?_) (fun h3=> ?_))
   ·exact Ae [] 0 hS fun hS=>AU (AC (Ah (Ah (AC (Ah (CW rfl (.inr rfl) hS [.v (.bool false)] [] (by show weak _ (.v (.bool (decide (xs=ys))))= .v (.bool (decide (xs=ys)));rw[pC h3];rfl) trivial))))))
   ·exact Iu (Av [(1,BQ i)] [5] 0 hS fun hS=>Ab (Am hg0 hS (i+1) [] ⟨Ac,(A1 pm BC),trivial⟩))
  ·have hT:=hS
   obtain rfl:xs.length=i:=by omega
   have hS:=hT
   exact CX (Ae [] 0 hS fun hS=>AU (CW rfl (.inr rfl) hS [.v (.bool true)] [] (by show weak _ (.v (.bool (decide (xs=ys))))= .v (.bool (decide (xs=ys)));rw[o7 h1 pm];rfl) trivial))
end
def G3 (wk:List Int) (i x8:Nat):(Bool×(List Int))→(Bool×(List Int)):=fun(x7,x6)=>if(wk.getD x8 0)=(i:Int)then(true,x6)else(x7,x6++[(wk.getD x8 0)])
def HF (a b:Nat) (wk:List Int) (i:Nat):Nat→Bool×(List Int)
 |0=>(false,[])
 |x8+1=>G3 wk i x8 (HF a b wk i x8)
def Jn (k2:Nat):(Nat×(List Int))→(Nat×(List Int)):=fun(x10,o3)=>(x10+1,o3++[((x10:Nat):Int)])
def BH (a b:Nat) (wk:List Int) (i:Nat):Nat→Nat×(List Int)
 |0=>(b,[]++wk)
 |k2+1=>Jn k2 (BH a b wk i k2)
def Cm (i:Nat):(Nat×(List Int))→Prop:=fun(x10,o3)=>((x10:Nat):Int)<(i:Int)
section
variable (a b:Nat) (wk:List Int) (i:Nat)
def XI:Nat×(List Int)×Nat:=if(i:Int)<(b:Int)then(if(!((HF a b wk i wk.length).1))=true then(b,wk,5)else(b,(HF a b wk i wk.length).2,0))else(if(40:Int)<((i-b:Nat):Int)then(b,wk,6)else(if(60:Int)<((((BH a b wk i (CU fun j=>Cm i (BH a b wk i j))).2).length:Nat):Int)then((i+1),((BH a b wk i (CU fun j=>Cm i (BH a b wk i j))).2).drop ((((BH a b wk i (CU fun j=>Cm i (BH a b wk i j))).2).length)-60),0)else((i+1),(BH a b wk i (CU fun j=>Cm i (BH a b wk i j))).2,0)))
def XJ:Nat×(List Int)×Nat:=AJ (XI a b wk i)
theorem MZ:XJ a b wk i=XI a b wk i:=Af _
def qG (z_:Nat×(List Int)×Nat:=XJ a b wk i):Con:=⟨[.ag (chain [vi (a:Int),vi (b:Int),.ls false [.int .i64] wk]),vi (i:Int)],[],.tu (chain [.ag (chain [vi (a:Int),vi ((z_.1:Nat):Int),.ls false [.int .i64] (z_.2.1)]),vi ((z_.2.2:Nat):Int)]),[]⟩
theorem tU (hk:wk.length≤1000) (hi:i≤1000000∧b≤1000000):ConOk Tryz.prog 35 (qG a b wk i):=by
 refine cy 0 Tryz.func35 rfl Tryz.ntmps35 fun hg0 hS=>Ae [] 2 hS fun hS=>Au (Ae [] 2 hS fun hS=>AB ((i:Int)<(b:Int)) hS (fun h1=> ?_) (fun h1=> ?_))
 ·refine Ae [] 2 hS fun hS=>Ae [] 2 hS fun hS=>Au (Ae [] 2 hS fun hS=>Br ?_)
  obtain⟨gs,hS⟩:=hS.nilk 6 3 [.int .i64]
  refine Ar (ι:=Nat×Bool×(List Int)) hg0 hS (fun(x8,x7,x6)=>(wk.length-x8,[(7,.v (.bool x7)),(8,vi ((x8:Nat):Int))],[(2,.sl 3 [.int .i64] x6)],(x8≤wk.length)∧((x7,x6)=HF a b wk i x8)∧(x6.length≤x8)∧True)) [1,2,4,5,6] [0,1] 3 (0,false,[]) [(0,0),(1,1),(2,2)] ⟨Ac,rfl,(by simp),trivial⟩ ?_
  rintro⟨x8,x7,x6⟩ ac gs ws ⟨hx8,hq1,p1,_⟩ hS
  refine Au (Ae [] 3 hS fun hS=>AB ((x8:Int)<((wk.length:Nat):Int)) hS (fun h2=> ?_) (fun h2=> ?_))
  ·refine BG (Ay [(3,AG x8 wk.length)] [] 3 hS fun hS=>AB ((wk.getD x8 0)=(i:Int)) hS (fun h3=> ?_) (fun h3=> ?_))
   ·exact Dn [] 3 hS fun hS=>BV (Av [(1,BQ x8)] [8] 3 hS fun hS=>Ab (Am hg0 hS (x8+1,true,x6) [(0,0),(1,1),(2,2)] ⟨Ac,(A2 (st:=G3 _ _) hq1 rfl (Eq.symm (if_pos h3))),(by first |omega|(rw[List.length_append,List.length_cons,List.length_nil];omega)),trivial⟩))
   ·exact Av [(4,AG x8 wk.length),(7,Ge x6.length 1 8)] [6] 4 hS fun hS=>BV (Av [(1,BQ x8)] [8] 4 hS fun hS=>Ab (Am hg0 hS (x8+1,x7,x6++[(wk.getD x8 0)]) [(0,0),(1,1),(2,3)] ⟨Ac,(A2 (st:=G3 _ _) hq1 rfl (Eq.symm (if_neg h3))),(by first |omega|(rw[List.length_append,List.length_cons,List.length_nil];omega)),trivial⟩))
  ·have hT:=hS
   obtain rfl:wk.length=x8:=by omega
   obtain⟨rfl,rfl⟩:=TZ hq1
   have hS:=hT
   refine MY (Ae [] 3 hS fun hS=>WG (!((HF a b wk i wk.length).1)) hS (fun h4=> ?_) (fun h4=> ?_))
   ·exact Ae [] 3 hS fun hS=>AU (Ah (Ah (Bh (.trans (MZ ..) ((if_pos h1).trans (if_pos h4))) hS)))
   ·refine B5 (Ae [] 3 hS fun hS=>AU (Ah ?_))
    obtain⟨gs,hS⟩:=hS.fz 2
    exact Bh (.trans (MZ ..) ((if_pos h1).trans (if_neg (NV h4)))) hS
 ·refine EK (Ay [(3,GD i b (i-b))] [] 2 hS fun hS=>AB ((40:Int)<((i-b:Nat):Int)) hS (fun h5=> ?_) (fun h5=> ?_))
  ·exact Ae [] 2 hS fun hS=>AU (Ah (Bh (.trans (MZ ..) ((if_neg h1).trans (if_pos h5))) hS))
  ·refine B5 (Ay [(3,BQ i),(4,Row),(7,Ge 0 wk.length 8)] [9] 5 hS fun hS=>Au (Ae [] 5 hS fun hS=>Br (Ar (ι:=Nat×Nat×(List Int)) hg0 hS (fun(k2,x10,o3)=>(i-x10,[(10,vi (x10:Int))],[(3,.sl 3 [.int .i64] o3)],((x10,o3)=BH a b wk i k2)∧(∀j,j<k2→Cm i (BH a b wk i j))∧(b≤x10∧x10≤i∧i≤b+40∧o3.length+b=wk.length+x10)∧True)) [1,4,5,9] [1,4] 5 (0,b,[]++wk) [(1,1),(3,3),(4,4)] ⟨rfl,(fun j h=>absurd h (Nat.not_lt_zero j)),(by simp;omega),trivial⟩ ?_)))
   rintro⟨k2,x10,o3⟩ ac gs ws ⟨hq2,hj2,p2,_⟩ hS
   refine Au (Ae [] 5 hS fun hS=>AB ((x10:Int)<(i:Int)) hS (fun h6=> ?_) (fun h6=> ?_))
   ·exact BG (Av [(4,Ge o3.length 1 8)] [] 6 hS fun hS=>BV (Av [(1,BQ x10)] [10] 6 hS fun hS=>Ab (Am hg0 hS (k2+1,x10+1,o3++[(x10:Int)]) [(1,1),(3,5),(4,4)] ⟨(A2 (st:=Jn) hq2 rfl rfl),(A1 hj2 (by rw[←hq2];exact h6)),(by rw[List.length_append,List.length_cons,List.length_nil];omega),trivial⟩)))
   ·have hT:=hS
    obtain rfl:=BP (by rw[←hq2];first |exact h6|exact not_not_intro h6) hj2
    obtain⟨rfl,rfl⟩:=TZ hq2
    have hS:=hT
    refine MY (Ae [] 5 hS fun hS=>AB ((60:Int)<((((BH a b wk i (CU fun j=>Cm i (BH a b wk i j))).2).length:Nat):Int)) hS (fun h7=> ?_) (fun h7=> ?_))
    ·obtain⟨gs,hS⟩:=hS.fz 3
     exact Av [(5,GD (((BH a b wk i (CU fun j=>Cm i (BH a b wk i j))).2).length) 60 ((((BH a b wk i (CU fun j=>Cm i (BH a b wk i j))).2).length)-60)),(6,ON ((((BH a b wk i (CU fun j=>Cm i (BH a b wk i j))).2).length)-60) ((BH a b wk i (CU fun j=>Cm i (BH a b wk i j))).2).length)] [] 5 hS fun hS=>Ab (Ae [] 5 hS fun hS=>AU (Bh (.trans (MZ ..) ((if_neg h1).trans ((if_neg h5).trans (if_pos h7)))) hS))
    ·refine B5 (Ae [] 5 hS fun hS=>AU ?_)
     obtain⟨gs,hS⟩:=hS.fz 3
     exact Bh (.trans (MZ ..) ((if_neg h1).trans ((if_neg h5).trans (if_neg h7)))) hS
end
end
end Go.Sx.Tryz
namespace Go.Sx.Tryz
open Go.Mi Go.RowKit Go.Sx Go.Proofs
noncomputable section
def AdG (x0 x1:Nat) (x2 x3:List Int) (x4:Nat):O:= .ob 39 (chain [.cp x0 0,.cp x1 0,vi 0,vi 0,.ls false [.int .i64] x2,vi 0,vi 0,.ls false [.int .i64] x3,.sk x4])
def DJ (x0:List Int) (x1 x2:Bool) (x3 x4:Nat) (x5:List (List Int)) (x6:List (Int×Int×(List (List Int)))):O:= .ob 80 (chain [lb x0,.v (.bool x1),.v (.bool x2),.cp x3 0,.cp x4 0,.v (.pointer none),vi 0,.ls false [.sl (.int .u8)] x5,vi 0,vi 0,.ls false [.int .i64,.int .i64,.sl (.sl (.int .u8))] x6])
section
variable (root:List Int)
def Ut:(List Int)×(List Int)×(List Int)×(List (List Int))×(List Int)×(List Int)×(List Int)×(List (List Int)):=((FL root true).1,(FL root true).2.1,(FL root true).2.2.1,(FL root true).2.2.2,(FL root false).1,(FL root false).2.1,(FL root false).2.2.1,(FL root false).2.2.2)
def Uu:(List Int)×(List Int)×(List Int)×(List (List Int))×(List Int)×(List Int)×(List Int)×(List (List Int)):=AJ (Ut root)
theorem aZ:Uu root=Ut root:=Af _
def bR (z_:(List Int)×(List Int)×(List Int)×(List (List Int))×(List Int)×(List Int)×(List Int)×(List (List Int)):=Uu root):Con:=⟨[lb root,.v (.bool false)],[],.tu (chain [.cp 0 0,.v (.bool true)]),[(0,AdG 1 4 [] [] 7),(1,DJ (z_.1) true false 2 3 (z_.2.2.2.1) []),(2,C8 (z_.2.1)),(3,C8 (z_.2.2.1)),(4,DJ (z_.2.2.2.2.1) false false 5 6 (z_.2.2.2.2.2.2.2) []),(5,C8 (z_.2.2.2.2.2.1)),(6,C8 (z_.2.2.2.2.2.2.1)),(7,.sl 48 [.int .i64,.int .i64,.sl (.int .u8),.sl (.int .u8)] [])]⟩
theorem nX (hr:root.length=32):ConOk Tryz.prog 12 (bR root):=by
 refine cy 0 Tryz.func12 rfl Tryz.ntmps12 fun hg0 hS=> ?_
 have A6:root.length≤9223372036854775807:=hS.len 0 rfl
 refine Ae [] 0 hS fun hS=>Ae [] 1 hS fun hS=>Au (Ae [] 1 hS fun hS=>Br (wp_loop_rounds 3 (Ca (n:=2) (Au (Ae [12] 1 hS fun hS=>AQ hS (BG (Ay [(4,AO (Zz root true AD) [] [(0,1),(1,2),(2,3)])] [16,17,18,19,20,21,22,23] 4 hS fun hS=>Au (Ae [24,25,26,27,28] 4 hS fun hS=>Ai hS (B5 (Av [(5,AG 0 2)] [30,31,32,33,34,35] 4 hS fun hS=>BV (Dn [7,14,15] 4 hS fun hS=>Ab (Ca (n:=1) (Au (Ae [12] 4 hS fun hS=>AQ hS (BG (Ay [(4,AO (Zz root false AD) [] [(0,4),(1,5),(2,6)])] [16,17,18,19,20,21,22,23] 7 hS fun hS=>Au (Ae [24,25,26,27,28] 7 hS fun hS=>Ai hS (B5 (Av [(5,AG 1 2)] [30,31,32,33,34,35] 7 hS fun hS=>BV (Dn [7,14,15] 7 hS fun hS=>Ab (Ca (n:=0) (Au (Ae [] 7 hS fun hS=>Ai hS (MY ?_))))))))))))))))))))))))
 have hS:=hS.wko 0 [.top,.top,.top,.top,.ls false [.int .i64] [],.top,.top,.ls false [.int .i64] [],.top]
 obtain⟨gs,hS⟩:=hS.nilob 0 8 48 [.int .i64,.int .i64,.sl (.int .u8),.sl (.int .u8)]
 have hS:=hS.wko 1 [.top,.top,.top,.top,.top,.top,.top,.ls false [.sl (.int .u8)] [],.top,.top,.ls false [.int .i64,.int .i64,.sl (.sl (.int .u8))] []]
 have hS:=hS.wko 4 [.top,.top,.top,.top,.top,.top,.top,.ls false [.sl (.int .u8)] [],.top,.top,.ls false [.int .i64,.int .i64,.sl (.sl (.int .u8))] []]
 exact Dn [0,1,6,7,8,9,13,14,15,16,17,18,19,20,21,22,23,24,25,26,27,28,29,30,31,32,33,34,35] 8 hS fun hS=>D6 (Bh (aZ ..) hS)
def Ol:List Int:=BZ root (ByteArray.mk #[112,97,105,114])
def pM:List Int:=BZ root (ByteArray.mk #[109,105,120])
def pA:List Int:=BZ root (ByteArray.mk #[102,105,114,115,116])
def pB:List Int:=BZ root (ByteArray.mk #[111,116,104,101,114])
end
@[simp] theorem T8 (root:List Int):(pA root).length=32:=P4 ..
@[simp] theorem T7 (root:List Int):(pB root).length=32:=P4 ..
@[simp] theorem mI (root:List Int):(pM root).length=32:=P4 ..
theorem nY (root:List Int):Uu root=(Ol root,pA root,pB root,[pM root],Ol root,pB root,pA root,[pM root]):=by
 have h1:FL root true=(Ol root,pA root,pB root,[pM root]):=by rw[Tu];unfold Ts;first |rfl|(simp;rfl)
 have h2:FL root false=(Ol root,pB root,pA root,[pM root]):=by rw[Tu];unfold Ts;first |rfl|(simp;rfl)
 rw[aZ];unfold Ut;rw[h1,h2]
end
end Go.Sx.Tryz
namespace Go.Sx.Tryz
open Go.Mi Go.RowKit Go.Sx Go.Proofs
noncomputable section
theorem Z8 {a:Int} (ha:0≤a∧a<18446744073709551616):(BitVec.ofInt 64 a).toNat=a.toNat:=by rw[BitVec.toNat_ofInt];omega
theorem M0 {x:Int} (h:0≤x∧x<18446744073709551616):IntKind.wrap .u64 x=x:=by
 have :IntKind.wrap .u64 x=x%18446744073709551616:=by simp [IntKind.wrap,IntKind.bits,IntKind.signed]
 rw[this];omega
theorem Aa8 {a b:Int} (ha:0≤a∧a<18446744073709551616) (hb:0≤b∧b<18446744073709551616):C7 .u64 a b=((a.toNat|||b.toNat:Nat):Int):=by
 have h:a.toNat|||b.toNat<2^64:=Nat.or_lt_two_pow Ac Ac
 unfold C7
 rw[M0]
 ·show(((BitVec.ofInt 64 a|||BitVec.ofInt 64 b).toNat:Nat):Int)=_
  rw[BitVec.toNat_or,Z8 ha,Z8 hb]
 ·show 0≤(((BitVec.ofInt 64 a|||BitVec.ofInt 64 b).toNat:Nat):Int)∧(((BitVec.ofInt 64 a|||BitVec.ofInt 64 b).toNat:Nat):Int)<_
  rw[BitVec.toNat_or,Z8 ha,Z8 hb]
  omega
theorem Aeh:((List.range 256).all fun c=>decide (D9 .u8 ((c:Nat):Int) 128=((c%128:Nat):Int)))=true:=by kernel_rfl
theorem Aei (c:Nat) (h:c<256):D9 .u8 (c:Int) 128=((c%128:Nat):Int):=of_decide_eq_true (List.all_eq_true.1 Aeh c (List.mem_range.2 h))
theorem AdT:((List.range 256).all fun c=>decide (C7 .u8 ((c:Nat):Int) 128=((128+c%128:Nat):Int)))=true:=by kernel_rfl
theorem Afv (c:Nat) (h:c<256):C7 .u8 (c:Int) 128=((128+c%128:Nat):Int):=of_decide_eq_true (List.all_eq_true.1 AdT c (List.mem_range.2 h))
theorem grp {v x i:Nat} (hv:v<2^(7*i)) (hx:x<128) (hl:x*2^(7*i)+v<2^62) (c:Int) (hc:D9 .u8 c 128=(x:Nat)):C7 .u64 (v:Int) (Bd .u64 (IntKind.wrap .u64 (D9 .u8 c 128)) ((7*i:Nat):Int))=((x*2^(7*i)+v:Nat):Int):=by
 rw[hc,M0 Ac]
 by_cases hi:7*i≤64
 ·have h1 : Bd .u64 (x : Int) ((7 * i : Nat) : Int) = ((x * 2 ^ (7 * i) : Nat) : Int) := by
   unfold Bd
   rw[show min ((7*i:Nat):Int).toNat (IntKind.bits .u64)=7*i by simp [IntKind.bits];omega,show(x:Int)*2^(7*i)=((x*2^(7*i):Nat):Int) by simp]
   exact M0 Ac
  rw[h1,Aa8 Ac Ac,Int.toNat_natCast,Int.toNat_natCast]
  congr 1
  rw[Nat.or_comm,Nat.mul_comm x]
  exact(Nat.two_pow_add_eq_or_of_lt hv x).symm
 ·have h2:2^62≤2^(7*i):=Nat.pow_le_pow_right (by decide) Ac
  have hx0:x=0:=by
   rcases Nat.eq_zero_or_pos x with h|h
   ·exact h
   ·have :1*2^(7*i)≤x*2^(7*i):=Nat.mul_le_mul_right _ h
    omega
  subst hx0
  have h1:Bd .u64 ((0:Nat):Int) ((7*i:Nat):Int)=((0:Nat):Int):=by
   unfold Bd
   rw[show((0:Nat):Int)=0 from rfl,Int.zero_mul];rfl
  rw[h1,Aa8 Ac Ac,Int.toNat_natCast,Int.toNat_natCast,Nat.or_zero,Nat.zero_mul,Nat.zero_add]
theorem AbU (r:List Int):∀(m i v:Nat),v<2^(7*i)→m*2^(7*i)+v<2^62→i≤9→(0<i→0<m)→Qb (10-i) i ((v:Nat):Int) (Aj m++r)=some (((m*2^(7*i)+v:Nat):Int),r):=by
 intro m
 induction m using Nat.strongRecOn with
 |_ m ih=>
  intro i v hv hl hi hp
  obtain⟨k,hk⟩:∃k,10-i=k+1:=⟨9-i,by omega⟩
  have hpow:0<2^(7*i):=Nat.pow_pos (by decide)
  have hw:IntKind.wrap .u8 (m:Int)=((m%256:Nat):Int):=by rw[EN];omega
  by_cases h:128≤m
  ·have h2:128*2^(7*i)≤m*2^(7*i):=Nat.mul_le_mul_right _ h
   have hi2:i≤7:=by
    rcases Nat.lt_or_ge 7 i with h3|h3
    ·have :2^56≤2^(7*i):=Nat.pow_le_pow_right (by decide) Ac
     omega
    ·exact h3
   have hdm:m=128*(m/128)+m%128:=(Nat.div_add_mod m 128).symm
   have hc:C7 .u8 (IntKind.wrap .u8 (m:Int)) 128=((128+m%128:Nat):Int):=by
    rw[hw]
    have :=Afv (m%256) (Nat.mod_lt _ (by decide))
    rw[show(m%256)%128=m%128 by omega]at this
    exact this
   have hlo:D9 .u8 ((128+m%128:Nat):Int) 128=((m%128:Nat):Int):=by
    have :=Aei (128+m%128) Ac
    rw[show(128+m%128)%128=m%128 by omega]at this
    exact this
   have hmul:m*2^(7*i)=m/128*2^(7*(i+1))+m%128*2^(7*i):=by
    rw[show 7*(i+1)=7+7*i by omega,Nat.pow_add,show(2:Nat)^7=128 from rfl,←Nat.mul_assoc,←Nat.add_mul]
    congr 1;omega
   rw[Nl h,List.cons_append,hk,hc]
   show(if(128:Int)≤((128+m%128:Nat):Int)then Qb k (i+1) (C7 .u64 _ (Bd .u64 (IntKind.wrap .u64 (D9 .u8 _ 128)) _)) (Aj (m/128)++r)else _)=_
   rw[if_pos Ac,grp hv (Nat.mod_lt _ (by decide)) Ac _ hlo]
   have hv2:m%128*2^(7*i)+v<2^(7*(i+1)):=by
    rw[show 7*(i+1)=7+7*i by omega,Nat.pow_add,show(2:Nat)^7=128 from rfl]
    have :m%128*2^(7*i)≤127*2^(7*i):=Nat.mul_le_mul_right _ Ac
    omega
   have :=ih (m/128) Ac (i+1) (m%128*2^(7*i)+v) hv2 Ac Ac (fun _=>by omega)
   rw[show 10-(i+1)=k by omega]at this
   rw[this,hmul,Nat.add_assoc]
  ·have hc:IntKind.wrap .u8 (m:Int)=(m:Int):=by rw[hw];omega
   have hlo:D9 .u8 (m:Int) 128=(m:Int):=by
    have :=Aei m Ac
    rw[show m%128=m by omega]at this
    exact this
   rw[Qa h,hk,hc]
   show(if(128:Int)≤(m:Int)then _ else if i=9∧(1:Int)<(m:Int)then none else if 0<i∧(m:Int)=0 then none else some (C7 .u64 _ (Bd .u64 (IntKind.wrap .u64 (D9 .u8 _ 128)) _),r))=_
   have h9:¬(i=9∧(1:Int)<(m:Int)):=fun⟨e,h1⟩=>by
    subst e
    have :1*2^63≤m*2^(7*9):=Nat.mul_le_mul_right _ Ac
    omega
   rw[if_neg Ac,if_neg h9,if_neg (fun⟨a,b⟩=>by have :=hp a;omega),grp hv Ac hl _ hlo]
theorem EV {n:Nat} (h:n<2^62) (r:List Int):Ir (Aj n++r)=some ((n:Int),r):=by
 have :=AbU r n 0 0 (by decide) (by simpa using h) (by decide) (fun h=>absurd h (by decide))
 unfold Ir
 simpa using this
theorem Nm {n:Nat} (h:n<2^62) (r:List Int):Ad (Aj n++r)=((n:Int),r):=ED (EV h r)
theorem Ub {n:Nat} (h:n<2^62) (r:List Int):FN (Aj n++r)=true:=IS (EV h r)
end
end Go.Sx.Tryz
namespace Go.Sx.Tryz
open Go.Mi Go.RowKit Go.Sx Go.Proofs
noncomputable section
theorem uF {n m:Nat} (h:n<2^62) (hm:n≤m) (r:List Int):Eo (Aj n++r) m=true:=by
 rw[G_];unfold IF
 rw[Ub h,Nm h,if_pos rfl,if_neg (by show¬(m:Int)<(n:Int);omega)]
theorem kV {xs:List Int} {n:Nat} (h:n≤xs.length):Ck xs n=true:=by
 cases hk:Ck xs n with
 |true=>rfl
 |false=>exact absurd (Hf (by rw[hk];decide)) Ac
theorem dP {d:List Int} {m:Nat} (h:d.length≤m) (hm:m<2^62):Be (Aj d.length++d) m=true:=by
 rw[E9];unfold Gm
 rw[uF Ac h,if_pos rfl,Nm Ac]
 show(if Ck d ((d.length:Nat):Int).toNat=true then true else false)=true
 rw[Int.toNat_natCast,kV (Nat.le_refl _),if_pos rfl]
theorem Aex {id ai ct:Nat} {d:List Int} (h:id≤1073741824∧ai≤1073741824∧ct≤1073741824) (hd:d.length≤1000):FI (Ds id ai ct d)=true∧Bw (Ds id ai ct d)=([],id,ai,ct,d):=by
 have e:Ds id ai ct d=Aj id++(Aj ai++(Aj ct++(Aj d.length++d))):=by unfold Ds;simp only[List.append_assoc]
 have q1:=Nm (n:=id) Ac (Aj ai++(Aj ct++(Aj d.length++d)))
 have q2:=Nm (n:=ai) Ac (Aj ct++(Aj d.length++d))
 have q3:=Nm (n:=ct) Ac (Aj d.length++d)
 have q4:=Nm (n:=d.length) Ac d
 have b1:=Ub (n:=id) Ac (Aj ai++(Aj ct++(Aj d.length++d)))
 have b2:=Ub (n:=ai) Ac (Aj ct++(Aj d.length++d))
 have b3:=Ub (n:=ct) Ac (Aj d.length++d)
 rw[e]
 constructor
 ·rw[G0];unfold UH
  simp only[q1,q2,q3,b1,b2,b3,dP hd (show 1000<2^62 by decide),if_true]
  rw[if_neg Ac,if_neg Ac,if_neg Ac]
 ·rw[bH];unfold bG
  simp only[q1,q2,q3,q4,Int.toNat_natCast]
  rw[List.take_of_length_le (Nat.le_refl _),List.drop_of_length_le (Nat.le_refl _)]
theorem xK {id ai ct:Nat} {d:List Int} (h:id≤1073741824∧ct≤1073741824∧ai<ct) (hd:1≤d.length∧d.length≤1000):QS (Ds id ai ct d)=(id,ai,ct,d,0):=by
 obtain⟨h1,h2⟩:=Aex (id:=id) (ai:=ai) (ct:=ct) (d:=d) Ac hd.2
 have h3:J1 (Ds id ai ct d)=true:=by
  rw[PO];unfold TM
  rw[h1,if_pos rfl,h2,Oh];unfold TL
  rfl
 have h4:BX (Ds id ai ct d)=(id,ai,ct,d):=by rw[lH];unfold lE;rw[h2]
 rw[Jd];unfold QR
 rw[h3,if_pos rfl,h4]
 simp only[WV h hd]
 rw[if_pos (by rfl),if_pos trivial]
end
end Go.Sx.Tryz
namespace Go.Sx
open Go.Mi Go.RowKit
variable [Dfr]
def UR (ρ:Ny) (ks0:List Nat) (L':DL) (H':Hc) (nb':Nat):Bool:=
 let a:=An ρ
 Gq a&&Gq (H'.map fun p=>rn ρ p.1)&&(ks0.all fun k=>BM k a&&Nat.beq (rn ρ k) k)&&(L'.all fun p=>D_ a p.2)&&(H'.all fun p=>BM p.1 a&&Ec a p.2)&&(a.all (Nat.blt · nb'))
section
variable {P:Program} {n:Nat} {L:DL} {H:Hp} {S0:Nat→Prop} {g0 g:G} {w0 w:World} {nb:Nat} {a:Act}
theorem St.ren2 {ks0:List Nat} (hg0:∀k v,g0.N k=some v→k∈ks0) (hS:St n S0 g0 w0 L H nb a g w) (ρ:Ny) (L':DL) (H':Hc) (nb':Nat) (hc:UR ρ ks0 L' H' nb'=true) (hL:Bc L (An L')=L'.map fun p=>(p.1,p.2.ren (rn ρ))) (hH:Ri H (rn ρ) H'):∃g',St n S0 g0 w0 L' (FZ H') nb' a g' w:=by
 simp only[UR,Bool.and_eq_true,List.all_eq_true]at hc
 obtain⟨⟨⟨⟨⟨c1,c2⟩,c3⟩,c4⟩,c5⟩,c6⟩:=hc
 have c1:=EE c1
 have c2:=EE c2
 have nm:∀{ks:List Nat} {d:D},D_ ks d=true→d.plain=true∧∀k∈d.nm,k∈ks:=fun {ks d} h=>by
  simp only[D_,Bool.and_eq_true,List.all_eq_true]at h
  exact⟨h.1,fun k hk=>AN.1 (h.2 k hk)⟩
 have nmO:∀{ks:List Nat} {d:O},Ec ks d=true→d.plain=true∧∀k∈d.nm,k∈ks:=fun {ks d} h=>by
  simp only[Ec,Bool.and_eq_true,List.all_eq_true]at h
  exact⟨h.1,fun k hk=>AN.1 (h.2 k hk)⟩
 let g':G:=⟨fun k=>if k∈An ρ then g.N (rn ρ k)else none,fun k=>g.F (rn ρ k),g.X⟩
 have gN:∀k∈An ρ,g'.N k=g.N (rn ρ k):=fun k hk=>if_pos hk
 have hk0:∀k∈ks0,k∈An ρ∧rn ρ k=k:=fun k hk=>by
  have :=c3 k hk
  exact⟨AN.1 this.1,Nat.eq_of_beq_eq_true this.2⟩
 have hob:∀k o,AS (FZ H') k=some o→k∈An ρ∧o.plain=true∧(∀j∈o.nm,j∈An ρ)∧AS H (rn ρ k)=some (o.ren (rn ρ)):=fun k o ho=>by
  rw[FY]at ho
  have :=c5 _ (JF ho)
  simp only at this
  exact⟨AN.1 this.1,(nmO this.2).1,(nmO this.2).2,MU hH ho⟩
 have hinj:∀i∈An H',∀j∈An H',rn ρ i=rn ρ j→i=j:=by
  have key:∀(l:Hc),List.Nodup (l.map fun p=>rn ρ p.1)→∀i∈An l,∀j∈An l,rn ρ i=rn ρ j→i=j:=by
   intro l
   induction l with
   |nil=>intro _ i hi;cases hi
   |cons p l ih=>
    intro hn i hi j hj e
    rw[List.map_cons,List.nodup_cons]at hn
    simp only[An,List.map_cons,List.mem_cons]at hi hj
    have inn:∀x,x∈l.map (·.1)→rn ρ x∈l.map fun p=>rn ρ p.1:=fun x hx=>by
     obtain⟨q,hq,rfl⟩:=List.mem_map.1 hx
     exact List.mem_map.2 ⟨q,hq,rfl⟩
    rcases hi with rfl|hi
    ·rcases hj with rfl|hj
     ·rfl
     ·exact absurd (e▸inn j hj) hn.1
    ·rcases hj with rfl|hj
     ·exact absurd (e▸inn i hi) hn.1
     ·exact ih hn.2 i hi j hj e
  exact key H' c2
 have kin:∀k o,AS (FZ H') k=some o→k∈An H':=fun k o ho=>by
  rw[FY]at ho
  exact List.mem_map.2 ⟨_,JF ho,rfl⟩
 refine⟨g',hS.size,hS.defers,fun t d ht=> ?_,⟨hS.hs.wf,fun k o ho=> ?_,fun k o ho b hb=> ?_,fun k o k' o' ho ho' hne b hb hb'=> ?_⟩,⟨hS.go.ch,hS.go.s,hS.go.x,hS.go.k,fun k v hk=> ?_,fun k v hk=> ?_⟩,hS.wf0,fun k o ho b hb=> ?_,fun k v hk=> ?_⟩
 ·have h1:Do (Bc L (An L')) t=some (d.ren (rn ρ)):=by rw[hL,Oo,ht];rfl
  have h2:=hS.fr t _ (Ef h1).2
  obtain⟨p1,p2⟩:=nm (c4 _ (On ht))
  exact(Fu d _ _ p1 fun k hk=>gN k (p2 k hk)).1 h2
 ·obtain⟨h1,h2,h3,h4⟩:=hob k o ho
  exact(Jm h2 (fun j hj=>gN j (h3 j hj)) (gN k h1) rfl rfl).1 (hS.hs.os _ _ h4)
 ·exact hS.hs.own _ _ (hob k o ho).2.2.2 b hb
 ·exact hS.hs.dis _ _ _ _ (hob k o ho).2.2.2 (hob k' o' ho').2.2.2 (fun e=>hne (hinj k (kin k o ho) k' (kin k' o' ho') e)) b hb hb'
 ·obtain⟨h1,h2⟩:=hk0 k (hg0 k v hk)
  rw[gN k h1,h2]
  exact hS.go.n k v hk
 ·obtain⟨h1,h2⟩:=hk0 k (hg0 k v hk)
  show g.F (rn ρ k)=_
  rw[h2]
  exact hS.go.f k v hk
 ·exact hS.fp _ _ (hob k o ho).2.2.2 b hb
 ·by_cases h:k∈An ρ
  ·have :=c6 k h
   rw[Nat.blt_eq]at this
   exact this
  ·rw[show g'.N k=none from if_neg h]at hk;cases hk
end
section
variable {n:Nat} {σ:Sg} {S0:Nat→Prop} {g0 g:G} {w0 w:World} {nb:Nat} {a:Act}
theorem Sp.rn2 {ks0:List Nat} (hS:Sp n S0 g0 w0 σ nb a g w) (ρ:Ny) (L':DL) (H':Hc) (nb':Nat) (hg0:∀k v,g0.N k=some v→k∈ks0) (hc:UR ρ ks0 L' H' nb'=true:=by kernel_rfl) (hL:Bc σ.1 (An L')=L'.map fun p=>(p.1,p.2.ren (Go.Sx.rn ρ)):=by kernel_rfl) (hH:(H'.map fun p=>AS σ.2 (Go.Sx.rn ρ p.1))=(H'.map fun p=>some (p.2.ren (Go.Sx.rn ρ))):=by kernel_rfl):∃g',Sp n S0 g0 w0 (L',FZ H') nb' a g' w:=
 St.ren2 hg0 hS.st ρ L' H' nb' hc hL (by
  clear hc hL
  induction H' with
  |nil=>trivial
  |cons p r ih=>
   obtain⟨j,o⟩:=p
   simp only[List.map_cons,List.cons.injEq]at hH
   exact⟨hH.1,ih hH.2⟩)
end
end Go.Sx
namespace Go.Sx.Tryz
open Go.Mi Go.RowKit Go.Sx Go.Proofs
noncomputable section
theorem QK {id ai ct:Nat} {d:List Int} (h:1≤d.length):1≤(Ds id ai ct d).length:=by unfold Ds;rw[List.length_append];omega
section
variable (id ai ct:Nat) (d:List Int)
def Adm:Con:=⟨[lb (Ds id ai ct d)],[],.tu (chain [.ag (chain [vi (id:Int),vi (ai:Int),vi (ct:Int),lb d]),vi 0]),[]⟩
theorem xJ (h:id≤1073741824∧ct≤1073741824∧ai<ct) (hd:1≤d.length∧d.length≤1000):ConOk Tryz.prog 108 (Adm id ai ct d):=by
 have hl:(Ds id ai ct d).length≤100000000000000:=by
  have h1:=AH (n:=id) Ac
  have h2:=AH (n:=ai) Ac
  have h3:=AH (n:=ct) Ac
  have h4:=AH (n:=d.length) Ac
  unfold Ds
  simp only[List.length_append];omega
 have h1:=eS (Ds id ai ct d) hl
 unfold Xo at h1
 rw[xK h hd]at h1
 exact h1
end
end
end Go.Sx.Tryz
namespace Go.Sx.Tryz
open Go.Mi Go.RowKit Go.Sx Go.Proofs
noncomputable section
end
end Go.Sx.Tryz
namespace Go.Sx.Tryz
open Go.Mi Go.RowKit Go.Sx Go.Proofs
noncomputable section
section
variable (x0 x1:Nat)
def Iv (x2:Nat) (x3 x4:List Int) (x5 x6:Nat):O:= .ob 126 (chain [vi 1000,vi ((x0:Nat):Int),vi ((x1:Nat):Int),vi ((x2:Nat):Int),lb x3,lb x4,.cp x5 0,.sk x6])
def U7 (x2:List (Option (List Int))):O:= .ob 187 (chain [vi ((x0:Nat):Int),vi 1000,vi ((x1:Nat):Int),.ls false [.os (.int .u8)] x2])
def Aar:O:= .ob 187 (chain [vi ((x0:Nat):Int),vi 1000,vi 1088,.sk x1])
def tE:O:= .ob 187 (chain [vi ((x0:Nat):Int),vi 1000,vi 1184,.sk x1])
def A9 (x2:Nat) (x3 x4:List Int) (x5:Nat):O:= .ob 126 (chain [vi 1000,vi ((x0:Nat):Int),vi ((x1:Nat):Int),vi ((x2:Nat):Int),lb x3,lb x4,.cp x5 0,.v (.slice none 0 0)])
def Df (x2:Nat):O:= .ob 187 (chain [vi ((x0:Nat):Int),vi 1000,vi ((x1:Nat):Int),.sk x2])
def Afp (x2 x3:Nat):O:= .ob 126 (chain [vi 1000,vi ((x0:Nat):Int),vi ((x1:Nat):Int),vi 0,.v (.slice none 0 0),.v (.slice none 0 0),.cp x2 0,.sk x3])
end
section
variable (id sz ln:Nat) (bx:List (Option (List Int))) (pid pa ct:Nat)
def Aaa (q:Nat) (d:List Int):Con:=⟨[.cp 0 0,.ag (chain [vi (pid:Int),vi (pa:Int),vi (ct:Int),lb d])],[(0,RB id sz ln 1),(1,.sl 22 [.os (.int .u8)] bx)],vi ((NW bx pa:Nat):Int),[(0,RB id sz ln 1),(1,.sl 22 [.os (.int .u8)] (A8 bx pa d))]⟩
theorem Xs (q:Nat) (d:List Int) (hb:bx.length≤10000) (hz:sz≤1000∧ln≤10000) (hpid:pid=id) (hq:q=pa*sz) (hql:q<ln) (hpa:pa<bx.length) (hct:ct=bx.length) (hdl:d.length=min sz (ln-q)) (hft:Ld bx pa d) (hd:1≤d.length∧d.length≤100000):ConOk Tryz.prog 133 (Aaa id sz ln bx pid pa ct q d):=by
 subst hpid
 exact sX pid sz ln bx pa ct q d hb hz hq hql hpa hct hdl hft hd
end
section
variable (st ep at_:Nat) (sd tx:List Int) (id ln:Nat) (bx:List (Option (List Int)))
def gH (sec:List (List Int)) (e2:Nat):Con:=⟨[.cp 0 0,vi (e2:Int)],[(0,Iv st ep at_ sd tx 1 2),(1,U7 id ln bx),(2,.sl 22 [.sl (.int .u8)] sec)],.cp 3 0,[(0,Iv st ep at_ sd tx 1 2),(1,U7 id ln bx),(2,.sl 22 [.sl (.int .u8)] sec),(3,Aar ((2*e2)+1) 4),(4,.sl 22 [.os (.int .u8)] (List.replicate 2 none))]⟩
theorem YL (sec:List (List Int)) (e2:Nat) (hst:st=1) (he2:e2≤500000000):ConOk Tryz.prog 114 (gH st ep at_ sd tx id ln bx sec e2):=by
 refine cy 3 Tryz.func114 rfl Tryz.ntmps114 fun hg0 hS=> ?_
 have EY:sec.length≤9223372036854775807:=hS.lens 2 rfl
 have hs1:(st:Int)=1:=Ac
 exact EO [] 3 hS fun hS=>G5 [(1,GE 2 e2 (2*e2))] [] 3 hS fun hS=>Au (G5 [(4,Iw hs1)] [] 3 hS fun hS=>AQ hS (Rl [(1,GE 2 e2 (2*e2)),(2,DI (2*e2) 1 ((2*e2)+1))] [] 3 hS fun hS=>Ab (G5 [(12,OL ((1000:Int)≠0)),(18,AO (MG ((2*e2)+1) 2 1000 1088 Ac Ac) [] [(0,3),(1,4)])] [] 5 hS fun hS=>EO [] 5 hS fun hS=>AU (Ci hS))))
def gG (sec:List (List Int)) (e2:Nat):Con:=⟨[.cp 0 0,vi (e2:Int)],[(0,Iv st ep at_ sd tx 1 2),(1,U7 id ln bx),(2,.sl 22 [.sl (.int .u8)] sec)],.cp 3 0,[(0,Iv st ep at_ sd tx 1 2),(1,U7 id ln bx),(2,.sl 22 [.sl (.int .u8)] sec),(3,tE (2*e2) 4),(4,.sl 22 [.os (.int .u8)] (List.replicate 2 none))]⟩
theorem YK (sec:List (List Int)) (e2:Nat) (hst:st=2) (he2:e2≤500000000):ConOk Tryz.prog 114 (gG st ep at_ sd tx id ln bx sec e2):=by
 refine cy 3 Tryz.func114 rfl Tryz.ntmps114 fun hg0 hS=> ?_
 have EY:sec.length≤9223372036854775807:=hS.lens 2 rfl
 have hs1:¬(st:Int)=1:=Ac
 exact EO [] 3 hS fun hS=>G5 [(1,GE 2 e2 (2*e2))] [] 3 hS fun hS=>Au (G5 [(4,Ez hs1)] [] 3 hS fun hS=>Ai hS (B5 (G5 [(12,OL ((1000:Int)≠0)),(18,AO (MG (2*e2) 2 1000 1184 Ac Ac) [] [(0,3),(1,4)])] [] 5 hS fun hS=>EO [] 5 hS fun hS=>AU (Ci hS))))
def gE (e2:Nat):Con:=⟨[.cp 0 0,vi (e2:Int)],[(0,A9 st ep at_ sd tx 1),(1,Df id ln 2),(2,.sl 22 [.os (.int .u8)] bx)],.cp 3 0,[(0,A9 st ep at_ sd tx 1),(1,Df id ln 2),(2,.sl 22 [.os (.int .u8)] bx),(3,tE (2*e2) 4),(4,.sl 22 [.os (.int .u8)] (List.replicate 2 none))]⟩
theorem YJ (e2:Nat) (hst:st=2) (he2:e2≤500000000):ConOk Tryz.prog 114 (gE st ep at_ sd tx id ln bx e2):=by
 refine cy 3 Tryz.func114 rfl Tryz.ntmps114 fun hg0 hS=> ?_
 have EY:bx.length≤9223372036854775807:=hS.lens 2 rfl
 have hs1:¬(st:Int)=1:=Ac
 exact EO [] 3 hS fun hS=>G5 [(1,GE 2 e2 (2*e2))] [] 3 hS fun hS=>Au (G5 [(4,Ez hs1)] [] 3 hS fun hS=>Ai hS (B5 (G5 [(12,OL ((1000:Int)≠0)),(18,AO (MG (2*e2) 2 1000 1184 Ac Ac) [] [(0,3),(1,4)])] [] 5 hS fun hS=>EO [] 5 hS fun hS=>AU (Ci hS))))
def fZ (sec:List (List Int)) (e2:Nat):Con:=⟨[.cp 0 0,vi (e2:Int)],[(0,Iv st ep at_ sd tx 1 2),(1,U7 id ln bx),(2,.sl 22 [.sl (.int .u8)] sec)],.cp 0 0,[(0,Afp st e2 3 2),(1,U7 id ln bx),(2,.sl 22 [.sl (.int .u8)] sec),(3,Aar ((2*e2)+1) 4),(4,.sl 22 [.os (.int .u8)] (List.replicate 2 none))]⟩
theorem Yr (sec:List (List Int)) (e2:Nat) (hst:st=1) (he2:e2≤500000000):ConOk Tryz.prog 77 (fZ st ep at_ sd tx id ln bx sec e2):=by
 refine cy 3 Tryz.func77 rfl Tryz.ntmps77 fun hg0 hS=> ?_
 have EY:sec.length≤9223372036854775807:=hS.lens 2 rfl
 exact EO [] 3 hS fun hS=>G5 [(8,AO (YL st ep at_ sd tx id ln bx sec e2 Ac Ac) [(0,0),(1,1),(2,2)] [(3,3),(4,4)])] [] 5 hS fun hS=>EO [] 5 hS fun hS=>AU (Ci hS)
def fY (e2:Nat):Con:=⟨[.cp 0 0,vi (e2:Int)],[(0,A9 st ep at_ sd tx 1),(1,Df id ln 2),(2,.sl 22 [.os (.int .u8)] bx)],.cp 0 0,[(0,.ob 126 (chain [vi 1000,vi (st:Int),vi (e2:Int),vi 0,.v (.slice none 0 0),.v (.slice none 0 0),.cp 3 0,.v (.slice none 0 0)])),(1,Df id ln 2),(2,.sl 22 [.os (.int .u8)] bx),(3,tE (2*e2) 4),(4,.sl 22 [.os (.int .u8)] (List.replicate 2 none))]⟩
theorem Yq (e2:Nat) (hst:st=2) (he2:e2≤500000000):ConOk Tryz.prog 77 (fY st ep at_ sd tx id ln bx e2):=by
 refine cy 3 Tryz.func77 rfl Tryz.ntmps77 fun hg0 hS=> ?_
 have EY:bx.length≤9223372036854775807:=hS.lens 2 rfl
 exact EO [] 3 hS fun hS=>G5 [(8,AO (YJ st ep at_ sd tx id ln bx e2 Ac Ac) [(0,0),(1,1),(2,2)] [(3,3),(4,4)])] [] 5 hS fun hS=>EO [] 5 hS fun hS=>AU (Ci hS)
def Aae (pid pa:Nat) (ct q:Nat) (d:List Int):Con:=⟨[.cp 0 0,.ag (chain [vi (pid:Int),vi (pa:Int),vi (ct:Int),lb d])],[(0,A9 st ep at_ sd tx 1),(1,Df id ln 2),(2,.sl 22 [.os (.int .u8)] bx)],.tu (chain [.v (.slice none 0 0),vi 0]),[(0,A9 st ep at_ sd tx 1),(1,Df id ln 2),(2,.sl 22 [.os (.int .u8)] (A8 bx pa d))]⟩
theorem Xv (pid pa:Nat) (ct q:Nat) (d:List Int) (hb:1≤bx.length∧bx.length≤10000) (hz:ln≤10000) (hpid:pid=id) (hq:q=pa*1000) (hql:q<ln) (hpa:pa<bx.length) (hct:ct=bx.length) (hdl:d.length=min 1000 (ln-q)) (hft:Ld bx pa d) (hd:1≤d.length∧d.length≤1000) (hf:full (A8 bx pa d)=false):ConOk Tryz.prog 142 (Aae st ep at_ sd tx id ln bx pid pa ct q d):=by
 refine cy 3 Tryz.func142 rfl Tryz.ntmps142 fun hg0 hS=> ?_
 have EY:bx.length≤9223372036854775807:=hS.lens 2 rfl
 have hbe:¬((NW bx pa:Nat):Int)=2:=(Xt bx pa)
 refine Ae [] 4 hS fun hS=>Au (Ay [(5,AO (Xs id 1000 ln bx pid pa ct q d AD Ac Ac BC Ac Ac Ac BC (by first |assumption|exact hft Ac) AD) [(0,1),(1,2)] []),(6,Ez hbe)] [] 4 hS fun hS=>Ai hS (EK ?_))
 have hpl:=FA bx pa d
 exact Av [(4,AO (gQ id 1000 ln (A8 bx pa d) AD BC) [(0,1),(1,2)] [])] [] 4 hS fun hS=>Ab (Ae [] 4 hS fun hS=>AU (Ci hS))
def Aad (pid pa:Nat) (ct q:Nat) (d:List Int):Con:=⟨[.cp 0 0,.ag (chain [vi (pid:Int),vi (pa:Int),vi (ct:Int),lb d])],[(0,A9 st ep at_ sd tx 1),(1,Df id ln 2),(2,.sl 22 [.os (.int .u8)] bx)],.tu (chain [lb ((GY (A8 bx pa d)).flatten),vi 0]),[(0,A9 st ep at_ sd tx 1),(1,U7 id ln (A8 bx pa d))]⟩
theorem Xu (pid pa:Nat) (ct q:Nat) (d:List Int) (hb:1≤bx.length∧bx.length≤10000) (hz:ln≤10000) (hpid:pid=id) (hq:q=pa*1000) (hql:q<ln) (hpa:pa<bx.length) (hct:ct=bx.length) (hdl:d.length=min 1000 (ln-q)) (hft:Ld bx pa d) (hd:1≤d.length∧d.length≤1000) (hf:full (A8 bx pa d)=true) (hl:((GY (A8 bx pa d)).flatten).length≤100000):ConOk Tryz.prog 142 (Aad st ep at_ sd tx id ln bx pid pa ct q d):=by
 refine cy 3 Tryz.func142 rfl Tryz.ntmps142 fun hg0 hS=> ?_
 have EY:bx.length≤9223372036854775807:=hS.lens 2 rfl
 have hbe:¬((NW bx pa:Nat):Int)=2:=(Xt bx pa)
 refine Ae [] 4 hS fun hS=>Au (Ay [(5,AO (Xs id 1000 ln bx pid pa ct q d AD Ac Ac BC Ac Ac Ac BC (by first |assumption|exact hft Ac) AD) [(0,1),(1,2)] []),(6,Ez hbe)] [] 4 hS fun hS=>Ai hS (EK ?_))
 have hpl:=FA bx pa d
 exact Av [(4,AO (gP id 1000 ln (A8 bx pa d) AD BC BC) [(0,1),(1,2)] [])] [] 4 hS fun hS=>Ab (Ae [] 4 hS fun hS=>AU (Ci hS))
end
end
end Go.Sx.Tryz
namespace Go.Sx.Tryz
open Go.Mi Go.RowKit Go.Sx Go.Proofs
noncomputable section
section
variable (st ep at_:Nat) (sd tx:List Int) (id ln:Nat) (bx:List (Option (List Int))) (pid pa ct:Nat)
def fJ (q:Nat) (d r:List Int):Con:=⟨[.cp 0 0,.ag (chain [vi (pid:Int),vi (pa:Int),vi (ct:Int),lb d]),lb r],[(0,A9 st ep at_ sd tx 1),(1,Df id ln 2),(2,.sl 22 [.os (.int .u8)] bx)],vi 0,[(0,A9 st ep at_ sd tx 1),(1,Df id ln 2),(2,.sl 22 [.os (.int .u8)] (A8 bx pa d))]⟩
theorem Pd (q:Nat) (d r:List Int) (hb:1≤bx.length∧bx.length≤10000) (hz:ln≤10000) (hpid:pid=id) (hq:q=pa*1000) (hql:q<ln) (hpa:pa<bx.length) (hct:ct=bx.length) (hdl:d.length=min 1000 (ln-q)) (hft:Ld bx pa d) (hd:1≤d.length∧d.length≤1000) (hst:st=2) (hf:full (A8 bx pa d)=false):ConOk Tryz.prog 110 (fJ st ep at_ sd tx id ln bx pid pa ct q d r):=by
 refine cy 3 Tryz.func110 rfl Tryz.ntmps110 fun hg0 hS=> ?_
 have CF:r.length≤9223372036854775807:=hS.len 2 rfl
 have EY:bx.length≤9223372036854775807:=hS.lens 2 rfl
 exact Ae [] 4 hS fun hS=>Ay [(2,AO (Xv st ep at_ sd tx id ln bx pid pa ct q d AD Ac Ac BC Ac Ac Ac BC (by first |assumption|exact hft Ac) AD BC) [(0,0),(1,1),(2,2)] [])] [] 4 hS fun hS=>Au (Ae [] 4 hS fun hS=>AQ hS (Ae [] 4 hS fun hS=>AU (Ah (Ci hS))))
def fI (q:Nat) (d r:List Int):Con:=⟨[.cp 0 0,.ag (chain [vi (pid:Int),vi (pa:Int),vi (ct:Int),lb d]),lb r],[(0,A9 st ep at_ sd tx 1),(1,Df id ln 2),(2,.sl 22 [.os (.int .u8)] bx)],vi 0,[(0,.ob 126 (chain [vi 1000,vi 3,vi (ep:Int),vi 0,lb sd,.sk 3,.cp 4 0,.sk 6])),(1,U7 id ln (A8 bx pa d)),(3,.sl 5 [.int .u8] ((D5 ((GY (A8 bx pa d)).flatten) (r.take 32)).2)),(4,tE (2*ep) 5),(5,.sl 22 [.os (.int .u8)] (List.replicate 2 none)),(6,.sl 22 [.sl (.int .u8)] ([]++[(D5 ((GY (A8 bx pa d)).flatten) (r.take 32)).1]))]⟩
theorem XP (q:Nat) (d r:List Int) (hb:1≤bx.length∧bx.length≤10000) (hz:ln≤10000) (hpid:pid=id) (hq:q=pa*1000) (hql:q<ln) (hpa:pa<bx.length) (hct:ct=bx.length) (hdl:d.length=min 1000 (ln-q)) (hft:Ld bx pa d) (hd:1≤d.length∧d.length≤1000) (hst:st=2) (hck:chk ((GY (A8 bx pa d)).flatten)=0) (hFl:((GY (A8 bx pa d)).flatten).length=1184) (hr:r.length=64) (he:ep≤400000000) (hf:full (A8 bx pa d)=true):ConOk Tryz.prog 110 (fI st ep at_ sd tx id ln bx pid pa ct q d r):=by
 refine cy 3 Tryz.func110 rfl Tryz.ntmps110 fun hg0 hS=> ?_
 have CF:r.length≤9223372036854775807:=hS.len 2 rfl
 have EY:bx.length≤9223372036854775807:=hS.lens 2 rfl
 have hf1:¬((((GY (A8 bx pa d)).flatten).length:Nat):Int)=0:=Ac
 refine Ae [] 4 hS fun hS=>Au ?_
 have hl5:((GY (A8 bx pa d)).flatten).length≤100000:=by omega
 refine Av [(2,AO (Xu st ep at_ sd tx id ln bx pid pa ct q d AD Ac Ac BC Ac Ac Ac BC (by first |assumption|exact hft Ac) AD BC BC) [(0,0),(1,1),(2,2)] [])] [] 4 hS fun hS=>Ej (Ay [(5,Ez hf1)] [] 4 hS fun hS=>Ai hS (EK ?_))
 have h32:(r.take 32).length=32:=by rw[List.length_take];omega
 refine Av [(2,g9 32 r.length),(3,AO (YH ((GY (A8 bx pa d)).flatten) (r.take 32) Ac AD) [] [(0,4)])] [] 5 hS fun hS=>Ej (Ae [] 5 hS fun hS=>Ai hS (B5 (Ay [(7,Ge 0 1 24)] [] 6 hS fun hS=>Ay [(10,AO (YK st ep at_ sd tx id ln (A8 bx pa d) ([]++[(D5 ((GY (A8 bx pa d)).flatten) (r.take 32)).1]) ep Ac Ac) [(0,0),(1,1),(2,5)] [(3,6),(4,7)])] [] 8 hS fun hS=>Ae [] 8 hS fun hS=>AU ?_)))
 obtain⟨gs,hS⟩:=hS.rx [(0,0),(1,1),(2,2),(3,4),(4,6),(5,7),(6,5)] [6] [0,1,3,4,5,6] 7 hg0
 exact Ci hS
def fX (q:Nat) (d:List Int):Con:=⟨[.cp 0 0,.ag (chain [vi (pid:Int),vi (pa:Int),vi (ct:Int),lb d])],[(0,A9 st ep at_ sd tx 1),(1,Df id ln 2),(2,.sl 22 [.os (.int .u8)] bx)],vi 0,[(0,A9 st ep at_ sd tx 1),(1,Df id ln 2),(2,.sl 22 [.os (.int .u8)] (A8 bx pa d))]⟩
theorem Yp (q:Nat) (d:List Int) (hb:1≤bx.length∧bx.length≤10000) (hz:ln≤10000) (hpid:pid=id) (hq:q=pa*1000) (hql:q<ln) (hpa:pa<bx.length) (hct:ct=bx.length) (hdl:d.length=min 1000 (ln-q)) (hft:Ld bx pa d) (hd:1≤d.length∧d.length≤1000) (hst:st=1) (hid:id=2*ep+1) (htx:1≤tx.length) (he:ep≤400000000) (hf:full (A8 bx pa d)=false):ConOk Tryz.prog 109 (fX st ep at_ sd tx id ln bx pid pa ct q d):=by
 refine cy 3 Tryz.func109 rfl Tryz.ntmps109 fun hg0 hS=> ?_
 have EY:bx.length≤9223372036854775807:=hS.lens 2 rfl
 have hg1:(pid:Int)=(((2*ep)+1:Nat):Int):=Ac
 have hg2:¬((tx.length:Nat):Int)=0:=Ac
 exact Ae [] 4 hS fun hS=>Au (Ay [(6,GE 2 ep (2*ep)),(7,DI (2*ep) 1 ((2*ep)+1)),(8,Ik hg1),(15,Ez hg2)] [] 4 hS fun hS=>Ai hS (B5 (Ay [(2,AO (Xv st ep at_ sd tx id ln bx pid pa ct q d AD Ac Ac BC Ac Ac Ac BC (by first |assumption|exact hft Ac) AD BC) [(0,0),(1,1),(2,2)] [])] [] 4 hS fun hS=>Au (Ae [] 4 hS fun hS=>AQ hS (Ae [] 4 hS fun hS=>AU (Ah (Ci hS)))))))
def fW (q:Nat) (d:List Int):Con:=⟨[.cp 0 0,.ag (chain [vi (pid:Int),vi (pa:Int),vi (ct:Int),lb d])],[(0,A9 st ep at_ sd tx 1),(1,Df id ln 2),(2,.sl 22 [.os (.int .u8)] bx)],vi 0,[(0,Afp st (ep+1) 3 5),(1,U7 id ln (A8 bx pa d)),(3,Aar ((2*(ep+1))+1) 4),(4,.sl 22 [.os (.int .u8)] (List.replicate 2 none)),(5,.sl 22 [.sl (.int .u8)] ([]++[(HB ((AF (sd.take 32) (sd.drop 32)).2) ((GY (A8 bx pa d)).flatten)).1]))]⟩
theorem Yo (q:Nat) (d:List Int) (hb:1≤bx.length∧bx.length≤10000) (hz:ln≤10000) (hpid:pid=id) (hq:q=pa*1000) (hql:q<ln) (hpa:pa<bx.length) (hct:ct=bx.length) (hdl:d.length=min 1000 (ln-q)) (hft:Ld bx pa d) (hd:1≤d.length∧d.length≤1000) (hst:st=1) (hid:id=2*ep+1) (htx:1≤tx.length) (he:ep≤400000000) (hFl:((GY (A8 bx pa d)).flatten).length=1088) (hsd:sd.length=64) (hf:full (A8 bx pa d)=true):ConOk Tryz.prog 109 (fW st ep at_ sd tx id ln bx pid pa ct q d):=by
 refine cy 3 Tryz.func109 rfl Tryz.ntmps109 fun hg0 hS=> ?_
 have EY:bx.length≤9223372036854775807:=hS.lens 2 rfl
 have hg1:(pid:Int)=(((2*ep)+1:Nat):Int):=Ac
 have hg2:¬((tx.length:Nat):Int)=0:=Ac
 have hf1:¬((((GY (A8 bx pa d)).flatten).length:Nat):Int)=0:=Ac
 refine Ae [] 4 hS fun hS=>Au (Ay [(6,GE 2 ep (2*ep)),(7,DI (2*ep) 1 ((2*ep)+1)),(8,Ik hg1),(15,Ez hg2)] [] 4 hS fun hS=>Ai hS (EK ?_))
 have hl5:((GY (A8 bx pa d)).flatten).length≤100000:=by omega
 refine Av [(2,AO (Xu st ep at_ sd tx id ln bx pid pa ct q d AD Ac Ac BC Ac Ac Ac BC (by first |assumption|exact hft Ac) AD BC BC) [(0,0),(1,1),(2,2)] [])] [] 4 hS fun hS=>Ej (Ay [(5,Ez hf1)] [] 4 hS fun hS=>Ai hS (B5 (Ay [(4,g9 32 sd.length),(9,ON 32 sd.length),(10,AO (aK (sd.take 32) (sd.drop 32) AD AD) [] [(0,4)])] [] 5 hS fun hS=>Au ?_)))
 obtain⟨gs,hS⟩:=hS.fz 4
 refine Av [(2,AR (eT ((AF (sd.take 32) (sd.drop 32)).2) ((GY (A8 bx pa d)).flatten) AD))] [] 5 hS fun hS=>Ab (Ay [(7,Ge 0 1 24)] [] 6 hS fun hS=>Ay [(5,BQ ep),(6,AO (Yr st ep at_ sd tx id ln (A8 bx pa d) ([]++[(HB ((AF (sd.take 32) (sd.drop 32)).2) ((GY (A8 bx pa d)).flatten)).1]) (ep+1) Ac Ac) [(0,0),(1,1),(2,5)] [(3,6),(4,7)])] [] 8 hS fun hS=>Ae [] 8 hS fun hS=>AU ?_)
 obtain⟨gs,hS⟩:=hS.rx [(0,0),(1,1),(2,2),(3,6),(4,7),(5,5)] [4] [0,1,3,4,5] 6 hg0
 exact Ci hS
end
end
end Go.Sx.Tryz
namespace Go.Sx.Tryz
open Go.Mi Go.RowKit Go.Sx Go.Proofs
noncomputable section
theorem AdZ {pa:Nat} (h:pa<2):List.getD (α:=Option (List Int)) (List.replicate 2 none) pa none=none:=by
 have :pa=0∨pa=1:=by omega
 rcases this with rfl|rfl<;>rfl
theorem Ad0 {pa:Nat} (d:List Int) (h:pa<2):full (A8 (List.replicate 2 none) pa d)=false:=by
 have :pa=0∨pa=1:=by omega
 rcases this with rfl|rfl<;>rfl
section
variable (st ep at_:Nat) (sd tx:List Int) (id ln:Nat) (bx:List (Option (List Int))) (pid pa:Nat) (ct q:Nat) (d r:List Int)
def SG (st ep at_:Nat) (sd tx:List Int) (id ln:Nat) (bx:List (Option (List Int))) (pid pa:Nat) (ct q:Nat) (d r:List Int):Nat×Nat×Nat×(List Int)×(List Int)×Nat×Nat×(List (Option (List Int)))×(List (List Int)):=if(st:Int)=1 then(if(pid:Int)≤((2*ep:Nat):Int)then(st,ep,at_,sd,tx,id,ln,bx,[])else(if(pid:Int)<((2*ep:Nat):Int)then(st,ep,at_,sd,tx,id,ln,bx,[])else(if full (A8 bx pa d)=true then(st,(ep+1),0,[],[],((2*(ep+1))+1),1088,(List.replicate 2 none),([]++[(HB ((AF (sd.take 32) (sd.drop 32)).2) ((GY (A8 bx pa d)).flatten)).1]))else(st,ep,at_,sd,tx,id,ln,(A8 bx pa d),[]))))else(if(pid:Int)<((2*ep:Nat):Int)then(st,ep,at_,sd,tx,id,ln,bx,[])else(if(pid:Int)=((2*ep:Nat):Int)then(if(st:Int)=3 then(st,ep,at_,sd,tx,id,ln,bx,[])else(if full (A8 bx pa d)=true then(3,ep,0,sd,((D5 ((GY (A8 bx pa d)).flatten) (r.take 32)).2),(2*ep),1184,(List.replicate 2 none),([]++[(D5 ((GY (A8 bx pa d)).flatten) (r.take 32)).1]))else(st,ep,at_,sd,tx,id,ln,(A8 bx pa d),[])))else(2,(ep+1),0,[],[],(2*(ep+1)),1184,(A8 (List.replicate 2 none) pa d),[])))
def WE:Nat×Nat×Nat×(List Int)×(List Int)×Nat×Nat×(List (Option (List Int)))×(List (List Int)):=AJ (SG st ep at_ sd tx id ln bx pid pa ct q d r)
theorem Hw:WE st ep at_ sd tx id ln bx pid pa ct q d r=SG st ep at_ sd tx id ln bx pid pa ct q d r:=Af _
def Aa7 (z_:Nat×Nat×Nat×(List Int)×(List Int)×Nat×Nat×(List (Option (List Int)))×(List (List Int)):=WE st ep at_ sd tx id ln bx pid pa ct q d r):Con:=⟨[.cp 0 0,lb (Ds pid pa ct d),lb r],[(0,A9 st ep at_ sd tx 1),(1,Df id ln 2),(2,.sl 22 [.os (.int .u8)] bx)],vi 0,[(0,Iv z_.1 z_.2.1 z_.2.2.1 (z_.2.2.2.1) (z_.2.2.2.2.1) 3 5),(3,Df z_.2.2.2.2.2.1 z_.2.2.2.2.2.2.1 4),(4,.sl 22 [.os (.int .u8)] (z_.2.2.2.2.2.2.2.1)),(5,.sl 22 [.sl (.int .u8)] (z_.2.2.2.2.2.2.2.2))]⟩
theorem Acc (hb:bx.length=2) (hln:ln=(if st=1 then 1088 else 1184)) (hid:id=(if st=1 then 2*ep+1 else 2*ep)) (hst:st=1∨st=2∨st=3) (hpi:(st=1∧pid≤2*ep+1)∨(st≠1∧pid≤2*ep)∨(st=3∧pid=2*ep+2)) (hq:q=pa*1000) (hql:q<1088) (hpa:pa<2∧ct=2) (hdl:d.length=min 1000 ((if st=1 then 1088 else 1184)-q)) (hft:pid=id→st≠3→Ld bx pa d) (hd:1≤d.length∧d.length≤1000) (hr:r.length=64) (he:ep≤400000000∧pid≤1000000000) (htx:st=1→pid=id→1≤tx.length∧sd.length=64) (hEt0:st≠1→full (A8 bx pa d)=true→chk ((GY (A8 bx pa d)).flatten)=0∧((GY (A8 bx pa d)).flatten).length=1184) (hEg0:st=1→full (A8 bx pa d)=true→((GY (A8 bx pa d)).flatten).length=1088):ConOk Tryz.prog 73 (Aa7 st ep at_ sd tx id ln bx pid pa ct q d r):=by
 refine cy 3 Tryz.func73 rfl Tryz.ntmps73 fun hg0 hS=> ?_
 have Bf:(Ds pid pa ct d).length≤9223372036854775807:=hS.len 1 rfl
 have CF:r.length≤9223372036854775807:=hS.len 2 rfl
 have EY:bx.length≤9223372036854775807:=hS.lens 2 rfl
 have hf2:((r.length:Nat):Int)=64:=Ac
 have hf3:¬(((Ds pid pa ct d).length:Nat):Int)=0:=(by have :=QK (id:=pid) (ai:=pa) (ct:=ct) hd.1;omega)
 refine Ae [] 3 hS fun hS=>JN ?_
 have hst1:st=1→ln=1088∧id=2*ep+1∧d.length=min 1000 (1088-q):=fun h=>by rw[if_pos h]at hln hid hdl;exact⟨hln,hid,hdl⟩
 have hst2:st≠1→ln=1184∧id=2*ep∧d.length=min 1000 (1184-q):=fun h=>by rw[if_neg h]at hln hid hdl;exact⟨hln,hid,hdl⟩
 refine Av [(12,Ik hf2)] [] 3 hS fun hS=>Ab (Ai hS (EK (Ay [(2,Ez hf3)] [] 3 hS fun hS=>Ai hS (B5 (Ay [(1,AR (xJ pid pa ct d Ac AD))] [7] 4 hS fun hS=>Au (Ae [] 4 hS fun hS=>Ai hS (B5 (Ay [(4,GE 2 ep (2*ep))] [] 4 hS fun hS=>Au (Br (JN ?_))))))))))
 by_cases h1:(st:Int)=1
 ·refine Av [(4,Iw h1)] [] 4 hS fun hS=>Ab (AB ((pid:Int)≤((2*ep:Nat):Int)) hS (fun h2=> ?_) (fun h2=> ?_))
  ·refine B5 (AB ((pid:Int)≤((2*ep:Nat):Int)) hS (fun h3=> ?_) (fun h3=> ?_))
   ·refine Au ?_
    obtain⟨gs,hS⟩:=hS.nilob 0 7 22 [.sl (.int .u8)]
    refine Dn [] 5 hS fun hS=>D6 (AC (Ah ?_))
    obtain⟨gs,hS⟩:=hS.rn2 [(0,0),(1,1),(2,2),(3,1),(4,2),(5,4)] [(6,vi 0)] [(0,Iv st ep at_ sd tx 3 5),(3,Df id ln 4),(4,.sl 22 [.os (.int .u8)] bx),(5,.sl 22 [.sl (.int .u8)] [])] 6 hg0
    exact Bh (.trans (Hw ..) ((if_pos h1).trans (if_pos h2))) hS
   ·exact absurd h2 h3
  ·refine Dn [] 4 hS fun hS=>Ab (AB ((pid:Int)<((2*ep:Nat):Int)) hS (fun h4=> ?_) (fun h4=> ?_))
   ·refine Au ?_
    obtain⟨gs,hS⟩:=hS.nilob 0 7 22 [.sl (.int .u8)]
    refine Dn [] 5 hS fun hS=>D6 (AC (Ah ?_))
    obtain⟨gs,hS⟩:=hS.rn2 [(0,0),(1,1),(2,2),(3,1),(4,2),(5,4)] [(6,vi 0)] [(0,Iv st ep at_ sd tx 3 5),(3,Df id ln 4),(4,.sl 22 [.os (.int .u8)] bx),(5,.sl 22 [.sl (.int .u8)] [])] 6 hg0
    exact Bh (.trans (Hw ..) ((if_pos h1).trans ((if_neg h2).trans (if_pos h4)))) hS
   ·refine Ay [(4,Iw h1)] [] 4 hS fun hS=>AQ hS (Au ?_)
    have hs1:=hst1 Ac
    have htx1:=htx Ac Ac
    have hft1:=hft Ac Ac
    have hdl1:d.length=min 1000 (ln-q):=by rw[hs1.1];exact hs1.2.2
    have hEg:st=1→full (A8 bx pa d)=true→((GY (A8 bx pa d)).flatten).length=1088:=hEg0
    by_cases h5:full (A8 bx pa d)=true
    ·have hs1:=hst1 Ac
     have htx1:=htx Ac Ac
     have hft1:=hft Ac Ac
     have hdl1:d.length=min 1000 (ln-q):=by rw[hs1.1];exact hs1.2.2
     have hEg:st=1→full (A8 bx pa d)=true→((GY (A8 bx pa d)).flatten).length=1088:=hEg0
     refine Av [(2,AO (Yo st ep at_ sd tx id ln bx pid pa ct q d AD Ac Ac BC Ac Ac Ac BC (by first |assumption|exact hft Ac) AD Ac Ac AD Ac (hEg Ac BC) AD h5) [(0,0),(1,1),(2,2)] [(3,4),(4,5),(5,6)])] [] 7 hS fun hS=>D6 (AC (Ah ?_))
     have hS:=hS.wko 0 [.top,.top,.top,.top,lb [],lb [],.top,.top]
     obtain⟨gs,hS⟩:=hS.rx [(0,0),(1,1),(2,2),(3,4),(4,5),(5,6)] [6] [0,3,4,5] 6 hg0
     exact Bh (.trans (Hw ..) ((if_pos h1).trans ((if_neg h2).trans ((if_neg h4).trans (if_pos h5))))) hS
    ·have hs1:=hst1 Ac
     have htx1:=htx Ac Ac
     have hft1:=hft Ac Ac
     have hdl1:d.length=min 1000 (ln-q):=by rw[hs1.1];exact hs1.2.2
     have hEg:st=1→full (A8 bx pa d)=true→((GY (A8 bx pa d)).flatten).length=1088:=hEg0
     refine Av [(2,AO (Yp st ep at_ sd tx id ln bx pid pa ct q d AD Ac Ac BC Ac Ac Ac BC (by first |assumption|exact hft Ac) AD Ac Ac AD Ac (Em h5)) [(0,0),(1,1),(2,2)] [])] [] 4 hS fun hS=> ?_
     obtain⟨gs,hS⟩:=hS.nilob 0 7 22 [.sl (.int .u8)]
     refine D6 (AC (Ah ?_))
     obtain⟨gs,hS⟩:=hS.rn2 [(0,0),(1,1),(2,2),(3,1),(4,2),(5,4)] [(6,vi 0)] [(0,Iv st ep at_ sd tx 3 5),(3,Df id ln 4),(4,.sl 22 [.os (.int .u8)] (A8 bx pa d)),(5,.sl 22 [.sl (.int .u8)] [])] 6 hg0
     exact Bh (.trans (Hw ..) ((if_pos h1).trans ((if_neg h2).trans ((if_neg h4).trans (if_neg h5))))) hS
 ·refine Av [(4,Ez h1)] [] 4 hS fun hS=>Ab (Ai hS (Dn [] 4 hS fun hS=>Ab (AB ((pid:Int)<((2*ep:Nat):Int)) hS (fun h6=> ?_) (fun h6=> ?_))))
  ·refine Au ?_
   obtain⟨gs,hS⟩:=hS.nilob 0 7 22 [.sl (.int .u8)]
   refine Dn [] 5 hS fun hS=>D6 (AC (Ah ?_))
   obtain⟨gs,hS⟩:=hS.rn2 [(0,0),(1,1),(2,2),(3,1),(4,2),(5,4)] [(6,vi 0)] [(0,Iv st ep at_ sd tx 3 5),(3,Df id ln 4),(4,.sl 22 [.os (.int .u8)] bx),(5,.sl 22 [.sl (.int .u8)] [])] 6 hg0
   exact Bh (.trans (Hw ..) ((if_neg h1).trans (if_pos h6))) hS
  ·refine Ay [(4,Ez h1)] [] 4 hS fun hS=>Ai hS (Au ?_)
   by_cases h7:(pid:Int)=((2*ep:Nat):Int)
   ·refine Av [(3,Iw h7)] [] 4 hS fun hS=>Ab (AB ((st:Int)=3) hS (fun h8=> ?_) (fun h8=> ?_))
    ·refine Au ?_
     obtain⟨gs,hS⟩:=hS.nilob 0 7 22 [.sl (.int .u8)]
     refine Dn [] 5 hS fun hS=>D6 (AC (Ah ?_))
     obtain⟨gs,hS⟩:=hS.rn2 [(0,0),(1,1),(2,2),(3,1),(4,2),(5,4)] [(6,vi 0)] [(0,Iv st ep at_ sd tx 3 5),(3,Df id ln 4),(4,.sl 22 [.os (.int .u8)] bx),(5,.sl 22 [.sl (.int .u8)] [])] 6 hg0
     exact Bh (.trans (Hw ..) ((if_neg h1).trans ((if_neg h6).trans ((if_pos h7).trans (if_pos h8))))) hS
    ·refine Ay [(3,Iw h7)] [] 4 hS fun hS=>AQ hS (Au ?_)
     have hs1:=hst2 Ac
     have hft1:=hft Ac Ac
     have hdl1:d.length=min 1000 (ln-q):=by rw[hs1.1];exact hs1.2.2
     have hEt:st=2→full (A8 bx pa d)=true→chk ((GY (A8 bx pa d)).flatten)=0∧((GY (A8 bx pa d)).flatten).length=1184:=fun h=>hEt0 Ac
     by_cases h9:full (A8 bx pa d)=true
     ·have hs1:=hst2 Ac
      have hft1:=hft Ac Ac
      have hdl1:d.length=min 1000 (ln-q):=by rw[hs1.1];exact hs1.2.2
      have hEt:st=2→full (A8 bx pa d)=true→chk ((GY (A8 bx pa d)).flatten)=0∧((GY (A8 bx pa d)).flatten).length=1184:=fun h=>hEt0 Ac
      refine Av [(3,AO (XP st ep at_ sd tx id ln bx pid pa ct q d r AD Ac Ac BC Ac Ac Ac BC (by first |assumption|exact hft Ac) AD Ac (hEt Ac BC).1 (hEt Ac BC).2 AD Ac h9) [(0,0),(1,1),(2,2)] [(3,4),(4,5),(5,6),(6,7)])] [] 8 hS fun hS=>D6 (AC (Ah ?_))
      obtain⟨gs,hS⟩:=hS.fz 4
      obtain⟨gs,hS⟩:=hS.rx [(0,0),(1,1),(2,2),(3,5),(4,6),(5,7)] [6] [0,3,4,5] 6 hg0
      exact Bh (.trans (Hw ..) ((if_neg h1).trans ((if_neg h6).trans ((if_pos h7).trans ((if_neg h8).trans (if_pos h9)))))) hS
     ·have hs1:=hst2 Ac
      have hft1:=hft Ac Ac
      have hdl1:d.length=min 1000 (ln-q):=by rw[hs1.1];exact hs1.2.2
      have hEt:st=2→full (A8 bx pa d)=true→chk ((GY (A8 bx pa d)).flatten)=0∧((GY (A8 bx pa d)).flatten).length=1184:=fun h=>hEt0 Ac
      refine Av [(3,AO (Pd st ep at_ sd tx id ln bx pid pa ct q d r AD Ac Ac BC Ac Ac Ac BC (by first |assumption|exact hft Ac) AD Ac (Em h9)) [(0,0),(1,1),(2,2)] [])] [] 4 hS fun hS=> ?_
      obtain⟨gs,hS⟩:=hS.nilob 0 7 22 [.sl (.int .u8)]
      refine D6 (AC (Ah ?_))
      obtain⟨gs,hS⟩:=hS.rn2 [(0,0),(1,1),(2,2),(3,1),(4,2),(5,4)] [(6,vi 0)] [(0,Iv st ep at_ sd tx 3 5),(3,Df id ln 4),(4,.sl 22 [.os (.int .u8)] (A8 bx pa d)),(5,.sl 22 [.sl (.int .u8)] [])] 6 hg0
      exact Bh (.trans (Hw ..) ((if_neg h1).trans ((if_neg h6).trans ((if_pos h7).trans ((if_neg h8).trans (if_neg h9)))))) hS
   ·refine Av [(3,Ez h7)] [] 4 hS fun hS=>Ab (Ai hS (Ay [(3,Ez h7)] [] 4 hS fun hS=>Ai hS (Au ?_)))
    by_cases h10:(pid:Int)=(((2*ep)+2:Nat):Int)
    ·refine Av [(3,DI (2*ep) 2 ((2*ep)+2)),(4,Iw h10)] [] 4 hS fun hS=>Ab (AB ((st:Int)=3) hS (fun h11=> ?_) (fun h11=> ?_))
     ·refine Ae [10] 5 hS fun hS=>Ae [] 5 hS fun hS=>Ay [(4,BQ ep),(5,AO (Yq 2 ep at_ sd tx id ln bx (ep+1) Ac Ac) [(0,4),(1,1),(2,2)] [(3,5),(4,6)])] [] 7 hS fun hS=>JN ?_
      have hs1:=hst2 Ac
      have hpa2:pa<2:=by omega
      have hft2:Ld (List.replicate 2 none) pa d:= .inl (AdZ hpa2)
      have hfl2:¬full (A8 (List.replicate 2 none) pa d)=true:=by rw[Ad0 d hpa2];decide
      have hrl:(List.replicate 2 (none:Option (List Int))).length=2:=rfl
      have hdl1:d.length=min 1000 (1184-q):=hs1.2.2
      have hS:=hS.wko 4 [.top,.top,.top,.top,lb [],.top,.top,.top]
      have hS:=hS.wko 4 [.top,.top,.top,.top,.top,lb [],.top,.top]
      refine Av [(2,AO (Pd 2 (ep+1) 0 ([]:List Int) ([]:List Int) (2*(ep+1)) 1184 (List.replicate 2 none) pid pa ct q d r AD Ac Ac BC Ac Ac Ac BC (by first |assumption|exact hft Ac) AD Ac (Em hfl2)) [(0,4),(1,5),(2,6)] [])] [] 7 hS fun hS=>Ab (Ae [] 7 hS fun hS=>Ai hS (B5 (Ae [] 7 hS fun hS=>Au ?_)))
      obtain⟨gs,hS⟩:=hS.nilob 0 7 22 [.sl (.int .u8)]
      refine Dn [] 8 hS fun hS=>D6 (AC (Ah ?_))
      obtain⟨gs,hS⟩:=hS.rx [(0,0),(1,1),(2,2),(3,5),(4,6),(5,7)] [6] [0,3,4,5] 6 hg0
      exact Bh (.trans (Hw ..) ((if_neg h1).trans ((if_neg h6).trans (if_neg h7)))) hS
     ·refine Iu (Au ?_)
      exfalso
      omega
    ·refine Av [(3,DI (2*ep) 2 ((2*ep)+2)),(4,Ez h10)] [] 4 hS fun hS=>Ab (Ai hS (Iu (Au ?_)))
     exfalso
     omega
end
end
end Go.Sx.Tryz
namespace Go.Sx.Tryz
open Go.Mi Go.RowKit Go.Sx Go.Proofs
noncomputable section
def BA (x0 x1:Nat) (x2:List (Option (List Int))):O:= .ob 187 (chain [vi ((x0:Nat):Int),vi 1000,vi ((x1:Nat):Int),.ls true [.os (.int .u8)] x2])
section
variable (st ep at_:Nat) (sd tx:List Int) (id ln:Nat) (bx:List (Option (List Int)))
def rB (s:List Int):Con:=⟨[.cp 0 0,lb s],[(0,A9 st ep at_ sd tx 1),(1,BA id ln bx)],.tu (chain []),[(0,.ob 126 (chain [vi 1000,vi (st:Int),vi (ep:Int),vi (at_:Int),.ls true [.int .u8] s,lb ((AF (s.take 32) (s.drop 32)).1),.cp 1 0,.v (.slice none 0 0)])),(1,BA id ln bx)]⟩
theorem Sc (s:List Int) (hs:s.length=64):ConOk Tryz.prog 78 (rB st ep at_ sd tx id ln bx s):=by
 refine cy 2 Tryz.func78 rfl Tryz.ntmps78 fun hg0 hS=> ?_
 have Bf:s.length≤9223372036854775807:=hS.len 1 rfl
 exact G5 [(2,AR (S5 s AD))] [] 2 hS fun hS=>Rl [(2,g9 32 s.length),(4,ON 32 s.length),(5,AO (aK (s.take 32) (s.drop 32) AD AD) [] [(0,2)])] [] 3 hS fun hS=>fiN hS
def Nj (st ep at_:Nat) (sd tx:List Int) (id ln:Nat) (bx:List (Option (List Int))) (r:List Int):Nat×(List Int)×(List Int)×(List Int):=if(st:Int)=2 then(at_,sd,tx,[])else(if(st:Int)=3 then(if((tx.length:Nat):Int)=0 then((at_+1),r,((AF (r.take 32) (r.drop 32)).1),Ds ((2*ep)+1) (at_%((Al ((2*ep)+1) ((AF (r.take 32) (r.drop 32)).1) 1000).length)) ((Al ((2*ep)+1) ((AF (r.take 32) (r.drop 32)).1) 1000).length) ((((AF (r.take 32) (r.drop 32)).1).drop ((at_%((Al ((2*ep)+1) ((AF (r.take 32) (r.drop 32)).1) 1000).length))*1000)).take 1000))else((at_+1),sd,tx,Ds ((2*ep)+1) (at_%((Al ((2*ep)+1) tx 1000).length)) ((Al ((2*ep)+1) tx 1000).length) ((tx.drop ((at_%((Al ((2*ep)+1) tx 1000).length))*1000)).take 1000)))else(if((tx.length:Nat):Int)=0 then((at_+1),r,((AF (r.take 32) (r.drop 32)).1),Ds (2*ep) (at_%((Al (2*ep) ((AF (r.take 32) (r.drop 32)).1) 1000).length)) ((Al (2*ep) ((AF (r.take 32) (r.drop 32)).1) 1000).length) ((((AF (r.take 32) (r.drop 32)).1).drop ((at_%((Al (2*ep) ((AF (r.take 32) (r.drop 32)).1) 1000).length))*1000)).take 1000))else((at_+1),sd,tx,Ds (2*ep) (at_%((Al (2*ep) tx 1000).length)) ((Al (2*ep) tx 1000).length) ((tx.drop ((at_%((Al (2*ep) tx 1000).length))*1000)).take 1000))))
def A3 (r:List Int):Nat×(List Int)×(List Int)×(List Int):=AJ (Nj st ep at_ sd tx id ln bx r)
theorem HV (r:List Int):A3 st ep at_ sd tx id ln bx r=Nj st ep at_ sd tx id ln bx r:=Af _
def Adb (r:List Int) (z_:Nat×(List Int)×(List Int)×(List Int):=A3 st ep at_ sd tx id ln bx r):Con:=⟨[.cp 0 0,lb r],[(0,A9 st ep at_ sd tx 1),(1,BA id ln bx)],.tu (chain [lb (z_.2.2.2),vi 0]),[(0,A9 st ep z_.1 (z_.2.1) (z_.2.2.1) 1),(1,BA id ln bx)]⟩
theorem vI (r:List Int) (hst:st=1∨st=2∨st=3) (hr:r.length=64) (he:ep≤400000000) (ha:at_≤1000000000) (ht:(st=1→tx.length=0∨tx.length=1184)∧(st=3→tx.length=1088)):ConOk Tryz.prog 45 (Adb st ep at_ sd tx id ln bx r):=by
 refine cy 2 Tryz.func45 rfl Tryz.ntmps45 fun hg0 hS=> ?_
 have Bf:r.length≤9223372036854775807:=hS.len 1 rfl
 have hf2:((r.length:Nat):Int)=64:=Ac
 refine EO [] 2 hS fun hS=>Au (G5 [(12,Ik hf2)] [] 2 hS fun hS=>Ai hS (B5 (G5 [(4,GE 2 ep (2*ep))] [] 2 hS fun hS=>Au (EO [] 2 hS fun hS=>Br (EO [] 2 hS fun hS=>AB ((st:Int)=2) hS (fun h1=> ?_) (fun h1=> ?_))))))
 ·refine EO [] 2 hS fun hS=>AU (AC (Ah ?_))
  have hS:=hS.wk 4 (lb [])
  exact Bh (.trans (HV ..) (if_pos h1)) hS
 ·refine EO [] 2 hS fun hS=>AB ((st:Int)=3) hS (fun h2=> ?_) (fun h2=> ?_)
  ·refine Rl [(1,DI (2*ep) 1 ((2*ep)+1))] [6] 2 hS fun hS=>BV (Au (EO [] 2 hS fun hS=>AB (((tx.length:Nat):Int)=0) hS (fun h3=> ?_) (fun h3=> ?_)))
   ·refine Rl [(2,AO (Sc st ep at_ sd tx id ln bx r AD) [(0,0),(1,1)] [])] [] 2 hS fun hS=>Ej ?_
    have hkl:=Hu (r.take 32) (r.drop 32) (by rw[List.length_drop];omega)
    refine Rl [(9,AO (Lu ((2*ep)+1) ((AF (r.take 32) (r.drop 32)).1) 1000 Ac AD Ac) [] [(0,2)])] [] 3 hS fun hS=>Ej ?_
    have hcb:=eW (ln:=((AF (r.take 32) (r.drop 32)).1).length) (sz:=1000) Ac Ac
    have hsl:=GK ((2*ep)+1) ((AF (r.take 32) (r.drop 32)).1) 1000
    have hix:at_%(Al ((2*ep)+1) ((AF (r.take 32) (r.drop 32)).1) 1000).length<(Al ((2*ep)+1) ((AF (r.take 32) (r.drop 32)).1) 1000).length:=Nat.mod_lt _ Ac
    have hRow:=N7 ((2*ep)+1) ((AF (r.take 32) (r.drop 32)).1) 1000 _ hix
    have hdl:=To (xs:=((AF (r.take 32) (r.drop 32)).1)) (sz:=1000) (i:=at_%(Al ((2*ep)+1) ((AF (r.take 32) (r.drop 32)).1) 1000).length) Ac (by rw[←hsl];exact hix)
    refine Rl [(7,Lb at_ ((Al ((2*ep)+1) ((AF (r.take 32) (r.drop 32)).1) 1000).length)),(8,AG (at_%((Al ((2*ep)+1) ((AF (r.take 32) (r.drop 32)).1) 1000).length)) ((Al ((2*ep)+1) ((AF (r.take 32) (r.drop 32)).1) 1000).length)),(9,GC (.ag (chain [vi (((2*ep)+1:Nat):Int),vi (((at_%((Al ((2*ep)+1) ((AF (r.take 32) (r.drop 32)).1) 1000).length)):Nat):Int),vi (((Al ((2*ep)+1) ((AF (r.take 32) (r.drop 32)).1) 1000).length:Nat):Int),lb ((((AF (r.take 32) (r.drop 32)).1).drop ((at_%((Al ((2*ep)+1) ((AF (r.take 32) (r.drop 32)).1) 1000).length))*1000)).take 1000)])) [(.ag (chain [vi (((Al ((2*ep)+1) ((AF (r.take 32) (r.drop 32)).1) 1000).getD (at_%((Al ((2*ep)+1) ((AF (r.take 32) (r.drop 32)).1) 1000).length)) (rz [.int .i64,.int .i64,.int .i64,.sl (.int .u8)])).1),vi ((((Al ((2*ep)+1) ((AF (r.take 32) (r.drop 32)).1) 1000).getD (at_%((Al ((2*ep)+1) ((AF (r.take 32) (r.drop 32)).1) 1000).length)) (rz [.int .i64,.int .i64,.int .i64,.sl (.int .u8)])).2).1),vi (((((Al ((2*ep)+1) ((AF (r.take 32) (r.drop 32)).1) 1000).getD (at_%((Al ((2*ep)+1) ((AF (r.take 32) (r.drop 32)).1) 1000).length)) (rz [.int .i64,.int .i64,.int .i64,.sl (.int .u8)])).2).2).1),lb (((((Al ((2*ep)+1) ((AF (r.take 32) (r.drop 32)).1) 1000).getD (at_%((Al ((2*ep)+1) ((AF (r.take 32) (r.drop 32)).1) 1000).length)) (rz [.int .i64,.int .i64,.int .i64,.sl (.int .u8)])).2).2).2)]):D)= .ag (chain [vi (((2*ep)+1:Nat):Int),vi (((at_%((Al ((2*ep)+1) ((AF (r.take 32) (r.drop 32)).1) 1000).length)):Nat):Int),vi (((Al ((2*ep)+1) ((AF (r.take 32) (r.drop 32)).1) 1000).length:Nat):Int),lb ((((AF (r.take 32) (r.drop 32)).1).drop ((at_%((Al ((2*ep)+1) ((AF (r.take 32) (r.drop 32)).1) 1000).length))*1000)).take 1000)])] ⟨(by first |(rw[hRow];done)|(rw[hRow];rfl)),trivial⟩)] [9] 4 hS fun hS=>Ab (G5 [(4,BQ at_)] [] 4 hS fun hS=>G5 [(1,AR (H8 ((2*ep)+1) (at_%((Al ((2*ep)+1) ((AF (r.take 32) (r.drop 32)).1) 1000).length)) ((Al ((2*ep)+1) ((AF (r.take 32) (r.drop 32)).1) 1000).length) ((((AF (r.take 32) (r.drop 32)).1).drop ((at_%((Al ((2*ep)+1) ((AF (r.take 32) (r.drop 32)).1) 1000).length))*1000)).take 1000) Ac Ac))] [] 4 hS fun hS=>AU ?_)
    have hS:=hS.wko 0 [.top,.top,.top,.top,lb [],.top,.top,.top]
    exact Bh (.trans (HV ..) ((if_neg h1).trans ((if_pos h2).trans (if_pos h3)))) hS
   ·refine EK ?_
    have hkl:=Hu (r.take 32) (r.drop 32) (by rw[List.length_drop];omega)
    refine Rl [(9,AO (Lu ((2*ep)+1) tx 1000 Ac AD Ac) [] [(0,2)])] [] 3 hS fun hS=>Ej ?_
    have hcb:=eW (ln:=tx.length) (sz:=1000) Ac Ac
    have hsl:=GK ((2*ep)+1) tx 1000
    have hix:at_%(Al ((2*ep)+1) tx 1000).length<(Al ((2*ep)+1) tx 1000).length:=Nat.mod_lt _ Ac
    have hRow:=N7 ((2*ep)+1) tx 1000 _ hix
    have hdl:=To (xs:=tx) (sz:=1000) (i:=at_%(Al ((2*ep)+1) tx 1000).length) Ac (by rw[←hsl];exact hix)
    exact Rl [(7,Lb at_ ((Al ((2*ep)+1) tx 1000).length)),(8,AG (at_%((Al ((2*ep)+1) tx 1000).length)) ((Al ((2*ep)+1) tx 1000).length)),(9,GC (.ag (chain [vi (((2*ep)+1:Nat):Int),vi (((at_%((Al ((2*ep)+1) tx 1000).length)):Nat):Int),vi (((Al ((2*ep)+1) tx 1000).length:Nat):Int),lb ((tx.drop ((at_%((Al ((2*ep)+1) tx 1000).length))*1000)).take 1000)])) [(.ag (chain [vi (((Al ((2*ep)+1) tx 1000).getD (at_%((Al ((2*ep)+1) tx 1000).length)) (rz [.int .i64,.int .i64,.int .i64,.sl (.int .u8)])).1),vi ((((Al ((2*ep)+1) tx 1000).getD (at_%((Al ((2*ep)+1) tx 1000).length)) (rz [.int .i64,.int .i64,.int .i64,.sl (.int .u8)])).2).1),vi (((((Al ((2*ep)+1) tx 1000).getD (at_%((Al ((2*ep)+1) tx 1000).length)) (rz [.int .i64,.int .i64,.int .i64,.sl (.int .u8)])).2).2).1),lb (((((Al ((2*ep)+1) tx 1000).getD (at_%((Al ((2*ep)+1) tx 1000).length)) (rz [.int .i64,.int .i64,.int .i64,.sl (.int .u8)])).2).2).2)]):D)= .ag (chain [vi (((2*ep)+1:Nat):Int),vi (((at_%((Al ((2*ep)+1) tx 1000).length)):Nat):Int),vi (((Al ((2*ep)+1) tx 1000).length:Nat):Int),lb ((tx.drop ((at_%((Al ((2*ep)+1) tx 1000).length))*1000)).take 1000)])] ⟨(by first |(rw[hRow];done)|(rw[hRow];rfl)),trivial⟩)] [9] 4 hS fun hS=>Ab (G5 [(4,BQ at_)] [] 4 hS fun hS=>G5 [(1,AR (H8 ((2*ep)+1) (at_%((Al ((2*ep)+1) tx 1000).length)) ((Al ((2*ep)+1) tx 1000).length) ((tx.drop ((at_%((Al ((2*ep)+1) tx 1000).length))*1000)).take 1000) Ac Ac))] [] 4 hS fun hS=>AU (Bh (.trans (HV ..) ((if_neg h1).trans ((if_pos h2).trans (if_neg h3)))) hS))
  ·refine Iu (Au (EO [] 2 hS fun hS=>AB (((tx.length:Nat):Int)=0) hS (fun h4=> ?_) (fun h4=> ?_)))
   ·refine Rl [(2,AO (Sc st ep at_ sd tx id ln bx r AD) [(0,0),(1,1)] [])] [] 2 hS fun hS=>Ej ?_
    have hkl:=Hu (r.take 32) (r.drop 32) (by rw[List.length_drop];omega)
    refine Rl [(9,AO (Lu (2*ep) ((AF (r.take 32) (r.drop 32)).1) 1000 Ac AD Ac) [] [(0,2)])] [] 3 hS fun hS=>Ej ?_
    have hcb:=eW (ln:=((AF (r.take 32) (r.drop 32)).1).length) (sz:=1000) Ac Ac
    have hsl:=GK (2*ep) ((AF (r.take 32) (r.drop 32)).1) 1000
    have hix:at_%(Al (2*ep) ((AF (r.take 32) (r.drop 32)).1) 1000).length<(Al (2*ep) ((AF (r.take 32) (r.drop 32)).1) 1000).length:=Nat.mod_lt _ Ac
    have hRow:=N7 (2*ep) ((AF (r.take 32) (r.drop 32)).1) 1000 _ hix
    have hdl:=To (xs:=((AF (r.take 32) (r.drop 32)).1)) (sz:=1000) (i:=at_%(Al (2*ep) ((AF (r.take 32) (r.drop 32)).1) 1000).length) Ac (by rw[←hsl];exact hix)
    refine Rl [(7,Lb at_ ((Al (2*ep) ((AF (r.take 32) (r.drop 32)).1) 1000).length)),(8,AG (at_%((Al (2*ep) ((AF (r.take 32) (r.drop 32)).1) 1000).length)) ((Al (2*ep) ((AF (r.take 32) (r.drop 32)).1) 1000).length)),(9,GC (.ag (chain [vi ((2*ep:Nat):Int),vi (((at_%((Al (2*ep) ((AF (r.take 32) (r.drop 32)).1) 1000).length)):Nat):Int),vi (((Al (2*ep) ((AF (r.take 32) (r.drop 32)).1) 1000).length:Nat):Int),lb ((((AF (r.take 32) (r.drop 32)).1).drop ((at_%((Al (2*ep) ((AF (r.take 32) (r.drop 32)).1) 1000).length))*1000)).take 1000)])) [(.ag (chain [vi (((Al (2*ep) ((AF (r.take 32) (r.drop 32)).1) 1000).getD (at_%((Al (2*ep) ((AF (r.take 32) (r.drop 32)).1) 1000).length)) (rz [.int .i64,.int .i64,.int .i64,.sl (.int .u8)])).1),vi ((((Al (2*ep) ((AF (r.take 32) (r.drop 32)).1) 1000).getD (at_%((Al (2*ep) ((AF (r.take 32) (r.drop 32)).1) 1000).length)) (rz [.int .i64,.int .i64,.int .i64,.sl (.int .u8)])).2).1),vi (((((Al (2*ep) ((AF (r.take 32) (r.drop 32)).1) 1000).getD (at_%((Al (2*ep) ((AF (r.take 32) (r.drop 32)).1) 1000).length)) (rz [.int .i64,.int .i64,.int .i64,.sl (.int .u8)])).2).2).1),lb (((((Al (2*ep) ((AF (r.take 32) (r.drop 32)).1) 1000).getD (at_%((Al (2*ep) ((AF (r.take 32) (r.drop 32)).1) 1000).length)) (rz [.int .i64,.int .i64,.int .i64,.sl (.int .u8)])).2).2).2)]):D)= .ag (chain [vi ((2*ep:Nat):Int),vi (((at_%((Al (2*ep) ((AF (r.take 32) (r.drop 32)).1) 1000).length)):Nat):Int),vi (((Al (2*ep) ((AF (r.take 32) (r.drop 32)).1) 1000).length:Nat):Int),lb ((((AF (r.take 32) (r.drop 32)).1).drop ((at_%((Al (2*ep) ((AF (r.take 32) (r.drop 32)).1) 1000).length))*1000)).take 1000)])] ⟨(by first |(rw[hRow];done)|(rw[hRow];rfl)),trivial⟩)] [9] 4 hS fun hS=>Ab (G5 [(4,BQ at_)] [] 4 hS fun hS=>G5 [(1,AR (H8 (2*ep) (at_%((Al (2*ep) ((AF (r.take 32) (r.drop 32)).1) 1000).length)) ((Al (2*ep) ((AF (r.take 32) (r.drop 32)).1) 1000).length) ((((AF (r.take 32) (r.drop 32)).1).drop ((at_%((Al (2*ep) ((AF (r.take 32) (r.drop 32)).1) 1000).length))*1000)).take 1000) Ac Ac))] [] 4 hS fun hS=>AU ?_)
    have hS:=hS.wko 0 [.top,.top,.top,.top,lb [],.top,.top,.top]
    exact Bh (.trans (HV ..) ((if_neg h1).trans ((if_neg h2).trans (if_pos h4)))) hS
   ·refine EK ?_
    have hkl:=Hu (r.take 32) (r.drop 32) (by rw[List.length_drop];omega)
    refine Rl [(9,AO (Lu (2*ep) tx 1000 Ac AD Ac) [] [(0,2)])] [] 3 hS fun hS=>Ej ?_
    have hcb:=eW (ln:=tx.length) (sz:=1000) Ac Ac
    have hsl:=GK (2*ep) tx 1000
    have hix:at_%(Al (2*ep) tx 1000).length<(Al (2*ep) tx 1000).length:=Nat.mod_lt _ Ac
    have hRow:=N7 (2*ep) tx 1000 _ hix
    have hdl:=To (xs:=tx) (sz:=1000) (i:=at_%(Al (2*ep) tx 1000).length) Ac (by rw[←hsl];exact hix)
    exact Rl [(7,Lb at_ ((Al (2*ep) tx 1000).length)),(8,AG (at_%((Al (2*ep) tx 1000).length)) ((Al (2*ep) tx 1000).length)),(9,GC (.ag (chain [vi ((2*ep:Nat):Int),vi (((at_%((Al (2*ep) tx 1000).length)):Nat):Int),vi (((Al (2*ep) tx 1000).length:Nat):Int),lb ((tx.drop ((at_%((Al (2*ep) tx 1000).length))*1000)).take 1000)])) [(.ag (chain [vi (((Al (2*ep) tx 1000).getD (at_%((Al (2*ep) tx 1000).length)) (rz [.int .i64,.int .i64,.int .i64,.sl (.int .u8)])).1),vi ((((Al (2*ep) tx 1000).getD (at_%((Al (2*ep) tx 1000).length)) (rz [.int .i64,.int .i64,.int .i64,.sl (.int .u8)])).2).1),vi (((((Al (2*ep) tx 1000).getD (at_%((Al (2*ep) tx 1000).length)) (rz [.int .i64,.int .i64,.int .i64,.sl (.int .u8)])).2).2).1),lb (((((Al (2*ep) tx 1000).getD (at_%((Al (2*ep) tx 1000).length)) (rz [.int .i64,.int .i64,.int .i64,.sl (.int .u8)])).2).2).2)]):D)= .ag (chain [vi ((2*ep:Nat):Int),vi (((at_%((Al (2*ep) tx 1000).length)):Nat):Int),vi (((Al (2*ep) tx 1000).length:Nat):Int),lb ((tx.drop ((at_%((Al (2*ep) tx 1000).length))*1000)).take 1000)])] ⟨(by first |(rw[hRow];done)|(rw[hRow];rfl)),trivial⟩)] [9] 4 hS fun hS=>Ab (G5 [(4,BQ at_)] [] 4 hS fun hS=>G5 [(1,AR (H8 (2*ep) (at_%((Al (2*ep) tx 1000).length)) ((Al (2*ep) tx 1000).length) ((tx.drop ((at_%((Al (2*ep) tx 1000).length))*1000)).take 1000) Ac Ac))] [] 4 hS fun hS=>AU (Bh (.trans (HV ..) ((if_neg h1).trans ((if_neg h2).trans (if_neg h4)))) hS))
end
end
end Go.Sx.Tryz
namespace Go.Sx.Tryz
open Go.Mi Go.RowKit Go.Sx Go.Proofs
noncomputable section
section
variable (id ln:Nat) (bx:List (Option (List Int)))
def sJ:Con:=⟨[.cp 0 0],[(0,BA id ln bx)],.cp 1 0,[(0,BA id ln bx),(1,Df id ln 2),(2,.sl 22 [.os (.int .u8)] bx)]⟩
theorem gR (hbl:bx.length≤100000000):ConOk Tryz.prog 97 (sJ id ln bx):=by
 exact cy 1 Tryz.func97 rfl Tryz.ntmps97 fun hg0 hS=>EO [] 1 hS fun hS=>Au (EO [] 1 hS fun hS=>Ai hS (B5 (EO [3] 2 hS fun hS=>G5 [(4,AO (dV bx AD) [] [(0,2)])] [] 3 hS fun hS=>EO [] 3 hS fun hS=>AU (Ci hS))))
end
section
variable (st ep at_:Nat) (sd tx:List Int) (id ln:Nat) (bx:List (Option (List Int)))
def rE:Con:=⟨[.cp 0 0],[(0,A9 st ep at_ sd tx 1),(1,BA id ln bx)],.cp 2 0,[(0,A9 st ep at_ sd tx 1),(1,BA id ln bx),(2,A9 st ep at_ sd tx 3),(3,Df id ln 4),(4,.sl 22 [.os (.int .u8)] bx)]⟩
theorem dL (hbl:bx.length≤100000000):ConOk Tryz.prog 62 (rE st ep at_ sd tx id ln bx):=by
 exact cy 2 Tryz.func62 rfl Tryz.ntmps62 fun hg0 hS=>EO [] 2 hS fun hS=>Au (EO [] 2 hS fun hS=>Ai hS (B5 (EO [3] 3 hS fun hS=>G5 [(4,AR (pJ))] [] 3 hS fun hS=>G5 [(4,AO (gR id ln bx AD) [(0,1)] [(1,3),(2,4)])] [] 5 hS fun hS=>EO [] 5 hS fun hS=>AU (Ci hS))))
end
section
variable (l:List (List Int))
def QM (x11:Nat):(List (List Int))→(List (List Int)):=fun x4=>x4++[l.getD x11 (rz [.sl (.int .u8)])]
def HA (l:List (List Int)):Nat→(List (List Int))
 |0=>[]
 |x11+1=>QM l x11 (HA l x11)
def bD:(List (List Int)):=HA l l.length
def UE:(List (List Int)):=AJ (bD l)
theorem bE:UE l=bD l:=Af _
def bS (z_:(List (List Int)):=UE l):Con:=Cq [.sk 0,.v .nilFunc] [(0,.sl 22 [.sl (.int .u8)] l)] (.ls false [.sl (.int .u8)] z_)
theorem pH (hl:l.length≤1000) (hm:∀j,(l.getD j (rz [.sl (.int .u8)])).length≤10000):ConOk Tryz.prog 96 (bS l):=by
 refine cy 1 Tryz.func96 rfl Tryz.ntmps96 fun hg0 hS=> ?_
 have nN:l.length≤9223372036854775807:=hS.lens 0 rfl
 refine Ae [] 1 hS fun hS=>Au (Ae [] 1 hS fun hS=>AQ hS (Dn [] 1 hS fun hS=>Ej (Ae [9] 1 hS fun hS=>Br ?_)))
 obtain⟨gs,hS⟩:=hS.nilk 4 22 [.sl (.int .u8)]
 refine Ar (ι:=Nat×(List (List Int))) hg0 hS (fun(x11,x4)=>(l.length-x11,[(11,vi ((x11:Nat):Int))],[(1,.sl 22 [.sl (.int .u8)] x4)],(x11≤l.length)∧(x4=HA l x11)∧(x4.length=x11)∧True)) [1,4,9,10] [0] 2 (0,[]) [(0,0),(1,1)] ⟨Ac,rfl,rfl,trivial⟩ ?_
 rintro⟨x11,x4⟩ ac gs ws ⟨hx11,hq1,p1,_⟩ hS
 refine Ae [] 2 hS fun hS=>Au (AB ((x11:Int)<((l.length:Nat):Int)) hS (fun h1=> ?_) (fun h1=> ?_))
 ·refine BG (Ay [(0,AG x11 l.length)] [] 2 hS fun hS=> ?_)
  have hmx:=hm x11
  exact Av [(3,AR (Dt (l.getD x11 (rz [.sl (.int .u8)])) AD)),(4,AR (Dt (l.getD x11 (rz [.sl (.int .u8)])) AD)),(6,Ge x4.length 1 24)] [4] 3 hS fun hS=>BV (Av [(0,BQ x11)] [11] 3 hS fun hS=>Ab (Am hg0 hS (x11+1,x4++[l.getD x11 (rz [.sl (.int .u8)])]) [(0,0),(1,2)] ⟨Ac,(A2 (st:=QM _) hq1 rfl rfl),(by rw[List.length_append];simp;omega),trivial⟩))
 ·have hT:=hS
  obtain rfl:l.length=x11:=by omega
  obtain rfl:=hq1.symm
  have hS:=hT
  refine CX (Ae [4] 2 hS fun hS=>AU ?_)
  obtain⟨gs,hS⟩:=hS.fz 1
  exact Bh (bE ..) hS
theorem pI:UE l=l:=by
 have key:∀i,i≤l.length→HA l i=l.take i:=by
  intro i
  induction i with
  |zero=>intro _;rfl
  |succ i ih=>
   intro hi
   have e:HA l (i+1)=HA l i++[List.getD (α:=List Int) l i []]:=rfl
   rw[e,ih Ac,List.take_succ_eq_append_getElem Ac,List.getD_eq_getElem?_getD,List.getElem?_eq_getElem Ac]
   rfl
 rw[bE]
 exact(key _ (Nat.le_refl _)).trans (List.take_length)
def zT:Con:=⟨[.sk 0,.v .nilFunc],[(0,.sl 22 [.sl (.int .u8)] l)],.ls false [.sl (.int .u8)] l,[(0,.sl 22 [.sl (.int .u8)] l)]⟩
theorem pG (hl:l.length≤1000) (hm:∀j,(l.getD j (rz [.sl (.int .u8)])).length≤10000):ConOk Tryz.prog 96 (zT l):=by
 have h:=pH l hl hm
 unfold bS at h
 rw[pI]at h
 exact h
end
section
variable (st ep at_:Nat) (sd tx:List Int) (id ln:Nat) (bx:List (Option (List Int))) (sec:List (List Int))
def yV:Con:=Cq [.cp 0 0] [(0,Iv st ep at_ sd tx 1 2),(1,Df id ln 3),(2,.sl 22 [.sl (.int .u8)] sec),(3,.sl 22 [.os (.int .u8)] bx)] (.ls false [.sl (.int .u8)] sec)
theorem j7 (hl:sec.length≤1000) (hm:∀j,(sec.getD j (rz [.sl (.int .u8)])).length≤10000):ConOk Tryz.prog 145 (yV st ep at_ sd tx id ln bx sec):=by
 refine cy 4 Tryz.func145 rfl Tryz.ntmps145 fun hg0 hS=> ?_
 have EY:sec.length≤9223372036854775807:=hS.lens 2 rfl
 have FP:bx.length≤9223372036854775807:=hS.lens 3 rfl
 exact Ae [] 4 hS fun hS=>Au (Ae [] 4 hS fun hS=>Ai hS (B5 (Ay [(4,AO (pG sec AD BC) [(0,2)] [])] [] 4 hS fun hS=>AU (Ci hS))))
def yT:Con:=⟨[.cp 0 0],[(0,Iv st ep at_ sd tx 1 2),(1,Df id ln 3),(2,.sl 22 [.sl (.int .u8)] sec),(3,.sl 22 [.os (.int .u8)] bx)],.ls false [.sl (.int .u8)] sec,[(0,A9 st ep at_ sd tx 1),(1,Df id ln 3),(2,.sl 22 [.sl (.int .u8)] sec),(3,.sl 22 [.os (.int .u8)] bx)]⟩
theorem jV (hl:sec.length≤1000) (hm:∀j,(sec.getD j (rz [.sl (.int .u8)])).length≤10000):ConOk Tryz.prog 111 (yT st ep at_ sd tx id ln bx sec):=by
 refine cy 4 Tryz.func111 rfl Tryz.ntmps111 fun hg0 hS=> ?_
 have EY:sec.length≤9223372036854775807:=hS.lens 2 rfl
 have FP:bx.length≤9223372036854775807:=hS.lens 3 rfl
 exact Ae [] 4 hS fun hS=>Ay [(1,AO (j7 st ep at_ sd tx id ln bx sec AD BC) [(0,0),(1,1),(2,2),(3,3)] [])] [] 4 hS fun hS=>Au (Ae [] 4 hS fun hS=>AQ hS (Dn [] 4 hS fun hS=>Ab (Ae [] 4 hS fun hS=>AU (Ci hS))))
end
end
end Go.Sx.Tryz
namespace Go.Sx.Tryz
open Go.Mi Go.RowKit Go.Sx Go.Proofs
noncomputable section
section
variable (st ep at_:Nat) (sd tx:List Int) (id ln:Nat) (bx:List (Option (List Int))) (b r:List Int)
def rT:Con:=⟨[.cp 0 0,lb b,lb r],[(0,A9 st ep at_ sd tx 1),(1,Df id ln 2),(2,.sl 22 [.os (.int .u8)] bx)],vi 0,[(0,Iv st ep at_ sd tx 3 5),(3,Df id ln 4),(4,.sl 22 [.os (.int .u8)] bx),(5,.sl 22 [.sl (.int .u8)] ([]:List (List Int)))]⟩
theorem wF (hb:b.length=0) (hr:r.length=64):ConOk Tryz.prog 73 (rT st ep at_ sd tx id ln bx b r):=by
 refine cy 3 Tryz.func73 rfl Tryz.ntmps73 fun hg0 hS=> ?_
 have Bf:b.length≤9223372036854775807:=hS.len 1 rfl
 have CF:r.length≤9223372036854775807:=hS.len 2 rfl
 have EY:bx.length≤9223372036854775807:=hS.lens 2 rfl
 have hf2:((r.length:Nat):Int)=64:=Ac
 have hf3:((b.length:Nat):Int)=0:=Ac
 refine Ae [] 3 hS fun hS=>Au (Ay [(12,Ik hf2)] [] 3 hS fun hS=>Ai hS (EK (Ay [(2,Iw hf3)] [] 3 hS fun hS=>AQ hS (Au ?_))))
 obtain⟨gs,hS⟩:=hS.nilob 0 7 22 [.sl (.int .u8)]
 refine Dn [] 4 hS fun hS=>D6 (Ah ?_)
 obtain⟨gs,hS⟩:=hS.rn2 [(0,0),(1,1),(2,2),(3,1),(4,2),(5,3)] [(6,vi 0)] [(0,Iv st ep at_ sd tx 3 5),(3,Df id ln 4),(4,.sl 22 [.os (.int .u8)] bx),(5,.sl 22 [.sl (.int .u8)] [])] 6 hg0
 exact Ci hS
end
def XA (st ep:Nat) (sd tx:List Int) (bx:List (Option (List Int))) (b:List Int) (pid pa:Nat) (d:List Int):Prop:=
 b=[]∨(b=Ds pid pa 2 d∧pa<2∧(1≤d.length∧d.length≤1000)∧pid≤1000000000∧d.length=min 1000 ((if st=1 then 1088 else 1184)-pa*1000)
  ∧((st=1∧pid≤2*ep+1)∨(st≠1∧pid≤2*ep)∨(st=3∧pid=2*ep+2))
  ∧(pid=(if st=1 then 2*ep+1 else 2*ep)→st≠3→Ld bx pa d)
  ∧(st=1→pid=2*ep+1→1≤tx.length∧sd.length=64)
  ∧(st≠1→full (A8 bx pa d)=true→chk ((GY (A8 bx pa d)).flatten)=0∧((GY (A8 bx pa d)).flatten).length=1184)
  ∧(st=1→full (A8 bx pa d)=true→((GY (A8 bx pa d)).flatten).length=1088))
def FF (st ep at_:Nat) (sd tx:List Int) (id ln:Nat) (bx:List (Option (List Int))) (b:List Int) (pid pa:Nat) (d r:List Int):Nat×Nat×Nat×List Int×List Int×Nat×Nat×List (Option (List Int))×List (List Int):=
 AJ (if b=[]then(st,ep,at_,sd,tx,id,ln,bx,[])else WE st ep at_ sd tx id ln bx pid pa 2 (pa*1000) d r)
theorem aR (st ep at_:Nat) (sd tx:List Int) (id ln:Nat) (bx:List (Option (List Int))) (pid pa:Nat) (d r:List Int):FF st ep at_ sd tx id ln bx [] pid pa d r=(st,ep,at_,sd,tx,id,ln,bx,[]):=(Af _).trans (if_pos rfl)
theorem WF (st ep at_:Nat) (sd tx:List Int) (id ln:Nat) (bx:List (Option (List Int))) {b:List Int} (h:b≠[]) (pid pa:Nat) (d r:List Int):FF st ep at_ sd tx id ln bx b pid pa d r=WE st ep at_ sd tx id ln bx pid pa 2 (pa*1000) d r:=(Af _).trans (if_neg h)
section
variable (st ep at_:Nat) (sd tx:List Int) (id ln:Nat) (bx:List (Option (List Int))) (b:List Int) (pid:Nat) (pa:Nat) (d:List Int) (r:List Int)
def rU:Con:=⟨[.cp 0 0,lb b,lb r],[(0,A9 st ep at_ sd tx 1),(1,Df id ln 2),(2,.sl 22 [.os (.int .u8)] bx)],vi 0,[(0,Iv ((FF st ep at_ sd tx id ln bx b pid pa d r).1) ((FF st ep at_ sd tx id ln bx b pid pa d r).2.1) ((FF st ep at_ sd tx id ln bx b pid pa d r).2.2.1) ((FF st ep at_ sd tx id ln bx b pid pa d r).2.2.2.1) ((FF st ep at_ sd tx id ln bx b pid pa d r).2.2.2.2.1) 3 5),(3,Df ((FF st ep at_ sd tx id ln bx b pid pa d r).2.2.2.2.2.1) ((FF st ep at_ sd tx id ln bx b pid pa d r).2.2.2.2.2.2.1) 4),(4,.sl 22 [.os (.int .u8)] ((FF st ep at_ sd tx id ln bx b pid pa d r).2.2.2.2.2.2.2.1)),(5,.sl 22 [.sl (.int .u8)] ((FF st ep at_ sd tx id ln bx b pid pa d r).2.2.2.2.2.2.2.2))]⟩
theorem Acb (hst:st=1∨st=2∨st=3) (hln:ln=(if st=1 then 1088 else 1184)) (hid:id=(if st=1 then 2*ep+1 else 2*ep)) (hb:bx.length=2) (hr:r.length=64) (he:ep≤400000000) (hpc:XA st ep sd tx bx b pid pa d):ConOk Tryz.prog 73 (rU st ep at_ sd tx id ln bx b pid pa d r):=by
 by_cases h0:b=[]
 ·subst h0
  have h:=wF st ep at_ sd tx id ln bx [] r rfl hr
  unfold rT at h
  unfold rU
  rw[aR]
  exact h
 ·rcases hpc with h|⟨hb1,hpa,hd,hpi2,hdl,hpi,hft,htx,hEt,hEg⟩
  ·exact absurd h h0
  ·have h:=Acc st ep at_ sd tx id ln bx pid pa 2 (pa*1000) d r hb hln hid hst hpi rfl Ac ⟨hpa,rfl⟩ hdl (fun h=>hft (h.trans hid)) hd hr ⟨he,hpi2⟩ (fun h1 h2=>htx h1 (by rw[if_pos h1]at hid;omega)) hEt hEg
   unfold Aa7 at h
   unfold rU
   rw[WF st ep at_ sd tx id ln bx h0,hb1]
   exact h
end
end
end Go.Sx.Tryz
namespace Go.Sx.Tryz
open Go.Mi Go.RowKit Go.Sx Go.Proofs
noncomputable section
def XB (x0:List Int) (x1 x2:Bool) (x3:Nat) (x4 x5:Nat) (x6 x7:Nat) (x8 x9 x10:Nat):O:= .ob 80 (chain [lb x0,.v (.bool x1),.v (.bool x2),.cp x3 0,.cp x4 0,.cp x5 0,vi ((x6:Nat):Int),.sk x7,vi ((x8:Nat):Int),vi ((x9:Nat):Int),.sk x10])
section
variable (id:List Int) (fi:Bool) (ok:List Int) (oi:Nat) (ik:List Int) (ii low:Nat) (mx:List (List Int)) (last told:Nat) (kl:List KR) (st:Nat) (ep at_:Nat) (sd tx:List Int) (rid rln:Nat) (bx:List (Option (List Int)))
def yR (k:List Int) (n:Nat):Con:=Cq [.cp 0 0,lb k,vi (n:Int)] [(0,XB id fi true 1 2 5 low 4 last told 3),(1,Ao ok oi),(2,Ao ik ii),(3,.sl 86 [.int .i64,.int .i64,.sl (.sl (.int .u8))] kl),(4,.sl 22 [.sl (.int .u8)] mx),(5,A9 st ep at_ sd tx 6),(6,Df rid rln 7),(7,.sl 22 [.os (.int .u8)] bx)] (lb (AI k (mx.getD (n-low) (rz [.sl (.int .u8)])) [109,101,115,115,97,103,101]))
theorem VE (k:List Int) (n:Nat) (hm1:1≤mx.length∧mx.length≤100000) (hm2:∀j,(mx.getD j (rz [.sl (.int .u8)])).length≤32) (hlow:low≤100000000000) (hk:k.length=32) (hn:low≤n∧n<low+mx.length):ConOk Tryz.prog 51 (yR id fi ok oi ik ii low mx last told kl st ep at_ sd tx rid rln bx k n):=by
 refine cy 8 Tryz.func51 rfl Tryz.ntmps51 fun hg0 hS=> ?_
 have Bf:k.length≤9223372036854775807:=hS.len 1 rfl
 have FP:kl.length≤9223372036854775807:=hS.lens 3 rfl
 have Qs:mx.length≤9223372036854775807:=hS.lens 4 rfl
 have I3:bx.length≤9223372036854775807:=hS.lens 7 rfl
 refine Ae [] 8 hS fun hS=>Au ?_
 have hmk:=hm2 (n-low)
 exact Av [(10,GD n low (n-low)),(11,AG (n-low) mx.length),(13,Row),(14,OM (0<[109,101,115,115,97,103,101].length) (by decide)),(15,AR (EJ k (mx.getD (n-low) (rz [.sl (.int .u8)])) [109,101,115,115,97,103,101] AD AD AD))] [] 9 hS fun hS=>D6 (Ci hS)
def rH (i:Nat):Con:=Cq [.cp 0 0,vi (i:Int)] [(0,XB id fi true 1 2 5 low 4 last told 3),(1,Ao ok oi),(2,Ao ik ii),(3,.sl 86 [.int .i64,.int .i64,.sl (.sl (.int .u8))] kl),(4,.sl 22 [.sl (.int .u8)] mx),(5,A9 st ep at_ sd tx 6),(6,Df rid rln 7),(7,.sl 22 [.os (.int .u8)] bx)] (vi (C4 kl (i:Int)))
theorem Ss (i:Nat):ConOk Tryz.prog 94 (rH id fi ok oi ik ii low mx last told kl st ep at_ sd tx rid rln bx i):=by
 refine cy 8 Tryz.func94 rfl Tryz.ntmps94 fun hg0 hS=> ?_
 have FP:kl.length≤9223372036854775807:=hS.lens 3 rfl
 have Qs:mx.length≤9223372036854775807:=hS.lens 4 rfl
 have I3:bx.length≤9223372036854775807:=hS.lens 7 rfl
 exact Ae [] 9 hS fun hS=>Ay [(5,AO (aJ kl i) [(0,3),(1,8)] [])] [] 9 hS fun hS=>AU (Ci hS)
end
end
end Go.Sx.Tryz
namespace Go.Sx.Tryz
open Go.Mi Go.RowKit Go.Sx Go.Proofs
noncomputable section
section
variable (id:List Int) (fi:Bool) (ok:List Int) (oi:Nat) (ik:List Int) (ii low:Nat) (mx:List (List Int)) (last told:Nat) (kl:List KR) (st:Nat) (ep at_:Nat) (sd tx:List Int) (rid rln:Nat) (bx:List (Option (List Int))) (hb:List Int) (hi:Nat) (hn hh:Nat) (hp hx:List Int)
def NI (id:List Int) (fi:Bool) (ok:List Int) (oi:Nat) (ik:List Int) (ii low:Nat) (mx:List (List Int)) (last told:Nat) (kl:List KR) (st:Nat) (ep at_:Nat) (sd tx:List Int) (rid rln:Nat) (bx:List (Option (List Int))) (hb:List Int) (hi:Nat) (hn hh:Nat) (hp hx:List Int):Bool:=if(hi:Int)<(ii:Int)then(if(C4 kl (hi:Int))<0 then false else(if(hn:Int)<(((kl.getD (Int.toNat (C4 kl (hi:Int))) (rz [.int .i64,.int .i64,.sl (.sl (.int .u8))])).2).1)then false else(if(((((kl.getD (Int.toNat (C4 kl (hi:Int))) (rz [.int .i64,.int .i64,.sl (.sl (.int .u8))])).2).2).length:Nat):Int)≤((hn:Int)-(((kl.getD (Int.toNat (C4 kl (hi:Int))) (rz [.int .i64,.int .i64,.sl (.sl (.int .u8))])).2).1))then false else true)))else(if bK ii hi=true then(if(hn:Int)<(last:Int)then false else(if((low+mx.length-1:Nat):Int)<(hn:Int)then false else true))else false)
def B1:Bool:=AJ (NI id fi ok oi ik ii low mx last told kl st ep at_ sd tx rid rln bx hb hi hn hh hp hx)
theorem DT:B1 id fi ok oi ik ii low mx last told kl st ep at_ sd tx rid rln bx hb hi hn hh hp hx=NI id fi ok oi ik ii low mx last told kl st ep at_ sd tx rid rln bx hb hi hn hh hp hx:=Af _
def J5 (id:List Int) (fi:Bool) (ok:List Int) (oi:Nat) (ik:List Int) (ii low:Nat) (mx:List (List Int)) (last told:Nat) (kl:List KR) (st:Nat) (ep at_:Nat) (sd tx:List Int) (rid rln:Nat) (bx:List (Option (List Int))) (hb:List Int) (hi:Nat) (hn hh:Nat) (hp hx:List Int):Nat:=if(hi:Int)<(ii:Int)then(if(C4 kl (hi:Int))<0 then 5 else(if(hn:Int)<(((kl.getD (Int.toNat (C4 kl (hi:Int))) (rz [.int .i64,.int .i64,.sl (.sl (.int .u8))])).2).1)then 2 else 2))else(if bK ii hi=true then(if(hn:Int)<(last:Int)then 2 else 2)else(Fl ik ii hi))
def LX:Nat:=AJ (J5 id fi ok oi ik ii low mx last told kl st ep at_ sd tx rid rln bx hb hi hn hh hp hx)
theorem Rq:LX id fi ok oi ik ii low mx last told kl st ep at_ sd tx rid rln bx hb hi hn hh hp hx=J5 id fi ok oi ik ii low mx last told kl st ep at_ sd tx rid rln bx hb hi hn hh hp hx:=Af _
def P8 (id:List Int) (fi:Bool) (ok:List Int) (oi:Nat) (ik:List Int) (ii low:Nat) (mx:List (List Int)) (last told:Nat) (kl:List KR) (st:Nat) (ep at_:Nat) (sd tx:List Int) (rid rln:Nat) (bx:List (Option (List Int))) (hb:List Int) (hi:Nat) (hn hh:Nat) (hp hx:List Int):(List Int):=if(hi:Int)<(ii:Int)then(((kl.getD (Int.toNat (C4 kl (hi:Int))) (rz [.int .i64,.int .i64,.sl (.sl (.int .u8))])).2).2).getD (Int.toNat ((hn:Int)-(((kl.getD (Int.toNat (C4 kl (hi:Int))) (rz [.int .i64,.int .i64,.sl (.sl (.int .u8))])).2).1))) (rz [.sl (.int .u8)])else(AI (J6 (A0 ik (hi-ii))) (mx.getD (hn-low) (rz [.sl (.int .u8)])) [109,101,115,115,97,103,101])
def CC:(List Int):=AJ (P8 id fi ok oi ik ii low mx last told kl st ep at_ sd tx rid rln bx hb hi hn hh hp hx)
theorem KC:CC id fi ok oi ik ii low mx last told kl st ep at_ sd tx rid rln bx hb hi hn hh hp hx=P8 id fi ok oi ik ii low mx last told kl st ep at_ sd tx rid rln bx hb hi hn hh hp hx:=Af _
def Y0 (z_:(List Int):=CC id fi ok oi ik ii low mx last told kl st ep at_ sd tx rid rln bx hb hi hn hh hp hx):Con:=Cq [.cp 0 0,.ag (chain [lb hb,vi (hi:Int),vi (hn:Int),vi (hh:Int),lb hp,lb hx])] [(0,XB id fi true 1 2 5 low 4 last told 3),(1,Ao ok oi),(2,Ao ik ii),(3,.sl 86 [.int .i64,.int .i64,.sl (.sl (.int .u8))] kl),(4,.sl 22 [.sl (.int .u8)] mx),(5,A9 st ep at_ sd tx 6),(6,Df rid rln 7),(7,.sl 22 [.os (.int .u8)] bx)] (lb z_)
theorem Wi (hok:ok.length=32) (hik:ik.length=32) (hoi:oi≤100000000000) (hii:ii≤100000000000) (hm1:1≤mx.length∧mx.length≤100000) (hm2:∀j,(mx.getD j (rz [.sl (.int .u8)])).length≤32) (hlow:low≤100000000000) (hK:N2 kl) (hll:low≤last∧last≤100000000000) (hhn:hn≤10000000000∧hi≤10000000000) (hk:B1 id fi ok oi ik ii low mx last told kl st ep at_ sd tx rid rln bx hb hi hn hh hp hx=true):ConOk Tryz.prog 70 (Y0 id fi ok oi ik ii low mx last told kl st ep at_ sd tx rid rln bx hb hi hn hh hp hx):=by
 refine cy 8 Tryz.func70 rfl Tryz.ntmps70 fun hg0 hS=> ?_
 have FP:kl.length≤9223372036854775807:=hS.lens 3 rfl
 have Qs:mx.length≤9223372036854775807:=hS.lens 4 rfl
 have I3:bx.length≤9223372036854775807:=hS.lens 7 rfl
 refine Ae [] 9 hS fun hS=>Au (Ay [(6,AO (CM ik ii) [(0,2)] [])] [] 9 hS fun hS=>AB ((hi:Int)<(ii:Int)) hS (fun h1=> ?_) (fun h1=> ?_))
 ·refine Ay [(3,AO (Ss id fi ok oi ik ii low mx last told kl st ep at_ sd tx rid rln bx hi) [(0,0),(1,1),(2,2),(3,3),(4,4),(5,5),(6,6),(7,7)] [])] [] 9 hS fun hS=>Au (Ae [] 9 hS fun hS=>AB ((C4 kl (hi:Int))<0) hS (fun h2=> ?_) (fun h2=> ?_))
  ·have hK:B1 id fi ok oi ik ii low mx last told kl st ep at_ sd tx rid rln bx hb hi hn hh hp hx=false:=(DT id fi ok oi ik ii low mx last told kl st ep at_ sd tx rid rln bx hb hi hn hh hp hx).trans ((if_pos h1).trans (if_pos h2))
   rw[hK]at hk
   cases hk
  ·refine EK ?_
   have hpl:=Yb (l:=kl) (i:=(hi:Int)) BC
   have hkr:=hK.2 (C4 kl (hi:Int)).toNat Ac
   have hkf:0≤(kl.getD (Int.toNat (C4 kl (hi:Int))) (rz [.int .i64,.int .i64,.sl (.sl (.int .u8))])).2.1∧(kl.getD (Int.toNat (C4 kl (hi:Int))) (rz [.int .i64,.int .i64,.sl (.sl (.int .u8))])).2.1≤1000000000000:=hkr.2.1
   have hkq:(kl.getD (Int.toNat (C4 kl (hi:Int))) (rz [.int .i64,.int .i64,.sl (.sl (.int .u8))])).2.2.length≤100000:=hkr.2.2.1
   refine Av [(5,XF (C4 kl (hi:Int)) kl.length)] [6] 10 hS fun hS=>Ej (Au ?_)
   by_cases h3:(hn:Int)<(((kl.getD (Int.toNat (C4 kl (hi:Int))) (rz [.int .i64,.int .i64,.sl (.sl (.int .u8))])).2).1)
   ·refine Av [(4,Iw h3)] [] 10 hS fun hS=>Ab (AQ hS ?_)
    have hK:B1 id fi ok oi ik ii low mx last told kl st ep at_ sd tx rid rln bx hb hi hn hh hp hx=false:=(DT id fi ok oi ik ii low mx last told kl st ep at_ sd tx rid rln bx hb hi hn hh hp hx).trans ((if_pos h1).trans ((if_neg h2).trans (if_pos h3)))
    rw[hK]at hk
    cases hk
   ·refine Av [(4,Ez h3),(10,gV (hn:Int) (((kl.getD (Int.toNat (C4 kl (hi:Int))) (rz [.int .i64,.int .i64,.sl (.sl (.int .u8))])).2).1))] [] 10 hS fun hS=>Ab (AB ((((((kl.getD (Int.toNat (C4 kl (hi:Int))) (rz [.int .i64,.int .i64,.sl (.sl (.int .u8))])).2).2).length:Nat):Int)≤((hn:Int)-(((kl.getD (Int.toNat (C4 kl (hi:Int))) (rz [.int .i64,.int .i64,.sl (.sl (.int .u8))])).2).1))) hS (fun h4=> ?_) (fun h4=> ?_))
    ·have hK:B1 id fi ok oi ik ii low mx last told kl st ep at_ sd tx rid rln bx hb hi hn hh hp hx=false:=(DT id fi ok oi ik ii low mx last told kl st ep at_ sd tx rid rln bx hb hi hn hh hp hx).trans ((if_pos h1).trans ((if_neg h2).trans ((if_neg h3).trans (if_pos h4))))
     rw[hK]at hk
     cases hk
    ·exact B5 (Ay [(6,gV (hn:Int) (((kl.getD (Int.toNat (C4 kl (hi:Int))) (rz [.int .i64,.int .i64,.sl (.sl (.int .u8))])).2).1)),(7,XF ((hn:Int)-(((kl.getD (Int.toNat (C4 kl (hi:Int))) (rz [.int .i64,.int .i64,.sl (.sl (.int .u8))])).2).1)) ((((kl.getD (Int.toNat (C4 kl (hi:Int))) (rz [.int .i64,.int .i64,.sl (.sl (.int .u8))])).2).2).length))] [] 10 hS fun hS=>AU (Ah (Bh (.trans (KC ..) (if_pos h1)) hS)))
 ·refine EK ?_
  by_cases h5:bK ii hi=true
  ·refine Av [(6,AO (Xd ik ii hi AD Ac h5) [(0,2)] [])] [] 9 hS fun hS=>Ab (Ay [(1,AR (L8))] [] 9 hS fun hS=>JN ?_)
   by_cases h6:(hn:Int)<(last:Int)
   ·refine Av [(6,Iw h6)] [] 9 hS fun hS=>Ab (AQ hS ?_)
    have hK:B1 id fi ok oi ik ii low mx last told kl st ep at_ sd tx rid rln bx hb hi hn hh hp hx=false:=(DT id fi ok oi ik ii low mx last told kl st ep at_ sd tx rid rln bx hb hi hn hh hp hx).trans ((if_neg h1).trans ((if_pos h5).trans (if_pos h6)))
    rw[hK]at hk
    cases hk
   ·refine Av [(6,Ez h6),(11,Lc (Dv low mx MW Ac) [0,1,4] [.im (chain [.top,.top,.top,.im (chain []) 0,.top,.top,vi (low:Int),.ls false [.sl (.int .u8)] mx,.top,.top,.top]) 0])] [] 9 hS fun hS=>Ab (AB (((low+mx.length-1:Nat):Int)<(hn:Int)) hS (fun h7=> ?_) (fun h7=> ?_))
    ·have hK:B1 id fi ok oi ik ii low mx last told kl st ep at_ sd tx rid rln bx hb hi hn hh hp hx=false:=(DT id fi ok oi ik ii low mx last told kl st ep at_ sd tx rid rln bx hb hi hn hh hp hx).trans ((if_neg h1).trans ((if_pos h5).trans ((if_neg h6).trans (if_pos h7))))
     rw[hK]at hk
     cases hk
    ·exact B5 (Ay [(4,AO (VE id fi ok oi ik ii low mx last told kl st ep at_ sd tx rid rln bx (J6 (A0 ik (hi-ii))) hn MW (by first |assumption|(intro j;simp<;>omega)) Ac AD Ac) [(0,0),(1,1),(2,2),(3,3),(4,4),(5,5),(6,6),(7,7)] [])] [] 9 hS fun hS=>AU (Bh (.trans (KC ..) (if_neg h1)) hS))
  ·refine Av [(6,AO (Xc ik ii hi AD Ac (Em h5)) [(0,2)] [])] [] 9 hS fun hS=>Ej ?_
   have hcm:=pZ (Em h5) ik
   have hK:B1 id fi ok oi ik ii low mx last told kl st ep at_ sd tx rid rln bx hb hi hn hh hp hx=false:=(DT id fi ok oi ik ii low mx last told kl st ep at_ sd tx rid rln bx hb hi hn hh hp hx).trans ((if_neg h1).trans (if_neg h5))
   rw[hK]at hk
   cases hk
end
def K6 (ik:List Int) (ii low:Nat) (mx:List (List Int)) (hi x53 k2:Nat):(Nat×(List (List Int)))→(Nat×(List (List Int))):=fun(x11,o12)=>(x11+1,o12++[(AI ((FJ ik (hi-ii)).getD x53 (rz [.sl (.int .u8)])) (mx.getD (x11-low) (rz [.sl (.int .u8)])) [109,101,115,115,97,103,101])])
def El (id:List Int) (fi:Bool) (ok:List Int) (oi:Nat) (ik:List Int) (ii low:Nat) (mx:List (List Int)) (last told:Nat) (kl:List KR) (st:Nat) (ep at_:Nat) (sd tx:List Int) (rid rln:Nat) (bx:List (Option (List Int))) (hb:List Int) (hi:Nat) (hn hh:Nat) (hp hx:List Int) (x53:Nat) (o10:List (Int×Int×(List (List Int)))):Nat→Nat×(List (List Int))
 |0=>(last,[])
 |k2+1=>K6 ik ii low mx hi x53 k2 (El id fi ok oi ik ii low mx last told kl st ep at_ sd tx rid rln bx hb hi hn hh hp hx x53 o10 k2)
def If (hn:Nat):(Nat×(List (List Int)))→Prop:=fun(x11,o12)=>((x11:Nat):Int)≤(hn:Int)
section
variable (id:List Int) (fi:Bool) (ok:List Int) (oi:Nat) (ik:List Int) (ii low:Nat) (mx:List (List Int)) (last told:Nat) (kl:List KR) (st:Nat) (ep at_:Nat) (sd tx:List Int) (rid rln:Nat) (bx:List (Option (List Int))) (hb:List Int) (hi:Nat) (hn hh:Nat) (hp hx:List Int)
def Ig (x53:Nat):(List (Int×Int×(List (List Int))))→(List (Int×Int×(List (List Int)))):=fun o10=>o10++[(((ii+x53:Nat):Int),(last:Int),(El id fi ok oi ik ii low mx last told kl st ep at_ sd tx rid rln bx hb hi hn hh hp hx x53 o10 (CU fun j=>If hn (El id fi ok oi ik ii low mx last told kl st ep at_ sd tx rid rln bx hb hi hn hh hp hx x53 o10 j))).2)]
def Ct (id:List Int) (fi:Bool) (ok:List Int) (oi:Nat) (ik:List Int) (ii low:Nat) (mx:List (List Int)) (last told:Nat) (kl:List KR) (st:Nat) (ep at_:Nat) (sd tx:List Int) (rid rln:Nat) (bx:List (Option (List Int))) (hb:List Int) (hi:Nat) (hn hh:Nat) (hp hx:List Int):Nat→(List (Int×Int×(List (List Int))))
 |0=>kl
 |x53+1=>Ig id fi ok oi ik ii low mx last told kl st ep at_ sd tx rid rln bx hb hi hn hh hp hx x53 (Ct id fi ok oi ik ii low mx last told kl st ep at_ sd tx rid rln bx hb hi hn hh hp hx x53)
def OC:Nat×(List (Int×Int×(List (List Int))))×(List Int)×Nat:=if(hi:Int)<(ii:Int)then(last,kl.take ((C4 kl (hi:Int)).toNat)++kl.drop (((C4 kl (hi:Int)).toNat)+1),ik,ii)else(hn,(Ct id fi ok oi ik ii low mx last told kl st ep at_ sd tx rid rln bx hb hi hn hh hp hx ((FJ ik (hi-ii)).length)).drop (Int.toNat (max ((((Ct id fi ok oi ik ii low mx last told kl st ep at_ sd tx rid rln bx hb hi hn hh hp hx ((FJ ik (hi-ii)).length)).length:Nat):Int)-60) 0)),P9 (A0 ik (hi-ii)),(hi+1))
def B_:Nat×(List (Int×Int×(List (List Int))))×(List Int)×Nat:=AJ (OC id fi ok oi ik ii low mx last told kl st ep at_ sd tx rid rln bx hb hi hn hh hp hx)
theorem OD:B_ id fi ok oi ik ii low mx last told kl st ep at_ sd tx rid rln bx hb hi hn hh hp hx=OC id fi ok oi ik ii low mx last told kl st ep at_ sd tx rid rln bx hb hi hn hh hp hx:=Af _
def z5 (z_:Nat×(List (Int×Int×(List (List Int))))×(List Int)×Nat:=B_ id fi ok oi ik ii low mx last told kl st ep at_ sd tx rid rln bx hb hi hn hh hp hx):Con:=⟨[.cp 0 0,.ag (chain [lb hb,vi (hi:Int),vi (hn:Int),vi (hh:Int),lb hp,lb hx])],[(0,XB id fi true 1 2 5 low 4 last told 3),(1,Ao ok oi),(2,Ao ik ii),(3,.sl 86 [.int .i64,.int .i64,.sl (.sl (.int .u8))] kl),(4,.sl 22 [.sl (.int .u8)] mx),(5,A9 st ep at_ sd tx 6),(6,Df rid rln 7),(7,.sl 22 [.os (.int .u8)] bx)],.tu (chain []),[(0,XB id fi true 1 2 5 low 4 z_.1 told 8),(1,Ao ok oi),(2,Ao (z_.2.2.1) z_.2.2.2),(4,.sl 22 [.sl (.int .u8)] mx),(5,A9 st ep at_ sd tx 6),(6,Df rid rln 7),(7,.sl 22 [.os (.int .u8)] bx),(8,.sl 86 [.int .i64,.int .i64,.sl (.sl (.int .u8))] (z_.2.1))]⟩
theorem qB (hok:ok.length=32) (hik:ik.length=32) (hoi:oi≤100000000000) (hii:ii≤100000000000) (hm1:1≤mx.length∧mx.length≤100000) (hm2:∀j,(mx.getD j (rz [.sl (.int .u8)])).length≤32) (hlow:low≤100000000000) (hK:N2 kl) (hll:low≤last∧last≤100000000000) (hhn:hn≤10000000000∧hi≤10000000000) (hc:(hi<ii∧0≤C4 kl (hi:Int))∨(ii≤hi∧hi≤ii+40∧last≤hn∧hn+1≤low+mx.length)):ConOk Tryz.prog 72 (z5 id fi ok oi ik ii low mx last told kl st ep at_ sd tx rid rln bx hb hi hn hh hp hx):=by
 refine cy 8 Tryz.func72 rfl Tryz.ntmps72 fun hg0 hS=> ?_
 have FP:kl.length≤9223372036854775807:=hS.lens 3 rfl
 have Qs:mx.length≤9223372036854775807:=hS.lens 4 rfl
 have I3:bx.length≤9223372036854775807:=hS.lens 7 rfl
 refine Ae [] 9 hS fun hS=>Au (Ay [(6,AO (CM ik ii) [(0,2)] [])] [] 9 hS fun hS=>AB ((hi:Int)<(ii:Int)) hS (fun h1=> ?_) (fun h1=> ?_))
 ·refine Au ?_
  have hpg:=Ng (l:=kl) (hi:Int)
  have hkl:=hK.1
  refine Av [(3,AO (Ss id fi ok oi ik ii low mx last told kl st ep at_ sd tx rid rln bx hi) [(0,0),(1,1),(2,2),(3,3),(4,4),(5,5),(6,6),(7,7)] []),(4,Rn ((((C4 kl (hi:Int)).toNat):Nat):Int) [(C4 kl (hi:Int))=((((C4 kl (hi:Int)).toNat):Nat):Int)] ⟨by omega,trivial⟩)] [] 9 hS fun hS=>Ej ?_
  have hpg:=Ng (l:=kl) (hi:Int)
  have hkl:=hK.1
  obtain⟨gs,hS⟩:=hS.fz 3
  refine Av [(5,AO (Gc kl AD) [] [(0,9)]),(8,DI ((C4 kl (hi:Int)).toNat) 1 (((C4 kl (hi:Int)).toNat)+1)),(9,AO (aL kl ((C4 kl (hi:Int)).toNat) (((C4 kl (hi:Int)).toNat)+1) Ac) [(0,9)] [(1,10)])] [] 11 hS fun hS=>D6 (Ah ?_)
  obtain⟨gs,hS⟩:=hS.rx [(0,0),(1,1),(2,2),(3,3),(4,4),(5,5),(6,6),(7,7),(8,10)] [] [0,1,2,4,5,6,7,8] 9 hg0
  exact Bh (.trans (OD ..) (if_pos h1)) hS
 ·refine B5 (Ay [(4,AO (CM ik ii) [(0,2)] [])] [] 9 hS fun hS=>Ay [(6,AO (QV ik ii hi AD Ac Ac) [(0,2)] [(1,9)])] [] 10 hS fun hS=>JN ?_)
  obtain⟨gs,hS⟩:=hS.alias 3
  have hpg:=Ng (l:=kl) (hi:Int)
  have hkl:=hK.1
  have hsl:=FT ik (hi-ii)
  refine Dn [51] 11 hS fun hS=>Ab (Br (Ar (ι:=Nat×(List (Int×Int×(List (List Int))))) hg0 hS (fun(x53,o10)=>((FJ ik (hi-ii)).length-x53,[(53,vi ((x53:Nat):Int))],[(10,.sl 86 [.int .i64,.int .i64,.sl (.sl (.int .u8))] o10)],(x53≤(FJ ik (hi-ii)).length)∧(o10=Ct id fi ok oi ik ii low mx last told kl st ep at_ sd tx rid rln bx hb hi hn hh hp hx x53)∧(o10.length≤kl.length+x53)∧True)) [0,3,5,51,52] [0,1,2,4,5,6,7,8,9] 11 (0,kl) [(0,0),(1,1),(2,2),(3,3),(4,4),(5,5),(6,6),(7,7),(8,8),(9,9),(10,10)] ⟨Ac,rfl,Ac,trivial⟩ ?_))
  rintro⟨x53,o10⟩ ac gs ws ⟨hx53,hq1,p1,_⟩ hS
  refine Ae [] 11 hS fun hS=>Au (AB ((x53:Int)<(((FJ ik (hi-ii)).length:Nat):Int)) hS (fun h2=> ?_) (fun h2=> ?_))
  ·refine BG (Ay [(1,AG x53 ((FJ ik (hi-ii)).length))] [] 11 hS fun hS=>Ay [(2,DI ii x53 (ii+x53))] [10] 12 hS fun hS=>JN ?_)
   obtain⟨gs,hS⟩:=hS.nilob 11 2 22 [.sl (.int .u8)]
   refine Dn [] 13 hS fun hS=>Ab (Br (Ar (ι:=Nat×Nat×(List (List Int))) hg0 hS (fun(k2,x11,o12)=>(hn+1-x11,[(11,vi (x11:Int))],[(12,.sl 22 [.sl (.int .u8)] o12)],((x11,o12)=El id fi ok oi ik ii low mx last told kl st ep at_ sd tx rid rln bx hb hi hn hh hp hx x53 o10 k2)∧(∀j,j<k2→If hn (El id fi ok oi ik ii low mx last told kl st ep at_ sd tx rid rln bx hb hi hn hh hp hx x53 o10 j))∧(last≤x11∧x11≤hn+1)∧(o12.length+last=x11)∧True)) [0,3,5,9,10,51,52,53] [0,1,2,4,5,6,7,8,9,10,11] 13 (0,last,[]) [(0,0),(1,1),(2,2),(3,3),(4,4),(5,5),(6,6),(7,7),(8,8),(9,9),(10,10),(11,11),(12,12)] ⟨rfl,(fun j h=>absurd h (Nat.not_lt_zero j)),Ac,(by simp),trivial⟩ ?_))
   rintro⟨k2,x11,o12⟩ ac gs ws ⟨hq2,hj2,p2,p3,_⟩ hS
   refine Au (Ae [] 13 hS fun hS=>AB ((x11:Int)≤(hn:Int)) hS (fun h3=> ?_) (fun h3=> ?_))
   ·refine BG ?_
    have hsk:=RX (key:=ik) (n:=hi-ii) (j:=x53) Ac
    exact Av [(5,AO (VE id fi ok oi (A0 ik (hi-ii)) hi low mx last told o10 st ep at_ sd tx rid rln bx ((FJ ik (hi-ii)).getD x53 (rz [.sl (.int .u8)])) x11 MW (by first |assumption|(intro j;simp<;>omega)) Ac AD Ac) [(0,0),(1,1),(2,2),(3,10),(4,4),(5,5),(6,6),(7,7)] []),(7,Ge o12.length 1 24 (by(first |omega|(simp only[List.length_cons,List.length_nil];omega))))] [] 14 hS fun hS=>BV (Av [(1,BQ x11)] [11] 14 hS fun hS=>Ab (Am hg0 hS (k2+1,x11+1,o12++[(AI ((FJ ik (hi-ii)).getD x53 (rz [.sl (.int .u8)])) (mx.getD (x11-low) (rz [.sl (.int .u8)])) [109,101,115,115,97,103,101])]) [(0,0),(1,1),(2,2),(3,3),(4,4),(5,5),(6,6),(7,7),(8,8),(9,9),(10,10),(11,11),(12,13)] ⟨(A2 (st:=K6 _ _ _ _ _ _) hq2 rfl rfl),(A1 hj2 (by rw[←hq2];exact h3)),Ac,(by rw[List.length_append,List.length_cons,List.length_nil];omega),trivial⟩))
   ·have hT:=hS
    obtain rfl:=BP (by rw[←hq2];first |exact h3|exact not_not_intro h3) hj2
    obtain⟨rfl,rfl⟩:=TZ hq2
    have hS:=hT
    refine CX ?_
    obtain⟨gs,hS⟩:=hS.fz 12
    exact Av [(7,Ge o10.length 1 40 (by(first |omega|(simp only[List.length_cons,List.length_nil];omega))))] [] 14 hS fun hS=>BV (Av [(0,BQ x53)] [53] 14 hS fun hS=>Ab (Am hg0 hS (x53+1,o10++[(((ii+x53:Nat):Int),(last:Int),(El id fi ok oi ik ii low mx last told kl st ep at_ sd tx rid rln bx hb hi hn hh hp hx x53 o10 (CU fun j=>If hn (El id fi ok oi ik ii low mx last told kl st ep at_ sd tx rid rln bx hb hi hn hh hp hx x53 o10 j))).2)]) [(0,0),(1,1),(2,2),(3,3),(4,4),(5,5),(6,6),(7,7),(8,8),(9,9),(10,13)] ⟨Ac,(A2 (st:=Ig _ _ _ _ _ _ _ _ _ _ _ _ _ _ _ _ _ _ _ _ _ _ _ _ _) hq1 rfl rfl),(by rw[List.length_append,List.length_cons,List.length_nil];omega),trivial⟩))
  ·have hT:=hS
   obtain rfl:(FJ ik (hi-ii)).length=x53:=by omega
   obtain rfl:=hq1.symm
   have hS:=hT
   refine MY ?_
   obtain⟨gs,hS⟩:=hS.fz 10
   refine Av [(10,gV (((Ct id fi ok oi ik ii low mx last told kl st ep at_ sd tx rid rln bx hb hi hn hh hp hx ((FJ ik (hi-ii)).length)).length:Nat):Int) 60),(11,Rn (max ((((Ct id fi ok oi ik ii low mx last told kl st ep at_ sd tx rid rln bx hb hi hn hh hp hx ((FJ ik (hi-ii)).length)).length:Nat):Int)-60) 0) [(if 0>((((Ct id fi ok oi ik ii low mx last told kl st ep at_ sd tx rid rln bx hb hi hn hh hp hx ((FJ ik (hi-ii)).length)).length:Nat):Int)-60)then 0 else((((Ct id fi ok oi ik ii low mx last told kl st ep at_ sd tx rid rln bx hb hi hn hh hp hx ((FJ ik (hi-ii)).length)).length:Nat):Int)-60))=(max ((((Ct id fi ok oi ik ii low mx last told kl st ep at_ sd tx rid rln bx hb hi hn hh hp hx ((FJ ik (hi-ii)).length)).length:Nat):Int)-60) 0)] ⟨by split<;>omega,trivial⟩),(12,OM (E3 (some (max ((((Ct id fi ok oi ik ii low mx last told kl st ep at_ sd tx rid rln bx hb hi hn hh hp hx ((FJ ik (hi-ii)).length)).length:Nat):Int)-60) 0)) none none (Ct id fi ok oi ik ii low mx last told kl st ep at_ sd tx rid rln bx hb hi hn hh hp hx ((FJ ik (hi-ii)).length)).length (Ct id fi ok oi ik ii low mx last told kl st ep at_ sd tx rid rln bx hb hi hn hh hp hx ((FJ ik (hi-ii)).length)).length) ⟨by simp only[FX]<;>omega,by simp only[FX]<;>omega,by simp only[FX]<;>omega,by simp,by simp only[bl]<;>omega,by simp only[bl]<;>omega,by simp only[bl]<;>omega⟩),(13,AO (Gc ((Ct id fi ok oi ik ii low mx last told kl st ep at_ sd tx rid rln bx hb hi hn hh hp hx ((FJ ik (hi-ii)).length)).drop (Int.toNat (max ((((Ct id fi ok oi ik ii low mx last told kl st ep at_ sd tx rid rln bx hb hi hn hh hp hx ((FJ ik (hi-ii)).length)).length:Nat):Int)-60) 0))) AD) [] [(0,11)])] [] 12 hS fun hS=>Ej ?_
   have hnl:=Hm hik (hi-ii)
   refine Av [(4,AO (HC (A0 ik (hi-ii)) hi AD Ac) [(0,2)] [])] [] 12 hS fun hS=>Ab (Dn [] 12 hS fun hS=> ?_)
   obtain⟨gs,hS⟩:=hS.rx [(0,0),(1,1),(2,2),(3,3),(4,4),(5,5),(6,6),(7,7),(8,11)] [] [0,1,2,4,5,6,7,8] 9 hg0
   exact fqN (.trans (OD ..) (if_neg h1)) hS
end
end
end Go.Sx.Tryz
namespace Go.Sx.Tryz
open Go.Mi Go.RowKit Go.Sx Go.Proofs
noncomputable section
theorem SB {l:List (List Int)} {c:Nat} (h:∀j,(l.getD j (rz [.sl (.int .u8)])).length≤c) {x:List Int} (hx:x.length≤c) (j:Nat):((l++[x]).getD j (rz [.sl (.int .u8)])).length≤c:=by
 have h:=h j
 show(List.getD (α:=List Int) (l++[x]) j []).length≤c
 have h:(List.getD (α:=List Int) l j []).length≤c:=h
 rw[List.getD_eq_getElem?_getD]at h⊢
 by_cases h1:j<l.length
 ·rw[List.getElem?_append_left h1];exact h
 ·by_cases h2:j=l.length
  ·subst h2;rw[List.getElem?_append_right (Nat.le_refl _),Nat.sub_self];exact hx
  ·rw[List.getElem?_eq_none (by simp;omega)];exact Nat.zero_le _
theorem aC {fi:Bool} {low len told:Nat} (h:low≤AV fi low len told) {len':Nat} (hl:len≤len') (h1:1≤len):low≤AV fi low len' told∧AV fi low len' told<low+len':=by
 unfold AV at h⊢
 split at h
 ·rename_i e;rw[if_pos e];omega
 ·rename_i e;rw[if_neg e];omega
def JC (sec:List (List Int)) (x11:Nat):(List (List Int))→(List (List Int)):=fun o9=>o9++[AI (o9.getD (o9.length-1) (rz [.sl (.int .u8)])) (sec.getD x11 (rz [.sl (.int .u8)])) [109,105,120]]
section
variable (id:List Int) (fi:Bool) (ok:List Int) (oi:Nat) (ik:List Int) (ii low:Nat) (mx:List (List Int)) (last told:Nat) (kl:List KR) (st:Nat) (ep at_:Nat) (sd tx:List Int) (rid rln:Nat) (bx:List (Option (List Int))) (sec:List (List Int))
def B9 (id:List Int) (fi:Bool) (ok:List Int) (oi:Nat) (ik:List Int) (ii low:Nat) (mx:List (List Int)) (last told:Nat) (kl:List KR) (st:Nat) (ep at_:Nat) (sd tx:List Int) (rid rln:Nat) (bx:List (Option (List Int))) (sec:List (List Int)):Nat→(List (List Int))
 |0=>mx
 |x11+1=>JC sec x11 (B9 id fi ok oi ik ii low mx last told kl st ep at_ sd tx rid rln bx sec x11)
theorem IV (id:List Int) (fi:Bool) (ok:List Int) (oi:Nat) (ik:List Int) (ii low:Nat) (mx:List (List Int)) (last told:Nat) (kl:List KR) (st:Nat) (ep at_:Nat) (sd tx:List Int) (rid rln:Nat) (bx:List (Option (List Int))) (sec:List (List Int)):∀i,(B9 id fi ok oi ik ii low mx last told kl st ep at_ sd tx rid rln bx sec i).length=mx.length+i
 |0=>rfl
 |i+1=>by
  show(B9 id fi ok oi ik ii low mx last told kl st ep at_ sd tx rid rln bx sec i++[_]).length=_
  rw[List.length_append,IV id fi ok oi ik ii low mx last told kl st ep at_ sd tx rid rln bx sec i];rfl
def Yi:Nat×(List (List Int)):=((min last (AV fi low (B9 id fi ok oi ik ii low mx last told kl st ep at_ sd tx rid rln bx sec sec.length).length told)),(B9 id fi ok oi ik ii low mx last told kl st ep at_ sd tx rid rln bx sec sec.length).drop ((min last (AV fi low (B9 id fi ok oi ik ii low mx last told kl st ep at_ sd tx rid rln bx sec sec.length).length told))-low))
def Qi:Nat×(List (List Int)):=AJ (Yi id fi ok oi ik ii low mx last told kl st ep at_ sd tx rid rln bx sec)
theorem mU:Qi id fi ok oi ik ii low mx last told kl st ep at_ sd tx rid rln bx sec=Yi id fi ok oi ik ii low mx last told kl st ep at_ sd tx rid rln bx sec:=Af _
def Ade (z_:Nat×(List (List Int)):=Qi id fi ok oi ik ii low mx last told kl st ep at_ sd tx rid rln bx sec):Con:=⟨[.cp 0 0],[(0,XB id fi true 1 2 5 low 4 last told 3),(1,Ao ok oi),(2,Ao ik ii),(3,.sl 86 [.int .i64,.int .i64,.sl (.sl (.int .u8))] kl),(4,.sl 22 [.sl (.int .u8)] mx),(5,Iv st ep at_ sd tx 6 8),(6,Df rid rln 7),(7,.sl 22 [.os (.int .u8)] bx),(8,.sl 22 [.sl (.int .u8)] sec)],.tu (chain []),[(0,.ob 80 (chain [lb id,.v (.bool fi),.v (.bool true),.cp 1 0,.cp 2 0,.cp 5 0,vi ((z_.1:Nat):Int),.ls false [.sl (.int .u8)] (z_.2),vi (last:Int),vi (told:Int),.sk 3])),(1,Ao ok oi),(2,Ao ik ii),(3,.sl 86 [.int .i64,.int .i64,.sl (.sl (.int .u8))] kl),(5,A9 st ep at_ sd tx 6),(6,Df rid rln 7),(7,.sl 22 [.os (.int .u8)] bx),(8,.sl 22 [.sl (.int .u8)] sec)]⟩
theorem vY (hm1:1≤mx.length∧mx.length≤90000) (hm2:∀j,(mx.getD j (rz [.sl (.int .u8)])).length≤32) (hlow:low≤100000000000) (hs1:sec.length≤10) (hs2:∀j,(sec.getD j (rz [.sl (.int .u8)])).length≤900) (hll:low≤last∧last≤100000000000) (hmn:low≤AV fi low mx.length told) (htd:told≤100000000000):ConOk Tryz.prog 74 (Ade id fi ok oi ik ii low mx last told kl st ep at_ sd tx rid rln bx sec):=by
 refine cy 9 Tryz.func74 rfl Tryz.ntmps74 fun hg0 hS=> ?_
 have FP:kl.length≤9223372036854775807:=hS.lens 3 rfl
 have Qs:mx.length≤9223372036854775807:=hS.lens 4 rfl
 have I3:bx.length≤9223372036854775807:=hS.lens 7 rfl
 have AfF:sec.length≤9223372036854775807:=hS.lens 8 rfl
 refine JN ?_
 have hs3:∀j,(sec.getD j (rz [.sl (.int .u8)])).length≤10000:=fun j=>by have :=hs2 j;omega
 obtain⟨gs,hS⟩:=hS.alias 4
 refine Av [(4,AO (jV st ep at_ sd tx rid rln bx sec AD BC) [(0,5),(1,6),(2,8),(3,7)] [])] [9] 10 hS fun hS=>Ab (Br (Ar (ι:=Nat×(List (List Int))) hg0 hS (fun(x11,o9)=>(sec.length-x11,[(11,vi ((x11:Nat):Int))],[(9,.sl 22 [.sl (.int .u8)] o9)],(x11≤sec.length)∧(o9=B9 id fi ok oi ik ii low mx last told kl st ep at_ sd tx rid rln bx sec x11)∧(o9.length=mx.length+x11)∧(∀j,(o9.getD j (rz [.sl (.int .u8)])).length≤32)∧True)) [0,9,10] [0,1,2,3,5,6,7,8] 10 (0,mx) [(0,0),(1,1),(2,2),(3,3),(4,4),(5,5),(6,6),(7,7),(8,8),(9,9)] ⟨Ac,rfl,Ac,hm2,trivial⟩ ?_))
 rintro⟨x11,o9⟩ ac gs ws ⟨hx11,hq1,p1,p2,_⟩ hS
 refine Ae [] 10 hS fun hS=>Au (AB ((x11:Int)<((sec.length:Nat):Int)) hS (fun h1=> ?_) (fun h1=> ?_))
 ·refine BG (Ay [(0,AG x11 sec.length)] [] 10 hS fun hS=> ?_)
  have hp2:=p2 (o9.length-1)
  have hs4:=hs2 x11
  exact Av [(14,GD o9.length 1 (o9.length-1)),(15,AG (o9.length-1) o9.length),(18,Row),(19,OM (0<[109,105,120].length) (by decide)),(20,AR (EJ (o9.getD (o9.length-1) (rz [.sl (.int .u8)])) (sec.getD x11 (rz [.sl (.int .u8)])) [109,105,120] AD AD AD)),(22,Ge o9.length 1 24)] [] 12 hS fun hS=>BV (Av [(0,BQ x11)] [11] 12 hS fun hS=>Ab (Am hg0 hS (x11+1,o9++[AI (o9.getD (o9.length-1) (rz [.sl (.int .u8)])) (sec.getD x11 (rz [.sl (.int .u8)])) [109,105,120]]) [(0,0),(1,1),(2,2),(3,3),(4,4),(5,5),(6,6),(7,7),(8,8),(9,11)] ⟨Ac,(A2 (st:=JC _) hq1 rfl rfl),(by rw[List.length_append,List.length_cons,List.length_nil];omega),(SB p2 (Nat.le_of_eq (EZ ..))),trivial⟩))
 ·have hT:=hS
  obtain rfl:sec.length=x11:=by omega
  obtain rfl:=hq1.symm
  have hS:=hT
  refine MY ?_
  have hml:=IV id fi ok oi ik ii low mx last told kl st ep at_ sd tx rid rln bx sec sec.length
  have hmg:=aC hmn (len':=(B9 id fi ok oi ik ii low mx last told kl st ep at_ sd tx rid rln bx sec sec.length).length) Ac hm1.1
  have hmc:1≤(B9 id fi ok oi ik ii low mx last told kl st ep at_ sd tx rid rln bx sec sec.length).length∧(B9 id fi ok oi ik ii low mx last told kl st ep at_ sd tx rid rln bx sec sec.length).length≤100000:=by omega
  refine Av [(5,Lc (KF fi low (B9 id fi ok oi ik ii low mx last told kl st ep at_ sd tx rid rln bx sec sec.length) told MW Ac) [0,1,9] [.im (chain [.top,.v (.bool fi),.top,.im (chain []) 0,.top,.top,vi (low:Int),.ls false [.sl (.int .u8)] (B9 id fi ok oi ik ii low mx last told kl st ep at_ sd tx rid rln bx sec sec.length),.top,vi (told:Int),.top]) 0]),(6,Rmn last (AV fi low (B9 id fi ok oi ik ii low mx last told kl st ep at_ sd tx rid rln bx sec sec.length).length told))] [] 10 hS fun hS=>Ab ?_
  have hml:=IV id fi ok oi ik ii low mx last told kl st ep at_ sd tx rid rln bx sec sec.length
  have hmg:=aC hmn (len':=(B9 id fi ok oi ik ii low mx last told kl st ep at_ sd tx rid rln bx sec sec.length).length) Ac hm1.1
  have hmc:1≤(B9 id fi ok oi ik ii low mx last told kl st ep at_ sd tx rid rln bx sec sec.length).length∧(B9 id fi ok oi ik ii low mx last told kl st ep at_ sd tx rid rln bx sec sec.length).length≤100000:=by omega
  obtain⟨gs,hS⟩:=hS.fz 9
  exact Av [(11,GD (min last (AV fi low (B9 id fi ok oi ik ii low mx last told kl st ep at_ sd tx rid rln bx sec sec.length).length told)) low ((min last (AV fi low (B9 id fi ok oi ik ii low mx last told kl st ep at_ sd tx rid rln bx sec sec.length).length told))-low)),(12,ON ((min last (AV fi low (B9 id fi ok oi ik ii low mx last told kl st ep at_ sd tx rid rln bx sec sec.length).length told))-low) (B9 id fi ok oi ik ii low mx last told kl st ep at_ sd tx rid rln bx sec sec.length).length)] [] 10 hS fun hS=>fqN (mU ..) hS
end
end
end Go.Sx.Tryz
namespace Go.Sx.Tryz
open Go.Mi Go.RowKit Go.Sx Go.Proofs
noncomputable section
theorem NJ {id:List Int} {fi:Bool} {ok:List Int} {oi:Nat} {ik:List Int} {ii:Nat} {low:Nat} {mx:List (List Int)} {last:Nat} {told:Nat} {kl:List KR} {st:Nat} {ep:Nat} {at_:Nat} {sd:List Int} {tx:List Int} {rid:Nat} {rln:Nat} {bx:List (Option (List Int))} {hb:List Int} {hi:Nat} {hn:Nat} {hh:Nat} {hp:List Int} {hx:List Int}:B1 id fi ok oi ik ii low mx last told kl st ep at_ sd tx rid rln bx hb hi hn hh hp hx=Cc id fi ok oi ik ii low mx last told kl hb hi hn hh hp hx∧CC id fi ok oi ik ii low mx last told kl st ep at_ sd tx rid rln bx hb hi hn hh hp hx=Cz id fi ok oi ik ii low mx last told kl hb hi hn hh hp hx∧LX id fi ok oi ik ii low mx last told kl st ep at_ sd tx rid rln bx hb hi hn hh hp hx=GP id fi ok oi ik ii low mx last told kl hb hi hn hh hp hx:=by
 refine⟨?_,?_,?_⟩
 ·rw[DT,C1];rfl
 ·rw[KC,Gb];rfl
 ·rw[Rq,LY];rfl
theorem NS {id:List Int} {fi:Bool} {ok:List Int} {oi:Nat} {ik:List Int} {ii:Nat} {low:Nat} {mx:List (List Int)} {last:Nat} {told:Nat} {kl:List KR} {st:Nat} {ep:Nat} {at_:Nat} {sd:List Int} {tx:List Int} {rid:Nat} {rln:Nat} {bx:List (Option (List Int))} {hb:List Int} {hi:Nat} {hn:Nat} {hh:Nat} {hp:List Int} {hx:List Int} (x:Nat) (o o':List (Int×Int×List (List Int))):∀j,El id fi ok oi ik ii low mx last told kl st ep at_ sd tx rid rln bx hb hi hn hh hp hx x o j=D7 id fi ok oi ik ii low mx last told kl hb hi hn hh hp hx x o' j
 |0=>rfl
 |j+1=>by
  show K6 ik ii low mx hi x j (El id fi ok oi ik ii low mx last told kl st ep at_ sd tx rid rln bx hb hi hn hh hp hx x o j)=_
  rw[NS x o o' j];rfl
theorem NT {id:List Int} {fi:Bool} {ok:List Int} {oi:Nat} {ik:List Int} {ii:Nat} {low:Nat} {mx:List (List Int)} {last:Nat} {told:Nat} {kl:List KR} {st:Nat} {ep:Nat} {at_:Nat} {sd:List Int} {tx:List Int} {rid:Nat} {rln:Nat} {bx:List (Option (List Int))} {hb:List Int} {hi:Nat} {hn:Nat} {hh:Nat} {hp:List Int} {hx:List Int}:∀j,Ct id fi ok oi ik ii low mx last told kl st ep at_ sd tx rid rln bx hb hi hn hh hp hx j=Cj id fi ok oi ik ii low mx last told kl hb hi hn hh hp hx j
 |0=>rfl
 |j+1=>by
  show Ig id fi ok oi ik ii low mx last told kl st ep at_ sd tx rid rln bx hb hi hn hh hp hx j (Ct id fi ok oi ik ii low mx last told kl st ep at_ sd tx rid rln bx hb hi hn hh hp hx j)=JP id fi ok oi ik ii low mx last told kl hb hi hn hh hp hx j (Cj id fi ok oi ik ii low mx last told kl hb hi hn hh hp hx j)
  rw[NT j]
  unfold Ig JP
  have e:El id fi ok oi ik ii low mx last told kl st ep at_ sd tx rid rln bx hb hi hn hh hp hx j (Cj id fi ok oi ik ii low mx last told kl hb hi hn hh hp hx j)=D7 id fi ok oi ik ii low mx last told kl hb hi hn hh hp hx j (Cj id fi ok oi ik ii low mx last told kl hb hi hn hh hp hx j):=funext fun i=>NS j _ _ i
  have ec:If hn=Fo id fi ok oi ik ii low mx last told kl hb hi hn hh hp hx j (Cj id fi ok oi ik ii low mx last told kl hb hi hn hh hp hx j):=rfl
  simp only[e,ec]
theorem qC {id:List Int} {fi:Bool} {ok:List Int} {oi:Nat} {ik:List Int} {ii:Nat} {low:Nat} {mx:List (List Int)} {last:Nat} {told:Nat} {kl:List KR} {st:Nat} {ep:Nat} {at_:Nat} {sd:List Int} {tx:List Int} {rid:Nat} {rln:Nat} {bx:List (Option (List Int))} {hb:List Int} {hi:Nat} {hn:Nat} {hh:Nat} {hp:List Int} {hx:List Int}:B_ id fi ok oi ik ii low mx last told kl st ep at_ sd tx rid rln bx hb hi hn hh hp hx=Ih id fi ok oi ik ii low mx last told kl hb hi hn hh hp hx:=by
 rw[OD,Q2]
 unfold OC Q1
 rw[NT]
theorem IR {id:List Int} {fi:Bool} {ok:List Int} {oi:Nat} {ik:List Int} {ii:Nat} {low:Nat} {mx:List (List Int)} {last:Nat} {told:Nat} {kl:List KR} {st:Nat} {ep:Nat} {at_:Nat} {sd:List Int} {tx:List Int} {rid:Nat} {rln:Nat} {bx:List (Option (List Int))} {hb:List Int} {hi:Nat} {hn:Nat} {hh:Nat} {hp:List Int} {hx:List Int} (h:B1 id fi ok oi ik ii low mx last told kl st ep at_ sd tx rid rln bx hb hi hn hh hp hx=true) (hm:1≤mx.length) (hK:N2 kl):((hi<ii∧0≤C4 kl (hi:Int))∨(ii≤hi∧hi≤ii+40∧last≤hn∧hn+1≤low+mx.length))∧(CC id fi ok oi ik ii low mx last told kl st ep at_ sd tx rid rln bx hb hi hn hh hp hx).length=32:=by
 have e:=NJ (id:=id) (fi:=fi) (ok:=ok) (oi:=oi) (ik:=ik) (ii:=ii) (low:=low) (mx:=mx) (last:=last) (told:=told) (kl:=kl) (st:=st) (ep:=ep) (at_:=at_) (sd:=sd) (tx:=tx) (rid:=rid) (rln:=rln) (bx:=bx) (hb:=hb) (hi:=hi) (hn:=hn) (hh:=hh) (hp:=hp) (hx:=hx)
 rw[e.1]at h
 rw[e.2.1]
 exact KD h hm hK
theorem YU {id:List Int} {fi:Bool} {ok:List Int} {oi:Nat} {ik:List Int} {ii:Nat} {low:Nat} {mx:List (List Int)} {last:Nat} {told:Nat} {kl:List KR} {st:Nat} {ep:Nat} {at_:Nat} {sd:List Int} {tx:List Int} {rid:Nat} {rln:Nat} {bx:List (Option (List Int))} {hb:List Int} {hi:Nat} {hn:Nat} {hh:Nat} {hp:List Int} {hx:List Int} (h:hi<ii∨last≤hn):last≤(B_ id fi ok oi ik ii low mx last told kl st ep at_ sd tx rid rln bx hb hi hn hh hp hx).1∧((B_ id fi ok oi ik ii low mx last told kl st ep at_ sd tx rid rln bx hb hi hn hh hp hx).1≤last∨(B_ id fi ok oi ik ii low mx last told kl st ep at_ sd tx rid rln bx hb hi hn hh hp hx).1≤hn):=by
 rw[OD]
 unfold OC
 split
 ·exact⟨Nat.le_refl _,.inl (Nat.le_refl _)⟩
 ·exact⟨by show last≤hn;omega,.inr (Nat.le_refl _)⟩
theorem dY {fi:Bool} {low len told:Nat} (h:low≤AV fi low len told) (t:Nat):low≤AV fi low len (max told t):=by
 unfold AV at h⊢
 split
 ·rename_i e;rw[if_pos e]at h;exact h
 ·rename_i e;rw[if_neg e]at h;omega
theorem eP (ek m:List Int):(D5 ek m).1.length≤64:=by
 rw[Nr];unfold JK
 have :=DO [m,Bl [ek]]
 simp only[List.length_take];omega
theorem pN (dk ct:List Int):(HB dk ct).1.length≤64:=by
 rw[My];unfold QT
 have :=DO [BO dk ct,(dk.take 2368).drop 2336]
 split
 ·split
  ·simp only[List.length_take];omega
  ·show(Hb _).length≤64;rw[VH];decide
 ·exact Nat.zero_le _
theorem Aaz {x:List Int} (h:x.length≤64):([]++[x]:List (List Int)).length≤10∧∀j,(([]++[x]:List (List Int)).getD j (rz [.sl (.int .u8)])).length≤900:=
 ⟨by simp,fun j=>by
  have :=SB (l:=[]) (c:=64) (fun j=>by show(List.getD (α:=List Int) [] j []).length≤64;simp) h j
  omega⟩
theorem AaA:([]:List (List Int)).length≤10∧∀j,(([]:List (List Int)).getD j (rz [.sl (.int .u8)])).length≤900:=⟨by simp,fun j=>by show(List.getD (α:=List Int) [] j []).length≤900;simp⟩
theorem wG (st ep at_:Nat) (sd tx:List Int) (id ln:Nat) (bx:List (Option (List Int))) (b:List Int) (pid pa:Nat) (d r:List Int):(FF st ep at_ sd tx id ln bx b pid pa d r).2.2.2.2.2.2.2.2.length≤10∧∀j,((FF st ep at_ sd tx id ln bx b pid pa d r).2.2.2.2.2.2.2.2.getD j (rz [.sl (.int .u8)])).length≤900:=by
 by_cases h:b=[]
 ·subst h;rw[aR];exact AaA
 ·rw[WF _ _ _ _ _ _ _ _ h,Hw]
  unfold SG
  repeat' (first |exact AaA|exact Aaz (eP _ _)|exact Aaz (pN _ _)|split)
end
end Go.Sx.Tryz
namespace Go.Sx.Tryz
open Go.Mi Go.RowKit Go.Sx Go.Proofs
noncomputable section
section
variable (id:List Int) (fi:Bool) (ok:List Int) (oi:Nat) (ik:List Int) (ii low:Nat) (mx:List (List Int)) (last told:Nat) (kl:List KR) (st:Nat) (ep at_:Nat) (sd tx:List Int) (rid rln:Nat) (bx:List (Option (List Int))) (xs:List Int)
def Pe:Bool:=if CB xs=true then(if B1 id fi ok oi ik ii low mx last told kl st ep at_ sd tx rid rln bx ((Aa xs).1) ((Aa xs).2.1) ((Aa xs).2.2.1) ((Aa xs).2.2.2.1) ((Aa xs).2.2.2.2.1) ((Aa xs).2.2.2.2.2)=true then(if tL ((C9 (CC id fi ok oi ik ii low mx last told kl st ep at_ sd tx rid rln bx ((Aa xs).1) ((Aa xs).2.1) ((Aa xs).2.2.1) ((Aa xs).2.2.2.1) ((Aa xs).2.2.2.2.1) ((Aa xs).2.2.2.2.2)) (List.replicate 12 (0:Int)) ((Aa xs).1) ((Aa xs).2.2.2.2.2)).2)=true then(if tL 0=true then true else false)else false)else false)else false
def GJ:Bool:=AJ (Pe id fi ok oi ik ii low mx last told kl st ep at_ sd tx rid rln bx xs)
theorem IC:GJ id fi ok oi ik ii low mx last told kl st ep at_ sd tx rid rln bx xs=Pe id fi ok oi ik ii low mx last told kl st ep at_ sd tx rid rln bx xs:=Af _
def Tj (rand:List Int) (pid pa:Nat) (d:List Int):Nat×(List (List Int))×Nat×Nat×(List (Int×Int×(List (List Int))))×(List Int)×Nat×Nat×Nat×Nat×(List Int)×(List Int)×Nat×Nat×(List (Option (List Int)))×(List Int)×Nat:=(((Qi id fi ok oi ((B_ id fi ok oi ik ii low mx last told kl st ep at_ sd tx rid rln bx ((Aa xs).1) ((Aa xs).2.1) ((Aa xs).2.2.1) ((Aa xs).2.2.2.1) ((Aa xs).2.2.2.2.1) ((Aa xs).2.2.2.2.2)).2.2.1) ((B_ id fi ok oi ik ii low mx last told kl st ep at_ sd tx rid rln bx ((Aa xs).1) ((Aa xs).2.1) ((Aa xs).2.2.1) ((Aa xs).2.2.2.1) ((Aa xs).2.2.2.2.1) ((Aa xs).2.2.2.2.2)).2.2.2) low mx ((B_ id fi ok oi ik ii low mx last told kl st ep at_ sd tx rid rln bx ((Aa xs).1) ((Aa xs).2.1) ((Aa xs).2.2.1) ((Aa xs).2.2.2.1) ((Aa xs).2.2.2.2.1) ((Aa xs).2.2.2.2.2)).1) (max told ((Aa xs).2.2.2.1)) ((B_ id fi ok oi ik ii low mx last told kl st ep at_ sd tx rid rln bx ((Aa xs).1) ((Aa xs).2.1) ((Aa xs).2.2.1) ((Aa xs).2.2.2.1) ((Aa xs).2.2.2.2.1) ((Aa xs).2.2.2.2.2)).2.1) ((FF st ep at_ sd tx rid rln bx ((Aa xs).2.2.2.2.1) pid pa d rand).1) ((FF st ep at_ sd tx rid rln bx ((Aa xs).2.2.2.2.1) pid pa d rand).2.1) ((FF st ep at_ sd tx rid rln bx ((Aa xs).2.2.2.2.1) pid pa d rand).2.2.1) ((FF st ep at_ sd tx rid rln bx ((Aa xs).2.2.2.2.1) pid pa d rand).2.2.2.1) ((FF st ep at_ sd tx rid rln bx ((Aa xs).2.2.2.2.1) pid pa d rand).2.2.2.2.1) ((FF st ep at_ sd tx rid rln bx ((Aa xs).2.2.2.2.1) pid pa d rand).2.2.2.2.2.1) ((FF st ep at_ sd tx rid rln bx ((Aa xs).2.2.2.2.1) pid pa d rand).2.2.2.2.2.2.1) ((FF st ep at_ sd tx rid rln bx ((Aa xs).2.2.2.2.1) pid pa d rand).2.2.2.2.2.2.2.1) ((FF st ep at_ sd tx rid rln bx ((Aa xs).2.2.2.2.1) pid pa d rand).2.2.2.2.2.2.2.2)).1),(Qi id fi ok oi ((B_ id fi ok oi ik ii low mx last told kl st ep at_ sd tx rid rln bx ((Aa xs).1) ((Aa xs).2.1) ((Aa xs).2.2.1) ((Aa xs).2.2.2.1) ((Aa xs).2.2.2.2.1) ((Aa xs).2.2.2.2.2)).2.2.1) ((B_ id fi ok oi ik ii low mx last told kl st ep at_ sd tx rid rln bx ((Aa xs).1) ((Aa xs).2.1) ((Aa xs).2.2.1) ((Aa xs).2.2.2.1) ((Aa xs).2.2.2.2.1) ((Aa xs).2.2.2.2.2)).2.2.2) low mx ((B_ id fi ok oi ik ii low mx last told kl st ep at_ sd tx rid rln bx ((Aa xs).1) ((Aa xs).2.1) ((Aa xs).2.2.1) ((Aa xs).2.2.2.1) ((Aa xs).2.2.2.2.1) ((Aa xs).2.2.2.2.2)).1) (max told ((Aa xs).2.2.2.1)) ((B_ id fi ok oi ik ii low mx last told kl st ep at_ sd tx rid rln bx ((Aa xs).1) ((Aa xs).2.1) ((Aa xs).2.2.1) ((Aa xs).2.2.2.1) ((Aa xs).2.2.2.2.1) ((Aa xs).2.2.2.2.2)).2.1) ((FF st ep at_ sd tx rid rln bx ((Aa xs).2.2.2.2.1) pid pa d rand).1) ((FF st ep at_ sd tx rid rln bx ((Aa xs).2.2.2.2.1) pid pa d rand).2.1) ((FF st ep at_ sd tx rid rln bx ((Aa xs).2.2.2.2.1) pid pa d rand).2.2.1) ((FF st ep at_ sd tx rid rln bx ((Aa xs).2.2.2.2.1) pid pa d rand).2.2.2.1) ((FF st ep at_ sd tx rid rln bx ((Aa xs).2.2.2.2.1) pid pa d rand).2.2.2.2.1) ((FF st ep at_ sd tx rid rln bx ((Aa xs).2.2.2.2.1) pid pa d rand).2.2.2.2.2.1) ((FF st ep at_ sd tx rid rln bx ((Aa xs).2.2.2.2.1) pid pa d rand).2.2.2.2.2.2.1) ((FF st ep at_ sd tx rid rln bx ((Aa xs).2.2.2.2.1) pid pa d rand).2.2.2.2.2.2.2.1) ((FF st ep at_ sd tx rid rln bx ((Aa xs).2.2.2.2.1) pid pa d rand).2.2.2.2.2.2.2.2)).2,((B_ id fi ok oi ik ii low mx last told kl st ep at_ sd tx rid rln bx ((Aa xs).1) ((Aa xs).2.1) ((Aa xs).2.2.1) ((Aa xs).2.2.2.1) ((Aa xs).2.2.2.2.1) ((Aa xs).2.2.2.2.2)).1),(max told ((Aa xs).2.2.2.1)),(B_ id fi ok oi ik ii low mx last told kl st ep at_ sd tx rid rln bx ((Aa xs).1) ((Aa xs).2.1) ((Aa xs).2.2.1) ((Aa xs).2.2.2.1) ((Aa xs).2.2.2.2.1) ((Aa xs).2.2.2.2.2)).2.1,(B_ id fi ok oi ik ii low mx last told kl st ep at_ sd tx rid rln bx ((Aa xs).1) ((Aa xs).2.1) ((Aa xs).2.2.1) ((Aa xs).2.2.2.1) ((Aa xs).2.2.2.2.1) ((Aa xs).2.2.2.2.2)).2.2.1,((B_ id fi ok oi ik ii low mx last told kl st ep at_ sd tx rid rln bx ((Aa xs).1) ((Aa xs).2.1) ((Aa xs).2.2.1) ((Aa xs).2.2.2.1) ((Aa xs).2.2.2.2.1) ((Aa xs).2.2.2.2.2)).2.2.2),((FF st ep at_ sd tx rid rln bx ((Aa xs).2.2.2.2.1) pid pa d rand).1),((FF st ep at_ sd tx rid rln bx ((Aa xs).2.2.2.2.1) pid pa d rand).2.1),((FF st ep at_ sd tx rid rln bx ((Aa xs).2.2.2.2.1) pid pa d rand).2.2.1),(FF st ep at_ sd tx rid rln bx ((Aa xs).2.2.2.2.1) pid pa d rand).2.2.2.1,(FF st ep at_ sd tx rid rln bx ((Aa xs).2.2.2.2.1) pid pa d rand).2.2.2.2.1,((FF st ep at_ sd tx rid rln bx ((Aa xs).2.2.2.2.1) pid pa d rand).2.2.2.2.2.1),((FF st ep at_ sd tx rid rln bx ((Aa xs).2.2.2.2.1) pid pa d rand).2.2.2.2.2.2.1),(FF st ep at_ sd tx rid rln bx ((Aa xs).2.2.2.2.1) pid pa d rand).2.2.2.2.2.2.2.1,(C9 (CC id fi ok oi ik ii low mx last told kl st ep at_ sd tx rid rln bx ((Aa xs).1) ((Aa xs).2.1) ((Aa xs).2.2.1) ((Aa xs).2.2.2.1) ((Aa xs).2.2.2.2.1) ((Aa xs).2.2.2.2.2)) (List.replicate 12 (0:Int)) ((Aa xs).1) ((Aa xs).2.2.2.2.2)).1,((Aa xs).2.1))
def Ax (rand:List Int) (pid pa:Nat) (d:List Int):Nat×(List (List Int))×Nat×Nat×(List (Int×Int×(List (List Int))))×(List Int)×Nat×Nat×Nat×Nat×(List Int)×(List Int)×Nat×Nat×(List (Option (List Int)))×(List Int)×Nat:=AJ (Tj id fi ok oi ik ii low mx last told kl st ep at_ sd tx rid rln bx xs rand pid pa d)
theorem Tk (rand:List Int) (pid pa:Nat) (d:List Int):Ax id fi ok oi ik ii low mx last told kl st ep at_ sd tx rid rln bx xs rand pid pa d=Tj id fi ok oi ik ii low mx last told kl st ep at_ sd tx rid rln bx xs rand pid pa d:=Af _
def yF (rand:List Int) (pid pa:Nat) (d:List Int) (z_:Nat×(List (List Int))×Nat×Nat×(List (Int×Int×(List (List Int))))×(List Int)×Nat×Nat×Nat×Nat×(List Int)×(List Int)×Nat×Nat×(List (Option (List Int)))×(List Int)×Nat:=Ax id fi ok oi ik ii low mx last told kl st ep at_ sd tx rid rln bx xs rand pid pa d):Con:=⟨[.cp 0 0,lb xs,lb rand],[(0,XB id fi true 1 2 5 low 4 last told 3),(1,Ao ok oi),(2,Ao ik ii),(3,.sl 86 [.int .i64,.int .i64,.sl (.sl (.int .u8))] kl),(4,.sl 22 [.sl (.int .u8)] mx),(5,A9 st ep at_ sd tx 6),(6,Df rid rln 7),(7,.sl 22 [.os (.int .u8)] bx)],.tu (chain [lb (z_.2.2.2.2.2.2.2.2.2.2.2.2.2.2.2.1),vi ((z_.2.2.2.2.2.2.2.2.2.2.2.2.2.2.2.2:Nat):Int)]),[(0,.ob 80 (chain [lb id,.v (.bool fi),.v (.bool true),.cp 1 0,.cp 2 0,.cp 5 0,vi ((z_.1:Nat):Int),.ls false [.sl (.int .u8)] (z_.2.1),vi ((z_.2.2.1:Nat):Int),vi ((z_.2.2.2.1:Nat):Int),.sk 8])),(1,Ao ok oi),(2,Ao (z_.2.2.2.2.2.1) z_.2.2.2.2.2.2.1),(5,A9 z_.2.2.2.2.2.2.2.1 z_.2.2.2.2.2.2.2.2.1 z_.2.2.2.2.2.2.2.2.2.1 (z_.2.2.2.2.2.2.2.2.2.2.1) (z_.2.2.2.2.2.2.2.2.2.2.2.1) 9),(8,.sl 86 [.int .i64,.int .i64,.sl (.sl (.int .u8))] (z_.2.2.2.2.1)),(9,Df z_.2.2.2.2.2.2.2.2.2.2.2.2.1 z_.2.2.2.2.2.2.2.2.2.2.2.2.2.1 10),(10,.sl 22 [.os (.int .u8)] (z_.2.2.2.2.2.2.2.2.2.2.2.2.2.2.1))]⟩
theorem iX (rand:List Int) (pid pa:Nat) (d:List Int) (hok:ok.length=32) (hik:ik.length=32) (hoi:oi≤100000000000) (hii:ii≤100000000000) (hm1:1≤mx.length∧mx.length≤90000) (hm2:∀j,(mx.getD j (rz [.sl (.int .u8)])).length≤32) (hlow:low≤100000000000) (hK:N2 kl) (hll:low≤last∧last≤100000000) (htd:told≤100000000) (hmn:low≤AV fi low mx.length told) (hst:st=1∨st=2∨st=3) (hrln:rln=(if st=1 then 1088 else 1184)) (hrid:rid=(if st=1 then 2*ep+1 else 2*ep)) (hbx:bx.length=2) (hep:ep≤400000000) (hpc:CB xs=true→B1 id fi ok oi ik ii low mx last told kl st ep at_ sd tx rid rln bx ((Aa xs).1) ((Aa xs).2.1) ((Aa xs).2.2.1) ((Aa xs).2.2.2.1) ((Aa xs).2.2.2.2.1) ((Aa xs).2.2.2.2.2)=true→tL ((C9 (CC id fi ok oi ik ii low mx last told kl st ep at_ sd tx rid rln bx ((Aa xs).1) ((Aa xs).2.1) ((Aa xs).2.2.1) ((Aa xs).2.2.2.1) ((Aa xs).2.2.2.2.1) ((Aa xs).2.2.2.2.2)) (List.replicate 12 (0:Int)) ((Aa xs).1) ((Aa xs).2.2.2.2.2)).2)=true→XA st ep sd tx bx ((Aa xs).2.2.2.2.1) pid pa d) (hf:xs.length≤50000) (hr:rand.length=64) (hk:GJ id fi ok oi ik ii low mx last told kl st ep at_ sd tx rid rln bx xs=true):ConOk Tryz.prog 39 (yF id fi ok oi ik ii low mx last told kl st ep at_ sd tx rid rln bx xs rand pid pa d):=by
 refine cy 8 Tryz.func39 rfl Tryz.ntmps39 fun hg0 hS=> ?_
 have Bf:xs.length≤9223372036854775807:=hS.len 1 rfl
 have CF:rand.length≤9223372036854775807:=hS.len 2 rfl
 have FP:kl.length≤9223372036854775807:=hS.lens 3 rfl
 have Qs:mx.length≤9223372036854775807:=hS.lens 4 rfl
 have I3:bx.length≤9223372036854775807:=hS.lens 7 rfl
 refine Ae [] 8 hS fun hS=>Au ?_
 have hm100:1≤mx.length∧mx.length≤100000:=by omega
 by_cases h1:CB xs=true
 ·have hm100:1≤mx.length∧mx.length≤100000:=by omega
  refine Av [(1,AR (Su xs AD h1))] [8] 9 hS fun hS=>Ej ?_
  have hpl:=Cy (xs:=xs) BC
  by_cases h2:B1 id fi ok oi ik ii low mx last told kl st ep at_ sd tx rid rln bx ((Aa xs).1) ((Aa xs).2.1) ((Aa xs).2.2.1) ((Aa xs).2.2.2.1) ((Aa xs).2.2.2.2.1) ((Aa xs).2.2.2.2.2)=true
  ·have hpl:=Cy (xs:=xs) BC
   refine Av [(2,AO (Wi id fi ok oi ik ii low mx last told kl st ep at_ sd tx rid rln bx ((Aa xs).1) ((Aa xs).2.1) ((Aa xs).2.2.1) ((Aa xs).2.2.2.1) ((Aa xs).2.2.2.2.1) ((Aa xs).2.2.2.2.2) AD AD Ac Ac MW (by first |assumption|(intro j;simp<;>omega)) Ac BC Ac Ac h2) [(0,0),(1,1),(2,2),(3,3),(4,4),(5,5),(6,6),(7,7)] []),(3,U6 .mf [(12:Int)=12,(0:Int)≤12,1*12≤281474976710656,(12:Int)≤9223372036854775807] ⟨rfl,by omega,by omega,by omega,trivial⟩),(8,AR (VB (CC id fi ok oi ik ii low mx last told kl st ep at_ sd tx rid rln bx ((Aa xs).1) ((Aa xs).2.1) ((Aa xs).2.2.1) ((Aa xs).2.2.2.1) ((Aa xs).2.2.2.2.1) ((Aa xs).2.2.2.2.2)) (List.replicate 12 (0:Int)) ((Aa xs).1) ((Aa xs).2.2.2.2.2) (IR BC Ac hK).2 (by have :=Cy (xs:=xs) BC;omega) (by have :=Cy (xs:=xs) BC;omega) (by simp)))] [] 9 hS fun hS=>Ej ?_
   by_cases h3:tL ((C9 (CC id fi ok oi ik ii low mx last told kl st ep at_ sd tx rid rln bx ((Aa xs).1) ((Aa xs).2.1) ((Aa xs).2.2.1) ((Aa xs).2.2.2.1) ((Aa xs).2.2.2.2.1) ((Aa xs).2.2.2.2.2)) (List.replicate 12 (0:Int)) ((Aa xs).1) ((Aa xs).2.2.2.2.2)).2)=true
   ·refine Av [(1,AR (Qg ((C9 (CC id fi ok oi ik ii low mx last told kl st ep at_ sd tx rid rln bx ((Aa xs).1) ((Aa xs).2.1) ((Aa xs).2.2.1) ((Aa xs).2.2.2.1) ((Aa xs).2.2.2.2.1) ((Aa xs).2.2.2.2.2)) (List.replicate 12 (0:Int)) ((Aa xs).1) ((Aa xs).2.2.2.2.2)).2) h3))] [] 9 hS fun hS=>Ej ?_
    have hpl:=Cy (xs:=xs) BC
    have hof:=(IR BC Ac hK).1
    refine Av [(2,AO (qB id fi ok oi ik ii low mx last told kl st ep at_ sd tx rid rln bx ((Aa xs).1) ((Aa xs).2.1) ((Aa xs).2.2.1) ((Aa xs).2.2.2.1) ((Aa xs).2.2.2.2.1) ((Aa xs).2.2.2.2.2) AD AD Ac Ac MW (by first |assumption|(intro j;simp<;>omega)) Ac BC Ac Ac BC) [(0,0),(1,1),(2,2),(3,3),(4,4),(5,5),(6,6),(7,7)] [(8,9)])] [] 10 hS fun hS=>Ab (Ay [(7,Rmx told ((Aa xs).2.2.2.1))] [] 10 hS fun hS=>Au (Ae [] 10 hS fun hS=>AQ hS (Ae [] 10 hS fun hS=>Au ?_)))
    have hpcx:=hpc BC BC BC
    by_cases h4:tL 0=true
    ·have hpcx:=hpc BC BC BC
     refine Av [(4,AO (Acb st ep at_ sd tx rid rln bx ((Aa xs).2.2.2.2.1) pid pa d rand BC BC BC Ac AD Ac BC) [(0,5),(1,6),(2,7)] [(3,10),(4,11),(5,12)]),(5,AR (Qg 0 h4))] [] 13 hS fun hS=>Ab ?_
     have hsec:=wG st ep at_ sd tx rid rln bx ((Aa xs).2.2.2.2.1) pid pa d rand
     have hof:=((IR BC Ac hK)).1
     have hpl:=Cy (xs:=xs) BC
     have hcl:=YU (id:=id) (fi:=fi) (ok:=ok) (oi:=oi) (ik:=ik) (ii:=ii) (low:=low) (mx:=mx) (last:=last) (told:=told) (kl:=kl) (st:=st) (ep:=ep) (at_:=at_) (sd:=sd) (tx:=tx) (rid:=rid) (rln:=rln) (bx:=bx) (hb:=(Aa xs).1) (hi:=(Aa xs).2.1) (hn:=(Aa xs).2.2.1) (hh:=(Aa xs).2.2.2.1) (hp:=(Aa xs).2.2.2.2.1) (hx:=(Aa xs).2.2.2.2.2) Ac
     have hmt:=dY hmn (Aa xs).2.2.2.1
     have hs1:=hsec.1
     have hs2:=hsec.2
     refine Av [(1,AO (vY id fi ok oi ((B_ id fi ok oi ik ii low mx last told kl st ep at_ sd tx rid rln bx ((Aa xs).1) ((Aa xs).2.1) ((Aa xs).2.2.1) ((Aa xs).2.2.2.1) ((Aa xs).2.2.2.2.1) ((Aa xs).2.2.2.2.2)).2.2.1) ((B_ id fi ok oi ik ii low mx last told kl st ep at_ sd tx rid rln bx ((Aa xs).1) ((Aa xs).2.1) ((Aa xs).2.2.1) ((Aa xs).2.2.2.1) ((Aa xs).2.2.2.2.1) ((Aa xs).2.2.2.2.2)).2.2.2) low mx ((B_ id fi ok oi ik ii low mx last told kl st ep at_ sd tx rid rln bx ((Aa xs).1) ((Aa xs).2.1) ((Aa xs).2.2.1) ((Aa xs).2.2.2.1) ((Aa xs).2.2.2.2.1) ((Aa xs).2.2.2.2.2)).1) (max told ((Aa xs).2.2.2.1)) ((B_ id fi ok oi ik ii low mx last told kl st ep at_ sd tx rid rln bx ((Aa xs).1) ((Aa xs).2.1) ((Aa xs).2.2.1) ((Aa xs).2.2.2.1) ((Aa xs).2.2.2.2.1) ((Aa xs).2.2.2.2.2)).2.1) ((FF st ep at_ sd tx rid rln bx ((Aa xs).2.2.2.2.1) pid pa d rand).1) ((FF st ep at_ sd tx rid rln bx ((Aa xs).2.2.2.2.1) pid pa d rand).2.1) ((FF st ep at_ sd tx rid rln bx ((Aa xs).2.2.2.2.1) pid pa d rand).2.2.1) ((FF st ep at_ sd tx rid rln bx ((Aa xs).2.2.2.2.1) pid pa d rand).2.2.2.1) ((FF st ep at_ sd tx rid rln bx ((Aa xs).2.2.2.2.1) pid pa d rand).2.2.2.2.1) ((FF st ep at_ sd tx rid rln bx ((Aa xs).2.2.2.2.1) pid pa d rand).2.2.2.2.2.1) ((FF st ep at_ sd tx rid rln bx ((Aa xs).2.2.2.2.1) pid pa d rand).2.2.2.2.2.2.1) ((FF st ep at_ sd tx rid rln bx ((Aa xs).2.2.2.2.1) pid pa d rand).2.2.2.2.2.2.2.1) ((FF st ep at_ sd tx rid rln bx ((Aa xs).2.2.2.2.1) pid pa d rand).2.2.2.2.2.2.2.2) MW (by first |assumption|(intro j;simp<;>omega)) Ac AD BC Ac BC Ac) [(0,0),(1,1),(2,2),(3,9),(4,4),(5,5),(6,10),(7,11),(8,12)] [])] [] 13 hS fun hS=>Ab (Ae [6] 13 hS fun hS=>AU ?_)
     obtain⟨gs,hS⟩:=hS.rx [(0,0),(1,1),(2,2),(3,3),(4,4),(5,5),(6,6),(7,7),(8,9),(9,10),(10,11)] [6,7] [0,1,2,5,8,9,10] 11 hg0
     exact Bh (Tk ..) hS
    ·have hpcx:=hpc BC BC BC
     have hK:GJ id fi ok oi ik ii low mx last told kl st ep at_ sd tx rid rln bx xs=false:=(IC id fi ok oi ik ii low mx last told kl st ep at_ sd tx rid rln bx xs).trans ((if_pos h1).trans ((if_pos h2).trans ((if_pos h3).trans (if_neg h4))))
     rw[hK]at hk
     cases hk
   ·have hK:GJ id fi ok oi ik ii low mx last told kl st ep at_ sd tx rid rln bx xs=false:=(IC id fi ok oi ik ii low mx last told kl st ep at_ sd tx rid rln bx xs).trans ((if_pos h1).trans ((if_pos h2).trans (if_neg h3)))
    rw[hK]at hk
    cases hk
  ·have hpl:=Cy (xs:=xs) BC
   have hK:GJ id fi ok oi ik ii low mx last told kl st ep at_ sd tx rid rln bx xs=false:=(IC id fi ok oi ik ii low mx last told kl st ep at_ sd tx rid rln bx xs).trans ((if_pos h1).trans (if_neg h2))
   rw[hK]at hk
   cases hk
 ·have hm100:1≤mx.length∧mx.length≤100000:=by omega
  have hK:GJ id fi ok oi ik ii low mx last told kl st ep at_ sd tx rid rln bx xs=false:=(IC id fi ok oi ik ii low mx last told kl st ep at_ sd tx rid rln bx xs).trans (if_neg h1)
  rw[hK]at hk
  cases hk
end
end
end Go.Sx.Tryz
namespace Go.Sx.Tryz
open Go.Mi Go.RowKit Go.Sx Go.Proofs
noncomputable section
def B8 (x0:List Int) (x1 x2:Bool) (x3:Nat) (x4 x5 x6:Nat) (x7:List (List Int)) (x8 x9:Nat) (x10:List (Int×Int×(List (List Int)))):O:= .ob 80 (chain [lb x0,.v (.bool x1),.v (.bool x2),.cp x3 0,.cp x4 0,.cp x5 0,vi ((x6:Nat):Int),.ls false [.sl (.int .u8)] x7,vi ((x8:Nat):Int),vi ((x9:Nat):Int),.ls false [.int .i64,.int .i64,.sl (.sl (.int .u8))] x10])
def gK (l:List (List Int)):Con:=⟨[.ls false [.sl (.int .u8)] l],[],.sk 0,[(0,.sl 22 [.sl (.int .u8)] l)]⟩
theorem Za (l:List (List Int)) (hl:l.length≤100000):ConOk Tryz.prog 63 (gK l):=by
 refine cy 0 Tryz.func63 rfl Tryz.ntmps63 fun hg0 hS=> ?_
 have A6:l.length≤9223372036854775807:=hS.len 0 rfl
 refine Ae [] 0 hS fun hS=>JN ?_
 rcases hS.nilor 0 [.sl (.int .u8)] l with⟨hn1,hS⟩|hS
 ·subst hn1
  refine Dn [] 0 hS fun hS=>Ab (AQ hS (Ae [] 0 hS fun hS=>AU (Ah ?_)))
  obtain⟨gs,hS⟩:=hS.nilk 2 22 [.sl (.int .u8)]
  exact Ci hS
 ·refine Dn [] 0 hS fun hS=>Ab (Ai hS (B5 (Ay [(0,Row),(2,Ge 0 l.length 24)] [] 2 hS fun hS=>AU ?_)))
  obtain⟨gs,hS⟩:=hS.rx [(0,1)] [2] [0] 1 hg0
  exact Ci hS
section
variable (id:List Int) (fi:Bool) (ok:List Int) (oi:Nat) (ik:List Int) (ii low:Nat) (mx:List (List Int)) (last told:Nat) (kl:List KR) (st:Nat) (ep at_:Nat) (sd tx:List Int) (rid rln:Nat) (bx:List (Option (List Int)))
def q7:Con:=⟨[.cp 0 0],[(0,B8 id fi true 1 2 3 low mx last told kl),(1,Ao ok oi),(2,Ao ik ii),(3,A9 st ep at_ sd tx 4),(4,BA rid rln bx)],.cp 5 0,[(0,B8 id fi true 1 2 3 low mx last told kl),(1,Ao ok oi),(2,Ao ik ii),(3,A9 st ep at_ sd tx 4),(4,BA rid rln bx),(5,XB id fi true 6 7 8 low 11 last told 12),(6,Ao ok oi),(7,Ao ik ii),(8,A9 st ep at_ sd tx 9),(9,Df rid rln 10),(10,.sl 22 [.os (.int .u8)] bx),(11,.sl 22 [.sl (.int .u8)] mx),(12,.sl 86 [.int .i64,.int .i64,.sl (.sl (.int .u8))] kl)]⟩
theorem cX (hok:ok.length=32) (hik:ik.length=32) (hoi:oi≤100000000000) (hii:ii≤100000000000) (hm1:1≤mx.length∧mx.length≤100000) (hm2:∀j,(mx.getD j (rz [.sl (.int .u8)])).length≤32) (hlow:low≤100000000000) (hK:N2 kl) (hbx:bx.length=2):ConOk Tryz.prog 30 (q7 id fi ok oi ik ii low mx last told kl st ep at_ sd tx rid rln bx):=by
 refine cy 5 Tryz.func30 rfl Tryz.ntmps30 fun hg0 hS=>Ae [] 5 hS fun hS=>Au (Ay [(1,Lc (BN) [0,1] [.im (chain [.top,.top,.top,.im (chain []) 0,.top,.top,.top,.top,.top,.top,.top]) 0])] [] 5 hS fun hS=>Ai hS (B5 (Ae [3] 6 hS fun hS=>Ay [(4,AO (Jj ok oi AD) [(0,1)] [(1,6)]),(9,AO (Jj ik ii AD) [(0,2)] [(1,7)]),(14,AO (dL st ep at_ sd tx rid rln bx AD) [(0,3),(1,4)] [(2,8),(3,9),(4,10)])] [] 11 hS fun hS=>Au ?_)))
 have hkl:=hK.1
 exact Av [(4,AO (Za mx AD) [] [(0,11)]),(9,AO (Gc kl AD) [] [(0,12)])] [] 13 hS fun hS=>Ab (Ae [] 13 hS fun hS=>AU (Ci hS))
end
end
end Go.Sx.Tryz
namespace Go.Sx.Tryz
open Go.Mi Go.RowKit Go.Sx Go.Proofs
noncomputable section
theorem Acd (st ep at_:Nat) (sd tx:List Int) (id ln:Nat) (bx:List (Option (List Int))) (pid pa ct q:Nat) (d r:List Int) (h:bx.length=2):(WE st ep at_ sd tx id ln bx pid pa ct q d r).2.2.2.2.2.2.2.1.length=2:=by
 rw[Hw]
 unfold SG
 repeat' (first |exact h|rfl|exact(FA ..).trans h|exact FA (List.replicate 2 none) _ _|split)
theorem Ace (st ep at_:Nat) (sd tx:List Int) (id ln:Nat) (bx:List (Option (List Int))) (b:List Int) (pid pa:Nat) (d r:List Int) (h:bx.length=2):(FF st ep at_ sd tx id ln bx b pid pa d r).2.2.2.2.2.2.2.1.length=2:=by
 by_cases h0:b=[]
 ·subst h0;rw[aR];exact h
 ·rw[WF _ _ _ _ _ _ _ _ h0];exact Acd _ _ _ _ _ _ _ _ _ _ _ _ _ _ h
section
variable (id:List Int) (fi:Bool) (ok:List Int) (oi:Nat) (ik:List Int) (ii low:Nat) (mx:List (List Int)) (last told:Nat) (kl:List KR) (st:Nat) (ep at_:Nat) (sd tx:List Int) (rid rln:Nat) (bx:List (Option (List Int))) (xs:List Int)
def IN:Bool:=if GJ id fi ok oi ik ii low mx last told kl st ep at_ sd tx rid rln bx xs=true then true else false
def HO:Bool:=AJ (IN id fi ok oi ik ii low mx last told kl st ep at_ sd tx rid rln bx xs)
theorem NH:HO id fi ok oi ik ii low mx last told kl st ep at_ sd tx rid rln bx xs=IN id fi ok oi ik ii low mx last told kl st ep at_ sd tx rid rln bx xs:=Af _
def Ky (rand:List Int) (pid pa:Nat) (d:List Int):(List Int)×Nat×Nat×Nat×Nat×(List Int)×(List Int)×Nat×Nat×(List (Option (List Int)))×Nat×(List (List Int))×Nat×Nat×(List (Int×Int×(List (List Int))))×(List Int)×Nat:=((Ax id fi ok oi ik ii low mx last told kl st ep at_ sd tx rid rln bx xs (rand.drop 64) pid pa d).2.2.2.2.2.1,((Ax id fi ok oi ik ii low mx last told kl st ep at_ sd tx rid rln bx xs (rand.drop 64) pid pa d).2.2.2.2.2.2.1),((Ax id fi ok oi ik ii low mx last told kl st ep at_ sd tx rid rln bx xs (rand.drop 64) pid pa d).2.2.2.2.2.2.2.1),((Ax id fi ok oi ik ii low mx last told kl st ep at_ sd tx rid rln bx xs (rand.drop 64) pid pa d).2.2.2.2.2.2.2.2.1),((Ax id fi ok oi ik ii low mx last told kl st ep at_ sd tx rid rln bx xs (rand.drop 64) pid pa d).2.2.2.2.2.2.2.2.2.1),(Ax id fi ok oi ik ii low mx last told kl st ep at_ sd tx rid rln bx xs (rand.drop 64) pid pa d).2.2.2.2.2.2.2.2.2.2.1,(Ax id fi ok oi ik ii low mx last told kl st ep at_ sd tx rid rln bx xs (rand.drop 64) pid pa d).2.2.2.2.2.2.2.2.2.2.2.1,((Ax id fi ok oi ik ii low mx last told kl st ep at_ sd tx rid rln bx xs (rand.drop 64) pid pa d).2.2.2.2.2.2.2.2.2.2.2.2.1),((Ax id fi ok oi ik ii low mx last told kl st ep at_ sd tx rid rln bx xs (rand.drop 64) pid pa d).2.2.2.2.2.2.2.2.2.2.2.2.2.1),(Ax id fi ok oi ik ii low mx last told kl st ep at_ sd tx rid rln bx xs (rand.drop 64) pid pa d).2.2.2.2.2.2.2.2.2.2.2.2.2.2.1,((Ax id fi ok oi ik ii low mx last told kl st ep at_ sd tx rid rln bx xs (rand.drop 64) pid pa d).1),(Ax id fi ok oi ik ii low mx last told kl st ep at_ sd tx rid rln bx xs (rand.drop 64) pid pa d).2.1,((Ax id fi ok oi ik ii low mx last told kl st ep at_ sd tx rid rln bx xs (rand.drop 64) pid pa d).2.2.1),((Ax id fi ok oi ik ii low mx last told kl st ep at_ sd tx rid rln bx xs (rand.drop 64) pid pa d).2.2.2.1),(Ax id fi ok oi ik ii low mx last told kl st ep at_ sd tx rid rln bx xs (rand.drop 64) pid pa d).2.2.2.2.1,(Ax id fi ok oi ik ii low mx last told kl st ep at_ sd tx rid rln bx xs (rand.drop 64) pid pa d).2.2.2.2.2.2.2.2.2.2.2.2.2.2.2.1,((Ax id fi ok oi ik ii low mx last told kl st ep at_ sd tx rid rln bx xs (rand.drop 64) pid pa d).2.2.2.2.2.2.2.2.2.2.2.2.2.2.2.2))
def A_ (rand:List Int) (pid pa:Nat) (d:List Int):(List Int)×Nat×Nat×Nat×Nat×(List Int)×(List Int)×Nat×Nat×(List (Option (List Int)))×Nat×(List (List Int))×Nat×Nat×(List (Int×Int×(List (List Int))))×(List Int)×Nat:=AJ (Ky id fi ok oi ik ii low mx last told kl st ep at_ sd tx rid rln bx xs rand pid pa d)
theorem PF (rand:List Int) (pid pa:Nat) (d:List Int):A_ id fi ok oi ik ii low mx last told kl st ep at_ sd tx rid rln bx xs rand pid pa d=Ky id fi ok oi ik ii low mx last told kl st ep at_ sd tx rid rln bx xs rand pid pa d:=Af _
def Q4 (rand:List Int) (pid pa:Nat) (d:List Int) (z_:(List Int)×Nat×Nat×Nat×Nat×(List Int)×(List Int)×Nat×Nat×(List (Option (List Int)))×Nat×(List (List Int))×Nat×Nat×(List (Int×Int×(List (List Int))))×(List Int)×Nat:=A_ id fi ok oi ik ii low mx last told kl st ep at_ sd tx rid rln bx xs rand pid pa d):Con:=⟨[.cp 0 0,lb xs,lb rand],[(0,B8 id fi true 1 2 3 low mx last told kl),(1,Ao ok oi),(2,Ao ik ii),(3,A9 st ep at_ sd tx 4),(4,BA rid rln bx)],.tu (chain [lb (z_.2.2.2.2.2.2.2.2.2.2.2.2.2.2.2.1),vi ((z_.2.2.2.2.2.2.2.2.2.2.2.2.2.2.2.2:Nat):Int),vi 0]),[(0,B8 id fi true 9 10 11 z_.2.2.2.2.2.2.2.2.2.2.1 (z_.2.2.2.2.2.2.2.2.2.2.2.1) z_.2.2.2.2.2.2.2.2.2.2.2.2.1 z_.2.2.2.2.2.2.2.2.2.2.2.2.2.1 (z_.2.2.2.2.2.2.2.2.2.2.2.2.2.2.1)),(1,Ao ok oi),(2,Ao ik ii),(3,A9 st ep at_ sd tx 4),(4,BA rid rln bx),(9,Ao ok oi),(10,Ao (z_.1) z_.2.1),(11,A9 z_.2.2.1 z_.2.2.2.1 z_.2.2.2.2.1 (z_.2.2.2.2.2.1) (z_.2.2.2.2.2.2.1) 17),(17,BA z_.2.2.2.2.2.2.2.1 z_.2.2.2.2.2.2.2.2.1 (z_.2.2.2.2.2.2.2.2.2.1))]⟩
theorem VW (rand:List Int) (pid pa:Nat) (d:List Int) (hok:ok.length=32) (hik:ik.length=32) (hoi:oi≤100000000000) (hii:ii≤100000000000) (hm1:1≤mx.length∧mx.length≤90000) (hm2:∀j,(mx.getD j (rz [.sl (.int .u8)])).length≤32) (hlow:low≤100000000000) (hK:N2 kl) (hll:low≤last∧last≤100000000) (htd:told≤100000000) (hmn:low≤AV fi low mx.length told) (hst:st=1∨st=2∨st=3) (hrln:rln=(if st=1 then 1088 else 1184)) (hrid:rid=(if st=1 then 2*ep+1 else 2*ep)) (hbx:bx.length=2) (hep:ep≤400000000) (hpc:CB xs=true→B1 id fi ok oi ik ii low mx last told kl st ep at_ sd tx rid rln bx ((Aa xs).1) ((Aa xs).2.1) ((Aa xs).2.2.1) ((Aa xs).2.2.2.1) ((Aa xs).2.2.2.2.1) ((Aa xs).2.2.2.2.2)=true→tL ((C9 (CC id fi ok oi ik ii low mx last told kl st ep at_ sd tx rid rln bx ((Aa xs).1) ((Aa xs).2.1) ((Aa xs).2.2.1) ((Aa xs).2.2.2.1) ((Aa xs).2.2.2.2.1) ((Aa xs).2.2.2.2.2)) (List.replicate 12 (0:Int)) ((Aa xs).1) ((Aa xs).2.2.2.2.2)).2)=true→XA st ep sd tx bx ((Aa xs).2.2.2.2.1) pid pa d) (hf:xs.length≤50000) (hr:rand.length=128) (hk:HO id fi ok oi ik ii low mx last told kl st ep at_ sd tx rid rln bx xs=true):ConOk Tryz.prog 19 (Q4 id fi ok oi ik ii low mx last told kl st ep at_ sd tx rid rln bx xs rand pid pa d):=by
 refine Fj rfl (nb:=5) Tryz.func19 rfl rfl Tryz.ntmps19 rfl rfl rfl fun g0 w0 ac gs ws hg0 hS=> ?_
 have Bf:xs.length≤9223372036854775807:=hS.len 1 rfl
 have CF:rand.length≤9223372036854775807:=hS.len 2 rfl
 have hS:=hS.sp
 have hr1:((rand.length:Nat):Int)=128:=Ac
 refine Ae [] 8 hS fun hS=>Au (Ay [(1,Lc (BN) [0,1] [.im (chain [.top,.top,.top,.im (chain []) 0,.top,.top,.top,.top,.top,.top,.top]) 0]),(5,Ik hr1)] [] 8 hS fun hS=>Ai hS (EK ?_))
 have hS:=hS.rv [(0,.cp 0 0),(1,lb xs),(2,lb rand),(6,.cp 5 0),(7,.cp 6 0),(8,.cp 7 0),(16,.v (.bool false))] [(0,some (B8 id fi true 1 2 3 low mx last told kl)),(1,some (Ao ok oi)),(2,some (Ao ik ii)),(3,some (A9 st ep at_ sd tx 4)),(4,some (BA rid rln bx)),(5,some (Afs)),(6,some (.ob 3 (chain [vi 0]))),(7,some (EA))]
 refine JL rfl hS (cs:=[.cp 5 0,.cp 6 0,.cp 7 0]) rfl rfl rfl fun D vds ac hD hcv hB hS=> ?_
 have hS:=hS.sp
 refine Ej ?_
 have hm100:1≤mx.length∧mx.length≤100000:=by omega
 refine Av [(1,AO (cX id fi ok oi ik ii low mx last told kl st ep at_ sd tx rid rln bx AD AD Ac Ac MW (by first |assumption|(intro j;simp<;>omega)) Ac BC AD) [(0,0),(1,1),(2,2),(3,3),(4,4)] [(5,8),(6,9),(7,10),(8,11),(9,12),(10,13),(11,14),(12,15)])] [] 16 hS fun hS=>Ej ?_
 have hm100:1≤mx.length∧mx.length≤100000:=by omega
 by_cases h1:GJ id fi ok oi ik ii low mx last told kl st ep at_ sd tx rid rln bx xs=true
 ·have hm100:1≤mx.length∧mx.length≤100000:=by omega
  refine Av [(3,ON 64 rand.length),(4,AO (iX id fi ok oi ik ii low mx last told kl st ep at_ sd tx rid rln bx xs (rand.drop 64) pid pa d AD AD Ac Ac MW (by first |assumption|(intro j;simp<;>omega)) Ac BC Ac Ac BC BC BC BC Ac Ac BC AD AD h1) [(0,8),(1,9),(2,10),(3,15),(4,14),(5,11),(6,12),(7,13)] [(8,16),(9,17),(10,18)])] [] 19 hS fun hS=>Ej (Dn [] 19 hS fun hS=> ?_)
  obtain⟨gs,hS⟩:=hS.fz 16
  have hbxl:((Ax id fi ok oi ik ii low mx last told kl st ep at_ sd tx rid rln bx xs (rand.drop 64) pid pa d).2.2.2.2.2.2.2.2.2.2.2.2.2.2.1).length=2:=by rw[Tk];exact Ace _ _ _ _ _ _ _ _ _ _ _ _ _ hbx
  have hbxn:((Ax id fi ok oi ik ii low mx last told kl st ep at_ sd tx rid rln bx xs (rand.drop 64) pid pa d).2.2.2.2.2.2.2.2.2.2.2.2.2.2.1)≠[]:=fun e=>by rw[e]at hbxl;cases hbxl
  obtain⟨gs,hS⟩:=hS.fy 18 22 [.os (.int .u8)] ((Ax id fi ok oi ik ii low mx last told kl st ep at_ sd tx rid rln bx xs (rand.drop 64) pid pa d).2.2.2.2.2.2.2.2.2.2.2.2.2.2.1) ((show true=true→((Ax id fi ok oi ik ii low mx last told kl st ep at_ sd tx rid rln bx xs (rand.drop 64) pid pa d).2.2.2.2.2.2.2.2.2.2.2.2.2.2.1)≠[]from fun _=>hbxn) rfl)
  refine Ab (Ae [] 19 hS fun hS=>AU ?_)
  have hM:A_ id fi ok oi ik ii low mx last told kl st ep at_ sd tx rid rln bx xs rand pid pa d=((Ax id fi ok oi ik ii low mx last told kl st ep at_ sd tx rid rln bx xs (rand.drop 64) pid pa d).2.2.2.2.2.1,((Ax id fi ok oi ik ii low mx last told kl st ep at_ sd tx rid rln bx xs (rand.drop 64) pid pa d).2.2.2.2.2.2.1),((Ax id fi ok oi ik ii low mx last told kl st ep at_ sd tx rid rln bx xs (rand.drop 64) pid pa d).2.2.2.2.2.2.2.1),((Ax id fi ok oi ik ii low mx last told kl st ep at_ sd tx rid rln bx xs (rand.drop 64) pid pa d).2.2.2.2.2.2.2.2.1),((Ax id fi ok oi ik ii low mx last told kl st ep at_ sd tx rid rln bx xs (rand.drop 64) pid pa d).2.2.2.2.2.2.2.2.2.1),(Ax id fi ok oi ik ii low mx last told kl st ep at_ sd tx rid rln bx xs (rand.drop 64) pid pa d).2.2.2.2.2.2.2.2.2.2.1,(Ax id fi ok oi ik ii low mx last told kl st ep at_ sd tx rid rln bx xs (rand.drop 64) pid pa d).2.2.2.2.2.2.2.2.2.2.2.1,((Ax id fi ok oi ik ii low mx last told kl st ep at_ sd tx rid rln bx xs (rand.drop 64) pid pa d).2.2.2.2.2.2.2.2.2.2.2.2.1),((Ax id fi ok oi ik ii low mx last told kl st ep at_ sd tx rid rln bx xs (rand.drop 64) pid pa d).2.2.2.2.2.2.2.2.2.2.2.2.2.1),(Ax id fi ok oi ik ii low mx last told kl st ep at_ sd tx rid rln bx xs (rand.drop 64) pid pa d).2.2.2.2.2.2.2.2.2.2.2.2.2.2.1,((Ax id fi ok oi ik ii low mx last told kl st ep at_ sd tx rid rln bx xs (rand.drop 64) pid pa d).1),(Ax id fi ok oi ik ii low mx last told kl st ep at_ sd tx rid rln bx xs (rand.drop 64) pid pa d).2.1,((Ax id fi ok oi ik ii low mx last told kl st ep at_ sd tx rid rln bx xs (rand.drop 64) pid pa d).2.2.1),((Ax id fi ok oi ik ii low mx last told kl st ep at_ sd tx rid rln bx xs (rand.drop 64) pid pa d).2.2.2.1),(Ax id fi ok oi ik ii low mx last told kl st ep at_ sd tx rid rln bx xs (rand.drop 64) pid pa d).2.2.2.2.1,(Ax id fi ok oi ik ii low mx last told kl st ep at_ sd tx rid rln bx xs (rand.drop 64) pid pa d).2.2.2.2.2.2.2.2.2.2.2.2.2.2.2.1,((Ax id fi ok oi ik ii low mx last told kl st ep at_ sd tx rid rln bx xs (rand.drop 64) pid pa d).2.2.2.2.2.2.2.2.2.2.2.2.2.2.2.2)):=PF id fi ok oi ik ii low mx last told kl st ep at_ sd tx rid rln bx xs rand pid pa d
  have hS:=hS.rv [(6,.cp 5 0),(7,.cp 6 0),(8,.cp 7 0)] [(0,some (B8 id fi true 9 10 11 ((Ax id fi ok oi ik ii low mx last told kl st ep at_ sd tx rid rln bx xs (rand.drop 64) pid pa d).1) ((Ax id fi ok oi ik ii low mx last told kl st ep at_ sd tx rid rln bx xs (rand.drop 64) pid pa d).2.1) ((Ax id fi ok oi ik ii low mx last told kl st ep at_ sd tx rid rln bx xs (rand.drop 64) pid pa d).2.2.1) ((Ax id fi ok oi ik ii low mx last told kl st ep at_ sd tx rid rln bx xs (rand.drop 64) pid pa d).2.2.2.1) ((Ax id fi ok oi ik ii low mx last told kl st ep at_ sd tx rid rln bx xs (rand.drop 64) pid pa d).2.2.2.2.1))),(1,some (Ao ok oi)),(2,some (Ao ik ii)),(3,some (A9 st ep at_ sd tx 4)),(4,some (BA rid rln bx)),(5,some (XC ((Ax id fi ok oi ik ii low mx last told kl st ep at_ sd tx rid rln bx xs (rand.drop 64) pid pa d).2.2.2.2.2.2.2.2.2.2.2.2.2.2.2.1))),(6,some (MR ((Ax id fi ok oi ik ii low mx last told kl st ep at_ sd tx rid rln bx xs (rand.drop 64) pid pa d).2.2.2.2.2.2.2.2.2.2.2.2.2.2.2.2))),(7,some (EA)),(9,some (Ao ok oi)),(10,some (Ao ((Ax id fi ok oi ik ii low mx last told kl st ep at_ sd tx rid rln bx xs (rand.drop 64) pid pa d).2.2.2.2.2.1) ((Ax id fi ok oi ik ii low mx last told kl st ep at_ sd tx rid rln bx xs (rand.drop 64) pid pa d).2.2.2.2.2.2.1))),(11,some (A9 ((Ax id fi ok oi ik ii low mx last told kl st ep at_ sd tx rid rln bx xs (rand.drop 64) pid pa d).2.2.2.2.2.2.2.1) ((Ax id fi ok oi ik ii low mx last told kl st ep at_ sd tx rid rln bx xs (rand.drop 64) pid pa d).2.2.2.2.2.2.2.2.1) ((Ax id fi ok oi ik ii low mx last told kl st ep at_ sd tx rid rln bx xs (rand.drop 64) pid pa d).2.2.2.2.2.2.2.2.2.1) ((Ax id fi ok oi ik ii low mx last told kl st ep at_ sd tx rid rln bx xs (rand.drop 64) pid pa d).2.2.2.2.2.2.2.2.2.2.1) ((Ax id fi ok oi ik ii low mx last told kl st ep at_ sd tx rid rln bx xs (rand.drop 64) pid pa d).2.2.2.2.2.2.2.2.2.2.2.1) 17)),(17,some (BA ((Ax id fi ok oi ik ii low mx last told kl st ep at_ sd tx rid rln bx xs (rand.drop 64) pid pa d).2.2.2.2.2.2.2.2.2.2.2.2.1) ((Ax id fi ok oi ik ii low mx last told kl st ep at_ sd tx rid rln bx xs (rand.drop 64) pid pa d).2.2.2.2.2.2.2.2.2.2.2.2.2.1) ((Ax id fi ok oi ik ii low mx last told kl st ep at_ sd tx rid rln bx xs (rand.drop 64) pid pa d).2.2.2.2.2.2.2.2.2.2.2.2.2.2.1)))]
  exact Qx (.inr rfl) hS hD (Gt ⟨38,(UW ((Ax id fi ok oi ik ii low mx last told kl st ep at_ sd tx rid rln bx xs (rand.drop 64) pid pa d).2.2.2.2.2.2.2.2.2.2.2.2.2.2.2.1) ((Ax id fi ok oi ik ii low mx last told kl st ep at_ sd tx rid rln bx xs (rand.drop 64) pid pa d).2.2.2.2.2.2.2.2.2.2.2.2.2.2.2.2)),[(0,5),(1,6),(2,7)],[]⟩ [(5,some (XC ((Ax id fi ok oi ik ii low mx last told kl st ep at_ sd tx rid rln bx xs (rand.drop 64) pid pa d).2.2.2.2.2.2.2.2.2.2.2.2.2.2.2.1))),(6,some (MR ((Ax id fi ok oi ik ii low mx last told kl st ep at_ sd tx rid rln bx xs (rand.drop 64) pid pa d).2.2.2.2.2.2.2.2.2.2.2.2.2.2.2.2))),(7,some (EA)),(0,some (B8 id fi true 9 10 11 ((Ax id fi ok oi ik ii low mx last told kl st ep at_ sd tx rid rln bx xs (rand.drop 64) pid pa d).1) ((Ax id fi ok oi ik ii low mx last told kl st ep at_ sd tx rid rln bx xs (rand.drop 64) pid pa d).2.1) ((Ax id fi ok oi ik ii low mx last told kl st ep at_ sd tx rid rln bx xs (rand.drop 64) pid pa d).2.2.1) ((Ax id fi ok oi ik ii low mx last told kl st ep at_ sd tx rid rln bx xs (rand.drop 64) pid pa d).2.2.2.1) ((Ax id fi ok oi ik ii low mx last told kl st ep at_ sd tx rid rln bx xs (rand.drop 64) pid pa d).2.2.2.2.1))),(1,some (Ao ok oi)),(2,some (Ao ik ii)),(3,some (A9 st ep at_ sd tx 4)),(4,some (BA rid rln bx)),(5,some (XC ((Ax id fi ok oi ik ii low mx last told kl st ep at_ sd tx rid rln bx xs (rand.drop 64) pid pa d).2.2.2.2.2.2.2.2.2.2.2.2.2.2.2.1))),(6,some (MR ((Ax id fi ok oi ik ii low mx last told kl st ep at_ sd tx rid rln bx xs (rand.drop 64) pid pa d).2.2.2.2.2.2.2.2.2.2.2.2.2.2.2.2))),(7,some (EA)),(9,some (Ao ok oi)),(10,some (Ao ((Ax id fi ok oi ik ii low mx last told kl st ep at_ sd tx rid rln bx xs (rand.drop 64) pid pa d).2.2.2.2.2.1) ((Ax id fi ok oi ik ii low mx last told kl st ep at_ sd tx rid rln bx xs (rand.drop 64) pid pa d).2.2.2.2.2.2.1))),(11,some (A9 ((Ax id fi ok oi ik ii low mx last told kl st ep at_ sd tx rid rln bx xs (rand.drop 64) pid pa d).2.2.2.2.2.2.2.1) ((Ax id fi ok oi ik ii low mx last told kl st ep at_ sd tx rid rln bx xs (rand.drop 64) pid pa d).2.2.2.2.2.2.2.2.1) ((Ax id fi ok oi ik ii low mx last told kl st ep at_ sd tx rid rln bx xs (rand.drop 64) pid pa d).2.2.2.2.2.2.2.2.2.1) ((Ax id fi ok oi ik ii low mx last told kl st ep at_ sd tx rid rln bx xs (rand.drop 64) pid pa d).2.2.2.2.2.2.2.2.2.2.1) ((Ax id fi ok oi ik ii low mx last told kl st ep at_ sd tx rid rln bx xs (rand.drop 64) pid pa d).2.2.2.2.2.2.2.2.2.2.2.1) 17)),(17,some (BA ((Ax id fi ok oi ik ii low mx last told kl st ep at_ sd tx rid rln bx xs (rand.drop 64) pid pa d).2.2.2.2.2.2.2.2.2.2.2.2.1) ((Ax id fi ok oi ik ii low mx last told kl st ep at_ sd tx rid rln bx xs (rand.drop 64) pid pa d).2.2.2.2.2.2.2.2.2.2.2.2.2.1) ((Ax id fi ok oi ik ii low mx last told kl st ep at_ sd tx rid rln bx xs (rand.drop 64) pid pa d).2.2.2.2.2.2.2.2.2.2.2.2.2.2.1)))] hB hS hcv (show FrameMode.returning≠ .run from nofun) rfl rfl rfl (V3 ((Ax id fi ok oi ik ii low mx last told kl st ep at_ sd tx rid rln bx xs (rand.drop 64) pid pa d).2.2.2.2.2.2.2.2.2.2.2.2.2.2.2.1) ((Ax id fi ok oi ik ii low mx last told kl st ep at_ sd tx rid rln bx xs (rand.drop 64) pid pa d).2.2.2.2.2.2.2.2.2.2.2.2.2.2.2.2)) rfl ⟨rfl,rfl,rfl,trivial⟩ rfl (ds:=[lb ((Ax id fi ok oi ik ii low mx last told kl st ep at_ sd tx rid rln bx xs (rand.drop 64) pid pa d).2.2.2.2.2.2.2.2.2.2.2.2.2.2.2.1),vi ((((Ax id fi ok oi ik ii low mx last told kl st ep at_ sd tx rid rln bx xs (rand.drop 64) pid pa d).2.2.2.2.2.2.2.2.2.2.2.2.2.2.2.2):Nat):Int),vi 0]) (by kernel_rfl) (by show weak _ (.tu (chain [lb ((A_ id fi ok oi ik ii low mx last told kl st ep at_ sd tx rid rln bx xs rand pid pa d).2.2.2.2.2.2.2.2.2.2.2.2.2.2.2.1),vi (((A_ id fi ok oi ik ii low mx last told kl st ep at_ sd tx rid rln bx xs rand pid pa d).2.2.2.2.2.2.2.2.2.2.2.2.2.2.2.2:Nat):Int),vi 0]))=(.tu (chain [lb ((A_ id fi ok oi ik ii low mx last told kl st ep at_ sd tx rid rln bx xs rand pid pa d).2.2.2.2.2.2.2.2.2.2.2.2.2.2.2.1),vi (((A_ id fi ok oi ik ii low mx last told kl st ep at_ sd tx rid rln bx xs rand pid pa d).2.2.2.2.2.2.2.2.2.2.2.2.2.2.2.2:Nat):Int),vi 0]));first |rfl|(rw[hM];first |(simp only[];rfl)|(simp only[];done)|rfl)) (by show DK _ [(0,B8 id fi true 9 10 11 ((A_ id fi ok oi ik ii low mx last told kl st ep at_ sd tx rid rln bx xs rand pid pa d).2.2.2.2.2.2.2.2.2.2.1) ((A_ id fi ok oi ik ii low mx last told kl st ep at_ sd tx rid rln bx xs rand pid pa d).2.2.2.2.2.2.2.2.2.2.2.1) ((A_ id fi ok oi ik ii low mx last told kl st ep at_ sd tx rid rln bx xs rand pid pa d).2.2.2.2.2.2.2.2.2.2.2.2.1) ((A_ id fi ok oi ik ii low mx last told kl st ep at_ sd tx rid rln bx xs rand pid pa d).2.2.2.2.2.2.2.2.2.2.2.2.2.1) ((A_ id fi ok oi ik ii low mx last told kl st ep at_ sd tx rid rln bx xs rand pid pa d).2.2.2.2.2.2.2.2.2.2.2.2.2.2.1)),(1,Ao ok oi),(2,Ao ik ii),(3,A9 st ep at_ sd tx 4),(4,BA rid rln bx),(9,Ao ok oi),(10,Ao ((A_ id fi ok oi ik ii low mx last told kl st ep at_ sd tx rid rln bx xs rand pid pa d).1) ((A_ id fi ok oi ik ii low mx last told kl st ep at_ sd tx rid rln bx xs rand pid pa d).2.1)),(11,A9 ((A_ id fi ok oi ik ii low mx last told kl st ep at_ sd tx rid rln bx xs rand pid pa d).2.2.1) ((A_ id fi ok oi ik ii low mx last told kl st ep at_ sd tx rid rln bx xs rand pid pa d).2.2.2.1) ((A_ id fi ok oi ik ii low mx last told kl st ep at_ sd tx rid rln bx xs rand pid pa d).2.2.2.2.1) ((A_ id fi ok oi ik ii low mx last told kl st ep at_ sd tx rid rln bx xs rand pid pa d).2.2.2.2.2.1) ((A_ id fi ok oi ik ii low mx last told kl st ep at_ sd tx rid rln bx xs rand pid pa d).2.2.2.2.2.2.1) 17),(17,BA ((A_ id fi ok oi ik ii low mx last told kl st ep at_ sd tx rid rln bx xs rand pid pa d).2.2.2.2.2.2.2.1) ((A_ id fi ok oi ik ii low mx last told kl st ep at_ sd tx rid rln bx xs rand pid pa d).2.2.2.2.2.2.2.2.1) ((A_ id fi ok oi ik ii low mx last told kl st ep at_ sd tx rid rln bx xs rand pid pa d).2.2.2.2.2.2.2.2.2.1))] true;first |exact⟨rfl,rfl,rfl,rfl,rfl,rfl,rfl,rfl,rfl,trivial⟩|(rw[hM];first |(simp only[];exact⟨rfl,rfl,rfl,rfl,rfl,rfl,rfl,rfl,rfl,trivial⟩)|exact⟨rfl,rfl,rfl,rfl,rfl,rfl,rfl,rfl,rfl,trivial⟩)))
 ·have hm100:1≤mx.length∧mx.length≤100000:=by omega
  have hK:HO id fi ok oi ik ii low mx last told kl st ep at_ sd tx rid rln bx xs=false:=(NH id fi ok oi ik ii low mx last told kl st ep at_ sd tx rid rln bx xs).trans (if_neg h1)
  rw[hK]at hk
  cases hk
end
end
end Go.Sx.Tryz
