/- General lemmas, walks. -/
import Derived.Test.YtmkplecnmklbfaaGreatJ6PTalk
set_option maxRecDepth 100000
set_option maxHeartbeats 1000000
set_option linter.unusedSimpArgs false
set_option linter.unusedVariables false
set_option linter.unnecessarySimpa false
set_option linter.unusedSectionVars false
namespace Go.Sx.Tryz
open Go.Mi Go.RowKit Go.Sx Go.Proofs
noncomputable section
def R1 (x0 x1:Nat) (x2 x3:Nat):O:= .ob 187 (chain [vi ((x0:Nat):Int),vi ((x1:Nat):Int),vi ((x2:Nat):Int),.sk x3])
def wB (n lo hi:Int):Bool:=decide (lo≤n∧n≤hi)
theorem Pf {n lo hi:Int} (h:lo≤n∧n≤hi):wB n lo hi=true:=decide_eq_true h
section
variable (n lo hi:Int)
def O_:Bool:=if lo≤n then decide (n≤hi)else false
def Pb:Bool:=AJ (O_ n lo hi)
theorem Pd:Pb n lo hi=O_ n lo hi:=Ag _
end
theorem VA (n lo hi:Int):Pb n lo hi=wB n lo hi:=by
 rw[Pd];unfold O_ wB
 by_cases h:lo≤n
 ·rw[if_pos h];simp only[h,true_and]
 ·rw[if_neg h];simp only[h,false_and];rfl
section
variable (n lo hi:Int)
def Rn (z_:Bool:=Pb n lo hi):Con:=⟨[vi n,vi lo,vi hi],[],.v (.bool z_),[]⟩
theorem R4:ConOk Tryz.prog 116 (Rn n lo hi):=by
 refine cy 0 Tryz.func116 rfl Tryz.ntmps116 fun hg0 hS=>Ae [] 0 hS fun hS=>Av ?_
 by_cases h1:lo≤n
 ·exact As [(2,GG h1)] [] 0 hS fun hS=>DX (Bi (.trans (Pd ..) (if_pos h1)) hS)
 ·exact As [(2,DC h1)] [] 0 hS fun hS=>DX (Bi (.trans (Pd ..) (if_neg h1)) hS)
def y9:Con:=⟨[vi n,vi lo,vi hi],[],.v (.bool true),[]⟩
theorem CW (hs:wB n lo hi=true):ConOk Tryz.prog 116 (y9 n lo hi):=by
 have h:=R4 n lo hi
 unfold Rn at h
 rw[VA,hs]at h
 exact h
def zA:Con:=⟨[vi n,vi lo,vi hi],[],.v (.bool false),[]⟩
theorem O9 (hs:wB n lo hi=false):ConOk Tryz.prog 116 (zA n lo hi):=by
 have h:=R4 n lo hi
 unfold Rn at h
 rw[VA,hs]at h
 exact h
end
section
variable (id ct:Nat) (sz ln:Nat)
def Aec:Con:=⟨[vi (id:Int),vi (ct:Int),vi (sz:Int),vi (ln:Int)],[],.tu (chain [.cp 0 0,vi 0]),[(0,R1 id sz ln 1),(1,.sl 22 [.os (.int .u8)] (List.replicate ct none))]⟩
theorem MR (hb:id≤1073741824∧1≤ct∧ct≤10000∧1≤sz∧sz≤10000∧1≤ln∧ln≤10000) (hc:ct=(ln+sz-1)/sz):ConOk Tryz.prog 146 (Aec id ct sz ln):=by
 refine cy 0 Tryz.func146 rfl Tryz.ntmps146 fun hg0 hS=> ?_
 have w1:wB (id:Int) 0 1073741824=true:=(Pf ⟨by omega,by omega⟩)
 have w2:wB (ct:Int) 1 10000=true:=(Pf ⟨by omega,by omega⟩)
 have w3:wB (sz:Int) 1 10000=true:=(Pf ⟨by omega,by omega⟩)
 have w4:wB (ln:Int) 1 10000=true:=(Pf ⟨by omega,by omega⟩)
 have w5:(ct:Int)=((((ln+sz)-1)/sz:Nat):Int):=(by rw[←hc])
 refine ES [] 0 hS fun hS=>Av (Hb [(1,AP (CW (id:Int) 0 1073741824 w1)),(5,AP (CW (ct:Int) 1 10000 w2)),(10,AP (CW (sz:Int) 1 10000 w3)),(15,AP (CW (ln:Int) 1 10000 w4)),(22,Ek ln sz (ln+sz)),(23,G9 (ln+sz) 1 ((ln+sz)-1)),(25,Vy ((ln+sz)-1) sz),(26,GH w5)] [] 0 hS fun hS=>Ai hS (BP (Hb [(4,iY ct 24)] [] 2 hS fun hS=>AR ?_)))
 obtain⟨gs,hS⟩:=hS.rx [(0,1),(1,0)] [8,9] [0,1] 2 hg0
 exact BW hS
end
section
variable (xs:List Int) (sz:Nat)
def tC:Con:=⟨[lb xs,vi (sz:Int)],[],.fn 157 (chain []) (chain [.im (chain [lb xs]) 0,.im (chain [vi (sz:Int)]) 0]),[]⟩
theorem gC (hz:1≤sz∧sz≤1000000):ConOk Tryz.prog 117 (tC xs sz):=by
 refine cy 0 Tryz.func117 rfl Tryz.ntmps117 fun hg0 hS=> ?_
 have A7:xs.length≤9223372036854775807:=hS.len 0 rfl
 have w1:¬(sz:Int)<1:=Ac
 refine Ae [] 2 hS fun hS=>Av (Ax [(1,DC w1)] [] 2 hS fun hS=>Ai hS (BP (Ae [] 2 hS fun hS=>AR ?_)))
 obtain⟨gs,hS⟩:=hS.im 0
 obtain⟨gs,hS⟩:=hS.im 1
 exact BW hS
end
abbrev PcR:=Int×Int×Int×List Int
section
variable (id:Nat) (xs:List Int) (sz:Nat) (pre:List Nat)
def OB:List PcR:=pre.mapIdx fun j z=>((id:Int),((j:Nat):Int),(0:Int),(xs.drop (z*sz)).take sz)
theorem L3:(OB id xs sz pre).length=pre.length:=List.length_mapIdx
theorem wG (z:Nat):OB id xs sz (pre++[z])=OB id xs sz pre++[((id:Int),(((OB id xs sz pre).length:Nat):Int),(0:Int),(xs.drop (z*sz)).take sz)]:=by
 rw[L3];unfold OB;rw[List.mapIdx_append];simp
end
theorem U5 {len sz:Nat} (h:1≤sz) (k:Nat):k<(len+sz-1)/sz↔k*sz<len:=by
 rw[Nat.lt_div_iff_mul_lt Ac];omega
theorem Zc {len sz:Nat} (h:1≤sz):(len+sz-1)/sz≤len:=by
 rcases Nat.lt_or_ge len ((len+sz-1)/sz)with h1|h1
 ·have h2:=(U5 h len).1 h1
  have h3:=Nat.le_mul_of_pos_right len h
  omega
 ·exact h1
def PE (x39:Nat):(List (Int×Int×Int×(List Int)))→(List (Int×Int×Int×(List Int))):=fun o1=>o1.set x39 (((o1.getD x39 (rz [.int .i64,.int .i64,.int .i64,.sl (.int .u8)])).1),(((o1.getD x39 (rz [.int .i64,.int .i64,.int .i64,.sl (.int .u8)])).2).1),((o1.length:Nat):Int),(((o1.getD x39 (rz [.int .i64,.int .i64,.int .i64,.sl (.int .u8)])).2).2).2)
section
variable (id:Nat) (xs:List Int) (sz:Nat)
def Ds (id:Nat) (xs:List Int) (sz:Nat):Nat→(List (Int×Int×Int×(List Int)))
 |0=>OB id xs sz (List.range ((xs.length+sz-1)/sz))
 |x39+1=>PE x39 (Ds id xs sz x39)
def TG:(List (Int×Int×Int×(List Int))):=Ds id xs sz ((OB id xs sz (List.range ((xs.length+sz-1)/sz))).length)
def An:(List (Int×Int×Int×(List Int))):=AJ (TG id xs sz)
theorem TH:An id xs sz=TG id xs sz:=Ag _
def zK (z_:(List (Int×Int×Int×(List Int))):=An id xs sz):Con:=⟨[vi (id:Int),lb xs,vi (sz:Int)],[],.tu (chain [.sk 0,vi 0]),[(0,.sl 133 [.int .i64,.int .i64,.int .i64,.sl (.int .u8)] z_)]⟩
theorem LD (hi:id≤1073741824) (hx:1≤xs.length∧xs.length≤10000) (hz:1≤sz∧sz≤1000):ConOk Tryz.prog 79 (zK id xs sz):=by
 refine f9 rfl 1 (nb:=0) Tryz.func79 rfl rfl Tryz.ntmps79 rfl rfl rfl fun g0 w0 ac gs ws hg0 hS=> ?_
 have Be:xs.length≤9223372036854775807:=hS.len 1 rfl
 have hS:=hS.sp
 have w1:wB (id:Int) 0 1073741824=true:=(Pf ⟨by omega,by omega⟩)
 have w2:wB (sz:Int) 1 1000=true:=(Pf ⟨by omega,by omega⟩)
 have w3:wB ((xs.length:Nat):Int) 1 10000=true:=(Pf ⟨by omega,by omega⟩)
 refine Ae [] 2 hS fun hS=>Av (Ax [(1,AP (CW (id:Int) 0 1073741824 w1)),(5,AP (CW (sz:Int) 1 1000 w2)),(11,AP (CW ((xs.length:Nat):Int) 1 10000 w3))] [] 2 hS fun hS=>Ai hS (DU (Ax [(1,AP (Dy xs AE)),(3,AP (gC xs sz Ac))] [] 2 hS fun hS=>Br ?_)))
 obtain⟨gs,hS⟩:=hS.nilob 1 0 133 [.int .i64,.int .i64,.int .i64,.sl (.int .u8)]
 obtain⟨gs,hS⟩:=hS.rn [(0,1),(1,2),(2,0)] [(3,.cp 2 0),(6,.cp 0 0),(7,vi 0),(27,.fn 157 (chain []) (chain [.im (chain [lb xs]) 0,.im (chain [vi (sz:Int)]) 0]))] [(0,.ob 129 (chain [.sk 1])),(1,.sl 133 [.int .i64,.int .i64,.int .i64,.sl (.int .u8)] (OB id xs sz [])),(2,M3 id)] 3 hg0
 refine Wn (m:=1) xs sz Ac Ac Ac (fun k=>U5 Ac k) rfl hg0 (fun pre=>[(0,.ob 129 (chain [.sk 1])),(1,.sl 133 [.int .i64,.int .i64,.int .i64,.sl (.int .u8)] (OB id xs sz pre)),(2,M3 id)]) hS.st rfl rfl rfl rfl (fun e=>by subst e;simp at hx) (fun r pre z g1 W a1 hlt hS=> ?_) (fun Dd Dk ac gs ws hD hDk hk hH hB hS=> ?_) (by decide)
 ·have hS:=SS.sp hS
  have hpl:=L3 id xs sz pre
  have hcl:(xs.length+sz-1)/sz≤xs.length:=Zc Ac
  refine rI [] trivial (fun _=>[(OB id xs sz pre).length+[((id:Int),(((OB id xs sz pre).length:Nat):Int),0,(xs.drop (z*sz)).take sz)].length≤9223372036854775807,((OB id xs sz pre).length+[((id:Int),(((OB id xs sz pre).length:Nat):Int),0,(xs.drop (z*sz)).take sz)].length)*48≤140737488355328]) [] [0,2,3] 4 ⟨by simp<;>omega,by simp<;>omega,trivial⟩ hS AbZ (fun ac gs ws hS=> ?_)
  simp only[wG]
  exact Agl hS [(0,0),(1,3),(2,2)]
 ·have hgo:=hg0
  have hg0:=fun k v h=>List.mem_range.2 (SS.nm hS k v h)
  have hS:=SS.sp hS
  refine BV (Il ?_)
  have hpl:=L3 id xs sz (List.range ((xs.length+sz-1)/sz))
  have hcl:(xs.length+sz-1)/sz≤xs.length:=Zc Ac
  rw[List.length_range]at hpl
  refine Dj [] 3 hS fun hS=>Ab (Br (Ar (ι:=Nat×(List (Int×Int×Int×(List Int)))) hg0 hS (fun(x39,o1)=>((OB id xs sz (List.range ((xs.length+sz-1)/sz))).length-x39,[(39,vi ((x39:Nat):Int))],[(1,.sl 133 [.int .i64,.int .i64,.int .i64,.sl (.int .u8)] o1)],(x39≤(OB id xs sz (List.range ((xs.length+sz-1)/sz))).length)∧(o1=Ds id xs sz x39)∧(o1.length=(OB id xs sz (List.range ((xs.length+sz-1)/sz))).length)∧True)) [6,7,38] [0] 3 (0,OB id xs sz (List.range ((xs.length+sz-1)/sz))) [(0,0),(1,1),(2,2)] ⟨Ac,rfl,rfl,trivial⟩ ?_))
  rintro⟨x39,o1⟩ ac gs ws ⟨hx39,hq1,p1,_⟩ hS
  refine Ae [] 3 hS fun hS=>Av (AB ((x39:Int)<(((OB id xs sz (List.range ((xs.length+sz-1)/sz))).length:Nat):Int)) hS (fun h1=> ?_) (fun h1=> ?_))
  ·exact BE (Ae [] 3 hS fun hS=>As [(4,AD x39 o1.length)] [] 3 hS fun hS=>BV (As [(0,BH x39)] [39] 3 hS fun hS=>Ab (Al hg0 hS (x39+1,o1.set x39 (((o1.getD x39 (rz [.int .i64,.int .i64,.int .i64,.sl (.int .u8)])).1),(((o1.getD x39 (rz [.int .i64,.int .i64,.int .i64,.sl (.int .u8)])).2).1),((o1.length:Nat):Int),(((o1.getD x39 (rz [.int .i64,.int .i64,.int .i64,.sl (.int .u8)])).2).2).2)) [(0,0),(1,1),(2,2)] ⟨Ac,(A3 (st:=PE) hq1 rfl rfl),(by rw[List.length_set];exact p1),trivial⟩)))
  ·have hT:=hS
   obtain rfl:(OB id xs sz (List.range ((xs.length+sz-1)/sz))).length=x39:=by omega
   obtain rfl:=hq1.symm
   have hS:=hT
   refine CO (Ae [] 3 hS fun hS=>AR ?_)
   have hM:An id xs sz=Ds id xs sz ((OB id xs sz (List.range ((xs.length+sz-1)/sz))).length):=TH id xs sz
   obtain⟨hS,hk⟩:=unb hk hH hB hS
   have hg0:=hgo
   obtain⟨gs,hS⟩:=hS.rx [(0,1),(1,0)] [6,7] [0,1] 2 hg0
   exact Afd hD hDk hk (.inr rfl) hS [.sk 0,vi 0] [(0,some (.sl 133 [.int .i64,.int .i64,.int .i64,.sl (.int .u8)] (Ds id xs sz ((OB id xs sz (List.range ((xs.length+sz-1)/sz))).length))))] rfl (by show DW _ [(0,.sl 133 [.int .i64,.int .i64,.int .i64,.sl (.int .u8)] (An id xs sz))] true;rw[hM];first |(simp only[];exact⟨rfl,trivial⟩)|exact⟨rfl,trivial⟩)
end
end
end Go.Sx.Tryz
namespace Go.Sx.Tryz
open Go.Mi Go.RowKit Go.Sx Go.Proofs
noncomputable section
section
variable (id ai ct:Nat) (d:List Int)
def QW:(List Int)×Nat:=if wB (id:Int) 0 1073741824=true then(if wB (ct:Int) 0 1073741824=true then(if wB (ai:Int) 0 ((ct:Int)-1)=true then(if((d.length:Nat):Int)=0 then([],1)else(if(1000:Int)<((d.length:Nat):Int)then([],11)else(((((([]++Ak id)++Ak ai)++Ak ct)++Ak d.length)++d),0)))else([],1))else([],1))else([],1)
def FK:(List Int)×Nat:=AJ (QW id ai ct d)
theorem GD:FK id ai ct d=QW id ai ct d:=Ag _
def XG (z_:(List Int)×Nat:=FK id ai ct d):Con:=⟨[.ag (chain [vi (id:Int),vi (ai:Int),vi (ct:Int),lb d])],[],.tu (chain [lb (z_.1),vi ((z_.2:Nat):Int)]),[]⟩
theorem NE (hb:id≤100000000000∧ai≤100000000000∧ct≤100000000000) (hd:d.length≤100000):ConOk Tryz.prog 80 (XG id ai ct d):=by
 refine cy 0 Tryz.func80 rfl Tryz.ntmps80 fun hg0 hS=>Ae [] 1 hS fun hS=>Av (Br (Av ?_))
 by_cases h1:wB (id:Int) 0 1073741824=true
 ·by_cases h2:wB (ct:Int) 0 1073741824=true
  ·by_cases h3:wB (ai:Int) 0 ((ct:Int)-1)=true
   ·refine As [(2,AP (CW (id:Int) 0 1073741824 h1)),(7,AP (CW (ct:Int) 0 1073741824 h2)),(15,RN ((ct:Int)-1) [EC .i64 (ct:Int) 1=(ct:Int)-1] ⟨QI Ac Ac,trivial⟩),(16,AP (CW (ai:Int) 0 ((ct:Int)-1) h3))] [] 1 hS fun hS=>Ab (AB (((d.length:Nat):Int)=0) hS (fun h4=> ?_) (fun h4=> ?_))
    ·refine Ae [] 1 hS fun hS=>AR (Aw (Af ?_))
     have hS:=hS.wk 2 (lb [])
     exact Bi (.trans (GD ..) ((if_pos h1).trans ((if_pos h2).trans ((if_pos h3).trans (if_pos h4))))) hS
    ·refine Ae [] 1 hS fun hS=>AB ((1000:Int)<((d.length:Nat):Int)) hS (fun h5=> ?_) (fun h5=> ?_)
     ·refine Ae [] 1 hS fun hS=>AR (Aw (Af ?_))
      have hS:=hS.wk 2 (lb [])
      exact Bi (.trans (GD ..) ((if_pos h1).trans ((if_pos h2).trans ((if_pos h3).trans ((if_neg h4).trans (if_pos h5)))))) hS
     ·refine G8 (Ae [] 2 hS fun hS=>Av ?_)
      have hw1:=AH (n:=id) Ac
      have hw2:=AH (n:=ai) Ac
      have hw3:=AH (n:=ct) Ac
      have hw4:=AH (n:=d.length) Ac
      exact As [(3,XR id),(4,AM (Lr id Ac) [(0,1)] [(1,2)]),(7,XR ai),(8,AM (HN ([]++Ak id) ai AE Ac) [(0,1),(1,2)] [(2,3)]),(11,XR ct),(12,AM (HN (([]++Ak id)++Ak ai) ct AE Ac) [(0,1),(1,3)] [(2,4)]),(15,AM (Ga ((([]++Ak id)++Ak ai)++Ak ct) d AE AE) [(0,1),(1,4)] [(2,5)]),(16,AM (Ha ((((([]++Ak id)++Ak ai)++Ak ct)++Ak d.length)++d) AE) [(0,1),(1,5)] [])] [] 6 hS fun hS=>DX (Bi (.trans (GD ..) ((if_pos h1).trans ((if_pos h2).trans ((if_pos h3).trans ((if_neg h4).trans (if_neg h5)))))) hS)
   ·refine As [(2,AP (CW (id:Int) 0 1073741824 h1)),(7,AP (CW (ct:Int) 0 1073741824 h2)),(15,RN ((ct:Int)-1) [EC .i64 (ct:Int) 1=(ct:Int)-1] ⟨QI Ac Ac,trivial⟩),(16,AP (O9 (ai:Int) 0 ((ct:Int)-1) (Eu h3)))] [] 1 hS fun hS=>Ab (AO hS (Ae [] 1 hS fun hS=>AR (Aw (Af ?_))))
    have hS:=hS.wk 2 (lb [])
    exact Bi (.trans (GD ..) ((if_pos h1).trans ((if_pos h2).trans (if_neg h3)))) hS
  ·refine As [(2,AP (CW (id:Int) 0 1073741824 h1)),(7,AP (O9 (ct:Int) 0 1073741824 (Eu h2)))] [] 1 hS fun hS=>Ab (AO hS (Ae [] 1 hS fun hS=>AR (Aw (Af ?_))))
   have hS:=hS.wk 2 (lb [])
   exact Bi (.trans (GD ..) ((if_pos h1).trans (if_neg h2))) hS
 ·refine As [(2,AP (O9 (id:Int) 0 1073741824 (Eu h1)))] [] 1 hS fun hS=>Ab (AO hS (Ae [] 1 hS fun hS=>AR (Aw (Af ?_))))
  have hS:=hS.wk 2 (lb [])
  exact Bi (.trans (GD ..) (if_neg h1)) hS
end
end
end Go.Sx.Tryz
namespace Go.Sx
open Go.Mi Go.RowKit
variable [Dfr]
def XT (P:Program) (n:Nat) (o:Oper) (L:DL) (H:Nat→Option O) (e:Eff) (d:D):Prop:=
 ∀ξ g w,HS (BG (e.rd++Ao e.wr) H) g w→Hold L ξ g w→Pn1 P o n (Lq L ξ) w fun v w'=>∃g',Post H ⟨e.rd,e.wr,e.nw,d⟩ g w v g' w'
theorem fQ {P:Program} {n:Nat} {q:Option CR} (hc:∀r,q=some r→GZ P r.f r.c) {L:DL} {H:Hp} {o:Oper} {e:Eff} {d:D} {ps:List Prop} (h:QV q L H o=some (e,d,ps)) (hp:AllP ps):e.nw=[]∧XT P n o L (AT H) e d:=by
 obtain⟨ds,op,ty,pos,af,gu⟩:=o
 unfold QV at h
 split at h
 ·rename_i q c hop
  simp only at hop
  subst hop
  have hc:=hc q rfl
  obtain⟨cl,xs,ts⟩:=c
  split at h
  ·rename_i f hf
   simp only at hf
   subst hf
   split at h
   ·rename_i f' ays hfn
    cases hb:Nat.beq f' q.f&&q.chk&&ays.all D.one&&q.σ.isEmpty with
    |false=>rw[hb]at h;cases h
    |true=>
     rw[hb]at h
     simp only[Bool.and_eq_true,List.all_eq_true,List.isEmpty_iff]at hb
     obtain⟨⟨⟨b1,b2⟩,b3⟩,b4⟩:=hb
     have b1:=Nat.eq_of_beq_eq_true b1
     subst b1
     cases h
     have hq':=CRok.of b2
     obtain⟨n1,n2⟩:=CR.need_of hp.1
     have hnw:q.eff.nw=[]:=by simp only[CR.eff,b4,List.filterMap_nil]
     refine⟨hnw,fun ξ g w hS hH=> ?_⟩
     have fin:∀{vs:List Value},B9 g.X g.N w (chain ays) true vs→Calls P q.f vs.toArray w (fun e w'=>∃v,e=pn v∧∃g',Post (AT H) q.eff g w v g' w'):=fun hv=>by
      have :=Ls (es:=q.c.args.map (D.ren q.r)) hv b3
      rw[n1]at this
      refine(Lf hq' hc n2 hS (fun p hp=>by rw[hnw]at hp;cases hp) this).mono fun e w' ⟨v,he,g',hpo⟩=>⟨v,he,g',hpo⟩
     unfold YY at hfn
     split at hfn
     ·rename_i f0 first captured as' hx has
      cases he:first.isEmpty&&captured.isEmpty with
      |false=>rw[he]at hfn;cases hfn
      |true=>
       rw[he]at hfn
       simp only[cond_true,Option.some.injEq,Prod.mk.injEq]at hfn
       obtain⟨rfl,rfl⟩:=hfn
       rw[Bool.and_eq_true,Array.isEmpty_iff,Array.isEmpty_iff]at he
       obtain⟨rfl,rfl⟩:=he
       obtain⟨vs,k1,k2,_⟩:=DO hH has
       refine LZ (first := #[]) (captured:= #[]) (Bp hH hx) hc.1 k1 ?_
       simpa[CR.eff]using fin k2
     ·rename_i f0 a b as' hx has
      split at hfn
      ·rename_i a' b' ha hb'
       simp only[Option.some.injEq,Prod.mk.injEq]at hfn
       obtain⟨rfl,rfl⟩:=hfn
       obtain⟨v,hv,va,vb,h1,h2,h3⟩:=A5 hH hx
       cases(List.cons.inj h3).1
       obtain⟨vs,k1,k2,_⟩:=DO hH has
       refine LZ hv hc.1 k1 ?_
       have :=fin (DJ (DJ (GO ha h1) k2) (GO hb' h2))
       simpa[CR.eff]using this
      ·cases hfn
     ·cases hfn
   ·cases h
  ·cases h
 ·rename_i x hop
  simp only at hop
  subst hop
  split at h
  ·rename_i t v hx
   cases h
   refine⟨rfl,fun ξ g w hS hH=>Ws (Bp hH hx) ⟨g,Post.pure (rd:=[]) hS.wf rfl⟩⟩
  ·cases h
 ·cases h
theorem eO {P : Program} {n : Nat} {ops : List Oper} {ex : Ex} {q : Option CR} {p dd : Nat} (hex : NL P n ex) (hc : ∀ r, q = some r → GZ P r.f r.c) : ∀ {os : List Oper} {i : Nat} {L : DL} {H : Hp} {nb : Nat} {rows : List Rw} {ps : List Prop} {d : D} {nb' : Nat}, GU ops ex q p dd i os L H nb = some (rows, ps, d, nb') → AllP ps →
  ∀(j:Nat) (b:Oper×Rw),(os.zip rows)[j]? =some b→dd.testBit (i+j)=false→
   if i+j=p then ∃e,b.2=some e∧gW ops (((os.zip rows).take j).foldl FV L) b.1=some true∧XT P n b.1 (A_ (((os.zip rows).take j).foldl FV L) (LR ops b.1)) (AT (((os.zip rows).take j).foldl Hf H)) e d
   else M0 P n ops (((os.zip rows).take j).foldl FV L) (((os.zip rows).take j).foldl Hf H) b:=by
 intro os
 induction os with
 |nil=>intro i L H nb rows ps d nb' _ _ j b hb;simp at hb
 |cons o os ih=>
  intro i L H nb rows ps d nb' h hp j b hb hdd
  have tail : ∀ {r1 : Rw} {rows' : List Rw} {L' : DL} {H' : Hp} {nb2 : Nat} {ps' : List Prop} {d' : D}, rows = r1 :: rows' → GU ops ex q p dd (i + 1) os L' H' nb2 = some (rows', ps', d', nb') → AllP ps' → FV L (o, r1) = L' → Hf H (o, r1) = H' → (∀ j', j = j' + 1 → i + j = p → d' = d) → (j = 0 → b = (o, r1) → if i + 0 = p then ∃ e, b.2 = some e ∧ gW ops L b.1 = some true ∧ XT P n b.1 (A_ L (LR ops b.1)) (AT H) e d else M0 P n ops L H b) →
    if i+j=p then ∃e,b.2=some e∧gW ops ((((o::os).zip rows).take j).foldl FV L) b.1=some true∧XT P n b.1 (A_ ((((o::os).zip rows).take j).foldl FV L) (LR ops b.1)) (AT ((((o::os).zip rows).take j).foldl Hf H)) e d
    else M0 P n ops ((((o::os).zip rows).take j).foldl FV L) ((((o::os).zip rows).take j).foldl Hf H) b:=by
   intro r1 rows' L' H' nb2 ps' d' hr hpl hp' hL hH hdt h0
   subst hr
   cases j with
   |zero=>
    have hb':(o,r1)=b:=by simpa using hb
    have :=h0 rfl hb'.symm
    simpa using this
   |succ j'=>
    have hb':(os.zip rows')[j']? =some b:=by simpa using hb
    have :=ih hpl hp' j' b hb' (by rw[show i+1+j'=i+(j'+1) by omega];exact hdd)
    rw[show i+1+j'=i+(j'+1) by omega]at this
    have e1:(((o::os).zip (r1::rows')).take (j'+1)).foldl FV L=((os.zip rows').take j').foldl FV L':=by rw[←hL];rfl
    have e2:(((o::os).zip (r1::rows')).take (j'+1)).foldl Hf H=((os.zip rows').take j').foldl Hf H':=by rw[←hH];rfl
    rw[e1,e2]
    by_cases hip:i+(j'+1)=p
    ·rw[if_pos hip]at this⊢
     rw[hdt j' rfl hip]at this
     exact this
    ·rw[if_neg hip]at this⊢
     exact this
  simp only[GU]at h
  cases hdi:dd.testBit i with
  |true=>
   rw[hdi]at h
   simp only[cond_true]at h
   obtain⟨⟨r1,r2,r3,r4⟩,h1,h2⟩:=Option.map_eq_some_iff.1 h
   simp only[Prod.mk.injEq]at h2
   obtain⟨h2a,rfl,rfl,rfl⟩:=h2
   refine tail h2a.symm h1 hp rfl rfl (fun _ _ _=>rfl) fun hj _=> ?_
   subst hj
   rw[Nat.add_zero,hdi]at hdd
   cases hdd
  |false=>
   rw[hdi]at h
   simp only[cond_false]at h
   cases hg:gW ops L o with
   |none=>rw[hg]at h;cases h
   |some c=>
    rw[hg]at h
    cases c with
    |false=>
     simp only at h
     cases hip:Nat.beq i p with
     |true=>rw[hip]at h;cases h
     |false=>
      rw[hip]at h
      simp only[cond_false]at h
      obtain⟨⟨r1,r2,r3,r4⟩,h1,h2⟩:=Option.map_eq_some_iff.1 h
      simp only[Prod.mk.injEq]at h2
      obtain⟨h2a,rfl,rfl,rfl⟩:=h2
      refine tail h2a.symm h1 hp rfl rfl (fun _ _ _=>rfl) fun hj hb0=> ?_
      subst hb0
      rw[if_neg (fun e=>by rw[Nat.add_zero]at e;rw[e,Nat.beq_refl]at hip;cases hip)]
      exact hg
    |true=>
     simp only at h
     cases hip:Nat.beq i p with
     |true=>
      have hip':=Nat.eq_of_beq_eq_true hip
      rw[hip]at h
      simp only[cond_true]at h
      cases he:QV q (A_ L (LR ops o)) H o with
      |none=>rw[he]at h;cases h
      |some x=>
       obtain⟨e,d1,qs⟩:=x
       rw[he]at h
       simp only at h
       obtain⟨⟨r1,r2,r3,r4⟩,h1,h2⟩:=Option.map_eq_some_iff.1 h
       simp only[Prod.mk.injEq]at h2
       obtain⟨h2a,rfl,rfl,rfl⟩:=h2
       rw[AllP.append]at hp
       refine tail h2a.symm h1 hp.2 rfl rfl (fun j' hj hp2=>by omega) fun hj hb0=> ?_
       subst hb0
       rw[if_pos (by omega)]
       exact⟨e,rfl,hg,(fQ hc he hp.1).2⟩
     |false=>
      rw[hip]at h
      simp only[cond_false]at h
      cases he:ex i (A_ L (LR ops o)) H nb o with
      |none=>rw[he]at h;cases h
      |some x=>
       obtain⟨e,qs⟩:=x
       rw[he]at h
       simp only at h
       obtain⟨⟨r1,r2,r3,r4⟩,h1,h2⟩:=Option.map_eq_some_iff.1 h
       simp only[Prod.mk.injEq]at h2
       obtain⟨h2a,rfl,rfl,rfl⟩:=h2
       rw[AllP.append]at hp
       refine tail h2a.symm h1 hp.2 rfl rfl (fun _ _ _=>rfl) fun hj hb0=> ?_
       subst hb0
       rw[if_neg (fun e=>by rw[Nat.add_zero]at e;rw[e,Nat.beq_refl]at hip;cases hip)]
       exact⟨hg,hex _ _ _ _ _ _ _ he hp.1⟩
section
variable {P:Program} {n nb nb':Nat} {l:List Oper} {rows:List Rw} {L0:DL} {H0:Hp} {S0:Nat→Prop} {g0:G} {w0:World} {Q:Exit→Act→World→Prop} {a:Act} {w:World}
theorem vV (hc : ChkR n nb nb' l rows) {i : Nat} {o : Oper} {e : Eff} {dv : D} (hz : (l.zip rows)[i]? = some (o, some e)) (hdi : Nat.blt i i = false) (hcl : ∀ i' j, Ck l i' j → Nat.blt i' i = true → Nat.blt j i = true) (hah : ∀ j, Ck l i j → Nat.blt j i = true)
  (hg:gW l (((l.zip rows).take i).foldl FV L0) o=some true) (hp:XT P n o (A_ (((l.zip rows).take i).foldl FV L0) (LR l o)) (AT (((l.zip rows).take i).foldl Hf H0)) e dv)
  (hend:∀a g w v,St n S0 g0 w0 (((l.zip rows).take i).foldl FV L0) (((l.zip rows).take (i+1)).foldl Hf H0) nb' a g w→Sm g w dv v→Q (.panic [{v,recovered:=false}]) a w) (hle:nb≤nb') {K:Act→World→Prop} (h:RI n S0 g0 w0 l rows L0 H0 nb (fun j=>Nat.blt j i) a w):wpOp P l.toArray Q i K a w:=by
 obtain⟨g,hS,hfr,hHS,hfoot,hw⟩:=lR (d:=fun j=>Nat.blt j i) hc hz hdi hcl hah h
 have ho:l[i]? =some o:=(List.getElem?_zip_eq_some.1 hz).1
 unfold wpOp
 simp only[List.getElem?_toArray,ho]
 rw[if_pos (hw true hg)]
 refine .inl (hp _ g w hHS hfr.get a K Q hfr.frm ?_)
 rintro v w' ⟨g',hpo⟩
 have eL:∀t,lw (fun j=>Nat.blt j i) fL 0 (l.zip rows) (Dn L0) t=Dn (((l.zip rows).take i).foldl FV L0) t:=fun t=>by
  have :=I7 (f:=fL) (bs:=l.zip rows) (i:=0) (j:=i) (H:=Dn L0) (k:=t)
  rw[Nat.zero_add]at this
  rw[this,QM]
 have eH:∀k,lw (fun j=>Nat.blt j i) fH 0 (l.zip rows) (AT H0) k=AT (((l.zip rows).take i).foldl Hf H0) k:=fun k=>by
  have :=I7 (f:=fH) (bs:=l.zip rows) (i:=0) (j:=i) (H:=AT H0) (k:=k)
  rw[Nat.zero_add]at this
  rw[this,QN]
 have hS1:SS n S0 g0 w0 (Dn (((l.zip rows).take i).foldl FV L0)) (AT (((l.zip rows).take i).foldl Hf H0)) (· <nb') a g w:=hS.weak (fun t d ht=>by rw[eL];exact ht) (fun k o hk=>by rw[eH];exact hk) fun k hk=>by
  rcases hk with hk|⟨j,b,hb,_,hk⟩
  ·exact Nat.lt_of_lt_of_le hk hle
  ·obtain⟨_,hz'⟩:=List.getElem?_zip_eq_some.1 hb
   exact(hc.name b.2 (List.mem_of_getElem? hz') k hk).2
 have htake:((l.zip rows).take (i+1)).foldl Hf H0=FF (some e)++((l.zip rows).take i).foldl Hf H0:=by
  rw[List.take_add_one,hz,List.foldl_append];rfl
 have hS2:=SS.step hS1 (dst:=none) (fun t h=>by cases h) hpo (L':=Dn (((l.zip rows).take i).foldl FV L0)) (H':=AT (((l.zip rows).take (i+1)).foldl Hf H0)) (nm':=(· <nb')) (fun t d h=> .inr ⟨(by simp),h⟩) (fun k o h=>by
  rw[htake]at h
  have h:=BC.1 h
  rw[JM]at h
  cases hb:EA (FF (some e)) k with
  |none=>
   rw[hb]at h
   exact .inr ⟨fun hk=>Hz.1 hk hb,BC.2 h⟩
  |some x=>
   rw[hb]at h
   simp only[Option.some.injEq]at h
   subst h
   exact .inl (BC.2 hb)) (fun k h=>by
  rcases h with h|h
  ·exact h
  ·obtain⟨_,hz'⟩:=List.getElem?_zip_eq_some.1 hz
   exact(hc.name _ (List.mem_of_getElem? hz') k h).2)
 exact hend a g' w' v hS2 hpo.r
end
def Aci (n:Nat) (ops:List Oper) (ex:Ex) (q:Option CR) (p dd:Nat) (L:DL) (H:Hp) (nb:Nat):Option (List Prop×D×DL×Hp×Nat):=match GU ops ex q p dd 0 ops L H nb with
 |some (rows,ps,d,nb')=>bif Xt n nb nb' ops rows&&yT false ops p dd&&Nat.blt p ops.length&& !(dd.testBit p)&&Nat.ble nb nb' then some (ps,d,((ops.zip rows).take p).foldl FV L,((ops.zip rows).take (p+1)).foldl Hf H,nb')else none
 |none=>none
section
variable {P:Program} {n:Nat} {ops:List Oper} {ex:Ex} {L:DL} {H:Hp} {nb:Nat} {S0:Nat→Prop} {g0 g:G} {w0 w:World} {Q:Exit→Act→World→Prop} {a:Act}
theorem Wb {id : Nat} (hex : NL P n ex) {q : Option CR} (hc : ∀ r, q = some r → GZ P r.f r.c) (p dd : Nat) {ps : List Prop} {d : D} {L1 : DL} {H1 : Hp} {nb1 : Nat} (h : Aci n ops ex q p dd L H nb = some (ps, d, L1, H1, nb1)) (hp : AllP ps) (hS : St n S0 g0 w0 L H nb a g w)
  (hend:∀a g w v,St n S0 g0 w0 L1 H1 nb1 a g w→Sm g w d v→Q (.panic [{v,recovered:=false}]) a w):(Code.region id ops.toArray false).wp P Q a w:=by
 unfold Aci at h
 cases hx:GU ops ex q p dd 0 ops L H nb with
 |none=>rw[hx]at h;cases h
 |some x=>
  obtain⟨rows,qs,d1,nb'⟩:=x
  rw[hx]at h
  simp only at h
  cases hb:Xt n nb nb' ops rows&&yT false ops p dd&&Nat.blt p ops.length&& !(dd.testBit p)&&Nat.ble nb nb' with
  |false=>rw[hb]at h;cases h
  |true=>
   rw[hb]at h
   cases h
   simp only[Bool.and_eq_true,Bool.not_eq_true',Nat.blt_eq]at hb
   obtain⟨⟨⟨⟨b1,b2⟩,b3⟩,b4⟩,b5⟩:=hb
   have hck:=ChkR.of b1
   have rowAt:=fun j b (hz:(ops.zip rows)[j]? =some b) (hd:dd.testBit j=false)=>by
    have :=eO hex hc hx hp j b hz (by rw[Nat.zero_add];exact hd)
    rw[Nat.zero_add]at this
    exact this
   have ini:∀w,St n S0 g0 w0 L H nb a g w→RI n S0 g0 w0 ops rows L H nb (fun _=>false) a w:=fun w hs=>⟨g,hs.weak (fun t d ht=>by rw[NX]at ht;exact ht) (fun k o hk=>by rw[NX]at hk;exact hk) fun k hk=> .inl hk⟩
   obtain⟨op,rp,ho,hrp,hzp⟩:=X0 hck b3
   obtain⟨e,he1,he2,he3⟩:∃e,rp=some e∧_∧_:=by
    have :=rowAt p (op,rp) hzp b4
    rw[if_pos rfl]at this
    exact this
   subst he1
   have dead:∀i,i<ops.length→dd.testBit i=true→Nat.blt p i=true:=fun i hi hd=>by
    have :=List.all_eq_true.1 b2 i (List.mem_range.2 hi)
    rw[hd]at this
    simpa using this
   refine KF (fun d a w=>RI n S0 g0 w0 ops rows L H nb d a w∧d p=false) ⟨ini _ hS,rfl⟩ (fun d d' a w hd hI=>⟨SD hck.len hd hI.1,by rw[←hd p b3];exact hI.2⟩) (fun i a w hi hI=> ?_) fun a w hI=>by have :=hI.2;cases this
   have ahead_lt:∀i j,Ck ops i j→j<i:=fun i j ha=>by
    induction ha with
    |edge h1 h2 h3=>exact hck.back _ _ h1 _ h2 h3
    |trans _ _ ih1 ih2=>omega
   have k1:Nat.blt i i=false:=by
    cases hb:Nat.blt i i with
    |false=>rfl
    |true=>rw[Nat.blt_eq]at hb;omega
   have k2:∀i' j,Ck ops i' j→Nat.blt i' i=true→Nat.blt j i=true:=fun i' j ha hi'=>by
    rw[Nat.blt_eq]at hi'⊢;have :=ahead_lt _ _ ha;omega
   have k3:∀j,Ck ops i j→Nat.blt j i=true:=fun j ha=>by rw[Nat.blt_eq];exact ahead_lt _ _ ha
   have hpi:¬p<i:=fun hlt=>by
    have :Nat.blt p i=true:=by rw[Nat.blt_eq];exact hlt
    have h2:Nat.blt p i=false:=hI.2
    rw[this]at h2;cases h2
   by_cases hip:i=p
   ·subst hip
    exact vV hck hzp k1 k2 k3 he2 he3 hend (Nat.le_of_ble_eq_true b5) hI.1
   ·have hnd : dd.testBit i = false := by
     cases hd:dd.testBit i with
     |false=>rfl
     |true=>
      have h1:=dead i hi hd
      simp only[Nat.blt_eq]at h1
      exact absurd h1 hpi
    refine wpOp_mono (fun a' w' hri=>⟨hri,?_⟩) (JE (d:=fun j=>Nat.blt j i) hck (fun b hb=>by have :=rowAt i b hb hnd;rwa [if_neg hip]at this) hi k1 k2 k3 hI.1)
    show(bif Nat.beq p i then true else Nat.blt p i)=false
    rw[Bc (fun e=>hip e.symm)]
    exact hI.2
end
def Abb (n:Nat) (ops:List Oper) (ex:Ex) (q:Option CR) (p dd:Nat) (L:DL) (H:Hp) (nb:Nat) (kL kH:List Nat):Option (List Prop×D×DL×Hp×Nat):=(Aci n ops ex q p dd L H nb).map fun x=>(x.1,x.2.1,A_ x.2.2.1 kL,IX x.2.2.2.1 kH,x.2.2.2.2)
section
variable {n nb:Nat} {g0:G} {S0:Nat→Prop} {w0:World} {L:DL} {H:Hp} {a:Act} {g:G} {w:World} {Q:Exit→Act→World→Prop}
theorem D9 {E : i8} (hZ : dA E.P E.Z) (C : List (Nat × Rx)) (hC : CsOk E.P C) (q : Option CR) (hq : ∀ r, q = some r → GZ E.P r.f r.c) (p dd : Nat) (ps : List (Nat × Rx) → List Prop) (d : D) (kL kH : List Nat) (Lo : DL) (Ho : Hp) (nb1 : Nat) {id : Nat} {ops : List Oper}
  (h:Abb n ops (cB E C) q p dd L H nb kL kH=some (ps C,d,Lo,Ho,nb1)) (hp:AllP (ps C)) (hS:St n S0 g0 w0 L H nb a g w) (hend:∀a g w v,St n S0 g0 w0 Lo Ho nb1 a g w→Sm g w d v→Q (.panic [{v,recovered:=false}]) a w):(Code.region id ops.toArray false).wp E.P Q a w:=by
 unfold Abb at h
 obtain⟨⟨x1,x2,x3,x4,x5⟩,h1,h2⟩:=Option.map_eq_some_iff.1 h
 simp only[Prod.mk.injEq]at h2
 obtain⟨rfl,rfl,rfl,rfl,rfl⟩:=h2
 exact Wb (G4 hZ hC) hq p dd h1 hp hS fun a g w v hS' hv=>hend a g w v (SS.weak hS' (fun t d ht=>(En ht).2) (fun k o hk=>I8 hk) fun _ h=>h) hv
theorem K5 {P:Program} (hD:Dfr.ds=([]:List Deferred)) {fn:Func} {c:Con} {v:Value} (hS:St n (c.foot g0) g0 w0 L H nb a g w) {d:D} (hv:Sm g w d v) (hd:d=c.res) (h1:DW H c.H1 true):bodyPost P fn (fun e w'=>∃v,e=pn v∧∃g',C8 c g0 w0 v g' w') (.panic [{v,recovered:=false}]) a w:=by
 have key:∀k o,DR c.H1 k=some o→AT H k=some o:=by
  have :∀(r:Hc),DW H r true→∀k o,DR r k=some o→AT H k=some o:=by
   intro r
   induction r with
   |nil=>intro _ k o h;cases h
   |cons p r ih=>
    obtain⟨s,u⟩:=p
    intro hh k o h
    simp only[DR]at h
    by_cases e:s=k
    ·subst e;simp at h;subst h;exact hh.1
    ·rw[Bc e]at h;exact ih hh.2 k o h
  exact this c.H1 h1
 exact⟨hS.defers.trans hD,v,rfl,g,hS.go,hd▸hv,hS.hs.sub key,fun k o hk b hb=>hS.fp k o (key k o hk) b hb⟩
end
end Go.Sx
namespace Go.Sx.Tryz
open Go.Mi Go.RowKit Go.Sx Go.Proofs
noncomputable section
def Vp:O:= .ob 133 (chain [vi 0,vi 0,vi 0,.v (.slice none 0 0)])
section
variable (x0:Nat)
def Oe (x1 x2:Nat) (x3:List Int):O:= .ob 133 (chain [vi ((x0:Nat):Int),vi ((x1:Nat):Int),vi ((x2:Nat):Int),lb x3])
def Od (x1 x2:Nat):O:= .ob 133 (chain [vi ((x0:Nat):Int),vi ((x1:Nat):Int),vi ((x2:Nat):Int),.v (.slice none 0 0)])
def Agf:O:= .ob 133 (chain [vi ((x0:Nat):Int),vi 0,vi 0,.v (.slice none 0 0)])
def Age (x1:Nat):O:= .ob 133 (chain [vi ((x0:Nat):Int),vi ((x1:Nat):Int),vi 0,.v (.slice none 0 0)])
end
theorem Jy {x:Int} (h:0≤x) (h2:¬1073741824<x):IntKind.wrap .i64 x=((x.toNat:Nat):Int):=by
 rw[El Ac Ac];omega
section
variable (xs:List Int)
def UX:Bool:=if FQ xs=true then(if(1073741824:Int)<((Ad xs).1)then false else(if FQ ((Ad xs).2)=true then(if(1073741824:Int)<((Ad ((Ad xs).2)).1)then false else(if FQ ((Ad ((Ad xs).2)).2)=true then(if(1073741824:Int)<((Ad ((Ad ((Ad xs).2)).2)).1)then false else(if Bg ((Ad ((Ad ((Ad xs).2)).2)).2) 1000=true then true else false))else false))else false))else false
def FL:Bool:=AJ (UX xs)
theorem G5:FL xs=UX xs:=Ag _
def MJ:Nat×Nat×Nat×Nat:=if FQ xs=true then(if(1073741824:Int)<((Ad xs).1)then(2,0,0,0)else(if FQ ((Ad xs).2)=true then(if(1073741824:Int)<((Ad ((Ad xs).2)).1)then(2,((((Ad xs).1)).toNat),0,0)else(if FQ ((Ad ((Ad xs).2)).2)=true then(if(1073741824:Int)<((Ad ((Ad ((Ad xs).2)).2)).1)then(2,((((Ad xs).1)).toNat),((((Ad ((Ad xs).2)).1)).toNat),0)else((BY ((Ad ((Ad ((Ad xs).2)).2)).2) 1000),((((Ad xs).1)).toNat),((((Ad ((Ad xs).2)).1)).toNat),((((Ad ((Ad ((Ad xs).2)).2)).1)).toNat)))else(2,((((Ad xs).1)).toNat),((((Ad ((Ad xs).2)).1)).toNat),0)))else(2,((((Ad xs).1)).toNat),0,0)))else(2,0,0,0)
def AF:Nat×Nat×Nat×Nat:=AJ (MJ xs)
theorem E7:AF xs=MJ xs:=Ag _
def cG:(List Int)×Nat×Nat×Nat×(List Int):=((((Ad ((Ad ((Ad ((Ad xs).2)).2)).2)).2).drop (((Ad ((Ad ((Ad ((Ad xs).2)).2)).2)).1).toNat)),((((Ad xs).1)).toNat),((((Ad ((Ad xs).2)).1)).toNat),((((Ad ((Ad ((Ad xs).2)).2)).1)).toNat),(((Ad ((Ad ((Ad ((Ad xs).2)).2)).2)).2).take (((Ad ((Ad ((Ad ((Ad xs).2)).2)).2)).1).toNat)))
def Bz:(List Int)×Nat×Nat×Nat×(List Int):=AJ (cG xs)
theorem cH:Bz xs=cG xs:=Ag _
def Af3 (z_:(List Int)×Nat×Nat×Nat×(List Int):=Bz xs):Con:=⟨[.cp 0 0,.cp 1 0],[(0,HK xs),(1,Vp)],.tu (chain []),[(0,HK (z_.1)),(1,Oe z_.2.1 z_.2.2.1 z_.2.2.2.1 (z_.2.2.2.2))]⟩
theorem qL (h:xs.length≤100000000000000) (hk:FL xs=true):ConOk Tryz.prog 141 (Af3 xs):=by
 refine cy 2 Tryz.func141 rfl Tryz.ntmps141 fun hg0 hS=>Il ?_
 have hnn:=(AW xs).2
 have hn2:=Dv xs
 have hn3:=CZ xs
 refine Dj [9] 2 hS fun hS=>Ab (Br (wp_loop_rounds 4 (Cd (n:=3) (Ae [] 2 hS fun hS=>Av (AO hS (BE (Ax [(0,AD 0 3)] [13,14] 2 hS fun hS=>Av ?_)))))))
 by_cases h1:FQ xs=true
 ·refine As [(1,AM (H7 xs AE h1) [(0,0)] [])] [15,16] 2 hS fun hS=>Ej (Ae [17] 2 hS fun hS=>AB ((1073741824:Int)<((Ad xs).1)) hS (fun h2=> ?_) (fun h2=> ?_))
  ·have hK:FL xs=false:=(G5 xs).trans ((if_pos h1).trans (if_pos h2))
   rw[hK]at hk
   cases hk
  ·refine BP (As [(2,RN (((((Ad xs).1)).toNat:Nat):Int) [IntKind.wrap .i64 (((Ad xs).1))=(((((Ad xs).1)).toNat:Nat):Int)] ⟨Jy (AW _).1 h2,trivial⟩)] [20,21,22,23] 2 hS fun hS=>BV (Dj [11,24] 2 hS fun hS=>Ab (Cd (n:=2) (Ae [] 2 hS fun hS=>Av (AO hS (BE (Ax [(0,AD 1 3)] [13,14] 2 hS fun hS=>Av ?_)))))))
   by_cases h3:FQ ((Ad xs).2)=true
   ·refine As [(1,AM (H7 ((Ad xs).2) AE h3) [(0,0)] [])] [15,16] 2 hS fun hS=>Ej (Ae [17] 2 hS fun hS=>AB ((1073741824:Int)<((Ad ((Ad xs).2)).1)) hS (fun h4=> ?_) (fun h4=> ?_))
    ·have hK:FL xs=false:=(G5 xs).trans ((if_pos h1).trans ((if_neg h2).trans ((if_pos h3).trans (if_pos h4))))
     rw[hK]at hk
     cases hk
    ·refine BP (As [(2,RN (((((Ad ((Ad xs).2)).1)).toNat:Nat):Int) [IntKind.wrap .i64 (((Ad ((Ad xs).2)).1))=(((((Ad ((Ad xs).2)).1)).toNat:Nat):Int)] ⟨Jy (AW _).1 h4,trivial⟩)] [20,21,22,23] 2 hS fun hS=>BV (Dj [11,24] 2 hS fun hS=>Ab (Cd (n:=1) (Ae [] 2 hS fun hS=>Av (AO hS (BE (Ax [(0,AD 2 3)] [13,14] 2 hS fun hS=>Av ?_)))))))
     by_cases h5:FQ ((Ad ((Ad xs).2)).2)=true
     ·refine As [(1,AM (H7 ((Ad ((Ad xs).2)).2) AE h5) [(0,0)] [])] [15,16] 2 hS fun hS=>Ej (Ae [17] 2 hS fun hS=>AB ((1073741824:Int)<((Ad ((Ad ((Ad xs).2)).2)).1)) hS (fun h6=> ?_) (fun h6=> ?_))
      ·have hK:FL xs=false:=(G5 xs).trans ((if_pos h1).trans ((if_neg h2).trans ((if_pos h3).trans ((if_neg h4).trans ((if_pos h5).trans (if_pos h6))))))
       rw[hK]at hk
       cases hk
      ·refine BP (As [(2,RN (((((Ad ((Ad ((Ad xs).2)).2)).1)).toNat:Nat):Int) [IntKind.wrap .i64 (((Ad ((Ad ((Ad xs).2)).2)).1))=(((((Ad ((Ad ((Ad xs).2)).2)).1)).toNat:Nat):Int)] ⟨Jy (AW _).1 h6,trivial⟩)] [20,21,22,23] 2 hS fun hS=>BV (Dj [11,24] 2 hS fun hS=>Ab (Cd (n:=0) (Ae [] 2 hS fun hS=>Av (Ai hS (CO ?_))))))
       by_cases h7:Bg ((Ad ((Ad ((Ad xs).2)).2)).2) 1000=true
       ·exact As [(1,AM (Gs ((Ad ((Ad ((Ad xs).2)).2)).2) 1000 AE Ac h7) [(0,0)] [])] [] 2 hS fun hS=>fqN (cH ..) hS
       ·have hK:FL xs=false:=(G5 xs).trans ((if_pos h1).trans ((if_neg h2).trans ((if_pos h3).trans ((if_neg h4).trans ((if_pos h5).trans ((if_neg h6).trans (if_neg h7)))))))
        rw[hK]at hk
        cases hk
     ·have hK:FL xs=false:=(G5 xs).trans ((if_pos h1).trans ((if_neg h2).trans ((if_pos h3).trans ((if_neg h4).trans (if_neg h5)))))
      rw[hK]at hk
      cases hk
   ·have hK:FL xs=false:=(G5 xs).trans ((if_pos h1).trans ((if_neg h2).trans (if_neg h3)))
    rw[hK]at hk
    cases hk
 ·have hK:FL xs=false:=(G5 xs).trans (if_neg h1)
  rw[hK]at hk
  cases hk
def cR:Con:=⟨[.cp 0 0,.cp 1 0],[(0,HK xs),(1,Vp)],.v (.iface 44 (.int .i64 (((AF xs).1:Nat):Int))),[(1,Od ((AF xs).2.1) ((AF xs).2.2.1) ((AF xs).2.2.2))]⟩
theorem qJ (h:xs.length≤100000000000000) (hk:FL xs=false):GZ Tryz.prog 141 (cR xs):=by
 refine Fq rfl (nb:=2) Tryz.func141 rfl rfl Tryz.ntmps141 rfl rfl rfl fun g0 w0 ac gs ws hg0 hS=> ?_
 have hS:=hS.sp
 refine Il ?_
 have hnn:=(AW xs).2
 have hn2:=Dv xs
 have hn3:=CZ xs
 refine Dj [9] 2 hS fun hS=>Ab (Br (wp_loop_rounds 4 (Cd (n:=3) (Ae [] 2 hS fun hS=>Av (AO hS (BE (Ax [(0,AD 0 3)] [13,14] 2 hS fun hS=>Av ?_)))))))
 by_cases h1:FQ xs=true
 ·refine As [(1,AM (H7 xs AE h1) [(0,0)] [])] [15,16] 2 hS fun hS=>Ej (Ae [17] 2 hS fun hS=>AB ((1073741824:Int)<((Ad xs).1)) hS (fun h2=> ?_) (fun h2=> ?_))
  ·refine D9 (E:=E0) hZ [] trivial none (fun r hr=>by cases hr) 1 0 (fun _=>[]) (.v (.iface 44 (.int .i64 2))) [] [1] [] [(1,some (Vp))] 2 (by kernel_rfl) trivial hS.st fun ac gs ws pv hS hpv=>AN (Bh (AN (AN (Bh (AN ?_)))))
   have hM:AF xs=(2,0,0,0):=(E7 xs).trans ((if_pos h1).trans (if_pos h2))
   exact K5 rfl hS hpv (by show _=(.v (.iface 44 (.int .i64 (((AF xs).1:Nat):Int))):D);rw[hM]<;>rfl) (by show DW _ [(1,Od ((AF xs).2.1) ((AF xs).2.2.1) ((AF xs).2.2.2))] true;rw[hM];first |(simp only[];exact⟨rfl,trivial⟩)|exact⟨rfl,trivial⟩)
  ·refine BP (As [(2,RN (((((Ad xs).1)).toNat:Nat):Int) [IntKind.wrap .i64 (((Ad xs).1))=(((((Ad xs).1)).toNat:Nat):Int)] ⟨Jy (AW _).1 h2,trivial⟩)] [20,21,22,23] 2 hS fun hS=>BV (Dj [11,24] 2 hS fun hS=>Ab (Cd (n:=2) (Ae [] 2 hS fun hS=>Av (AO hS (BE (Ax [(0,AD 1 3)] [13,14] 2 hS fun hS=>Av ?_)))))))
   by_cases h3:FQ ((Ad xs).2)=true
   ·refine As [(1,AM (H7 ((Ad xs).2) AE h3) [(0,0)] [])] [15,16] 2 hS fun hS=>Ej (Ae [17] 2 hS fun hS=>AB ((1073741824:Int)<((Ad ((Ad xs).2)).1)) hS (fun h4=> ?_) (fun h4=> ?_))
    ·refine D9 (E:=E0) hZ [] trivial none (fun r hr=>by cases hr) 1 0 (fun _=>[]) (.v (.iface 44 (.int .i64 2))) [] [1] [] [(1,some (Agf ((((Ad xs).1)).toNat)))] 2 (by kernel_rfl) trivial hS.st fun ac gs ws pv hS hpv=>AN (Bh (AN (AN (Bh (AN ?_)))))
     have hM:AF xs=(2,((((Ad xs).1)).toNat),0,0):=(E7 xs).trans ((if_pos h1).trans ((if_neg h2).trans ((if_pos h3).trans (if_pos h4))))
     exact K5 rfl hS hpv (by show _=(.v (.iface 44 (.int .i64 (((AF xs).1:Nat):Int))):D);rw[hM]<;>rfl) (by show DW _ [(1,Od ((AF xs).2.1) ((AF xs).2.2.1) ((AF xs).2.2.2))] true;rw[hM];first |(simp only[];exact⟨rfl,trivial⟩)|exact⟨rfl,trivial⟩)
    ·refine BP (As [(2,RN (((((Ad ((Ad xs).2)).1)).toNat:Nat):Int) [IntKind.wrap .i64 (((Ad ((Ad xs).2)).1))=(((((Ad ((Ad xs).2)).1)).toNat:Nat):Int)] ⟨Jy (AW _).1 h4,trivial⟩)] [20,21,22,23] 2 hS fun hS=>BV (Dj [11,24] 2 hS fun hS=>Ab (Cd (n:=1) (Ae [] 2 hS fun hS=>Av (AO hS (BE (Ax [(0,AD 2 3)] [13,14] 2 hS fun hS=>Av ?_)))))))
     by_cases h5:FQ ((Ad ((Ad xs).2)).2)=true
     ·refine As [(1,AM (H7 ((Ad ((Ad xs).2)).2) AE h5) [(0,0)] [])] [15,16] 2 hS fun hS=>Ej (Ae [17] 2 hS fun hS=>AB ((1073741824:Int)<((Ad ((Ad ((Ad xs).2)).2)).1)) hS (fun h6=> ?_) (fun h6=> ?_))
      ·refine D9 (E:=E0) hZ [] trivial none (fun r hr=>by cases hr) 1 0 (fun _=>[]) (.v (.iface 44 (.int .i64 2))) [] [1] [] [(1,some (Age ((((Ad xs).1)).toNat) ((((Ad ((Ad xs).2)).1)).toNat)))] 2 (by kernel_rfl) trivial hS.st fun ac gs ws pv hS hpv=>AN (Bh (AN (AN (Bh (AN ?_)))))
       have hM:AF xs=(2,((((Ad xs).1)).toNat),((((Ad ((Ad xs).2)).1)).toNat),0):=(E7 xs).trans ((if_pos h1).trans ((if_neg h2).trans ((if_pos h3).trans ((if_neg h4).trans ((if_pos h5).trans (if_pos h6))))))
       exact K5 rfl hS hpv (by show _=(.v (.iface 44 (.int .i64 (((AF xs).1:Nat):Int))):D);rw[hM]<;>rfl) (by show DW _ [(1,Od ((AF xs).2.1) ((AF xs).2.2.1) ((AF xs).2.2.2))] true;rw[hM];first |(simp only[];exact⟨rfl,trivial⟩)|exact⟨rfl,trivial⟩)
      ·refine BP (As [(2,RN (((((Ad ((Ad ((Ad xs).2)).2)).1)).toNat:Nat):Int) [IntKind.wrap .i64 (((Ad ((Ad ((Ad xs).2)).2)).1))=(((((Ad ((Ad ((Ad xs).2)).2)).1)).toNat:Nat):Int)] ⟨Jy (AW _).1 h6,trivial⟩)] [20,21,22,23] 2 hS fun hS=>BV (Dj [11,24] 2 hS fun hS=>Ab (Cd (n:=0) (Ae [] 2 hS fun hS=>Av (Ai hS (CO ?_))))))
       by_cases h7:Bg ((Ad ((Ad ((Ad xs).2)).2)).2) 1000=true
       ·refine As [(1,AM (Gs ((Ad ((Ad ((Ad xs).2)).2)).2) 1000 AE Ac h7) [(0,0)] [])] [] 2 hS fun hS=> ?_
        have hK:FL xs=true:=(G5 xs).trans ((if_pos h1).trans ((if_neg h2).trans ((if_pos h3).trans ((if_neg h4).trans ((if_pos h5).trans ((if_neg h6).trans (if_pos h7)))))))
        rw[hK]at hk
        cases hk
       ·refine D9 (E:=E0) hZ [] trivial (some ⟨102,(N6 ((Ad ((Ad ((Ad xs).2)).2)).2) 1000),[(0,0)],[]⟩) (fun r hr=>by cases hr;exact T_ ((Ad ((Ad ((Ad xs).2)).2)).2) 1000 AE Ac (Eu h7)) 1 12 (fun _=>[nd [.cp 0 0,vi 1000] [some (HK ((Ad ((Ad ((Ad xs).2)).2)).2))]]) (.v (.iface 44 (.int .i64 ((BY ((Ad ((Ad ((Ad xs).2)).2)).2) 1000:Nat):Int)))) [] [1] [] [(1,some (Od ((((Ad xs).1)).toNat) ((((Ad ((Ad xs).2)).1)).toNat) ((((Ad ((Ad ((Ad xs).2)).2)).1)).toNat)))] 2 (by kernel_rfl) ⟨rfl,trivial⟩ hS.st fun ac gs ws pv hS hpv=> ?_
        have hM:AF xs=((BY ((Ad ((Ad ((Ad xs).2)).2)).2) 1000),((((Ad xs).1)).toNat),((((Ad ((Ad xs).2)).1)).toNat),((((Ad ((Ad ((Ad xs).2)).2)).1)).toNat)):=(E7 xs).trans ((if_pos h1).trans ((if_neg h2).trans ((if_pos h3).trans ((if_neg h4).trans ((if_pos h5).trans (if_neg h6))))))
        exact K5 rfl hS hpv (by show _=(.v (.iface 44 (.int .i64 (((AF xs).1:Nat):Int))):D);rw[hM]<;>rfl) (by show DW _ [(1,Od ((AF xs).2.1) ((AF xs).2.2.1) ((AF xs).2.2.2))] true;rw[hM];first |(simp only[];exact⟨rfl,trivial⟩)|exact⟨rfl,trivial⟩)
     ·refine D9 (E:=E0) hZ [] trivial (some ⟨126,(MN ((Ad ((Ad xs).2)).2)),[(0,0)],[]⟩) (fun r hr=>by cases hr;exact Md ((Ad ((Ad xs).2)).2) AE (Eu h5)) 1 4 (fun _=>[nd [.cp 0 0] [some (HK ((Ad ((Ad xs).2)).2))]]) (.v (.iface 44 (.int .i64 2))) [] [1] [] [(1,some (Age ((((Ad xs).1)).toNat) ((((Ad ((Ad xs).2)).1)).toNat)))] 2 (by kernel_rfl) ⟨rfl,trivial⟩ hS.st fun ac gs ws pv hS hpv=>AN (Bh (AN (AN (Bh (AN ?_)))))
      have hM:AF xs=(2,((((Ad xs).1)).toNat),((((Ad ((Ad xs).2)).1)).toNat),0):=(E7 xs).trans ((if_pos h1).trans ((if_neg h2).trans ((if_pos h3).trans ((if_neg h4).trans (if_neg h5)))))
      exact K5 rfl hS hpv (by show _=(.v (.iface 44 (.int .i64 (((AF xs).1:Nat):Int))):D);rw[hM]<;>rfl) (by show DW _ [(1,Od ((AF xs).2.1) ((AF xs).2.2.1) ((AF xs).2.2.2))] true;rw[hM];first |(simp only[];exact⟨rfl,trivial⟩)|exact⟨rfl,trivial⟩)
   ·refine D9 (E:=E0) hZ [] trivial (some ⟨126,(MN ((Ad xs).2)),[(0,0)],[]⟩) (fun r hr=>by cases hr;exact Md ((Ad xs).2) AE (Eu h3)) 1 4 (fun _=>[nd [.cp 0 0] [some (HK ((Ad xs).2))]]) (.v (.iface 44 (.int .i64 2))) [] [1] [] [(1,some (Agf ((((Ad xs).1)).toNat)))] 2 (by kernel_rfl) ⟨rfl,trivial⟩ hS.st fun ac gs ws pv hS hpv=>AN (Bh (AN (AN (Bh (AN ?_)))))
    have hM:AF xs=(2,((((Ad xs).1)).toNat),0,0):=(E7 xs).trans ((if_pos h1).trans ((if_neg h2).trans (if_neg h3)))
    exact K5 rfl hS hpv (by show _=(.v (.iface 44 (.int .i64 (((AF xs).1:Nat):Int))):D);rw[hM]<;>rfl) (by show DW _ [(1,Od ((AF xs).2.1) ((AF xs).2.2.1) ((AF xs).2.2.2))] true;rw[hM];first |(simp only[];exact⟨rfl,trivial⟩)|exact⟨rfl,trivial⟩)
 ·refine D9 (E:=E0) hZ [] trivial (some ⟨126,(MN xs),[(0,0)],[]⟩) (fun r hr=>by cases hr;exact Md xs AE (Eu h1)) 1 4 (fun _=>[nd [.cp 0 0] [some (HK xs)]]) (.v (.iface 44 (.int .i64 2))) [] [1] [] [(1,some (Vp))] 2 (by kernel_rfl) ⟨rfl,trivial⟩ hS.st fun ac gs ws pv hS hpv=>AN (Bh (AN (AN (Bh (AN ?_)))))
  have hM:AF xs=(2,0,0,0):=(E7 xs).trans (if_neg h1)
  exact K5 rfl hS hpv (by show _=(.v (.iface 44 (.int .i64 (((AF xs).1:Nat):Int))):D);rw[hM]<;>rfl) (by show DW _ [(1,Od ((AF xs).2.1) ((AF xs).2.2.1) ((AF xs).2.2.2))] true;rw[hM];first |(simp only[];exact⟨rfl,trivial⟩)|exact⟨rfl,trivial⟩)
theorem JW:(Bz xs).1.length≤xs.length:=by
 have h3:=CZ xs
 have h4:=(AW (Ad (Ad (Ad xs).2).2).2).2
 rw[cH]
 show(List.drop _ _).length≤_
 rw[List.length_drop]
 omega
theorem Fo:0<(AF xs).1:=by
 rw[E7];unfold MJ
 repeat' (first |exact(by decide:(0:Nat)<2)|exact G1 _ _|split)
def T3:Bool:=if FL xs=true then(if Fc ((Bz xs).1)=true then true else false)else false
def J_:Bool:=AJ (T3 xs)
theorem P8:J_ xs=T3 xs:=Ag _
def LP:Nat×Nat×Nat×Nat×(List Int):=if FL xs=true then(2,((Bz xs).2.1),((Bz xs).2.2.1),((Bz xs).2.2.2.1),(Bz xs).2.2.2.2)else(((AF xs).1),((AF xs).2.1),((AF xs).2.2.1),((AF xs).2.2.2),[])
def Bq:Nat×Nat×Nat×Nat×(List Int):=AJ (LP xs)
theorem LQ:Bq xs=LP xs:=Ag _
def l7:Nat×Nat×Nat×(List Int):=(((Bz xs).2.1),((Bz xs).2.2.1),((Bz xs).2.2.2.1),(Bz xs).2.2.2.2)
def B1:Nat×Nat×Nat×(List Int):=AJ (l7 xs)
theorem mA:B1 xs=l7 xs:=Ag _
def AfN (z_:Nat×Nat×Nat×(List Int):=B1 xs):Con:=⟨[lb xs,.fn 141 (chain []) (chain [.cp 0 0])],[(0,Vp)],vi 0,[(0,Oe z_.1 z_.2.1 z_.2.2.1 (z_.2.2.2))]⟩
theorem Ab4 (h:xs.length≤100000000000000) (hk:J_ xs=true):ConOk Tryz.prog 59 (AfN xs):=by
 refine Fs rfl (nb:=1) Tryz.func59 rfl rfl Tryz.ntmps59 rfl rfl rfl fun g0 w0 ac gs ws hg0 hS=> ?_
 have A7:xs.length≤9223372036854775807:=hS.len 0 rfl
 have hS:=hS.sp
 refine Ae [] 2 hS fun hS=>Av ?_
 have hS:=hS.rv [(0,lb xs),(1,.fn 141 (chain []) (chain [.cp 0 0])),(4,.cp 1 0)] [(0,some (Vp)),(1,some (EG))]
 refine JV rfl hS (cs:=[.cp 1 0]) rfl rfl rfl fun D vds ac hD hcv hB hS=> ?_
 have hS:=hS.sp
 refine Ab (Ax [(1,AM (Me xs AE) [] [(0,2)])] [] 3 hS fun hS=>Av (Ae [] 3 hS fun hS=>AO hS ?_))
 have hz:=Fo xs
 by_cases h1:FL xs=true
 ·have hz:=Fo xs
  refine As [(2,AM (qL xs AE h1) [(0,2),(1,0)] [])] [] 3 hS fun hS=>Ej ?_
  have hpl:=JW xs
  by_cases h2:Fc ((Bz xs).1)=true
  ·have hpl:=JW xs
   refine As [(1,AM (Ox ((Bz xs).1) h2) [(0,2)] [])] [] 3 hS fun hS=>Ab (Ae [] 3 hS fun hS=>AR ?_)
   have hM:B1 xs=(((Bz xs).2.1),((Bz xs).2.2.1),((Bz xs).2.2.2.1),(Bz xs).2.2.2.2):=mA xs
   have hS:=hS.rv [(4,.cp 1 0)] [(0,some (Oe ((Bz xs).2.1) ((Bz xs).2.2.1) ((Bz xs).2.2.2.1) ((Bz xs).2.2.2.2))),(1,some (EG))]
   exact QO (.inr rfl) hS hD (Gz ⟨88,(OT),[(0,1)],[]⟩ [(1,some (EG)),(0,some (Oe ((Bz xs).2.1) ((Bz xs).2.2.1) ((Bz xs).2.2.2.1) ((Bz xs).2.2.2.2))),(1,some (EG))] hB hS hcv (show FrameMode.returning≠ .run from nofun) rfl rfl rfl (P2) rfl ⟨rfl,trivial⟩ rfl (ds:=[vi 0]) (by kernel_rfl) rfl (by show DW _ [(0,Oe ((B1 xs).1) ((B1 xs).2.1) ((B1 xs).2.2.1) ((B1 xs).2.2.2))] true;first |exact⟨rfl,trivial⟩|(rw[hM];first |(simp only[];exact⟨rfl,trivial⟩)|exact⟨rfl,trivial⟩)))
  ·have hpl:=JW xs
   have hK:J_ xs=false:=(P8 xs).trans ((if_pos h1).trans (if_neg h2))
   rw[hK]at hk
   cases hk
 ·have hz:=Fo xs
  have hK:J_ xs=false:=(P8 xs).trans (if_neg h1)
  rw[hK]at hk
  cases hk
def z8:Con:=⟨[lb xs,.fn 141 (chain []) (chain [.cp 0 0])],[(0,Vp)],vi (((Bq xs).1:Nat):Int),[(0,Oe ((Bq xs).2.1) ((Bq xs).2.2.1) ((Bq xs).2.2.2.1) ((Bq xs).2.2.2.2))]⟩
theorem l8 (h:xs.length≤100000000000000) (hk:J_ xs=false):ConOk Tryz.prog 59 (z8 xs):=by
 refine Fs rfl (nb:=1) Tryz.func59 rfl rfl Tryz.ntmps59 rfl rfl rfl fun g0 w0 ac gs ws hg0 hS=> ?_
 have A7:xs.length≤9223372036854775807:=hS.len 0 rfl
 have hS:=hS.sp
 refine Ae [] 2 hS fun hS=>Av ?_
 have hS:=hS.rv [(0,lb xs),(1,.fn 141 (chain []) (chain [.cp 0 0])),(4,.cp 1 0)] [(0,some (Vp)),(1,some (EG))]
 refine JV rfl hS (cs:=[.cp 1 0]) rfl rfl rfl fun D vds ac hD hcv hB hS=> ?_
 have hS:=hS.sp
 refine Ab (Ax [(1,AM (Me xs AE) [] [(0,2)])] [] 3 hS fun hS=>Av (Ae [] 3 hS fun hS=>AO hS ?_))
 have hz:=Fo xs
 by_cases h1:FL xs=true
 ·have hz:=Fo xs
  refine As [(2,AM (qL xs AE h1) [(0,2),(1,0)] [])] [] 3 hS fun hS=>Ej ?_
  have hpl:=JW xs
  by_cases h2:Fc ((Bz xs).1)=true
  ·have hpl:=JW xs
   refine As [(1,AM (Ox ((Bz xs).1) h2) [(0,2)] [])] [] 3 hS fun hS=>Ab (Ae [] 3 hS fun hS=>AR ?_)
   have hK:J_ xs=true:=(P8 xs).trans ((if_pos h1).trans (if_pos h2))
   rw[hK]at hk
   cases hk
  ·have hpl:=JW xs
   refine D9 (E:=E0) hZ [] trivial (some ⟨90,(XE ((Bz xs).1)),[(0,2)],[]⟩) (fun r hr=>by cases hr;exact eC ((Bz xs).1) (Eu h2)) 1 0 (fun _=>[nd [.cp 2 0] [some (HK ((Bz xs).1))]]) (.v (.iface 44 (.int .i64 2))) [4] [0,1] [(4,.cp 1 0)] [(0,some (Oe ((Bz xs).2.1) ((Bz xs).2.2.1) ((Bz xs).2.2.2.1) ((Bz xs).2.2.2.2))),(1,some (EG))] 3 (by kernel_rfl) ⟨rfl,trivial⟩ hS.st fun ac gs ws pv hS hpv=>AN ?_
   obtain rfl:=hpv.v_of
   have hM:Bq xs=(2,((Bz xs).2.1),((Bz xs).2.2.1),((Bz xs).2.2.2.1),(Bz xs).2.2.2.2):=(LQ xs).trans (if_pos h1)
   exact o4 hS hD (Gz ⟨88,(Va 2),[(0,1)],[]⟩ [(1,some (.ob 44 (chain [vi 2]))),(0,some (Oe ((Bz xs).2.1) ((Bz xs).2.2.1) ((Bz xs).2.2.2.1) ((Bz xs).2.2.2.2))),(1,some (EG))] hB hS hcv (show FrameMode.panicking _≠ .run from nofun) rfl rfl rfl (We 2 Ac) rfl ⟨rfl,trivial⟩ rfl (ds:=[vi 2]) (by kernel_rfl) (by show weak _ (vi (((Bq xs).1:Nat):Int))=(vi (((Bq xs).1:Nat):Int));first |rfl|(rw[hM];first |(simp only[];rfl)|(simp only[];done)|rfl)) (by show DW _ [(0,Oe ((Bq xs).2.1) ((Bq xs).2.2.1) ((Bq xs).2.2.2.1) ((Bq xs).2.2.2.2))] true;first |exact⟨rfl,trivial⟩|(rw[hM];first |(simp only[];exact⟨rfl,trivial⟩)|exact⟨rfl,trivial⟩)))
 ·have hz:=Fo xs
  refine D9 (E:=E0) hZ [] trivial (some ⟨141,(cR xs),[(0,2),(1,0)],[]⟩) (fun r hr=>by cases hr;exact qJ xs AE (Eu h1)) 2 0 (fun _=>[nd [.cp 2 0,.cp 0 0] [some (HK xs),some (Vp)]]) (.v (.iface 44 (.int .i64 (((AF xs).1:Nat):Int)))) [4] [0,1] [(4,.cp 1 0)] [(0,some (Od ((AF xs).2.1) ((AF xs).2.2.1) ((AF xs).2.2.2))),(1,some (EG))] 3 (by kernel_rfl) ⟨rfl,trivial⟩ hS.st fun ac gs ws pv hS hpv=>AN ?_
  have hS:=hS.wko 0 [.top,.top,.top,lb []] rfl (H':=[(0,some (Oe ((AF xs).2.1) ((AF xs).2.2.1) ((AF xs).2.2.2) [])),(0,some (Od ((AF xs).2.1) ((AF xs).2.2.1) ((AF xs).2.2.2))),(1,some (EG))]) (by kernel_rfl)
  obtain rfl:=hpv.v_of
  have hM:Bq xs=(((AF xs).1),((AF xs).2.1),((AF xs).2.2.1),((AF xs).2.2.2),[]):=(LQ xs).trans (if_neg h1)
  exact o4 hS hD (Gz ⟨88,(Va ((AF xs).1)),[(0,1)],[]⟩ [(1,some (.ob 44 (chain [vi ((((AF xs).1):Nat):Int)]))),(0,some (Oe ((AF xs).2.1) ((AF xs).2.2.1) ((AF xs).2.2.2) [])),(0,some (Od ((AF xs).2.1) ((AF xs).2.2.1) ((AF xs).2.2.2))),(1,some (EG))] hB hS hcv (show FrameMode.panicking _≠ .run from nofun) rfl rfl rfl (We ((AF xs).1) Ac) rfl ⟨rfl,trivial⟩ rfl (ds:=[vi ((((AF xs).1):Nat):Int)]) (by kernel_rfl) (by show weak _ (vi (((Bq xs).1:Nat):Int))=(vi (((Bq xs).1:Nat):Int));first |rfl|(rw[hM];first |(simp only[];rfl)|(simp only[];done)|rfl)) (by show DW _ [(0,Oe ((Bq xs).2.1) ((Bq xs).2.2.1) ((Bq xs).2.2.2.1) ((Bq xs).2.2.2.2))] true;first |exact⟨rfl,trivial⟩|(rw[hM];first |(simp only[];exact⟨rfl,trivial⟩)|exact⟨rfl,trivial⟩)))
end
theorem Ua {ys:List Int} {m:Nat} (h:Bg ys m=true):(Ad ys).1.toNat≤m:=by
 rw[Fe]at h;unfold Gt at h
 split at h
 ·rename_i h1
  rw[Hh]at h1;unfold IM at h1
  split at h1
  ·split at h1
   ·cases h1
   ·omega
  ·cases h1
 ·cases h
def pcB (i a c:Nat) (d:List Int):Prop:=(i≤100000000000∧a≤100000000000∧c≤100000000000)∧d.length≤100000
theorem qM {xs:List Int} (hk:FL xs=true):pcB (Bz xs).2.1 (Bz xs).2.2.1 (Bz xs).2.2.2.1 (Bz xs).2.2.2.2:=by
 rw[cH];rw[G5]at hk;unfold UX at hk;unfold cG
 split at hk
 ·split at hk
  ·cases hk
  ·split at hk
   ·split at hk
    ·cases hk
    ·split at hk
     ·split at hk
      ·cases hk
      ·split at hk
       ·rename_i h7
        have h8:=Ua h7
        refine⟨⟨?_,?_,?_⟩,?_⟩
        ·show Int.toNat _≤_;omega
        ·show Int.toNat _≤_;omega
        ·show Int.toNat _≤_;omega
        ·show(List.take _ _).length≤_
         rw[List.length_take];omega
       ·cases hk
     ·cases hk
   ·cases hk
 ·cases hk
theorem qK (xs:List Int):pcB (AF xs).2.1 (AF xs).2.2.1 (AF xs).2.2.2 []:=by
 rw[E7];unfold MJ
 have z:(0:Nat)≤100000000000:=by decide
 have f:∀y:Int,¬1073741824<y→y.toNat≤100000000000:=fun y hy=>by omega
 repeat' (first |exact⟨⟨z,z,z⟩,by decide⟩|exact⟨⟨f _ BF,z,z⟩,by decide⟩|exact⟨⟨f _ BF,f _ BF,z⟩,by decide⟩|exact⟨⟨f _ BF,f _ BF,f _ BF⟩,by decide⟩|split)
theorem Ab5 {xs:List Int} (hk:J_ xs=true):pcB (B1 xs).1 (B1 xs).2.1 (B1 xs).2.2.1 (B1 xs).2.2.2:=by
 rw[mA];rw[P8]at hk;unfold T3 at hk
 split at hk
 ·rename_i h;exact qM h
 ·cases hk
section
variable (xs:List Int)
theorem l9:pcB (Bq xs).2.1 (Bq xs).2.2.1 (Bq xs).2.2.2.1 (Bq xs).2.2.2.2:=by
 rw[LQ];unfold LP
 split
 ·rename_i h;exact qM h
 ·exact qK xs
theorem eE:0<(Bq xs).1:=by
 rw[LQ];unfold LP
 split
 ·exact(by decide:(0:Nat)<2)
 ·exact Fo xs
def Q8:Nat×Nat×Nat×(List Int)×Nat:=if J_ xs=true then(if(((FK ((B1 xs).1) ((B1 xs).2.1) ((B1 xs).2.2.1) ((B1 xs).2.2.2)).2:Nat):Int)=0 then(if((FK ((B1 xs).1) ((B1 xs).2.1) ((B1 xs).2.2.1) ((B1 xs).2.2.2)).1)=xs then(((B1 xs).1),((B1 xs).2.1),((B1 xs).2.2.1),(B1 xs).2.2.2,0)else(0,0,0,[],2))else(0,0,0,[],2))else(0,0,0,[],2)
def Q9:Nat×Nat×Nat×(List Int)×Nat:=AJ (Q8 xs)
theorem Jl:Q9 xs=Q8 xs:=Ag _
def XH (z_:Nat×Nat×Nat×(List Int)×Nat:=Q9 xs):Con:=⟨[lb xs],[],.tu (chain [.ag (chain [vi ((z_.1:Nat):Int),vi ((z_.2.1:Nat):Int),vi ((z_.2.2.1:Nat):Int),lb (z_.2.2.2.1)]),vi ((z_.2.2.2.2:Nat):Int)]),[]⟩
theorem f5 (h:xs.length≤100000000000000):ConOk Tryz.prog 108 (XH xs):=by
 refine cy 0 Tryz.func108 rfl Tryz.ntmps108 fun hg0 hS=> ?_
 have A7:xs.length≤9223372036854775807:=hS.len 0 rfl
 refine Ae [] 1 hS fun hS=>Ae [] 2 hS fun hS=>Av ?_
 by_cases h1:J_ xs=true
 ·refine As [(2,AM (Ab4 xs AE h1) [(0,1)] [])] [] 2 hS fun hS=> ?_
  have hpb:=Ab5 h1
  have hpc:=hpb.1
  have hpd:=hpb.2
  refine Ab (Ax [(1,AP (NE ((B1 xs).1) ((B1 xs).2.1) ((B1 xs).2.2.1) ((B1 xs).2.2.2) Ac AE))] [] 2 hS fun hS=>Il ?_)
  by_cases h2:(((FK ((B1 xs).1) ((B1 xs).2.1) ((B1 xs).2.2.1) ((B1 xs).2.2.2)).2:Nat):Int)=0
  ·refine As [(4,GH h2),(9,AP (Er ((FK ((B1 xs).1) ((B1 xs).2.1) ((B1 xs).2.2.1) ((B1 xs).2.2.2)).1) xs))] [] 2 hS fun hS=>Ab (Iz (((FK ((B1 xs).1) ((B1 xs).2.1) ((B1 xs).2.2.1) ((B1 xs).2.2.2)).1)=xs) hS (fun h3=> ?_) (fun h3=> ?_))
   ·refine Ae [] 2 hS fun hS=>AR (Af ?_)
    have hS:=hS.wko 0 [.top,.top,.top,lb []]
    exact Bi (.trans (Jl ..) ((if_pos h1).trans ((if_pos h2).trans (if_neg h3)))) hS
   ·exact BP (Ae [] 2 hS fun hS=>AR (Bi (.trans (Jl ..) ((if_pos h1).trans ((if_pos h2).trans (if_pos h3)))) hS))
  ·refine As [(4,Rnt h2)] [] 2 hS fun hS=>Ab (AO hS (Ae [] 2 hS fun hS=>AR (Af ?_)))
   have hS:=hS.wko 0 [.top,.top,.top,lb []]
   exact Bi (.trans (Jl ..) ((if_pos h1).trans (if_neg h2))) hS
 ·refine As [(2,AM (l8 xs AE (Eu h1)) [(0,1)] [])] [] 2 hS fun hS=> ?_
  have hpb:=l9 xs
  have hpc:=hpb.1
  have hpd:=hpb.2
  have hpp:=eE xs
  have hp0:¬(((Bq xs).1:Nat):Int)=0:=by omega
  refine Ab (Ax [(1,AP (NE ((Bq xs).2.1) ((Bq xs).2.2.1) ((Bq xs).2.2.2.1) ((Bq xs).2.2.2.2) Ac AE))] [] 2 hS fun hS=>Av (Ax [(1,Rnt hp0)] [] 2 hS fun hS=>AO hS (Ae [] 2 hS fun hS=>AR (Af ?_))))
  have hS:=hS.wko 0 [.top,.top,.top,lb []]
  exact Bi (.trans (Jl ..) (if_neg h1)) hS
end
end
end Go.Sx.Tryz
namespace Go.Sx.Tryz
open Go.Mi Go.RowKit Go.Sx Go.Proofs
noncomputable section
section
variable (x0:Nat)
def Aeu:O:= .ob 126 (chain [vi ((x0:Nat):Int),vi 1,vi 0,vi 0,.v (.slice none 0 0),.v (.slice none 0 0),.v (.pointer none),.v (.slice none 0 0)])
def Aet (x1 x2:Nat):O:= .ob 187 (chain [vi ((x0:Nat):Int),vi ((x1:Nat):Int),vi 1088,.sk x2])
def Aes:O:= .ob 126 (chain [vi ((x0:Nat):Int),vi 2,vi 0,vi 0,.v (.slice none 0 0),.v (.slice none 0 0),.v (.pointer none),.v (.slice none 0 0)])
def Aer (x1 x2:Nat):O:= .ob 187 (chain [vi ((x0:Nat):Int),vi ((x1:Nat):Int),vi 1184,.sk x2])
end
theorem gA {ln sz:Nat} (h:1≤ln∧ln≤10000) (hz:1≤sz):1≤(ln+sz-1)/sz∧(ln+sz-1)/sz≤10000:=
 ⟨(Nat.le_div_iff_mul_le Ac).2 Ac,Nat.le_trans (Zc hz) h.2⟩
section
variable (sz ep:Nat)
def s5:Con:=⟨[.cp 0 0,vi (ep:Int)],[(0,Aeu sz)],.cp 1 0,[(0,Aeu sz),(1,Aet ((2*ep)+1) sz 2),(2,.sl 22 [.os (.int .u8)] (List.replicate (((1088+sz)-1)/sz) none))]⟩
theorem f4 (hz:1≤sz∧sz≤1000) (he:ep≤500000000):ConOk Tryz.prog 114 (s5 sz ep):=by
 refine cy 1 Tryz.func114 rfl Tryz.ntmps114 fun hg0 hS=>ES [] 1 hS fun hS=>Hb [(1,HJ 2 ep (2*ep))] [] 1 hS fun hS=>Av (ES [] 1 hS fun hS=>AO hS (RJ [(1,HJ 2 ep (2*ep)),(2,Ek (2*ep) 1 ((2*ep)+1))] [] 1 hS fun hS=>Ej ?_))
 have hcb:=gA (ln:=1088) (sz:=sz) (by decide) hz.1
 exact RJ [(6,Ek 1088 sz (1088+sz)),(7,G9 (1088+sz) 1 ((1088+sz)-1)),(12,Vy ((1088+sz)-1) sz),(18,AM (MR ((2*ep)+1) (((1088+sz)-1)/sz) sz 1088 Ac Ac) [] [(0,1),(1,2)])] [] 3 hS fun hS=>Ab (ES [] 3 hS fun hS=>AR (BW hS))
def s4:Con:=⟨[.cp 0 0,vi (ep:Int)],[(0,Aes sz)],.cp 1 0,[(0,Aes sz),(1,Aer (2*ep) sz 2),(2,.sl 22 [.os (.int .u8)] (List.replicate (((1184+sz)-1)/sz) none))]⟩
theorem fZ (hz:1≤sz∧sz≤1000) (he:ep≤500000000):ConOk Tryz.prog 114 (s4 sz ep):=by
 refine cy 1 Tryz.func114 rfl Tryz.ntmps114 fun hg0 hS=>ES [] 1 hS fun hS=>Hb [(1,HJ 2 ep (2*ep))] [] 1 hS fun hS=>Av (ES [] 1 hS fun hS=>Ai hS (DU ?_))
 have hcb:=gA (ln:=1184) (sz:=sz) (by decide) hz.1
 exact RJ [(6,Ek 1184 sz (1184+sz)),(7,G9 (1184+sz) 1 ((1184+sz)-1)),(12,Vy ((1184+sz)-1) sz),(18,AM (MR (2*ep) (((1184+sz)-1)/sz) sz 1184 Ac Ac) [] [(0,1),(1,2)])] [] 3 hS fun hS=>Ab (ES [] 3 hS fun hS=>AR (BW hS))
def sW:Con:=⟨[.cp 0 0,vi (ep:Int)],[(0,Aeu sz)],.cp 0 0,[(0,.ob 126 (chain [vi (sz:Int),vi 1,vi (ep:Int),vi 0,.v (.slice none 0 0),.v (.slice none 0 0),.cp 1 0,.v (.slice none 0 0)])),(1,Aet ((2*ep)+1) sz 2),(2,.sl 22 [.os (.int .u8)] (List.replicate (((1088+sz)-1)/sz) none))]⟩
theorem fJ (hz:1≤sz∧sz≤1000) (he:ep≤500000000):ConOk Tryz.prog 77 (sW sz ep):=by
 exact cy 1 Tryz.func77 rfl Tryz.ntmps77 fun hg0 hS=>ES [] 1 hS fun hS=>Hb [(8,AM (f4 sz ep Ac Ac) [(0,0)] [(1,1),(2,2)])] [] 3 hS fun hS=>ES [] 3 hS fun hS=>AR (BW hS)
def sT:Con:=⟨[.cp 0 0,vi (ep:Int)],[(0,Aes sz)],.cp 0 0,[(0,.ob 126 (chain [vi (sz:Int),vi 2,vi (ep:Int),vi 0,.v (.slice none 0 0),.v (.slice none 0 0),.cp 1 0,.v (.slice none 0 0)])),(1,Aer (2*ep) sz 2),(2,.sl 22 [.os (.int .u8)] (List.replicate (((1184+sz)-1)/sz) none))]⟩
theorem fF (hz:1≤sz∧sz≤1000) (he:ep≤500000000):ConOk Tryz.prog 77 (sT sz ep):=by
 exact cy 1 Tryz.func77 rfl Tryz.ntmps77 fun hg0 hS=>ES [] 1 hS fun hS=>Hb [(8,AM (fZ sz ep Ac Ac) [(0,0)] [(1,1),(2,2)])] [] 3 hS fun hS=>ES [] 3 hS fun hS=>AR (BW hS)
end
section
variable (sz:Nat)
def AdU:Con:=⟨[.v (.bool true),vi (sz:Int)],[],.tu (chain [.cp 0 0,vi 0]),[(0,.ob 126 (chain [vi (sz:Int),vi 1,vi 0,vi 0,.v (.slice none 0 0),.v (.slice none 0 0),.cp 1 0,.v (.slice none 0 0)])),(1,Aet ((2*0)+1) sz 2),(2,.sl 22 [.os (.int .u8)] (List.replicate (((1088+sz)-1)/sz) none))]⟩
theorem wX (hz:10≤sz∧sz≤1000):ConOk Tryz.prog 44 (AdU sz):=by
 refine cy 0 Tryz.func44 rfl Tryz.ntmps44 fun hg0 hS=> ?_
 have hs1:¬(sz:Int)<10:=Ac
 have hs2:¬(1000:Int)<(sz:Int):=Ac
 exact ES [] 0 hS fun hS=>Av (Hb [(1,DC hs1),(4,DC hs2)] [] 0 hS fun hS=>Ai hS (BP (ES [] 1 hS fun hS=>Av (ES [] 1 hS fun hS=>AO hS (ugQ [] 1 hS fun hS=>Ab (Hb [(1,AM (fJ sz 0 Ac Ac) [(0,0)] [(1,1),(2,2)])] [] 3 hS fun hS=>AR (BW hS)))))))
def AdT:Con:=⟨[.v (.bool false),vi (sz:Int)],[],.tu (chain [.cp 0 0,vi 0]),[(0,.ob 126 (chain [vi (sz:Int),vi 2,vi 0,vi 0,.v (.slice none 0 0),.v (.slice none 0 0),.cp 1 0,.v (.slice none 0 0)])),(1,Aer (2*0) sz 2),(2,.sl 22 [.os (.int .u8)] (List.replicate (((1184+sz)-1)/sz) none))]⟩
theorem wW (hz:10≤sz∧sz≤1000):ConOk Tryz.prog 44 (AdT sz):=by
 refine cy 0 Tryz.func44 rfl Tryz.ntmps44 fun hg0 hS=> ?_
 have hs1:¬(sz:Int)<10:=Ac
 have hs2:¬(1000:Int)<(sz:Int):=Ac
 exact ES [] 0 hS fun hS=>Av (Hb [(1,DC hs1),(4,DC hs2)] [] 0 hS fun hS=>Ai hS (BP (ES [] 1 hS fun hS=>Av (ES [] 1 hS fun hS=>Ai hS (BP (Hb [(1,AM (fF sz 0 Ac Ac) [(0,0)] [(1,1),(2,2)])] [] 3 hS fun hS=>AR (BW hS)))))))
end
theorem Abo {l:List PcR} {j:Nat} {x:PcR} (z:PcR) (h:l[j]? =some x):l.getD j z=x:=by
 rw[List.getD_eq_getElem?_getD,h];rfl
section
variable (id:Nat) (xs:List Int)
theorem Acj (sz n j:Nat) (hj:j<n):(OB id xs sz (List.range n))[j]? =some ((id:Int),(j:Int),(0:Int),(xs.drop (j*sz)).take sz):=by
 unfold OB
 rw[List.getElem?_eq_getElem (by rw[List.length_mapIdx,List.length_range];exact hj),List.getElem_mapIdx,List.getElem_range]
theorem Ye (id:Nat) (xs:List Int) (sz:Nat):∀i,(Ds id xs sz i).length=(xs.length+sz-1)/sz∧∀j,j<(xs.length+sz-1)/sz→(Ds id xs sz i)[j]? =some ((id:Int),((j:Nat):Int),((if j<i then(xs.length+sz-1)/sz else 0:Nat):Int),(xs.drop (j*sz)).take sz)
 | 0 => ⟨by show (OB ..).length = _; rw [L3, List.length_range], fun j hj => by
   rw[if_neg (Nat.not_lt_zero j)]
   exact Acj id xs sz _ j hj⟩
 |i+1=>by
  obtain⟨h1,h2⟩:=Ye id xs sz i
  have e:∃v:PcR,Ds id xs sz (i+1)=(Ds id xs sz i).set i v∧∀x:PcR,(Ds id xs sz i)[i]? =some x→v=(x.1,x.2.1,(((Ds id xs sz i).length:Nat):Int),x.2.2.2):=⟨_,rfl,fun x hx=>congrArg (fun q:PcR=>(q.1,q.2.1,(((Ds id xs sz i).length:Nat):Int),q.2.2.2)) (Abo _ hx)⟩
  obtain⟨v,e,hv⟩:=e
  rw[e]
  refine⟨by rw[List.length_set,h1],fun j hj=> ?_⟩
  by_cases hji:i=j
  ·subst hji
   rw[List.getElem?_set_self (by rw[h1];exact hj),hv _ (h2 i hj),h1,if_pos (Nat.lt_succ_self i)]
  ·rw[List.getElem?_set_ne hji,h2 j hj]
   by_cases h3:j<i
   ·rw[if_pos h3,if_pos Ac]
   ·rw[if_neg h3,if_neg Ac]
theorem GQ (sz:Nat):(An id xs sz).length=(xs.length+sz-1)/sz:=by
 rw[TH];exact(Ye id xs sz _).1
theorem Ol (sz i:Nat) (hi:i<(An id xs sz).length):(An id xs sz).getD i (rz [.int .i64,.int .i64,.int .i64,.sl (.int .u8)])=((id:Int),(i:Int),(((An id xs sz).length:Nat):Int),(xs.drop (i*sz)).take sz):=by
 refine Abo _ ?_
 rw[GQ]at hi
 rw[GQ,TH]
 unfold TG
 rw[(Ye id xs sz _).2 i hi,if_pos (by rw[L3,List.length_range];exact hi)]
end
end
end Go.Sx.Tryz
namespace Go.Sx.Tryz
open Go.Mi Go.RowKit Go.Sx Go.Proofs
noncomputable section
def Dx (id ai ct:Nat) (d:List Int):List Int:=Ak id++Ak ai++Ak ct++Ak d.length++d
theorem Xf {id ai ct:Nat} {d:List Int} (h:id≤1073741824∧ct≤1073741824∧ai<ct) (hd:1≤d.length∧d.length≤1000):FK id ai ct d=(Dx id ai ct d,0):=by
 rw[GD];unfold QW
 rw[if_pos (Pf ⟨by omega,by omega⟩),if_pos (Pf ⟨by omega,by omega⟩),if_pos (Pf ⟨by omega,by omega⟩),if_neg Ac,if_neg Ac]
 rfl
section
variable (id ai ct:Nat) (d:List Int)
def iB:Con:=⟨[.ag (chain [vi (id:Int),vi (ai:Int),vi (ct:Int),lb d])],[],.tu (chain [lb (Dx id ai ct d),vi 0]),[]⟩
theorem If (h:id≤1073741824∧ct≤1073741824∧ai<ct) (hd:1≤d.length∧d.length≤1000):ConOk Tryz.prog 80 (iB id ai ct d):=by
 have h1:=NE id ai ct d Ac Ac
 unfold XG at h1
 rw[Xf h hd]at h1
 exact h1
end
theorem TJ {xs:List Int} {sz i:Nat} (hz:1≤sz) (hi:i<(xs.length+sz-1)/sz):1≤((xs.drop (i*sz)).take sz).length∧((xs.drop (i*sz)).take sz).length≤sz:=by
 have h:=(U5 (len:=xs.length) hz i).1 hi
 rw[List.length_take,List.length_drop];omega
end
end Go.Sx.Tryz
namespace Go.Sx.Tryz
open Go.Mi Go.RowKit Go.Sx Go.Proofs
noncomputable section
section
variable (l:List (Option (List Int)))
def sK:Con:=⟨[.ls true [.os (.int .u8)] l],[],.sk 0,[(0,.sl 22 [.os (.int .u8)] l)]⟩
theorem eS (h:l.length≤100000000):ConOk Tryz.prog 63 (sK l):=by
 refine cy 0 Tryz.func63 rfl Tryz.ntmps63 fun hg0 hS=> ?_
 have A7:l.length≤9223372036854775807:=hS.len 0 rfl
 refine ES [] 0 hS fun hS=>Av (ES [] 0 hS fun hS=>Ai hS (BP (Hb [(0,Row),(2,FW 0 l.length 24)] [] 2 hS fun hS=>AR ?_)))
 obtain⟨gs,hS⟩:=hS.rx [(0,1)] [2] [0] 1 hg0
 exact BW hS
end
def Aat:Con:=⟨[.v (.slice none 0 0),.v .nilFunc],[],.v (.slice none 0 0),[]⟩
theorem qF:ConOk Tryz.prog 96 (Aat):=by
 exact cy 0 Tryz.func96 rfl Tryz.ntmps96 fun hg0 hS=>Ae [] 0 hS fun hS=>Av (Ae [] 0 hS fun hS=>AO hS (Dj [] 0 hS fun hS=>Ej (Ae [9] 0 hS fun hS=>Br (wp_loop_rounds 1 (Cd (n:=0) (Ae [] 0 hS fun hS=>Av (Ai hS (CO (Ae [4] 0 hS fun hS=>AR (BW hS))))))))))
end
end Go.Sx.Tryz
namespace Go.Sx
open Go.Mi Go.RowKit
variable [Dfr]
theorem ConOk.args {P:Program} {f:FuncId} {ays as':List D} {H0 H1:Hc} {r:D} (h:ConOk P f ⟨ays,H0,r,H1⟩) (hw:∀(g:G) (w:World) (vs:List Value),B9 g.X g.N w (chain as') true vs→B9 g.X g.N w (chain ays) true vs):ConOk P f ⟨as',H0,r,H1⟩:=
 ⟨h.1,fun vs g w hS hN hv=>(h.2 vs g w hS hN (hw g w vs hv)).mono fun r w' ⟨v,e,g',hp⟩=>⟨v,e,g',⟨hp.go,hp.r,hp.hs,hp.fp⟩⟩⟩
section
variable {X:Nat→Prop} {N:Nat→Option Value} {w:World}
theorem Abt {e:Fk} {o:Option (List e.T)} {v:Value} (h:fS X N w (.os e) o v):fS X N w (.sl e) (o.getD []) v:=by
 cases o with
 |none=>
  have h:v=vN:=h
  subst h
  exact⟨[],Lsl.nil,trivial⟩
 |some xs=>
  obtain⟨vs,h1,h2⟩:=h
  exact⟨vs,h1.gen,h2⟩
theorem AeR {e:Fk}:∀{xs:List e.T} {vs:List Value},Fa2 (fS X N w e) xs vs→Fa2 (rS X N w [e]) (xs:List (RT [e])) (vs.map fun v=>[v])
 |[],[],_=>trivial
 |_::_,v::_,h=>⟨⟨v,rfl,h.1⟩,AeR h.2⟩
theorem oV:∀(vs:List Value),(vs.map fun v=>[v]).flatten=vs
 |[]=>rfl
 |v::vs=>by rw[List.map_cons,List.flatten_cons,oV vs];rfl
theorem AbT {e:Fk} {o:Option (List e.T)} {m:Bool} {l:List Value} (h:B9 X N w (.os e o) m l):B9 X N w (.ls false [e] (o.getD []:List e.T)) m l:=by
 obtain⟨v,rfl,h⟩:=h
 obtain⟨vs,h1,h2⟩:=Abt h
 exact⟨v,vs.map fun v=>[v],rfl,(oV vs).symm▸h1,AeR h2⟩
theorem Z9 {e:Fk}:∀{xs:List (RT [.os e])} {ls:List (List Value)},Fa2 (rS X N w [.os e]) xs ls→Fa2 (rS X N w [.sl e]) ((xs.map fun(o:Option (List e.T))=>o.getD []:List (List e.T)):List (RT [.sl e])) ls
 |[],[],_=>trivial
 | _ :: _, _ :: _, h => ⟨by
   obtain⟨v,rfl,h1⟩:=h.1
   exact⟨v,rfl,Abt h1⟩,Z9 h.2⟩
theorem vI {e:Fk} {nn:Bool} {xs:List (Option (List e.T))} {m:Bool} {l:List Value} (h:B9 X N w (.ls nn [.os e] xs) m l):B9 X N w (.ls nn [.sl e] (xs.map fun o=>o.getD [])) m l:=by
 obtain⟨v,ls,rfl,h1,h2⟩:=h
 exact⟨v,ls,rfl,by
  have q:(xs.map fun(o:Option (List e.T))=>o.getD []).length=xs.length:=List.length_map _
  exact q.symm▸h1,Z9 h2⟩
end
theorem ConOk.os0 {P:Program} {f:FuncId} {ays:List D} {H0 H1:Hc} {r:D} {e:Fk} (o:Option (List e.T)) (h:ConOk P f ⟨.ls false [e] (o.getD []:List e.T)::ays,H0,r,H1⟩):ConOk P f ⟨.os e o::ays,H0,r,H1⟩:=
 h.args fun _ _ _ ⟨l1,l2,e,k1,k2⟩=>⟨l1,l2,e,AbT k1,k2⟩
theorem ConOk.oss0 {P:Program} {f:FuncId} {ays:List D} {H0 H1:Hc} {r:D} {e:Fk} {nn:Bool} (xs:List (Option (List e.T))) (h:ConOk P f ⟨.ls nn [.sl e] (xs.map fun o=>o.getD []:List (List e.T))::ays,H0,r,H1⟩):ConOk P f ⟨.ls nn [.os e] (xs:List (Option (List e.T)))::ays,H0,r,H1⟩:=
 h.args fun _ _ _ ⟨l1,l2,e,k1,k2⟩=>⟨l1,l2,e,vI k1,k2⟩
theorem ConOk.nnr {P:Program} {f:FuncId} {ays:List D} {H0 H1:Hc} {e:List Fk} {xs:List (RT e)} (h:ConOk P f ⟨ays,H0,.ls false e xs,H1⟩) (hx:xs≠[]):ConOk P f ⟨ays,H0,.ls true e xs,H1⟩:=
 ⟨h.1,fun vs g w hS hN hv=>(h.2 vs g w hS hN hv).mono fun r w' ⟨v,e,g',hp⟩=>⟨v,e,g',⟨hp.go,by
  obtain⟨u,ls,h1,h2,h3⟩:=hp.r
  refine⟨u,ls,h1,⟨h2.le,h2.len,?_⟩,h3⟩
  rcases h2.at' with⟨h4,_⟩|h4
  ·exact absurd (List.eq_nil_of_length_eq_zero h4) hx
  ·exact .inr h4,hp.hs,hp.fp⟩⟩⟩
end Go.Sx
namespace Go.Sx.Tryz
open Go.Mi Go.RowKit Go.Sx Go.Proofs
noncomputable section
section
variable (o:Option (List Int)) (ys:List Int)
def sX:Con:=⟨[.os (.int .u8) o,lb ys],[],.v (.bool (decide (o.getD []=ys))),[]⟩
theorem fX:ConOk Tryz.prog 37 (sX o ys):=ConOk.os0 (e:= .int .u8) o (Er (o.getD []) ys)
end
def s8 (xs:List Int):Con:=⟨[lb xs],[],.ls true [.int .u8] xs,[]⟩
theorem Tn (xs:List Int) (h:1≤xs.length∧xs.length≤100000000000000):ConOk Tryz.prog 81 (s8 xs):=(Dy xs h.2).nnr (fun e=>by rw[e]at h;exact absurd h.1 (by decide))
theorem Ae9 {a b q:Nat} (hq:q=a*b) (h:q≤1000000000):(BL .i64 (a:Int)<|(b:Int))=(q:Int):=by
 rw[hq,oD (by rw[←Int.natCast_mul,←hq];omega) (by rw[←Int.natCast_mul,←hq];omega)]
 exact(Int.natCast_mul _ _).symm
section
variable (id sz ln:Nat) (bx:List (Option (List Int))) (pa ct q:Nat) (d:List Int)
def Zz (id sz ln:Nat) (bx:List (Option (List Int))) (pa ct q:Nat) (d:List Int):(List (Option (List Int)))×Nat:=if((d.length:Nat):Int)=(min (sz:Int) ((ln:Int)-(q:Int)))then(if((bx.getD pa (rz [.os (.int .u8)])).isNone)=true then(bx.set pa (some d),0)else(if(bx.getD pa (rz [.os (.int .u8)])).getD []=d then(bx,8)else(bx,2)))else(bx,2)
def ZA:(List (Option (List Int)))×Nat:=AJ (Zz id sz ln bx pa ct q d)
theorem Rz:ZA id sz ln bx pa ct q d=Zz id sz ln bx pa ct q d:=Ag _
def tJ (z_:(List (Option (List Int)))×Nat:=ZA id sz ln bx pa ct q d):Con:=⟨[.cp 0 0,.ag (chain [vi (id:Int),vi (pa:Int),vi (ct:Int),lb d])],[(0,R1 id sz ln 1),(1,.sl 22 [.os (.int .u8)] bx)],vi ((z_.2:Nat):Int),[(0,R1 id sz ln 1),(1,.sl 22 [.os (.int .u8)] (z_.1))]⟩
theorem AaP (hb:bx.length≤10000) (hz:sz≤1000∧ln≤10000) (hq:q=pa*sz) (hql:q<ln) (hpa:pa<bx.length) (hct:ct=bx.length) (hdl:d.length=min sz (ln-q)) (hd:1≤d.length∧d.length≤100000):ConOk Tryz.prog 133 (tJ id sz ln bx pa ct q d):=by
 refine cy 2 Tryz.func133 rfl Tryz.ntmps133 fun hg0 hS=> ?_
 have KX:bx.length≤9223372036854775807:=hS.lens 1 rfl
 have hf0:(id:Int)=(id:Int):=rfl
 have hf1:(ct:Int)=((bx.length:Nat):Int):=Ac
 have hf2:wB (pa:Int) 0 ((bx.length-1:Nat):Int)=true:=(Pf ⟨by omega,by omega⟩)
 refine ES [] 3 hS fun hS=>Av (Br (ES [] 3 hS fun hS=>Ai hS (Hb [(6,GH hf0),(15,GH hf1),(25,G9 bx.length 1 (bx.length-1)),(26,AP (CW (pa:Int) 0 ((bx.length-1:Nat):Int) hf2)),(47,RN (q:Int) [BL .i64 (pa:Int) (sz:Int)=(q:Int)] ⟨Ae9 hq Ac,trivial⟩),(48,RN ((ln:Int)-(q:Int)) [EC .i64 (ln:Int) (q:Int)=(ln:Int)-(q:Int)] ⟨QI Ac Ac,trivial⟩),(49,RN (min (sz:Int) ((ln:Int)-(q:Int))) [(if((ln:Int)-(q:Int))<(sz:Int)then((ln:Int)-(q:Int))else(sz:Int))=(min (sz:Int) ((ln:Int)-(q:Int)))] ⟨by split<;>omega,trivial⟩)] [] 3 hS fun hS=>Iz (((d.length:Nat):Int)=(min (sz:Int) ((ln:Int)-(q:Int)))) hS (fun h1=> ?_) (fun h1=> ?_))))
 ·exact ES [] 3 hS fun hS=>AR (Aw (Af (Bi (.trans (Rz ..) (if_neg h1)) hS)))
 ·refine Hb [(6,AD pa bx.length)] [] 3 hS fun hS=>NC ((bx.getD pa (rz [.os (.int .u8)])).isNone) hS (fun h2=> ?_) (fun h2=> ?_)
  ·exact Hb [(8,AP (Tn d AE)),(9,AD pa bx.length)] [] 3 hS fun hS=>ES [] 3 hS fun hS=>AR (Aw (Af (Bi (.trans (Rz ..) ((if_pos h1).trans (if_pos h2))) hS)))
  ·refine Hb [(6,AD pa bx.length),(10,AP (fX (bx.getD pa (rz [.os (.int .u8)])) d))] [] 3 hS fun hS=>AB ((bx.getD pa (rz [.os (.int .u8)])).getD []=d) hS (fun h3=> ?_) (fun h3=> ?_)
   ·exact ES [] 3 hS fun hS=>AR (Aw (Af (Bi (.trans (Rz ..) ((if_pos h1).trans ((if_neg (N7 h2)).trans (if_pos h3)))) hS)))
   ·exact G8 (ES [] 3 hS fun hS=>AR (Bi (.trans (Rz ..) ((if_pos h1).trans ((if_neg (N7 h2)).trans (if_neg h3)))) hS))
end
end
end Go.Sx.Tryz
namespace Go.Sx.Tryz
open Go.Mi Go.RowKit Go.Sx Go.Proofs
noncomputable section
def Lh (bx:List (Option (List Int))) (x12:Nat):(List Int)→(List Int):=fun x2=>if((bx.getD x12 (rz [.os (.int .u8)])).isNone)=true then x2++[(x12:Int)]else x2
def GE (bx:List (Option (List Int))):Nat→(List Int)
 |0=>[]
 |x12+1=>Lh bx x12 (GE bx x12)
section
variable (id sz ln:Nat) (bx:List (Option (List Int)))
def cU (id sz ln:Nat) (bx:List (Option (List Int))):(List Int):=GE bx bx.length
def Iq:(List Int):=AJ (cU id sz ln bx)
theorem cW:Iq id sz ln bx=cU id sz ln bx:=Ag _
def AaE (z_:(List Int):=Iq id sz ln bx):Con:=Cq [.cp 0 0] [(0,R1 id sz ln 1),(1,.sl 22 [.os (.int .u8)] bx)] (.ls false [.int .i64] z_)
theorem XK (hb:1≤bx.length∧bx.length≤10000):ConOk Tryz.prog 167 (AaE id sz ln bx):=by
 refine cy 2 Tryz.func167 rfl Tryz.ntmps167 fun hg0 hS=> ?_
 have KX:bx.length≤9223372036854775807:=hS.lens 1 rfl
 refine ES [] 2 hS fun hS=>Av (ES [] 2 hS fun hS=>Ai hS (DU (ES [10] 2 hS fun hS=>Br ?_)))
 obtain⟨gs,hS⟩:=hS.nilk 2 3 [.int .i64]
 refine Ar (ι:=Nat×(List Int)) hg0 hS (fun(x12,x2)=>(bx.length-x12,[(12,vi ((x12:Nat):Int))],[(2,.sl 3 [.int .i64] x2)],(x12≤bx.length)∧(x2=GE bx x12)∧(x2.length≤x12)∧True)) [2,10,11] [0,1] 3 (0,[]) [(0,0),(1,1),(2,2)] ⟨Ac,rfl,(by simp),trivial⟩ ?_
 rintro⟨x12,x2⟩ ac gs ws ⟨hx12,hq1,p1,_⟩ hS
 refine ES [] 3 hS fun hS=>Av (AB ((x12:Int)<((bx.length:Nat):Int)) hS (fun h1=> ?_) (fun h1=> ?_))
 ·refine BE (Hb [(1,AD x12 bx.length)] [] 3 hS fun hS=>ES [] 3 hS fun hS=>NC ((bx.getD x12 (rz [.os (.int .u8)])).isNone) hS (fun h2=> ?_) (fun h2=> ?_))
  ·exact RJ [(3,FW x2.length 1 8)] [2] 4 hS fun hS=>BV (RJ [(0,BH x12)] [12] 4 hS fun hS=>Ab (Al hg0 hS (x12+1,x2++[(x12:Int)]) [(0,0),(1,1),(2,3)] ⟨Ac,(A3 (st:=Lh _) hq1 rfl (Eq.symm (if_pos h2))),(by first |(rw[List.length_append];simp;omega)|omega),trivial⟩))
  ·exact G8 (RJ [(0,BH x12)] [12] 3 hS fun hS=>Ab (Al hg0 hS (x12+1,x2) [(0,0),(1,1),(2,2)] ⟨Ac,(A3 (st:=Lh _) hq1 rfl (Eq.symm (if_neg (N7 h2)))),(by first |(rw[List.length_append];simp;omega)|omega),trivial⟩))
 ·have hT:=hS
  obtain rfl:bx.length=x12:=by omega
  obtain rfl:=hq1.symm
  have hS:=hT
  refine CO (ES [2] 3 hS fun hS=>AR ?_)
  obtain⟨gs,hS⟩:=hS.fz 2
  exact Bi (cW ..) hS
end
section
variable (bx:List (Option (List Int)))
abbrev G3:List (List Int):=bx.map fun o=>o.getD []
def full:Bool:=bx.all Option.isSome
end
theorem cV (id sz ln:Nat) (bx:List (Option (List Int))):(Iq id sz ln bx).length=0↔full bx=true:=by
 have key:∀i,i≤bx.length→((GE bx i).length=0↔∀j,j<i→(List.getD (α:=Option (List Int)) bx j none).isSome=true):=by
  intro i
  induction i with
  |zero=>exact fun _=>⟨fun _ j hj=>absurd hj (Nat.not_lt_zero j),fun _=>rfl⟩
  |succ i ih=>
   intro hi
   have ih:=ih Ac
   have e:GE bx (i+1)=if(List.getD (α:=Option (List Int)) bx i none).isNone=true then GE bx i++[(i:Int)]else GE bx i:=rfl
   rw[e]
   cases hg:List.getD (α:=Option (List Int)) bx i none with
   |none=>
    rw[if_pos (show(none:Option (List Int)).isNone=true from rfl)]
    refine⟨fun h=>by rw[List.length_append,List.length_cons]at h;omega,fun h=> ?_⟩
    have :=h i Ac
    rw[hg]at this;cases this
   |some x=>
    rw[if_neg (by simp)]
    refine ih.trans ⟨fun h j hj=> ?_,fun h j hj=>h j Ac⟩
    by_cases hji:j=i
    ·rw[hji,hg];rfl
    ·exact h j Ac
 rw[cW]
 refine(key bx.length (Nat.le_refl _)).trans ?_
 unfold full
 rw[List.all_eq_true]
 refine⟨fun h x hx=> ?_,fun h j hj=> ?_⟩
 ·obtain⟨j,hj,rfl⟩:=List.mem_iff_getElem.1 hx
  have :=h j hj
  rw[List.getD_eq_getElem?_getD,List.getElem?_eq_getElem hj]at this
  exact this
 ·rw[List.getD_eq_getElem?_getD,List.getElem?_eq_getElem hj]
  exact h _ (List.getElem_mem hj)
def Ad9 (l:List (List Int)):Con:=⟨[.ls false [.sl (.int .u8)] l],[],lb l.flatten,[]⟩
theorem yX (l:List (List Int)) (h:l.flatten.length≤140737488355328):ConOk Tryz.prog 154 (Ad9 l):=ConOk.frz [] 0 5 [.int .u8] l.flatten (Rj l h) (by kernel_rfl)
section
variable (l:List (Option (List Int)))
def Ad8:Con:=⟨[.ls false [.os (.int .u8)] l],[],lb ((G3 l).flatten),[]⟩
theorem yW (h:(G3 l).flatten.length≤140737488355328):ConOk Tryz.prog 154 (Ad8 l):=ConOk.oss0 (e:= .int .u8) (nn:=false) l (yX (G3 l) h)
end
section
variable (id sz ln:Nat) (bx:List (Option (List Int)))
def tF:Con:=Cq [.cp 0 0] [(0,R1 id sz ln 1),(1,.sl 22 [.os (.int .u8)] bx)] (.tu (chain [.v (.slice none 0 0),.v (.bool false)]))
theorem iP (hb:1≤bx.length∧bx.length≤10000) (hf:full bx=false):ConOk Tryz.prog 134 (tF id sz ln bx):=by
 refine cy 2 Tryz.func134 rfl Tryz.ntmps134 fun hg0 hS=> ?_
 have KX:bx.length≤9223372036854775807:=hS.lens 1 rfl
 have hf1:¬((bx.length:Nat):Int)=0:=Ac
 refine ES [] 2 hS fun hS=>Il ?_
 have hbm:=(cV id sz ln bx)
 have hbm2:(Iq id sz ln bx).length≠0:=fun e=>by rw[hbm.1 e]at hf;cases hf
 have hk1:(0:Int)<(((Iq id sz ln bx).length:Nat):Int):=Ac
 exact RJ [(8,DC hf1),(12,AM (XK id sz ln bx AE) [(0,0),(1,1)] []),(14,GG hk1)] [] 2 hS fun hS=>Ab (AO hS (ES [] 2 hS fun hS=>AR (Af (BW hS))))
def tE:Con:=⟨[.cp 0 0],[(0,R1 id sz ln 1),(1,.sl 22 [.os (.int .u8)] bx)],.tu (chain [lb ((G3 bx).flatten),.v (.bool true)]),[(0,.ob 187 (chain [vi (id:Int),vi (sz:Int),vi (ln:Int),.ls false [.os (.int .u8)] bx]))]⟩
theorem iO (hb:1≤bx.length∧bx.length≤10000) (hf:full bx=true) (hl:(G3 bx).flatten.length≤100000):ConOk Tryz.prog 134 (tE id sz ln bx):=by
 refine cy 2 Tryz.func134 rfl Tryz.ntmps134 fun hg0 hS=> ?_
 have KX:bx.length≤9223372036854775807:=hS.lens 1 rfl
 have hf1:¬((bx.length:Nat):Int)=0:=Ac
 refine ES [] 2 hS fun hS=>Il ?_
 have hbm2:(Iq id sz ln bx).length=0:=(cV id sz ln bx).2 hf
 have hk1:¬(0:Int)<(((Iq id sz ln bx).length:Nat):Int):=by omega
 refine RJ [(8,DC hf1),(12,AM (XK id sz ln bx AE) [(0,0),(1,1)] []),(14,DC hk1)] [] 2 hS fun hS=>Ab (Ai hS (DU ?_))
 obtain⟨gs,hS⟩:=hS.fz 1
 exact RJ [(4,AP (yW bx (by first |assumption|omega)))] [] 2 hS fun hS=>DX (BW hS)
end
end
end Go.Sx.Tryz
namespace Go.Sx.Tryz
open Go.Mi Go.RowKit Go.Sx Go.Proofs
noncomputable section
section
variable (bx:List (Option (List Int))) (pa:Nat)
def A9 (d:List Int):List (Option (List Int)):=bx.set pa (some d)
def Lm (d:List Int):Prop:=List.getD (α:=Option (List Int)) bx pa none=none∨List.getD (α:=Option (List Int)) bx pa none=some d
def N8:Nat:=if(List.getD (α:=Option (List Int)) bx pa none).isNone=true then 0 else 8
theorem XM:¬((N8 bx pa:Nat):Int)=2:=by unfold N8;split<;>decide
theorem Gu (d:List Int):(A9 bx pa d).length=bx.length:=List.length_set
end
theorem Aem {id sz ln:Nat} {bx:List (Option (List Int))} {pa ct q:Nat} {d:List Int} (hpa:pa<bx.length) (hq:q<ln) (hdl:d.length=min sz (ln-q)) (hf:Lm bx pa d):ZA id sz ln bx pa ct q d=(A9 bx pa d,N8 bx pa):=by
 rw[Rz];unfold Zz A9 N8
 rw[if_pos Ac]
 show(if(List.getD (α:=Option (List Int)) bx pa none).isNone=true then _ else(if(List.getD (α:=Option (List Int)) bx pa none).getD []=d then _ else _))=_
 rcases hf with h|h
 ·rw[h];rfl
 ·rw[h]
  have e:bx.set pa (some d)=bx:=by
   rw[List.getD_eq_getElem?_getD,List.getElem?_eq_getElem hpa]at h
   have h:bx[pa]=some d:=h
   rw[←h,List.set_getElem_self]
  rw[e]
  simp
section
variable (id sz ln:Nat) (bx:List (Option (List Int))) (pa ct:Nat)
def AaH (q:Nat) (d:List Int):Con:=⟨[.cp 0 0,.ag (chain [vi (id:Int),vi (pa:Int),vi (ct:Int),lb d])],[(0,R1 id sz ln 1),(1,.sl 22 [.os (.int .u8)] bx)],vi ((N8 bx pa:Nat):Int),[(0,R1 id sz ln 1),(1,.sl 22 [.os (.int .u8)] (A9 bx pa d))]⟩
theorem tW (q:Nat) (d:List Int) (hb:bx.length≤10000) (hz:sz≤1000∧ln≤10000) (hq:q=pa*sz) (hql:q<ln) (hpa:pa<bx.length) (hct:ct=bx.length) (hdl:d.length=min sz (ln-q)) (hft:Lm bx pa d) (hd:1≤d.length∧d.length≤100000):ConOk Tryz.prog 133 (AaH id sz ln bx pa ct q d):=by
 have h:=AaP id sz ln bx pa ct q d hb hz hq hql hpa hct hdl hd
 unfold tJ at h
 rw[Aem hpa hql hdl hft]at h
 exact h
end
end
end Go.Sx.Tryz
namespace Go.Sx.Tryz
open Go.Mi Go.RowKit Go.Sx Go.Proofs
noncomputable section
end
end Go.Sx.Tryz
namespace Go.Sx.Tryz
open Go.Mi Go.RowKit Go.Sx Go.Proofs
noncomputable section
def MG (ct:List Int) (x15:Nat):(Nat→Int)→(Nat→Int):=fun o5_0=>Di o5_0 (x15*256) 256 (SU (D5 (C1 (ct.drop (320*x15)))))
def Bu (ct:List Int):Nat→(Nat→Int)
 |0=>fun _=>0
 |x15+1=>MG ct x15 (Bu ct x15)
section
variable (dk ct:List Int)
def Ti:(List Int):=JS (Dp (J9 (Ci (BX (ct.drop 960))) (AL (Bw (AS dk) (Bu ct 3)))))
def BS:(List Int):=AJ (Ti dk ct)
theorem Tj:BS dk ct=Ti dk ct:=Ag _
end
@[simp] theorem Xn (dk ct:List Int):(BS dk ct).length=32:=by rw[Tj];exact Xg _
section
variable (dk ct:List Int)
def iI (z_:(List Int):=BS dk ct):Con:=⟨[lb dk,lb ct],[],.sk 0,[(0,.sl 5 [.int .u8] z_)]⟩
theorem Za (hd:dk.length=2400) (hc:ct.length=1088):ConOk Tryz.prog 169 (iI dk ct):=by
 refine cy 0 Tryz.func169 rfl Tryz.ntmps169 fun hg0 hS=> ?_
 have A7:dk.length≤9223372036854775807:=hS.len 0 rfl
 have Be:ct.length≤9223372036854775807:=hS.len 1 rfl
 refine Ae [] 0 hS fun hS=>Ae [] 1 hS fun hS=>Av (Ae [] 1 hS fun hS=>Br (Ar (ι:=Nat×(Nat→Int)) hg0 hS (fun(x15,o5_0)=>(3-x15,[(15,vi ((x15:Nat):Int))],[(0,Ob5 o5_0)],(x15≤3)∧(o5_0=Bu ct x15)∧True)) [0,1,4,5] [] 1 (0,fun _=>0) [(0,0)] ⟨Ac,rfl,trivial⟩ ?_))
 rintro⟨x15,o5_0⟩ ac gs ws ⟨hx15,hq1,_⟩ hS
 refine Ae [] 1 hS fun hS=>Av (AB ((x15:Int)<3) hS (fun h1=> ?_) (fun h1=> ?_))
 ·exact BE (Ae [] 1 hS fun hS=>Ax [(2,HJ 320 x15 (320*x15)),(3,O2 (320*x15) ct.length),(4,AP (VE (ct.drop (320*x15)) (by first |omega|(simp only[List.length_append,List.length_drop,List.length_take,List.length_cons,List.length_nil];omega)))),(5,ID (W_ (C1 (ct.drop (320*x15)))) [] [] [.ar .u16 256 (C1 (ct.drop (320*x15))),vi 10] [])] [7] 2 hS fun hS=>As [(1,GK (.ar .u16 256 (D5 (C1 (ct.drop (320*x15))))) [(.ar .u16 256 (D5 (C1 (ct.drop (320*x15)))):D)=(.ar .u16 256 (D5 (C1 (ct.drop (320*x15)))))] ⟨rfl,trivial⟩),(2,AP (nE (D5 (C1 (ct.drop (320*x15)))))),(3,AD x15 3)] [] 2 hS fun hS=>BV (As [(0,BH x15)] [15] 2 hS fun hS=>Ab (Al hg0 hS (x15+1,Di o5_0 (x15*256) 256 (SU (D5 (C1 (ct.drop (320*x15)))))) [(0,0)] ⟨Ac,(A3 (st:=MG _) hq1 rfl rfl),trivial⟩)))
 ·have hT:=hS
  obtain rfl:3=x15:=by omega
  obtain rfl:=hq1.symm
  have hS:=hT
  refine CO (Ax [(1,O2 960 ct.length),(2,AP (X5 (ct.drop 960) (by first |omega|(simp only[List.length_append,List.length_drop,List.length_take,List.length_cons,List.length_nil];omega)))),(3,ID (YS (BX (ct.drop 960))) [] [] [.ar .u16 256 (BX (ct.drop 960)),vi 4] [])] [9] 2 hS fun hS=>Ax [(0,GK (.ar .u16 256 (Ci (BX (ct.drop 960)))) [(.ar .u16 256 (Ci (BX (ct.drop 960))):D)=(.ar .u16 256 (Ci (BX (ct.drop 960))))] ⟨rfl,trivial⟩),(2,AP (LJ dk AE)),(3,GK (.ar .u16 768 (Bu ct 3)) [(.ar .u16 768 (Bu ct 3):D)=(.ar .u16 768 (Bu ct 3))] ⟨rfl,trivial⟩),(4,ID (UV (AS dk) (Bu ct 3)) [] [] [.ar .u16 768 (AS dk),.ar .u16 768 (Bu ct 3)] []),(5,AP (KU (Bw (AS dk) (Bu ct 3)))),(6,ID (AbQ (Ci (BX (ct.drop 960))) (AL (Bw (AS dk) (Bu ct 3)))) [] [] [.ar .u16 256 (Ci (BX (ct.drop 960))),.ar .u16 256 (AL (Bw (AS dk) (Bu ct 3)))] []),(7,ID (U3 (J9 (Ci (BX (ct.drop 960))) (AL (Bw (AS dk) (Bu ct 3))))) [] [] [.ar .u16 256 (J9 (Ci (BX (ct.drop 960))) (AL (Bw (AS dk) (Bu ct 3)))),vi 1] [])] [11] 3 hS fun hS=>Ax [(0,GK (.ar .u16 256 (Dp (J9 (Ci (BX (ct.drop 960))) (AL (Bw (AS dk) (Bu ct 3)))))) [(.ar .u16 256 (Dp (J9 (Ci (BX (ct.drop 960))) (AL (Bw (AS dk) (Bu ct 3))))):D)=(.ar .u16 256 (Dp (J9 (Ci (BX (ct.drop 960))) (AL (Bw (AS dk) (Bu ct 3))))))] ⟨rfl,trivial⟩),(1,ID (Y3 (Dp (J9 (Ci (BX (ct.drop 960))) (AL (Bw (AS dk) (Bu ct 3)))))) [] [(0,3)] [.ar .u16 256 (Dp (J9 (Ci (BX (ct.drop 960))) (AL (Bw (AS dk) (Bu ct 3))))),vi 1] [])] [] 4 hS fun hS=>Ae [] 4 hS fun hS=>AR ?_)
  obtain⟨gs,hS⟩:=hS.rx [(0,3)] [4] [0] 1 hg0
  exact Bi (Tj ..) hS
end
section
variable (ek m r:List Int)
def Zr:Con:=⟨[lb ek,lb m,lb r],[],lb (DG ek m r),[]⟩
theorem Xd (he:ek.length=1184) (hm:m.length=32) (hr:r.length=32):ConOk Tryz.prog 170 (Zr ek m r):=ConOk.frz [] 0 5 [.int .u8] (DG ek m r) (La ek m r he hm hr) (by kernel_rfl)
end
section
variable (dk ct:List Int)
def Q_:(List Int)×Nat:=if((Es dk:Nat):Int)=0 then(if(DG ((dk.take 2336).drop 1152) (BS dk ct) ((AC [BS dk ct,(dk.take 2368).drop 2336]).drop 32))=ct then((AC [BS dk ct,(dk.take 2368).drop 2336]).take 32,0)else(Hk [dk.drop 2368,ct],0))else([],(Es dk))
def HH:(List Int)×Nat:=AJ (Q_ dk ct)
theorem MH:HH dk ct=Q_ dk ct:=Ag _
def s6 (z_:(List Int)×Nat:=HH dk ct):Con:=⟨[lb dk,lb ct],[],.tu (chain [lb (z_.1),vi ((z_.2:Nat):Int)]),[]⟩
theorem f7 (hc:ct.length=1088):ConOk Tryz.prog 143 (s6 dk ct):=by
 refine cy 0 Tryz.func143 rfl Tryz.ntmps143 fun hg0 hS=> ?_
 have A7:dk.length≤9223372036854775807:=hS.len 0 rfl
 have Be:ct.length≤9223372036854775807:=hS.len 1 rfl
 have hk2:((ct.length:Nat):Int)=1088:=Ac
 refine Ae [] 0 hS fun hS=>Av (Ax [(1,AP (Ze dk))] [] 0 hS fun hS=>Ae [] 0 hS fun hS=>Iz (((Es dk:Nat):Int)=0) hS (fun h1=> ?_) (fun h1=> ?_))
 ·refine Ae [] 0 hS fun hS=>AR (Af ?_)
  have hS:=hS.wk 4 (lb [])
  exact Bi (.trans (MH ..) (if_neg h1)) hS
 ·refine DU (Ax [(2,GH hk2)] [] 0 hS fun hS=>Ai hS (DU ?_))
  have hd:=gE (xs:=dk) Ac
  refine As [(1,Rbk 1152 2336 dk.length),(3,O2 2368 dk.length)] [] 0 hS fun hS=>Ab (Ax [(2,AM (Za dk ct AE AE) [] [(0,0)])] [] 1 hS fun hS=>Av ?_)
  have hdl:=Xn dk ct
  obtain⟨gs,hS⟩:=hS.fz 0
  refine As [(2,Rbk 2336 2368 dk.length),(4,AP (JB [BS dk ct,(dk.take 2368).drop 2336] (by first |omega|(simp only[List.flatten_cons,List.flatten_nil,List.length_append,List.length_cons,List.length_nil,List.length_take,List.length_drop,List.length_replicate]<;>omega)|(simp<;>omega))))] [] 1 hS fun hS=>Ej (Av ?_)
  have hsl:=DZ [BS dk ct,(dk.take 2368).drop 2336]
  refine As [(3,O2 32 (AC [BS dk ct,(dk.take 2368).drop 2336]).length),(4,AP (Xd ((dk.take 2336).drop 1152) (BS dk ct) ((AC [BS dk ct,(dk.take 2368).drop 2336]).drop 32) AE AE AE)),(6,AP (Er (DG ((dk.take 2336).drop 1152) (BS dk ct) ((AC [BS dk ct,(dk.take 2368).drop 2336]).drop 32)) ct))] [] 1 hS fun hS=>Ab (Iz ((DG ((dk.take 2336).drop 1152) (BS dk ct) ((AC [BS dk ct,(dk.take 2368).drop 2336]).drop 32))=ct) hS (fun h2=> ?_) (fun h2=> ?_))
  ·exact Ax [(3,AP (Yj [dk.drop 2368,ct] (by first |omega|(simp only[List.flatten_cons,List.flatten_nil,List.length_append,List.length_cons,List.length_nil,List.length_take,List.length_drop,List.length_replicate]<;>omega)|(simp<;>omega))))] [] 1 hS fun hS=>AR (Af (Bi (.trans (MH ..) ((if_pos h1).trans (if_neg h2))) hS))
  ·exact BP (Ax [(1,O1 (E8 none (some 32) (some 32) (AC [BS dk ct,(dk.take 2368).drop 2336]).length (AC [BS dk ct,(dk.take 2368).drop 2336]).length) ⟨by simp only[F3]<;>omega,by simp only[F3]<;>omega,by simp only[F3]<;>omega,by simp,by simp only[bl]<;>omega,by simp only[bl]<;>omega,by simp only[bl]<;>omega⟩)] [] 1 hS fun hS=>AR (Bi (.trans (MH ..) ((if_pos h1).trans (if_pos h2))) hS))
end
end
end Go.Sx.Tryz
namespace Go.Sx.Tryz
open Go.Mi Go.RowKit Go.Sx Go.Proofs
noncomputable section
end
end Go.Sx.Tryz
namespace Go.Sx.Tryz
open Go.Mi Go.RowKit Go.Sx Go.Proofs
noncomputable section
theorem lU (k xs:List Int):(T1 k xs).length=128:=by
 have key:∀j,(DN k xs j).2.1.length=32*j:=by
  intro j
  induction j with
  |zero=>rfl
  |succ j ih=>
   show(Nl k xs j (DN k xs j)).2.1.length=_
   generalize DN k xs j=z at ih⊢
   obtain⟨a,b,c⟩:=z
   show(b++Gp _ _).length=_
   rw[List.length_append,PZ]
   have ih:b.length=32*j:=ih
   omega
 have hc:∀j,Gf (DN k xs j)↔32*j<128:=by
  intro j
  have hj:=key j
  generalize DN k xs j=z at hj⊢
  obtain⟨a,b,c⟩:=z
  show((b.length:Nat):Int)<128↔_
  have hj:b.length=32*j:=hj
  omega
 have hl:4=CS fun j=>Gf (DN k xs j):=BK (P:=fun j=>Gf (DN k xs j)) (fun h=>absurd ((hc 4).1 h) (by decide)) (fun j hj=>(hc j).2 Ac)
 rw[lV];unfold Yq
 rw[←hl,List.length_take,key];rfl
@[simp] theorem mC (k xs:List Int):(T4 k xs).length=128:=by rw[mD];exact lU ..
def Aaa (v:Int) (n:Nat):Con:=⟨[.v (.int .u64 v),vi (n:Int)],[],lb (C3 v n),[]⟩
theorem mK (v:Int) (n:Nat) (hn:n≤1000):ConOk Tryz.prog 34 (Aaa v n):=ConOk.frz [] 0 5 [.int .u8] (C3 v n) (Ub v n hn) (by kernel_rfl)
def qG (n:Int):(List Int):=T4 [100,114,97,119] (C3 (IntKind.wrap .u64 n) 8)
def A1 (n:Int):(List Int):=AJ (qG n)
theorem qH (n:Int):A1 n=qG n:=Ag _
@[simp] theorem B7 (n:Int):(A1 n).length=128:=by rw[qH];exact mC ..
def Ad4 (n:Int) (z_:(List Int):=A1 n):Con:=⟨[vi n],[],lb z_,[]⟩
theorem Dr (n:Int):ConOk Tryz.prog 15 (Ad4 n):=by
 exact cy 0 Tryz.func15 rfl Tryz.ntmps15 fun hg0 hS=>Ae [] 0 hS fun hS=>Ax [(0,Row),(1,O1 (0<[100,114,97,119].length) (by decide)),(4,AP (mK (IntKind.wrap .u64 n) 8 Ac)),(5,AP (vY [100,114,97,119] (C3 (IntKind.wrap .u64 n) 8) AE AE))] [] 1 hS fun hS=>AR (Bi (qH ..) hS)
end
end Go.Sx.Tryz
namespace Go.Sx.Tryz
open Go.Mi Go.RowKit Go.Sx Go.Proofs
noncomputable section
section
variable (xs ys:List Int)
def sS:Con:=⟨[.ls false [.int .i64] xs,.ls false [.int .i64] ys],[],.v (.bool (decide (xs=ys))),[]⟩
theorem bN:ConOk Tryz.prog 31 (sS xs ys):=by
 refine cy 0 Tryz.func31 rfl Tryz.ntmps31 fun hg0 hS=> ?_
 have A7:xs.length≤9223372036854775807:=hS.len 0 rfl
 have Be:ys.length≤9223372036854775807:=hS.len 1 rfl
 refine Ae [] 0 hS fun hS=>Av (Ae [] 0 hS fun hS=>Iz (((xs.length:Nat):Int)=((ys.length:Nat):Int)) hS (fun h1=> ?_) (fun h1=> ?_))
 ·exact Ae [] 0 hS fun hS=>AR (Af (C0 rfl (.inr rfl) hS [.v (.bool false)] [] (by show weak _ (.v (.bool (decide (xs=ys))))= .v (.bool (decide (xs=ys)));rw[p9 h1];rfl) trivial))
 ·refine DU (Ae [] 0 hS fun hS=>Br (Ar (ι:=Nat) hg0 hS (fun i=>(xs.length-i,[(5,vi ((i:Nat):Int))],[],(i≤xs.length)∧(∀j,j<i→xs.getD j 0=ys.getD j 0)∧True)) [0,1] [] 0 0 [] ⟨Ac,(fun j h=>absurd h (Nat.not_lt_zero j)),trivial⟩ ?_))
  rintro i ac gs ws ⟨hi,pm,_⟩ hS
  refine Av (Ae [] 0 hS fun hS=>AB ((i:Int)<((xs.length:Nat):Int)) hS (fun h2=> ?_) (fun h2=> ?_))
  ·refine BE (Ax [(2,AD i xs.length),(6,AD i ys.length)] [] 0 hS fun hS=>Iz ((xs.getD i 0)=(ys.getD i 0)) hS (fun h3=> ?_) (fun h3=> ?_))
   ·exact Ae [] 0 hS fun hS=>AR (Aw (Af (Af (Aw (Af (C0 rfl (.inr rfl) hS [.v (.bool false)] [] (by show weak _ (.v (.bool (decide (xs=ys))))= .v (.bool (decide (xs=ys)));rw[p8 h3];rfl) trivial))))))
   ·exact G8 (As [(1,BH i)] [5] 0 hS fun hS=>Ab (Al hg0 hS (i+1) [] ⟨Ac,(A0 pm BF),trivial⟩))
  ·have hT:=hS
   obtain rfl:xs.length=i:=by omega
   have hS:=hT
   exact CO (Ae [] 0 hS fun hS=>AR (C0 rfl (.inr rfl) hS [.v (.bool true)] [] (by show weak _ (.v (.bool (decide (xs=ys))))= .v (.bool (decide (xs=ys)));rw[p7 h1 pm];rfl) trivial))
end
def G_ (wk:List Int) (i x8:Nat):(Bool×(List Int))→(Bool×(List Int)):=fun(x7,x6)=>if(wk.getD x8 0)=(i:Int)then(true,x6)else(x7,x6++[(wk.getD x8 0)])
def HM (a b:Nat) (wk:List Int) (i:Nat):Nat→Bool×(List Int)
 |0=>(false,[])
 |x8+1=>G_ wk i x8 (HM a b wk i x8)
def Jv (k2:Nat):(Nat×(List Int))→(Nat×(List Int)):=fun(x10,o3)=>(x10+1,o3++[((x10:Nat):Int)])
def BI (a b:Nat) (wk:List Int) (i:Nat):Nat→Nat×(List Int)
 |0=>(b,[]++wk)
 |k2+1=>Jv k2 (BI a b wk i k2)
def Cs (i:Nat):(Nat×(List Int))→Prop:=fun(x10,o3)=>((x10:Nat):Int)<(i:Int)
section
variable (a b:Nat) (wk:List Int) (i:Nat)
def X2:Nat×(List Int)×Nat:=if(i:Int)<(b:Int)then(if(!((HM a b wk i wk.length).1))=true then(b,wk,5)else(b,(HM a b wk i wk.length).2,0))else(if(40:Int)<((i-b:Nat):Int)then(b,wk,6)else(if(60:Int)<((((BI a b wk i (CS fun j=>Cs i (BI a b wk i j))).2).length:Nat):Int)then((i+1),((BI a b wk i (CS fun j=>Cs i (BI a b wk i j))).2).drop ((((BI a b wk i (CS fun j=>Cs i (BI a b wk i j))).2).length)-60),0)else((i+1),(BI a b wk i (CS fun j=>Cs i (BI a b wk i j))).2,0)))
def X3:Nat×(List Int)×Nat:=AJ (X2 a b wk i)
theorem M_:X3 a b wk i=X2 a b wk i:=Ag _
def rC (z_:Nat×(List Int)×Nat:=X3 a b wk i):Con:=⟨[.ag (chain [vi (a:Int),vi (b:Int),.ls false [.int .i64] wk]),vi (i:Int)],[],.tu (chain [.ag (chain [vi (a:Int),vi ((z_.1:Nat):Int),.ls false [.int .i64] (z_.2.1)]),vi ((z_.2.2:Nat):Int)]),[]⟩
theorem uQ (hk:wk.length≤1000) (hi:i≤1000000∧b≤1000000):ConOk Tryz.prog 35 (rC a b wk i):=by
 refine cy 0 Tryz.func35 rfl Tryz.ntmps35 fun hg0 hS=>Ae [] 2 hS fun hS=>Av (Ae [] 2 hS fun hS=>AB ((i:Int)<(b:Int)) hS (fun h1=> ?_) (fun h1=> ?_))
 ·refine Ae [] 2 hS fun hS=>Ae [] 2 hS fun hS=>Av (Ae [] 2 hS fun hS=>Br ?_)
  obtain⟨gs,hS⟩:=hS.nilk 6 3 [.int .i64]
  refine Ar (ι:=Nat×Bool×(List Int)) hg0 hS (fun(x8,x7,x6)=>(wk.length-x8,[(7,.v (.bool x7)),(8,vi ((x8:Nat):Int))],[(2,.sl 3 [.int .i64] x6)],(x8≤wk.length)∧((x7,x6)=HM a b wk i x8)∧(x6.length≤x8)∧True)) [1,2,4,5,6] [0,1] 3 (0,false,[]) [(0,0),(1,1),(2,2)] ⟨Ac,rfl,(by simp),trivial⟩ ?_
  rintro⟨x8,x7,x6⟩ ac gs ws ⟨hx8,hq1,p1,_⟩ hS
  refine Av (Ae [] 3 hS fun hS=>AB ((x8:Int)<((wk.length:Nat):Int)) hS (fun h2=> ?_) (fun h2=> ?_))
  ·refine BE (Ax [(3,AD x8 wk.length)] [] 3 hS fun hS=>AB ((wk.getD x8 0)=(i:Int)) hS (fun h3=> ?_) (fun h3=> ?_))
   ·exact Dj [] 3 hS fun hS=>BV (As [(1,BH x8)] [8] 3 hS fun hS=>Ab (Al hg0 hS (x8+1,true,x6) [(0,0),(1,1),(2,2)] ⟨Ac,(A3 (st:=G_ _ _) hq1 rfl (Eq.symm (if_pos h3))),(by first |omega|(rw[List.length_append,List.length_cons,List.length_nil];omega)),trivial⟩))
   ·exact As [(4,AD x8 wk.length),(7,FW x6.length 1 8)] [6] 4 hS fun hS=>BV (As [(1,BH x8)] [8] 4 hS fun hS=>Ab (Al hg0 hS (x8+1,x7,x6++[(wk.getD x8 0)]) [(0,0),(1,1),(2,3)] ⟨Ac,(A3 (st:=G_ _ _) hq1 rfl (Eq.symm (if_neg h3))),(by first |omega|(rw[List.length_append,List.length_cons,List.length_nil];omega)),trivial⟩))
  ·have hT:=hS
   obtain rfl:wk.length=x8:=by omega
   obtain⟨rfl,rfl⟩:=Ug hq1
   have hS:=hT
   refine ML (Ae [] 3 hS fun hS=>NC (!((HM a b wk i wk.length).1)) hS (fun h4=> ?_) (fun h4=> ?_))
   ·exact Ae [] 3 hS fun hS=>AR (Af (Af (Bi (.trans (M_ ..) ((if_pos h1).trans (if_pos h4))) hS)))
   ·refine BP (Ae [] 3 hS fun hS=>AR (Af ?_))
    obtain⟨gs,hS⟩:=hS.fz 2
    exact Bi (.trans (M_ ..) ((if_pos h1).trans (if_neg (N7 h4)))) hS
 ·refine DU (Ax [(3,G9 i b (i-b))] [] 2 hS fun hS=>AB ((40:Int)<((i-b:Nat):Int)) hS (fun h5=> ?_) (fun h5=> ?_))
  ·exact Ae [] 2 hS fun hS=>AR (Af (Bi (.trans (M_ ..) ((if_neg h1).trans (if_pos h5))) hS))
  ·refine BP (Ax [(3,BH i),(4,Row),(7,FW 0 wk.length 8)] [9] 5 hS fun hS=>Av (Ae [] 5 hS fun hS=>Br (Ar (ι:=Nat×Nat×(List Int)) hg0 hS (fun(k2,x10,o3)=>(i-x10,[(10,vi (x10:Int))],[(3,.sl 3 [.int .i64] o3)],((x10,o3)=BI a b wk i k2)∧(∀j,j<k2→Cs i (BI a b wk i j))∧(b≤x10∧x10≤i∧i≤b+40∧o3.length+b=wk.length+x10)∧True)) [1,4,5,9] [1,4] 5 (0,b,[]++wk) [(1,1),(3,3),(4,4)] ⟨rfl,(fun j h=>absurd h (Nat.not_lt_zero j)),(by simp;omega),trivial⟩ ?_)))
   rintro⟨k2,x10,o3⟩ ac gs ws ⟨hq2,hj2,p2,_⟩ hS
   refine Av (Ae [] 5 hS fun hS=>AB ((x10:Int)<(i:Int)) hS (fun h6=> ?_) (fun h6=> ?_))
   ·exact BE (As [(4,FW o3.length 1 8)] [] 6 hS fun hS=>BV (As [(1,BH x10)] [10] 6 hS fun hS=>Ab (Al hg0 hS (k2+1,x10+1,o3++[(x10:Int)]) [(1,1),(3,5),(4,4)] ⟨(A3 (st:=Jv) hq2 rfl rfl),(A0 hj2 (by rw[←hq2];exact h6)),(by rw[List.length_append,List.length_cons,List.length_nil];omega),trivial⟩)))
   ·have hT:=hS
    obtain rfl:=BK (by rw[←hq2];first |exact h6|exact not_not_intro h6) hj2
    obtain⟨rfl,rfl⟩:=Ug hq2
    have hS:=hT
    refine ML (Ae [] 5 hS fun hS=>AB ((60:Int)<((((BI a b wk i (CS fun j=>Cs i (BI a b wk i j))).2).length:Nat):Int)) hS (fun h7=> ?_) (fun h7=> ?_))
    ·obtain⟨gs,hS⟩:=hS.fz 3
     exact As [(5,G9 (((BI a b wk i (CS fun j=>Cs i (BI a b wk i j))).2).length) 60 ((((BI a b wk i (CS fun j=>Cs i (BI a b wk i j))).2).length)-60)),(6,O2 ((((BI a b wk i (CS fun j=>Cs i (BI a b wk i j))).2).length)-60) ((BI a b wk i (CS fun j=>Cs i (BI a b wk i j))).2).length)] [] 5 hS fun hS=>Ab (Ae [] 5 hS fun hS=>AR (Bi (.trans (M_ ..) ((if_neg h1).trans ((if_neg h5).trans (if_pos h7)))) hS))
    ·refine BP (Ae [] 5 hS fun hS=>AR ?_)
     obtain⟨gs,hS⟩:=hS.fz 3
     exact Bi (.trans (M_ ..) ((if_neg h1).trans ((if_neg h5).trans (if_neg h7)))) hS
end
end
end Go.Sx.Tryz
namespace Go.Sx.Tryz
open Go.Mi Go.RowKit Go.Sx Go.Proofs
noncomputable section
def Aeq (x0 x1:Nat) (x2 x3:List Int) (x4:Nat):O:= .ob 39 (chain [.cp x0 0,.cp x1 0,vi 0,vi 0,.ls false [.int .i64] x2,vi 0,vi 0,.ls false [.int .i64] x3,.sk x4])
def BU (x0:List Int) (x1 x2:Bool) (x3 x4:Nat) (x5:List (List Int)) (x6:List (Int×Int×(List (List Int)))):O:= .ob 80 (chain [lb x0,.v (.bool x1),.v (.bool x2),.cp x3 0,.cp x4 0,.v (.pointer none),vi 0,.ls false [.sl (.int .u8)] x5,vi 0,vi 0,.ls false [.int .i64,.int .i64,.sl (.sl (.int .u8))] x6])
section
variable (root:List Int)
def UJ:(List Int)×(List Int)×(List Int)×(List (List Int))×(List Int)×(List Int)×(List Int)×(List (List Int)):=((FO root true).1,(FO root true).2.1,(FO root true).2.2.1,(FO root true).2.2.2,(FO root false).1,(FO root false).2.1,(FO root false).2.2.1,(FO root false).2.2.2)
def UK:(List Int)×(List Int)×(List Int)×(List (List Int))×(List Int)×(List Int)×(List Int)×(List (List Int)):=AJ (UJ root)
theorem bV:UK root=UJ root:=Ag _
def Vd (z_:(List Int)×(List Int)×(List Int)×(List (List Int))×(List Int)×(List Int)×(List Int)×(List (List Int)):=UK root):Con:=⟨[lb root,.v (.bool false)],[],.tu (chain [.cp 0 0,.v (.bool true)]),[(0,Aeq 1 4 [] [] 7),(1,BU (z_.1) true false 2 3 (z_.2.2.2.1) []),(2,C_ (z_.2.1)),(3,C_ (z_.2.2.1)),(4,BU (z_.2.2.2.2.1) false false 5 6 (z_.2.2.2.2.2.2.2) []),(5,C_ (z_.2.2.2.2.2.1)),(6,C_ (z_.2.2.2.2.2.2.1)),(7,.sl 48 [.int .i64,.int .i64,.sl (.int .u8),.sl (.int .u8)] [])]⟩
theorem W0 (hr:root.length=32):ConOk Tryz.prog 12 (Vd root):=by
 refine cy 0 Tryz.func12 rfl Tryz.ntmps12 fun hg0 hS=> ?_
 have A7:root.length≤9223372036854775807:=hS.len 0 rfl
 refine Ae [] 0 hS fun hS=>Ae [] 1 hS fun hS=>Av (Ae [] 1 hS fun hS=>Br (wp_loop_rounds 3 (Cd (n:=2) (Av (Ae [12] 1 hS fun hS=>AO hS (BE (Ax [(4,AM (ZZ root true AE) [] [(0,1),(1,2),(2,3)])] [16,17,18,19,20,21,22,23] 4 hS fun hS=>Av (Ae [24,25,26,27,28] 4 hS fun hS=>Ai hS (BP (As [(5,AD 0 2)] [30,31,32,33,34,35] 4 hS fun hS=>BV (Dj [7,14,15] 4 hS fun hS=>Ab (Cd (n:=1) (Av (Ae [12] 4 hS fun hS=>AO hS (BE (Ax [(4,AM (ZZ root false AE) [] [(0,4),(1,5),(2,6)])] [16,17,18,19,20,21,22,23] 7 hS fun hS=>Av (Ae [24,25,26,27,28] 7 hS fun hS=>Ai hS (BP (As [(5,AD 1 2)] [30,31,32,33,34,35] 7 hS fun hS=>BV (Dj [7,14,15] 7 hS fun hS=>Ab (Cd (n:=0) (Av (Ae [] 7 hS fun hS=>Ai hS (ML ?_))))))))))))))))))))))))
 have hS:=hS.wko 0 [.top,.top,.top,.top,.ls false [.int .i64] [],.top,.top,.ls false [.int .i64] [],.top]
 obtain⟨gs,hS⟩:=hS.nilob 0 8 48 [.int .i64,.int .i64,.sl (.int .u8),.sl (.int .u8)]
 have hS:=hS.wko 1 [.top,.top,.top,.top,.top,.top,.top,.ls false [.sl (.int .u8)] [],.top,.top,.ls false [.int .i64,.int .i64,.sl (.sl (.int .u8))] []]
 have hS:=hS.wko 4 [.top,.top,.top,.top,.top,.top,.top,.ls false [.sl (.int .u8)] [],.top,.top,.ls false [.int .i64,.int .i64,.sl (.sl (.int .u8))] []]
 exact Dj [0,1,6,7,8,9,13,14,15,16,17,18,19,20,21,22,23,24,25,26,27,28,29,30,31,32,33,34,35] 8 hS fun hS=>DX (Bi (bV ..) hS)
def N_:List Int:=B4 root (ByteArray.mk #[112,97,105,114])
def pM:List Int:=B4 root (ByteArray.mk #[109,105,120])
def pA:List Int:=B4 root (ByteArray.mk #[102,105,114,115,116])
def pB:List Int:=B4 root (ByteArray.mk #[111,116,104,101,114])
end
@[simp] theorem Qn (root:List Int):(pA root).length=32:=Qk ..
@[simp] theorem Qm (root:List Int):(pB root).length=32:=Qk ..
@[simp] theorem YC (root:List Int):(pM root).length=32:=Qk ..
theorem W2 (root:List Int):UK root=(N_ root,pA root,pB root,[pM root],N_ root,pB root,pA root,[pM root]):=by
 have h1:FO root true=(N_ root,pA root,pB root,[pM root]):=by rw[TO];unfold TN;first |rfl|(simp;rfl)
 have h2:FO root false=(N_ root,pB root,pA root,[pM root]):=by rw[TO];unfold TN;first |rfl|(simp;rfl)
 rw[bV];unfold UJ;rw[h1,h2]
end
end Go.Sx.Tryz
namespace Go.Sx.Tryz
open Go.Mi Go.RowKit Go.Sx Go.Proofs
noncomputable section
theorem aZ {a:Int} (ha:0≤a∧a<18446744073709551616):(BitVec.ofInt 64 a).toNat=a.toNat:=by rw[BitVec.toNat_ofInt];omega
theorem Na {x:Int} (h:0≤x∧x<18446744073709551616):IntKind.wrap .u64 x=x:=by
 have :IntKind.wrap .u64 x=x%18446744073709551616:=by simp [IntKind.wrap,IntKind.bits,IntKind.signed]
 rw[this];omega
theorem AbE {a b:Int} (ha:0≤a∧a<18446744073709551616) (hb:0≤b∧b<18446744073709551616):C9 .u64 a b=((a.toNat|||b.toNat:Nat):Int):=by
 have h:a.toNat|||b.toNat<2^64:=Nat.or_lt_two_pow Ac Ac
 unfold C9
 rw[Na]
 ·show(((BitVec.ofInt 64 a|||BitVec.ofInt 64 b).toNat:Nat):Int)=_
  rw[BitVec.toNat_or,aZ ha,aZ hb]
 ·show 0≤(((BitVec.ofInt 64 a|||BitVec.ofInt 64 b).toNat:Nat):Int)∧(((BitVec.ofInt 64 a|||BitVec.ofInt 64 b).toNat:Nat):Int)<_
  rw[BitVec.toNat_or,aZ ha,aZ hb]
  omega
theorem Ae1:((List.range 256).all fun c=>decide (Ee .u8 ((c:Nat):Int) 128=((c%128:Nat):Int)))=true:=by kernel_rfl
theorem Ae2 (c:Nat) (h:c<256):Ee .u8 (c:Int) 128=((c%128:Nat):Int):=of_decide_eq_true (List.all_eq_true.1 Ae1 c (List.mem_range.2 h))
theorem AeD:((List.range 256).all fun c=>decide (C9 .u8 ((c:Nat):Int) 128=((128+c%128:Nat):Int)))=true:=by kernel_rfl
theorem Agj (c:Nat) (h:c<256):C9 .u8 (c:Int) 128=((128+c%128:Nat):Int):=of_decide_eq_true (List.all_eq_true.1 AeD c (List.mem_range.2 h))
theorem grp {v x i:Nat} (hv:v<2^(7*i)) (hx:x<128) (hl:x*2^(7*i)+v<2^62) (c:Int) (hc:Ee .u8 c 128=(x:Nat)):C9 .u64 (v:Int) (Bf .u64 (IntKind.wrap .u64 (Ee .u8 c 128)) ((7*i:Nat):Int))=((x*2^(7*i)+v:Nat):Int):=by
 rw[hc,Na Ac]
 by_cases hi:7*i≤64
 ·have h1 : Bf .u64 (x : Int) ((7 * i : Nat) : Int) = ((x * 2 ^ (7 * i) : Nat) : Int) := by
   unfold Bf
   rw[show min ((7*i:Nat):Int).toNat (IntKind.bits .u64)=7*i by simp [IntKind.bits];omega,show(x:Int)*2^(7*i)=((x*2^(7*i):Nat):Int) by simp]
   exact Na Ac
  rw[h1,AbE Ac Ac,Int.toNat_natCast,Int.toNat_natCast]
  congr 1
  rw[Nat.or_comm,Nat.mul_comm x]
  exact(Nat.two_pow_add_eq_or_of_lt hv x).symm
 ·have h2:2^62≤2^(7*i):=Nat.pow_le_pow_right (by decide) Ac
  have hx0:x=0:=by
   rcases Nat.eq_zero_or_pos x with h|h
   ·exact h
   ·have :1*2^(7*i)≤x*2^(7*i):=Nat.mul_le_mul_right _ h
    omega
  subst hx0
  have h1:Bf .u64 ((0:Nat):Int) ((7*i:Nat):Int)=((0:Nat):Int):=by
   unfold Bf
   rw[show((0:Nat):Int)=0 from rfl,Int.zero_mul];rfl
  rw[h1,AbE Ac Ac,Int.toNat_natCast,Int.toNat_natCast,Nat.or_zero,Nat.zero_mul,Nat.zero_add]
theorem Acv (r:List Int):∀(m i v:Nat),v<2^(7*i)→m*2^(7*i)+v<2^62→i≤9→(0<i→0<m)→Qt (10-i) i ((v:Nat):Int) (Ak m++r)=some (((m*2^(7*i)+v:Nat):Int),r):=by
 intro m
 induction m using Nat.strongRecOn with
 |_ m ih=>
  intro i v hv hl hi hp
  obtain⟨k,hk⟩:∃k,10-i=k+1:=⟨9-i,by omega⟩
  have hpow:0<2^(7*i):=Nat.pow_pos (by decide)
  have hw:IntKind.wrap .u8 (m:Int)=((m%256:Nat):Int):=by rw[ER];omega
  by_cases h:128≤m
  ·have h2:128*2^(7*i)≤m*2^(7*i):=Nat.mul_le_mul_right _ h
   have hi2:i≤7:=by
    rcases Nat.lt_or_ge 7 i with h3|h3
    ·have :2^56≤2^(7*i):=Nat.pow_le_pow_right (by decide) Ac
     omega
    ·exact h3
   have hdm:m=128*(m/128)+m%128:=(Nat.div_add_mod m 128).symm
   have hc:C9 .u8 (IntKind.wrap .u8 (m:Int)) 128=((128+m%128:Nat):Int):=by
    rw[hw]
    have :=Agj (m%256) (Nat.mod_lt _ (by decide))
    rw[show(m%256)%128=m%128 by omega]at this
    exact this
   have hlo:Ee .u8 ((128+m%128:Nat):Int) 128=((m%128:Nat):Int):=by
    have :=Ae2 (128+m%128) Ac
    rw[show(128+m%128)%128=m%128 by omega]at this
    exact this
   have hmul:m*2^(7*i)=m/128*2^(7*(i+1))+m%128*2^(7*i):=by
    rw[show 7*(i+1)=7+7*i by omega,Nat.pow_add,show(2:Nat)^7=128 from rfl,←Nat.mul_assoc,←Nat.add_mul]
    congr 1;omega
   rw[Nv h,List.cons_append,hk,hc]
   show(if(128:Int)≤((128+m%128:Nat):Int)then Qt k (i+1) (C9 .u64 _ (Bf .u64 (IntKind.wrap .u64 (Ee .u8 _ 128)) _)) (Ak (m/128)++r)else _)=_
   rw[if_pos Ac,grp hv (Nat.mod_lt _ (by decide)) Ac _ hlo]
   have hv2:m%128*2^(7*i)+v<2^(7*(i+1)):=by
    rw[show 7*(i+1)=7+7*i by omega,Nat.pow_add,show(2:Nat)^7=128 from rfl]
    have :m%128*2^(7*i)≤127*2^(7*i):=Nat.mul_le_mul_right _ Ac
    omega
   have :=ih (m/128) Ac (i+1) (m%128*2^(7*i)+v) hv2 Ac Ac (fun _=>by omega)
   rw[show 10-(i+1)=k by omega]at this
   rw[this,hmul,Nat.add_assoc]
  ·have hc:IntKind.wrap .u8 (m:Int)=(m:Int):=by rw[hw];omega
   have hlo:Ee .u8 (m:Int) 128=(m:Int):=by
    have :=Ae2 m Ac
    rw[show m%128=m by omega]at this
    exact this
   rw[Qs h,hk,hc]
   show(if(128:Int)≤(m:Int)then _ else if i=9∧(1:Int)<(m:Int)then none else if 0<i∧(m:Int)=0 then none else some (C9 .u64 _ (Bf .u64 (IntKind.wrap .u64 (Ee .u8 _ 128)) _),r))=_
   have h9:¬(i=9∧(1:Int)<(m:Int)):=fun⟨e,h1⟩=>by
    subst e
    have :1*2^63≤m*2^(7*9):=Nat.mul_le_mul_right _ Ac
    omega
   rw[if_neg Ac,if_neg h9,if_neg (fun⟨a,b⟩=>by have :=hp a;omega),grp hv Ac hl _ hlo]
theorem EZ {n:Nat} (h:n<2^62) (r:List Int):Iy (Ak n++r)=some ((n:Int),r):=by
 have :=Acv r n 0 0 (by decide) (by simpa using h) (by decide) (fun h=>absurd h (by decide))
 unfold Iy
 simpa using this
theorem Nw {n:Nat} (h:n<2^62) (r:List Int):Ad (Ak n++r)=((n:Int),r):=EJ (EZ h r)
theorem Ur {n:Nat} (h:n<2^62) (r:List Int):FQ (Ak n++r)=true:=IZ (EZ h r)
end
end Go.Sx.Tryz
namespace Go.Sx.Tryz
open Go.Mi Go.RowKit Go.Sx Go.Proofs
noncomputable section
theorem vE {n m:Nat} (h:n<2^62) (hm:n≤m) (r:List Int):Ew (Ak n++r) m=true:=by
 rw[Hh];unfold IM
 rw[Ur h,Nw h,if_pos rfl,if_neg (by show¬(m:Int)<(n:Int);omega)]
theorem lS {xs:List Int} {n:Nat} (h:n≤xs.length):Cn xs n=true:=by
 cases hk:Cn xs n with
 |true=>rfl
 |false=>exact absurd (Hq (by rw[hk];decide)) Ac
theorem eM {d:List Int} {m:Nat} (h:d.length≤m) (hm:m<2^62):Bg (Ak d.length++d) m=true:=by
 rw[Fe];unfold Gt
 rw[vE Ac h,if_pos rfl,Nw Ac]
 show(if Cn d ((d.length:Nat):Int).toNat=true then true else false)=true
 rw[Int.toNat_natCast,lS (Nat.le_refl _),if_pos rfl]
theorem Afj {id ai ct:Nat} {d:List Int} (h:id≤1073741824∧ai≤1073741824∧ct≤1073741824) (hd:d.length≤1000):FL (Dx id ai ct d)=true∧Bz (Dx id ai ct d)=([],id,ai,ct,d):=by
 have e:Dx id ai ct d=Ak id++(Ak ai++(Ak ct++(Ak d.length++d))):=by unfold Dx;simp only[List.append_assoc]
 have q1:=Nw (n:=id) Ac (Ak ai++(Ak ct++(Ak d.length++d)))
 have q2:=Nw (n:=ai) Ac (Ak ct++(Ak d.length++d))
 have q3:=Nw (n:=ct) Ac (Ak d.length++d)
 have q4:=Nw (n:=d.length) Ac d
 have b1:=Ur (n:=id) Ac (Ak ai++(Ak ct++(Ak d.length++d)))
 have b2:=Ur (n:=ai) Ac (Ak ct++(Ak d.length++d))
 have b3:=Ur (n:=ct) Ac (Ak d.length++d)
 rw[e]
 constructor
 ·rw[G5];unfold UX
  simp only[q1,q2,q3,b1,b2,b3,eM hd (show 1000<2^62 by decide),if_true]
  rw[if_neg Ac,if_neg Ac,if_neg Ac]
 ·rw[cH];unfold cG
  simp only[q1,q2,q3,q4,Int.toNat_natCast]
  rw[List.take_of_length_le (Nat.le_refl _),List.drop_of_length_le (Nat.le_refl _)]
theorem yS {id ai ct:Nat} {d:List Int} (h:id≤1073741824∧ct≤1073741824∧ai<ct) (hd:1≤d.length∧d.length≤1000):Q9 (Dx id ai ct d)=(id,ai,ct,d,0):=by
 obtain⟨h1,h2⟩:=Afj (id:=id) (ai:=ai) (ct:=ct) (d:=d) Ac hd.2
 have h3:J_ (Dx id ai ct d)=true:=by
  rw[P8];unfold T3
  rw[h1,if_pos rfl,h2,Oy];unfold T2
  rfl
 have h4:B1 (Dx id ai ct d)=(id,ai,ct,d):=by rw[mA];unfold l7;rw[h2]
 rw[Jl];unfold Q8
 rw[h3,if_pos rfl,h4]
 simp only[Xf h hd]
 rw[if_pos (by rfl),if_pos trivial]
end
end Go.Sx.Tryz
namespace Go.Sx
open Go.Mi Go.RowKit
variable [Dfr]
def U7 (ρ:M9) (ks0:List Nat) (L':DL) (H':Hc) (nb':Nat):Bool:=
 let a:=Ao ρ
 Gx a&&Gx (H'.map fun p=>rn ρ p.1)&&(ks0.all fun k=>BQ k a&&Nat.beq (rn ρ k) k)&&(L'.all fun p=>Ef a p.2)&&(H'.all fun p=>BQ p.1 a&&Ei a p.2)&&(a.all (Nat.blt · nb'))
section
variable {P:Program} {n:Nat} {L:DL} {H:Hp} {S0:Nat→Prop} {g0 g:G} {w0 w:World} {nb:Nat} {a:Act}
theorem St.ren2 {ks0:List Nat} (hg0:∀k v,g0.N k=some v→k∈ks0) (hS:St n S0 g0 w0 L H nb a g w) (ρ:M9) (L':DL) (H':Hc) (nb':Nat) (hc:U7 ρ ks0 L' H' nb'=true) (hL:A_ L (Ao L')=L'.map fun p=>(p.1,p.2.ren (rn ρ))) (hH:RG H (rn ρ) H'):∃g',St n S0 g0 w0 L' (FS H') nb' a g' w:=by
 simp only[U7,Bool.and_eq_true,List.all_eq_true]at hc
 obtain⟨⟨⟨⟨⟨c1,c2⟩,c3⟩,c4⟩,c5⟩,c6⟩:=hc
 have c1:=EK c1
 have c2:=EK c2
 have nm:∀{ks:List Nat} {d:D},Ef ks d=true→d.plain=true∧∀k∈d.nm,k∈ks:=fun {ks d} h=>by
  simp only[Ef,Bool.and_eq_true,List.all_eq_true]at h
  exact⟨h.1,fun k hk=>AQ.1 (h.2 k hk)⟩
 have nmO:∀{ks:List Nat} {d:O},Ei ks d=true→d.plain=true∧∀k∈d.nm,k∈ks:=fun {ks d} h=>by
  simp only[Ei,Bool.and_eq_true,List.all_eq_true]at h
  exact⟨h.1,fun k hk=>AQ.1 (h.2 k hk)⟩
 let g':G:=⟨fun k=>if k∈Ao ρ then g.N (rn ρ k)else none,fun k=>g.F (rn ρ k),g.X⟩
 have gN:∀k∈Ao ρ,g'.N k=g.N (rn ρ k):=fun k hk=>if_pos hk
 have hk0:∀k∈ks0,k∈Ao ρ∧rn ρ k=k:=fun k hk=>by
  have :=c3 k hk
  exact⟨AQ.1 this.1,Nat.eq_of_beq_eq_true this.2⟩
 have hob:∀k o,AT (FS H') k=some o→k∈Ao ρ∧o.plain=true∧(∀j∈o.nm,j∈Ao ρ)∧AT H (rn ρ k)=some (o.ren (rn ρ)):=fun k o ho=>by
  rw[F4]at ho
  have :=c5 _ (JO ho)
  simp only at this
  exact⟨AQ.1 this.1,(nmO this.2).1,(nmO this.2).2,M5 hH ho⟩
 have hinj:∀i∈Ao H',∀j∈Ao H',rn ρ i=rn ρ j→i=j:=by
  have key:∀(l:Hc),List.Nodup (l.map fun p=>rn ρ p.1)→∀i∈Ao l,∀j∈Ao l,rn ρ i=rn ρ j→i=j:=by
   intro l
   induction l with
   |nil=>intro _ i hi;cases hi
   |cons p l ih=>
    intro hn i hi j hj e
    rw[List.map_cons,List.nodup_cons]at hn
    simp only[Ao,List.map_cons,List.mem_cons]at hi hj
    have inn:∀x,x∈l.map (·.1)→rn ρ x∈l.map fun p=>rn ρ p.1:=fun x hx=>by
     obtain⟨q,hq,rfl⟩:=List.mem_map.1 hx
     exact List.mem_map.2 ⟨q,hq,rfl⟩
    rcases hi with rfl|hi
    ·rcases hj with rfl|hj
     ·rfl
     ·exact absurd (e▸inn j hj) hn.1
    ·rcases hj with rfl|hj
     ·exact absurd (e▸inn i hi) hn.1
     ·exact ih hn.2 i hi j hj e
  exact key H' c2
 have kin:∀k o,AT (FS H') k=some o→k∈Ao H':=fun k o ho=>by
  rw[F4]at ho
  exact List.mem_map.2 ⟨_,JO ho,rfl⟩
 refine⟨g',hS.size,hS.defers,fun t d ht=> ?_,⟨hS.hs.wf,fun k o ho=> ?_,fun k o ho b hb=> ?_,fun k o k' o' ho ho' hne b hb hb'=> ?_⟩,⟨hS.go.ch,hS.go.s,hS.go.x,hS.go.k,fun k v hk=> ?_,fun k v hk=> ?_⟩,hS.wf0,fun k o ho b hb=> ?_,fun k v hk=> ?_⟩
 ·have h1:Dn (A_ L (Ao L')) t=some (d.ren (rn ρ)):=by rw[hL,OE,ht];rfl
  have h2:=hS.fr t _ (En h1).2
  obtain⟨p1,p2⟩:=nm (c4 _ (OD ht))
  exact(Fz d _ _ p1 fun k hk=>gN k (p2 k hk)).1 h2
 ·obtain⟨h1,h2,h3,h4⟩:=hob k o ho
  exact(Ju h2 (fun j hj=>gN j (h3 j hj)) (gN k h1) rfl rfl).1 (hS.hs.os _ _ h4)
 ·exact hS.hs.own _ _ (hob k o ho).2.2.2 b hb
 ·exact hS.hs.dis _ _ _ _ (hob k o ho).2.2.2 (hob k' o' ho').2.2.2 (fun e=>hne (hinj k (kin k o ho) k' (kin k' o' ho') e)) b hb hb'
 ·obtain⟨h1,h2⟩:=hk0 k (hg0 k v hk)
  rw[gN k h1,h2]
  exact hS.go.n k v hk
 ·obtain⟨h1,h2⟩:=hk0 k (hg0 k v hk)
  show g.F (rn ρ k)=_
  rw[h2]
  exact hS.go.f k v hk
 ·exact hS.fp _ _ (hob k o ho).2.2.2 b hb
 ·by_cases h:k∈Ao ρ
  ·have :=c6 k h
   rw[Nat.blt_eq]at this
   exact this
  ·rw[show g'.N k=none from if_neg h]at hk;cases hk
end
section
variable {n:Nat} {σ:Sg} {S0:Nat→Prop} {g0 g:G} {w0 w:World} {nb:Nat} {a:Act}
theorem Sp.rn2 {ks0:List Nat} (hS:Sp n S0 g0 w0 σ nb a g w) (ρ:M9) (L':DL) (H':Hc) (nb':Nat) (hg0:∀k v,g0.N k=some v→k∈ks0) (hc:U7 ρ ks0 L' H' nb'=true:=by kernel_rfl) (hL:A_ σ.1 (Ao L')=L'.map fun p=>(p.1,p.2.ren (Go.Sx.rn ρ)):=by kernel_rfl) (hH:(H'.map fun p=>AT σ.2 (Go.Sx.rn ρ p.1))=(H'.map fun p=>some (p.2.ren (Go.Sx.rn ρ))):=by kernel_rfl):∃g',Sp n S0 g0 w0 (L',FS H') nb' a g' w:=
 St.ren2 hg0 hS.st ρ L' H' nb' hc hL (by
  clear hc hL
  induction H' with
  |nil=>trivial
  |cons p r ih=>
   obtain⟨j,o⟩:=p
   simp only[List.map_cons,List.cons.injEq]at hH
   exact⟨hH.1,ih hH.2⟩)
end
end Go.Sx
namespace Go.Sx.Tryz
open Go.Mi Go.RowKit Go.Sx Go.Proofs
noncomputable section
theorem Q1 {id ai ct:Nat} {d:List Int} (h:1≤d.length):1≤(Dx id ai ct d).length:=by unfold Dx;rw[List.length_append];omega
section
variable (id ai ct:Nat) (d:List Int)
def Ad5:Con:=⟨[lb (Dx id ai ct d)],[],.tu (chain [.ag (chain [vi (id:Int),vi (ai:Int),vi (ct:Int),lb d]),vi 0]),[]⟩
theorem yR (h:id≤1073741824∧ct≤1073741824∧ai<ct) (hd:1≤d.length∧d.length≤1000):ConOk Tryz.prog 108 (Ad5 id ai ct d):=by
 have hl:(Dx id ai ct d).length≤100000000000000:=by
  have h1:=AH (n:=id) Ac
  have h2:=AH (n:=ai) Ac
  have h3:=AH (n:=ct) Ac
  have h4:=AH (n:=d.length) Ac
  unfold Dx
  simp only[List.length_append];omega
 have h1:=f5 (Dx id ai ct d) hl
 unfold XH at h1
 rw[yS h hd]at h1
 exact h1
end
end
end Go.Sx.Tryz
namespace Go.Sx.Tryz
open Go.Mi Go.RowKit Go.Sx Go.Proofs
noncomputable section
end
end Go.Sx.Tryz
namespace Go.Sx.Tryz
open Go.Mi Go.RowKit Go.Sx Go.Proofs
noncomputable section
section
variable (x0 x1:Nat)
def IC (x2:Nat) (x3 x4:List Int) (x5 x6:Nat):O:= .ob 126 (chain [vi 1000,vi ((x0:Nat):Int),vi ((x1:Nat):Int),vi ((x2:Nat):Int),lb x3,lb x4,.cp x5 0,.sk x6])
def Vo (x2:List (Option (List Int))):O:= .ob 187 (chain [vi ((x0:Nat):Int),vi 1000,vi ((x1:Nat):Int),.ls false [.os (.int .u8)] x2])
def AaX:O:= .ob 187 (chain [vi ((x0:Nat):Int),vi 1000,vi 1088,.sk x1])
def uB:O:= .ob 187 (chain [vi ((x0:Nat):Int),vi 1000,vi 1184,.sk x1])
def Bd (x2:Nat) (x3 x4:List Int) (x5:Nat):O:= .ob 126 (chain [vi 1000,vi ((x0:Nat):Int),vi ((x1:Nat):Int),vi ((x2:Nat):Int),lb x3,lb x4,.cp x5 0,.v (.slice none 0 0)])
def Dh (x2:Nat):O:= .ob 187 (chain [vi ((x0:Nat):Int),vi 1000,vi ((x1:Nat):Int),.sk x2])
def Agd (x2 x3:Nat):O:= .ob 126 (chain [vi 1000,vi ((x0:Nat):Int),vi ((x1:Nat):Int),vi 0,.v (.slice none 0 0),.v (.slice none 0 0),.cp x2 0,.sk x3])
end
section
variable (id sz ln:Nat) (bx:List (Option (List Int))) (pid pa ct:Nat)
def AaG (q:Nat) (d:List Int):Con:=⟨[.cp 0 0,.ag (chain [vi (pid:Int),vi (pa:Int),vi (ct:Int),lb d])],[(0,R1 id sz ln 1),(1,.sl 22 [.os (.int .u8)] bx)],vi ((N8 bx pa:Nat):Int),[(0,R1 id sz ln 1),(1,.sl 22 [.os (.int .u8)] (A9 bx pa d))]⟩
theorem XL (q:Nat) (d:List Int) (hb:bx.length≤10000) (hz:sz≤1000∧ln≤10000) (hpid:pid=id) (hq:q=pa*sz) (hql:q<ln) (hpa:pa<bx.length) (hct:ct=bx.length) (hdl:d.length=min sz (ln-q)) (hft:Lm bx pa d) (hd:1≤d.length∧d.length≤100000):ConOk Tryz.prog 133 (AaG id sz ln bx pid pa ct q d):=by
 subst hpid
 exact tW pid sz ln bx pa ct q d hb hz hq hql hpa hct hdl hft hd
end
section
variable (st ep at_:Nat) (sd tx:List Int) (id ln:Nat) (bx:List (Option (List Int)))
def iH (sec:List (List Int)) (e2:Nat):Con:=⟨[.cp 0 0,vi (e2:Int)],[(0,IC st ep at_ sd tx 1 2),(1,Vo id ln bx),(2,.sl 22 [.sl (.int .u8)] sec)],.cp 3 0,[(0,IC st ep at_ sd tx 1 2),(1,Vo id ln bx),(2,.sl 22 [.sl (.int .u8)] sec),(3,AaX ((2*e2)+1) 4),(4,.sl 22 [.os (.int .u8)] (List.replicate 2 none))]⟩
theorem Y8 (sec:List (List Int)) (e2:Nat) (hst:st=1) (he2:e2≤500000000):ConOk Tryz.prog 114 (iH st ep at_ sd tx id ln bx sec e2):=by
 refine cy 3 Tryz.func114 rfl Tryz.ntmps114 fun hg0 hS=> ?_
 have E5:sec.length≤9223372036854775807:=hS.lens 2 rfl
 have hs1:(st:Int)=1:=Ac
 exact ES [] 3 hS fun hS=>Hb [(1,HJ 2 e2 (2*e2))] [] 3 hS fun hS=>Av (Hb [(4,GG hs1)] [] 3 hS fun hS=>AO hS (RJ [(1,HJ 2 e2 (2*e2)),(2,Ek (2*e2) 1 ((2*e2)+1))] [] 3 hS fun hS=>Ab (Hb [(12,RE ((1000:Int)≠0)),(18,AM (MR ((2*e2)+1) 2 1000 1088 Ac Ac) [] [(0,3),(1,4)])] [] 5 hS fun hS=>ES [] 5 hS fun hS=>AR (BW hS))))
def iG (sec:List (List Int)) (e2:Nat):Con:=⟨[.cp 0 0,vi (e2:Int)],[(0,IC st ep at_ sd tx 1 2),(1,Vo id ln bx),(2,.sl 22 [.sl (.int .u8)] sec)],.cp 3 0,[(0,IC st ep at_ sd tx 1 2),(1,Vo id ln bx),(2,.sl 22 [.sl (.int .u8)] sec),(3,uB (2*e2) 4),(4,.sl 22 [.os (.int .u8)] (List.replicate 2 none))]⟩
theorem Y7 (sec:List (List Int)) (e2:Nat) (hst:st=2) (he2:e2≤500000000):ConOk Tryz.prog 114 (iG st ep at_ sd tx id ln bx sec e2):=by
 refine cy 3 Tryz.func114 rfl Tryz.ntmps114 fun hg0 hS=> ?_
 have E5:sec.length≤9223372036854775807:=hS.lens 2 rfl
 have hs1:¬(st:Int)=1:=Ac
 exact ES [] 3 hS fun hS=>Hb [(1,HJ 2 e2 (2*e2))] [] 3 hS fun hS=>Av (Hb [(4,DC hs1)] [] 3 hS fun hS=>Ai hS (BP (Hb [(12,RE ((1000:Int)≠0)),(18,AM (MR (2*e2) 2 1000 1184 Ac Ac) [] [(0,3),(1,4)])] [] 5 hS fun hS=>ES [] 5 hS fun hS=>AR (BW hS))))
def iF (e2:Nat):Con:=⟨[.cp 0 0,vi (e2:Int)],[(0,Bd st ep at_ sd tx 1),(1,Dh id ln 2),(2,.sl 22 [.os (.int .u8)] bx)],.cp 3 0,[(0,Bd st ep at_ sd tx 1),(1,Dh id ln 2),(2,.sl 22 [.os (.int .u8)] bx),(3,uB (2*e2) 4),(4,.sl 22 [.os (.int .u8)] (List.replicate 2 none))]⟩
theorem Y6 (e2:Nat) (hst:st=2) (he2:e2≤500000000):ConOk Tryz.prog 114 (iF st ep at_ sd tx id ln bx e2):=by
 refine cy 3 Tryz.func114 rfl Tryz.ntmps114 fun hg0 hS=> ?_
 have E5:bx.length≤9223372036854775807:=hS.lens 2 rfl
 have hs1:¬(st:Int)=1:=Ac
 exact ES [] 3 hS fun hS=>Hb [(1,HJ 2 e2 (2*e2))] [] 3 hS fun hS=>Av (Hb [(4,DC hs1)] [] 3 hS fun hS=>Ai hS (BP (Hb [(12,RE ((1000:Int)≠0)),(18,AM (MR (2*e2) 2 1000 1184 Ac Ac) [] [(0,3),(1,4)])] [] 5 hS fun hS=>ES [] 5 hS fun hS=>AR (BW hS))))
def g7 (sec:List (List Int)) (e2:Nat):Con:=⟨[.cp 0 0,vi (e2:Int)],[(0,IC st ep at_ sd tx 1 2),(1,Vo id ln bx),(2,.sl 22 [.sl (.int .u8)] sec)],.cp 0 0,[(0,Agd st e2 3 2),(1,Vo id ln bx),(2,.sl 22 [.sl (.int .u8)] sec),(3,AaX ((2*e2)+1) 4),(4,.sl 22 [.os (.int .u8)] (List.replicate 2 none))]⟩
theorem YO (sec:List (List Int)) (e2:Nat) (hst:st=1) (he2:e2≤500000000):ConOk Tryz.prog 77 (g7 st ep at_ sd tx id ln bx sec e2):=by
 refine cy 3 Tryz.func77 rfl Tryz.ntmps77 fun hg0 hS=> ?_
 have E5:sec.length≤9223372036854775807:=hS.lens 2 rfl
 exact ES [] 3 hS fun hS=>Hb [(8,AM (Y8 st ep at_ sd tx id ln bx sec e2 Ac Ac) [(0,0),(1,1),(2,2)] [(3,3),(4,4)])] [] 5 hS fun hS=>ES [] 5 hS fun hS=>AR (BW hS)
def g6 (e2:Nat):Con:=⟨[.cp 0 0,vi (e2:Int)],[(0,Bd st ep at_ sd tx 1),(1,Dh id ln 2),(2,.sl 22 [.os (.int .u8)] bx)],.cp 0 0,[(0,.ob 126 (chain [vi 1000,vi (st:Int),vi (e2:Int),vi 0,.v (.slice none 0 0),.v (.slice none 0 0),.cp 3 0,.v (.slice none 0 0)])),(1,Dh id ln 2),(2,.sl 22 [.os (.int .u8)] bx),(3,uB (2*e2) 4),(4,.sl 22 [.os (.int .u8)] (List.replicate 2 none))]⟩
theorem YN (e2:Nat) (hst:st=2) (he2:e2≤500000000):ConOk Tryz.prog 77 (g6 st ep at_ sd tx id ln bx e2):=by
 refine cy 3 Tryz.func77 rfl Tryz.ntmps77 fun hg0 hS=> ?_
 have E5:bx.length≤9223372036854775807:=hS.lens 2 rfl
 exact ES [] 3 hS fun hS=>Hb [(8,AM (Y6 st ep at_ sd tx id ln bx e2 Ac Ac) [(0,0),(1,1),(2,2)] [(3,3),(4,4)])] [] 5 hS fun hS=>ES [] 5 hS fun hS=>AR (BW hS)
def AaK (pid pa:Nat) (ct q:Nat) (d:List Int):Con:=⟨[.cp 0 0,.ag (chain [vi (pid:Int),vi (pa:Int),vi (ct:Int),lb d])],[(0,Bd st ep at_ sd tx 1),(1,Dh id ln 2),(2,.sl 22 [.os (.int .u8)] bx)],.tu (chain [.v (.slice none 0 0),vi 0]),[(0,Bd st ep at_ sd tx 1),(1,Dh id ln 2),(2,.sl 22 [.os (.int .u8)] (A9 bx pa d))]⟩
theorem XP (pid pa:Nat) (ct q:Nat) (d:List Int) (hb:1≤bx.length∧bx.length≤10000) (hz:ln≤10000) (hpid:pid=id) (hq:q=pa*1000) (hql:q<ln) (hpa:pa<bx.length) (hct:ct=bx.length) (hdl:d.length=min 1000 (ln-q)) (hft:Lm bx pa d) (hd:1≤d.length∧d.length≤1000) (hf:full (A9 bx pa d)=false):ConOk Tryz.prog 142 (AaK st ep at_ sd tx id ln bx pid pa ct q d):=by
 refine cy 3 Tryz.func142 rfl Tryz.ntmps142 fun hg0 hS=> ?_
 have E5:bx.length≤9223372036854775807:=hS.lens 2 rfl
 have hbe:¬((N8 bx pa:Nat):Int)=2:=(XM bx pa)
 refine Ae [] 4 hS fun hS=>Av (Ax [(5,AM (XL id 1000 ln bx pid pa ct q d AE Ac Ac BF Ac Ac Ac BF (by first |assumption|exact hft Ac) AE) [(0,1),(1,2)] []),(6,DC hbe)] [] 4 hS fun hS=>Ai hS (DU ?_))
 have hpl:=Gu bx pa d
 exact As [(4,AM (iP id 1000 ln (A9 bx pa d) AE BF) [(0,1),(1,2)] [])] [] 4 hS fun hS=>Ab (Ae [] 4 hS fun hS=>AR (BW hS))
def AaJ (pid pa:Nat) (ct q:Nat) (d:List Int):Con:=⟨[.cp 0 0,.ag (chain [vi (pid:Int),vi (pa:Int),vi (ct:Int),lb d])],[(0,Bd st ep at_ sd tx 1),(1,Dh id ln 2),(2,.sl 22 [.os (.int .u8)] bx)],.tu (chain [lb ((G3 (A9 bx pa d)).flatten),vi 0]),[(0,Bd st ep at_ sd tx 1),(1,Vo id ln (A9 bx pa d))]⟩
theorem XO (pid pa:Nat) (ct q:Nat) (d:List Int) (hb:1≤bx.length∧bx.length≤10000) (hz:ln≤10000) (hpid:pid=id) (hq:q=pa*1000) (hql:q<ln) (hpa:pa<bx.length) (hct:ct=bx.length) (hdl:d.length=min 1000 (ln-q)) (hft:Lm bx pa d) (hd:1≤d.length∧d.length≤1000) (hf:full (A9 bx pa d)=true) (hl:((G3 (A9 bx pa d)).flatten).length≤100000):ConOk Tryz.prog 142 (AaJ st ep at_ sd tx id ln bx pid pa ct q d):=by
 refine cy 3 Tryz.func142 rfl Tryz.ntmps142 fun hg0 hS=> ?_
 have E5:bx.length≤9223372036854775807:=hS.lens 2 rfl
 have hbe:¬((N8 bx pa:Nat):Int)=2:=(XM bx pa)
 refine Ae [] 4 hS fun hS=>Av (Ax [(5,AM (XL id 1000 ln bx pid pa ct q d AE Ac Ac BF Ac Ac Ac BF (by first |assumption|exact hft Ac) AE) [(0,1),(1,2)] []),(6,DC hbe)] [] 4 hS fun hS=>Ai hS (DU ?_))
 have hpl:=Gu bx pa d
 exact As [(4,AM (iO id 1000 ln (A9 bx pa d) AE BF BF) [(0,1),(1,2)] [])] [] 4 hS fun hS=>Ab (Ae [] 4 hS fun hS=>AR (BW hS))
end
end
end Go.Sx.Tryz
namespace Go.Sx.Tryz
open Go.Mi Go.RowKit Go.Sx Go.Proofs
noncomputable section
section
variable (st ep at_:Nat) (sd tx:List Int) (id ln:Nat) (bx:List (Option (List Int))) (pid pa ct:Nat)
def gO (q:Nat) (d r:List Int):Con:=⟨[.cp 0 0,.ag (chain [vi (pid:Int),vi (pa:Int),vi (ct:Int),lb d]),lb r],[(0,Bd st ep at_ sd tx 1),(1,Dh id ln 2),(2,.sl 22 [.os (.int .u8)] bx)],vi 0,[(0,Bd st ep at_ sd tx 1),(1,Dh id ln 2),(2,.sl 22 [.os (.int .u8)] (A9 bx pa d))]⟩
theorem Pt (q:Nat) (d r:List Int) (hb:1≤bx.length∧bx.length≤10000) (hz:ln≤10000) (hpid:pid=id) (hq:q=pa*1000) (hql:q<ln) (hpa:pa<bx.length) (hct:ct=bx.length) (hdl:d.length=min 1000 (ln-q)) (hft:Lm bx pa d) (hd:1≤d.length∧d.length≤1000) (hst:st=2) (hf:full (A9 bx pa d)=false):ConOk Tryz.prog 110 (gO st ep at_ sd tx id ln bx pid pa ct q d r):=by
 refine cy 3 Tryz.func110 rfl Tryz.ntmps110 fun hg0 hS=> ?_
 have B2:r.length≤9223372036854775807:=hS.len 2 rfl
 have E5:bx.length≤9223372036854775807:=hS.lens 2 rfl
 exact Ae [] 4 hS fun hS=>Ax [(2,AM (XP st ep at_ sd tx id ln bx pid pa ct q d AE Ac Ac BF Ac Ac Ac BF (by first |assumption|exact hft Ac) AE BF) [(0,0),(1,1),(2,2)] [])] [] 4 hS fun hS=>Av (Ae [] 4 hS fun hS=>AO hS (Ae [] 4 hS fun hS=>AR (Af (BW hS))))
def gM (q:Nat) (d r:List Int):Con:=⟨[.cp 0 0,.ag (chain [vi (pid:Int),vi (pa:Int),vi (ct:Int),lb d]),lb r],[(0,Bd st ep at_ sd tx 1),(1,Dh id ln 2),(2,.sl 22 [.os (.int .u8)] bx)],vi 0,[(0,.ob 126 (chain [vi 1000,vi 3,vi (ep:Int),vi 0,lb sd,.sk 3,.cp 4 0,.sk 6])),(1,Vo id ln (A9 bx pa d)),(3,.sl 5 [.int .u8] ((Eb ((G3 (A9 bx pa d)).flatten) (r.take 32)).2)),(4,uB (2*ep) 5),(5,.sl 22 [.os (.int .u8)] (List.replicate 2 none)),(6,.sl 22 [.sl (.int .u8)] ([]++[(Eb ((G3 (A9 bx pa d)).flatten) (r.take 32)).1]))]⟩
theorem X9 (q:Nat) (d r:List Int) (hb:1≤bx.length∧bx.length≤10000) (hz:ln≤10000) (hpid:pid=id) (hq:q=pa*1000) (hql:q<ln) (hpa:pa<bx.length) (hct:ct=bx.length) (hdl:d.length=min 1000 (ln-q)) (hft:Lm bx pa d) (hd:1≤d.length∧d.length≤1000) (hst:st=2) (hck:chk ((G3 (A9 bx pa d)).flatten)=0) (hFl:((G3 (A9 bx pa d)).flatten).length=1184) (hr:r.length=64) (he:ep≤400000000) (hf:full (A9 bx pa d)=true):ConOk Tryz.prog 110 (gM st ep at_ sd tx id ln bx pid pa ct q d r):=by
 refine cy 3 Tryz.func110 rfl Tryz.ntmps110 fun hg0 hS=> ?_
 have B2:r.length≤9223372036854775807:=hS.len 2 rfl
 have E5:bx.length≤9223372036854775807:=hS.lens 2 rfl
 have hf1:¬((((G3 (A9 bx pa d)).flatten).length:Nat):Int)=0:=Ac
 refine Ae [] 4 hS fun hS=>Av ?_
 have hl5:((G3 (A9 bx pa d)).flatten).length≤100000:=by omega
 refine As [(2,AM (XO st ep at_ sd tx id ln bx pid pa ct q d AE Ac Ac BF Ac Ac Ac BF (by first |assumption|exact hft Ac) AE BF BF) [(0,0),(1,1),(2,2)] [])] [] 4 hS fun hS=>Ej (Ax [(5,DC hf1)] [] 4 hS fun hS=>Ai hS (DU ?_))
 have h32:(r.take 32).length=32:=by rw[List.length_take];omega
 refine As [(2,iZ 32 r.length),(3,AM (Y4 ((G3 (A9 bx pa d)).flatten) (r.take 32) Ac AE) [] [(0,4)])] [] 5 hS fun hS=>Ej (Ae [] 5 hS fun hS=>Ai hS (BP (Ax [(7,FW 0 1 24)] [] 6 hS fun hS=>Ax [(10,AM (Y7 st ep at_ sd tx id ln (A9 bx pa d) ([]++[(Eb ((G3 (A9 bx pa d)).flatten) (r.take 32)).1]) ep Ac Ac) [(0,0),(1,1),(2,5)] [(3,6),(4,7)])] [] 8 hS fun hS=>Ae [] 8 hS fun hS=>AR ?_)))
 obtain⟨gs,hS⟩:=hS.rx [(0,0),(1,1),(2,2),(3,4),(4,6),(5,7),(6,5)] [6] [0,1,3,4,5,6] 7 hg0
 exact BW hS
def gZ (q:Nat) (d:List Int):Con:=⟨[.cp 0 0,.ag (chain [vi (pid:Int),vi (pa:Int),vi (ct:Int),lb d])],[(0,Bd st ep at_ sd tx 1),(1,Dh id ln 2),(2,.sl 22 [.os (.int .u8)] bx)],vi 0,[(0,Bd st ep at_ sd tx 1),(1,Dh id ln 2),(2,.sl 22 [.os (.int .u8)] (A9 bx pa d))]⟩
theorem YM (q:Nat) (d:List Int) (hb:1≤bx.length∧bx.length≤10000) (hz:ln≤10000) (hpid:pid=id) (hq:q=pa*1000) (hql:q<ln) (hpa:pa<bx.length) (hct:ct=bx.length) (hdl:d.length=min 1000 (ln-q)) (hft:Lm bx pa d) (hd:1≤d.length∧d.length≤1000) (hst:st=1) (hid:id=2*ep+1) (htx:1≤tx.length) (he:ep≤400000000) (hf:full (A9 bx pa d)=false):ConOk Tryz.prog 109 (gZ st ep at_ sd tx id ln bx pid pa ct q d):=by
 refine cy 3 Tryz.func109 rfl Tryz.ntmps109 fun hg0 hS=> ?_
 have E5:bx.length≤9223372036854775807:=hS.lens 2 rfl
 have hg1:(pid:Int)=(((2*ep)+1:Nat):Int):=Ac
 have hg2:¬((tx.length:Nat):Int)=0:=Ac
 exact Ae [] 4 hS fun hS=>Av (Ax [(6,HJ 2 ep (2*ep)),(7,Ek (2*ep) 1 ((2*ep)+1)),(8,GH hg1),(15,DC hg2)] [] 4 hS fun hS=>Ai hS (BP (Ax [(2,AM (XP st ep at_ sd tx id ln bx pid pa ct q d AE Ac Ac BF Ac Ac Ac BF (by first |assumption|exact hft Ac) AE BF) [(0,0),(1,1),(2,2)] [])] [] 4 hS fun hS=>Av (Ae [] 4 hS fun hS=>AO hS (Ae [] 4 hS fun hS=>AR (Af (BW hS)))))))
def gY (q:Nat) (d:List Int):Con:=⟨[.cp 0 0,.ag (chain [vi (pid:Int),vi (pa:Int),vi (ct:Int),lb d])],[(0,Bd st ep at_ sd tx 1),(1,Dh id ln 2),(2,.sl 22 [.os (.int .u8)] bx)],vi 0,[(0,Agd st (ep+1) 3 5),(1,Vo id ln (A9 bx pa d)),(3,AaX ((2*(ep+1))+1) 4),(4,.sl 22 [.os (.int .u8)] (List.replicate 2 none)),(5,.sl 22 [.sl (.int .u8)] ([]++[(HH ((AG (sd.take 32) (sd.drop 32)).2) ((G3 (A9 bx pa d)).flatten)).1]))]⟩
theorem YL (q:Nat) (d:List Int) (hb:1≤bx.length∧bx.length≤10000) (hz:ln≤10000) (hpid:pid=id) (hq:q=pa*1000) (hql:q<ln) (hpa:pa<bx.length) (hct:ct=bx.length) (hdl:d.length=min 1000 (ln-q)) (hft:Lm bx pa d) (hd:1≤d.length∧d.length≤1000) (hst:st=1) (hid:id=2*ep+1) (htx:1≤tx.length) (he:ep≤400000000) (hFl:((G3 (A9 bx pa d)).flatten).length=1088) (hsd:sd.length=64) (hf:full (A9 bx pa d)=true):ConOk Tryz.prog 109 (gY st ep at_ sd tx id ln bx pid pa ct q d):=by
 refine cy 3 Tryz.func109 rfl Tryz.ntmps109 fun hg0 hS=> ?_
 have E5:bx.length≤9223372036854775807:=hS.lens 2 rfl
 have hg1:(pid:Int)=(((2*ep)+1:Nat):Int):=Ac
 have hg2:¬((tx.length:Nat):Int)=0:=Ac
 have hf1:¬((((G3 (A9 bx pa d)).flatten).length:Nat):Int)=0:=Ac
 refine Ae [] 4 hS fun hS=>Av (Ax [(6,HJ 2 ep (2*ep)),(7,Ek (2*ep) 1 ((2*ep)+1)),(8,GH hg1),(15,DC hg2)] [] 4 hS fun hS=>Ai hS (DU ?_))
 have hl5:((G3 (A9 bx pa d)).flatten).length≤100000:=by omega
 refine As [(2,AM (XO st ep at_ sd tx id ln bx pid pa ct q d AE Ac Ac BF Ac Ac Ac BF (by first |assumption|exact hft Ac) AE BF BF) [(0,0),(1,1),(2,2)] [])] [] 4 hS fun hS=>Ej (Ax [(5,DC hf1)] [] 4 hS fun hS=>Ai hS (BP (Ax [(4,iZ 32 sd.length),(9,O2 32 sd.length),(10,AM (bH (sd.take 32) (sd.drop 32) AE AE) [] [(0,4)])] [] 5 hS fun hS=>Av ?_)))
 obtain⟨gs,hS⟩:=hS.fz 4
 refine As [(2,AP (f7 ((AG (sd.take 32) (sd.drop 32)).2) ((G3 (A9 bx pa d)).flatten) AE))] [] 5 hS fun hS=>Ab (Ax [(7,FW 0 1 24)] [] 6 hS fun hS=>Ax [(5,BH ep),(6,AM (YO st ep at_ sd tx id ln (A9 bx pa d) ([]++[(HH ((AG (sd.take 32) (sd.drop 32)).2) ((G3 (A9 bx pa d)).flatten)).1]) (ep+1) Ac Ac) [(0,0),(1,1),(2,5)] [(3,6),(4,7)])] [] 8 hS fun hS=>Ae [] 8 hS fun hS=>AR ?_)
 obtain⟨gs,hS⟩:=hS.rx [(0,0),(1,1),(2,2),(3,6),(4,7),(5,5)] [4] [0,1,3,4,5] 6 hg0
 exact BW hS
end
end
end Go.Sx.Tryz
namespace Go.Sx.Tryz
open Go.Mi Go.RowKit Go.Sx Go.Proofs
noncomputable section
theorem AeK {pa:Nat} (h:pa<2):List.getD (α:=Option (List Int)) (List.replicate 2 none) pa none=none:=by
 have :pa=0∨pa=1:=by omega
 rcases this with rfl|rfl<;>rfl
theorem AeL {pa:Nat} (d:List Int) (h:pa<2):full (A9 (List.replicate 2 none) pa d)=false:=by
 have :pa=0∨pa=1:=by omega
 rcases this with rfl|rfl<;>rfl
section
variable (st ep at_:Nat) (sd tx:List Int) (id ln:Nat) (bx:List (Option (List Int))) (pid pa:Nat) (ct q:Nat) (d r:List Int)
def S4 (st ep at_:Nat) (sd tx:List Int) (id ln:Nat) (bx:List (Option (List Int))) (pid pa:Nat) (ct q:Nat) (d r:List Int):Nat×Nat×Nat×(List Int)×(List Int)×Nat×Nat×(List (Option (List Int)))×(List (List Int)):=if(st:Int)=1 then(if(pid:Int)≤((2*ep:Nat):Int)then(st,ep,at_,sd,tx,id,ln,bx,[])else(if(pid:Int)<((2*ep:Nat):Int)then(st,ep,at_,sd,tx,id,ln,bx,[])else(if full (A9 bx pa d)=true then(st,(ep+1),0,[],[],((2*(ep+1))+1),1088,(List.replicate 2 none),([]++[(HH ((AG (sd.take 32) (sd.drop 32)).2) ((G3 (A9 bx pa d)).flatten)).1]))else(st,ep,at_,sd,tx,id,ln,(A9 bx pa d),[]))))else(if(pid:Int)<((2*ep:Nat):Int)then(st,ep,at_,sd,tx,id,ln,bx,[])else(if(pid:Int)=((2*ep:Nat):Int)then(if(st:Int)=3 then(st,ep,at_,sd,tx,id,ln,bx,[])else(if full (A9 bx pa d)=true then(3,ep,0,sd,((Eb ((G3 (A9 bx pa d)).flatten) (r.take 32)).2),(2*ep),1184,(List.replicate 2 none),([]++[(Eb ((G3 (A9 bx pa d)).flatten) (r.take 32)).1]))else(st,ep,at_,sd,tx,id,ln,(A9 bx pa d),[])))else(2,(ep+1),0,[],[],(2*(ep+1)),1184,(A9 (List.replicate 2 none) pa d),[])))
def WW:Nat×Nat×Nat×(List Int)×(List Int)×Nat×Nat×(List (Option (List Int)))×(List (List Int)):=AJ (S4 st ep at_ sd tx id ln bx pid pa ct q d r)
theorem HC:WW st ep at_ sd tx id ln bx pid pa ct q d r=S4 st ep at_ sd tx id ln bx pid pa ct q d r:=Ag _
def AbD (z_:Nat×Nat×Nat×(List Int)×(List Int)×Nat×Nat×(List (Option (List Int)))×(List (List Int)):=WW st ep at_ sd tx id ln bx pid pa ct q d r):Con:=⟨[.cp 0 0,lb (Dx pid pa ct d),lb r],[(0,Bd st ep at_ sd tx 1),(1,Dh id ln 2),(2,.sl 22 [.os (.int .u8)] bx)],vi 0,[(0,IC z_.1 z_.2.1 z_.2.2.1 (z_.2.2.2.1) (z_.2.2.2.2.1) 3 5),(3,Dh z_.2.2.2.2.2.1 z_.2.2.2.2.2.2.1 4),(4,.sl 22 [.os (.int .u8)] (z_.2.2.2.2.2.2.2.1)),(5,.sl 22 [.sl (.int .u8)] (z_.2.2.2.2.2.2.2.2))]⟩
theorem AcP (hb:bx.length=2) (hln:ln=(if st=1 then 1088 else 1184)) (hid:id=(if st=1 then 2*ep+1 else 2*ep)) (hst:st=1∨st=2∨st=3) (hpi:(st=1∧pid≤2*ep+1)∨(st≠1∧pid≤2*ep)∨(st=3∧pid=2*ep+2)) (hq:q=pa*1000) (hql:q<1088) (hpa:pa<2∧ct=2) (hdl:d.length=min 1000 ((if st=1 then 1088 else 1184)-q)) (hft:pid=id→st≠3→Lm bx pa d) (hd:1≤d.length∧d.length≤1000) (hr:r.length=64) (he:ep≤400000000∧pid≤1000000000) (htx:st=1→pid=id→1≤tx.length∧sd.length=64) (hEt0:st≠1→full (A9 bx pa d)=true→chk ((G3 (A9 bx pa d)).flatten)=0∧((G3 (A9 bx pa d)).flatten).length=1184) (hEg0:st=1→full (A9 bx pa d)=true→((G3 (A9 bx pa d)).flatten).length=1088):ConOk Tryz.prog 73 (AbD st ep at_ sd tx id ln bx pid pa ct q d r):=by
 refine cy 3 Tryz.func73 rfl Tryz.ntmps73 fun hg0 hS=> ?_
 have Be:(Dx pid pa ct d).length≤9223372036854775807:=hS.len 1 rfl
 have B2:r.length≤9223372036854775807:=hS.len 2 rfl
 have E5:bx.length≤9223372036854775807:=hS.lens 2 rfl
 have hf2:((r.length:Nat):Int)=64:=Ac
 have hf3:¬(((Dx pid pa ct d).length:Nat):Int)=0:=(by have :=Q1 (id:=pid) (ai:=pa) (ct:=ct) hd.1;omega)
 refine Ae [] 3 hS fun hS=>Il ?_
 have hst1:st=1→ln=1088∧id=2*ep+1∧d.length=min 1000 (1088-q):=fun h=>by rw[if_pos h]at hln hid hdl;exact⟨hln,hid,hdl⟩
 have hst2:st≠1→ln=1184∧id=2*ep∧d.length=min 1000 (1184-q):=fun h=>by rw[if_neg h]at hln hid hdl;exact⟨hln,hid,hdl⟩
 refine As [(12,GH hf2)] [] 3 hS fun hS=>Ab (Ai hS (DU (Ax [(2,DC hf3)] [] 3 hS fun hS=>Ai hS (BP (Ax [(1,AP (yR pid pa ct d Ac AE))] [7] 4 hS fun hS=>Av (Ae [] 4 hS fun hS=>Ai hS (BP (Ax [(4,HJ 2 ep (2*ep))] [] 4 hS fun hS=>Av (Br (Il ?_))))))))))
 by_cases h1:(st:Int)=1
 ·refine As [(4,GG h1)] [] 4 hS fun hS=>Ab (AB ((pid:Int)≤((2*ep:Nat):Int)) hS (fun h2=> ?_) (fun h2=> ?_))
  ·refine BP (AB ((pid:Int)≤((2*ep:Nat):Int)) hS (fun h3=> ?_) (fun h3=> ?_))
   ·refine Av ?_
    obtain⟨gs,hS⟩:=hS.nilob 0 7 22 [.sl (.int .u8)]
    refine Dj [] 5 hS fun hS=>DX (Aw (Af ?_))
    obtain⟨gs,hS⟩:=hS.rn2 [(0,0),(1,1),(2,2),(3,1),(4,2),(5,4)] [(6,vi 0)] [(0,IC st ep at_ sd tx 3 5),(3,Dh id ln 4),(4,.sl 22 [.os (.int .u8)] bx),(5,.sl 22 [.sl (.int .u8)] [])] 6 hg0
    exact Bi (.trans (HC ..) ((if_pos h1).trans (if_pos h2))) hS
   ·exact absurd h2 h3
  ·refine Dj [] 4 hS fun hS=>Ab (AB ((pid:Int)<((2*ep:Nat):Int)) hS (fun h4=> ?_) (fun h4=> ?_))
   ·refine Av ?_
    obtain⟨gs,hS⟩:=hS.nilob 0 7 22 [.sl (.int .u8)]
    refine Dj [] 5 hS fun hS=>DX (Aw (Af ?_))
    obtain⟨gs,hS⟩:=hS.rn2 [(0,0),(1,1),(2,2),(3,1),(4,2),(5,4)] [(6,vi 0)] [(0,IC st ep at_ sd tx 3 5),(3,Dh id ln 4),(4,.sl 22 [.os (.int .u8)] bx),(5,.sl 22 [.sl (.int .u8)] [])] 6 hg0
    exact Bi (.trans (HC ..) ((if_pos h1).trans ((if_neg h2).trans (if_pos h4)))) hS
   ·refine Ax [(4,GG h1)] [] 4 hS fun hS=>AO hS (Av ?_)
    have hs1:=hst1 Ac
    have htx1:=htx Ac Ac
    have hft1:=hft Ac Ac
    have hdl1:d.length=min 1000 (ln-q):=by rw[hs1.1];exact hs1.2.2
    have hEg:st=1→full (A9 bx pa d)=true→((G3 (A9 bx pa d)).flatten).length=1088:=hEg0
    by_cases h5:full (A9 bx pa d)=true
    ·have hs1:=hst1 Ac
     have htx1:=htx Ac Ac
     have hft1:=hft Ac Ac
     have hdl1:d.length=min 1000 (ln-q):=by rw[hs1.1];exact hs1.2.2
     have hEg:st=1→full (A9 bx pa d)=true→((G3 (A9 bx pa d)).flatten).length=1088:=hEg0
     refine As [(2,AM (YL st ep at_ sd tx id ln bx pid pa ct q d AE Ac Ac BF Ac Ac Ac BF (by first |assumption|exact hft Ac) AE Ac Ac AE Ac (hEg Ac BF) AE h5) [(0,0),(1,1),(2,2)] [(3,4),(4,5),(5,6)])] [] 7 hS fun hS=>DX (Aw (Af ?_))
     have hS:=hS.wko 0 [.top,.top,.top,.top,lb [],lb [],.top,.top]
     obtain⟨gs,hS⟩:=hS.rx [(0,0),(1,1),(2,2),(3,4),(4,5),(5,6)] [6] [0,3,4,5] 6 hg0
     exact Bi (.trans (HC ..) ((if_pos h1).trans ((if_neg h2).trans ((if_neg h4).trans (if_pos h5))))) hS
    ·have hs1:=hst1 Ac
     have htx1:=htx Ac Ac
     have hft1:=hft Ac Ac
     have hdl1:d.length=min 1000 (ln-q):=by rw[hs1.1];exact hs1.2.2
     have hEg:st=1→full (A9 bx pa d)=true→((G3 (A9 bx pa d)).flatten).length=1088:=hEg0
     refine As [(2,AM (YM st ep at_ sd tx id ln bx pid pa ct q d AE Ac Ac BF Ac Ac Ac BF (by first |assumption|exact hft Ac) AE Ac Ac AE Ac (Eu h5)) [(0,0),(1,1),(2,2)] [])] [] 4 hS fun hS=> ?_
     obtain⟨gs,hS⟩:=hS.nilob 0 7 22 [.sl (.int .u8)]
     refine DX (Aw (Af ?_))
     obtain⟨gs,hS⟩:=hS.rn2 [(0,0),(1,1),(2,2),(3,1),(4,2),(5,4)] [(6,vi 0)] [(0,IC st ep at_ sd tx 3 5),(3,Dh id ln 4),(4,.sl 22 [.os (.int .u8)] (A9 bx pa d)),(5,.sl 22 [.sl (.int .u8)] [])] 6 hg0
     exact Bi (.trans (HC ..) ((if_pos h1).trans ((if_neg h2).trans ((if_neg h4).trans (if_neg h5))))) hS
 ·refine As [(4,DC h1)] [] 4 hS fun hS=>Ab (Ai hS (Dj [] 4 hS fun hS=>Ab (AB ((pid:Int)<((2*ep:Nat):Int)) hS (fun h6=> ?_) (fun h6=> ?_))))
  ·refine Av ?_
   obtain⟨gs,hS⟩:=hS.nilob 0 7 22 [.sl (.int .u8)]
   refine Dj [] 5 hS fun hS=>DX (Aw (Af ?_))
   obtain⟨gs,hS⟩:=hS.rn2 [(0,0),(1,1),(2,2),(3,1),(4,2),(5,4)] [(6,vi 0)] [(0,IC st ep at_ sd tx 3 5),(3,Dh id ln 4),(4,.sl 22 [.os (.int .u8)] bx),(5,.sl 22 [.sl (.int .u8)] [])] 6 hg0
   exact Bi (.trans (HC ..) ((if_neg h1).trans (if_pos h6))) hS
  ·refine Ax [(4,DC h1)] [] 4 hS fun hS=>Ai hS (Av ?_)
   by_cases h7:(pid:Int)=((2*ep:Nat):Int)
   ·refine As [(3,GG h7)] [] 4 hS fun hS=>Ab (AB ((st:Int)=3) hS (fun h8=> ?_) (fun h8=> ?_))
    ·refine Av ?_
     obtain⟨gs,hS⟩:=hS.nilob 0 7 22 [.sl (.int .u8)]
     refine Dj [] 5 hS fun hS=>DX (Aw (Af ?_))
     obtain⟨gs,hS⟩:=hS.rn2 [(0,0),(1,1),(2,2),(3,1),(4,2),(5,4)] [(6,vi 0)] [(0,IC st ep at_ sd tx 3 5),(3,Dh id ln 4),(4,.sl 22 [.os (.int .u8)] bx),(5,.sl 22 [.sl (.int .u8)] [])] 6 hg0
     exact Bi (.trans (HC ..) ((if_neg h1).trans ((if_neg h6).trans ((if_pos h7).trans (if_pos h8))))) hS
    ·refine Ax [(3,GG h7)] [] 4 hS fun hS=>AO hS (Av ?_)
     have hs1:=hst2 Ac
     have hft1:=hft Ac Ac
     have hdl1:d.length=min 1000 (ln-q):=by rw[hs1.1];exact hs1.2.2
     have hEt:st=2→full (A9 bx pa d)=true→chk ((G3 (A9 bx pa d)).flatten)=0∧((G3 (A9 bx pa d)).flatten).length=1184:=fun h=>hEt0 Ac
     by_cases h9:full (A9 bx pa d)=true
     ·have hs1:=hst2 Ac
      have hft1:=hft Ac Ac
      have hdl1:d.length=min 1000 (ln-q):=by rw[hs1.1];exact hs1.2.2
      have hEt:st=2→full (A9 bx pa d)=true→chk ((G3 (A9 bx pa d)).flatten)=0∧((G3 (A9 bx pa d)).flatten).length=1184:=fun h=>hEt0 Ac
      refine As [(3,AM (X9 st ep at_ sd tx id ln bx pid pa ct q d r AE Ac Ac BF Ac Ac Ac BF (by first |assumption|exact hft Ac) AE Ac (hEt Ac BF).1 (hEt Ac BF).2 AE Ac h9) [(0,0),(1,1),(2,2)] [(3,4),(4,5),(5,6),(6,7)])] [] 8 hS fun hS=>DX (Aw (Af ?_))
      obtain⟨gs,hS⟩:=hS.fz 4
      obtain⟨gs,hS⟩:=hS.rx [(0,0),(1,1),(2,2),(3,5),(4,6),(5,7)] [6] [0,3,4,5] 6 hg0
      exact Bi (.trans (HC ..) ((if_neg h1).trans ((if_neg h6).trans ((if_pos h7).trans ((if_neg h8).trans (if_pos h9)))))) hS
     ·have hs1:=hst2 Ac
      have hft1:=hft Ac Ac
      have hdl1:d.length=min 1000 (ln-q):=by rw[hs1.1];exact hs1.2.2
      have hEt:st=2→full (A9 bx pa d)=true→chk ((G3 (A9 bx pa d)).flatten)=0∧((G3 (A9 bx pa d)).flatten).length=1184:=fun h=>hEt0 Ac
      refine As [(3,AM (Pt st ep at_ sd tx id ln bx pid pa ct q d r AE Ac Ac BF Ac Ac Ac BF (by first |assumption|exact hft Ac) AE Ac (Eu h9)) [(0,0),(1,1),(2,2)] [])] [] 4 hS fun hS=> ?_
      obtain⟨gs,hS⟩:=hS.nilob 0 7 22 [.sl (.int .u8)]
      refine DX (Aw (Af ?_))
      obtain⟨gs,hS⟩:=hS.rn2 [(0,0),(1,1),(2,2),(3,1),(4,2),(5,4)] [(6,vi 0)] [(0,IC st ep at_ sd tx 3 5),(3,Dh id ln 4),(4,.sl 22 [.os (.int .u8)] (A9 bx pa d)),(5,.sl 22 [.sl (.int .u8)] [])] 6 hg0
      exact Bi (.trans (HC ..) ((if_neg h1).trans ((if_neg h6).trans ((if_pos h7).trans ((if_neg h8).trans (if_neg h9)))))) hS
   ·refine As [(3,DC h7)] [] 4 hS fun hS=>Ab (Ai hS (Ax [(3,DC h7)] [] 4 hS fun hS=>Ai hS (Av ?_)))
    by_cases h10:(pid:Int)=(((2*ep)+2:Nat):Int)
    ·refine As [(3,Ek (2*ep) 2 ((2*ep)+2)),(4,GG h10)] [] 4 hS fun hS=>Ab (AB ((st:Int)=3) hS (fun h11=> ?_) (fun h11=> ?_))
     ·refine Ae [10] 5 hS fun hS=>Ae [] 5 hS fun hS=>Ax [(4,BH ep),(5,AM (YN 2 ep at_ sd tx id ln bx (ep+1) Ac Ac) [(0,4),(1,1),(2,2)] [(3,5),(4,6)])] [] 7 hS fun hS=>Il ?_
      have hs1:=hst2 Ac
      have hpa2:pa<2:=by omega
      have hft2:Lm (List.replicate 2 none) pa d:= .inl (AeK hpa2)
      have hfl2:¬full (A9 (List.replicate 2 none) pa d)=true:=by rw[AeL d hpa2];decide
      have hrl:(List.replicate 2 (none:Option (List Int))).length=2:=rfl
      have hdl1:d.length=min 1000 (1184-q):=hs1.2.2
      have hS:=hS.wko 4 [.top,.top,.top,.top,lb [],.top,.top,.top]
      have hS:=hS.wko 4 [.top,.top,.top,.top,.top,lb [],.top,.top]
      refine As [(2,AM (Pt 2 (ep+1) 0 ([]:List Int) ([]:List Int) (2*(ep+1)) 1184 (List.replicate 2 none) pid pa ct q d r AE Ac Ac BF Ac Ac Ac BF (by first |assumption|exact hft Ac) AE Ac (Eu hfl2)) [(0,4),(1,5),(2,6)] [])] [] 7 hS fun hS=>Ab (Ae [] 7 hS fun hS=>Ai hS (BP (Ae [] 7 hS fun hS=>Av ?_)))
      obtain⟨gs,hS⟩:=hS.nilob 0 7 22 [.sl (.int .u8)]
      refine Dj [] 8 hS fun hS=>DX (Aw (Af ?_))
      obtain⟨gs,hS⟩:=hS.rx [(0,0),(1,1),(2,2),(3,5),(4,6),(5,7)] [6] [0,3,4,5] 6 hg0
      exact Bi (.trans (HC ..) ((if_neg h1).trans ((if_neg h6).trans (if_neg h7)))) hS
     ·refine G8 (Av ?_)
      exfalso
      omega
    ·refine As [(3,Ek (2*ep) 2 ((2*ep)+2)),(4,DC h10)] [] 4 hS fun hS=>Ab (Ai hS (G8 (Av ?_)))
     exfalso
     omega
end
end
end Go.Sx.Tryz
namespace Go.Sx.Tryz
open Go.Mi Go.RowKit Go.Sx Go.Proofs
noncomputable section
def BM (x0 x1:Nat) (x2:List (Option (List Int))):O:= .ob 187 (chain [vi ((x0:Nat):Int),vi 1000,vi ((x1:Nat):Int),.ls true [.os (.int .u8)] x2])
section
variable (st ep at_:Nat) (sd tx:List Int) (id ln:Nat) (bx:List (Option (List Int)))
def r8 (s:List Int):Con:=⟨[.cp 0 0,lb s],[(0,Bd st ep at_ sd tx 1),(1,BM id ln bx)],.tu (chain []),[(0,.ob 126 (chain [vi 1000,vi (st:Int),vi (ep:Int),vi (at_:Int),.ls true [.int .u8] s,lb ((AG (s.take 32) (s.drop 32)).1),.cp 1 0,.v (.slice none 0 0)])),(1,BM id ln bx)]⟩
theorem SC (s:List Int) (hs:s.length=64):ConOk Tryz.prog 78 (r8 st ep at_ sd tx id ln bx s):=by
 refine cy 2 Tryz.func78 rfl Tryz.ntmps78 fun hg0 hS=> ?_
 have Be:s.length≤9223372036854775807:=hS.len 1 rfl
 exact Hb [(2,AP (Tn s AE))] [] 2 hS fun hS=>RJ [(2,iZ 32 s.length),(4,O2 32 s.length),(5,AM (bH (s.take 32) (s.drop 32) AE AE) [] [(0,2)])] [] 3 hS fun hS=>fiN hS
def Nt (st ep at_:Nat) (sd tx:List Int) (id ln:Nat) (bx:List (Option (List Int))) (r:List Int):Nat×(List Int)×(List Int)×(List Int):=if(st:Int)=2 then(at_,sd,tx,[])else(if(st:Int)=3 then(if((tx.length:Nat):Int)=0 then((at_+1),r,((AG (r.take 32) (r.drop 32)).1),Dx ((2*ep)+1) (at_%((An ((2*ep)+1) ((AG (r.take 32) (r.drop 32)).1) 1000).length)) ((An ((2*ep)+1) ((AG (r.take 32) (r.drop 32)).1) 1000).length) ((((AG (r.take 32) (r.drop 32)).1).drop ((at_%((An ((2*ep)+1) ((AG (r.take 32) (r.drop 32)).1) 1000).length))*1000)).take 1000))else((at_+1),sd,tx,Dx ((2*ep)+1) (at_%((An ((2*ep)+1) tx 1000).length)) ((An ((2*ep)+1) tx 1000).length) ((tx.drop ((at_%((An ((2*ep)+1) tx 1000).length))*1000)).take 1000)))else(if((tx.length:Nat):Int)=0 then((at_+1),r,((AG (r.take 32) (r.drop 32)).1),Dx (2*ep) (at_%((An (2*ep) ((AG (r.take 32) (r.drop 32)).1) 1000).length)) ((An (2*ep) ((AG (r.take 32) (r.drop 32)).1) 1000).length) ((((AG (r.take 32) (r.drop 32)).1).drop ((at_%((An (2*ep) ((AG (r.take 32) (r.drop 32)).1) 1000).length))*1000)).take 1000))else((at_+1),sd,tx,Dx (2*ep) (at_%((An (2*ep) tx 1000).length)) ((An (2*ep) tx 1000).length) ((tx.drop ((at_%((An (2*ep) tx 1000).length))*1000)).take 1000))))
def A4 (r:List Int):Nat×(List Int)×(List Int)×(List Int):=AJ (Nt st ep at_ sd tx id ln bx r)
theorem H5 (r:List Int):A4 st ep at_ sd tx id ln bx r=Nt st ep at_ sd tx id ln bx r:=Ag _
def AdQ (r:List Int) (z_:Nat×(List Int)×(List Int)×(List Int):=A4 st ep at_ sd tx id ln bx r):Con:=⟨[.cp 0 0,lb r],[(0,Bd st ep at_ sd tx 1),(1,BM id ln bx)],.tu (chain [lb (z_.2.2.2),vi 0]),[(0,Bd st ep z_.1 (z_.2.1) (z_.2.2.1) 1),(1,BM id ln bx)]⟩
theorem wK (r:List Int) (hst:st=1∨st=2∨st=3) (hr:r.length=64) (he:ep≤400000000) (ha:at_≤1000000000) (ht:(st=1→tx.length=0∨tx.length=1184)∧(st=3→tx.length=1088)):ConOk Tryz.prog 45 (AdQ st ep at_ sd tx id ln bx r):=by
 refine cy 2 Tryz.func45 rfl Tryz.ntmps45 fun hg0 hS=> ?_
 have Be:r.length≤9223372036854775807:=hS.len 1 rfl
 have hf2:((r.length:Nat):Int)=64:=Ac
 refine ES [] 2 hS fun hS=>Av (Hb [(12,GH hf2)] [] 2 hS fun hS=>Ai hS (BP (Hb [(4,HJ 2 ep (2*ep))] [] 2 hS fun hS=>Av (ES [] 2 hS fun hS=>Br (ES [] 2 hS fun hS=>AB ((st:Int)=2) hS (fun h1=> ?_) (fun h1=> ?_))))))
 ·refine ES [] 2 hS fun hS=>AR (Aw (Af ?_))
  have hS:=hS.wk 4 (lb [])
  exact Bi (.trans (H5 ..) (if_pos h1)) hS
 ·refine ES [] 2 hS fun hS=>AB ((st:Int)=3) hS (fun h2=> ?_) (fun h2=> ?_)
  ·refine RJ [(1,Ek (2*ep) 1 ((2*ep)+1))] [6] 2 hS fun hS=>BV (Av (ES [] 2 hS fun hS=>AB (((tx.length:Nat):Int)=0) hS (fun h3=> ?_) (fun h3=> ?_)))
   ·refine RJ [(2,AM (SC st ep at_ sd tx id ln bx r AE) [(0,0),(1,1)] [])] [] 2 hS fun hS=>Ej ?_
    have hkl:=HB (r.take 32) (r.drop 32) (by rw[List.length_drop];omega)
    refine RJ [(9,AM (LD ((2*ep)+1) ((AG (r.take 32) (r.drop 32)).1) 1000 Ac AE Ac) [] [(0,2)])] [] 3 hS fun hS=>Ej ?_
    have hcb:=gA (ln:=((AG (r.take 32) (r.drop 32)).1).length) (sz:=1000) Ac Ac
    have hsl:=GQ ((2*ep)+1) ((AG (r.take 32) (r.drop 32)).1) 1000
    have hix:at_%(An ((2*ep)+1) ((AG (r.take 32) (r.drop 32)).1) 1000).length<(An ((2*ep)+1) ((AG (r.take 32) (r.drop 32)).1) 1000).length:=Nat.mod_lt _ Ac
    have hRow:=Ol ((2*ep)+1) ((AG (r.take 32) (r.drop 32)).1) 1000 _ hix
    have hdl:=TJ (xs:=((AG (r.take 32) (r.drop 32)).1)) (sz:=1000) (i:=at_%(An ((2*ep)+1) ((AG (r.take 32) (r.drop 32)).1) 1000).length) Ac (by rw[←hsl];exact hix)
    refine RJ [(7,Ll at_ ((An ((2*ep)+1) ((AG (r.take 32) (r.drop 32)).1) 1000).length)),(8,AD (at_%((An ((2*ep)+1) ((AG (r.take 32) (r.drop 32)).1) 1000).length)) ((An ((2*ep)+1) ((AG (r.take 32) (r.drop 32)).1) 1000).length)),(9,GK (.ag (chain [vi (((2*ep)+1:Nat):Int),vi (((at_%((An ((2*ep)+1) ((AG (r.take 32) (r.drop 32)).1) 1000).length)):Nat):Int),vi (((An ((2*ep)+1) ((AG (r.take 32) (r.drop 32)).1) 1000).length:Nat):Int),lb ((((AG (r.take 32) (r.drop 32)).1).drop ((at_%((An ((2*ep)+1) ((AG (r.take 32) (r.drop 32)).1) 1000).length))*1000)).take 1000)])) [(.ag (chain [vi (((An ((2*ep)+1) ((AG (r.take 32) (r.drop 32)).1) 1000).getD (at_%((An ((2*ep)+1) ((AG (r.take 32) (r.drop 32)).1) 1000).length)) (rz [.int .i64,.int .i64,.int .i64,.sl (.int .u8)])).1),vi ((((An ((2*ep)+1) ((AG (r.take 32) (r.drop 32)).1) 1000).getD (at_%((An ((2*ep)+1) ((AG (r.take 32) (r.drop 32)).1) 1000).length)) (rz [.int .i64,.int .i64,.int .i64,.sl (.int .u8)])).2).1),vi (((((An ((2*ep)+1) ((AG (r.take 32) (r.drop 32)).1) 1000).getD (at_%((An ((2*ep)+1) ((AG (r.take 32) (r.drop 32)).1) 1000).length)) (rz [.int .i64,.int .i64,.int .i64,.sl (.int .u8)])).2).2).1),lb (((((An ((2*ep)+1) ((AG (r.take 32) (r.drop 32)).1) 1000).getD (at_%((An ((2*ep)+1) ((AG (r.take 32) (r.drop 32)).1) 1000).length)) (rz [.int .i64,.int .i64,.int .i64,.sl (.int .u8)])).2).2).2)]):D)= .ag (chain [vi (((2*ep)+1:Nat):Int),vi (((at_%((An ((2*ep)+1) ((AG (r.take 32) (r.drop 32)).1) 1000).length)):Nat):Int),vi (((An ((2*ep)+1) ((AG (r.take 32) (r.drop 32)).1) 1000).length:Nat):Int),lb ((((AG (r.take 32) (r.drop 32)).1).drop ((at_%((An ((2*ep)+1) ((AG (r.take 32) (r.drop 32)).1) 1000).length))*1000)).take 1000)])] ⟨(by first |(rw[hRow];done)|(rw[hRow];rfl)),trivial⟩)] [9] 4 hS fun hS=>Ab (Hb [(4,BH at_)] [] 4 hS fun hS=>Hb [(1,AP (If ((2*ep)+1) (at_%((An ((2*ep)+1) ((AG (r.take 32) (r.drop 32)).1) 1000).length)) ((An ((2*ep)+1) ((AG (r.take 32) (r.drop 32)).1) 1000).length) ((((AG (r.take 32) (r.drop 32)).1).drop ((at_%((An ((2*ep)+1) ((AG (r.take 32) (r.drop 32)).1) 1000).length))*1000)).take 1000) Ac Ac))] [] 4 hS fun hS=>AR ?_)
    have hS:=hS.wko 0 [.top,.top,.top,.top,lb [],.top,.top,.top]
    exact Bi (.trans (H5 ..) ((if_neg h1).trans ((if_pos h2).trans (if_pos h3)))) hS
   ·refine DU ?_
    have hkl:=HB (r.take 32) (r.drop 32) (by rw[List.length_drop];omega)
    refine RJ [(9,AM (LD ((2*ep)+1) tx 1000 Ac AE Ac) [] [(0,2)])] [] 3 hS fun hS=>Ej ?_
    have hcb:=gA (ln:=tx.length) (sz:=1000) Ac Ac
    have hsl:=GQ ((2*ep)+1) tx 1000
    have hix:at_%(An ((2*ep)+1) tx 1000).length<(An ((2*ep)+1) tx 1000).length:=Nat.mod_lt _ Ac
    have hRow:=Ol ((2*ep)+1) tx 1000 _ hix
    have hdl:=TJ (xs:=tx) (sz:=1000) (i:=at_%(An ((2*ep)+1) tx 1000).length) Ac (by rw[←hsl];exact hix)
    exact RJ [(7,Ll at_ ((An ((2*ep)+1) tx 1000).length)),(8,AD (at_%((An ((2*ep)+1) tx 1000).length)) ((An ((2*ep)+1) tx 1000).length)),(9,GK (.ag (chain [vi (((2*ep)+1:Nat):Int),vi (((at_%((An ((2*ep)+1) tx 1000).length)):Nat):Int),vi (((An ((2*ep)+1) tx 1000).length:Nat):Int),lb ((tx.drop ((at_%((An ((2*ep)+1) tx 1000).length))*1000)).take 1000)])) [(.ag (chain [vi (((An ((2*ep)+1) tx 1000).getD (at_%((An ((2*ep)+1) tx 1000).length)) (rz [.int .i64,.int .i64,.int .i64,.sl (.int .u8)])).1),vi ((((An ((2*ep)+1) tx 1000).getD (at_%((An ((2*ep)+1) tx 1000).length)) (rz [.int .i64,.int .i64,.int .i64,.sl (.int .u8)])).2).1),vi (((((An ((2*ep)+1) tx 1000).getD (at_%((An ((2*ep)+1) tx 1000).length)) (rz [.int .i64,.int .i64,.int .i64,.sl (.int .u8)])).2).2).1),lb (((((An ((2*ep)+1) tx 1000).getD (at_%((An ((2*ep)+1) tx 1000).length)) (rz [.int .i64,.int .i64,.int .i64,.sl (.int .u8)])).2).2).2)]):D)= .ag (chain [vi (((2*ep)+1:Nat):Int),vi (((at_%((An ((2*ep)+1) tx 1000).length)):Nat):Int),vi (((An ((2*ep)+1) tx 1000).length:Nat):Int),lb ((tx.drop ((at_%((An ((2*ep)+1) tx 1000).length))*1000)).take 1000)])] ⟨(by first |(rw[hRow];done)|(rw[hRow];rfl)),trivial⟩)] [9] 4 hS fun hS=>Ab (Hb [(4,BH at_)] [] 4 hS fun hS=>Hb [(1,AP (If ((2*ep)+1) (at_%((An ((2*ep)+1) tx 1000).length)) ((An ((2*ep)+1) tx 1000).length) ((tx.drop ((at_%((An ((2*ep)+1) tx 1000).length))*1000)).take 1000) Ac Ac))] [] 4 hS fun hS=>AR (Bi (.trans (H5 ..) ((if_neg h1).trans ((if_pos h2).trans (if_neg h3)))) hS))
  ·refine G8 (Av (ES [] 2 hS fun hS=>AB (((tx.length:Nat):Int)=0) hS (fun h4=> ?_) (fun h4=> ?_)))
   ·refine RJ [(2,AM (SC st ep at_ sd tx id ln bx r AE) [(0,0),(1,1)] [])] [] 2 hS fun hS=>Ej ?_
    have hkl:=HB (r.take 32) (r.drop 32) (by rw[List.length_drop];omega)
    refine RJ [(9,AM (LD (2*ep) ((AG (r.take 32) (r.drop 32)).1) 1000 Ac AE Ac) [] [(0,2)])] [] 3 hS fun hS=>Ej ?_
    have hcb:=gA (ln:=((AG (r.take 32) (r.drop 32)).1).length) (sz:=1000) Ac Ac
    have hsl:=GQ (2*ep) ((AG (r.take 32) (r.drop 32)).1) 1000
    have hix:at_%(An (2*ep) ((AG (r.take 32) (r.drop 32)).1) 1000).length<(An (2*ep) ((AG (r.take 32) (r.drop 32)).1) 1000).length:=Nat.mod_lt _ Ac
    have hRow:=Ol (2*ep) ((AG (r.take 32) (r.drop 32)).1) 1000 _ hix
    have hdl:=TJ (xs:=((AG (r.take 32) (r.drop 32)).1)) (sz:=1000) (i:=at_%(An (2*ep) ((AG (r.take 32) (r.drop 32)).1) 1000).length) Ac (by rw[←hsl];exact hix)
    refine RJ [(7,Ll at_ ((An (2*ep) ((AG (r.take 32) (r.drop 32)).1) 1000).length)),(8,AD (at_%((An (2*ep) ((AG (r.take 32) (r.drop 32)).1) 1000).length)) ((An (2*ep) ((AG (r.take 32) (r.drop 32)).1) 1000).length)),(9,GK (.ag (chain [vi ((2*ep:Nat):Int),vi (((at_%((An (2*ep) ((AG (r.take 32) (r.drop 32)).1) 1000).length)):Nat):Int),vi (((An (2*ep) ((AG (r.take 32) (r.drop 32)).1) 1000).length:Nat):Int),lb ((((AG (r.take 32) (r.drop 32)).1).drop ((at_%((An (2*ep) ((AG (r.take 32) (r.drop 32)).1) 1000).length))*1000)).take 1000)])) [(.ag (chain [vi (((An (2*ep) ((AG (r.take 32) (r.drop 32)).1) 1000).getD (at_%((An (2*ep) ((AG (r.take 32) (r.drop 32)).1) 1000).length)) (rz [.int .i64,.int .i64,.int .i64,.sl (.int .u8)])).1),vi ((((An (2*ep) ((AG (r.take 32) (r.drop 32)).1) 1000).getD (at_%((An (2*ep) ((AG (r.take 32) (r.drop 32)).1) 1000).length)) (rz [.int .i64,.int .i64,.int .i64,.sl (.int .u8)])).2).1),vi (((((An (2*ep) ((AG (r.take 32) (r.drop 32)).1) 1000).getD (at_%((An (2*ep) ((AG (r.take 32) (r.drop 32)).1) 1000).length)) (rz [.int .i64,.int .i64,.int .i64,.sl (.int .u8)])).2).2).1),lb (((((An (2*ep) ((AG (r.take 32) (r.drop 32)).1) 1000).getD (at_%((An (2*ep) ((AG (r.take 32) (r.drop 32)).1) 1000).length)) (rz [.int .i64,.int .i64,.int .i64,.sl (.int .u8)])).2).2).2)]):D)= .ag (chain [vi ((2*ep:Nat):Int),vi (((at_%((An (2*ep) ((AG (r.take 32) (r.drop 32)).1) 1000).length)):Nat):Int),vi (((An (2*ep) ((AG (r.take 32) (r.drop 32)).1) 1000).length:Nat):Int),lb ((((AG (r.take 32) (r.drop 32)).1).drop ((at_%((An (2*ep) ((AG (r.take 32) (r.drop 32)).1) 1000).length))*1000)).take 1000)])] ⟨(by first |(rw[hRow];done)|(rw[hRow];rfl)),trivial⟩)] [9] 4 hS fun hS=>Ab (Hb [(4,BH at_)] [] 4 hS fun hS=>Hb [(1,AP (If (2*ep) (at_%((An (2*ep) ((AG (r.take 32) (r.drop 32)).1) 1000).length)) ((An (2*ep) ((AG (r.take 32) (r.drop 32)).1) 1000).length) ((((AG (r.take 32) (r.drop 32)).1).drop ((at_%((An (2*ep) ((AG (r.take 32) (r.drop 32)).1) 1000).length))*1000)).take 1000) Ac Ac))] [] 4 hS fun hS=>AR ?_)
    have hS:=hS.wko 0 [.top,.top,.top,.top,lb [],.top,.top,.top]
    exact Bi (.trans (H5 ..) ((if_neg h1).trans ((if_neg h2).trans (if_pos h4)))) hS
   ·refine DU ?_
    have hkl:=HB (r.take 32) (r.drop 32) (by rw[List.length_drop];omega)
    refine RJ [(9,AM (LD (2*ep) tx 1000 Ac AE Ac) [] [(0,2)])] [] 3 hS fun hS=>Ej ?_
    have hcb:=gA (ln:=tx.length) (sz:=1000) Ac Ac
    have hsl:=GQ (2*ep) tx 1000
    have hix:at_%(An (2*ep) tx 1000).length<(An (2*ep) tx 1000).length:=Nat.mod_lt _ Ac
    have hRow:=Ol (2*ep) tx 1000 _ hix
    have hdl:=TJ (xs:=tx) (sz:=1000) (i:=at_%(An (2*ep) tx 1000).length) Ac (by rw[←hsl];exact hix)
    exact RJ [(7,Ll at_ ((An (2*ep) tx 1000).length)),(8,AD (at_%((An (2*ep) tx 1000).length)) ((An (2*ep) tx 1000).length)),(9,GK (.ag (chain [vi ((2*ep:Nat):Int),vi (((at_%((An (2*ep) tx 1000).length)):Nat):Int),vi (((An (2*ep) tx 1000).length:Nat):Int),lb ((tx.drop ((at_%((An (2*ep) tx 1000).length))*1000)).take 1000)])) [(.ag (chain [vi (((An (2*ep) tx 1000).getD (at_%((An (2*ep) tx 1000).length)) (rz [.int .i64,.int .i64,.int .i64,.sl (.int .u8)])).1),vi ((((An (2*ep) tx 1000).getD (at_%((An (2*ep) tx 1000).length)) (rz [.int .i64,.int .i64,.int .i64,.sl (.int .u8)])).2).1),vi (((((An (2*ep) tx 1000).getD (at_%((An (2*ep) tx 1000).length)) (rz [.int .i64,.int .i64,.int .i64,.sl (.int .u8)])).2).2).1),lb (((((An (2*ep) tx 1000).getD (at_%((An (2*ep) tx 1000).length)) (rz [.int .i64,.int .i64,.int .i64,.sl (.int .u8)])).2).2).2)]):D)= .ag (chain [vi ((2*ep:Nat):Int),vi (((at_%((An (2*ep) tx 1000).length)):Nat):Int),vi (((An (2*ep) tx 1000).length:Nat):Int),lb ((tx.drop ((at_%((An (2*ep) tx 1000).length))*1000)).take 1000)])] ⟨(by first |(rw[hRow];done)|(rw[hRow];rfl)),trivial⟩)] [9] 4 hS fun hS=>Ab (Hb [(4,BH at_)] [] 4 hS fun hS=>Hb [(1,AP (If (2*ep) (at_%((An (2*ep) tx 1000).length)) ((An (2*ep) tx 1000).length) ((tx.drop ((at_%((An (2*ep) tx 1000).length))*1000)).take 1000) Ac Ac))] [] 4 hS fun hS=>AR (Bi (.trans (H5 ..) ((if_neg h1).trans ((if_neg h2).trans (if_neg h4)))) hS))
end
end
end Go.Sx.Tryz
namespace Go.Sx.Tryz
open Go.Mi Go.RowKit Go.Sx Go.Proofs
noncomputable section
section
variable (id ln:Nat) (bx:List (Option (List Int)))
def tG:Con:=⟨[.cp 0 0],[(0,BM id ln bx)],.cp 1 0,[(0,BM id ln bx),(1,Dh id ln 2),(2,.sl 22 [.os (.int .u8)] bx)]⟩
theorem iQ (hbl:bx.length≤100000000):ConOk Tryz.prog 97 (tG id ln bx):=by
 exact cy 1 Tryz.func97 rfl Tryz.ntmps97 fun hg0 hS=>ES [] 1 hS fun hS=>Av (ES [] 1 hS fun hS=>Ai hS (BP (ES [3] 2 hS fun hS=>Hb [(4,AM (eS bx AE) [] [(0,2)])] [] 3 hS fun hS=>ES [] 3 hS fun hS=>AR (BW hS))))
end
section
variable (st ep at_:Nat) (sd tx:List Int) (id ln:Nat) (bx:List (Option (List Int)))
def sD:Con:=⟨[.cp 0 0],[(0,Bd st ep at_ sd tx 1),(1,BM id ln bx)],.cp 2 0,[(0,Bd st ep at_ sd tx 1),(1,BM id ln bx),(2,Bd st ep at_ sd tx 3),(3,Dh id ln 4),(4,.sl 22 [.os (.int .u8)] bx)]⟩
theorem eG (hbl:bx.length≤100000000):ConOk Tryz.prog 62 (sD st ep at_ sd tx id ln bx):=by
 exact cy 2 Tryz.func62 rfl Tryz.ntmps62 fun hg0 hS=>ES [] 2 hS fun hS=>Av (ES [] 2 hS fun hS=>Ai hS (BP (ES [3] 3 hS fun hS=>Hb [(4,AP (qF))] [] 3 hS fun hS=>Hb [(4,AM (iQ id ln bx AE) [(0,1)] [(1,3),(2,4)])] [] 5 hS fun hS=>ES [] 5 hS fun hS=>AR (BW hS))))
end
section
variable (l:List (List Int))
def Q3 (x11:Nat):(List (List Int))→(List (List Int)):=fun x4=>x4++[l.getD x11 (rz [.sl (.int .u8)])]
def HG (l:List (List Int)):Nat→(List (List Int))
 |0=>[]
 |x11+1=>Q3 l x11 (HG l x11)
def cD:(List (List Int)):=HG l l.length
def UU:(List (List Int)):=AJ (cD l)
theorem cE:UU l=cD l:=Ag _
def cQ (z_:(List (List Int)):=UU l):Con:=Cq [.sk 0,.v .nilFunc] [(0,.sl 22 [.sl (.int .u8)] l)] (.ls false [.sl (.int .u8)] z_)
theorem qD (hl:l.length≤1000) (hm:∀j,(l.getD j (rz [.sl (.int .u8)])).length≤10000):ConOk Tryz.prog 96 (cQ l):=by
 refine cy 1 Tryz.func96 rfl Tryz.ntmps96 fun hg0 hS=> ?_
 have oI:l.length≤9223372036854775807:=hS.lens 0 rfl
 refine Ae [] 1 hS fun hS=>Av (Ae [] 1 hS fun hS=>AO hS (Dj [] 1 hS fun hS=>Ej (Ae [9] 1 hS fun hS=>Br ?_)))
 obtain⟨gs,hS⟩:=hS.nilk 4 22 [.sl (.int .u8)]
 refine Ar (ι:=Nat×(List (List Int))) hg0 hS (fun(x11,x4)=>(l.length-x11,[(11,vi ((x11:Nat):Int))],[(1,.sl 22 [.sl (.int .u8)] x4)],(x11≤l.length)∧(x4=HG l x11)∧(x4.length=x11)∧True)) [1,4,9,10] [0] 2 (0,[]) [(0,0),(1,1)] ⟨Ac,rfl,rfl,trivial⟩ ?_
 rintro⟨x11,x4⟩ ac gs ws ⟨hx11,hq1,p1,_⟩ hS
 refine Ae [] 2 hS fun hS=>Av (AB ((x11:Int)<((l.length:Nat):Int)) hS (fun h1=> ?_) (fun h1=> ?_))
 ·refine BE (Ax [(0,AD x11 l.length)] [] 2 hS fun hS=> ?_)
  have hmx:=hm x11
  exact As [(3,AP (Dy (l.getD x11 (rz [.sl (.int .u8)])) AE)),(4,AP (Dy (l.getD x11 (rz [.sl (.int .u8)])) AE)),(6,FW x4.length 1 24)] [4] 3 hS fun hS=>BV (As [(0,BH x11)] [11] 3 hS fun hS=>Ab (Al hg0 hS (x11+1,x4++[l.getD x11 (rz [.sl (.int .u8)])]) [(0,0),(1,2)] ⟨Ac,(A3 (st:=Q3 _) hq1 rfl rfl),(by rw[List.length_append];simp;omega),trivial⟩))
 ·have hT:=hS
  obtain rfl:l.length=x11:=by omega
  obtain rfl:=hq1.symm
  have hS:=hT
  refine CO (Ae [4] 2 hS fun hS=>AR ?_)
  obtain⟨gs,hS⟩:=hS.fz 1
  exact Bi (cE ..) hS
theorem qE:UU l=l:=by
 have key:∀i,i≤l.length→HG l i=l.take i:=by
  intro i
  induction i with
  |zero=>intro _;rfl
  |succ i ih=>
   intro hi
   have e:HG l (i+1)=HG l i++[List.getD (α:=List Int) l i []]:=rfl
   rw[e,ih Ac,List.take_succ_eq_append_getElem Ac,List.getD_eq_getElem?_getD,List.getElem?_eq_getElem Ac]
   rfl
 rw[cE]
 exact(key _ (Nat.le_refl _)).trans (List.take_length)
def Aas:Con:=⟨[.sk 0,.v .nilFunc],[(0,.sl 22 [.sl (.int .u8)] l)],.ls false [.sl (.int .u8)] l,[(0,.sl 22 [.sl (.int .u8)] l)]⟩
theorem qC (hl:l.length≤1000) (hm:∀j,(l.getD j (rz [.sl (.int .u8)])).length≤10000):ConOk Tryz.prog 96 (Aas l):=by
 have h:=qD l hl hm
 unfold cQ at h
 rw[qE]at h
 exact h
end
section
variable (st ep at_:Nat) (sd tx:List Int) (id ln:Nat) (bx:List (Option (List Int))) (sec:List (List Int))
def zW:Con:=Cq [.cp 0 0] [(0,IC st ep at_ sd tx 1 2),(1,Dh id ln 3),(2,.sl 22 [.sl (.int .u8)] sec),(3,.sl 22 [.os (.int .u8)] bx)] (.ls false [.sl (.int .u8)] sec)
theorem kY (hl:sec.length≤1000) (hm:∀j,(sec.getD j (rz [.sl (.int .u8)])).length≤10000):ConOk Tryz.prog 145 (zW st ep at_ sd tx id ln bx sec):=by
 refine cy 4 Tryz.func145 rfl Tryz.ntmps145 fun hg0 hS=> ?_
 have E5:sec.length≤9223372036854775807:=hS.lens 2 rfl
 have FT:bx.length≤9223372036854775807:=hS.lens 3 rfl
 exact Ae [] 4 hS fun hS=>Av (Ae [] 4 hS fun hS=>Ai hS (BP (Ax [(4,AM (qC sec AE BF) [(0,2)] [])] [] 4 hS fun hS=>AR (BW hS))))
def zT:Con:=⟨[.cp 0 0],[(0,IC st ep at_ sd tx 1 2),(1,Dh id ln 3),(2,.sl 22 [.sl (.int .u8)] sec),(3,.sl 22 [.os (.int .u8)] bx)],.ls false [.sl (.int .u8)] sec,[(0,Bd st ep at_ sd tx 1),(1,Dh id ln 3),(2,.sl 22 [.sl (.int .u8)] sec),(3,.sl 22 [.os (.int .u8)] bx)]⟩
theorem kS (hl:sec.length≤1000) (hm:∀j,(sec.getD j (rz [.sl (.int .u8)])).length≤10000):ConOk Tryz.prog 111 (zT st ep at_ sd tx id ln bx sec):=by
 refine cy 4 Tryz.func111 rfl Tryz.ntmps111 fun hg0 hS=> ?_
 have E5:sec.length≤9223372036854775807:=hS.lens 2 rfl
 have FT:bx.length≤9223372036854775807:=hS.lens 3 rfl
 exact Ae [] 4 hS fun hS=>Ax [(1,AM (kY st ep at_ sd tx id ln bx sec AE BF) [(0,0),(1,1),(2,2),(3,3)] [])] [] 4 hS fun hS=>Av (Ae [] 4 hS fun hS=>AO hS (Dj [] 4 hS fun hS=>Ab (Ae [] 4 hS fun hS=>AR (BW hS))))
end
end
end Go.Sx.Tryz
namespace Go.Sx.Tryz
open Go.Mi Go.RowKit Go.Sx Go.Proofs
noncomputable section
section
variable (st ep at_:Nat) (sd tx:List Int) (id ln:Nat) (bx:List (Option (List Int))) (b r:List Int)
def sQ:Con:=⟨[.cp 0 0,lb b,lb r],[(0,Bd st ep at_ sd tx 1),(1,Dh id ln 2),(2,.sl 22 [.os (.int .u8)] bx)],vi 0,[(0,IC st ep at_ sd tx 3 5),(3,Dh id ln 4),(4,.sl 22 [.os (.int .u8)] bx),(5,.sl 22 [.sl (.int .u8)] ([]:List (List Int)))]⟩
theorem xJ (hb:b.length=0) (hr:r.length=64):ConOk Tryz.prog 73 (sQ st ep at_ sd tx id ln bx b r):=by
 refine cy 3 Tryz.func73 rfl Tryz.ntmps73 fun hg0 hS=> ?_
 have Be:b.length≤9223372036854775807:=hS.len 1 rfl
 have B2:r.length≤9223372036854775807:=hS.len 2 rfl
 have E5:bx.length≤9223372036854775807:=hS.lens 2 rfl
 have hf2:((r.length:Nat):Int)=64:=Ac
 have hf3:((b.length:Nat):Int)=0:=Ac
 refine Ae [] 3 hS fun hS=>Av (Ax [(12,GH hf2)] [] 3 hS fun hS=>Ai hS (DU (Ax [(2,GG hf3)] [] 3 hS fun hS=>AO hS (Av ?_))))
 obtain⟨gs,hS⟩:=hS.nilob 0 7 22 [.sl (.int .u8)]
 refine Dj [] 4 hS fun hS=>DX (Af ?_)
 obtain⟨gs,hS⟩:=hS.rn2 [(0,0),(1,1),(2,2),(3,1),(4,2),(5,3)] [(6,vi 0)] [(0,IC st ep at_ sd tx 3 5),(3,Dh id ln 4),(4,.sl 22 [.os (.int .u8)] bx),(5,.sl 22 [.sl (.int .u8)] [])] 6 hg0
 exact BW hS
end
def XU (st ep:Nat) (sd tx:List Int) (bx:List (Option (List Int))) (b:List Int) (pid pa:Nat) (d:List Int):Prop:=
 b=[]∨(b=Dx pid pa 2 d∧pa<2∧(1≤d.length∧d.length≤1000)∧pid≤1000000000∧d.length=min 1000 ((if st=1 then 1088 else 1184)-pa*1000)
  ∧((st=1∧pid≤2*ep+1)∨(st≠1∧pid≤2*ep)∨(st=3∧pid=2*ep+2))
  ∧(pid=(if st=1 then 2*ep+1 else 2*ep)→st≠3→Lm bx pa d)
  ∧(st=1→pid=2*ep+1→1≤tx.length∧sd.length=64)
  ∧(st≠1→full (A9 bx pa d)=true→chk ((G3 (A9 bx pa d)).flatten)=0∧((G3 (A9 bx pa d)).flatten).length=1184)
  ∧(st=1→full (A9 bx pa d)=true→((G3 (A9 bx pa d)).flatten).length=1088))
def FI (st ep at_:Nat) (sd tx:List Int) (id ln:Nat) (bx:List (Option (List Int))) (b:List Int) (pid pa:Nat) (d r:List Int):Nat×Nat×Nat×List Int×List Int×Nat×Nat×List (Option (List Int))×List (List Int):=
 AJ (if b=[]then(st,ep,at_,sd,tx,id,ln,bx,[])else WW st ep at_ sd tx id ln bx pid pa 2 (pa*1000) d r)
theorem bO (st ep at_:Nat) (sd tx:List Int) (id ln:Nat) (bx:List (Option (List Int))) (pid pa:Nat) (d r:List Int):FI st ep at_ sd tx id ln bx [] pid pa d r=(st,ep,at_,sd,tx,id,ln,bx,[]):=(Ag _).trans (if_pos rfl)
theorem WX (st ep at_:Nat) (sd tx:List Int) (id ln:Nat) (bx:List (Option (List Int))) {b:List Int} (h:b≠[]) (pid pa:Nat) (d r:List Int):FI st ep at_ sd tx id ln bx b pid pa d r=WW st ep at_ sd tx id ln bx pid pa 2 (pa*1000) d r:=(Ag _).trans (if_neg h)
section
variable (st ep at_:Nat) (sd tx:List Int) (id ln:Nat) (bx:List (Option (List Int))) (b:List Int) (pid:Nat) (pa:Nat) (d:List Int) (r:List Int)
def sR:Con:=⟨[.cp 0 0,lb b,lb r],[(0,Bd st ep at_ sd tx 1),(1,Dh id ln 2),(2,.sl 22 [.os (.int .u8)] bx)],vi 0,[(0,IC ((FI st ep at_ sd tx id ln bx b pid pa d r).1) ((FI st ep at_ sd tx id ln bx b pid pa d r).2.1) ((FI st ep at_ sd tx id ln bx b pid pa d r).2.2.1) ((FI st ep at_ sd tx id ln bx b pid pa d r).2.2.2.1) ((FI st ep at_ sd tx id ln bx b pid pa d r).2.2.2.2.1) 3 5),(3,Dh ((FI st ep at_ sd tx id ln bx b pid pa d r).2.2.2.2.2.1) ((FI st ep at_ sd tx id ln bx b pid pa d r).2.2.2.2.2.2.1) 4),(4,.sl 22 [.os (.int .u8)] ((FI st ep at_ sd tx id ln bx b pid pa d r).2.2.2.2.2.2.2.1)),(5,.sl 22 [.sl (.int .u8)] ((FI st ep at_ sd tx id ln bx b pid pa d r).2.2.2.2.2.2.2.2))]⟩
theorem AcO (hst:st=1∨st=2∨st=3) (hln:ln=(if st=1 then 1088 else 1184)) (hid:id=(if st=1 then 2*ep+1 else 2*ep)) (hb:bx.length=2) (hr:r.length=64) (he:ep≤400000000) (hpc:XU st ep sd tx bx b pid pa d):ConOk Tryz.prog 73 (sR st ep at_ sd tx id ln bx b pid pa d r):=by
 by_cases h0:b=[]
 ·subst h0
  have h:=xJ st ep at_ sd tx id ln bx [] r rfl hr
  unfold sQ at h
  unfold sR
  rw[bO]
  exact h
 ·rcases hpc with h|⟨hb1,hpa,hd,hpi2,hdl,hpi,hft,htx,hEt,hEg⟩
  ·exact absurd h h0
  ·have h:=AcP st ep at_ sd tx id ln bx pid pa 2 (pa*1000) d r hb hln hid hst hpi rfl Ac ⟨hpa,rfl⟩ hdl (fun h=>hft (h.trans hid)) hd hr ⟨he,hpi2⟩ (fun h1 h2=>htx h1 (by rw[if_pos h1]at hid;omega)) hEt hEg
   unfold AbD at h
   unfold sR
   rw[WX st ep at_ sd tx id ln bx h0,hb1]
   exact h
end
end
end Go.Sx.Tryz
namespace Go.Sx.Tryz
open Go.Mi Go.RowKit Go.Sx Go.Proofs
noncomputable section
def XV (x0:List Int) (x1 x2:Bool) (x3:Nat) (x4 x5:Nat) (x6 x7:Nat) (x8 x9 x10:Nat):O:= .ob 80 (chain [lb x0,.v (.bool x1),.v (.bool x2),.cp x3 0,.cp x4 0,.cp x5 0,vi ((x6:Nat):Int),.sk x7,vi ((x8:Nat):Int),vi ((x9:Nat):Int),.sk x10])
section
variable (id:List Int) (fi:Bool) (ok:List Int) (oi:Nat) (ik:List Int) (ii low:Nat) (mx:List (List Int)) (last told:Nat) (kl:List KR) (st:Nat) (ep at_:Nat) (sd tx:List Int) (rid rln:Nat) (bx:List (Option (List Int)))
def zR (k:List Int) (n:Nat):Con:=Cq [.cp 0 0,lb k,vi (n:Int)] [(0,XV id fi true 1 2 5 low 4 last told 3),(1,Aj ok oi),(2,Aj ik ii),(3,.sl 86 [.int .i64,.int .i64,.sl (.sl (.int .u8))] kl),(4,.sl 22 [.sl (.int .u8)] mx),(5,Bd st ep at_ sd tx 6),(6,Dh rid rln 7),(7,.sl 22 [.os (.int .u8)] bx)] (lb (AI k (mx.getD (n-low) (rz [.sl (.int .u8)])) [109,101,115,115,97,103,101]))
theorem VV (k:List Int) (n:Nat) (hm1:1≤mx.length∧mx.length≤100000) (hm2:∀j,(mx.getD j (rz [.sl (.int .u8)])).length≤32) (hlow:low≤100000000000) (hk:k.length=32) (hn:low≤n∧n<low+mx.length):ConOk Tryz.prog 51 (zR id fi ok oi ik ii low mx last told kl st ep at_ sd tx rid rln bx k n):=by
 refine cy 8 Tryz.func51 rfl Tryz.ntmps51 fun hg0 hS=> ?_
 have Be:k.length≤9223372036854775807:=hS.len 1 rfl
 have FT:kl.length≤9223372036854775807:=hS.lens 3 rfl
 have QJ:mx.length≤9223372036854775807:=hS.lens 4 rfl
 have E4:bx.length≤9223372036854775807:=hS.lens 7 rfl
 refine Ae [] 8 hS fun hS=>Av ?_
 have hmk:=hm2 (n-low)
 exact As [(10,G9 n low (n-low)),(11,AD (n-low) mx.length),(13,Row),(14,O1 (0<[109,101,115,115,97,103,101].length) (by decide)),(15,AP (EP k (mx.getD (n-low) (rz [.sl (.int .u8)])) [109,101,115,115,97,103,101] AE AE AE))] [] 9 hS fun hS=>DX (BW hS)
def sG (i:Nat):Con:=Cq [.cp 0 0,vi (i:Int)] [(0,XV id fi true 1 2 5 low 4 last told 3),(1,Aj ok oi),(2,Aj ik ii),(3,.sl 86 [.int .i64,.int .i64,.sl (.sl (.int .u8))] kl),(4,.sl 22 [.sl (.int .u8)] mx),(5,Bd st ep at_ sd tx 6),(6,Dh rid rln 7),(7,.sl 22 [.os (.int .u8)] bx)] (vi (C6 kl (i:Int)))
theorem SN (i:Nat):ConOk Tryz.prog 94 (sG id fi ok oi ik ii low mx last told kl st ep at_ sd tx rid rln bx i):=by
 refine cy 8 Tryz.func94 rfl Tryz.ntmps94 fun hg0 hS=> ?_
 have FT:kl.length≤9223372036854775807:=hS.lens 3 rfl
 have QJ:mx.length≤9223372036854775807:=hS.lens 4 rfl
 have E4:bx.length≤9223372036854775807:=hS.lens 7 rfl
 exact Ae [] 9 hS fun hS=>Ax [(5,AM (bG kl i) [(0,3),(1,8)] [])] [] 9 hS fun hS=>AR (BW hS)
end
end
end Go.Sx.Tryz
namespace Go.Sx.Tryz
open Go.Mi Go.RowKit Go.Sx Go.Proofs
noncomputable section
section
variable (id:List Int) (fi:Bool) (ok:List Int) (oi:Nat) (ik:List Int) (ii low:Nat) (mx:List (List Int)) (last told:Nat) (kl:List KR) (st:Nat) (ep at_:Nat) (sd tx:List Int) (rid rln:Nat) (bx:List (Option (List Int))) (hb:List Int) (hi:Nat) (hn hh:Nat) (hp hx:List Int)
def NU (id:List Int) (fi:Bool) (ok:List Int) (oi:Nat) (ik:List Int) (ii low:Nat) (mx:List (List Int)) (last told:Nat) (kl:List KR) (st:Nat) (ep at_:Nat) (sd tx:List Int) (rid rln:Nat) (bx:List (Option (List Int))) (hb:List Int) (hi:Nat) (hn hh:Nat) (hp hx:List Int):Bool:=if(hi:Int)<(ii:Int)then(if(C6 kl (hi:Int))<0 then false else(if(hn:Int)<(((kl.getD (Int.toNat (C6 kl (hi:Int))) (rz [.int .i64,.int .i64,.sl (.sl (.int .u8))])).2).1)then false else(if(((((kl.getD (Int.toNat (C6 kl (hi:Int))) (rz [.int .i64,.int .i64,.sl (.sl (.int .u8))])).2).2).length:Nat):Int)≤((hn:Int)-(((kl.getD (Int.toNat (C6 kl (hi:Int))) (rz [.int .i64,.int .i64,.sl (.sl (.int .u8))])).2).1))then false else true)))else(if cK ii hi=true then(if(hn:Int)<(last:Int)then false else(if((low+mx.length-1:Nat):Int)<(hn:Int)then false else true))else false)
def B5:Bool:=AJ (NU id fi ok oi ik ii low mx last told kl st ep at_ sd tx rid rln bx hb hi hn hh hp hx)
theorem D2:B5 id fi ok oi ik ii low mx last told kl st ep at_ sd tx rid rln bx hb hi hn hh hp hx=NU id fi ok oi ik ii low mx last told kl st ep at_ sd tx rid rln bx hb hi hn hh hp hx:=Ag _
def Kd (id:List Int) (fi:Bool) (ok:List Int) (oi:Nat) (ik:List Int) (ii low:Nat) (mx:List (List Int)) (last told:Nat) (kl:List KR) (st:Nat) (ep at_:Nat) (sd tx:List Int) (rid rln:Nat) (bx:List (Option (List Int))) (hb:List Int) (hi:Nat) (hn hh:Nat) (hp hx:List Int):Nat:=if(hi:Int)<(ii:Int)then(if(C6 kl (hi:Int))<0 then 5 else(if(hn:Int)<(((kl.getD (Int.toNat (C6 kl (hi:Int))) (rz [.int .i64,.int .i64,.sl (.sl (.int .u8))])).2).1)then 2 else 2))else(if cK ii hi=true then(if(hn:Int)<(last:Int)then 2 else 2)else(Ft ik ii hi))
def L9:Nat:=AJ (Kd id fi ok oi ik ii low mx last told kl st ep at_ sd tx rid rln bx hb hi hn hh hp hx)
theorem RP:L9 id fi ok oi ik ii low mx last told kl st ep at_ sd tx rid rln bx hb hi hn hh hp hx=Kd id fi ok oi ik ii low mx last told kl st ep at_ sd tx rid rln bx hb hi hn hh hp hx:=Ag _
def Qq (id:List Int) (fi:Bool) (ok:List Int) (oi:Nat) (ik:List Int) (ii low:Nat) (mx:List (List Int)) (last told:Nat) (kl:List KR) (st:Nat) (ep at_:Nat) (sd tx:List Int) (rid rln:Nat) (bx:List (Option (List Int))) (hb:List Int) (hi:Nat) (hn hh:Nat) (hp hx:List Int):(List Int):=if(hi:Int)<(ii:Int)then(((kl.getD (Int.toNat (C6 kl (hi:Int))) (rz [.int .i64,.int .i64,.sl (.sl (.int .u8))])).2).2).getD (Int.toNat ((hn:Int)-(((kl.getD (Int.toNat (C6 kl (hi:Int))) (rz [.int .i64,.int .i64,.sl (.sl (.int .u8))])).2).1))) (rz [.sl (.int .u8)])else(AI (Kf (AA ik (hi-ii))) (mx.getD (hn-low) (rz [.sl (.int .u8)])) [109,101,115,115,97,103,101])
def CH:(List Int):=AJ (Qq id fi ok oi ik ii low mx last told kl st ep at_ sd tx rid rln bx hb hi hn hh hp hx)
theorem KN:CH id fi ok oi ik ii low mx last told kl st ep at_ sd tx rid rln bx hb hi hn hh hp hx=Qq id fi ok oi ik ii low mx last told kl st ep at_ sd tx rid rln bx hb hi hn hh hp hx:=Ag _
def Zm (z_:(List Int):=CH id fi ok oi ik ii low mx last told kl st ep at_ sd tx rid rln bx hb hi hn hh hp hx):Con:=Cq [.cp 0 0,.ag (chain [lb hb,vi (hi:Int),vi (hn:Int),vi (hh:Int),lb hp,lb hx])] [(0,XV id fi true 1 2 5 low 4 last told 3),(1,Aj ok oi),(2,Aj ik ii),(3,.sl 86 [.int .i64,.int .i64,.sl (.sl (.int .u8))] kl),(4,.sl 22 [.sl (.int .u8)] mx),(5,Bd st ep at_ sd tx 6),(6,Dh rid rln 7),(7,.sl 22 [.os (.int .u8)] bx)] (lb z_)
theorem WB (hok:ok.length=32) (hik:ik.length=32) (hoi:oi≤100000000000) (hii:ii≤100000000000) (hm1:1≤mx.length∧mx.length≤100000) (hm2:∀j,(mx.getD j (rz [.sl (.int .u8)])).length≤32) (hlow:low≤100000000000) (hK:Of kl) (hll:low≤last∧last≤100000000000) (hhn:hn≤10000000000∧hi≤10000000000) (hk:B5 id fi ok oi ik ii low mx last told kl st ep at_ sd tx rid rln bx hb hi hn hh hp hx=true):ConOk Tryz.prog 70 (Zm id fi ok oi ik ii low mx last told kl st ep at_ sd tx rid rln bx hb hi hn hh hp hx):=by
 refine cy 8 Tryz.func70 rfl Tryz.ntmps70 fun hg0 hS=> ?_
 have FT:kl.length≤9223372036854775807:=hS.lens 3 rfl
 have QJ:mx.length≤9223372036854775807:=hS.lens 4 rfl
 have E4:bx.length≤9223372036854775807:=hS.lens 7 rfl
 refine Ae [] 9 hS fun hS=>Av (Ax [(6,AM (CU ik ii) [(0,2)] [])] [] 9 hS fun hS=>AB ((hi:Int)<(ii:Int)) hS (fun h1=> ?_) (fun h1=> ?_))
 ·refine Ax [(3,AM (SN id fi ok oi ik ii low mx last told kl st ep at_ sd tx rid rln bx hi) [(0,0),(1,1),(2,2),(3,3),(4,4),(5,5),(6,6),(7,7)] [])] [] 9 hS fun hS=>Av (Ae [] 9 hS fun hS=>AB ((C6 kl (hi:Int))<0) hS (fun h2=> ?_) (fun h2=> ?_))
  ·have hK:B5 id fi ok oi ik ii low mx last told kl st ep at_ sd tx rid rln bx hb hi hn hh hp hx=false:=(D2 id fi ok oi ik ii low mx last told kl st ep at_ sd tx rid rln bx hb hi hn hh hp hx).trans ((if_pos h1).trans (if_pos h2))
   rw[hK]at hk
   cases hk
  ·refine DU ?_
   have hpl:=Yw (l:=kl) (i:=(hi:Int)) BF
   have hkr:=hK.2 (C6 kl (hi:Int)).toNat Ac
   have hkf:0≤(kl.getD (Int.toNat (C6 kl (hi:Int))) (rz [.int .i64,.int .i64,.sl (.sl (.int .u8))])).2.1∧(kl.getD (Int.toNat (C6 kl (hi:Int))) (rz [.int .i64,.int .i64,.sl (.sl (.int .u8))])).2.1≤1000000000000:=hkr.2.1
   have hkq:(kl.getD (Int.toNat (C6 kl (hi:Int))) (rz [.int .i64,.int .i64,.sl (.sl (.int .u8))])).2.2.length≤100000:=hkr.2.2.1
   refine As [(5,XZ (C6 kl (hi:Int)) kl.length)] [6] 10 hS fun hS=>Ej (Av ?_)
   by_cases h3:(hn:Int)<(((kl.getD (Int.toNat (C6 kl (hi:Int))) (rz [.int .i64,.int .i64,.sl (.sl (.int .u8))])).2).1)
   ·refine As [(4,GG h3)] [] 10 hS fun hS=>Ab (AO hS ?_)
    have hK:B5 id fi ok oi ik ii low mx last told kl st ep at_ sd tx rid rln bx hb hi hn hh hp hx=false:=(D2 id fi ok oi ik ii low mx last told kl st ep at_ sd tx rid rln bx hb hi hn hh hp hx).trans ((if_pos h1).trans ((if_neg h2).trans (if_pos h3)))
    rw[hK]at hk
    cases hk
   ·refine As [(4,DC h3),(10,ZH (hn:Int) (((kl.getD (Int.toNat (C6 kl (hi:Int))) (rz [.int .i64,.int .i64,.sl (.sl (.int .u8))])).2).1))] [] 10 hS fun hS=>Ab (AB ((((((kl.getD (Int.toNat (C6 kl (hi:Int))) (rz [.int .i64,.int .i64,.sl (.sl (.int .u8))])).2).2).length:Nat):Int)≤((hn:Int)-(((kl.getD (Int.toNat (C6 kl (hi:Int))) (rz [.int .i64,.int .i64,.sl (.sl (.int .u8))])).2).1))) hS (fun h4=> ?_) (fun h4=> ?_))
    ·have hK:B5 id fi ok oi ik ii low mx last told kl st ep at_ sd tx rid rln bx hb hi hn hh hp hx=false:=(D2 id fi ok oi ik ii low mx last told kl st ep at_ sd tx rid rln bx hb hi hn hh hp hx).trans ((if_pos h1).trans ((if_neg h2).trans ((if_neg h3).trans (if_pos h4))))
     rw[hK]at hk
     cases hk
    ·exact BP (Ax [(6,ZH (hn:Int) (((kl.getD (Int.toNat (C6 kl (hi:Int))) (rz [.int .i64,.int .i64,.sl (.sl (.int .u8))])).2).1)),(7,XZ ((hn:Int)-(((kl.getD (Int.toNat (C6 kl (hi:Int))) (rz [.int .i64,.int .i64,.sl (.sl (.int .u8))])).2).1)) ((((kl.getD (Int.toNat (C6 kl (hi:Int))) (rz [.int .i64,.int .i64,.sl (.sl (.int .u8))])).2).2).length))] [] 10 hS fun hS=>AR (Af (Bi (.trans (KN ..) (if_pos h1)) hS)))
 ·refine DU ?_
  by_cases h5:cK ii hi=true
  ·refine As [(6,AM (Xw ik ii hi AE Ac h5) [(0,2)] [])] [] 9 hS fun hS=>Ab (Ax [(1,AP (Mf))] [] 9 hS fun hS=>Il ?_)
   by_cases h6:(hn:Int)<(last:Int)
   ·refine As [(6,GG h6)] [] 9 hS fun hS=>Ab (AO hS ?_)
    have hK:B5 id fi ok oi ik ii low mx last told kl st ep at_ sd tx rid rln bx hb hi hn hh hp hx=false:=(D2 id fi ok oi ik ii low mx last told kl st ep at_ sd tx rid rln bx hb hi hn hh hp hx).trans ((if_neg h1).trans ((if_pos h5).trans (if_pos h6)))
    rw[hK]at hk
    cases hk
   ·refine As [(6,DC h6),(11,IB (DF low mx M7 Ac) [0,1,4] [.im (chain [.top,.top,.top,.im (chain []) 0,.top,.top,vi (low:Int),.ls false [.sl (.int .u8)] mx,.top,.top,.top]) 0])] [] 9 hS fun hS=>Ab (AB (((low+mx.length-1:Nat):Int)<(hn:Int)) hS (fun h7=> ?_) (fun h7=> ?_))
    ·have hK:B5 id fi ok oi ik ii low mx last told kl st ep at_ sd tx rid rln bx hb hi hn hh hp hx=false:=(D2 id fi ok oi ik ii low mx last told kl st ep at_ sd tx rid rln bx hb hi hn hh hp hx).trans ((if_neg h1).trans ((if_pos h5).trans ((if_neg h6).trans (if_pos h7))))
     rw[hK]at hk
     cases hk
    ·exact BP (Ax [(4,AM (VV id fi ok oi ik ii low mx last told kl st ep at_ sd tx rid rln bx (Kf (AA ik (hi-ii))) hn M7 (by first |assumption|(intro j;simp<;>omega)) Ac AE Ac) [(0,0),(1,1),(2,2),(3,3),(4,4),(5,5),(6,6),(7,7)] [])] [] 9 hS fun hS=>AR (Bi (.trans (KN ..) (if_neg h1)) hS))
  ·refine As [(6,AM (Xv ik ii hi AE Ac (Eu h5)) [(0,2)] [])] [] 9 hS fun hS=>Ej ?_
   have hcm:=qU (Eu h5) ik
   have hK:B5 id fi ok oi ik ii low mx last told kl st ep at_ sd tx rid rln bx hb hi hn hh hp hx=false:=(D2 id fi ok oi ik ii low mx last told kl st ep at_ sd tx rid rln bx hb hi hn hh hp hx).trans ((if_neg h1).trans (if_neg h5))
   rw[hK]at hk
   cases hk
end
def Le (ik:List Int) (ii low:Nat) (mx:List (List Int)) (hi x53 k2:Nat):(Nat×(List (List Int)))→(Nat×(List (List Int))):=fun(x11,o12)=>(x11+1,o12++[(AI ((FM ik (hi-ii)).getD x53 (rz [.sl (.int .u8)])) (mx.getD (x11-low) (rz [.sl (.int .u8)])) [109,101,115,115,97,103,101])])
def Et (id:List Int) (fi:Bool) (ok:List Int) (oi:Nat) (ik:List Int) (ii low:Nat) (mx:List (List Int)) (last told:Nat) (kl:List KR) (st:Nat) (ep at_:Nat) (sd tx:List Int) (rid rln:Nat) (bx:List (Option (List Int))) (hb:List Int) (hi:Nat) (hn hh:Nat) (hp hx:List Int) (x53:Nat) (o10:List (Int×Int×(List (List Int)))):Nat→Nat×(List (List Int))
 |0=>(last,[])
 |k2+1=>Le ik ii low mx hi x53 k2 (Et id fi ok oi ik ii low mx last told kl st ep at_ sd tx rid rln bx hb hi hn hh hp hx x53 o10 k2)
def Im (hn:Nat):(Nat×(List (List Int)))→Prop:=fun(x11,o12)=>((x11:Nat):Int)≤(hn:Int)
section
variable (id:List Int) (fi:Bool) (ok:List Int) (oi:Nat) (ik:List Int) (ii low:Nat) (mx:List (List Int)) (last told:Nat) (kl:List KR) (st:Nat) (ep at_:Nat) (sd tx:List Int) (rid rln:Nat) (bx:List (Option (List Int))) (hb:List Int) (hi:Nat) (hn hh:Nat) (hp hx:List Int)
def Io (x53:Nat):(List (Int×Int×(List (List Int))))→(List (Int×Int×(List (List Int)))):=fun o10=>o10++[(((ii+x53:Nat):Int),(last:Int),(Et id fi ok oi ik ii low mx last told kl st ep at_ sd tx rid rln bx hb hi hn hh hp hx x53 o10 (CS fun j=>Im hn (Et id fi ok oi ik ii low mx last told kl st ep at_ sd tx rid rln bx hb hi hn hh hp hx x53 o10 j))).2)]
def Cx (id:List Int) (fi:Bool) (ok:List Int) (oi:Nat) (ik:List Int) (ii low:Nat) (mx:List (List Int)) (last told:Nat) (kl:List KR) (st:Nat) (ep at_:Nat) (sd tx:List Int) (rid rln:Nat) (bx:List (Option (List Int))) (hb:List Int) (hi:Nat) (hn hh:Nat) (hp hx:List Int):Nat→(List (Int×Int×(List (List Int))))
 |0=>kl
 |x53+1=>Io id fi ok oi ik ii low mx last told kl st ep at_ sd tx rid rln bx hb hi hn hh hp hx x53 (Cx id fi ok oi ik ii low mx last told kl st ep at_ sd tx rid rln bx hb hi hn hh hp hx x53)
def OQ:Nat×(List (Int×Int×(List (List Int))))×(List Int)×Nat:=if(hi:Int)<(ii:Int)then(last,kl.take ((C6 kl (hi:Int)).toNat)++kl.drop (((C6 kl (hi:Int)).toNat)+1),ik,ii)else(hn,(Cx id fi ok oi ik ii low mx last told kl st ep at_ sd tx rid rln bx hb hi hn hh hp hx ((FM ik (hi-ii)).length)).drop (Int.toNat (max ((((Cx id fi ok oi ik ii low mx last told kl st ep at_ sd tx rid rln bx hb hi hn hh hp hx ((FM ik (hi-ii)).length)).length:Nat):Int)-60) 0)),Oa (AA ik (hi-ii)),(hi+1))
def Cc:Nat×(List (Int×Int×(List (List Int))))×(List Int)×Nat:=AJ (OQ id fi ok oi ik ii low mx last told kl st ep at_ sd tx rid rln bx hb hi hn hh hp hx)
theorem OR:Cc id fi ok oi ik ii low mx last told kl st ep at_ sd tx rid rln bx hb hi hn hh hp hx=OQ id fi ok oi ik ii low mx last told kl st ep at_ sd tx rid rln bx hb hi hn hh hp hx:=Ag _
def AaB (z_:Nat×(List (Int×Int×(List (List Int))))×(List Int)×Nat:=Cc id fi ok oi ik ii low mx last told kl st ep at_ sd tx rid rln bx hb hi hn hh hp hx):Con:=⟨[.cp 0 0,.ag (chain [lb hb,vi (hi:Int),vi (hn:Int),vi (hh:Int),lb hp,lb hx])],[(0,XV id fi true 1 2 5 low 4 last told 3),(1,Aj ok oi),(2,Aj ik ii),(3,.sl 86 [.int .i64,.int .i64,.sl (.sl (.int .u8))] kl),(4,.sl 22 [.sl (.int .u8)] mx),(5,Bd st ep at_ sd tx 6),(6,Dh rid rln 7),(7,.sl 22 [.os (.int .u8)] bx)],.tu (chain []),[(0,XV id fi true 1 2 5 low 4 z_.1 told 8),(1,Aj ok oi),(2,Aj (z_.2.2.1) z_.2.2.2),(4,.sl 22 [.sl (.int .u8)] mx),(5,Bd st ep at_ sd tx 6),(6,Dh rid rln 7),(7,.sl 22 [.os (.int .u8)] bx),(8,.sl 86 [.int .i64,.int .i64,.sl (.sl (.int .u8))] (z_.2.1))]⟩
theorem qZ (hok:ok.length=32) (hik:ik.length=32) (hoi:oi≤100000000000) (hii:ii≤100000000000) (hm1:1≤mx.length∧mx.length≤100000) (hm2:∀j,(mx.getD j (rz [.sl (.int .u8)])).length≤32) (hlow:low≤100000000000) (hK:Of kl) (hll:low≤last∧last≤100000000000) (hhn:hn≤10000000000∧hi≤10000000000) (hc:(hi<ii∧0≤C6 kl (hi:Int))∨(ii≤hi∧hi≤ii+40∧last≤hn∧hn+1≤low+mx.length)):ConOk Tryz.prog 72 (AaB id fi ok oi ik ii low mx last told kl st ep at_ sd tx rid rln bx hb hi hn hh hp hx):=by
 refine cy 8 Tryz.func72 rfl Tryz.ntmps72 fun hg0 hS=> ?_
 have FT:kl.length≤9223372036854775807:=hS.lens 3 rfl
 have QJ:mx.length≤9223372036854775807:=hS.lens 4 rfl
 have E4:bx.length≤9223372036854775807:=hS.lens 7 rfl
 refine Ae [] 9 hS fun hS=>Av (Ax [(6,AM (CU ik ii) [(0,2)] [])] [] 9 hS fun hS=>AB ((hi:Int)<(ii:Int)) hS (fun h1=> ?_) (fun h1=> ?_))
 ·refine Av ?_
  have hpg:=Nq (l:=kl) (hi:Int)
  have hkl:=hK.1
  refine As [(3,AM (SN id fi ok oi ik ii low mx last told kl st ep at_ sd tx rid rln bx hi) [(0,0),(1,1),(2,2),(3,3),(4,4),(5,5),(6,6),(7,7)] []),(4,RN ((((C6 kl (hi:Int)).toNat):Nat):Int) [(C6 kl (hi:Int))=((((C6 kl (hi:Int)).toNat):Nat):Int)] ⟨by omega,trivial⟩)] [] 9 hS fun hS=>Ej ?_
  have hpg:=Nq (l:=kl) (hi:Int)
  have hkl:=hK.1
  obtain⟨gs,hS⟩:=hS.fz 3
  refine As [(5,AM (Gi kl AE) [] [(0,9)]),(8,Ek ((C6 kl (hi:Int)).toNat) 1 (((C6 kl (hi:Int)).toNat)+1)),(9,AM (bI kl ((C6 kl (hi:Int)).toNat) (((C6 kl (hi:Int)).toNat)+1) Ac) [(0,9)] [(1,10)])] [] 11 hS fun hS=>DX (Af ?_)
  obtain⟨gs,hS⟩:=hS.rx [(0,0),(1,1),(2,2),(3,3),(4,4),(5,5),(6,6),(7,7),(8,10)] [] [0,1,2,4,5,6,7,8] 9 hg0
  exact Bi (.trans (OR ..) (if_pos h1)) hS
 ·refine BP (Ax [(4,AM (CU ik ii) [(0,2)] [])] [] 9 hS fun hS=>Ax [(6,AM (Rc ik ii hi AE Ac Ac) [(0,2)] [(1,9)])] [] 10 hS fun hS=>Il ?_)
  obtain⟨gs,hS⟩:=hS.alias 3
  have hpg:=Nq (l:=kl) (hi:Int)
  have hkl:=hK.1
  have hsl:=FZ ik (hi-ii)
  refine Dj [51] 11 hS fun hS=>Ab (Br (Ar (ι:=Nat×(List (Int×Int×(List (List Int))))) hg0 hS (fun(x53,o10)=>((FM ik (hi-ii)).length-x53,[(53,vi ((x53:Nat):Int))],[(10,.sl 86 [.int .i64,.int .i64,.sl (.sl (.int .u8))] o10)],(x53≤(FM ik (hi-ii)).length)∧(o10=Cx id fi ok oi ik ii low mx last told kl st ep at_ sd tx rid rln bx hb hi hn hh hp hx x53)∧(o10.length≤kl.length+x53)∧True)) [0,3,5,51,52] [0,1,2,4,5,6,7,8,9] 11 (0,kl) [(0,0),(1,1),(2,2),(3,3),(4,4),(5,5),(6,6),(7,7),(8,8),(9,9),(10,10)] ⟨Ac,rfl,Ac,trivial⟩ ?_))
  rintro⟨x53,o10⟩ ac gs ws ⟨hx53,hq1,p1,_⟩ hS
  refine Ae [] 11 hS fun hS=>Av (AB ((x53:Int)<(((FM ik (hi-ii)).length:Nat):Int)) hS (fun h2=> ?_) (fun h2=> ?_))
  ·refine BE (Ax [(1,AD x53 ((FM ik (hi-ii)).length))] [] 11 hS fun hS=>Ax [(2,Ek ii x53 (ii+x53))] [10] 12 hS fun hS=>Il ?_)
   obtain⟨gs,hS⟩:=hS.nilob 11 2 22 [.sl (.int .u8)]
   refine Dj [] 13 hS fun hS=>Ab (Br (Ar (ι:=Nat×Nat×(List (List Int))) hg0 hS (fun(k2,x11,o12)=>(hn+1-x11,[(11,vi (x11:Int))],[(12,.sl 22 [.sl (.int .u8)] o12)],((x11,o12)=Et id fi ok oi ik ii low mx last told kl st ep at_ sd tx rid rln bx hb hi hn hh hp hx x53 o10 k2)∧(∀j,j<k2→Im hn (Et id fi ok oi ik ii low mx last told kl st ep at_ sd tx rid rln bx hb hi hn hh hp hx x53 o10 j))∧(last≤x11∧x11≤hn+1)∧(o12.length+last=x11)∧True)) [0,3,5,9,10,51,52,53] [0,1,2,4,5,6,7,8,9,10,11] 13 (0,last,[]) [(0,0),(1,1),(2,2),(3,3),(4,4),(5,5),(6,6),(7,7),(8,8),(9,9),(10,10),(11,11),(12,12)] ⟨rfl,(fun j h=>absurd h (Nat.not_lt_zero j)),Ac,(by simp),trivial⟩ ?_))
   rintro⟨k2,x11,o12⟩ ac gs ws ⟨hq2,hj2,p2,p3,_⟩ hS
   refine Av (Ae [] 13 hS fun hS=>AB ((x11:Int)≤(hn:Int)) hS (fun h3=> ?_) (fun h3=> ?_))
   ·refine BE ?_
    have hsk:=Sf (key:=ik) (n:=hi-ii) (j:=x53) Ac
    exact As [(5,AM (VV id fi ok oi (AA ik (hi-ii)) hi low mx last told o10 st ep at_ sd tx rid rln bx ((FM ik (hi-ii)).getD x53 (rz [.sl (.int .u8)])) x11 M7 (by first |assumption|(intro j;simp<;>omega)) Ac AE Ac) [(0,0),(1,1),(2,2),(3,10),(4,4),(5,5),(6,6),(7,7)] []),(7,FW o12.length 1 24 (by(first |omega|(simp only[List.length_cons,List.length_nil];omega))))] [] 14 hS fun hS=>BV (As [(1,BH x11)] [11] 14 hS fun hS=>Ab (Al hg0 hS (k2+1,x11+1,o12++[(AI ((FM ik (hi-ii)).getD x53 (rz [.sl (.int .u8)])) (mx.getD (x11-low) (rz [.sl (.int .u8)])) [109,101,115,115,97,103,101])]) [(0,0),(1,1),(2,2),(3,3),(4,4),(5,5),(6,6),(7,7),(8,8),(9,9),(10,10),(11,11),(12,13)] ⟨(A3 (st:=Le _ _ _ _ _ _) hq2 rfl rfl),(A0 hj2 (by rw[←hq2];exact h3)),Ac,(by rw[List.length_append,List.length_cons,List.length_nil];omega),trivial⟩))
   ·have hT:=hS
    obtain rfl:=BK (by rw[←hq2];first |exact h3|exact not_not_intro h3) hj2
    obtain⟨rfl,rfl⟩:=Ug hq2
    have hS:=hT
    refine CO ?_
    obtain⟨gs,hS⟩:=hS.fz 12
    exact As [(7,FW o10.length 1 40 (by(first |omega|(simp only[List.length_cons,List.length_nil];omega))))] [] 14 hS fun hS=>BV (As [(0,BH x53)] [53] 14 hS fun hS=>Ab (Al hg0 hS (x53+1,o10++[(((ii+x53:Nat):Int),(last:Int),(Et id fi ok oi ik ii low mx last told kl st ep at_ sd tx rid rln bx hb hi hn hh hp hx x53 o10 (CS fun j=>Im hn (Et id fi ok oi ik ii low mx last told kl st ep at_ sd tx rid rln bx hb hi hn hh hp hx x53 o10 j))).2)]) [(0,0),(1,1),(2,2),(3,3),(4,4),(5,5),(6,6),(7,7),(8,8),(9,9),(10,13)] ⟨Ac,(A3 (st:=Io _ _ _ _ _ _ _ _ _ _ _ _ _ _ _ _ _ _ _ _ _ _ _ _ _) hq1 rfl rfl),(by rw[List.length_append,List.length_cons,List.length_nil];omega),trivial⟩))
  ·have hT:=hS
   obtain rfl:(FM ik (hi-ii)).length=x53:=by omega
   obtain rfl:=hq1.symm
   have hS:=hT
   refine ML ?_
   obtain⟨gs,hS⟩:=hS.fz 10
   refine As [(10,ZH (((Cx id fi ok oi ik ii low mx last told kl st ep at_ sd tx rid rln bx hb hi hn hh hp hx ((FM ik (hi-ii)).length)).length:Nat):Int) 60),(11,RN (max ((((Cx id fi ok oi ik ii low mx last told kl st ep at_ sd tx rid rln bx hb hi hn hh hp hx ((FM ik (hi-ii)).length)).length:Nat):Int)-60) 0) [(if 0>((((Cx id fi ok oi ik ii low mx last told kl st ep at_ sd tx rid rln bx hb hi hn hh hp hx ((FM ik (hi-ii)).length)).length:Nat):Int)-60)then 0 else((((Cx id fi ok oi ik ii low mx last told kl st ep at_ sd tx rid rln bx hb hi hn hh hp hx ((FM ik (hi-ii)).length)).length:Nat):Int)-60))=(max ((((Cx id fi ok oi ik ii low mx last told kl st ep at_ sd tx rid rln bx hb hi hn hh hp hx ((FM ik (hi-ii)).length)).length:Nat):Int)-60) 0)] ⟨by split<;>omega,trivial⟩),(12,O1 (E8 (some (max ((((Cx id fi ok oi ik ii low mx last told kl st ep at_ sd tx rid rln bx hb hi hn hh hp hx ((FM ik (hi-ii)).length)).length:Nat):Int)-60) 0)) none none (Cx id fi ok oi ik ii low mx last told kl st ep at_ sd tx rid rln bx hb hi hn hh hp hx ((FM ik (hi-ii)).length)).length (Cx id fi ok oi ik ii low mx last told kl st ep at_ sd tx rid rln bx hb hi hn hh hp hx ((FM ik (hi-ii)).length)).length) ⟨by simp only[F3]<;>omega,by simp only[F3]<;>omega,by simp only[F3]<;>omega,by simp,by simp only[bl]<;>omega,by simp only[bl]<;>omega,by simp only[bl]<;>omega⟩),(13,AM (Gi ((Cx id fi ok oi ik ii low mx last told kl st ep at_ sd tx rid rln bx hb hi hn hh hp hx ((FM ik (hi-ii)).length)).drop (Int.toNat (max ((((Cx id fi ok oi ik ii low mx last told kl st ep at_ sd tx rid rln bx hb hi hn hh hp hx ((FM ik (hi-ii)).length)).length:Nat):Int)-60) 0))) AE) [] [(0,11)])] [] 12 hS fun hS=>Ej ?_
   have hnl:=Du hik (hi-ii)
   refine As [(4,AM (HI (AA ik (hi-ii)) hi AE Ac) [(0,2)] [])] [] 12 hS fun hS=>Ab (Dj [] 12 hS fun hS=> ?_)
   obtain⟨gs,hS⟩:=hS.rx [(0,0),(1,1),(2,2),(3,3),(4,4),(5,5),(6,6),(7,7),(8,11)] [] [0,1,2,4,5,6,7,8] 9 hg0
   exact fqN (.trans (OR ..) (if_neg h1)) hS
end
end
end Go.Sx.Tryz
namespace Go.Sx.Tryz
open Go.Mi Go.RowKit Go.Sx Go.Proofs
noncomputable section
theorem SX {l:List (List Int)} {c:Nat} (h:∀j,(l.getD j (rz [.sl (.int .u8)])).length≤c) {x:List Int} (hx:x.length≤c) (j:Nat):((l++[x]).getD j (rz [.sl (.int .u8)])).length≤c:=by
 have h:=h j
 show(List.getD (α:=List Int) (l++[x]) j []).length≤c
 have h:(List.getD (α:=List Int) l j []).length≤c:=h
 rw[List.getD_eq_getElem?_getD]at h⊢
 by_cases h1:j<l.length
 ·rw[List.getElem?_append_left h1];exact h
 ·by_cases h2:j=l.length
  ·subst h2;rw[List.getElem?_append_right (Nat.le_refl _),Nat.sub_self];exact hx
  ·rw[List.getElem?_eq_none (by simp;omega)];exact Nat.zero_le _
theorem a9 {fi:Bool} {low len told:Nat} (h:low≤AV fi low len told) {len':Nat} (hl:len≤len') (h1:1≤len):low≤AV fi low len' told∧AV fi low len' told<low+len':=by
 unfold AV at h⊢
 split at h
 ·rename_i e;rw[if_pos e];omega
 ·rename_i e;rw[if_neg e];omega
def JL (sec:List (List Int)) (x11:Nat):(List (List Int))→(List (List Int)):=fun o9=>o9++[AI (o9.getD (o9.length-1) (rz [.sl (.int .u8)])) (sec.getD x11 (rz [.sl (.int .u8)])) [109,105,120]]
section
variable (id:List Int) (fi:Bool) (ok:List Int) (oi:Nat) (ik:List Int) (ii low:Nat) (mx:List (List Int)) (last told:Nat) (kl:List KR) (st:Nat) (ep at_:Nat) (sd tx:List Int) (rid rln:Nat) (bx:List (Option (List Int))) (sec:List (List Int))
def Cb (id:List Int) (fi:Bool) (ok:List Int) (oi:Nat) (ik:List Int) (ii low:Nat) (mx:List (List Int)) (last told:Nat) (kl:List KR) (st:Nat) (ep at_:Nat) (sd tx:List Int) (rid rln:Nat) (bx:List (Option (List Int))) (sec:List (List Int)):Nat→(List (List Int))
 |0=>mx
 |x11+1=>JL sec x11 (Cb id fi ok oi ik ii low mx last told kl st ep at_ sd tx rid rln bx sec x11)
theorem I4 (id:List Int) (fi:Bool) (ok:List Int) (oi:Nat) (ik:List Int) (ii low:Nat) (mx:List (List Int)) (last told:Nat) (kl:List KR) (st:Nat) (ep at_:Nat) (sd tx:List Int) (rid rln:Nat) (bx:List (Option (List Int))) (sec:List (List Int)):∀i,(Cb id fi ok oi ik ii low mx last told kl st ep at_ sd tx rid rln bx sec i).length=mx.length+i
 |0=>rfl
 |i+1=>by
  show(Cb id fi ok oi ik ii low mx last told kl st ep at_ sd tx rid rln bx sec i++[_]).length=_
  rw[List.length_append,I4 id fi ok oi ik ii low mx last told kl st ep at_ sd tx rid rln bx sec i];rfl
def YF:Nat×(List (List Int)):=((min last (AV fi low (Cb id fi ok oi ik ii low mx last told kl st ep at_ sd tx rid rln bx sec sec.length).length told)),(Cb id fi ok oi ik ii low mx last told kl st ep at_ sd tx rid rln bx sec sec.length).drop ((min last (AV fi low (Cb id fi ok oi ik ii low mx last told kl st ep at_ sd tx rid rln bx sec sec.length).length told))-low))
def QA:Nat×(List (List Int)):=AJ (YF id fi ok oi ik ii low mx last told kl st ep at_ sd tx rid rln bx sec)
theorem nN:QA id fi ok oi ik ii low mx last told kl st ep at_ sd tx rid rln bx sec=YF id fi ok oi ik ii low mx last told kl st ep at_ sd tx rid rln bx sec:=Ag _
def AdX (z_:Nat×(List (List Int)):=QA id fi ok oi ik ii low mx last told kl st ep at_ sd tx rid rln bx sec):Con:=⟨[.cp 0 0],[(0,XV id fi true 1 2 5 low 4 last told 3),(1,Aj ok oi),(2,Aj ik ii),(3,.sl 86 [.int .i64,.int .i64,.sl (.sl (.int .u8))] kl),(4,.sl 22 [.sl (.int .u8)] mx),(5,IC st ep at_ sd tx 6 8),(6,Dh rid rln 7),(7,.sl 22 [.os (.int .u8)] bx),(8,.sl 22 [.sl (.int .u8)] sec)],.tu (chain []),[(0,.ob 80 (chain [lb id,.v (.bool fi),.v (.bool true),.cp 1 0,.cp 2 0,.cp 5 0,vi ((z_.1:Nat):Int),.ls false [.sl (.int .u8)] (z_.2),vi (last:Int),vi (told:Int),.sk 3])),(1,Aj ok oi),(2,Aj ik ii),(3,.sl 86 [.int .i64,.int .i64,.sl (.sl (.int .u8))] kl),(5,Bd st ep at_ sd tx 6),(6,Dh rid rln 7),(7,.sl 22 [.os (.int .u8)] bx),(8,.sl 22 [.sl (.int .u8)] sec)]⟩
theorem w9 (hm1:1≤mx.length∧mx.length≤90000) (hm2:∀j,(mx.getD j (rz [.sl (.int .u8)])).length≤32) (hlow:low≤100000000000) (hs1:sec.length≤10) (hs2:∀j,(sec.getD j (rz [.sl (.int .u8)])).length≤900) (hll:low≤last∧last≤100000000000) (hmn:low≤AV fi low mx.length told) (htd:told≤100000000000):ConOk Tryz.prog 74 (AdX id fi ok oi ik ii low mx last told kl st ep at_ sd tx rid rln bx sec):=by
 refine cy 9 Tryz.func74 rfl Tryz.ntmps74 fun hg0 hS=> ?_
 have FT:kl.length≤9223372036854775807:=hS.lens 3 rfl
 have QJ:mx.length≤9223372036854775807:=hS.lens 4 rfl
 have E4:bx.length≤9223372036854775807:=hS.lens 7 rfl
 have Agt:sec.length≤9223372036854775807:=hS.lens 8 rfl
 refine Il ?_
 have hs3:∀j,(sec.getD j (rz [.sl (.int .u8)])).length≤10000:=fun j=>by have :=hs2 j;omega
 obtain⟨gs,hS⟩:=hS.alias 4
 refine As [(4,AM (kS st ep at_ sd tx rid rln bx sec AE BF) [(0,5),(1,6),(2,8),(3,7)] [])] [9] 10 hS fun hS=>Ab (Br (Ar (ι:=Nat×(List (List Int))) hg0 hS (fun(x11,o9)=>(sec.length-x11,[(11,vi ((x11:Nat):Int))],[(9,.sl 22 [.sl (.int .u8)] o9)],(x11≤sec.length)∧(o9=Cb id fi ok oi ik ii low mx last told kl st ep at_ sd tx rid rln bx sec x11)∧(o9.length=mx.length+x11)∧(∀j,(o9.getD j (rz [.sl (.int .u8)])).length≤32)∧True)) [0,9,10] [0,1,2,3,5,6,7,8] 10 (0,mx) [(0,0),(1,1),(2,2),(3,3),(4,4),(5,5),(6,6),(7,7),(8,8),(9,9)] ⟨Ac,rfl,Ac,hm2,trivial⟩ ?_))
 rintro⟨x11,o9⟩ ac gs ws ⟨hx11,hq1,p1,p2,_⟩ hS
 refine Ae [] 10 hS fun hS=>Av (AB ((x11:Int)<((sec.length:Nat):Int)) hS (fun h1=> ?_) (fun h1=> ?_))
 ·refine BE (Ax [(0,AD x11 sec.length)] [] 10 hS fun hS=> ?_)
  have hp2:=p2 (o9.length-1)
  have hs4:=hs2 x11
  exact As [(14,G9 o9.length 1 (o9.length-1)),(15,AD (o9.length-1) o9.length),(18,Row),(19,O1 (0<[109,105,120].length) (by decide)),(20,AP (EP (o9.getD (o9.length-1) (rz [.sl (.int .u8)])) (sec.getD x11 (rz [.sl (.int .u8)])) [109,105,120] AE AE AE)),(22,FW o9.length 1 24)] [] 12 hS fun hS=>BV (As [(0,BH x11)] [11] 12 hS fun hS=>Ab (Al hg0 hS (x11+1,o9++[AI (o9.getD (o9.length-1) (rz [.sl (.int .u8)])) (sec.getD x11 (rz [.sl (.int .u8)])) [109,105,120]]) [(0,0),(1,1),(2,2),(3,3),(4,4),(5,5),(6,6),(7,7),(8,8),(9,11)] ⟨Ac,(A3 (st:=JL _) hq1 rfl rfl),(by rw[List.length_append,List.length_cons,List.length_nil];omega),(SX p2 (Nat.le_of_eq (E6 ..))),trivial⟩))
 ·have hT:=hS
  obtain rfl:sec.length=x11:=by omega
  obtain rfl:=hq1.symm
  have hS:=hT
  refine ML ?_
  have hml:=I4 id fi ok oi ik ii low mx last told kl st ep at_ sd tx rid rln bx sec sec.length
  have hmg:=a9 hmn (len':=(Cb id fi ok oi ik ii low mx last told kl st ep at_ sd tx rid rln bx sec sec.length).length) Ac hm1.1
  have hmc:1≤(Cb id fi ok oi ik ii low mx last told kl st ep at_ sd tx rid rln bx sec sec.length).length∧(Cb id fi ok oi ik ii low mx last told kl st ep at_ sd tx rid rln bx sec sec.length).length≤100000:=by omega
  refine As [(5,IB (KQ fi low (Cb id fi ok oi ik ii low mx last told kl st ep at_ sd tx rid rln bx sec sec.length) told M7 Ac) [0,1,9] [.im (chain [.top,.v (.bool fi),.top,.im (chain []) 0,.top,.top,vi (low:Int),.ls false [.sl (.int .u8)] (Cb id fi ok oi ik ii low mx last told kl st ep at_ sd tx rid rln bx sec sec.length),.top,vi (told:Int),.top]) 0]),(6,Rmn last (AV fi low (Cb id fi ok oi ik ii low mx last told kl st ep at_ sd tx rid rln bx sec sec.length).length told))] [] 10 hS fun hS=>Ab ?_
  have hml:=I4 id fi ok oi ik ii low mx last told kl st ep at_ sd tx rid rln bx sec sec.length
  have hmg:=a9 hmn (len':=(Cb id fi ok oi ik ii low mx last told kl st ep at_ sd tx rid rln bx sec sec.length).length) Ac hm1.1
  have hmc:1≤(Cb id fi ok oi ik ii low mx last told kl st ep at_ sd tx rid rln bx sec sec.length).length∧(Cb id fi ok oi ik ii low mx last told kl st ep at_ sd tx rid rln bx sec sec.length).length≤100000:=by omega
  obtain⟨gs,hS⟩:=hS.fz 9
  exact As [(11,G9 (min last (AV fi low (Cb id fi ok oi ik ii low mx last told kl st ep at_ sd tx rid rln bx sec sec.length).length told)) low ((min last (AV fi low (Cb id fi ok oi ik ii low mx last told kl st ep at_ sd tx rid rln bx sec sec.length).length told))-low)),(12,O2 ((min last (AV fi low (Cb id fi ok oi ik ii low mx last told kl st ep at_ sd tx rid rln bx sec sec.length).length told))-low) (Cb id fi ok oi ik ii low mx last told kl st ep at_ sd tx rid rln bx sec sec.length).length)] [] 10 hS fun hS=>fqN (nN ..) hS
end
end
end Go.Sx.Tryz
namespace Go.Sx.Tryz
open Go.Mi Go.RowKit Go.Sx Go.Proofs
noncomputable section
theorem NV {id:List Int} {fi:Bool} {ok:List Int} {oi:Nat} {ik:List Int} {ii:Nat} {low:Nat} {mx:List (List Int)} {last:Nat} {told:Nat} {kl:List KR} {st:Nat} {ep:Nat} {at_:Nat} {sd:List Int} {tx:List Int} {rid:Nat} {rln:Nat} {bx:List (Option (List Int))} {hb:List Int} {hi:Nat} {hn:Nat} {hh:Nat} {hp:List Int} {hx:List Int}:B5 id fi ok oi ik ii low mx last told kl st ep at_ sd tx rid rln bx hb hi hn hh hp hx=Cf id fi ok oi ik ii low mx last told kl hb hi hn hh hp hx∧CH id fi ok oi ik ii low mx last told kl st ep at_ sd tx rid rln bx hb hi hn hh hp hx=CF id fi ok oi ik ii low mx last told kl hb hi hn hh hp hx∧L9 id fi ok oi ik ii low mx last told kl st ep at_ sd tx rid rln bx hb hi hn hh hp hx=GV id fi ok oi ik ii low mx last told kl hb hi hn hh hp hx:=by
 refine⟨?_,?_,?_⟩
 ·rw[D2,C4];rfl
 ·rw[KN,Gh];rfl
 ·rw[RP,L_];rfl
theorem N4 {id:List Int} {fi:Bool} {ok:List Int} {oi:Nat} {ik:List Int} {ii:Nat} {low:Nat} {mx:List (List Int)} {last:Nat} {told:Nat} {kl:List KR} {st:Nat} {ep:Nat} {at_:Nat} {sd:List Int} {tx:List Int} {rid:Nat} {rln:Nat} {bx:List (Option (List Int))} {hb:List Int} {hi:Nat} {hn:Nat} {hh:Nat} {hp:List Int} {hx:List Int} (x:Nat) (o o':List (Int×Int×List (List Int))):∀j,Et id fi ok oi ik ii low mx last told kl st ep at_ sd tx rid rln bx hb hi hn hh hp hx x o j=Ec id fi ok oi ik ii low mx last told kl hb hi hn hh hp hx x o' j
 |0=>rfl
 |j+1=>by
  show Le ik ii low mx hi x j (Et id fi ok oi ik ii low mx last told kl st ep at_ sd tx rid rln bx hb hi hn hh hp hx x o j)=_
  rw[N4 x o o' j];rfl
theorem N5 {id:List Int} {fi:Bool} {ok:List Int} {oi:Nat} {ik:List Int} {ii:Nat} {low:Nat} {mx:List (List Int)} {last:Nat} {told:Nat} {kl:List KR} {st:Nat} {ep:Nat} {at_:Nat} {sd:List Int} {tx:List Int} {rid:Nat} {rln:Nat} {bx:List (Option (List Int))} {hb:List Int} {hi:Nat} {hn:Nat} {hh:Nat} {hp:List Int} {hx:List Int}:∀j,Cx id fi ok oi ik ii low mx last told kl st ep at_ sd tx rid rln bx hb hi hn hh hp hx j=Cl id fi ok oi ik ii low mx last told kl hb hi hn hh hp hx j
 |0=>rfl
 |j+1=>by
  show Io id fi ok oi ik ii low mx last told kl st ep at_ sd tx rid rln bx hb hi hn hh hp hx j (Cx id fi ok oi ik ii low mx last told kl st ep at_ sd tx rid rln bx hb hi hn hh hp hx j)=JY id fi ok oi ik ii low mx last told kl hb hi hn hh hp hx j (Cl id fi ok oi ik ii low mx last told kl hb hi hn hh hp hx j)
  rw[N5 j]
  unfold Io JY
  have e:Et id fi ok oi ik ii low mx last told kl st ep at_ sd tx rid rln bx hb hi hn hh hp hx j (Cl id fi ok oi ik ii low mx last told kl hb hi hn hh hp hx j)=Ec id fi ok oi ik ii low mx last told kl hb hi hn hh hp hx j (Cl id fi ok oi ik ii low mx last told kl hb hi hn hh hp hx j):=funext fun i=>N4 j _ _ i
  have ec:Im hn=Fu id fi ok oi ik ii low mx last told kl hb hi hn hh hp hx j (Cl id fi ok oi ik ii low mx last told kl hb hi hn hh hp hx j):=rfl
  simp only[e,ec]
theorem q8 {id:List Int} {fi:Bool} {ok:List Int} {oi:Nat} {ik:List Int} {ii:Nat} {low:Nat} {mx:List (List Int)} {last:Nat} {told:Nat} {kl:List KR} {st:Nat} {ep:Nat} {at_:Nat} {sd:List Int} {tx:List Int} {rid:Nat} {rln:Nat} {bx:List (Option (List Int))} {hb:List Int} {hi:Nat} {hn:Nat} {hh:Nat} {hp:List Int} {hx:List Int}:Cc id fi ok oi ik ii low mx last told kl st ep at_ sd tx rid rln bx hb hi hn hh hp hx=Ip id fi ok oi ik ii low mx last told kl hb hi hn hh hp hx:=by
 rw[OR,Rm]
 unfold OQ Rl
 rw[N5]
theorem IY {id:List Int} {fi:Bool} {ok:List Int} {oi:Nat} {ik:List Int} {ii:Nat} {low:Nat} {mx:List (List Int)} {last:Nat} {told:Nat} {kl:List KR} {st:Nat} {ep:Nat} {at_:Nat} {sd:List Int} {tx:List Int} {rid:Nat} {rln:Nat} {bx:List (Option (List Int))} {hb:List Int} {hi:Nat} {hn:Nat} {hh:Nat} {hp:List Int} {hx:List Int} (h:B5 id fi ok oi ik ii low mx last told kl st ep at_ sd tx rid rln bx hb hi hn hh hp hx=true) (hm:1≤mx.length) (hK:Of kl):((hi<ii∧0≤C6 kl (hi:Int))∨(ii≤hi∧hi≤ii+40∧last≤hn∧hn+1≤low+mx.length))∧(CH id fi ok oi ik ii low mx last told kl st ep at_ sd tx rid rln bx hb hi hn hh hp hx).length=32:=by
 have e:=NV (id:=id) (fi:=fi) (ok:=ok) (oi:=oi) (ik:=ik) (ii:=ii) (low:=low) (mx:=mx) (last:=last) (told:=told) (kl:=kl) (st:=st) (ep:=ep) (at_:=at_) (sd:=sd) (tx:=tx) (rid:=rid) (rln:=rln) (bx:=bx) (hb:=hb) (hi:=hi) (hn:=hn) (hh:=hh) (hp:=hp) (hx:=hx)
 rw[e.1]at h
 rw[e.2.1]
 exact KO h hm hK
theorem Zg {id:List Int} {fi:Bool} {ok:List Int} {oi:Nat} {ik:List Int} {ii:Nat} {low:Nat} {mx:List (List Int)} {last:Nat} {told:Nat} {kl:List KR} {st:Nat} {ep:Nat} {at_:Nat} {sd:List Int} {tx:List Int} {rid:Nat} {rln:Nat} {bx:List (Option (List Int))} {hb:List Int} {hi:Nat} {hn:Nat} {hh:Nat} {hp:List Int} {hx:List Int} (h:hi<ii∨last≤hn):last≤(Cc id fi ok oi ik ii low mx last told kl st ep at_ sd tx rid rln bx hb hi hn hh hp hx).1∧((Cc id fi ok oi ik ii low mx last told kl st ep at_ sd tx rid rln bx hb hi hn hh hp hx).1≤last∨(Cc id fi ok oi ik ii low mx last told kl st ep at_ sd tx rid rln bx hb hi hn hh hp hx).1≤hn):=by
 rw[OR]
 unfold OQ
 split
 ·exact⟨Nat.le_refl _,.inl (Nat.le_refl _)⟩
 ·exact⟨by show last≤hn;omega,.inr (Nat.le_refl _)⟩
theorem eV {fi:Bool} {low len told:Nat} (h:low≤AV fi low len told) (t:Nat):low≤AV fi low len (max told t):=by
 unfold AV at h⊢
 split
 ·rename_i e;rw[if_pos e]at h;exact h
 ·rename_i e;rw[if_neg e]at h;omega
theorem fY (ek m:List Int):(Eb ek m).1.length≤64:=by
 rw[NF];unfold JU
 have :=DZ [m,Bm [ek]]
 simp only[List.length_take];omega
theorem qI (dk ct:List Int):(HH dk ct).1.length≤64:=by
 rw[MH];unfold Q_
 have :=DZ [BS dk ct,(dk.take 2368).drop 2336]
 split
 ·split
  ·simp only[List.length_take];omega
  ·show(Hk _).length≤64;rw[VY];decide
 ·exact Nat.zero_le _
theorem Aa6 {x:List Int} (h:x.length≤64):([]++[x]:List (List Int)).length≤10∧∀j,(([]++[x]:List (List Int)).getD j (rz [.sl (.int .u8)])).length≤900:=
 ⟨by simp,fun j=>by
  have :=SX (l:=[]) (c:=64) (fun j=>by show(List.getD (α:=List Int) [] j []).length≤64;simp) h j
  omega⟩
theorem Aa7:([]:List (List Int)).length≤10∧∀j,(([]:List (List Int)).getD j (rz [.sl (.int .u8)])).length≤900:=⟨by simp,fun j=>by show(List.getD (α:=List Int) [] j []).length≤900;simp⟩
theorem xK (st ep at_:Nat) (sd tx:List Int) (id ln:Nat) (bx:List (Option (List Int))) (b:List Int) (pid pa:Nat) (d r:List Int):(FI st ep at_ sd tx id ln bx b pid pa d r).2.2.2.2.2.2.2.2.length≤10∧∀j,((FI st ep at_ sd tx id ln bx b pid pa d r).2.2.2.2.2.2.2.2.getD j (rz [.sl (.int .u8)])).length≤900:=by
 by_cases h:b=[]
 ·subst h;rw[bO];exact Aa7
 ·rw[WX _ _ _ _ _ _ _ _ h,HC]
  unfold S4
  repeat' (first |exact Aa7|exact Aa6 (fY _ _)|exact Aa6 (qI _ _)|split)
end
end Go.Sx.Tryz
namespace Go.Sx.Tryz
open Go.Mi Go.RowKit Go.Sx Go.Proofs
noncomputable section
section
variable (id:List Int) (fi:Bool) (ok:List Int) (oi:Nat) (ik:List Int) (ii low:Nat) (mx:List (List Int)) (last told:Nat) (kl:List KR) (st:Nat) (ep at_:Nat) (sd tx:List Int) (rid rln:Nat) (bx:List (Option (List Int))) (xs:List Int)
def Pu:Bool:=if CG xs=true then(if B5 id fi ok oi ik ii low mx last told kl st ep at_ sd tx rid rln bx ((Aa xs).1) ((Aa xs).2.1) ((Aa xs).2.2.1) ((Aa xs).2.2.2.1) ((Aa xs).2.2.2.2.1) ((Aa xs).2.2.2.2.2)=true then(if uH ((Da (CH id fi ok oi ik ii low mx last told kl st ep at_ sd tx rid rln bx ((Aa xs).1) ((Aa xs).2.1) ((Aa xs).2.2.1) ((Aa xs).2.2.2.1) ((Aa xs).2.2.2.2.1) ((Aa xs).2.2.2.2.2)) (List.replicate 12 (0:Int)) ((Aa xs).1) ((Aa xs).2.2.2.2.2)).2)=true then(if uH 0=true then true else false)else false)else false)else false
def GP:Bool:=AJ (Pu id fi ok oi ik ii low mx last told kl st ep at_ sd tx rid rln bx xs)
theorem IJ:GP id fi ok oi ik ii low mx last told kl st ep at_ sd tx rid rln bx xs=Pu id fi ok oi ik ii low mx last told kl st ep at_ sd tx rid rln bx xs:=Ag _
def TC (rand:List Int) (pid pa:Nat) (d:List Int):Nat×(List (List Int))×Nat×Nat×(List (Int×Int×(List (List Int))))×(List Int)×Nat×Nat×Nat×Nat×(List Int)×(List Int)×Nat×Nat×(List (Option (List Int)))×(List Int)×Nat:=(((QA id fi ok oi ((Cc id fi ok oi ik ii low mx last told kl st ep at_ sd tx rid rln bx ((Aa xs).1) ((Aa xs).2.1) ((Aa xs).2.2.1) ((Aa xs).2.2.2.1) ((Aa xs).2.2.2.2.1) ((Aa xs).2.2.2.2.2)).2.2.1) ((Cc id fi ok oi ik ii low mx last told kl st ep at_ sd tx rid rln bx ((Aa xs).1) ((Aa xs).2.1) ((Aa xs).2.2.1) ((Aa xs).2.2.2.1) ((Aa xs).2.2.2.2.1) ((Aa xs).2.2.2.2.2)).2.2.2) low mx ((Cc id fi ok oi ik ii low mx last told kl st ep at_ sd tx rid rln bx ((Aa xs).1) ((Aa xs).2.1) ((Aa xs).2.2.1) ((Aa xs).2.2.2.1) ((Aa xs).2.2.2.2.1) ((Aa xs).2.2.2.2.2)).1) (max told ((Aa xs).2.2.2.1)) ((Cc id fi ok oi ik ii low mx last told kl st ep at_ sd tx rid rln bx ((Aa xs).1) ((Aa xs).2.1) ((Aa xs).2.2.1) ((Aa xs).2.2.2.1) ((Aa xs).2.2.2.2.1) ((Aa xs).2.2.2.2.2)).2.1) ((FI st ep at_ sd tx rid rln bx ((Aa xs).2.2.2.2.1) pid pa d rand).1) ((FI st ep at_ sd tx rid rln bx ((Aa xs).2.2.2.2.1) pid pa d rand).2.1) ((FI st ep at_ sd tx rid rln bx ((Aa xs).2.2.2.2.1) pid pa d rand).2.2.1) ((FI st ep at_ sd tx rid rln bx ((Aa xs).2.2.2.2.1) pid pa d rand).2.2.2.1) ((FI st ep at_ sd tx rid rln bx ((Aa xs).2.2.2.2.1) pid pa d rand).2.2.2.2.1) ((FI st ep at_ sd tx rid rln bx ((Aa xs).2.2.2.2.1) pid pa d rand).2.2.2.2.2.1) ((FI st ep at_ sd tx rid rln bx ((Aa xs).2.2.2.2.1) pid pa d rand).2.2.2.2.2.2.1) ((FI st ep at_ sd tx rid rln bx ((Aa xs).2.2.2.2.1) pid pa d rand).2.2.2.2.2.2.2.1) ((FI st ep at_ sd tx rid rln bx ((Aa xs).2.2.2.2.1) pid pa d rand).2.2.2.2.2.2.2.2)).1),(QA id fi ok oi ((Cc id fi ok oi ik ii low mx last told kl st ep at_ sd tx rid rln bx ((Aa xs).1) ((Aa xs).2.1) ((Aa xs).2.2.1) ((Aa xs).2.2.2.1) ((Aa xs).2.2.2.2.1) ((Aa xs).2.2.2.2.2)).2.2.1) ((Cc id fi ok oi ik ii low mx last told kl st ep at_ sd tx rid rln bx ((Aa xs).1) ((Aa xs).2.1) ((Aa xs).2.2.1) ((Aa xs).2.2.2.1) ((Aa xs).2.2.2.2.1) ((Aa xs).2.2.2.2.2)).2.2.2) low mx ((Cc id fi ok oi ik ii low mx last told kl st ep at_ sd tx rid rln bx ((Aa xs).1) ((Aa xs).2.1) ((Aa xs).2.2.1) ((Aa xs).2.2.2.1) ((Aa xs).2.2.2.2.1) ((Aa xs).2.2.2.2.2)).1) (max told ((Aa xs).2.2.2.1)) ((Cc id fi ok oi ik ii low mx last told kl st ep at_ sd tx rid rln bx ((Aa xs).1) ((Aa xs).2.1) ((Aa xs).2.2.1) ((Aa xs).2.2.2.1) ((Aa xs).2.2.2.2.1) ((Aa xs).2.2.2.2.2)).2.1) ((FI st ep at_ sd tx rid rln bx ((Aa xs).2.2.2.2.1) pid pa d rand).1) ((FI st ep at_ sd tx rid rln bx ((Aa xs).2.2.2.2.1) pid pa d rand).2.1) ((FI st ep at_ sd tx rid rln bx ((Aa xs).2.2.2.2.1) pid pa d rand).2.2.1) ((FI st ep at_ sd tx rid rln bx ((Aa xs).2.2.2.2.1) pid pa d rand).2.2.2.1) ((FI st ep at_ sd tx rid rln bx ((Aa xs).2.2.2.2.1) pid pa d rand).2.2.2.2.1) ((FI st ep at_ sd tx rid rln bx ((Aa xs).2.2.2.2.1) pid pa d rand).2.2.2.2.2.1) ((FI st ep at_ sd tx rid rln bx ((Aa xs).2.2.2.2.1) pid pa d rand).2.2.2.2.2.2.1) ((FI st ep at_ sd tx rid rln bx ((Aa xs).2.2.2.2.1) pid pa d rand).2.2.2.2.2.2.2.1) ((FI st ep at_ sd tx rid rln bx ((Aa xs).2.2.2.2.1) pid pa d rand).2.2.2.2.2.2.2.2)).2,((Cc id fi ok oi ik ii low mx last told kl st ep at_ sd tx rid rln bx ((Aa xs).1) ((Aa xs).2.1) ((Aa xs).2.2.1) ((Aa xs).2.2.2.1) ((Aa xs).2.2.2.2.1) ((Aa xs).2.2.2.2.2)).1),(max told ((Aa xs).2.2.2.1)),(Cc id fi ok oi ik ii low mx last told kl st ep at_ sd tx rid rln bx ((Aa xs).1) ((Aa xs).2.1) ((Aa xs).2.2.1) ((Aa xs).2.2.2.1) ((Aa xs).2.2.2.2.1) ((Aa xs).2.2.2.2.2)).2.1,(Cc id fi ok oi ik ii low mx last told kl st ep at_ sd tx rid rln bx ((Aa xs).1) ((Aa xs).2.1) ((Aa xs).2.2.1) ((Aa xs).2.2.2.1) ((Aa xs).2.2.2.2.1) ((Aa xs).2.2.2.2.2)).2.2.1,((Cc id fi ok oi ik ii low mx last told kl st ep at_ sd tx rid rln bx ((Aa xs).1) ((Aa xs).2.1) ((Aa xs).2.2.1) ((Aa xs).2.2.2.1) ((Aa xs).2.2.2.2.1) ((Aa xs).2.2.2.2.2)).2.2.2),((FI st ep at_ sd tx rid rln bx ((Aa xs).2.2.2.2.1) pid pa d rand).1),((FI st ep at_ sd tx rid rln bx ((Aa xs).2.2.2.2.1) pid pa d rand).2.1),((FI st ep at_ sd tx rid rln bx ((Aa xs).2.2.2.2.1) pid pa d rand).2.2.1),(FI st ep at_ sd tx rid rln bx ((Aa xs).2.2.2.2.1) pid pa d rand).2.2.2.1,(FI st ep at_ sd tx rid rln bx ((Aa xs).2.2.2.2.1) pid pa d rand).2.2.2.2.1,((FI st ep at_ sd tx rid rln bx ((Aa xs).2.2.2.2.1) pid pa d rand).2.2.2.2.2.1),((FI st ep at_ sd tx rid rln bx ((Aa xs).2.2.2.2.1) pid pa d rand).2.2.2.2.2.2.1),(FI st ep at_ sd tx rid rln bx ((Aa xs).2.2.2.2.1) pid pa d rand).2.2.2.2.2.2.2.1,(Da (CH id fi ok oi ik ii low mx last told kl st ep at_ sd tx rid rln bx ((Aa xs).1) ((Aa xs).2.1) ((Aa xs).2.2.1) ((Aa xs).2.2.2.1) ((Aa xs).2.2.2.2.1) ((Aa xs).2.2.2.2.2)) (List.replicate 12 (0:Int)) ((Aa xs).1) ((Aa xs).2.2.2.2.2)).1,((Aa xs).2.1))
def Ay (rand:List Int) (pid pa:Nat) (d:List Int):Nat×(List (List Int))×Nat×Nat×(List (Int×Int×(List (List Int))))×(List Int)×Nat×Nat×Nat×Nat×(List Int)×(List Int)×Nat×Nat×(List (Option (List Int)))×(List Int)×Nat:=AJ (TC id fi ok oi ik ii low mx last told kl st ep at_ sd tx rid rln bx xs rand pid pa d)
theorem TD (rand:List Int) (pid pa:Nat) (d:List Int):Ay id fi ok oi ik ii low mx last told kl st ep at_ sd tx rid rln bx xs rand pid pa d=TC id fi ok oi ik ii low mx last told kl st ep at_ sd tx rid rln bx xs rand pid pa d:=Ag _
def zF (rand:List Int) (pid pa:Nat) (d:List Int) (z_:Nat×(List (List Int))×Nat×Nat×(List (Int×Int×(List (List Int))))×(List Int)×Nat×Nat×Nat×Nat×(List Int)×(List Int)×Nat×Nat×(List (Option (List Int)))×(List Int)×Nat:=Ay id fi ok oi ik ii low mx last told kl st ep at_ sd tx rid rln bx xs rand pid pa d):Con:=⟨[.cp 0 0,lb xs,lb rand],[(0,XV id fi true 1 2 5 low 4 last told 3),(1,Aj ok oi),(2,Aj ik ii),(3,.sl 86 [.int .i64,.int .i64,.sl (.sl (.int .u8))] kl),(4,.sl 22 [.sl (.int .u8)] mx),(5,Bd st ep at_ sd tx 6),(6,Dh rid rln 7),(7,.sl 22 [.os (.int .u8)] bx)],.tu (chain [lb (z_.2.2.2.2.2.2.2.2.2.2.2.2.2.2.2.1),vi ((z_.2.2.2.2.2.2.2.2.2.2.2.2.2.2.2.2:Nat):Int)]),[(0,.ob 80 (chain [lb id,.v (.bool fi),.v (.bool true),.cp 1 0,.cp 2 0,.cp 5 0,vi ((z_.1:Nat):Int),.ls false [.sl (.int .u8)] (z_.2.1),vi ((z_.2.2.1:Nat):Int),vi ((z_.2.2.2.1:Nat):Int),.sk 8])),(1,Aj ok oi),(2,Aj (z_.2.2.2.2.2.1) z_.2.2.2.2.2.2.1),(5,Bd z_.2.2.2.2.2.2.2.1 z_.2.2.2.2.2.2.2.2.1 z_.2.2.2.2.2.2.2.2.2.1 (z_.2.2.2.2.2.2.2.2.2.2.1) (z_.2.2.2.2.2.2.2.2.2.2.2.1) 9),(8,.sl 86 [.int .i64,.int .i64,.sl (.sl (.int .u8))] (z_.2.2.2.2.1)),(9,Dh z_.2.2.2.2.2.2.2.2.2.2.2.2.1 z_.2.2.2.2.2.2.2.2.2.2.2.2.2.1 10),(10,.sl 22 [.os (.int .u8)] (z_.2.2.2.2.2.2.2.2.2.2.2.2.2.2.1))]⟩
theorem jX (rand:List Int) (pid pa:Nat) (d:List Int) (hok:ok.length=32) (hik:ik.length=32) (hoi:oi≤100000000000) (hii:ii≤100000000000) (hm1:1≤mx.length∧mx.length≤90000) (hm2:∀j,(mx.getD j (rz [.sl (.int .u8)])).length≤32) (hlow:low≤100000000000) (hK:Of kl) (hll:low≤last∧last≤100000000) (htd:told≤100000000) (hmn:low≤AV fi low mx.length told) (hst:st=1∨st=2∨st=3) (hrln:rln=(if st=1 then 1088 else 1184)) (hrid:rid=(if st=1 then 2*ep+1 else 2*ep)) (hbx:bx.length=2) (hep:ep≤400000000) (hpc:CG xs=true→B5 id fi ok oi ik ii low mx last told kl st ep at_ sd tx rid rln bx ((Aa xs).1) ((Aa xs).2.1) ((Aa xs).2.2.1) ((Aa xs).2.2.2.1) ((Aa xs).2.2.2.2.1) ((Aa xs).2.2.2.2.2)=true→uH ((Da (CH id fi ok oi ik ii low mx last told kl st ep at_ sd tx rid rln bx ((Aa xs).1) ((Aa xs).2.1) ((Aa xs).2.2.1) ((Aa xs).2.2.2.1) ((Aa xs).2.2.2.2.1) ((Aa xs).2.2.2.2.2)) (List.replicate 12 (0:Int)) ((Aa xs).1) ((Aa xs).2.2.2.2.2)).2)=true→XU st ep sd tx bx ((Aa xs).2.2.2.2.1) pid pa d) (hf:xs.length≤50000) (hr:rand.length=64) (hk:GP id fi ok oi ik ii low mx last told kl st ep at_ sd tx rid rln bx xs=true):ConOk Tryz.prog 39 (zF id fi ok oi ik ii low mx last told kl st ep at_ sd tx rid rln bx xs rand pid pa d):=by
 refine cy 8 Tryz.func39 rfl Tryz.ntmps39 fun hg0 hS=> ?_
 have Be:xs.length≤9223372036854775807:=hS.len 1 rfl
 have B2:rand.length≤9223372036854775807:=hS.len 2 rfl
 have FT:kl.length≤9223372036854775807:=hS.lens 3 rfl
 have QJ:mx.length≤9223372036854775807:=hS.lens 4 rfl
 have E4:bx.length≤9223372036854775807:=hS.lens 7 rfl
 refine Ae [] 8 hS fun hS=>Av ?_
 have hm100:1≤mx.length∧mx.length≤100000:=by omega
 by_cases h1:CG xs=true
 ·have hm100:1≤mx.length∧mx.length≤100000:=by omega
  refine As [(1,AP (SO xs AE h1))] [8] 9 hS fun hS=>Ej ?_
  have hpl:=CE (xs:=xs) BF
  by_cases h2:B5 id fi ok oi ik ii low mx last told kl st ep at_ sd tx rid rln bx ((Aa xs).1) ((Aa xs).2.1) ((Aa xs).2.2.1) ((Aa xs).2.2.2.1) ((Aa xs).2.2.2.2.1) ((Aa xs).2.2.2.2.2)=true
  ·have hpl:=CE (xs:=xs) BF
   refine As [(2,AM (WB id fi ok oi ik ii low mx last told kl st ep at_ sd tx rid rln bx ((Aa xs).1) ((Aa xs).2.1) ((Aa xs).2.2.1) ((Aa xs).2.2.2.1) ((Aa xs).2.2.2.2.1) ((Aa xs).2.2.2.2.2) AE AE Ac Ac M7 (by first |assumption|(intro j;simp<;>omega)) Ac BF Ac Ac h2) [(0,0),(1,1),(2,2),(3,3),(4,4),(5,5),(6,6),(7,7)] []),(3,Vn .mf [(12:Int)=12,(0:Int)≤12,1*12≤281474976710656,(12:Int)≤9223372036854775807] ⟨rfl,by omega,by omega,by omega,trivial⟩),(8,AP (VS (CH id fi ok oi ik ii low mx last told kl st ep at_ sd tx rid rln bx ((Aa xs).1) ((Aa xs).2.1) ((Aa xs).2.2.1) ((Aa xs).2.2.2.1) ((Aa xs).2.2.2.2.1) ((Aa xs).2.2.2.2.2)) (List.replicate 12 (0:Int)) ((Aa xs).1) ((Aa xs).2.2.2.2.2) (IY BF Ac hK).2 (by have :=CE (xs:=xs) BF;omega) (by have :=CE (xs:=xs) BF;omega) (by simp)))] [] 9 hS fun hS=>Ej ?_
   by_cases h3:uH ((Da (CH id fi ok oi ik ii low mx last told kl st ep at_ sd tx rid rln bx ((Aa xs).1) ((Aa xs).2.1) ((Aa xs).2.2.1) ((Aa xs).2.2.2.1) ((Aa xs).2.2.2.2.1) ((Aa xs).2.2.2.2.2)) (List.replicate 12 (0:Int)) ((Aa xs).1) ((Aa xs).2.2.2.2.2)).2)=true
   ·refine As [(1,AP (Qy ((Da (CH id fi ok oi ik ii low mx last told kl st ep at_ sd tx rid rln bx ((Aa xs).1) ((Aa xs).2.1) ((Aa xs).2.2.1) ((Aa xs).2.2.2.1) ((Aa xs).2.2.2.2.1) ((Aa xs).2.2.2.2.2)) (List.replicate 12 (0:Int)) ((Aa xs).1) ((Aa xs).2.2.2.2.2)).2) h3))] [] 9 hS fun hS=>Ej ?_
    have hpl:=CE (xs:=xs) BF
    have hof:=(IY BF Ac hK).1
    refine As [(2,AM (qZ id fi ok oi ik ii low mx last told kl st ep at_ sd tx rid rln bx ((Aa xs).1) ((Aa xs).2.1) ((Aa xs).2.2.1) ((Aa xs).2.2.2.1) ((Aa xs).2.2.2.2.1) ((Aa xs).2.2.2.2.2) AE AE Ac Ac M7 (by first |assumption|(intro j;simp<;>omega)) Ac BF Ac Ac BF) [(0,0),(1,1),(2,2),(3,3),(4,4),(5,5),(6,6),(7,7)] [(8,9)])] [] 10 hS fun hS=>Ab (Ax [(7,Rmx told ((Aa xs).2.2.2.1))] [] 10 hS fun hS=>Av (Ae [] 10 hS fun hS=>AO hS (Ae [] 10 hS fun hS=>Av ?_)))
    have hpcx:=hpc BF BF BF
    by_cases h4:uH 0=true
    ·have hpcx:=hpc BF BF BF
     refine As [(4,AM (AcO st ep at_ sd tx rid rln bx ((Aa xs).2.2.2.2.1) pid pa d rand BF BF BF Ac AE Ac BF) [(0,5),(1,6),(2,7)] [(3,10),(4,11),(5,12)]),(5,AP (Qy 0 h4))] [] 13 hS fun hS=>Ab ?_
     have hsec:=xK st ep at_ sd tx rid rln bx ((Aa xs).2.2.2.2.1) pid pa d rand
     have hof:=((IY BF Ac hK)).1
     have hpl:=CE (xs:=xs) BF
     have hcl:=Zg (id:=id) (fi:=fi) (ok:=ok) (oi:=oi) (ik:=ik) (ii:=ii) (low:=low) (mx:=mx) (last:=last) (told:=told) (kl:=kl) (st:=st) (ep:=ep) (at_:=at_) (sd:=sd) (tx:=tx) (rid:=rid) (rln:=rln) (bx:=bx) (hb:=(Aa xs).1) (hi:=(Aa xs).2.1) (hn:=(Aa xs).2.2.1) (hh:=(Aa xs).2.2.2.1) (hp:=(Aa xs).2.2.2.2.1) (hx:=(Aa xs).2.2.2.2.2) Ac
     have hmt:=eV hmn (Aa xs).2.2.2.1
     have hs1:=hsec.1
     have hs2:=hsec.2
     refine As [(1,AM (w9 id fi ok oi ((Cc id fi ok oi ik ii low mx last told kl st ep at_ sd tx rid rln bx ((Aa xs).1) ((Aa xs).2.1) ((Aa xs).2.2.1) ((Aa xs).2.2.2.1) ((Aa xs).2.2.2.2.1) ((Aa xs).2.2.2.2.2)).2.2.1) ((Cc id fi ok oi ik ii low mx last told kl st ep at_ sd tx rid rln bx ((Aa xs).1) ((Aa xs).2.1) ((Aa xs).2.2.1) ((Aa xs).2.2.2.1) ((Aa xs).2.2.2.2.1) ((Aa xs).2.2.2.2.2)).2.2.2) low mx ((Cc id fi ok oi ik ii low mx last told kl st ep at_ sd tx rid rln bx ((Aa xs).1) ((Aa xs).2.1) ((Aa xs).2.2.1) ((Aa xs).2.2.2.1) ((Aa xs).2.2.2.2.1) ((Aa xs).2.2.2.2.2)).1) (max told ((Aa xs).2.2.2.1)) ((Cc id fi ok oi ik ii low mx last told kl st ep at_ sd tx rid rln bx ((Aa xs).1) ((Aa xs).2.1) ((Aa xs).2.2.1) ((Aa xs).2.2.2.1) ((Aa xs).2.2.2.2.1) ((Aa xs).2.2.2.2.2)).2.1) ((FI st ep at_ sd tx rid rln bx ((Aa xs).2.2.2.2.1) pid pa d rand).1) ((FI st ep at_ sd tx rid rln bx ((Aa xs).2.2.2.2.1) pid pa d rand).2.1) ((FI st ep at_ sd tx rid rln bx ((Aa xs).2.2.2.2.1) pid pa d rand).2.2.1) ((FI st ep at_ sd tx rid rln bx ((Aa xs).2.2.2.2.1) pid pa d rand).2.2.2.1) ((FI st ep at_ sd tx rid rln bx ((Aa xs).2.2.2.2.1) pid pa d rand).2.2.2.2.1) ((FI st ep at_ sd tx rid rln bx ((Aa xs).2.2.2.2.1) pid pa d rand).2.2.2.2.2.1) ((FI st ep at_ sd tx rid rln bx ((Aa xs).2.2.2.2.1) pid pa d rand).2.2.2.2.2.2.1) ((FI st ep at_ sd tx rid rln bx ((Aa xs).2.2.2.2.1) pid pa d rand).2.2.2.2.2.2.2.1) ((FI st ep at_ sd tx rid rln bx ((Aa xs).2.2.2.2.1) pid pa d rand).2.2.2.2.2.2.2.2) M7 (by first |assumption|(intro j;simp<;>omega)) Ac AE BF Ac BF Ac) [(0,0),(1,1),(2,2),(3,9),(4,4),(5,5),(6,10),(7,11),(8,12)] [])] [] 13 hS fun hS=>Ab (Ae [6] 13 hS fun hS=>AR ?_)
     obtain⟨gs,hS⟩:=hS.rx [(0,0),(1,1),(2,2),(3,3),(4,4),(5,5),(6,6),(7,7),(8,9),(9,10),(10,11)] [6,7] [0,1,2,5,8,9,10] 11 hg0
     exact Bi (TD ..) hS
    ·have hpcx:=hpc BF BF BF
     have hK:GP id fi ok oi ik ii low mx last told kl st ep at_ sd tx rid rln bx xs=false:=(IJ id fi ok oi ik ii low mx last told kl st ep at_ sd tx rid rln bx xs).trans ((if_pos h1).trans ((if_pos h2).trans ((if_pos h3).trans (if_neg h4))))
     rw[hK]at hk
     cases hk
   ·have hK:GP id fi ok oi ik ii low mx last told kl st ep at_ sd tx rid rln bx xs=false:=(IJ id fi ok oi ik ii low mx last told kl st ep at_ sd tx rid rln bx xs).trans ((if_pos h1).trans ((if_pos h2).trans (if_neg h3)))
    rw[hK]at hk
    cases hk
  ·have hpl:=CE (xs:=xs) BF
   have hK:GP id fi ok oi ik ii low mx last told kl st ep at_ sd tx rid rln bx xs=false:=(IJ id fi ok oi ik ii low mx last told kl st ep at_ sd tx rid rln bx xs).trans ((if_pos h1).trans (if_neg h2))
   rw[hK]at hk
   cases hk
 ·have hm100:1≤mx.length∧mx.length≤100000:=by omega
  have hK:GP id fi ok oi ik ii low mx last told kl st ep at_ sd tx rid rln bx xs=false:=(IJ id fi ok oi ik ii low mx last told kl st ep at_ sd tx rid rln bx xs).trans (if_neg h1)
  rw[hK]at hk
  cases hk
end
end
end Go.Sx.Tryz
namespace Go.Sx.Tryz
open Go.Mi Go.RowKit Go.Sx Go.Proofs
noncomputable section
def Cm (x0:List Int) (x1 x2:Bool) (x3:Nat) (x4 x5 x6:Nat) (x7:List (List Int)) (x8 x9:Nat) (x10:List (Int×Int×(List (List Int)))):O:= .ob 80 (chain [lb x0,.v (.bool x1),.v (.bool x2),.cp x3 0,.cp x4 0,.cp x5 0,vi ((x6:Nat):Int),.ls false [.sl (.int .u8)] x7,vi ((x8:Nat):Int),vi ((x9:Nat):Int),.ls false [.int .i64,.int .i64,.sl (.sl (.int .u8))] x10])
def iK (l:List (List Int)):Con:=⟨[.ls false [.sl (.int .u8)] l],[],.sk 0,[(0,.sl 22 [.sl (.int .u8)] l)]⟩
theorem Zy (l:List (List Int)) (hl:l.length≤100000):ConOk Tryz.prog 63 (iK l):=by
 refine cy 0 Tryz.func63 rfl Tryz.ntmps63 fun hg0 hS=> ?_
 have A7:l.length≤9223372036854775807:=hS.len 0 rfl
 refine Ae [] 0 hS fun hS=>Il ?_
 rcases hS.nilor 0 [.sl (.int .u8)] l with⟨hn1,hS⟩|hS
 ·subst hn1
  refine Dj [] 0 hS fun hS=>Ab (AO hS (Ae [] 0 hS fun hS=>AR (Af ?_)))
  obtain⟨gs,hS⟩:=hS.nilk 2 22 [.sl (.int .u8)]
  exact BW hS
 ·refine Dj [] 0 hS fun hS=>Ab (Ai hS (BP (Ax [(0,Row),(2,FW 0 l.length 24)] [] 2 hS fun hS=>AR ?_)))
  obtain⟨gs,hS⟩:=hS.rx [(0,1)] [2] [0] 1 hg0
  exact BW hS
section
variable (id:List Int) (fi:Bool) (ok:List Int) (oi:Nat) (ik:List Int) (ii low:Nat) (mx:List (List Int)) (last told:Nat) (kl:List KR) (st:Nat) (ep at_:Nat) (sd tx:List Int) (rid rln:Nat) (bx:List (Option (List Int)))
def rZ:Con:=⟨[.cp 0 0],[(0,Cm id fi true 1 2 3 low mx last told kl),(1,Aj ok oi),(2,Aj ik ii),(3,Bd st ep at_ sd tx 4),(4,BM rid rln bx)],.cp 5 0,[(0,Cm id fi true 1 2 3 low mx last told kl),(1,Aj ok oi),(2,Aj ik ii),(3,Bd st ep at_ sd tx 4),(4,BM rid rln bx),(5,XV id fi true 6 7 8 low 11 last told 12),(6,Aj ok oi),(7,Aj ik ii),(8,Bd st ep at_ sd tx 9),(9,Dh rid rln 10),(10,.sl 22 [.os (.int .u8)] bx),(11,.sl 22 [.sl (.int .u8)] mx),(12,.sl 86 [.int .i64,.int .i64,.sl (.sl (.int .u8))] kl)]⟩
theorem d4 (hok:ok.length=32) (hik:ik.length=32) (hoi:oi≤100000000000) (hii:ii≤100000000000) (hm1:1≤mx.length∧mx.length≤100000) (hm2:∀j,(mx.getD j (rz [.sl (.int .u8)])).length≤32) (hlow:low≤100000000000) (hK:Of kl) (hbx:bx.length=2):ConOk Tryz.prog 30 (rZ id fi ok oi ik ii low mx last told kl st ep at_ sd tx rid rln bx):=by
 refine cy 5 Tryz.func30 rfl Tryz.ntmps30 fun hg0 hS=>Ae [] 5 hS fun hS=>Av (Ax [(1,IB (BR) [0,1] [.im (chain [.top,.top,.top,.im (chain []) 0,.top,.top,.top,.top,.top,.top,.top]) 0])] [] 5 hS fun hS=>Ai hS (BP (Ae [3] 6 hS fun hS=>Ax [(4,AM (Jr ok oi AE) [(0,1)] [(1,6)]),(9,AM (Jr ik ii AE) [(0,2)] [(1,7)]),(14,AM (eG st ep at_ sd tx rid rln bx AE) [(0,3),(1,4)] [(2,8),(3,9),(4,10)])] [] 11 hS fun hS=>Av ?_)))
 have hkl:=hK.1
 exact As [(4,AM (Zy mx AE) [] [(0,11)]),(9,AM (Gi kl AE) [] [(0,12)])] [] 13 hS fun hS=>Ab (Ae [] 13 hS fun hS=>AR (BW hS))
end
end
end Go.Sx.Tryz
namespace Go.Sx.Tryz
open Go.Mi Go.RowKit Go.Sx Go.Proofs
noncomputable section
theorem AcQ (st ep at_:Nat) (sd tx:List Int) (id ln:Nat) (bx:List (Option (List Int))) (pid pa ct q:Nat) (d r:List Int) (h:bx.length=2):(WW st ep at_ sd tx id ln bx pid pa ct q d r).2.2.2.2.2.2.2.1.length=2:=by
 rw[HC]
 unfold S4
 repeat' (first |exact h|rfl|exact(Gu ..).trans h|exact Gu (List.replicate 2 none) _ _|split)
theorem AcR (st ep at_:Nat) (sd tx:List Int) (id ln:Nat) (bx:List (Option (List Int))) (b:List Int) (pid pa:Nat) (d r:List Int) (h:bx.length=2):(FI st ep at_ sd tx id ln bx b pid pa d r).2.2.2.2.2.2.2.1.length=2:=by
 by_cases h0:b=[]
 ·subst h0;rw[bO];exact h
 ·rw[WX _ _ _ _ _ _ _ _ h0];exact AcQ _ _ _ _ _ _ _ _ _ _ _ _ _ _ h
section
variable (id:List Int) (fi:Bool) (ok:List Int) (oi:Nat) (ik:List Int) (ii low:Nat) (mx:List (List Int)) (last told:Nat) (kl:List KR) (st:Nat) (ep at_:Nat) (sd tx:List Int) (rid rln:Nat) (bx:List (Option (List Int))) (xs:List Int)
def IV:Bool:=if GP id fi ok oi ik ii low mx last told kl st ep at_ sd tx rid rln bx xs=true then true else false
def HX:Bool:=AJ (IV id fi ok oi ik ii low mx last told kl st ep at_ sd tx rid rln bx xs)
theorem NT:HX id fi ok oi ik ii low mx last told kl st ep at_ sd tx rid rln bx xs=IV id fi ok oi ik ii low mx last told kl st ep at_ sd tx rid rln bx xs:=Ag _
def KG (rand:List Int) (pid pa:Nat) (d:List Int):(List Int)×Nat×Nat×Nat×Nat×(List Int)×(List Int)×Nat×Nat×(List (Option (List Int)))×Nat×(List (List Int))×Nat×Nat×(List (Int×Int×(List (List Int))))×(List Int)×Nat:=((Ay id fi ok oi ik ii low mx last told kl st ep at_ sd tx rid rln bx xs (rand.drop 64) pid pa d).2.2.2.2.2.1,((Ay id fi ok oi ik ii low mx last told kl st ep at_ sd tx rid rln bx xs (rand.drop 64) pid pa d).2.2.2.2.2.2.1),((Ay id fi ok oi ik ii low mx last told kl st ep at_ sd tx rid rln bx xs (rand.drop 64) pid pa d).2.2.2.2.2.2.2.1),((Ay id fi ok oi ik ii low mx last told kl st ep at_ sd tx rid rln bx xs (rand.drop 64) pid pa d).2.2.2.2.2.2.2.2.1),((Ay id fi ok oi ik ii low mx last told kl st ep at_ sd tx rid rln bx xs (rand.drop 64) pid pa d).2.2.2.2.2.2.2.2.2.1),(Ay id fi ok oi ik ii low mx last told kl st ep at_ sd tx rid rln bx xs (rand.drop 64) pid pa d).2.2.2.2.2.2.2.2.2.2.1,(Ay id fi ok oi ik ii low mx last told kl st ep at_ sd tx rid rln bx xs (rand.drop 64) pid pa d).2.2.2.2.2.2.2.2.2.2.2.1,((Ay id fi ok oi ik ii low mx last told kl st ep at_ sd tx rid rln bx xs (rand.drop 64) pid pa d).2.2.2.2.2.2.2.2.2.2.2.2.1),((Ay id fi ok oi ik ii low mx last told kl st ep at_ sd tx rid rln bx xs (rand.drop 64) pid pa d).2.2.2.2.2.2.2.2.2.2.2.2.2.1),(Ay id fi ok oi ik ii low mx last told kl st ep at_ sd tx rid rln bx xs (rand.drop 64) pid pa d).2.2.2.2.2.2.2.2.2.2.2.2.2.2.1,((Ay id fi ok oi ik ii low mx last told kl st ep at_ sd tx rid rln bx xs (rand.drop 64) pid pa d).1),(Ay id fi ok oi ik ii low mx last told kl st ep at_ sd tx rid rln bx xs (rand.drop 64) pid pa d).2.1,((Ay id fi ok oi ik ii low mx last told kl st ep at_ sd tx rid rln bx xs (rand.drop 64) pid pa d).2.2.1),((Ay id fi ok oi ik ii low mx last told kl st ep at_ sd tx rid rln bx xs (rand.drop 64) pid pa d).2.2.2.1),(Ay id fi ok oi ik ii low mx last told kl st ep at_ sd tx rid rln bx xs (rand.drop 64) pid pa d).2.2.2.2.1,(Ay id fi ok oi ik ii low mx last told kl st ep at_ sd tx rid rln bx xs (rand.drop 64) pid pa d).2.2.2.2.2.2.2.2.2.2.2.2.2.2.2.1,((Ay id fi ok oi ik ii low mx last told kl st ep at_ sd tx rid rln bx xs (rand.drop 64) pid pa d).2.2.2.2.2.2.2.2.2.2.2.2.2.2.2.2))
def Ba (rand:List Int) (pid pa:Nat) (d:List Int):(List Int)×Nat×Nat×Nat×Nat×(List Int)×(List Int)×Nat×Nat×(List (Option (List Int)))×Nat×(List (List Int))×Nat×Nat×(List (Int×Int×(List (List Int))))×(List Int)×Nat:=AJ (KG id fi ok oi ik ii low mx last told kl st ep at_ sd tx rid rln bx xs rand pid pa d)
theorem P0 (rand:List Int) (pid pa:Nat) (d:List Int):Ba id fi ok oi ik ii low mx last told kl st ep at_ sd tx rid rln bx xs rand pid pa d=KG id fi ok oi ik ii low mx last told kl st ep at_ sd tx rid rln bx xs rand pid pa d:=Ag _
def Ro (rand:List Int) (pid pa:Nat) (d:List Int) (z_:(List Int)×Nat×Nat×Nat×Nat×(List Int)×(List Int)×Nat×Nat×(List (Option (List Int)))×Nat×(List (List Int))×Nat×Nat×(List (Int×Int×(List (List Int))))×(List Int)×Nat:=Ba id fi ok oi ik ii low mx last told kl st ep at_ sd tx rid rln bx xs rand pid pa d):Con:=⟨[.cp 0 0,lb xs,lb rand],[(0,Cm id fi true 1 2 3 low mx last told kl),(1,Aj ok oi),(2,Aj ik ii),(3,Bd st ep at_ sd tx 4),(4,BM rid rln bx)],.tu (chain [lb (z_.2.2.2.2.2.2.2.2.2.2.2.2.2.2.2.1),vi ((z_.2.2.2.2.2.2.2.2.2.2.2.2.2.2.2.2:Nat):Int),vi 0]),[(0,Cm id fi true 9 10 11 z_.2.2.2.2.2.2.2.2.2.2.1 (z_.2.2.2.2.2.2.2.2.2.2.2.1) z_.2.2.2.2.2.2.2.2.2.2.2.2.1 z_.2.2.2.2.2.2.2.2.2.2.2.2.2.1 (z_.2.2.2.2.2.2.2.2.2.2.2.2.2.2.1)),(1,Aj ok oi),(2,Aj ik ii),(3,Bd st ep at_ sd tx 4),(4,BM rid rln bx),(9,Aj ok oi),(10,Aj (z_.1) z_.2.1),(11,Bd z_.2.2.1 z_.2.2.2.1 z_.2.2.2.2.1 (z_.2.2.2.2.2.1) (z_.2.2.2.2.2.2.1) 17),(17,BM z_.2.2.2.2.2.2.2.1 z_.2.2.2.2.2.2.2.2.1 (z_.2.2.2.2.2.2.2.2.2.1))]⟩
theorem Wc (rand:List Int) (pid pa:Nat) (d:List Int) (hok:ok.length=32) (hik:ik.length=32) (hoi:oi≤100000000000) (hii:ii≤100000000000) (hm1:1≤mx.length∧mx.length≤90000) (hm2:∀j,(mx.getD j (rz [.sl (.int .u8)])).length≤32) (hlow:low≤100000000000) (hK:Of kl) (hll:low≤last∧last≤100000000) (htd:told≤100000000) (hmn:low≤AV fi low mx.length told) (hst:st=1∨st=2∨st=3) (hrln:rln=(if st=1 then 1088 else 1184)) (hrid:rid=(if st=1 then 2*ep+1 else 2*ep)) (hbx:bx.length=2) (hep:ep≤400000000) (hpc:CG xs=true→B5 id fi ok oi ik ii low mx last told kl st ep at_ sd tx rid rln bx ((Aa xs).1) ((Aa xs).2.1) ((Aa xs).2.2.1) ((Aa xs).2.2.2.1) ((Aa xs).2.2.2.2.1) ((Aa xs).2.2.2.2.2)=true→uH ((Da (CH id fi ok oi ik ii low mx last told kl st ep at_ sd tx rid rln bx ((Aa xs).1) ((Aa xs).2.1) ((Aa xs).2.2.1) ((Aa xs).2.2.2.1) ((Aa xs).2.2.2.2.1) ((Aa xs).2.2.2.2.2)) (List.replicate 12 (0:Int)) ((Aa xs).1) ((Aa xs).2.2.2.2.2)).2)=true→XU st ep sd tx bx ((Aa xs).2.2.2.2.1) pid pa d) (hf:xs.length≤50000) (hr:rand.length=128) (hk:HX id fi ok oi ik ii low mx last told kl st ep at_ sd tx rid rln bx xs=true):ConOk Tryz.prog 19 (Ro id fi ok oi ik ii low mx last told kl st ep at_ sd tx rid rln bx xs rand pid pa d):=by
 refine Fs rfl (nb:=5) Tryz.func19 rfl rfl Tryz.ntmps19 rfl rfl rfl fun g0 w0 ac gs ws hg0 hS=> ?_
 have Be:xs.length≤9223372036854775807:=hS.len 1 rfl
 have B2:rand.length≤9223372036854775807:=hS.len 2 rfl
 have hS:=hS.sp
 have hr1:((rand.length:Nat):Int)=128:=Ac
 refine Ae [] 8 hS fun hS=>Av (Ax [(1,IB (BR) [0,1] [.im (chain [.top,.top,.top,.im (chain []) 0,.top,.top,.top,.top,.top,.top,.top]) 0]),(5,GH hr1)] [] 8 hS fun hS=>Ai hS (DU ?_))
 have hS:=hS.rv [(0,.cp 0 0),(1,lb xs),(2,lb rand),(6,.cp 5 0),(7,.cp 6 0),(8,.cp 7 0),(16,.v (.bool false))] [(0,some (Cm id fi true 1 2 3 low mx last told kl)),(1,some (Aj ok oi)),(2,some (Aj ik ii)),(3,some (Bd st ep at_ sd tx 4)),(4,some (BM rid rln bx)),(5,some (Agg)),(6,some (.ob 3 (chain [vi 0]))),(7,some (EG))]
 refine JV rfl hS (cs:=[.cp 5 0,.cp 6 0,.cp 7 0]) rfl rfl rfl fun D vds ac hD hcv hB hS=> ?_
 have hS:=hS.sp
 refine Ej ?_
 have hm100:1≤mx.length∧mx.length≤100000:=by omega
 refine As [(1,AM (d4 id fi ok oi ik ii low mx last told kl st ep at_ sd tx rid rln bx AE AE Ac Ac M7 (by first |assumption|(intro j;simp<;>omega)) Ac BF AE) [(0,0),(1,1),(2,2),(3,3),(4,4)] [(5,8),(6,9),(7,10),(8,11),(9,12),(10,13),(11,14),(12,15)])] [] 16 hS fun hS=>Ej ?_
 have hm100:1≤mx.length∧mx.length≤100000:=by omega
 by_cases h1:GP id fi ok oi ik ii low mx last told kl st ep at_ sd tx rid rln bx xs=true
 ·have hm100:1≤mx.length∧mx.length≤100000:=by omega
  refine As [(3,O2 64 rand.length),(4,AM (jX id fi ok oi ik ii low mx last told kl st ep at_ sd tx rid rln bx xs (rand.drop 64) pid pa d AE AE Ac Ac M7 (by first |assumption|(intro j;simp<;>omega)) Ac BF Ac Ac BF BF BF BF Ac Ac BF AE AE h1) [(0,8),(1,9),(2,10),(3,15),(4,14),(5,11),(6,12),(7,13)] [(8,16),(9,17),(10,18)])] [] 19 hS fun hS=>Ej (Dj [] 19 hS fun hS=> ?_)
  obtain⟨gs,hS⟩:=hS.fz 16
  have hbxl:((Ay id fi ok oi ik ii low mx last told kl st ep at_ sd tx rid rln bx xs (rand.drop 64) pid pa d).2.2.2.2.2.2.2.2.2.2.2.2.2.2.1).length=2:=by rw[TD];exact AcR _ _ _ _ _ _ _ _ _ _ _ _ _ hbx
  have hbxn:((Ay id fi ok oi ik ii low mx last told kl st ep at_ sd tx rid rln bx xs (rand.drop 64) pid pa d).2.2.2.2.2.2.2.2.2.2.2.2.2.2.1)≠[]:=fun e=>by rw[e]at hbxl;cases hbxl
  obtain⟨gs,hS⟩:=hS.fy 18 22 [.os (.int .u8)] ((Ay id fi ok oi ik ii low mx last told kl st ep at_ sd tx rid rln bx xs (rand.drop 64) pid pa d).2.2.2.2.2.2.2.2.2.2.2.2.2.2.1) ((show true=true→((Ay id fi ok oi ik ii low mx last told kl st ep at_ sd tx rid rln bx xs (rand.drop 64) pid pa d).2.2.2.2.2.2.2.2.2.2.2.2.2.2.1)≠[]from fun _=>hbxn) rfl)
  refine Ab (Ae [] 19 hS fun hS=>AR ?_)
  have hM:Ba id fi ok oi ik ii low mx last told kl st ep at_ sd tx rid rln bx xs rand pid pa d=((Ay id fi ok oi ik ii low mx last told kl st ep at_ sd tx rid rln bx xs (rand.drop 64) pid pa d).2.2.2.2.2.1,((Ay id fi ok oi ik ii low mx last told kl st ep at_ sd tx rid rln bx xs (rand.drop 64) pid pa d).2.2.2.2.2.2.1),((Ay id fi ok oi ik ii low mx last told kl st ep at_ sd tx rid rln bx xs (rand.drop 64) pid pa d).2.2.2.2.2.2.2.1),((Ay id fi ok oi ik ii low mx last told kl st ep at_ sd tx rid rln bx xs (rand.drop 64) pid pa d).2.2.2.2.2.2.2.2.1),((Ay id fi ok oi ik ii low mx last told kl st ep at_ sd tx rid rln bx xs (rand.drop 64) pid pa d).2.2.2.2.2.2.2.2.2.1),(Ay id fi ok oi ik ii low mx last told kl st ep at_ sd tx rid rln bx xs (rand.drop 64) pid pa d).2.2.2.2.2.2.2.2.2.2.1,(Ay id fi ok oi ik ii low mx last told kl st ep at_ sd tx rid rln bx xs (rand.drop 64) pid pa d).2.2.2.2.2.2.2.2.2.2.2.1,((Ay id fi ok oi ik ii low mx last told kl st ep at_ sd tx rid rln bx xs (rand.drop 64) pid pa d).2.2.2.2.2.2.2.2.2.2.2.2.1),((Ay id fi ok oi ik ii low mx last told kl st ep at_ sd tx rid rln bx xs (rand.drop 64) pid pa d).2.2.2.2.2.2.2.2.2.2.2.2.2.1),(Ay id fi ok oi ik ii low mx last told kl st ep at_ sd tx rid rln bx xs (rand.drop 64) pid pa d).2.2.2.2.2.2.2.2.2.2.2.2.2.2.1,((Ay id fi ok oi ik ii low mx last told kl st ep at_ sd tx rid rln bx xs (rand.drop 64) pid pa d).1),(Ay id fi ok oi ik ii low mx last told kl st ep at_ sd tx rid rln bx xs (rand.drop 64) pid pa d).2.1,((Ay id fi ok oi ik ii low mx last told kl st ep at_ sd tx rid rln bx xs (rand.drop 64) pid pa d).2.2.1),((Ay id fi ok oi ik ii low mx last told kl st ep at_ sd tx rid rln bx xs (rand.drop 64) pid pa d).2.2.2.1),(Ay id fi ok oi ik ii low mx last told kl st ep at_ sd tx rid rln bx xs (rand.drop 64) pid pa d).2.2.2.2.1,(Ay id fi ok oi ik ii low mx last told kl st ep at_ sd tx rid rln bx xs (rand.drop 64) pid pa d).2.2.2.2.2.2.2.2.2.2.2.2.2.2.2.1,((Ay id fi ok oi ik ii low mx last told kl st ep at_ sd tx rid rln bx xs (rand.drop 64) pid pa d).2.2.2.2.2.2.2.2.2.2.2.2.2.2.2.2)):=P0 id fi ok oi ik ii low mx last told kl st ep at_ sd tx rid rln bx xs rand pid pa d
  have hS:=hS.rv [(6,.cp 5 0),(7,.cp 6 0),(8,.cp 7 0)] [(0,some (Cm id fi true 9 10 11 ((Ay id fi ok oi ik ii low mx last told kl st ep at_ sd tx rid rln bx xs (rand.drop 64) pid pa d).1) ((Ay id fi ok oi ik ii low mx last told kl st ep at_ sd tx rid rln bx xs (rand.drop 64) pid pa d).2.1) ((Ay id fi ok oi ik ii low mx last told kl st ep at_ sd tx rid rln bx xs (rand.drop 64) pid pa d).2.2.1) ((Ay id fi ok oi ik ii low mx last told kl st ep at_ sd tx rid rln bx xs (rand.drop 64) pid pa d).2.2.2.1) ((Ay id fi ok oi ik ii low mx last told kl st ep at_ sd tx rid rln bx xs (rand.drop 64) pid pa d).2.2.2.2.1))),(1,some (Aj ok oi)),(2,some (Aj ik ii)),(3,some (Bd st ep at_ sd tx 4)),(4,some (BM rid rln bx)),(5,some (XW ((Ay id fi ok oi ik ii low mx last told kl st ep at_ sd tx rid rln bx xs (rand.drop 64) pid pa d).2.2.2.2.2.2.2.2.2.2.2.2.2.2.2.1))),(6,some (M3 ((Ay id fi ok oi ik ii low mx last told kl st ep at_ sd tx rid rln bx xs (rand.drop 64) pid pa d).2.2.2.2.2.2.2.2.2.2.2.2.2.2.2.2))),(7,some (EG)),(9,some (Aj ok oi)),(10,some (Aj ((Ay id fi ok oi ik ii low mx last told kl st ep at_ sd tx rid rln bx xs (rand.drop 64) pid pa d).2.2.2.2.2.1) ((Ay id fi ok oi ik ii low mx last told kl st ep at_ sd tx rid rln bx xs (rand.drop 64) pid pa d).2.2.2.2.2.2.1))),(11,some (Bd ((Ay id fi ok oi ik ii low mx last told kl st ep at_ sd tx rid rln bx xs (rand.drop 64) pid pa d).2.2.2.2.2.2.2.1) ((Ay id fi ok oi ik ii low mx last told kl st ep at_ sd tx rid rln bx xs (rand.drop 64) pid pa d).2.2.2.2.2.2.2.2.1) ((Ay id fi ok oi ik ii low mx last told kl st ep at_ sd tx rid rln bx xs (rand.drop 64) pid pa d).2.2.2.2.2.2.2.2.2.1) ((Ay id fi ok oi ik ii low mx last told kl st ep at_ sd tx rid rln bx xs (rand.drop 64) pid pa d).2.2.2.2.2.2.2.2.2.2.1) ((Ay id fi ok oi ik ii low mx last told kl st ep at_ sd tx rid rln bx xs (rand.drop 64) pid pa d).2.2.2.2.2.2.2.2.2.2.2.1) 17)),(17,some (BM ((Ay id fi ok oi ik ii low mx last told kl st ep at_ sd tx rid rln bx xs (rand.drop 64) pid pa d).2.2.2.2.2.2.2.2.2.2.2.2.1) ((Ay id fi ok oi ik ii low mx last told kl st ep at_ sd tx rid rln bx xs (rand.drop 64) pid pa d).2.2.2.2.2.2.2.2.2.2.2.2.2.1) ((Ay id fi ok oi ik ii low mx last told kl st ep at_ sd tx rid rln bx xs (rand.drop 64) pid pa d).2.2.2.2.2.2.2.2.2.2.2.2.2.2.1)))]
  exact QO (.inr rfl) hS hD (Gz ⟨38,(Vb ((Ay id fi ok oi ik ii low mx last told kl st ep at_ sd tx rid rln bx xs (rand.drop 64) pid pa d).2.2.2.2.2.2.2.2.2.2.2.2.2.2.2.1) ((Ay id fi ok oi ik ii low mx last told kl st ep at_ sd tx rid rln bx xs (rand.drop 64) pid pa d).2.2.2.2.2.2.2.2.2.2.2.2.2.2.2.2)),[(0,5),(1,6),(2,7)],[]⟩ [(5,some (XW ((Ay id fi ok oi ik ii low mx last told kl st ep at_ sd tx rid rln bx xs (rand.drop 64) pid pa d).2.2.2.2.2.2.2.2.2.2.2.2.2.2.2.1))),(6,some (M3 ((Ay id fi ok oi ik ii low mx last told kl st ep at_ sd tx rid rln bx xs (rand.drop 64) pid pa d).2.2.2.2.2.2.2.2.2.2.2.2.2.2.2.2))),(7,some (EG)),(0,some (Cm id fi true 9 10 11 ((Ay id fi ok oi ik ii low mx last told kl st ep at_ sd tx rid rln bx xs (rand.drop 64) pid pa d).1) ((Ay id fi ok oi ik ii low mx last told kl st ep at_ sd tx rid rln bx xs (rand.drop 64) pid pa d).2.1) ((Ay id fi ok oi ik ii low mx last told kl st ep at_ sd tx rid rln bx xs (rand.drop 64) pid pa d).2.2.1) ((Ay id fi ok oi ik ii low mx last told kl st ep at_ sd tx rid rln bx xs (rand.drop 64) pid pa d).2.2.2.1) ((Ay id fi ok oi ik ii low mx last told kl st ep at_ sd tx rid rln bx xs (rand.drop 64) pid pa d).2.2.2.2.1))),(1,some (Aj ok oi)),(2,some (Aj ik ii)),(3,some (Bd st ep at_ sd tx 4)),(4,some (BM rid rln bx)),(5,some (XW ((Ay id fi ok oi ik ii low mx last told kl st ep at_ sd tx rid rln bx xs (rand.drop 64) pid pa d).2.2.2.2.2.2.2.2.2.2.2.2.2.2.2.1))),(6,some (M3 ((Ay id fi ok oi ik ii low mx last told kl st ep at_ sd tx rid rln bx xs (rand.drop 64) pid pa d).2.2.2.2.2.2.2.2.2.2.2.2.2.2.2.2))),(7,some (EG)),(9,some (Aj ok oi)),(10,some (Aj ((Ay id fi ok oi ik ii low mx last told kl st ep at_ sd tx rid rln bx xs (rand.drop 64) pid pa d).2.2.2.2.2.1) ((Ay id fi ok oi ik ii low mx last told kl st ep at_ sd tx rid rln bx xs (rand.drop 64) pid pa d).2.2.2.2.2.2.1))),(11,some (Bd ((Ay id fi ok oi ik ii low mx last told kl st ep at_ sd tx rid rln bx xs (rand.drop 64) pid pa d).2.2.2.2.2.2.2.1) ((Ay id fi ok oi ik ii low mx last told kl st ep at_ sd tx rid rln bx xs (rand.drop 64) pid pa d).2.2.2.2.2.2.2.2.1) ((Ay id fi ok oi ik ii low mx last told kl st ep at_ sd tx rid rln bx xs (rand.drop 64) pid pa d).2.2.2.2.2.2.2.2.2.1) ((Ay id fi ok oi ik ii low mx last told kl st ep at_ sd tx rid rln bx xs (rand.drop 64) pid pa d).2.2.2.2.2.2.2.2.2.2.1) ((Ay id fi ok oi ik ii low mx last told kl st ep at_ sd tx rid rln bx xs (rand.drop 64) pid pa d).2.2.2.2.2.2.2.2.2.2.2.1) 17)),(17,some (BM ((Ay id fi ok oi ik ii low mx last told kl st ep at_ sd tx rid rln bx xs (rand.drop 64) pid pa d).2.2.2.2.2.2.2.2.2.2.2.2.1) ((Ay id fi ok oi ik ii low mx last told kl st ep at_ sd tx rid rln bx xs (rand.drop 64) pid pa d).2.2.2.2.2.2.2.2.2.2.2.2.2.1) ((Ay id fi ok oi ik ii low mx last told kl st ep at_ sd tx rid rln bx xs (rand.drop 64) pid pa d).2.2.2.2.2.2.2.2.2.2.2.2.2.2.1)))] hB hS hcv (show FrameMode.returning≠ .run from nofun) rfl rfl rfl (Wl ((Ay id fi ok oi ik ii low mx last told kl st ep at_ sd tx rid rln bx xs (rand.drop 64) pid pa d).2.2.2.2.2.2.2.2.2.2.2.2.2.2.2.1) ((Ay id fi ok oi ik ii low mx last told kl st ep at_ sd tx rid rln bx xs (rand.drop 64) pid pa d).2.2.2.2.2.2.2.2.2.2.2.2.2.2.2.2)) rfl ⟨rfl,rfl,rfl,trivial⟩ rfl (ds:=[lb ((Ay id fi ok oi ik ii low mx last told kl st ep at_ sd tx rid rln bx xs (rand.drop 64) pid pa d).2.2.2.2.2.2.2.2.2.2.2.2.2.2.2.1),vi ((((Ay id fi ok oi ik ii low mx last told kl st ep at_ sd tx rid rln bx xs (rand.drop 64) pid pa d).2.2.2.2.2.2.2.2.2.2.2.2.2.2.2.2):Nat):Int),vi 0]) (by kernel_rfl) (by show weak _ (.tu (chain [lb ((Ba id fi ok oi ik ii low mx last told kl st ep at_ sd tx rid rln bx xs rand pid pa d).2.2.2.2.2.2.2.2.2.2.2.2.2.2.2.1),vi (((Ba id fi ok oi ik ii low mx last told kl st ep at_ sd tx rid rln bx xs rand pid pa d).2.2.2.2.2.2.2.2.2.2.2.2.2.2.2.2:Nat):Int),vi 0]))=(.tu (chain [lb ((Ba id fi ok oi ik ii low mx last told kl st ep at_ sd tx rid rln bx xs rand pid pa d).2.2.2.2.2.2.2.2.2.2.2.2.2.2.2.1),vi (((Ba id fi ok oi ik ii low mx last told kl st ep at_ sd tx rid rln bx xs rand pid pa d).2.2.2.2.2.2.2.2.2.2.2.2.2.2.2.2:Nat):Int),vi 0]));first |rfl|(rw[hM];first |(simp only[];rfl)|(simp only[];done)|rfl)) (by show DW _ [(0,Cm id fi true 9 10 11 ((Ba id fi ok oi ik ii low mx last told kl st ep at_ sd tx rid rln bx xs rand pid pa d).2.2.2.2.2.2.2.2.2.2.1) ((Ba id fi ok oi ik ii low mx last told kl st ep at_ sd tx rid rln bx xs rand pid pa d).2.2.2.2.2.2.2.2.2.2.2.1) ((Ba id fi ok oi ik ii low mx last told kl st ep at_ sd tx rid rln bx xs rand pid pa d).2.2.2.2.2.2.2.2.2.2.2.2.1) ((Ba id fi ok oi ik ii low mx last told kl st ep at_ sd tx rid rln bx xs rand pid pa d).2.2.2.2.2.2.2.2.2.2.2.2.2.1) ((Ba id fi ok oi ik ii low mx last told kl st ep at_ sd tx rid rln bx xs rand pid pa d).2.2.2.2.2.2.2.2.2.2.2.2.2.2.1)),(1,Aj ok oi),(2,Aj ik ii),(3,Bd st ep at_ sd tx 4),(4,BM rid rln bx),(9,Aj ok oi),(10,Aj ((Ba id fi ok oi ik ii low mx last told kl st ep at_ sd tx rid rln bx xs rand pid pa d).1) ((Ba id fi ok oi ik ii low mx last told kl st ep at_ sd tx rid rln bx xs rand pid pa d).2.1)),(11,Bd ((Ba id fi ok oi ik ii low mx last told kl st ep at_ sd tx rid rln bx xs rand pid pa d).2.2.1) ((Ba id fi ok oi ik ii low mx last told kl st ep at_ sd tx rid rln bx xs rand pid pa d).2.2.2.1) ((Ba id fi ok oi ik ii low mx last told kl st ep at_ sd tx rid rln bx xs rand pid pa d).2.2.2.2.1) ((Ba id fi ok oi ik ii low mx last told kl st ep at_ sd tx rid rln bx xs rand pid pa d).2.2.2.2.2.1) ((Ba id fi ok oi ik ii low mx last told kl st ep at_ sd tx rid rln bx xs rand pid pa d).2.2.2.2.2.2.1) 17),(17,BM ((Ba id fi ok oi ik ii low mx last told kl st ep at_ sd tx rid rln bx xs rand pid pa d).2.2.2.2.2.2.2.1) ((Ba id fi ok oi ik ii low mx last told kl st ep at_ sd tx rid rln bx xs rand pid pa d).2.2.2.2.2.2.2.2.1) ((Ba id fi ok oi ik ii low mx last told kl st ep at_ sd tx rid rln bx xs rand pid pa d).2.2.2.2.2.2.2.2.2.1))] true;first |exact⟨rfl,rfl,rfl,rfl,rfl,rfl,rfl,rfl,rfl,trivial⟩|(rw[hM];first |(simp only[];exact⟨rfl,rfl,rfl,rfl,rfl,rfl,rfl,rfl,rfl,trivial⟩)|exact⟨rfl,rfl,rfl,rfl,rfl,rfl,rfl,rfl,rfl,trivial⟩)))
 ·have hm100:1≤mx.length∧mx.length≤100000:=by omega
  have hK:HX id fi ok oi ik ii low mx last told kl st ep at_ sd tx rid rln bx xs=false:=(NT id fi ok oi ik ii low mx last told kl st ep at_ sd tx rid rln bx xs).trans (if_neg h1)
  rw[hK]at hk
  cases hk
end
end
end Go.Sx.Tryz
