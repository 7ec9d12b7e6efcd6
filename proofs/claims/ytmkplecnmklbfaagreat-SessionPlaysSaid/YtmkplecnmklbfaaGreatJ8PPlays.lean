/- General lemmas, walks. -/
import Derived.Test.YtmkplecnmklbfaaGreatJ8aPPlays
set_option maxRecDepth 100000
set_option maxHeartbeats 1000000
set_option linter.unusedSimpArgs false
set_option linter.unusedVariables false
set_option linter.unnecessarySimpa false
set_option linter.unusedSectionVars false
namespace Go.Sx
open Go.Mi Go.RowKit
variable [Dfr]
structure IsB (hy:Bool):Prop where
abbrev IsB.b {hy:Bool} (_:IsB hy):Bool:=hy
def rP (hy:Bool) (k:Nat):D:=bif hy then .cp k 0 else .v (.pointer none)
def rH (hy:Bool) (l:Hc):Hc:=bif hy then l else[]
def J8 {P:Program} {f:FuncId} {c:Con} (h:ConOk P f c) (ρ σ:OM):Rp P:=AA h (ρ.filter λp=>CG p.1 (AB c.H0)) (σ.filter λp=>CG p.1 (AB c.H1))
theorem Sp.up {n:Nat} {σ:Sg} {S0:Nat->Prop} {g0 g:G} {w0 w:World} {nb:Nat} {a:Act} (V:Sp n S0 g0 w0 σ nb a g w) (nb':Nat) (h:Nat.ble nb nb'=true:=by kernel_rfl):Sp n S0 g0 w0 σ nb' a g w:=
 ⟨V.size,V.defers,V.fr,V.hs,V.go,V.wf0,V.fp,λk v hk=>b_ (V.nm k v hk) (bq h)⟩
theorem ConOk.rn {P:Program} {f:FuncId} {ays:List D} {H0 H1:Hc} {r:D} (ρ:OM) (r':D) (H':Hc) (h:ConOk P f ⟨ays,H0,r,H1⟩) (hc:UQ ρ (AB H0) [(0,r')] H' 1000=true:=by kernel_rfl) (hr:r=r'.ren (Go.Sx.rn ρ):=by kernel_rfl) (hH:(H'.map λp=>E4 H1 (Go.Sx.rn ρ p.1))=(H'.map λp=>some (p.2.ren (Go.Sx.rn ρ))):=by kernel_rfl):ConOk P f ⟨ays,H0,r',H'⟩:=by
 refine⟨h.1,λvs g w V hN hv=>(h.2 vs g w V hN hv).mono λe w' ⟨v,he,g',hp⟩=>⟨v,he,?_⟩⟩
 have e1:A7 (Hv H1)=E4 H1:=funext λ_=>Hu
 have e2:A7 (Hv H')=E4 H':=funext λ_=>Hu
 have hR:R6 (Hv H1) (Go.Sx.rn ρ) H':=bI (by rw[e1];exact hH)
 have hF:∀t d,Ej [(0,r)] t=some d->Sm g' w' d ((⟨#[v],Dfr.ds⟩:Act).tmps.getD t undef):=λt d ht=>by
  cases t with
  |zero=>cases ht;exact hp.r
  |succ t=>cases ht
 obtain⟨g2,h2⟩:=St.ren2 (n:=1) (L:=[(0,r)]) (H:=Hv H1) (a:=⟨#[v],Dfr.ds⟩) (nm:=λ_=>True) hN ⟨rfl,rfl,hF,by rw[e1];exact hp.hs,hp.go,V.wf,by rw[e1];exact hp.fp,λ_ _ _=>trivial⟩ ρ [(0,r')] H' 1000 hc (by rw[hr];rfl) hR
 exact⟨g2,h2.go,h2.fr 0 r' rfl,by rw[<-e2];exact h2.hs,by rw[<-e2];exact h2.fp⟩
end Go.Sx
namespace Go.Sx.Tryz
open Go.Mi Go.RowKit Go.Sx Go.Proofs Go.Proofs.Tryz
noncomputable section
open List (replicate map_drop take_left drop_left map_congr_left range'_concat)
def Abh (x0:Ad) (x1 x2:Bool) (x3 x4:Nat) (x5:D) (x6:Nat) (x7:AZ) (x8 x9:Nat) (x10:List (Int×Int×AZ)):O:= .ob 80 (Jg [lb x0,.v (.bool x1),.v (.bool x2),.cp x3 0,.cp x4 0,x5,vi ((x6:Nat):Int),.ls false A8 x7,vi ((x8:Nat):Int),vi ((x9:Nat):Int),.ls false CM x10])
section
variable (hy:Bool)
def EndH.pq (e:EndH) (rQ:Ad):Nat×Ad×Ad×Ad:=bif hy then e.pc rQ else(e.aD,e.sd,e.tx,[])
def EndH.sq (e:EndH) (rQ:Ad):EndH:={e with ok:=Sb e.ok,oi:=e.oi+1,aD:=(e.pq hy rQ).1,sd:=(e.pq hy rQ).2.1,tx:=(e.pq hy rQ).2.2.1}
def EndH.fq (e:EndH) (fi:Bool) (tT rQ:Ad):Ad:=Uy e.ok (e.mx.getD (e.num fi-e.lT) AW) e.oi (e.num fi) (e.lT+e.mx.length-1) (e.pq hy rQ).2.2.2 tT
theorem EndH.pq_le {fi:Bool} {e:EndH} (h:SndOk fi e) {rQ:Ad} (hr:rQ.length=128):(e.pq hy rQ).2.2.2.length<=1040:=by
 cases hy
 ·exact bw _
 ·exact EndH.pc_le h hr
theorem SndOk.lenq {fi:Bool} {e:EndH} (h:SndOk fi e) {tT rQ:Ad} (ht:tT.length<=500) (hr:rQ.length=128):0<(e.fq hy fi tT rQ).length/\(e.fq hy fi tT rQ).length<=4000:=by
 have h1:=h.oi
 have h2:=h.m1
 have h3:=h.lT
 have h4:=EndH.num_le h
 exact NC ⟨by omega,by omega,by omega⟩ (EndH.pq_le hy h hr) ht
end
theorem Zi {hy:Bool} (ih:IsB hy) (id:Ad) (fi:Bool) (e:EndH) (tT rQ:Ad) (hA:SndOk fi e) (htx:tT.length<=500) (hr:rQ.length=128):AP 24 ⟨[.cp 0 0,lb tT,lb rQ],([(0,Abh id fi hy 1 2 (rP hy 3) e.lT e.mx e.lD e.tD e.kl),(1,Ag e.ok e.oi),(2,Ag e.ik e.ii)]++rH hy [(3,AL e.st e.ep e.aD e.sd e.tx 4),(4,AT e.rD e.rT e.bx)]),.tu (Jg [lb (e.fq hy fi tT rQ),vi ((e.oi:Nat):Int),vi 0]),([(0,Abh id fi hy 1 2 (rP hy 3) ((e.sq hy rQ).lT) ((e.sq hy rQ).mx) ((e.sq hy rQ).lD) ((e.sq hy rQ).tD) ((e.sq hy rQ).kl)),(1,Ag ((e.sq hy rQ).ok) ((e.sq hy rQ).oi)),(2,Ag ((e.sq hy rQ).ik) ((e.sq hy rQ).ii))]++rH hy [(3,AL ((e.sq hy rQ).st) ((e.sq hy rQ).ep) ((e.sq hy rQ).aD) ((e.sq hy rQ).sd) ((e.sq hy rQ).tx) 4),(4,AT ((e.sq hy rQ).rD) ((e.sq hy rQ).rT) ((e.sq hy rQ).bx))])⟩:=by
 cases hy
 ·have h:=rE id fi e.ok e.oi e.ik e.ii e.lT e.mx e.lD e.tD e.kl tT rQ hA.ok hA.ik (by have :=hA.oi;omega) (by have :=hA.ii;omega) ⟨hA.m1.1,by have :=hA.m1.2;omega⟩ hA.m2 (by have :=hA.lT;omega) hA.mn htx hr
  have hM:XG id fi e.ok e.oi e.ik e.ii e.lT e.mx e.lD e.tD e.kl tT rQ=(Sb e.ok,e.oi+1,e.fq false fi tT rQ):=Ab _
  unfold oU at h
  rw[hM]at h
  exact h
 ·have h:=rA id fi e.ok e.oi e.ik e.ii e.lT e.mx e.lD e.tD e.kl e.st e.ep e.aD e.sd e.tx e.rD e.rT e.bx tT rQ hA.ok hA.ik (by have :=hA.oi;omega) (by have :=hA.ii;omega) ⟨hA.m1.1,by have :=hA.m1.2;omega⟩ hA.m2 (by have :=hA.lT;omega) hA.mn htx hr hA.st (by have :=hA.ep;omega) (by have :=hA.aD;omega) hA.tx hA.txl
  have hM:hS fi e.ok e.oi e.lT e.mx e.tD e.st e.ep e.aD e.sd e.tx e.rD e.rT e.bx tT rQ=(Sb e.ok,e.oi+1,(e.pc rQ).1,(e.pc rQ).2.1,(e.pc rQ).2.2.1,e.fq true fi tT rQ):=Ab _
  unfold oS at h
  rw[hM]at h
  exact h
structure tK (id:Ad) (fi:Bool) (e:EndH) (xs rQ:Ad) (e2:EndH) (tT:Ad) (n:Nat):Prop where
 k:HG id fi e.ok e.oi e.ik e.ii e.lT e.mx e.lD e.tD e.kl xs rQ=true
 m:DK id fi e.ok e.oi e.ik e.ii e.lT e.mx e.lD e.tD e.kl xs rQ=(e2.ik,e2.ii,e2.lD,e2.tD,e2.kl,tT,n)
 same:e2.ok=e.ok/\e2.oi=e.oi/\e2.lT=e.lT/\e2.mx=e.mx
section
variable (hy:Bool) (id:Ad) (fi:Bool) (e:EndH)
def bB (xs rQ:Ad) (e2:EndH) (tT:Ad) (n:Nat):Prop:=bif hy then Xm id fi e xs rQ e2 tT n else tK id fi e xs rQ e2 tT n
def YT (xs rQ:Ad) (e2:EndH) (tT:Ad) (n:Nat):Con:=⟨[.cp 0 0,lb xs,lb rQ],([(0,Abh id fi hy 1 2 (rP hy 3) e.lT e.mx e.lD e.tD e.kl),(1,Ag e.ok e.oi),(2,Ag e.ik e.ii)]++rH hy [(3,AL e.st e.ep e.aD e.sd e.tx 4),(4,AT e.rD e.rT e.bx)]),.tu (Jg [lb tT,vi (n:Int),vi 0]),([(0,Abh id fi hy 9 10 (rP hy 11) e2.lT e2.mx e2.lD e2.tD e2.kl),(1,Ag e.ok e.oi),(2,Ag e.ik e.ii)]++rH hy [(3,AL e.st e.ep e.aD e.sd e.tx 4),(4,AT e.rD e.rT e.bx)]++[(9,Ag e2.ok e2.oi),(10,Ag e2.ik e2.ii)]++rH hy [(11,AL e2.st e2.ep e2.aD e2.sd e2.tx 17),(17,AT e2.rD e2.rT e2.bx)])⟩
end
theorem Zx {hy:Bool} (ih:IsB hy) (id:Ad) (fi:Bool) (e:EndH) (xs rQ:Ad) (e2:EndH) (tT:Ad) (n:Nat) (hE:EOk fi e) (hG:bB hy id fi e xs rQ e2 tT n) (hf:xs.length<=50000) (hr:rQ.length=128):AP 19 (YT hy id fi e xs rQ e2 tT n):=by
 cases hy
 ·have hG:tK id fi e xs rQ e2 tT n:=hG
  have h:=XP id fi e.ok e.oi e.ik e.ii e.lT e.mx e.lD e.tD e.kl xs rQ hE.ok hE.ik (by have :=hE.oi;omega) (by have :=hE.ii;omega) ⟨hE.m1.1,by have :=hE.m1.2;omega⟩ hE.m2 (by have :=hE.lT;omega) hE.K ⟨hE.ll.1,by have :=hE.ll.2;omega⟩ (by have :=hE.td;omega) hf hr hG.k
  unfold Tw at h
  rw[hG.m]at h
  unfold YT
  rw[hG.same.1,hG.same.2.1,hG.same.2.2.1,hG.same.2.2.2]
  exact h.rn [(0,0),(1,1),(2,2),(9,7),(10,8)] _ _
 ·have hG:Xm id fi e xs rQ e2 tT n:=hG
  obtain⟨pid,pa,d,h1,h2,h3⟩:=hG.ex
  have h:=VV id fi e.ok e.oi e.ik e.ii e.lT e.mx e.lD e.tD e.kl e.st e.ep e.aD e.sd e.tx e.rD e.rT e.bx xs rQ pid pa d hE.ok hE.ik (by have :=hE.oi;omega) (by have :=hE.ii;omega) ⟨hE.m1.1,by have :=hE.m1.2;omega⟩ hE.m2 (by have :=hE.lT;omega) hE.K ⟨hE.ll.1,by have :=hE.ll.2;omega⟩ (by have :=hE.td;omega) hE.mn hE.st hE.rT hE.rD hE.bx (by have :=hE.ep;omega) (λ_ _ _=>h1) hf hr h2
  unfold RO at h
  rw[h3]at h
  unfold YT
  rw[hG.same.1,hG.same.2]
  exact h
theorem UY {hy:Bool} (ih:IsB hy) (id:Ad) (fi:Bool) (e:EndH) (xs rQ:Ad) (er:Nat) (hE:EOk fi e) (hG:Tz id fi e xs er) (hf:xs.length<=50000) (hr:rQ.length=128):AP 19 ⟨[.cp 0 0,lb xs,lb rQ],([(0,Abh id fi hy 1 2 (rP hy 3) e.lT e.mx e.lD e.tD e.kl),(1,Ag e.ok e.oi),(2,Ag e.ik e.ii)]++rH hy [(3,AL e.st e.ep e.aD e.sd e.tx 4),(4,AT e.rD e.rT e.bx)]),.tu (Jg [.v (.slice none 0 0),vi 0,vi (er:Int)]),([(0,Abh id fi hy 1 2 (rP hy 3) e.lT e.mx e.lD e.tD e.kl),(1,Ag e.ok e.oi),(2,Ag e.ik e.ii)]++rH hy [(3,AL e.st e.ep e.aD e.sd e.tx 4),(4,AT e.rD e.rT e.bx)])⟩:=by
 cases hy
 ·have hw : HG id fi e.ok e.oi e.ik e.ii e.lT e.mx e.lD e.tD e.kl xs rQ = false := by
   unfold HG;rw[Ab]
   unfold HN;rw[Ab]
   rw[ah hG.p,hG.k];rfl
  have h:=TT id fi e.ok e.oi e.ik e.ii e.lT e.mx e.lD e.tD e.kl xs rQ hE.ok hE.ik (by have :=hE.oi;omega) (by have :=hE.ii;omega) ⟨hE.m1.1,by have :=hE.m1.2;omega⟩ hE.m2 (by have :=hE.lT;omega) hE.K ⟨hE.ll.1,by have :=hE.ll.2;omega⟩ (by have :=hE.td;omega) hf hr hw
  have he:Dm id fi e.ok e.oi e.ik e.ii e.lT e.mx e.lD e.tD e.kl xs (rQ.drop 64)=er:=by
   unfold Dm;rw[Ab]
   rw[ah hG.p,hG.k]
   exact hG.e
  unfold Pb at h
  rw[he]at h
  exact h
 ·have hq:=Kl (id:=id) (fi:=fi) (ok:=e.ok) (oi:=e.oi) (ik:=e.ik) (ii:=e.ii) (lT:=e.lT) (mx:=e.mx) (lD:=e.lD) (tD:=e.tD) (kl:=e.kl) (st:=e.st) (ep:=e.ep) (aD:=e.aD) (sd:=e.sd) (tx:=e.tx) (rD:=e.rD) (rT:=e.rT) (bx:=e.bx) (hb:=(Aa xs).1) (hi:=(Aa xs).2.1) (hn:=(Aa xs).2.2.1) (hh:=(Aa xs).2.2.2.1) (hp:=(Aa xs).2.2.2.2.1) (hx:=(Aa xs).2.2.2.2.2)
  have hk:=hq.1.trans hG.k
  have hw:E_ id fi e.ok e.oi e.ik e.ii e.lT e.mx e.lD e.tD e.kl e.st e.ep e.aD e.sd e.tx e.rD e.rT e.bx xs=false:=by
   unfold E_;rw[Ab]
   unfold FI;rw[Ab]
   rw[ah hG.p,hk];rfl
  have h:=R9 id fi e.ok e.oi e.ik e.ii e.lT e.mx e.lD e.tD e.kl e.st e.ep e.aD e.sd e.tx e.rD e.rT e.bx xs rQ 0 0 [] hE.ok hE.ik (by have :=hE.oi;omega) (by have :=hE.ii;omega) ⟨hE.m1.1,by have :=hE.m1.2;omega⟩ hE.m2 (by have :=hE.lT;omega) hE.K ⟨hE.ll.1,by have :=hE.ll.2;omega⟩ (by have :=hE.td;omega) hE.mn hE.st hE.rT hE.rD hE.bx (by have :=hE.ep;omega) (λ_ h2 _=>absurd h2 (by rw[hk];decide)) hf hr hw
  have he:Cx id fi e.ok e.oi e.ik e.ii e.lT e.mx e.lD e.tD e.kl e.st e.ep e.aD e.sd e.tx e.rD e.rT e.bx xs=er:=by
   unfold Cx;rw[Ab]
   rw[ah hG.p,hk]
   exact hq.2.2.trans hG.e
  unfold NR at h
  rw[he]at h
  exact h
def SB (e:EndH) (x12:Nat):Ad->Ad:=λx2=>x2++[(e.kl.getD x12 Bi).1]
def FO (e:EndH):Nat->Ad
 |0=>[]
 |x12+1=>SB e x12 (FO e x12)
def TZ (id:Ad) (fi:Bool) (e:EndH):Ad:=AV (FO e e.kl.length)
def Zy (hy:Bool) (id:Ad) (fi:Bool) (e:EndH) (z_:Ad:=TZ id fi e):Con:=⟨[.cp 0 0],([(0,Abh id fi hy 1 2 (rP hy 3) e.lT e.mx e.lD e.tD e.kl),(1,Ag e.ok e.oi),(2,Ag e.ik e.ii)]++rH hy [(3,AL e.st e.ep e.aD e.sd e.tx 4),(4,AT e.rD e.rT e.bx)]),.sk 5,([(0,Abh id fi hy 1 2 (rP hy 3) e.lT e.mx e.lD e.tD e.kl),(1,Ag e.ok e.oi),(2,Ag e.ik e.ii)]++rH hy [(3,AL e.st e.ep e.aD e.sd e.tx 4),(4,AT e.rD e.rT e.bx)]++[(5,.sl 3 El z_)])⟩
theorem fB {hy:Bool} (ih:IsB hy) (id:Ad) (fi:Bool) (e:EndH) (hK:KOk e.kl):AP 21 (Zy hy id fi e):=by
 cases hy
 all_goals
  refine cy 5 func21 rfl ntmps21 λY V=>Aj [] 5 V λV=>Ar (Ay [(1,Ig (B4) [0,1] [.im (Jg [.top,.top,.top,.im (Jg []) 0,.top,.top,.top,.top,.top,.top,.top]) 0])] [] 5 V λV=>Ai V (DG (Aj [10] 5 V λV=>BC ?_)))
  obtain⟨gs,V⟩:=V.nilk 2 3 El
  refine AC (ι:=Nat×Ad) Y V (λ(x12,x2)=>(e.kl.length-x12,[(12,vi ((x12:Nat):Int))],[(5,.sl 3 El x2)],(x12<=e.kl.length)/\(x2=FO e x12)/\(x2.length=x12/\e.kl.length<=1000)/\True)) [2,10,11] [0,1,2,3,4] 6 (0,[]) [(0,0),(1,1),(2,2),(3,3),(4,4),(5,5)] ⟨Ac,rfl,⟨rfl,hK.1⟩,aa⟩ ?_
  rintro⟨x12,x2⟩ ac gs ws ⟨hx12,hq1,p1,_⟩ V
  refine Aj [] 6 V λV=>Ar (AJ ((x12:Int)<((e.kl.length:Nat):Int)) V (λh1=> ?_) (λh1=> ?_))
  ·exact B3 (Ay [(0,AH x12 e.kl.length)] [4] 7 V λV=>Aw [(4,Gt x2.length 1 8)] [2] 8 V λV=>Ck (Aw [(0,Cu x12)] [12] 8 V λV=>Ae (As Y V (x12+1,x2++[(e.kl.getD x12 Bi).1]) [(0,0),(1,1),(2,2),(3,3),(4,4),(5,7)] ⟨Ac,(Bm (st:=SB _) hq1 rfl rfl),(by rw[ab,aw,au];omega),aa⟩)))
  ·have hT:=V
   obtain rfl:e.kl.length=x12:=by omega
   obtain rfl:=hq1.symm
   have V:=hT
   exact Dw (Aj [2] 6 V λV=>AY (BV (Ab _) V))
theorem ZC (id:Ad) (fi:Bool) (e:EndH):TZ id fi e=O5 e.kl:=by
 have key:∀n,n<=e.kl.length->FO e n=O5 (e.kl.take n):=by
  intro n
  induction n with
  |zero=>intro _;rfl
  |succ n ih=>
   intro hn
   show FO e n++[(e.kl.getD n kz).1]=_
   rw[ih Ac,cw Ac,al,am Ac]
   unfold O5
   rw[cb];rfl
 unfold TZ;rw[Ab]
 rw[key _ (an _),eh]
theorem XE {hy:Bool} (ih:IsB hy) (id:Ad) (fi:Bool) (e:EndH) (hK:KOk e.kl):AP 21 ⟨[.cp 0 0],([(0,Abh id fi hy 1 2 (rP hy 3) e.lT e.mx e.lD e.tD e.kl),(1,Ag e.ok e.oi),(2,Ag e.ik e.ii)]++rH hy [(3,AL e.st e.ep e.aD e.sd e.tx 4),(4,AT e.rD e.rT e.bx)]),.ls false El (O5 e.kl),([(0,Abh id fi hy 1 2 (rP hy 3) e.lT e.mx e.lD e.tD e.kl),(1,Ag e.ok e.oi),(2,Ag e.ik e.ii)]++rH hy [(3,AL e.st e.ep e.aD e.sd e.tx 4),(4,AT e.rD e.rT e.bx)])⟩:=by
 have h:=fB ih id fi e hK
 unfold Zy at h
 rw[ZC]at h
 cases hy
 all_goals exact ConOk.frz _ 5 3 El (O5 e.kl) h (by kernel_rfl)
theorem T_ {hy:Bool} (ih:IsB hy) (id:Ad) (fi:Bool) (e:EndH):AP 32 (Cq [.cp 0 0] ([(0,Abh id fi hy 1 2 (rP hy 3) e.lT e.mx e.lD e.tD e.kl),(1,Ag e.ok e.oi),(2,Ag e.ik e.ii)]++rH hy [(3,AL e.st e.ep e.aD e.sd e.tx 4),(4,AT e.rD e.rT e.bx)]) (vi ((e.oi:Nat):Int))):=by
 cases hy
 all_goals
  exact cy 5 func32 rfl ntmps32 λY V=>Aj [] 5 V λV=>Ar (Ay [(1,Ig (B4) [0,1] [.im (Jg [.top,.top,.top,.im (Jg []) 0,.top,.top,.top,.top,.top,.top,.top]) 0])] [] 5 V λV=>Ai V (Cb (Ay [(4,J8 (Cn e.ok e.oi) [(0,1)] [])] [] 5 V λV=>AY (BW V))))
theorem V1 {hy:Bool} (ih:IsB hy) (id:Ad) (fi:Bool) (e:EndH):AP 20 (Cq [.cp 0 0] ([(0,Abh id fi hy 1 2 (rP hy 3) e.lT e.mx e.lD e.tD e.kl),(1,Ag e.ok e.oi),(2,Ag e.ik e.ii)]++rH hy [(3,AL e.st e.ep e.aD e.sd e.tx 4),(4,AT e.rD e.rT e.bx)]) (vi ((e.ii:Nat):Int))):=by
 cases hy
 all_goals
  exact cy 5 func20 rfl ntmps20 λY V=>Aj [] 5 V λV=>Ar (Ay [(1,Ig (B4) [0,1] [.im (Jg [.top,.top,.top,.im (Jg []) 0,.top,.top,.top,.top,.top,.top,.top]) 0])] [] 5 V λV=>Ai V (Cb (Ay [(4,J8 (Cn e.ik e.ii) [(0,2)] [])] [] 5 V λV=>AY (BW V))))
theorem jQ {hy:Bool} (ih:IsB hy) (id:Ad) (fi:Bool) (e:EndH) (hm1:1<=e.mx.length/\e.mx.length<=100000) (hlow:e.lT<=100000000000):AP 18 (Cq [.cp 0 0] ([(0,Abh id fi hy 1 2 (rP hy 3) e.lT e.mx e.lD e.tD e.kl),(1,Ag e.ok e.oi),(2,Ag e.ik e.ii)]++rH hy [(3,AL e.st e.ep e.aD e.sd e.tx 4),(4,AT e.rD e.rT e.bx)]) (vi ((((e.lT+e.mx.length)-1):Nat):Int))):=by
 cases hy
 all_goals
  exact cy 5 func18 rfl ntmps18 λY V=>Aj [] 5 V λV=>Ar (Ay [(1,Ig (B4) [0,1] [.im (Jg [.top,.top,.top,.im (Jg []) 0,.top,.top,.top,.top,.top,.top,.top]) 0])] [] 5 V λV=>Ai V (Cb (Ay [(9,FW e.lT e.mx.length (e.lT+e.mx.length)),(10,IM (e.lT+e.mx.length) 1 ((e.lT+e.mx.length)-1))] [] 5 V λV=>AY (BW V))))
def T0 (ida idb:Ad) (a b:EndH):Bool:=AV (if ida=idb then(if((min ((a.lT+a.mx.length)-1) ((b.lT+b.mx.length)-1):Nat):Int)<((a.lT:Nat):Int)then true else(if((min ((a.lT+a.mx.length)-1) ((b.lT+b.mx.length)-1):Nat):Int)<((b.lT:Nat):Int)then true else decide ((a.mx.getD ((min ((a.lT+a.mx.length)-1) ((b.lT+b.mx.length)-1))-a.lT) AW)=(b.mx.getD ((min ((a.lT+a.mx.length)-1) ((b.lT+b.mx.length)-1))-b.lT) AW))))else false)
def sS (hy:Bool) (ida idb:Ad) (a b:EndH) (z_:Bool:=T0 ida idb a b):Con:=Cq [.cp 0 0,.cp 5 0] ([(0,Abh ida true hy 1 2 (rP hy 3) a.lT a.mx a.lD a.tD a.kl),(1,Ag a.ok a.oi),(2,Ag a.ik a.ii)]++rH hy [(3,AL a.st a.ep a.aD a.sd a.tx 4),(4,AT a.rD a.rT a.bx)]++[(5,Abh idb false hy 6 7 (rP hy 8) b.lT b.mx b.lD b.tD b.kl),(6,Ag b.ok b.oi),(7,Ag b.ik b.ii)]++rH hy [(8,AL b.st b.ep b.aD b.sd b.tx 9),(9,AT b.rD b.rT b.bx)]) (.v (.bool z_))
theorem nP {hy:Bool} (ih:IsB hy) (ida idb:Ad) (a b:EndH) (hm1:1<=a.mx.length/\a.mx.length<=100000) (hlow:a.lT<=100000000000) (hm1b:1<=b.mx.length/\b.mx.length<=100000) (hlowb:b.lT<=100000000000):AP 17 (sS hy ida idb a b):=by
 cases hy
 all_goals
  refine cy 10 func17 rfl ntmps17 λY V=>Aj [] 10 V λV=>Ar (Ay [(1,Ig (B4) [0,1] [.im (Jg [.top,.top,.top,.im (Jg []) 0,.top,.top,.top,.top,.top,.top,.top]) 0]),(4,Ig (B4) [5,6] [.im (Jg [.top,.top,.top,.im (Jg []) 0,.top,.top,.top,.top,.top,.top,.top]) 0]),(37,AS (Ew ida idb))] [] 10 V λV=>IH (ida=idb) V (λh1=> ?_) (λh1=> ?_))
  ·exact Aj [] 10 V λV=>AY (Ao (BV (.trans (Ab _) (aj h1)) V))
  ·refine Cb (Ay [(1,J8 (jQ ih ida true a Ac Ac) [(0,0),(1,1),(2,2),(3,3),(4,4)] []),(3,J8 (jQ ih idb false b Ac Ac) [(0,5),(1,6),(2,7),(3,8),(4,9)] []),(4,Q2 ((a.lT+a.mx.length)-1) ((b.lT+b.mx.length)-1))] [] 10 V λV=>Ar ?_)
   by_cases h2:((min ((a.lT+a.mx.length)-1) ((b.lT+b.mx.length)-1):Nat):Int)<((a.lT:Nat):Int)
   ·exact Aw [(5,Gv h2)] [] 10 V λV=>EY (BV (.trans (Ab _) ((ah h1).trans (ah h2))) V)
   ·by_cases h3:((min ((a.lT+a.mx.length)-1) ((b.lT+b.mx.length)-1):Nat):Int)<((b.lT:Nat):Int)
    ·exact Aw [(5,Do h2),(12,Gv h3)] [] 10 V λV=>EY (BV (.trans (Ab _) ((ah h1).trans ((aj h2).trans (ah h3)))) V)
    ·exact Aw [(5,Do h2),(12,Do h3),(24,IM (min ((a.lT+a.mx.length)-1) ((b.lT+b.mx.length)-1)) a.lT ((min ((a.lT+a.mx.length)-1) ((b.lT+b.mx.length)-1))-a.lT)),(25,AH ((min ((a.lT+a.mx.length)-1) ((b.lT+b.mx.length)-1))-a.lT) a.mx.length),(36,IM (min ((a.lT+a.mx.length)-1) ((b.lT+b.mx.length)-1)) b.lT ((min ((a.lT+a.mx.length)-1) ((b.lT+b.mx.length)-1))-b.lT)),(37,AH ((min ((a.lT+a.mx.length)-1) ((b.lT+b.mx.length)-1))-b.lT) b.mx.length),(39,AS (Ew (a.mx.getD ((min ((a.lT+a.mx.length)-1) ((b.lT+b.mx.length)-1))-a.lT) AW) (b.mx.getD ((min ((a.lT+a.mx.length)-1) ((b.lT+b.mx.length)-1))-b.lT) AW)))] [] 10 V λV=>EY (BV (.trans (Ab _) ((ah h1).trans ((aj h2).trans (aj h3)))) V)
noncomputable abbrev SE (ida idb:Ad) (a b:EndH):Bool:=T0 ida idb a b
theorem IU {hy:Bool} (ih:IsB hy) (ida idb:Ad) (a b:EndH) (ha:SndOk true a) (hb:SndOk false b):AP 17 ⟨[.cp 0 0,.cp 5 0],([(0,Abh ida true hy 1 2 (rP hy 3) a.lT a.mx a.lD a.tD a.kl),(1,Ag a.ok a.oi),(2,Ag a.ik a.ii)]++rH hy [(3,AL a.st a.ep a.aD a.sd a.tx 4),(4,AT a.rD a.rT a.bx)]++[(5,Abh idb false hy 6 7 (rP hy 8) b.lT b.mx b.lD b.tD b.kl),(6,Ag b.ok b.oi),(7,Ag b.ik b.ii)]++rH hy [(8,AL b.st b.ep b.aD b.sd b.tx 9),(9,AT b.rD b.rT b.bx)]),.v (.bool (SE ida idb a b)),([(0,Abh ida true hy 1 2 (rP hy 3) a.lT a.mx a.lD a.tD a.kl),(1,Ag a.ok a.oi),(2,Ag a.ik a.ii)]++rH hy [(3,AL a.st a.ep a.aD a.sd a.tx 4),(4,AT a.rD a.rT a.bx)]++[(5,Abh idb false hy 6 7 (rP hy 8) b.lT b.mx b.lD b.tD b.kl),(6,Ag b.ok b.oi),(7,Ag b.ik b.ii)]++rH hy [(8,AL b.st b.ep b.aD b.sd b.tx 9),(9,AT b.rD b.rT b.bx)])⟩:=by
 have h:=nP ih ida idb a b ⟨ha.m1.1,by have :=ha.m1.2;omega⟩ (by have :=ha.lT;omega) ⟨hb.m1.1,by have :=hb.m1.2;omega⟩ (by have :=hb.lT;omega)
 exact h
def PS.sqA (hy:Bool) (p:PS) (tT rQ:Ad):PS:={p with a:=p.a.sq hy rQ,na:=p.na+1,fl:=p.fl++[((0:Int),((p.a.oi:Nat):Int),tT,p.a.fq hy true tT rQ)]}
def PS.sqB (hy:Bool) (p:PS) (tT rQ:Ad):PS:={p with b:=p.b.sq hy rQ,nb:=p.nb+1,fl:=p.fl++[((1:Int),((p.b.oi:Nat):Int),tT,p.b.fq hy false tT rQ)]}
theorem nT {hy:Bool} (ih:IsB hy) (p:PS) (tT rQ:Ad) (hA:SndOk true p.a) (hna:p.a.oi=p.na) (hfl0:p.fl.length<=1000000) (htx:tT.length<=500) (hr:rQ.length=128):AP 14 ⟨[.cp 0 0,vi 0,lb tT,lb rQ],([(0,qE 1 6 p.na p.ia (ints p.ja) p.nb p.ib (ints p.jb) 11),(1,Abh p.ida true hy 2 3 (rP hy 4) p.a.lT p.a.mx p.a.lD p.a.tD p.a.kl),(2,Ag p.a.ok p.a.oi),(3,Ag p.a.ik p.a.ii)]++rH hy [(4,AL p.a.st p.a.ep p.a.aD p.a.sd p.a.tx 5),(5,AT p.a.rD p.a.rT p.a.bx)]++[(6,Abh p.idb false hy 7 8 (rP hy 9) p.b.lT p.b.mx p.b.lD p.b.tD p.b.kl),(7,Ag p.b.ok p.b.oi),(8,Ag p.b.ik p.b.ii)]++rH hy [(9,AL p.b.st p.b.ep p.b.aD p.b.sd p.b.tx 10),(10,AT p.b.rD p.b.rT p.b.bx)]++[(11,.sl 48 Bp p.fl)]),.v (.bool true),([(0,qE 13 16 ((p.sqA hy tT rQ).na) ((p.sqA hy tT rQ).ia) (ints (p.sqA hy tT rQ).ja) ((p.sqA hy tT rQ).nb) ((p.sqA hy tT rQ).ib) (ints (p.sqA hy tT rQ).jb) 19),(13,Abh ((p.sqA hy tT rQ).ida) true hy 14 15 (rP hy 20) ((p.sqA hy tT rQ).a.lT) ((p.sqA hy tT rQ).a.mx) ((p.sqA hy tT rQ).a.lD) ((p.sqA hy tT rQ).a.tD) ((p.sqA hy tT rQ).a.kl)),(14,Ag ((p.sqA hy tT rQ).a.ok) ((p.sqA hy tT rQ).a.oi)),(15,Ag ((p.sqA hy tT rQ).a.ik) ((p.sqA hy tT rQ).a.ii)),(16,Abh ((p.sqA hy tT rQ).idb) false hy 17 18 (rP hy 22) ((p.sqA hy tT rQ).b.lT) ((p.sqA hy tT rQ).b.mx) ((p.sqA hy tT rQ).b.lD) ((p.sqA hy tT rQ).b.tD) ((p.sqA hy tT rQ).b.kl)),(17,Ag ((p.sqA hy tT rQ).b.ok) ((p.sqA hy tT rQ).b.oi)),(18,Ag ((p.sqA hy tT rQ).b.ik) ((p.sqA hy tT rQ).b.ii)),(19,.sl 48 Bp ((p.sqA hy tT rQ).fl))]++rH hy [(20,AL ((p.sqA hy tT rQ).a.st) ((p.sqA hy tT rQ).a.ep) ((p.sqA hy tT rQ).a.aD) ((p.sqA hy tT rQ).a.sd) ((p.sqA hy tT rQ).a.tx) 21),(21,AT ((p.sqA hy tT rQ).a.rD) ((p.sqA hy tT rQ).a.rT) ((p.sqA hy tT rQ).a.bx)),(22,AL ((p.sqA hy tT rQ).b.st) ((p.sqA hy tT rQ).b.ep) ((p.sqA hy tT rQ).b.aD) ((p.sqA hy tT rQ).b.sd) ((p.sqA hy tT rQ).b.tx) 23),(23,AT ((p.sqA hy tT rQ).b.rD) ((p.sqA hy tT rQ).b.rT) ((p.sqA hy tT rQ).b.bx))])⟩:=by
 cases hy
 all_goals
  refine cy 12 func14 rfl ntmps14 λY V=> ?_
  have Cl:tT.length<=9223372036854775807:=V.len 2 rfl
  have Jb:rQ.length<=9223372036854775807:=V.len 3 rfl
  have DC:p.fl.length<=9223372036854775807:=V.lens 11 rfl
  have hx1:¬(500:Int)<((tT.length:Nat):Int):=Ac
  refine Aj [] 12 V λV=>Ay [(4,AH 0 2),(8,J8 (Zi ih p.ida true p.a tT rQ hA htx hr) [(0,1),(1,2),(2,3),(3,4),(4,5)] [])] [] 12 V λV=>Ar (Ay [(2,Do hx1)] [] 12 V λV=>Ai V (DG (Ar ?_)))
  have hfl:0<(p.a.fq ih.b true tT rQ).length/\(p.a.fq ih.b true tT rQ).length<=4000:=hA.lenq ih.b htx hr
  have hq3:((p.a.oi:Nat):Int)=((p.na:Nat):Int):=(by rw[hna])
  have hq1:¬(4000:Int)<(((p.a.fq ih.b true tT rQ).length:Nat):Int):=Ac
  have hq2:¬(((p.a.fq ih.b true tT rQ).length:Nat):Int)=0:=Ac
  refine Aw [(8,AH 0 2),(11,Ha hq3),(16,Do hq1),(21,Do hq2)] [] 12 V λV=>Ae (Ai V (DG ?_))
  have hoi:=hA.oi
  refine Aw [(4,AH 0 2),(7,Cu p.na),(10,AH 0 2)] [] 12 V λV=>Ae (Ay [(11,Gt p.fl.length 1 64)] [] 13 V λV=>Ar ?_)
  have hq4:(((p.a.sq ih.b rQ).oi:Nat):Int)=((p.na+1:Nat):Int):=(by show((p.a.oi+1:Nat):Int)=_;rw[hna])
  refine Aw [(4,AH 0 2),(6,J8 (T_ ih p.ida true (p.a.sq ih.b rQ)) [(0,1),(1,2),(2,3),(3,4),(4,5)] []),(11,AH 0 2),(14,Gv hq4)] [] 13 V λV=>EY ?_
  obtain⟨gs,V⟩:=V.rn2 [(0,0),(1,1),(2,2),(3,3),(4,4),(5,5),(6,6),(7,7),(8,8),(9,9),(10,10),(11,11),(13,1),(14,2),(15,3),(16,6),(17,7),(18,8),(19,12),(20,4),(21,5),(22,9),(23,10)] [(8,.v (.bool true))] ([(0,qE 13 16 (p.na+1) p.ia (ints p.ja) p.nb p.ib (ints p.jb) 19),(13,Abh p.ida true ih.b 14 15 (rP ih.b 20) ((p.a.sq ih.b rQ).lT) ((p.a.sq ih.b rQ).mx) ((p.a.sq ih.b rQ).lD) ((p.a.sq ih.b rQ).tD) ((p.a.sq ih.b rQ).kl)),(14,Ag ((p.a.sq ih.b rQ).ok) ((p.a.sq ih.b rQ).oi)),(15,Ag ((p.a.sq ih.b rQ).ik) ((p.a.sq ih.b rQ).ii)),(16,Abh p.idb false ih.b 17 18 (rP ih.b 22) p.b.lT p.b.mx p.b.lD p.b.tD p.b.kl),(17,Ag p.b.ok p.b.oi),(18,Ag p.b.ik p.b.ii),(19,.sl 48 Bp (p.fl++[(0,((p.a.oi:Nat):Int),tT,p.a.fq ih.b true tT rQ)]))]++rH ih.b [(20,AL ((p.a.sq ih.b rQ).st) ((p.a.sq ih.b rQ).ep) ((p.a.sq ih.b rQ).aD) ((p.a.sq ih.b rQ).sd) ((p.a.sq ih.b rQ).tx) 21),(21,AT ((p.a.sq ih.b rQ).rD) ((p.a.sq ih.b rQ).rT) ((p.a.sq ih.b rQ).bx)),(22,AL p.b.st p.b.ep p.b.aD p.b.sd p.b.tx 23),(23,AT p.b.rD p.b.rT p.b.bx)]) 24 Y
  exact BW V
theorem nS {hy:Bool} (ih:IsB hy) (p:PS) (tT rQ:Ad) (hA:SndOk false p.b) (hna:p.b.oi=p.nb) (hfl0:p.fl.length<=1000000) (htx:tT.length<=500) (hr:rQ.length=128):AP 14 ⟨[.cp 0 0,vi 1,lb tT,lb rQ],([(0,qE 1 6 p.na p.ia (ints p.ja) p.nb p.ib (ints p.jb) 11),(1,Abh p.ida true hy 2 3 (rP hy 4) p.a.lT p.a.mx p.a.lD p.a.tD p.a.kl),(2,Ag p.a.ok p.a.oi),(3,Ag p.a.ik p.a.ii)]++rH hy [(4,AL p.a.st p.a.ep p.a.aD p.a.sd p.a.tx 5),(5,AT p.a.rD p.a.rT p.a.bx)]++[(6,Abh p.idb false hy 7 8 (rP hy 9) p.b.lT p.b.mx p.b.lD p.b.tD p.b.kl),(7,Ag p.b.ok p.b.oi),(8,Ag p.b.ik p.b.ii)]++rH hy [(9,AL p.b.st p.b.ep p.b.aD p.b.sd p.b.tx 10),(10,AT p.b.rD p.b.rT p.b.bx)]++[(11,.sl 48 Bp p.fl)]),.v (.bool true),([(0,qE 13 16 ((p.sqB hy tT rQ).na) ((p.sqB hy tT rQ).ia) (ints (p.sqB hy tT rQ).ja) ((p.sqB hy tT rQ).nb) ((p.sqB hy tT rQ).ib) (ints (p.sqB hy tT rQ).jb) 19),(13,Abh ((p.sqB hy tT rQ).ida) true hy 14 15 (rP hy 20) ((p.sqB hy tT rQ).a.lT) ((p.sqB hy tT rQ).a.mx) ((p.sqB hy tT rQ).a.lD) ((p.sqB hy tT rQ).a.tD) ((p.sqB hy tT rQ).a.kl)),(14,Ag ((p.sqB hy tT rQ).a.ok) ((p.sqB hy tT rQ).a.oi)),(15,Ag ((p.sqB hy tT rQ).a.ik) ((p.sqB hy tT rQ).a.ii)),(16,Abh ((p.sqB hy tT rQ).idb) false hy 17 18 (rP hy 22) ((p.sqB hy tT rQ).b.lT) ((p.sqB hy tT rQ).b.mx) ((p.sqB hy tT rQ).b.lD) ((p.sqB hy tT rQ).b.tD) ((p.sqB hy tT rQ).b.kl)),(17,Ag ((p.sqB hy tT rQ).b.ok) ((p.sqB hy tT rQ).b.oi)),(18,Ag ((p.sqB hy tT rQ).b.ik) ((p.sqB hy tT rQ).b.ii)),(19,.sl 48 Bp ((p.sqB hy tT rQ).fl))]++rH hy [(20,AL ((p.sqB hy tT rQ).a.st) ((p.sqB hy tT rQ).a.ep) ((p.sqB hy tT rQ).a.aD) ((p.sqB hy tT rQ).a.sd) ((p.sqB hy tT rQ).a.tx) 21),(21,AT ((p.sqB hy tT rQ).a.rD) ((p.sqB hy tT rQ).a.rT) ((p.sqB hy tT rQ).a.bx)),(22,AL ((p.sqB hy tT rQ).b.st) ((p.sqB hy tT rQ).b.ep) ((p.sqB hy tT rQ).b.aD) ((p.sqB hy tT rQ).b.sd) ((p.sqB hy tT rQ).b.tx) 23),(23,AT ((p.sqB hy tT rQ).b.rD) ((p.sqB hy tT rQ).b.rT) ((p.sqB hy tT rQ).b.bx))])⟩:=by
 cases hy
 all_goals
  refine cy 12 func14 rfl ntmps14 λY V=> ?_
  have Cl:tT.length<=9223372036854775807:=V.len 2 rfl
  have Jb:rQ.length<=9223372036854775807:=V.len 3 rfl
  have DC:p.fl.length<=9223372036854775807:=V.lens 11 rfl
  have hx1:¬(500:Int)<((tT.length:Nat):Int):=Ac
  refine Aj [] 12 V λV=>Ay [(4,AH 1 2),(8,J8 (Zi ih p.idb false p.b tT rQ hA htx hr) [(0,6),(1,7),(2,8),(3,9),(4,10)] [])] [] 12 V λV=>Ar (Ay [(2,Do hx1)] [] 12 V λV=>Ai V (DG (Ar ?_)))
  have hfl:0<(p.b.fq ih.b false tT rQ).length/\(p.b.fq ih.b false tT rQ).length<=4000:=hA.lenq ih.b htx hr
  have hq3:((p.b.oi:Nat):Int)=((p.nb:Nat):Int):=(by rw[hna])
  have hq1:¬(4000:Int)<(((p.b.fq ih.b false tT rQ).length:Nat):Int):=Ac
  have hq2:¬(((p.b.fq ih.b false tT rQ).length:Nat):Int)=0:=Ac
  refine Aw [(8,AH 1 2),(11,Ha hq3),(16,Do hq1),(21,Do hq2)] [] 12 V λV=>Ae (Ai V (DG ?_))
  have hoi:=hA.oi
  refine Aw [(4,AH 1 2),(7,Cu p.nb),(10,AH 1 2)] [] 12 V λV=>Ae (Ay [(11,Gt p.fl.length 1 64)] [] 13 V λV=>Ar ?_)
  have hq4:(((p.b.sq ih.b rQ).oi:Nat):Int)=((p.nb+1:Nat):Int):=(by show((p.b.oi+1:Nat):Int)=_;rw[hna])
  refine Aw [(4,AH 1 2),(6,J8 (T_ ih p.idb false (p.b.sq ih.b rQ)) [(0,6),(1,7),(2,8),(3,9),(4,10)] []),(11,AH 1 2),(14,Gv hq4)] [] 13 V λV=>EY ?_
  obtain⟨gs,V⟩:=V.rn2 [(0,0),(1,1),(2,2),(3,3),(4,4),(5,5),(6,6),(7,7),(8,8),(9,9),(10,10),(11,11),(13,1),(14,2),(15,3),(16,6),(17,7),(18,8),(19,12),(20,4),(21,5),(22,9),(23,10)] [(8,.v (.bool true))] ([(0,qE 13 16 p.na p.ia (ints p.ja) (p.nb+1) p.ib (ints p.jb) 19),(13,Abh p.ida true ih.b 14 15 (rP ih.b 20) p.a.lT p.a.mx p.a.lD p.a.tD p.a.kl),(14,Ag p.a.ok p.a.oi),(15,Ag p.a.ik p.a.ii),(16,Abh p.idb false ih.b 17 18 (rP ih.b 22) ((p.b.sq ih.b rQ).lT) ((p.b.sq ih.b rQ).mx) ((p.b.sq ih.b rQ).lD) ((p.b.sq ih.b rQ).tD) ((p.b.sq ih.b rQ).kl)),(17,Ag ((p.b.sq ih.b rQ).ok) ((p.b.sq ih.b rQ).oi)),(18,Ag ((p.b.sq ih.b rQ).ik) ((p.b.sq ih.b rQ).ii)),(19,.sl 48 Bp (p.fl++[(1,((p.b.oi:Nat):Int),tT,p.b.fq ih.b false tT rQ)]))]++rH ih.b [(20,AL p.a.st p.a.ep p.a.aD p.a.sd p.a.tx 21),(21,AT p.a.rD p.a.rT p.a.bx),(22,AL ((p.b.sq ih.b rQ).st) ((p.b.sq ih.b rQ).ep) ((p.b.sq ih.b rQ).aD) ((p.b.sq ih.b rQ).sd) ((p.b.sq ih.b rQ).tx) 23),(23,AT ((p.b.sq ih.b rQ).rD) ((p.b.sq ih.b rQ).rT) ((p.b.sq ih.b rQ).bx))]) 24 Y
  exact BW V
theorem OV {hy:Bool} (ih:IsB hy) (a b:EndH) (ida idb:Ad) (sa ia:Nat) (ja:List Nat) (sb ib:Nat) (jb:List Nat) (fl:yW) (hK:KOk b.kl) (hI:b.ii=ia) (hJ:O5 b.kl=ints ja):AP 27 (Cq [.cp 0 0,vi 1] ([(0,qE 1 6 sa ia (ints ja) sb ib (ints jb) 11),(1,Abh ida true hy 2 3 (rP hy 4) a.lT a.mx a.lD a.tD a.kl),(2,Ag a.ok a.oi),(3,Ag a.ik a.ii)]++rH hy [(4,AL a.st a.ep a.aD a.sd a.tx 5),(5,AT a.rD a.rT a.bx)]++[(6,Abh idb false hy 7 8 (rP hy 9) b.lT b.mx b.lD b.tD b.kl),(7,Ag b.ok b.oi),(8,Ag b.ik b.ii)]++rH hy [(9,AL b.st b.ep b.aD b.sd b.tx 10),(10,AT b.rD b.rT b.bx)]++[(11,.sl 48 Bp fl)]) (.v (.bool true))):=by
 cases hy
 all_goals
  refine cy 12 func27 rfl ntmps27 λY V=> ?_
  have DC:fl.length<=9223372036854775807:=V.lens 11 rfl
  refine Aj [] 12 V λV=>Ay [(5,AH 0 2)] [5] 13 V λV=>Ar ?_
  have hq1:((b.ii:Nat):Int)=(ia:Int):=(by rw[hI])
  exact Aw [(4,AH 1 2),(6,J8 (V1 ih idb false b) [(0,6),(1,7),(2,8),(3,9),(4,10)] []),(9,Gv hq1),(15,AH 1 2),(17,J8 (XE ih idb false b A_) [(0,6),(1,7),(2,8),(3,9),(4,10)] []),(20,AS (Ky (O5 b.kl) (ints ja) hJ))] [] 13 V λV=>EY (BW V)
theorem Sv {hy:Bool} (ih:IsB hy) (a b:EndH) (ida idb:Ad) (sa ia:Nat) (ja:List Nat) (sb ib:Nat) (jb:List Nat) (fl:yW) (hK:KOk a.kl) (hI:a.ii=ib) (hJ:O5 a.kl=ints jb):AP 27 (Cq [.cp 0 0,vi 0] ([(0,qE 1 6 sa ia (ints ja) sb ib (ints jb) 11),(1,Abh ida true hy 2 3 (rP hy 4) a.lT a.mx a.lD a.tD a.kl),(2,Ag a.ok a.oi),(3,Ag a.ik a.ii)]++rH hy [(4,AL a.st a.ep a.aD a.sd a.tx 5),(5,AT a.rD a.rT a.bx)]++[(6,Abh idb false hy 7 8 (rP hy 9) b.lT b.mx b.lD b.tD b.kl),(7,Ag b.ok b.oi),(8,Ag b.ik b.ii)]++rH hy [(9,AL b.st b.ep b.aD b.sd b.tx 10),(10,AT b.rD b.rT b.bx)]++[(11,.sl 48 Bp fl)]) (.v (.bool true))):=by
 cases hy
 all_goals
  refine cy 12 func27 rfl ntmps27 λY V=> ?_
  have DC:fl.length<=9223372036854775807:=V.lens 11 rfl
  refine Aj [] 12 V λV=>Ay [(5,AH 1 2)] [5] 13 V λV=>Ar ?_
  have hq1:((a.ii:Nat):Int)=(ib:Int):=(by rw[hI])
  exact Aw [(4,AH 0 2),(6,J8 (V1 ih ida true a) [(0,1),(1,2),(2,3),(3,4),(4,5)] []),(9,Gv hq1),(15,AH 0 2),(17,J8 (XE ih ida true a A_) [(0,1),(1,2),(2,3),(3,4),(4,5)] []),(20,AS (Ky (O5 a.kl) (ints jb) hJ))] [] 13 V λV=>EY (BW V)
theorem r9 {hy:Bool} (ih:IsB hy) (p:PS) (k:Nat) (rQ:Ad) (n:Nat) (tT fr:Ad) (e2:EndH) (hE:EOk false p.b) (hf:fr.length<=50000) (hr:rQ.length=128) (hrow:p.fl.getD k Bu=((0:Int),(n:Int),tT,fr)) (hk:k<p.fl.length/\k<1000000) (hR:RI p.ia p.ja) (hn:n<=1000000/\p.ia<=1000000) (hG:bB hy p.idb false p.b fr rQ e2 tT n) (hs:EN p.ia p.ja n=true) (hI:e2.ii=nI p.ia n) (hJ:O5 e2.kl=ints (nJ p.ia p.ja n)) (hK2:KOk e2.kl):AP 16 ⟨[.cp 0 0,vi (k:Int),lb rQ],([(0,qE 1 6 p.na p.ia (ints p.ja) p.nb p.ib (ints p.jb) 11),(1,Abh p.ida true hy 2 3 (rP hy 4) p.a.lT p.a.mx p.a.lD p.a.tD p.a.kl),(2,Ag p.a.ok p.a.oi),(3,Ag p.a.ik p.a.ii)]++rH hy [(4,AL p.a.st p.a.ep p.a.aD p.a.sd p.a.tx 5),(5,AT p.a.rD p.a.rT p.a.bx)]++[(6,Abh p.idb false hy 7 8 (rP hy 9) p.b.lT p.b.mx p.b.lD p.b.tD p.b.kl),(7,Ag p.b.ok p.b.oi),(8,Ag p.b.ik p.b.ii)]++rH hy [(9,AL p.b.st p.b.ep p.b.aD p.b.sd p.b.tx 10),(10,AT p.b.rD p.b.rT p.b.bx)]++[(11,.sl 48 Bp p.fl)]),.v (.bool true),([(0,qE 13 16 ((p.dlvA e2 n).na) ((p.dlvA e2 n).ia) (ints (p.dlvA e2 n).ja) ((p.dlvA e2 n).nb) ((p.dlvA e2 n).ib) (ints (p.dlvA e2 n).jb) 19),(13,Abh ((p.dlvA e2 n).ida) true hy 14 15 (rP hy 20) ((p.dlvA e2 n).a.lT) ((p.dlvA e2 n).a.mx) ((p.dlvA e2 n).a.lD) ((p.dlvA e2 n).a.tD) ((p.dlvA e2 n).a.kl)),(14,Ag ((p.dlvA e2 n).a.ok) ((p.dlvA e2 n).a.oi)),(15,Ag ((p.dlvA e2 n).a.ik) ((p.dlvA e2 n).a.ii)),(16,Abh ((p.dlvA e2 n).idb) false hy 17 18 (rP hy 22) ((p.dlvA e2 n).b.lT) ((p.dlvA e2 n).b.mx) ((p.dlvA e2 n).b.lD) ((p.dlvA e2 n).b.tD) ((p.dlvA e2 n).b.kl)),(17,Ag ((p.dlvA e2 n).b.ok) ((p.dlvA e2 n).b.oi)),(18,Ag ((p.dlvA e2 n).b.ik) ((p.dlvA e2 n).b.ii)),(19,.sl 48 Bp ((p.dlvA e2 n).fl))]++rH hy [(20,AL ((p.dlvA e2 n).a.st) ((p.dlvA e2 n).a.ep) ((p.dlvA e2 n).a.aD) ((p.dlvA e2 n).a.sd) ((p.dlvA e2 n).a.tx) 21),(21,AT ((p.dlvA e2 n).a.rD) ((p.dlvA e2 n).a.rT) ((p.dlvA e2 n).a.bx)),(22,AL ((p.dlvA e2 n).b.st) ((p.dlvA e2 n).b.ep) ((p.dlvA e2 n).b.aD) ((p.dlvA e2 n).b.sd) ((p.dlvA e2 n).b.tx) 23),(23,AT ((p.dlvA e2 n).b.rD) ((p.dlvA e2 n).b.rT) ((p.dlvA e2 n).b.bx))])⟩:=by
 cases hy
 all_goals
  refine cy 12 func16 rfl ntmps16 λY V=> ?_
  have Cl:rQ.length<=9223372036854775807:=V.len 2 rfl
  have DC:p.fl.length<=9223372036854775807:=V.lens 11 rfl
  have hs1:EN p.ia p.ja n=true:=hs
  refine Aj [] 12 V λV=>Ay [(5,AH k p.fl.length)] [7] 13 V λV=>Ar ?_
  have V:=V.ch 12 (.ob 48 (Jg [vi 0,vi (n:Int),lb tT,lb fr])) (YY (p.fl.getD k Bu).1 (p.fl.getD k Bu).2.1 (p.fl.getD k Bu).2.2.1 (p.fl.getD k Bu).2.2.2) (by rw[hrow]<;>rfl)
  refine Dl [] 13 V λV=>Ae (Ay [(5,AH 0 2),(9,AS (J3 p.na p.ia p.ja n A_ Ac Ac hs1))] [9] 14 V λV=>Ar (Aw [(4,AH 1 2),(9,J8 (Zx ih p.idb false p.b fr rQ e2 tT n hE hG hf hr) [(0,6),(1,7),(2,8),(3,9),(4,10)] [(9,14),(10,15),(11,16),(17,17)])] [] (bif ih.b then 18 else 16) V λV=> ?_))
  have V:=V.up 18
  refine CQ (Aj [] 18 V λV=>Ai V (DG (Aj [] 18 V λV=>AG V (Ay [(6,AH 0 2)] [] 18 V λV=>Ar ?_))))
  have hq2:EP tT=EP tT:=rfl
  have hq3:(n:Int)=(n:Int):=rfl
  refine Aw [(5,Vj false [(!((EP tT).toList==(EP tT).toList))=false] ⟨by rw[beq_self_eq_true _];rfl,aa⟩),(10,Ha hq3)] [] 18 V λV=>Ae (Ai V (Cb (Ay [(2,J8 (OV ih p.a e2 p.ida p.idb p.na (nI p.ia n) (nJ p.ia p.ja n) p.nb p.ib p.jb p.fl hK2 hI hJ) [(0,0),(1,1),(2,2),(3,3),(4,4),(5,5),(6,6),(7,14),(8,15),(9,16),(10,17),(11,11)] [])] [] 18 V λV=>AY ?_)))
  obtain⟨gs,V⟩:=V.rn2 [(0,0),(1,1),(2,2),(3,3),(4,4),(5,5),(6,6),(7,7),(8,8),(9,9),(10,10),(11,11),(13,1),(14,2),(15,3),(16,6),(17,14),(18,15),(19,11),(20,4),(21,5),(22,16),(23,17)] [(6,.v (.bool true))] ([(0,qE 13 16 p.na (nI p.ia n) (ints (nJ p.ia p.ja n)) p.nb p.ib (ints p.jb) 19),(13,Abh p.ida true ih.b 14 15 (rP ih.b 20) p.a.lT p.a.mx p.a.lD p.a.tD p.a.kl),(14,Ag p.a.ok p.a.oi),(15,Ag p.a.ik p.a.ii),(16,Abh p.idb false ih.b 17 18 (rP ih.b 22) e2.lT e2.mx e2.lD e2.tD e2.kl),(17,Ag e2.ok e2.oi),(18,Ag e2.ik e2.ii),(19,.sl 48 Bp p.fl)]++rH ih.b [(20,AL p.a.st p.a.ep p.a.aD p.a.sd p.a.tx 21),(21,AT p.a.rD p.a.rT p.a.bx),(22,AL e2.st e2.ep e2.aD e2.sd e2.tx 23),(23,AT e2.rD e2.rT e2.bx)]) 24 Y
  exact BW V
theorem nO {hy:Bool} (ih:IsB hy) (p:PS) (k:Nat) (rQ:Ad) (n:Nat) (tT fr:Ad) (hE:EOk false p.b) (hf:fr.length<=50000) (hr:rQ.length=128) (hrow:p.fl.getD k Bu=((0:Int),(n:Int),tT,fr)) (hk:k<p.fl.length/\k<1000000) (hR:RI p.ia p.ja) (hn:n<=1000000/\p.ia<=1000000) (hG:Tz p.idb false p.b fr (LF p.ia n)) (hs:EN p.ia p.ja n=false) (hI:p.b.ii=p.ia) (hJ:O5 p.b.kl=ints p.ja):AP 16 ⟨[.cp 0 0,vi (k:Int),lb rQ],([(0,qE 1 6 p.na p.ia (ints p.ja) p.nb p.ib (ints p.jb) 11),(1,Abh p.ida true hy 2 3 (rP hy 4) p.a.lT p.a.mx p.a.lD p.a.tD p.a.kl),(2,Ag p.a.ok p.a.oi),(3,Ag p.a.ik p.a.ii)]++rH hy [(4,AL p.a.st p.a.ep p.a.aD p.a.sd p.a.tx 5),(5,AT p.a.rD p.a.rT p.a.bx)]++[(6,Abh p.idb false hy 7 8 (rP hy 9) p.b.lT p.b.mx p.b.lD p.b.tD p.b.kl),(7,Ag p.b.ok p.b.oi),(8,Ag p.b.ik p.b.ii)]++rH hy [(9,AL p.b.st p.b.ep p.b.aD p.b.sd p.b.tx 10),(10,AT p.b.rD p.b.rT p.b.bx)]++[(11,.sl 48 Bp p.fl)]),.v (.bool true),([(0,qE 13 16 p.na p.ia (ints p.ja) p.nb p.ib (ints p.jb) 19),(13,Abh p.ida true hy 14 15 (rP hy 20) p.a.lT p.a.mx p.a.lD p.a.tD p.a.kl),(14,Ag p.a.ok p.a.oi),(15,Ag p.a.ik p.a.ii),(16,Abh p.idb false hy 17 18 (rP hy 22) p.b.lT p.b.mx p.b.lD p.b.tD p.b.kl),(17,Ag p.b.ok p.b.oi),(18,Ag p.b.ik p.b.ii),(19,.sl 48 Bp p.fl)]++rH hy [(20,AL p.a.st p.a.ep p.a.aD p.a.sd p.a.tx 21),(21,AT p.a.rD p.a.rT p.a.bx),(22,AL p.b.st p.b.ep p.b.aD p.b.sd p.b.tx 23),(23,AT p.b.rD p.b.rT p.b.bx)])⟩:=by
 cases hy
 all_goals
  refine cy 12 func16 rfl ntmps16 λY V=> ?_
  have Cl:rQ.length<=9223372036854775807:=V.len 2 rfl
  have DC:p.fl.length<=9223372036854775807:=V.lens 11 rfl
  have hs1:¬EN p.ia p.ja n=true:=(by rw[hs];decide)
  refine Aj [] 12 V λV=>Ay [(5,AH k p.fl.length)] [7] 13 V λV=>Ar ?_
  have V:=V.ch 12 (.ob 48 (Jg [vi 0,vi (n:Int),lb tT,lb fr])) (YY (p.fl.getD k Bu).1 (p.fl.getD k Bu).2.1 (p.fl.getD k Bu).2.2.1 (p.fl.getD k Bu).2.2.2) (by rw[hrow]<;>rfl)
  refine Dl [] 13 V λV=>Ae (Ay [(5,AH 0 2),(9,AS (MF p.na p.ia p.ja n A_ Ac Ac (Cj hs1)))] [9] 14 V λV=>Ay [(4,AH 1 2),(9,J8 (UY ih p.idb false p.b fr rQ (LF p.ia n) hE hG hf hr) [(0,6),(1,7),(2,8),(3,9),(4,10)] [])] [] 14 V λV=>Ii ?_)
  have hq4:((LF p.ia n:Nat):Int)=((LF p.ia n:Nat):Int):=rfl
  refine Aw [(2,Ha hq4)] [] 14 V λV=>Ae (Ai V (DG (Ar ?_)))
  have hq5:¬((LF p.ia n:Nat):Int)=0:=(by unfold LF;split<;>decide)
  refine Aw [(1,Do hq5)] [] 14 V λV=>Ae (Ai V (Aj [] 14 V λV=>Ai V (Cb (Ay [(2,J8 (OV ih p.a p.b p.ida p.idb p.na p.ia p.ja p.nb p.ib p.jb p.fl hE.K hI hJ) [(0,0),(1,1),(2,2),(3,3),(4,4),(5,5),(6,6),(7,7),(8,8),(9,9),(10,10),(11,11)] [])] [] 14 V λV=>AY ?_))))
  obtain⟨gs,V⟩:=V.rn2 [(0,0),(1,1),(2,2),(3,3),(4,4),(5,5),(6,6),(7,7),(8,8),(9,9),(10,10),(11,11),(13,1),(14,2),(15,3),(16,6),(17,7),(18,8),(19,11),(20,4),(21,5),(22,9),(23,10)] [(6,.v (.bool true))] ([(0,qE 13 16 p.na p.ia (ints p.ja) p.nb p.ib (ints p.jb) 19),(13,Abh p.ida true ih.b 14 15 (rP ih.b 20) p.a.lT p.a.mx p.a.lD p.a.tD p.a.kl),(14,Ag p.a.ok p.a.oi),(15,Ag p.a.ik p.a.ii),(16,Abh p.idb false ih.b 17 18 (rP ih.b 22) p.b.lT p.b.mx p.b.lD p.b.tD p.b.kl),(17,Ag p.b.ok p.b.oi),(18,Ag p.b.ik p.b.ii),(19,.sl 48 Bp p.fl)]++rH ih.b [(20,AL p.a.st p.a.ep p.a.aD p.a.sd p.a.tx 21),(21,AT p.a.rD p.a.rT p.a.bx),(22,AL p.b.st p.b.ep p.b.aD p.b.sd p.b.tx 23),(23,AT p.b.rD p.b.rT p.b.bx)]) 24 Y
  exact BW V
theorem r8 {hy:Bool} (ih:IsB hy) (p:PS) (k:Nat) (rQ:Ad) (n:Nat) (tT fr:Ad) (e2:EndH) (hE:EOk true p.a) (hf:fr.length<=50000) (hr:rQ.length=128) (hrow:p.fl.getD k Bu=((1:Int),(n:Int),tT,fr)) (hk:k<p.fl.length/\k<1000000) (hR:RI p.ib p.jb) (hn:n<=1000000/\p.ib<=1000000) (hG:bB hy p.ida true p.a fr rQ e2 tT n) (hs:EN p.ib p.jb n=true) (hI:e2.ii=nI p.ib n) (hJ:O5 e2.kl=ints (nJ p.ib p.jb n)) (hK2:KOk e2.kl):AP 16 ⟨[.cp 0 0,vi (k:Int),lb rQ],([(0,qE 1 6 p.na p.ia (ints p.ja) p.nb p.ib (ints p.jb) 11),(1,Abh p.ida true hy 2 3 (rP hy 4) p.a.lT p.a.mx p.a.lD p.a.tD p.a.kl),(2,Ag p.a.ok p.a.oi),(3,Ag p.a.ik p.a.ii)]++rH hy [(4,AL p.a.st p.a.ep p.a.aD p.a.sd p.a.tx 5),(5,AT p.a.rD p.a.rT p.a.bx)]++[(6,Abh p.idb false hy 7 8 (rP hy 9) p.b.lT p.b.mx p.b.lD p.b.tD p.b.kl),(7,Ag p.b.ok p.b.oi),(8,Ag p.b.ik p.b.ii)]++rH hy [(9,AL p.b.st p.b.ep p.b.aD p.b.sd p.b.tx 10),(10,AT p.b.rD p.b.rT p.b.bx)]++[(11,.sl 48 Bp p.fl)]),.v (.bool true),([(0,qE 13 16 ((p.dlvB e2 n).na) ((p.dlvB e2 n).ia) (ints (p.dlvB e2 n).ja) ((p.dlvB e2 n).nb) ((p.dlvB e2 n).ib) (ints (p.dlvB e2 n).jb) 19),(13,Abh ((p.dlvB e2 n).ida) true hy 14 15 (rP hy 20) ((p.dlvB e2 n).a.lT) ((p.dlvB e2 n).a.mx) ((p.dlvB e2 n).a.lD) ((p.dlvB e2 n).a.tD) ((p.dlvB e2 n).a.kl)),(14,Ag ((p.dlvB e2 n).a.ok) ((p.dlvB e2 n).a.oi)),(15,Ag ((p.dlvB e2 n).a.ik) ((p.dlvB e2 n).a.ii)),(16,Abh ((p.dlvB e2 n).idb) false hy 17 18 (rP hy 22) ((p.dlvB e2 n).b.lT) ((p.dlvB e2 n).b.mx) ((p.dlvB e2 n).b.lD) ((p.dlvB e2 n).b.tD) ((p.dlvB e2 n).b.kl)),(17,Ag ((p.dlvB e2 n).b.ok) ((p.dlvB e2 n).b.oi)),(18,Ag ((p.dlvB e2 n).b.ik) ((p.dlvB e2 n).b.ii)),(19,.sl 48 Bp ((p.dlvB e2 n).fl))]++rH hy [(20,AL ((p.dlvB e2 n).a.st) ((p.dlvB e2 n).a.ep) ((p.dlvB e2 n).a.aD) ((p.dlvB e2 n).a.sd) ((p.dlvB e2 n).a.tx) 21),(21,AT ((p.dlvB e2 n).a.rD) ((p.dlvB e2 n).a.rT) ((p.dlvB e2 n).a.bx)),(22,AL ((p.dlvB e2 n).b.st) ((p.dlvB e2 n).b.ep) ((p.dlvB e2 n).b.aD) ((p.dlvB e2 n).b.sd) ((p.dlvB e2 n).b.tx) 23),(23,AT ((p.dlvB e2 n).b.rD) ((p.dlvB e2 n).b.rT) ((p.dlvB e2 n).b.bx))])⟩:=by
 cases hy
 all_goals
  refine cy 12 func16 rfl ntmps16 λY V=> ?_
  have Cl:rQ.length<=9223372036854775807:=V.len 2 rfl
  have DC:p.fl.length<=9223372036854775807:=V.lens 11 rfl
  have hs1:EN p.ib p.jb n=true:=hs
  refine Aj [] 12 V λV=>Ay [(5,AH k p.fl.length)] [7] 13 V λV=>Ar ?_
  have V:=V.ch 12 (.ob 48 (Jg [vi 1,vi (n:Int),lb tT,lb fr])) (YY (p.fl.getD k Bu).1 (p.fl.getD k Bu).2.1 (p.fl.getD k Bu).2.2.1 (p.fl.getD k Bu).2.2.2) (by rw[hrow]<;>rfl)
  refine Dl [] 13 V λV=>Ae (Ay [(5,AH 1 2),(9,AS (J3 p.nb p.ib p.jb n A_ Ac Ac hs1))] [9] 14 V λV=>Ar (Aw [(4,AH 0 2),(9,J8 (Zx ih p.ida true p.a fr rQ e2 tT n hE hG hf hr) [(0,1),(1,2),(2,3),(3,4),(4,5)] [(9,14),(10,15),(11,16),(17,17)])] [] (bif ih.b then 18 else 16) V λV=> ?_))
  have V:=V.up 18
  refine CQ (Aj [] 18 V λV=>Ai V (DG (Aj [] 18 V λV=>AG V (Ay [(6,AH 1 2)] [] 18 V λV=>Ar ?_))))
  have hq2:EP tT=EP tT:=rfl
  have hq3:(n:Int)=(n:Int):=rfl
  refine Aw [(5,Vj false [(!((EP tT).toList==(EP tT).toList))=false] ⟨by rw[beq_self_eq_true _];rfl,aa⟩),(10,Ha hq3)] [] 18 V λV=>Ae (Ai V (Cb (Ay [(2,J8 (Sv ih e2 p.b p.ida p.idb p.na p.ia p.ja p.nb (nI p.ib n) (nJ p.ib p.jb n) p.fl hK2 hI hJ) [(0,0),(1,1),(2,14),(3,15),(4,16),(5,17),(6,6),(7,7),(8,8),(9,9),(10,10),(11,11)] [])] [] 18 V λV=>AY ?_)))
  obtain⟨gs,V⟩:=V.rn2 [(0,0),(1,1),(2,2),(3,3),(4,4),(5,5),(6,6),(7,7),(8,8),(9,9),(10,10),(11,11),(13,1),(14,14),(15,15),(16,6),(17,7),(18,8),(19,11),(20,16),(21,17),(22,9),(23,10)] [(6,.v (.bool true))] ([(0,qE 13 16 p.na p.ia (ints p.ja) p.nb (nI p.ib n) (ints (nJ p.ib p.jb n)) 19),(13,Abh p.ida true ih.b 14 15 (rP ih.b 20) e2.lT e2.mx e2.lD e2.tD e2.kl),(14,Ag e2.ok e2.oi),(15,Ag e2.ik e2.ii),(16,Abh p.idb false ih.b 17 18 (rP ih.b 22) p.b.lT p.b.mx p.b.lD p.b.tD p.b.kl),(17,Ag p.b.ok p.b.oi),(18,Ag p.b.ik p.b.ii),(19,.sl 48 Bp p.fl)]++rH ih.b [(20,AL e2.st e2.ep e2.aD e2.sd e2.tx 21),(21,AT e2.rD e2.rT e2.bx),(22,AL p.b.st p.b.ep p.b.aD p.b.sd p.b.tx 23),(23,AT p.b.rD p.b.rT p.b.bx)]) 24 Y
  exact BW V
theorem nN {hy:Bool} (ih:IsB hy) (p:PS) (k:Nat) (rQ:Ad) (n:Nat) (tT fr:Ad) (hE:EOk true p.a) (hf:fr.length<=50000) (hr:rQ.length=128) (hrow:p.fl.getD k Bu=((1:Int),(n:Int),tT,fr)) (hk:k<p.fl.length/\k<1000000) (hR:RI p.ib p.jb) (hn:n<=1000000/\p.ib<=1000000) (hG:Tz p.ida true p.a fr (LF p.ib n)) (hs:EN p.ib p.jb n=false) (hI:p.a.ii=p.ib) (hJ:O5 p.a.kl=ints p.jb):AP 16 ⟨[.cp 0 0,vi (k:Int),lb rQ],([(0,qE 1 6 p.na p.ia (ints p.ja) p.nb p.ib (ints p.jb) 11),(1,Abh p.ida true hy 2 3 (rP hy 4) p.a.lT p.a.mx p.a.lD p.a.tD p.a.kl),(2,Ag p.a.ok p.a.oi),(3,Ag p.a.ik p.a.ii)]++rH hy [(4,AL p.a.st p.a.ep p.a.aD p.a.sd p.a.tx 5),(5,AT p.a.rD p.a.rT p.a.bx)]++[(6,Abh p.idb false hy 7 8 (rP hy 9) p.b.lT p.b.mx p.b.lD p.b.tD p.b.kl),(7,Ag p.b.ok p.b.oi),(8,Ag p.b.ik p.b.ii)]++rH hy [(9,AL p.b.st p.b.ep p.b.aD p.b.sd p.b.tx 10),(10,AT p.b.rD p.b.rT p.b.bx)]++[(11,.sl 48 Bp p.fl)]),.v (.bool true),([(0,qE 13 16 p.na p.ia (ints p.ja) p.nb p.ib (ints p.jb) 19),(13,Abh p.ida true hy 14 15 (rP hy 20) p.a.lT p.a.mx p.a.lD p.a.tD p.a.kl),(14,Ag p.a.ok p.a.oi),(15,Ag p.a.ik p.a.ii),(16,Abh p.idb false hy 17 18 (rP hy 22) p.b.lT p.b.mx p.b.lD p.b.tD p.b.kl),(17,Ag p.b.ok p.b.oi),(18,Ag p.b.ik p.b.ii),(19,.sl 48 Bp p.fl)]++rH hy [(20,AL p.a.st p.a.ep p.a.aD p.a.sd p.a.tx 21),(21,AT p.a.rD p.a.rT p.a.bx),(22,AL p.b.st p.b.ep p.b.aD p.b.sd p.b.tx 23),(23,AT p.b.rD p.b.rT p.b.bx)])⟩:=by
 cases hy
 all_goals
  refine cy 12 func16 rfl ntmps16 λY V=> ?_
  have Cl:rQ.length<=9223372036854775807:=V.len 2 rfl
  have DC:p.fl.length<=9223372036854775807:=V.lens 11 rfl
  have hs1:¬EN p.ib p.jb n=true:=(by rw[hs];decide)
  refine Aj [] 12 V λV=>Ay [(5,AH k p.fl.length)] [7] 13 V λV=>Ar ?_
  have V:=V.ch 12 (.ob 48 (Jg [vi 1,vi (n:Int),lb tT,lb fr])) (YY (p.fl.getD k Bu).1 (p.fl.getD k Bu).2.1 (p.fl.getD k Bu).2.2.1 (p.fl.getD k Bu).2.2.2) (by rw[hrow]<;>rfl)
  refine Dl [] 13 V λV=>Ae (Ay [(5,AH 1 2),(9,AS (MF p.nb p.ib p.jb n A_ Ac Ac (Cj hs1)))] [9] 14 V λV=>Ay [(4,AH 0 2),(9,J8 (UY ih p.ida true p.a fr rQ (LF p.ib n) hE hG hf hr) [(0,1),(1,2),(2,3),(3,4),(4,5)] [])] [] 14 V λV=>Ii ?_)
  have hq4:((LF p.ib n:Nat):Int)=((LF p.ib n:Nat):Int):=rfl
  refine Aw [(2,Ha hq4)] [] 14 V λV=>Ae (Ai V (DG (Ar ?_)))
  have hq5:¬((LF p.ib n:Nat):Int)=0:=(by unfold LF;split<;>decide)
  refine Aw [(1,Do hq5)] [] 14 V λV=>Ae (Ai V (Aj [] 14 V λV=>Ai V (Cb (Ay [(2,J8 (Sv ih p.a p.b p.ida p.idb p.na p.ia p.ja p.nb p.ib p.jb p.fl hE.K hI hJ) [(0,0),(1,1),(2,2),(3,3),(4,4),(5,5),(6,6),(7,7),(8,8),(9,9),(10,10),(11,11)] [])] [] 14 V λV=>AY ?_))))
  obtain⟨gs,V⟩:=V.rn2 [(0,0),(1,1),(2,2),(3,3),(4,4),(5,5),(6,6),(7,7),(8,8),(9,9),(10,10),(11,11),(13,1),(14,2),(15,3),(16,6),(17,7),(18,8),(19,11),(20,4),(21,5),(22,9),(23,10)] [(6,.v (.bool true))] ([(0,qE 13 16 p.na p.ia (ints p.ja) p.nb p.ib (ints p.jb) 19),(13,Abh p.ida true ih.b 14 15 (rP ih.b 20) p.a.lT p.a.mx p.a.lD p.a.tD p.a.kl),(14,Ag p.a.ok p.a.oi),(15,Ag p.a.ik p.a.ii),(16,Abh p.idb false ih.b 17 18 (rP ih.b 22) p.b.lT p.b.mx p.b.lD p.b.tD p.b.kl),(17,Ag p.b.ok p.b.oi),(18,Ag p.b.ik p.b.ii),(19,.sl 48 Bp p.fl)]++rH ih.b [(20,AL p.a.st p.a.ep p.a.aD p.a.sd p.a.tx 21),(21,AT p.a.rD p.a.rT p.a.bx),(22,AL p.b.st p.b.ep p.b.aD p.b.sd p.b.tx 23),(23,AT p.b.rD p.b.rT p.b.bx)]) 24 Y
  exact BW V
section
variable (hy:Bool) (p q:PS)
def nR (w:Nat) (tT rQ:Ad):Con:=⟨[.cp 0 0,vi (w:Int),lb tT,lb rQ],([(0,qE 1 6 p.na p.ia (ints p.ja) p.nb p.ib (ints p.jb) 11),(1,Abh p.ida true hy 2 3 (rP hy 4) p.a.lT p.a.mx p.a.lD p.a.tD p.a.kl),(2,Ag p.a.ok p.a.oi),(3,Ag p.a.ik p.a.ii)]++rH hy [(4,AL p.a.st p.a.ep p.a.aD p.a.sd p.a.tx 5),(5,AT p.a.rD p.a.rT p.a.bx)]++[(6,Abh p.idb false hy 7 8 (rP hy 9) p.b.lT p.b.mx p.b.lD p.b.tD p.b.kl),(7,Ag p.b.ok p.b.oi),(8,Ag p.b.ik p.b.ii)]++rH hy [(9,AL p.b.st p.b.ep p.b.aD p.b.sd p.b.tx 10),(10,AT p.b.rD p.b.rT p.b.bx)]++[(11,.sl 48 Bp p.fl)]),.v (.bool true),([(0,qE 13 16 q.na q.ia (ints q.ja) q.nb q.ib (ints q.jb) 19),(13,Abh q.ida true hy 14 15 (rP hy 20) q.a.lT q.a.mx q.a.lD q.a.tD q.a.kl),(14,Ag q.a.ok q.a.oi),(15,Ag q.a.ik q.a.ii),(16,Abh q.idb false hy 17 18 (rP hy 22) q.b.lT q.b.mx q.b.lD q.b.tD q.b.kl),(17,Ag q.b.ok q.b.oi),(18,Ag q.b.ik q.b.ii),(19,.sl 48 Bp q.fl)]++rH hy [(20,AL q.a.st q.a.ep q.a.aD q.a.sd q.a.tx 21),(21,AT q.a.rD q.a.rT q.a.bx),(22,AL q.b.st q.b.ep q.b.aD q.b.sd q.b.tx 23),(23,AT q.b.rD q.b.rT q.b.bx)])⟩
def Aao (k:Nat) (rQ:Ad):Con:=⟨[.cp 0 0,vi (k:Int),lb rQ],([(0,qE 1 6 p.na p.ia (ints p.ja) p.nb p.ib (ints p.jb) 11),(1,Abh p.ida true hy 2 3 (rP hy 4) p.a.lT p.a.mx p.a.lD p.a.tD p.a.kl),(2,Ag p.a.ok p.a.oi),(3,Ag p.a.ik p.a.ii)]++rH hy [(4,AL p.a.st p.a.ep p.a.aD p.a.sd p.a.tx 5),(5,AT p.a.rD p.a.rT p.a.bx)]++[(6,Abh p.idb false hy 7 8 (rP hy 9) p.b.lT p.b.mx p.b.lD p.b.tD p.b.kl),(7,Ag p.b.ok p.b.oi),(8,Ag p.b.ik p.b.ii)]++rH hy [(9,AL p.b.st p.b.ep p.b.aD p.b.sd p.b.tx 10),(10,AT p.b.rD p.b.rT p.b.bx)]++[(11,.sl 48 Bp p.fl)]),.v (.bool true),([(0,qE 13 16 q.na q.ia (ints q.ja) q.nb q.ib (ints q.jb) 19),(13,Abh q.ida true hy 14 15 (rP hy 20) q.a.lT q.a.mx q.a.lD q.a.tD q.a.kl),(14,Ag q.a.ok q.a.oi),(15,Ag q.a.ik q.a.ii),(16,Abh q.idb false hy 17 18 (rP hy 22) q.b.lT q.b.mx q.b.lD q.b.tD q.b.kl),(17,Ag q.b.ok q.b.oi),(18,Ag q.b.ik q.b.ii),(19,.sl 48 Bp q.fl)]++rH hy [(20,AL q.a.st q.a.ep q.a.aD q.a.sd q.a.tx 21),(21,AT q.a.rD q.a.rT q.a.bx),(22,AL q.b.st q.b.ep q.b.aD q.b.sd q.b.tx 23),(23,AT q.b.rD q.b.rT q.b.bx)])⟩
end
theorem oT {hy:Bool} (ih:IsB hy) (p q:PS) (who:Int) (n dr:Int) (raw:Ad) (hc:AP 14 (nR hy p q (AK who 2) (Ak (AK n 520) dr) (Al dr))) (hA:SndOk true q.a) (hB:SndOk false q.b):AP 26 ⟨[.cp 0 0,.ag (Jg [vi 1,vi who,vi n,vi dr,lb raw])],([(0,qE 1 6 p.na p.ia (ints p.ja) p.nb p.ib (ints p.jb) 11),(1,Abh p.ida true hy 2 3 (rP hy 4) p.a.lT p.a.mx p.a.lD p.a.tD p.a.kl),(2,Ag p.a.ok p.a.oi),(3,Ag p.a.ik p.a.ii)]++rH hy [(4,AL p.a.st p.a.ep p.a.aD p.a.sd p.a.tx 5),(5,AT p.a.rD p.a.rT p.a.bx)]++[(6,Abh p.idb false hy 7 8 (rP hy 9) p.b.lT p.b.mx p.b.lD p.b.tD p.b.kl),(7,Ag p.b.ok p.b.oi),(8,Ag p.b.ik p.b.ii)]++rH hy [(9,AL p.b.st p.b.ep p.b.aD p.b.sd p.b.tx 10),(10,AT p.b.rD p.b.rT p.b.bx)]++[(11,.sl 48 Bp p.fl)]),.tu (Jg [.v (.bool true),.v (.bool (!SE q.ida q.idb q.a q.b))]),([(0,qE 13 16 q.na q.ia (ints q.ja) q.nb q.ib (ints q.jb) 19),(13,Abh q.ida true hy 14 15 (rP hy 20) q.a.lT q.a.mx q.a.lD q.a.tD q.a.kl),(14,Ag q.a.ok q.a.oi),(15,Ag q.a.ik q.a.ii),(16,Abh q.idb false hy 17 18 (rP hy 22) q.b.lT q.b.mx q.b.lD q.b.tD q.b.kl),(17,Ag q.b.ok q.b.oi),(18,Ag q.b.ik q.b.ii),(19,.sl 48 Bp q.fl)]++rH hy [(20,AL q.a.st q.a.ep q.a.aD q.a.sd q.a.tx 21),(21,AT q.a.rD q.a.rT q.a.bx),(22,AL q.b.st q.b.ep q.b.aD q.b.sd q.b.tx 23),(23,AT q.b.rD q.b.rT q.b.bx)])⟩:=by
 cases hy
 all_goals
  refine cy 12 func26 rfl ntmps26 λY V=>Aj [] 13 V λV=>Ay [(2,AS (A1 who 2 Ac))] [] 13 V λV=>Ar (Aj [] 13 V λV=>BC (Aj [] 13 V λV=>AG V (Ar ?_)))
  have hrl:=D1 n (n:=520) (by decide)
  refine Aw [(4,AS (A1 n 520 Ac)),(7,AS (IB (AK n 520) dr Ac)),(10,AS (DF dr)),(11,J8 (((λ(_ _:PS) (_:Nat) (_ _:Ad)=>hc)) p q (AK who 2) (Ak (AK n 520) dr) (Al dr)) [(0,0),(1,1),(2,2),(3,3),(4,4),(5,5),(6,6),(7,7),(8,8),(9,9),(10,10),(11,11)] [(13,13),(14,14),(15,15),(16,16),(17,17),(18,18),(19,19),(20,20),(21,21),(22,22),(23,23)])] [] (bif ih.b then 24 else 20) V λV=> ?_
  have V:=V.up 24
  exact Ae (Ai V (FN (Ay [(3,AH 0 2),(8,AH 1 2),(10,J8 (IU ih q.ida q.idb q.a q.b hA hB) [(0,13),(1,14),(2,15),(3,20),(4,21),(5,16),(6,17),(7,18),(8,22),(9,23)] [])] [] 24 V λV=>AY (BW V))))
theorem Tv {hy:Bool} (ih:IsB hy) (p q:PS) (who:Int) (n dr:Int) (raw:Ad) (hf:0<p.fl.length/\p.fl.length<=1000000) (hc:AP 16 (Aao hy p q (AK n p.fl.length) (Al dr))) (hA:SndOk true q.a) (hB:SndOk false q.b):AP 26 ⟨[.cp 0 0,.ag (Jg [vi 2,vi who,vi n,vi dr,lb raw])],([(0,qE 1 6 p.na p.ia (ints p.ja) p.nb p.ib (ints p.jb) 11),(1,Abh p.ida true hy 2 3 (rP hy 4) p.a.lT p.a.mx p.a.lD p.a.tD p.a.kl),(2,Ag p.a.ok p.a.oi),(3,Ag p.a.ik p.a.ii)]++rH hy [(4,AL p.a.st p.a.ep p.a.aD p.a.sd p.a.tx 5),(5,AT p.a.rD p.a.rT p.a.bx)]++[(6,Abh p.idb false hy 7 8 (rP hy 9) p.b.lT p.b.mx p.b.lD p.b.tD p.b.kl),(7,Ag p.b.ok p.b.oi),(8,Ag p.b.ik p.b.ii)]++rH hy [(9,AL p.b.st p.b.ep p.b.aD p.b.sd p.b.tx 10),(10,AT p.b.rD p.b.rT p.b.bx)]++[(11,.sl 48 Bp p.fl)]),.tu (Jg [.v (.bool true),.v (.bool (!SE q.ida q.idb q.a q.b))]),([(0,qE 13 16 q.na q.ia (ints q.ja) q.nb q.ib (ints q.jb) 19),(13,Abh q.ida true hy 14 15 (rP hy 20) q.a.lT q.a.mx q.a.lD q.a.tD q.a.kl),(14,Ag q.a.ok q.a.oi),(15,Ag q.a.ik q.a.ii),(16,Abh q.idb false hy 17 18 (rP hy 22) q.b.lT q.b.mx q.b.lD q.b.tD q.b.kl),(17,Ag q.b.ok q.b.oi),(18,Ag q.b.ik q.b.ii),(19,.sl 48 Bp q.fl)]++rH hy [(20,AL q.a.st q.a.ep q.a.aD q.a.sd q.a.tx 21),(21,AT q.a.rD q.a.rT q.a.bx),(22,AL q.b.st q.b.ep q.b.aD q.b.sd q.b.tx 23),(23,AT q.b.rD q.b.rT q.b.bx)])⟩:=by
 cases hy
 all_goals
  refine cy 12 func26 rfl ntmps26 λY V=> ?_
  have hf0:(0:Int)<((p.fl.length:Nat):Int):=Ac
  refine Aj [] 13 V λV=>Ay [(2,AS (A1 who 2 Ac))] [] 13 V λV=>Ar (Aj [] 13 V λV=>BC (Aj [] 13 V λV=>Ai V (Aj [] 13 V λV=>AG V (Ar (Aw [(5,Gv hf0),(15,AS (A1 n p.fl.length Ac)),(18,AS (DF dr)),(19,J8 (((λ(_ _:PS) (_:Nat) (_:Ad)=>hc)) p q (AK n p.fl.length) (Al dr)) [(0,0),(1,1),(2,2),(3,3),(4,4),(5,5),(6,6),(7,7),(8,8),(9,9),(10,10),(11,11)] [(13,13),(14,14),(15,15),(16,16),(17,17),(18,18),(19,19),(20,20),(21,21),(22,22),(23,23)])] [] (bif ih.b then 24 else 20) V λV=> ?_)))))
  have V:=V.up 24
  exact Ae (Ai V (FN (Ay [(3,AH 0 2),(8,AH 1 2),(10,J8 (IU ih q.ida q.idb q.a q.b hA hB) [(0,13),(1,14),(2,15),(3,20),(4,21),(5,16),(6,17),(7,18),(8,22),(9,23)] [])] [] 24 V λV=>AY (BW V))))
theorem nU {hy:Bool} (ih:IsB hy) (p:PS) (who n dr:Int) (raw:Ad) (hA:SndOk true p.a) (hB:SndOk false p.b) (hf:p.fl.length=0):AP 26 ⟨[.cp 0 0,.ag (Jg [vi 2,vi who,vi n,vi dr,lb raw])],([(0,qE 1 6 p.na p.ia (ints p.ja) p.nb p.ib (ints p.jb) 11),(1,Abh p.ida true hy 2 3 (rP hy 4) p.a.lT p.a.mx p.a.lD p.a.tD p.a.kl),(2,Ag p.a.ok p.a.oi),(3,Ag p.a.ik p.a.ii)]++rH hy [(4,AL p.a.st p.a.ep p.a.aD p.a.sd p.a.tx 5),(5,AT p.a.rD p.a.rT p.a.bx)]++[(6,Abh p.idb false hy 7 8 (rP hy 9) p.b.lT p.b.mx p.b.lD p.b.tD p.b.kl),(7,Ag p.b.ok p.b.oi),(8,Ag p.b.ik p.b.ii)]++rH hy [(9,AL p.b.st p.b.ep p.b.aD p.b.sd p.b.tx 10),(10,AT p.b.rD p.b.rT p.b.bx)]++[(11,.sl 48 Bp p.fl)]),.tu (Jg [.v (.bool true),.v (.bool (!SE p.ida p.idb p.a p.b))]),([(0,qE 13 16 p.na p.ia (ints p.ja) p.nb p.ib (ints p.jb) 19),(13,Abh p.ida true hy 14 15 (rP hy 20) p.a.lT p.a.mx p.a.lD p.a.tD p.a.kl),(14,Ag p.a.ok p.a.oi),(15,Ag p.a.ik p.a.ii),(16,Abh p.idb false hy 17 18 (rP hy 22) p.b.lT p.b.mx p.b.lD p.b.tD p.b.kl),(17,Ag p.b.ok p.b.oi),(18,Ag p.b.ik p.b.ii),(19,.sl 48 Bp p.fl)]++rH hy [(20,AL p.a.st p.a.ep p.a.aD p.a.sd p.a.tx 21),(21,AT p.a.rD p.a.rT p.a.bx),(22,AL p.b.st p.b.ep p.b.aD p.b.sd p.b.tx 23),(23,AT p.b.rD p.b.rT p.b.bx)])⟩:=by
 cases hy
 all_goals
  refine cy 12 func26 rfl ntmps26 λY V=> ?_
  have hf0:¬(0:Int)<((p.fl.length:Nat):Int):=Ac
  refine Aj [] 13 V λV=>Ay [(2,AS (A1 who 2 Ac))] [] 13 V λV=>Ar (Aj [] 13 V λV=>BC (Aj [] 13 V λV=>Ai V (Aj [] 13 V λV=>AG V (Ay [(5,Do hf0)] [] 13 V λV=>Ai V (FN (Ay [(3,AH 0 2),(8,AH 1 2),(10,J8 (IU ih p.ida p.idb p.a p.b hA hB) [(0,1),(1,2),(2,3),(3,4),(4,5),(5,6),(6,7),(7,8),(8,9),(9,10)] [])] [] 13 V λV=>AY ?_))))))
  obtain⟨gs,V⟩:=V.rn2 [(0,0),(1,1),(2,2),(3,3),(4,4),(5,5),(6,6),(7,7),(8,8),(9,9),(10,10),(11,11),(13,1),(14,2),(15,3),(16,6),(17,7),(18,8),(19,11),(20,4),(21,5),(22,9),(23,10)] [(4,.v (.bool true)),(5,.v (.bool (!(SE p.ida p.idb p.a p.b))))] ([(0,qE 13 16 p.na p.ia (ints p.ja) p.nb p.ib (ints p.jb) 19),(13,Abh p.ida true ih.b 14 15 (rP ih.b 20) p.a.lT p.a.mx p.a.lD p.a.tD p.a.kl),(14,Ag p.a.ok p.a.oi),(15,Ag p.a.ik p.a.ii),(16,Abh p.idb false ih.b 17 18 (rP ih.b 22) p.b.lT p.b.mx p.b.lD p.b.tD p.b.kl),(17,Ag p.b.ok p.b.oi),(18,Ag p.b.ik p.b.ii),(19,.sl 48 Bp p.fl)]++rH ih.b [(20,AL p.a.st p.a.ep p.a.aD p.a.sd p.a.tx 21),(21,AT p.a.rD p.a.rT p.a.bx),(22,AL p.b.st p.b.ep p.b.aD p.b.sd p.b.tx 23),(23,AT p.b.rD p.b.rT p.b.bx)]) 24 Y
  exact BW V
theorem oW {hy:Bool} (ih:IsB hy) (p:PS) (who n dr:Int) (raw:Ad) (kd:Int) (hA:SndOk true p.a) (hB:SndOk false p.b) (hk:¬kd=1/\¬kd=2/\¬kd=3):AP 26 ⟨[.cp 0 0,.ag (Jg [vi kd,vi who,vi n,vi dr,lb raw])],([(0,qE 1 6 p.na p.ia (ints p.ja) p.nb p.ib (ints p.jb) 11),(1,Abh p.ida true hy 2 3 (rP hy 4) p.a.lT p.a.mx p.a.lD p.a.tD p.a.kl),(2,Ag p.a.ok p.a.oi),(3,Ag p.a.ik p.a.ii)]++rH hy [(4,AL p.a.st p.a.ep p.a.aD p.a.sd p.a.tx 5),(5,AT p.a.rD p.a.rT p.a.bx)]++[(6,Abh p.idb false hy 7 8 (rP hy 9) p.b.lT p.b.mx p.b.lD p.b.tD p.b.kl),(7,Ag p.b.ok p.b.oi),(8,Ag p.b.ik p.b.ii)]++rH hy [(9,AL p.b.st p.b.ep p.b.aD p.b.sd p.b.tx 10),(10,AT p.b.rD p.b.rT p.b.bx)]++[(11,.sl 48 Bp p.fl)]),.tu (Jg [.v (.bool true),.v (.bool (!SE p.ida p.idb p.a p.b))]),([(0,qE 13 16 p.na p.ia (ints p.ja) p.nb p.ib (ints p.jb) 19),(13,Abh p.ida true hy 14 15 (rP hy 20) p.a.lT p.a.mx p.a.lD p.a.tD p.a.kl),(14,Ag p.a.ok p.a.oi),(15,Ag p.a.ik p.a.ii),(16,Abh p.idb false hy 17 18 (rP hy 22) p.b.lT p.b.mx p.b.lD p.b.tD p.b.kl),(17,Ag p.b.ok p.b.oi),(18,Ag p.b.ik p.b.ii),(19,.sl 48 Bp p.fl)]++rH hy [(20,AL p.a.st p.a.ep p.a.aD p.a.sd p.a.tx 21),(21,AT p.a.rD p.a.rT p.a.bx),(22,AL p.b.st p.b.ep p.b.aD p.b.sd p.b.tx 23),(23,AT p.b.rD p.b.rT p.b.bx)])⟩:=by
 cases hy
 all_goals
  refine cy 12 func26 rfl ntmps26 λY V=> ?_
  have hf1:¬kd=1:=hk.1
  have hf2:¬kd=2:=hk.2.1
  have hf3:¬kd=3:=hk.2.2
  refine Aj [] 13 V λV=>Ay [(2,AS (A1 who 2 Ac))] [] 13 V λV=>Ar (Aj [] 13 V λV=>BC (Ay [(0,Do hf1)] [] 13 V λV=>Ai V (Ay [(0,Do hf2)] [] 13 V λV=>Ai V (Ay [(0,Do hf3)] [] 13 V λV=>Ai V (FN (Ay [(3,AH 0 2),(8,AH 1 2),(10,J8 (IU ih p.ida p.idb p.a p.b hA hB) [(0,1),(1,2),(2,3),(3,4),(4,5),(5,6),(6,7),(7,8),(8,9),(9,10)] [])] [] 13 V λV=>AY ?_))))))
  obtain⟨gs,V⟩:=V.rn2 [(0,0),(1,1),(2,2),(3,3),(4,4),(5,5),(6,6),(7,7),(8,8),(9,9),(10,10),(11,11),(13,1),(14,2),(15,3),(16,6),(17,7),(18,8),(19,11),(20,4),(21,5),(22,9),(23,10)] [(4,.v (.bool true)),(5,.v (.bool (!(SE p.ida p.idb p.a p.b))))] ([(0,qE 13 16 p.na p.ia (ints p.ja) p.nb p.ib (ints p.jb) 19),(13,Abh p.ida true ih.b 14 15 (rP ih.b 20) p.a.lT p.a.mx p.a.lD p.a.tD p.a.kl),(14,Ag p.a.ok p.a.oi),(15,Ag p.a.ik p.a.ii),(16,Abh p.idb false ih.b 17 18 (rP ih.b 22) p.b.lT p.b.mx p.b.lD p.b.tD p.b.kl),(17,Ag p.b.ok p.b.oi),(18,Ag p.b.ik p.b.ii),(19,.sl 48 Bp p.fl)]++rH ih.b [(20,AL p.a.st p.a.ep p.a.aD p.a.sd p.a.tx 21),(21,AT p.a.rD p.a.rT p.a.bx),(22,AL p.b.st p.b.ep p.b.aD p.b.sd p.b.tx 23),(23,AT p.b.rD p.b.rT p.b.bx)]) 24 Y
  exact BW V
def zI (hy:Bool) (id:Ad) (fi:Bool) (e:EndH):Ad:=bif hy then EK id fi e.ok e.oi e.ik e.ii e.lT e.mx e.lD e.tD e.kl e.st e.ep e.aD e.sd e.tx e.rD e.rT e.bx else FJ id fi e.ok e.oi e.ik e.ii e.lT e.mx e.lD e.tD e.kl
theorem LdE.lenq (hy:Bool) {fi:Bool} {id:Ad} {e:EndH} (h:LdE fi id e):(zI hy id fi e).length<=100000000000000:=by
 cases hy
 ·have h1:=h.n;have h2:=h.mx
  exact Sw fi h.id h.ok h.ik ⟨by omega,by omega,by omega,by omega,by omega⟩ Ac (dW h.m32) (h.kr.KOk Ac)
 ·exact h.len
theorem Ua {hy:Bool} (ih:IsB hy) (id:Ad) (fi:Bool) (e:EndH) (hld:LdE fi id e):AP 25 ⟨[.cp 0 0],([(0,Abh id fi hy 1 2 (rP hy 3) e.lT e.mx e.lD e.tD e.kl),(1,Ag e.ok e.oi),(2,Ag e.ik e.ii)]++rH hy [(3,AL e.st e.ep e.aD e.sd e.tx 4),(4,AT e.rD e.rT e.bx)]),lb (zI hy id fi e),([(0,Abh id fi hy 1 2 (rP hy 3) e.lT e.mx e.lD e.tD e.kl),(1,Ag e.ok e.oi),(2,Ag e.ik e.ii)]++rH hy [(3,AL e.st e.ep e.aD e.sd e.tx 4),(4,AT e.rD e.rT e.bx)])⟩:=by
 have h1:=hld.n;have h2:=hld.mx
 cases hy
 ·exact Qu id fi e.ok e.oi e.ik e.ii e.lT e.mx e.lD e.tD e.kl hld.ok hld.ik Ac Ac ⟨h2.1,by omega⟩ (dW hld.m32) Ac (hld.kr.KOk Ac) ⟨hld.lo.1,by omega⟩ Ac hld.id
 ·exact Oa id fi e.ok e.oi e.ik e.ii e.lT e.mx e.lD e.tD e.kl e.st e.ep e.aD e.sd e.tx e.rD e.rT e.bx hld.ok hld.ik Ac Ac ⟨h2.1,by omega⟩ (dW hld.m32) Ac (hld.kr.KOk Ac) ⟨hld.lo.1,by omega⟩ Ac hld.id hld.ra hld.L
theorem XD {hy:Bool} (ih:IsB hy) (id:Ad) (fi:Bool) (e:EndH) (hld:LdE fi id e):AP 29 ⟨[lb (zI hy id fi e)],[],.tu (Jg [.cp 0 0,vi 0]),([(0,Abh id fi hy 1 2 (rP hy 3) e.lT e.mx e.lD e.tD e.kl),(1,Ag e.ok e.oi),(2,Ag e.ik e.ii)]++rH hy [(3,AL e.st e.ep e.aD e.sd e.tx 4),(4,AT e.rD e.rT e.bx)])⟩:=by
 have h1:=hld.n;have h2:=hld.mx
 cases hy
 ·exact Zj id fi e.ok e.oi e.ik e.ii e.lT e.mx e.lD e.tD e.kl (hld.lenq false) hld.id hld.ok hld.ik Ac Ac ⟨by omega,by omega,by omega⟩ ⟨by omega,by omega⟩ hld.mx hld.m32 hld.lo hld.kr
 ·exact Zk id fi e.ok e.oi e.ik e.ii e.lT e.mx e.lD e.tD e.kl e.st e.ep e.aD e.sd e.tx e.rD e.rT e.bx (hld.lenq true) hld.id hld.ok hld.ik Ac Ac ⟨by omega,by omega,by omega⟩ ⟨by omega,by omega⟩ hld.mx hld.m32 hld.lo hld.kr hld.ra hld.L
theorem fA {hy:Bool} (ih:IsB hy) (p:PS) (who n dr:Int) (raw:Ad) (hA:SndOk true p.a) (hB:SndOk false p.b) (hw:AK who 2=0) (hld:LdE true p.ida p.a):AP 26 ⟨[.cp 0 0,.ag (Jg [vi 3,vi who,vi n,vi dr,lb raw])],([(0,qE 1 6 p.na p.ia (ints p.ja) p.nb p.ib (ints p.jb) 11),(1,Abh p.ida true hy 2 3 (rP hy 4) p.a.lT p.a.mx p.a.lD p.a.tD p.a.kl),(2,Ag p.a.ok p.a.oi),(3,Ag p.a.ik p.a.ii)]++rH hy [(4,AL p.a.st p.a.ep p.a.aD p.a.sd p.a.tx 5),(5,AT p.a.rD p.a.rT p.a.bx)]++[(6,Abh p.idb false hy 7 8 (rP hy 9) p.b.lT p.b.mx p.b.lD p.b.tD p.b.kl),(7,Ag p.b.ok p.b.oi),(8,Ag p.b.ik p.b.ii)]++rH hy [(9,AL p.b.st p.b.ep p.b.aD p.b.sd p.b.tx 10),(10,AT p.b.rD p.b.rT p.b.bx)]++[(11,.sl 48 Bp p.fl)]),.tu (Jg [.v (.bool true),.v (.bool (!SE p.ida p.idb p.a p.b))]),([(0,qE 13 16 p.na p.ia (ints p.ja) p.nb p.ib (ints p.jb) 19),(13,Abh p.ida true hy 14 15 (rP hy 20) p.a.lT p.a.mx p.a.lD p.a.tD p.a.kl),(14,Ag p.a.ok p.a.oi),(15,Ag p.a.ik p.a.ii),(16,Abh p.idb false hy 17 18 (rP hy 22) p.b.lT p.b.mx p.b.lD p.b.tD p.b.kl),(17,Ag p.b.ok p.b.oi),(18,Ag p.b.ik p.b.ii),(19,.sl 48 Bp p.fl)]++rH hy [(20,AL p.a.st p.a.ep p.a.aD p.a.sd p.a.tx 21),(21,AT p.a.rD p.a.rT p.a.bx),(22,AL p.b.st p.b.ep p.b.aD p.b.sd p.b.tx 23),(23,AT p.b.rD p.b.rT p.b.bx)])⟩:=by
 cases hy
 all_goals
  refine cy 12 func26 rfl ntmps26 λY V=>Aj [] 13 V λV=>Ar (Aw [(2,AS (A1 who 2 Ac))] [] 13 V λV=> ?_)
  have V:=V.cl 6 (vi 0) (vi ((AK who 2:Nat):Int)) (by rw[hw]<;>rfl)
  refine CQ (Aj [] 13 V λV=>BC (Aj [] 13 V λV=>Ai V (Aj [] 13 V λV=>Ai V (Aj [] 13 V λV=>AG V (Ar (Aw [(4,AH 0 2),(6,J8 (Ua ih p.ida true p.a A_) [(0,1),(1,2),(2,3),(3,4),(4,5)] []),(7,J8 (XD ih p.ida true p.a A_) [] [(0,13),(1,14),(2,15),(3,16),(4,17)])] [] (bif ih.b then 18 else 16) V λV=> ?_))))))
  have V:=V.up 18
  refine CQ (Aj [] 18 V λV=>Ai V (Cb (Aw [(5,AH 0 2)] [] 18 V λV=>Ck (Ay [(3,AH 0 2),(8,AH 1 2),(10,J8 (IU ih p.ida p.idb p.a p.b hA hB) [(0,13),(1,14),(2,15),(3,16),(4,17),(5,6),(6,7),(7,8),(8,9),(9,10)] [])] [] 18 V λV=>AY ?_))))
  obtain⟨gs,V⟩:=V.rn2 [(0,0),(1,1),(2,2),(3,3),(4,4),(5,5),(6,6),(7,7),(8,8),(9,9),(10,10),(11,11),(13,13),(14,14),(15,15),(16,6),(17,7),(18,8),(19,11),(20,16),(21,17),(22,9),(23,10)] [(4,.v (.bool true)),(5,.v (.bool (!(SE p.ida p.idb p.a p.b))))] ([(0,qE 13 16 p.na p.ia (ints p.ja) p.nb p.ib (ints p.jb) 19),(13,Abh p.ida true ih.b 14 15 (rP ih.b 20) p.a.lT p.a.mx p.a.lD p.a.tD p.a.kl),(14,Ag p.a.ok p.a.oi),(15,Ag p.a.ik p.a.ii),(16,Abh p.idb false ih.b 17 18 (rP ih.b 22) p.b.lT p.b.mx p.b.lD p.b.tD p.b.kl),(17,Ag p.b.ok p.b.oi),(18,Ag p.b.ik p.b.ii),(19,.sl 48 Bp p.fl)]++rH ih.b [(20,AL p.a.st p.a.ep p.a.aD p.a.sd p.a.tx 21),(21,AT p.a.rD p.a.rT p.a.bx),(22,AL p.b.st p.b.ep p.b.aD p.b.sd p.b.tx 23),(23,AT p.b.rD p.b.rT p.b.bx)]) 24 Y
  exact BW V
theorem bZ {hy:Bool} (ih:IsB hy) (p:PS) (who n dr:Int) (raw:Ad) (hA:SndOk true p.a) (hB:SndOk false p.b) (hw:AK who 2=1) (hld:LdE false p.idb p.b):AP 26 ⟨[.cp 0 0,.ag (Jg [vi 3,vi who,vi n,vi dr,lb raw])],([(0,qE 1 6 p.na p.ia (ints p.ja) p.nb p.ib (ints p.jb) 11),(1,Abh p.ida true hy 2 3 (rP hy 4) p.a.lT p.a.mx p.a.lD p.a.tD p.a.kl),(2,Ag p.a.ok p.a.oi),(3,Ag p.a.ik p.a.ii)]++rH hy [(4,AL p.a.st p.a.ep p.a.aD p.a.sd p.a.tx 5),(5,AT p.a.rD p.a.rT p.a.bx)]++[(6,Abh p.idb false hy 7 8 (rP hy 9) p.b.lT p.b.mx p.b.lD p.b.tD p.b.kl),(7,Ag p.b.ok p.b.oi),(8,Ag p.b.ik p.b.ii)]++rH hy [(9,AL p.b.st p.b.ep p.b.aD p.b.sd p.b.tx 10),(10,AT p.b.rD p.b.rT p.b.bx)]++[(11,.sl 48 Bp p.fl)]),.tu (Jg [.v (.bool true),.v (.bool (!SE p.ida p.idb p.a p.b))]),([(0,qE 13 16 p.na p.ia (ints p.ja) p.nb p.ib (ints p.jb) 19),(13,Abh p.ida true hy 14 15 (rP hy 20) p.a.lT p.a.mx p.a.lD p.a.tD p.a.kl),(14,Ag p.a.ok p.a.oi),(15,Ag p.a.ik p.a.ii),(16,Abh p.idb false hy 17 18 (rP hy 22) p.b.lT p.b.mx p.b.lD p.b.tD p.b.kl),(17,Ag p.b.ok p.b.oi),(18,Ag p.b.ik p.b.ii),(19,.sl 48 Bp p.fl)]++rH hy [(20,AL p.a.st p.a.ep p.a.aD p.a.sd p.a.tx 21),(21,AT p.a.rD p.a.rT p.a.bx),(22,AL p.b.st p.b.ep p.b.aD p.b.sd p.b.tx 23),(23,AT p.b.rD p.b.rT p.b.bx)])⟩:=by
 cases hy
 all_goals
  refine cy 12 func26 rfl ntmps26 λY V=>Aj [] 13 V λV=>Ar (Aw [(2,AS (A1 who 2 Ac))] [] 13 V λV=> ?_)
  have V:=V.cl 6 (vi 1) (vi ((AK who 2:Nat):Int)) (by rw[hw]<;>rfl)
  refine CQ (Aj [] 13 V λV=>BC (Aj [] 13 V λV=>Ai V (Aj [] 13 V λV=>Ai V (Aj [] 13 V λV=>AG V (Ar (Aw [(4,AH 1 2),(6,J8 (Ua ih p.idb false p.b A_) [(0,6),(1,7),(2,8),(3,9),(4,10)] []),(7,J8 (XD ih p.idb false p.b A_) [] [(0,13),(1,14),(2,15),(3,16),(4,17)])] [] (bif ih.b then 18 else 16) V λV=> ?_))))))
  have V:=V.up 18
  refine CQ (Aj [] 18 V λV=>Ai V (Cb (Aw [(5,AH 1 2)] [] 18 V λV=>Ck (Ay [(3,AH 0 2),(8,AH 1 2),(10,J8 (IU ih p.ida p.idb p.a p.b hA hB) [(0,1),(1,2),(2,3),(3,4),(4,5),(5,13),(6,14),(7,15),(8,16),(9,17)] [])] [] 18 V λV=>AY ?_))))
  obtain⟨gs,V⟩:=V.rn2 [(0,0),(1,1),(2,2),(3,3),(4,4),(5,5),(6,6),(7,7),(8,8),(9,9),(10,10),(11,11),(13,1),(14,2),(15,3),(16,13),(17,14),(18,15),(19,11),(20,4),(21,5),(22,16),(23,17)] [(4,.v (.bool true)),(5,.v (.bool (!(SE p.ida p.idb p.a p.b))))] ([(0,qE 13 16 p.na p.ia (ints p.ja) p.nb p.ib (ints p.jb) 19),(13,Abh p.ida true ih.b 14 15 (rP ih.b 20) p.a.lT p.a.mx p.a.lD p.a.tD p.a.kl),(14,Ag p.a.ok p.a.oi),(15,Ag p.a.ik p.a.ii),(16,Abh p.idb false ih.b 17 18 (rP ih.b 22) p.b.lT p.b.mx p.b.lD p.b.tD p.b.kl),(17,Ag p.b.ok p.b.oi),(18,Ag p.b.ik p.b.ii),(19,.sl 48 Bp p.fl)]++rH ih.b [(20,AL p.a.st p.a.ep p.a.aD p.a.sd p.a.tx 21),(21,AT p.a.rD p.a.rT p.a.bx),(22,AL p.b.st p.b.ep p.b.aD p.b.sd p.b.tx 23),(23,AT p.b.rD p.b.rT p.b.bx)]) 24 Y
  exact BW V
structure KJ (ea:Nat) (sa ta:Ad) (ba:CB) (sb eb:Nat) (tb:Ad) (bb:CB):Prop where
 ek:(sa=[]/\ta=[])\/(sa.length=64/\ta=(AO (sa.take 32) (sa.drop 32)).1)
 or:(sb=2/\eb=ea/\ba=B0/\tb=[]/\Good ta 1000 2 bb/\(ta=[]->bb=B0))
  \/(sb=3/\eb=ea/\bb=B0/\tb.length=1088/\ta≠[]/\Good tb 1000 2 ba)
  \/(sb=3/\eb+1=ea/\bb=B0/\tb.length=1088/\ba=B0)
 nf:KI ba=false/\KI bb=false
def fR (ea:Nat) (ta:Ad) (e pa:Nat) (d:Ad):Prop:=e<=ea/\pa<2/\d.length=min 1000 (1184-pa*1000)/\(e=ea->ta≠[]/\d=pc ta 1000 pa)
def xQ (sb eb:Nat) (tb:Ad) (e pa:Nat) (d:Ad):Prop:=e<=eb/\pa<2/\d.length=min 1000 (1088-pa*1000)/\(e=eb->sb=3/\d=pc tb 1000 pa)
section
variable {ea:Nat} {sa ta:Ad} {ba:CB} {sb eb:Nat} {tb:Ad} {bb:CB} (h:KJ ea sa ta ba sb eb tb bb)
theorem KJ.chk (h:KJ ea sa ta ba sb eb tb bb) (hn:ta≠[]):sa.length=64/\chk ta=0/\ta.length=1184:=by
 rcases h.ek with e|e
 ·exact absurd e.2 hn
 ·exact⟨e.1,Rz e⟩
theorem KJ.outA (h : KJ ea sa ta ba sb eb tb bb) (aD id ln : Nat) {r : Ad} (hr : r.length = 64) :
  ∃s t d,Bl 1 ea aD sa ta id ln ba r=(aD+1,s,t,B7 (2*ea) (aD%2) 2 d)/\KJ ea s t ba sb eb tb bb/\fR ea t ea (aD%2) d/\∀e pa d,fR ea ta e pa d->fR ea t e pa d:=by
 have hp:aD%2<2:=di _ (by decide)
 rcases h.ek with e|e
 ·have hk:=Rz (sa:=r) (ta:=(AO (r.take 32) (r.drop 32)).1) ⟨hr,rfl⟩
  have hne:(AO (r.take 32) (r.drop 32)).1≠[]:=λe=>by rw[e]at hk;exact absurd hk.2 (by decide)
  refine⟨r,(AO (r.take 32) (r.drop 32)).1,_,?_,⟨.inr ⟨hr,rfl⟩,?_,h.nf⟩,⟨an _,hp,(QY hk.2 (.inl rfl) hp).1,λ_=>⟨hne,rfl⟩⟩,λi pa d k=>⟨k.1,k.2.1,k.2.2.1,λq=>absurd e.2 (k.2.2.2 q).1⟩⟩
  ·rw[e.1,e.2];unfold Bl;rw[Ab]
   rw[aj (by decide),aj (by decide),ah (by decide),yH _ (.inl hk.2)]
   rfl
  ·rcases h.or with⟨h1,h2,h3,h4,h5,h6⟩|⟨h1,h2,h3,h4,h5,h6⟩|h
   ·exact .inl ⟨h1,h2,h3,h4,by rw[h6 e.2];exact Good.nil _ _ _,λe=>absurd e hne⟩
   ·exact absurd e.2 h5
   ·exact .inr (.inr h)
 ·have hk:=Rz e
  have hne:ta≠[]:=λe=>by rw[e]at hk;exact absurd hk.2 (by decide)
  refine⟨sa,ta,_,?_,h,⟨an _,hp,(QY hk.2 (.inl rfl) hp).1,λ_=>⟨hne,rfl⟩⟩,λ_ _ _ k=>k⟩
  unfold Bl;rw[Ab]
  rw[aj (by decide),aj (by decide),aj Ac,yH _ (.inl hk.2)]
  rfl
theorem KJ.outB (h : KJ ea sa ta ba sb eb tb bb) (aD : Nat) (sd : Ad) (id ln : Nat) (r : Ad) :
  ∃a q,Bl sb eb aD sd tb id ln bb r=(a,sd,tb,q)/\a<=aD+1/\(q=[]\/∃pa d,q=B7 (2*eb+1) pa 2 d/\xQ sb eb tb eb pa d):=by
 have hp:aD%2<2:=di _ (by decide)
 unfold Bl;rw[Ab]
 have h3:sb=2\/(sb=3/\tb.length=1088):=by
  rcases h.or with k|k|k
  ·exact .inl k.1
  ·exact .inr ⟨k.1,k.2.2.2.1⟩
  ·exact .inr ⟨k.1,k.2.2.2.1⟩
 rcases h3 with h1|⟨h1,h4⟩
 ·rw[ah Ac];exact⟨_,_,rfl,Nat.le_succ _,.inl rfl⟩
 ·rw[aj Ac,ah Ac,aj Ac,yH _ (.inr h4)]
  exact⟨_,_,rfl,an _,.inr ⟨aD%2,_,rfl,an _,hp,(QY h4 (.inr rfl) hp).1,λ_=>⟨h1,rfl⟩⟩⟩
theorem KJ.inB (h : KJ ea sa ta ba sb eb tb bb) (hea : ea <= 400000000) {e pa : Nat} {d : Ad} (hr : fR ea ta e pa d) (aD : Nat) (r : Ad) :
  R4 sb eb [] tb bb (B7 (2*e) pa 2 d) (2*e) pa d
  /\∃s ep a t b ks,F5 sb eb aD [] tb (2*eb) 1184 bb (B7 (2*e) pa 2 d) (2*e) pa d r=(s,ep,a,[],t,2*ep,1184,b,ks)
   /\KJ ea sa ta ba s ep t b/\a<=aD/\Xq s ep=Xq sb eb+ks.length/\ks.length<=1/\∀e pa d,xQ sb eb tb e pa d->xQ s ep t e pa d:=by
 obtain⟨he,hp,hdl,hcur⟩:=hr
 have hl:1<=d.length/\d.length<=1000:=by omega
 have hne:B7 (2*e) pa 2 d≠[]:=λq=>by have :=Ry (id:=2*e) (ai:=pa) (ct:=2) hl.1;rw[q]at this;exact Nat.not_succ_le_zero 0 this
 have hB0:KI (Bf B0 pa d)=false:=Va _ hp
 rw[Wx _ _ _ _ _ _ _ _ hne];unfold O6;rw[Ab]
 have hb3:sb=3->KI (Bf bb pa d)=false:=λq=>by
  have :bb=B0:=by
   rcases h.or with k|k|k
   ·omega
   ·exact k.2.2.1
   ·exact k.2.2.1
  rw[this];exact hB0
 have stale:(sb=2->e<eb)->e<=eb->sb=2\/sb=3->R4 sb eb [] tb bb (B7 (2*e) pa 2 d) (2*e) pa d:=λq1 q2 q3=>
  .inr ⟨rfl,hp,hl,by omega,by rw[aj Ac];exact hdl,.inr (.inl ⟨by omega,by omega⟩),λq4 q5=>by rw[aj Ac]at q4;omega,λq=>by omega,λ_ q4 q5=>absurd q5 (by rw[hb3 Ac];decide),λq=>by omega⟩
 rcases h.or with⟨h1,h2,h3,h4,h5,h6⟩|⟨h1,h2,h3,h4,h5,h6⟩|⟨h1,h2,h3,h4,h5⟩
 ·by_cases hc:e=ea
  ·obtain⟨hta,rfl⟩:=hcur hc
   subst hc
   obtain⟨hsl,hck,htl⟩:=h.chk hta
   have hf:KI (Bf bb pa (pc ta 1000 pa))=true->(II (Bf bb pa (pc ta 1000 pa))).flatten=ta:=λq=>Good.flat (sz:=1000) (by decide) (by rw[htl];exact h5.put hp) q
   refine⟨.inr ⟨rfl,hp,hl,by omega,by rw[aj Ac];exact hdl,.inr (.inl ⟨by omega,by omega⟩),λ_ _=>h5.2 pa hp,λq=>by omega,λ_ _ q=>by rw[hf q];exact⟨hck,htl⟩,λq=>by omega⟩,?_⟩
   rw[aj Ac,aj Ac,ah Ac,aj Ac]
   by_cases hfl:KI (Bf bb pa (pc ta 1000 pa))=true
   ·rw[ah hfl]
    refine⟨_,_,_,_,_,_,rfl,⟨h.ek,.inr (.inl ⟨rfl,h2,rfl,Ym _ _,hta,by rw[h3];exact Good.nil _ _ _⟩),h.nf.1,rfl⟩,bw _,?_,by simp,λi j x k=>⟨k.1,k.2.1,k.2.2.1,λq=>by have :=(k.2.2.2 q).1;omega⟩⟩
    unfold Xq;rw[ah rfl,aj Ac];rfl
   ·rw[aj hfl]
    exact⟨_,_,_,_,_,_,rfl,⟨h.ek,.inl ⟨h1,h2,h3,h4,h5.put hp,λq=>absurd q hta⟩,h.nf.1,by simpa using hfl⟩,an _,rfl,by simp,λ_ _ _ k=>k⟩
  ·refine⟨stale (λ_=>by omega) Ac (.inl h1),?_⟩
   rw[aj Ac,ah Ac]
   exact⟨_,_,_,_,_,_,rfl,h,an _,rfl,by simp,λ_ _ _ k=>k⟩
 ·refine⟨stale (λ_=>by omega) Ac (.inr h1),?_⟩
  rw[aj Ac]
  by_cases hc:e=ea
  ·rw[aj Ac,ah Ac,ah Ac]
   exact⟨_,_,_,_,_,_,rfl,h,an _,rfl,by simp,λ_ _ _ k=>k⟩
  ·rw[ah Ac]
   exact⟨_,_,_,_,_,_,rfl,h,an _,rfl,by simp,λ_ _ _ k=>k⟩
 ·by_cases hc:e=ea
  ·obtain⟨hta,rfl⟩:=hcur hc
   subst hc
   refine⟨.inr ⟨rfl,hp,hl,by omega,by rw[aj Ac];exact hdl,.inr (.inr ⟨by omega,by omega⟩),λq4 q5=>absurd h1 q5,λq=>by omega,λ_ q _=>by omega,λq=>by omega⟩,?_⟩
   rw[aj Ac,aj Ac,aj Ac]
   refine⟨_,_,_,_,_,_,rfl,⟨h.ek,.inl ⟨rfl,h2,h5,rfl,(Good.nil ta 1000 2).put hp,λq=>absurd q hta⟩,h.nf.1,hB0⟩,bw _,?_,by simp,λi j x k=>⟨by have :=k.1;omega,k.2.1,k.2.2.1,λq=>by have :=k.1;omega⟩⟩
   unfold Xq;rw[aj (by decide),ah h1];rfl
  ·refine⟨stale (λ_=>by omega) Ac (.inr h1),?_⟩
   rw[aj Ac]
   by_cases hc:e=eb
   ·rw[aj Ac,ah Ac,ah Ac]
    exact⟨_,_,_,_,_,_,rfl,h,an _,rfl,by simp,λ_ _ _ k=>k⟩
   ·rw[ah Ac]
    exact⟨_,_,_,_,_,_,rfl,h,an _,rfl,by simp,λ_ _ _ k=>k⟩
theorem KJ.inA (h : KJ ea sa ta ba sb eb tb bb) (hea : ea <= 400000000) {e pa : Nat} {d : Ad} (hr : xQ sb eb tb e pa d) (aD : Nat) (r : Ad) :
  R4 1 ea sa ta ba (B7 (2*e+1) pa 2 d) (2*e+1) pa d
  /\∃ep a q t b ks,F5 1 ea aD sa ta (2*ea+1) 1088 ba (B7 (2*e+1) pa 2 d) (2*e+1) pa d r=(1,ep,a,q,t,2*ep+1,1088,b,ks)
   /\KJ ep q t b sb eb tb bb/\a<=aD/\ep=ea+ks.length/\ks.length<=1/\∀e pa d,fR ea ta e pa d->fR ep t e pa d:=by
 obtain⟨he,hp,hdl,hcur⟩:=hr
 have hl:1<=d.length/\d.length<=1000:=by omega
 have hne:B7 (2*e+1) pa 2 d≠[]:=λq=>by have :=Ry (id:=2*e+1) (ai:=pa) (ct:=2) hl.1;rw[q]at this;exact Nat.not_succ_le_zero 0 this
 have hee:eb<=ea/\(sb=2\/sb=3):=by rcases h.or with k|k|k<;>omega
 rw[Wx _ _ _ _ _ _ _ _ hne];unfold O6;rw[Ab]
 rw[ah (by decide)]
 by_cases hc:e=ea
 ·have heb:e=eb:=by omega
  obtain⟨hs3,rfl⟩:=hcur heb
  rcases h.or with k|⟨h1,h2,h3,h4,h5,h6⟩|k
  ·omega
  ·obtain⟨hsl,hck,htl⟩:=h.chk h5
   have hf:KI (Bf ba pa (pc tb 1000 pa))=true->(II (Bf ba pa (pc tb 1000 pa))).flatten=tb:=λq=>Good.flat (sz:=1000) (by decide) (by rw[h4];exact h6.put hp) q
   refine⟨.inr ⟨rfl,hp,hl,by omega,by rw[ah rfl];exact hdl,.inl ⟨rfl,by omega⟩,λ_ _=>h6.2 pa hp,λ_ _=>⟨by omega,hsl⟩,λq=>absurd rfl q,λ_ _ q=>by rw[hf q];exact h4⟩,?_⟩
   rw[aj Ac,aj Ac]
   by_cases hfl:KI (Bf ba pa (pc tb 1000 pa))=true
   ·rw[ah hfl]
    exact⟨_,_,_,_,_,_,rfl,⟨.inl ⟨rfl,rfl⟩,.inr (.inr ⟨h1,by omega,h3,h4,rfl⟩),rfl,h.nf.2⟩,bw _,by simp,by simp,λi j x k=>⟨by have :=k.1;omega,k.2.1,k.2.2.1,λq=>by have :=k.1;omega⟩⟩
   ·rw[aj hfl]
    exact⟨_,_,_,_,_,_,rfl,⟨h.ek,.inr (.inl ⟨h1,h2,h3,h4,h5,h6.put hp⟩),by simpa using hfl,h.nf.2⟩,an _,by simp,by simp,λ_ _ _ k=>k⟩
  ·omega
 ·refine⟨.inr ⟨rfl,hp,hl,by omega,by rw[ah rfl];exact hdl,.inl ⟨rfl,by omega⟩,λq=>by rw[ah rfl]at q;omega,λ_ q=>by omega,λq=>absurd rfl q,λ_ q=>by omega⟩,?_⟩
  rw[ah Ac]
  exact⟨_,_,_,_,_,_,rfl,h,an _,by simp,by simp,λ_ _ _ k=>k⟩
theorem KJ.ne (h:KJ ea sa ta ba sb eb tb bb):(sb=2\/sb=3)/\ea<=Xq sb eb/\Xq sb eb<=ea+1/\eb<=ea/\ba.length=2/\bb.length=2/\(sb=3->tb.length=1088)/\(sb=2->tb=[])/\(ta.length=0\/ta.length=1184):=by
 have ht:ta.length=0\/ta.length=1184:=h.ek.elim (λe=> .inl (by rw[e.2];rfl)) (λe=> .inr (Rz e).2)
 unfold Xq
 rcases h.or with⟨h1,h2,h3,h4,h5,h6⟩|⟨h1,h2,h3,h4,h5,h6⟩|⟨h1,h2,h3,h4,h5⟩
 ·rw[aj Ac];exact⟨.inl h1,by omega,by omega,by omega,by rw[h3];rfl,h5.1,by omega,λ_=>h4,ht⟩
 ·rw[ah h1];exact⟨.inr h1,by omega,by omega,by omega,h6.1,by rw[h3];rfl,λ_=>h4,by omega,ht⟩
 ·rw[ah h1];exact⟨.inr h1,by omega,by omega,by omega,by rw[h5];rfl,by rw[h3];rfl,λ_=>h4,by omega,ht⟩
end
theorem Ado {t:Ad} {b:CB} (hg:Good t 1000 2 b) (hf:KI b=false):b=B0\/∃pa,pa<2/\b=Bf B0 pa (pc t 1000 pa):=by
 obtain⟨hl,hg⟩:=hg
 match b,hl with
 |[x,y],_=>
  have h0:x=none\/x=some (pc t 1000 0):=hg 0 (by decide)
  have h1:y=none\/y=some (pc t 1000 1):=hg 1 (by decide)
  rcases h0 with rfl|rfl<;>rcases h1 with rfl|rfl
  ·exact .inl rfl
  ·exact .inr ⟨1,by decide,rfl⟩
  ·exact .inr ⟨0,by decide,rfl⟩
  ·cases hf
theorem KJ.ld {ea:Nat} {sa ta:Ad} {ba:CB} {sb eb:Nat} {tb:Ad} {bb:CB} (h:KJ ea sa ta ba sb eb tb bb):LdOk 1 ea sa ta (2*ea+1) 1088 ba/\LdOk sb eb [] tb (2*eb) 1184 bb:=by
 have bx:∀{t:Ad} {b:CB} {n:Nat},t.length=n->n=1184\/n=1088->Good t 1000 2 b->KI b=false->b=B0\/∃pa d,pa<2/\(1<=d.length/\d.length<=1000)/\d.length=min 1000 (n-pa*1000)/\b=Bf B0 pa d:=λh1 h2 h3 h4=>(Ado h3 h4).imp id λ⟨pa,h5,h6⟩=>⟨pa,_,h5,(QY h1 h2 h5).2,(QY h1 h2 h5).1,h6⟩
 have hA:ba=B0->LdOk 1 ea sa ta (2*ea+1) 1088 ba:=λe=>by
  subst e
  exact⟨h.ek.elim (λe=> .inr (.inr (.inl ⟨rfl,e.1,e.2,rfl,rfl,rfl⟩))) (λe=> .inr (.inr (.inr ⟨rfl,e.1,e.2,rfl,rfl⟩))),.inl rfl⟩
 rcases h.or with⟨h1,h2,h3,h4,h5,h6⟩|⟨h1,h2,h3,h4,h5,h6⟩|⟨h1,h2,h3,h4,h5⟩
 ·refine⟨hA h3,.inl ⟨h1,rfl,h4,rfl,rfl⟩,?_⟩
  by_cases hta:ta=[]
  ·exact .inl (h6 hta)
  ·exact bx (h.chk hta).2.2 (.inl rfl) h5 h.nf.2
 ·exact⟨⟨.inr (.inr (.inr ⟨rfl,(h.chk h5).1,(h.ek.resolve_left λe=>h5 e.2).2,rfl,rfl⟩)),bx h4 (.inr rfl) h6 h.nf.1⟩,.inr (.inl ⟨h1,rfl,h4,rfl,rfl,h3⟩),.inl h3⟩
 ·exact⟨hA h5,.inr (.inl ⟨h1,rfl,h4,rfl,rfl,h3⟩),.inl h3⟩
def qM (M:Nat->Ad) (k:Ad) (n:Nat):Ad:=AX (Lw k) (M n) [109,101,115,115,97,103,101]
def Ix (M:Nat->Ad) (A:Ad) (g:Nat->Nat×Nat) (j:Nat):KR:=((j:Int),(((g j).1:Nat):Int),(List.range' (g j).1 (g j).2).map (qM M (Am A j)))
theorem OB {f:Nat->KR} {js:List Nat} {p:Nat} (h:p<js.length):(js.map f).getD p kz=f js[p]:=by
 rw[al,eu,am h];rfl
theorem Up {f:Nat->KR} (hf:∀j,(f j).1=((j:Nat):Int)) {js:List Nat} {i:Nat} (h:i∉js):CV (js.map f) (i:Int)= -1:=by
 refine XR λj hj e=> ?_
 rw[cg]at hj
 rw[OB hj,hf]at e
 have :js[j]=i:=by omega
 exact h (this▸fv hj)
theorem X0 {f:Nat->KR} (hf:∀j,(f j).1=((j:Nat):Int)) {js:List Nat} {i:Nat} (hn:js.Nodup) (h:i∈js):∃p,p<js.length/\CV (js.map f) (i:Int)=((p:Nat):Int)/\(js.map f).getD p kz=f i/\(js.map f).take p++(js.map f).drop (p+1)=(js.filter (· !=i)).map f:=by
 have hp:=List.idxOf_lt_length_iff.2 h
 have he:js[js.idxOf i]=i:=List.getElem_idxOf hp
 refine⟨js.idxOf i,hp,XT (by rw[cg];exact hp) (λj hj e=> ?_) ?_,?_,?_⟩
 ·have hj2:j<js.length:=by omega
  rw[OB hj2,hf]at e
  have e:js[j]=i:=by omega
  have :=List.not_of_lt_findIdx (p:=(· ==i)) (xs:=js) hj
  simp [e]at this
 ·rw[OB hp,he,hf]
 ·rw[OB hp,he]
 ·rw[<-hn.erase_eq_filter i,List.erase_eq_eraseIdx_of_idxOf rfl,List.eraseIdx_eq_take_drop_succ,cb,List.map_take,map_drop]
theorem Uo {M:Nat->Ad} (A:Ad) {g:Nat->Nat×Nat} {ii:Nat} {js:List Nat} (h:RI ii js) (hi:ii<=1000000) (hg:∀j,j<ii->(g j).1+(g j).2<=60000):KRd ii (js.map (Ix M A g)):=by
 refine⟨by rw[cg];exact h.len,λj hj=> ?_,λj hj=> ?_⟩
 ·rw[cg]at hj
  have hl:=h.lt _ (fv hj)
  have hb:=hg _ hl
  rw[OB hj]
  refine⟨⟨?_,?_⟩,⟨?_,?_⟩,?_,λx hx=> ?_⟩
  ·show(0:Int)<=((js[j]:Nat):Int);omega
  ·show((js[j]:Nat):Int)<(ii:Int);omega
  ·show(0:Int)<=(((g js[j]).1:Nat):Int);omega
  ·show(((g js[j]).1:Nat):Int)<=2147483648;omega
  ·show((List.range' (g js[j]).1 (g js[j]).2).map _).length<=60000
   rw[cg,List.length_range'];omega
  ·have hx:x<((List.range' (g js[j]).1 (g js[j]).2).map (qM M (Am A js[j]))).length:=hx
   show(List.getD (α:=Ad) ((List.range' (g js[j]).1 (g js[j]).2).map (qM M (Am A js[j]))) x []).length=32
   rw[al,am hx,List.getElem_map]
   exact Fq ..
 ·rw[cg]at hj
  rw[OB hj,<-List.map_take]
  have :CV ((js.take j).map (Ix M A g)) ((js[j]:Nat):Int)= -1:=Up (λ_=>rfl) λhm=>by
   obtain⟨i,hi2,he⟩:=List.getElem_of_mem hm
   rw[ap]at hi2
   rw[List.getElem_take]at he
   exact List.pairwise_iff_getElem.1 h.nd i j Ac hj Ac he
  show CV _ (((((js[j]:Nat):Int)).toNat:Nat):Int)<0
  rw[bc,this];decide
theorem Lh {f:Nat->KR} (hf:∀j,(f j).1=((j:Nat):Int)) (js:List Nat):O5 (js.map f)=ints js:=by
 unfold O5 ints
 rw[ig]
 exact map_congr_left λj _=>hf j
def gIn (g:Nat->Nat×Nat) (ii lD top i m:Nat):Prop:=(i<ii->(g i).1<=m/\m<(g i).1+(g i).2)/\(ii<=i->lD<=m/\m<top)
def gN (g:Nat->Nat×Nat) (ii lD m j:Nat):Nat×Nat:=if j<ii then g j else(lD,m+1-lD)
section
variable (id:Ad) (fi:Bool) (ok:Ad) (oi:Nat) {M:Nat->Ad} {A:Ad} {g:Nat->Nat×Nat} {ii lT:Nat} {mx:AZ} {lD tD:Nat} {js:List Nat} {i m:Nat} (hb:Ad) (l:Nat) (hp hx:Ad)
theorem wK (hR:RI ii js) (hg:gIn g ii lD (lT+mx.length) i m):BZ id fi ok oi (Am A ii) ii lT mx lD tD (js.map (Ix M A g)) hb i m l hp hx=EN ii js i:=by
 unfold BZ;rw[Ab];unfold EN
 by_cases h:i<ii
 ·obtain⟨g1,g2⟩:=hg.1 h
  rw[ah Ac,ah h]
  by_cases hj:i∈js
  ·obtain⟨p,h1,h2,h3,_⟩:=X0 (f:=Ix M A g) (λ_=>rfl) hR.nd hj
   have h3':(js.map (Ix M A g)).getD p Bi=Ix M A g i:=h3
   simp only[h2,bc,h3']
   rw[aj Ac,aj (by show¬((m:Int)<(((g i).1:Nat):Int));omega),aj (by show¬(((((List.range' (g i).1 (g i).2).map (qM M (Am A i))).length:Nat):Int)<=(m:Int)-(((g i).1:Nat):Int));rw[cg,List.length_range'];omega),decide_eq_true hj]
  ·rw[Up (λ_=>rfl) hj,ah (by decide),decide_eq_false hj]
 ·obtain⟨g1,g2⟩:=hg.2 Ac
  rw[aj Ac,aj h]
  by_cases h2:i<=ii+40
  ·rw[ah (show Vi ii i=true from decide_eq_true ⟨by omega,h2⟩),aj Ac,aj Ac,decide_eq_true h2]
  ·have :Vi ii i=false:=decide_eq_false λhh=>h2 hh.2
   rw[this,decide_eq_false h2];rfl
theorem AbQ (hf:EN ii js i=false):Bw id fi ok oi (Am A ii) ii lT mx lD tD (js.map (Ix M A g)) hb i m l hp hx=LF ii i:=by
 unfold EN at hf
 unfold Bw;rw[Ab];unfold LF
 by_cases h:i<ii
 ·rw[ah h]at hf⊢
  rw[ah Ac,Up (λ_=>rfl) (of_decide_eq_false hf),ah (by decide)]
 ·rw[aj h]at hf⊢
  have h2:=of_decide_eq_false hf
  have :Vi ii i=false:=decide_eq_false λhh=>h2 hh.2
  rw[aj Ac,this]
  exact Yw (key:=Am A ii) Ac
theorem AbP (hM:MI M lT mx) (hR:RI ii js) (hl:lT<=lD) (hg:gIn g ii lD (lT+mx.length) i m) (hf:EN ii js i=true):BU id fi ok oi (Am A ii) ii lT mx lD tD (js.map (Ix M A g)) hb i m l hp hx=qM M (Am A i) m:=by
 unfold EN at hf
 unfold BU;rw[Ab]
 by_cases h:i<ii
 ·obtain⟨g1,g2⟩:=hg.1 h
  rw[ah h]at hf
  obtain⟨p,h1,h2,h3,_⟩:=X0 (f:=Ix M A g) (λ_=>rfl) hR.nd (cj hf)
  have h3':(js.map (Ix M A g)).getD p Bi=Ix M A g i:=h3
  rw[ah Ac]
  simp only[h2,bc,h3']
  show List.getD (α:=Ad) ((List.range' (g i).1 (g i).2).map (qM M (Am A i))) ((m:Int)-(((g i).1:Nat):Int)).toNat []=_
  rw[show((m:Int)-(((g i).1:Nat):Int)).toNat=m-(g i).1 by omega,al,eu,List.getElem?_range' Ac]
  show qM M _ ((g i).1+1*(m-(g i).1))=_
  rw[show(g i).1+1*(m-(g i).1)=m by omega]
 ·obtain⟨g1,g2⟩:=hg.2 Ac
  rw[aj Ac,HX,show ii+(i-ii)=i by omega,hM.out Ac g2];rfl
theorem aR (kl:List KR) (hM:MI M lT mx) (hl:lT<=lD) (hm:m<lT+mx.length) (x:Nat) (hx1:x<i-ii) (o6:List KR):∀j,lD+j<=m+1->DY id fi ok oi (Am A ii) ii lT mx lD tD kl hb i m l hp hx x o6 j=(lD+j,(List.range' lD j).map (qM M (Am A (ii+x))))
 |0,_=>rfl
 |j+1,hj=>by
  show OH (Am A ii) ii lT mx i x j (DY id fi ok oi (Am A ii) ii lT mx lD tD kl hb i m l hp hx x o6 j)=_
  rw[aR kl hM hl hm x hx1 o6 j Ac,range'_concat,cb]
  show(lD+j+1,_++[AX ((G1 (Am A ii) (i-ii)).getD x AW) (mx.getD (lD+j-lT) AW) [109,101,115,115,97,103,101]])=_
  rw[TK _ hx1,HX,hM.out Ac Ac,fu];rfl
theorem xH (hM:MI M lT mx) (hl:lT<=lD) (hm:lD<=m/\m<lT+mx.length) (hR:RI ii js):∀x,x<=i-ii->Cr id fi ok oi (Am A ii) ii lT mx lD tD (js.map (Ix M A g)) hb i m l hp hx x=(js++List.range' ii x).map (Ix M A (gN g ii lD m))
 |0,_=>by
  show js.map (Ix M A g)=_
  rw[List.range'_zero,ez]
  exact map_congr_left λj hj=>by unfold Ix gN;rw[ah (hR.lt j hj)]
 |x+1,hx1=>by
  have hlst:m+1-lD=D3 λj=>Fs id fi ok oi (Am A ii) ii lT mx lD tD (js.map (Ix M A g)) hb i m l hp hx x (Cr id fi ok oi (Am A ii) ii lT mx lD tD (js.map (Ix M A g)) hb i m l hp hx x) (DY id fi ok oi (Am A ii) ii lT mx lD tD (js.map (Ix M A g)) hb i m l hp hx x (Cr id fi ok oi (Am A ii) ii lT mx lD tD (js.map (Ix M A g)) hb i m l hp hx x) j):=by
   refine CE (P:=λj=>Fs id fi ok oi (Am A ii) ii lT mx lD tD (js.map (Ix M A g)) hb i m l hp hx x (Cr id fi ok oi (Am A ii) ii lT mx lD tD (js.map (Ix M A g)) hb i m l hp hx x) (DY id fi ok oi (Am A ii) ii lT mx lD tD (js.map (Ix M A g)) hb i m l hp hx x (Cr id fi ok oi (Am A ii) ii lT mx lD tD (js.map (Ix M A g)) hb i m l hp hx x) j)) ?_ ?_
   ·rw[aR id fi ok oi hb l hp hx _ hM hl hm.2 x Ac _ _ Ac]
    show¬(((lD+(m+1-lD):Nat):Int)<=(m:Int));omega
   ·intro j hj
    rw[aR id fi ok oi hb l hp hx _ hM hl hm.2 x Ac _ _ Ac]
    show((lD+j:Nat):Int)<=(m:Int);omega
  show Cr id fi ok oi (Am A ii) ii lT mx lD tD (js.map (Ix M A g)) hb i m l hp hx x++[(((ii+x:Nat):Int),(lD:Int),(DY id fi ok oi (Am A ii) ii lT mx lD tD (js.map (Ix M A g)) hb i m l hp hx x (Cr id fi ok oi (Am A ii) ii lT mx lD tD (js.map (Ix M A g)) hb i m l hp hx x) (D3 _)).2)]=_
  rw[<-hlst,aR id fi ok oi hb l hp hx _ hM hl hm.2 x Ac _ _ Ac,xH hM hl hm hR x Ac,range'_concat,<-bu,cb (l₁:=js++_),fu]
  congr 1
  show _=[Ix M A (gN g ii lD m) (ii+x)]
  unfold Ix gN
  rw[aj Ac]
theorem AcM (hM:MI M lT mx) (hR:RI ii js) (hl:lT<=lD) (hg:gIn g ii lD (lT+mx.length) i m) (hf:EN ii js i=true):Ic id fi ok oi (Am A ii) ii lT mx lD tD (js.map (Ix M A g)) hb i m l hp hx=(if i<ii then lD else m,(nJ ii js i).map (Ix M A (gN g ii lD m)),Am A (nI ii i),nI ii i):=by
 unfold EN at hf
 unfold Ic;rw[Ab];unfold nJ nI
 by_cases h:i<ii
 ·rw[ah h]at hf
  obtain⟨p,h1,h2,h3,h4⟩:=X0 (f:=Ix M A g) (λ_=>rfl) hR.nd (cj hf)
  rw[ah Ac,ah h,ah h,ah h]
  simp only[h2,bc,h4]
  rw[map_congr_left (g:=Ix M A (gN g ii lD m)) λj hj=>by unfold Ix gN;rw[ah (hR.lt j (gk.1 hj).1)]]
 ·rw[aj Ac,aj h,aj h,aj h,Hm,xH id fi ok oi hb l hp hx hM hl (hg.2 Ac) hR _ (an _),HX,show ii+(i-ii)=i by omega]
  rw[cg,show(max (((js++List.range' ii (i-ii)).length:Nat)-60:Int) 0).toNat=(js++List.range' ii (i-ii)).length-60 by omega,<-map_drop];rfl
end
def EndH.gotL (r:EndH) (fi:Bool) (A:Ad) (i l lD:Nat) (kl:List KR) (X:Nat×Nat×Nat×Ad×Ad×Nat×Nat×CB×AZ):EndH:=
 {r with ik:=Am A i,ii:=i,lT:=(EF fi r.lT r.mx lD (max r.tD l) X.2.2.2.2.2.2.2.2).1,mx:=(EF fi r.lT r.mx lD (max r.tD l) X.2.2.2.2.2.2.2.2).2,lD:=lD,tD:=max r.tD l,kl:=kl,st:=X.1,ep:=X.2.1,aD:=X.2.2.1,sd:=X.2.2.2.1,tx:=X.2.2.2.2.1,rD:=X.2.2.2.2.2.1,rT:=X.2.2.2.2.2.2.1,bx:=X.2.2.2.2.2.2.2.1}
section
variable (id:Ad) (fi:Bool) {r:EndH} {M:Nat->Ad} {A:Ad} {g:Nat->Nat×Nat} {js:List Nat} {n m l:Nat} {pc tT:Ad} (rQ:Ad)
theorem ZA {pid pa : Nat} {d : Ad} (hik : r.ik = Am A r.ii) (hkl : r.kl = js.map (Ix M A g)) (hM : MI M r.lT r.mx) (hR : RI r.ii js) (hl : r.lT <= r.lD) (hg : gIn g r.ii r.lD (r.lT + r.mx.length) n m) (hf : EN r.ii js n = true) (hn : n <= 2147483648 /\ m <= 2147483648 /\ l <= 2147483648) (hp : pc.length <= 1040) (ht : tT.length <= 500) (hy : By tT)
  (hpk:R4 r.st r.ep r.sd r.tx r.bx pc pid pa d):Xm id fi r (Uy (Am A n) (M m) n m l pc tT) rQ (r.gotL fi A (nI r.ii n) l (if n<r.ii then r.lD else m) ((nJ r.ii js n).map (Ix M A (gN g r.ii r.lD m))) (F5 r.st r.ep r.aD r.sd r.tx r.rD r.rT r.bx pc pid pa d (rQ.drop 64))) tT n:=by
 obtain⟨h1,h2⟩:=l7 (Am A n) (M m) hn.1 hn.2.1 hn.2.2 hp ht
 refine⟨⟨rfl,rfl⟩,pid,pa,d,by rw[h2];exact hpk,?_⟩
 have ho:=Kl (id:=id) (fi:=fi) (ok:=r.ok) (oi:=r.oi) (ik:=r.ik) (ii:=r.ii) (lT:=r.lT) (mx:=r.mx) (lD:=r.lD) (tD:=r.tD) (kl:=r.kl) (st:=r.st) (ep:=r.ep) (aD:=r.aD) (sd:=r.sd) (tx:=r.tx) (rD:=r.rD) (rT:=r.rT) (bx:=r.bx) (hb:=R7 n m l pc) (hi:=n) (hn:=m) (hh:=l) (hp:=pc) (hx:=WG (Am A n) (M m) n m l pc tT)
 have hc:=oI (id:=id) (fi:=fi) (ok:=r.ok) (oi:=r.oi) (ik:=r.ik) (ii:=r.ii) (lT:=r.lT) (mx:=r.mx) (lD:=r.lD) (tD:=r.tD) (kl:=r.kl) (st:=r.st) (ep:=r.ep) (aD:=r.aD) (sd:=r.sd) (tx:=r.tx) (rD:=r.rD) (rT:=r.rT) (bx:=r.bx) (hb:=R7 n m l pc) (hi:=n) (hn:=m) (hh:=l) (hp:=pc) (hx:=WG (Am A n) (M m) n m l pc tT)
 rw[hik,hkl]at ho hc
 have ok1:=wK id fi r.ok r.oi (M:=M) (A:=A) (tD:=r.tD) (R7 n m l pc) l pc (WG (Am A n) (M m) n m l pc tT) hR hg
 have ok2:=AbP id fi r.ok r.oi (A:=A) (tD:=r.tD) (R7 n m l pc) l pc (WG (Am A n) (M m) n m l pc tT) hM hR hl hg hf
 have cm:=AcM id fi r.ok r.oi (A:=A) (tD:=r.tD) (R7 n m l pc) l pc (WG (Am A n) (M m) n m l pc tT) hM hR hl hg hf
 have hop:BS (qM M (Am A n) m) (replicate 12 (0:Int)) (R7 n m l pc) (WG (Am A n) (M m) n m l pc tT)=(tT,0):=S8 _ _ _ hy
 rw[hik,hkl]
 constructor
 ·unfold E_;rw[Ab]
  rw[ah]
  unfold FI;rw[Ab]
  rw[ah h1,h2]
  simp only[]
  rw[ho.1,ok1,hf,ho.2.1,ok2,hop]
  rfl
 ·unfold BH;rw[Ab]
  unfold AI;rw[Ab]
  rw[h2]
  simp only[]
  rw[ho.2.1,ok2,hop,hc,cm]
  simp only[sW]
  rfl
theorem Zw (hik:r.ik=Am A r.ii) (hkl:r.kl=js.map (Ix M A g)) (hR:RI r.ii js) (hg:gIn g r.ii r.lD (r.lT+r.mx.length) n m) (hf:EN r.ii js n=false) (hn:n<=2147483648/\m<=2147483648/\l<=2147483648) (hp:pc.length<=1040) (ht:tT.length<=500):Tz id fi r (Uy (Am A n) (M m) n m l pc tT) (LF r.ii n):=by
 obtain⟨h1,h2⟩:=l7 (Am A n) (M m) hn.1 hn.2.1 hn.2.2 hp ht
 refine⟨h1,?_,?_⟩
 ·rw[h2,hik,hkl]
  exact(wK id fi r.ok r.oi _ l pc _ hR hg).trans hf
 ·rw[h2,hik,hkl]
  exact AbQ id fi r.ok r.oi _ l pc _ hf
end
theorem lS {hy:Bool} (ih:IsB hy) (p:PS) (tT rQ:Ad) (htx:500<tT.length) (hr:rQ.length=128):AP 14 ⟨[.cp 0 0,vi 0,lb tT,lb rQ],([(0,qE 1 6 p.na p.ia (ints p.ja) p.nb p.ib (ints p.jb) 11),(1,Abh p.ida true hy 2 3 (rP hy 4) p.a.lT p.a.mx p.a.lD p.a.tD p.a.kl),(2,Ag p.a.ok p.a.oi),(3,Ag p.a.ik p.a.ii)]++rH hy [(4,AL p.a.st p.a.ep p.a.aD p.a.sd p.a.tx 5),(5,AT p.a.rD p.a.rT p.a.bx)]++[(6,Abh p.idb false hy 7 8 (rP hy 9) p.b.lT p.b.mx p.b.lD p.b.tD p.b.kl),(7,Ag p.b.ok p.b.oi),(8,Ag p.b.ik p.b.ii)]++rH hy [(9,AL p.b.st p.b.ep p.b.aD p.b.sd p.b.tx 10),(10,AT p.b.rD p.b.rT p.b.bx)]++[(11,.sl 48 Bp p.fl)]),.v (.bool true),([(0,qE 13 16 p.na p.ia (ints p.ja) p.nb p.ib (ints p.jb) 19),(13,Abh p.ida true hy 14 15 (rP hy 20) p.a.lT p.a.mx p.a.lD p.a.tD p.a.kl),(14,Ag p.a.ok p.a.oi),(15,Ag p.a.ik p.a.ii),(16,Abh p.idb false hy 17 18 (rP hy 22) p.b.lT p.b.mx p.b.lD p.b.tD p.b.kl),(17,Ag p.b.ok p.b.oi),(18,Ag p.b.ik p.b.ii),(19,.sl 48 Bp p.fl)]++rH hy [(20,AL p.a.st p.a.ep p.a.aD p.a.sd p.a.tx 21),(21,AT p.a.rD p.a.rT p.a.bx),(22,AL p.b.st p.b.ep p.b.aD p.b.sd p.b.tx 23),(23,AT p.b.rD p.b.rT p.b.bx)])⟩:=by
 cases hy
 all_goals
  refine cy 12 func14 rfl ntmps14 λY V=> ?_
  have hx1:(500:Int)<((tT.length:Nat):Int):=Ac
  refine Aj [] 12 V λV=>Ay [(4,AH 0 2),(8,Ig (VH tT rQ Ac Ax) [1,2] [.im (Jg [.top,.top,.top,.im (Jg []) 0,.top,.top,.top,.top,.top,.top,.top]) 0,lb tT,lb rQ])] [] 12 V λV=>Ar (Ay [(2,Gv hx1)] [] 12 V λV=>AG V (Aj [] 12 V λV=>AY (Ao ?_)))
  obtain⟨gs,V⟩:=V.rn2 [(0,0),(1,1),(2,2),(3,3),(4,4),(5,5),(6,6),(7,7),(8,8),(9,9),(10,10),(11,11),(13,1),(14,2),(15,3),(16,6),(17,7),(18,8),(19,11),(20,4),(21,5),(22,9),(23,10)] [(8,.v (.bool true))] ([(0,qE 13 16 p.na p.ia (ints p.ja) p.nb p.ib (ints p.jb) 19),(13,Abh p.ida true ih.b 14 15 (rP ih.b 20) p.a.lT p.a.mx p.a.lD p.a.tD p.a.kl),(14,Ag p.a.ok p.a.oi),(15,Ag p.a.ik p.a.ii),(16,Abh p.idb false ih.b 17 18 (rP ih.b 22) p.b.lT p.b.mx p.b.lD p.b.tD p.b.kl),(17,Ag p.b.ok p.b.oi),(18,Ag p.b.ik p.b.ii),(19,.sl 48 Bp p.fl)]++rH ih.b [(20,AL p.a.st p.a.ep p.a.aD p.a.sd p.a.tx 21),(21,AT p.a.rD p.a.rT p.a.bx),(22,AL p.b.st p.b.ep p.b.aD p.b.sd p.b.tx 23),(23,AT p.b.rD p.b.rT p.b.bx)]) 24 Y
  exact BW V
theorem lR {hy:Bool} (ih:IsB hy) (p:PS) (tT rQ:Ad) (htx:500<tT.length) (hr:rQ.length=128):AP 14 ⟨[.cp 0 0,vi 1,lb tT,lb rQ],([(0,qE 1 6 p.na p.ia (ints p.ja) p.nb p.ib (ints p.jb) 11),(1,Abh p.ida true hy 2 3 (rP hy 4) p.a.lT p.a.mx p.a.lD p.a.tD p.a.kl),(2,Ag p.a.ok p.a.oi),(3,Ag p.a.ik p.a.ii)]++rH hy [(4,AL p.a.st p.a.ep p.a.aD p.a.sd p.a.tx 5),(5,AT p.a.rD p.a.rT p.a.bx)]++[(6,Abh p.idb false hy 7 8 (rP hy 9) p.b.lT p.b.mx p.b.lD p.b.tD p.b.kl),(7,Ag p.b.ok p.b.oi),(8,Ag p.b.ik p.b.ii)]++rH hy [(9,AL p.b.st p.b.ep p.b.aD p.b.sd p.b.tx 10),(10,AT p.b.rD p.b.rT p.b.bx)]++[(11,.sl 48 Bp p.fl)]),.v (.bool true),([(0,qE 13 16 p.na p.ia (ints p.ja) p.nb p.ib (ints p.jb) 19),(13,Abh p.ida true hy 14 15 (rP hy 20) p.a.lT p.a.mx p.a.lD p.a.tD p.a.kl),(14,Ag p.a.ok p.a.oi),(15,Ag p.a.ik p.a.ii),(16,Abh p.idb false hy 17 18 (rP hy 22) p.b.lT p.b.mx p.b.lD p.b.tD p.b.kl),(17,Ag p.b.ok p.b.oi),(18,Ag p.b.ik p.b.ii),(19,.sl 48 Bp p.fl)]++rH hy [(20,AL p.a.st p.a.ep p.a.aD p.a.sd p.a.tx 21),(21,AT p.a.rD p.a.rT p.a.bx),(22,AL p.b.st p.b.ep p.b.aD p.b.sd p.b.tx 23),(23,AT p.b.rD p.b.rT p.b.bx)])⟩:=by
 cases hy
 all_goals
  refine cy 12 func14 rfl ntmps14 λY V=> ?_
  have hx1:(500:Int)<((tT.length:Nat):Int):=Ac
  refine Aj [] 12 V λV=>Ay [(4,AH 1 2),(8,Ig (VH tT rQ Ac Ax) [6,7] [.im (Jg [.top,.top,.top,.im (Jg []) 0,.top,.top,.top,.top,.top,.top,.top]) 0,lb tT,lb rQ])] [] 12 V λV=>Ar (Ay [(2,Gv hx1)] [] 12 V λV=>AG V (Aj [] 12 V λV=>AY (Ao ?_)))
  obtain⟨gs,V⟩:=V.rn2 [(0,0),(1,1),(2,2),(3,3),(4,4),(5,5),(6,6),(7,7),(8,8),(9,9),(10,10),(11,11),(13,1),(14,2),(15,3),(16,6),(17,7),(18,8),(19,11),(20,4),(21,5),(22,9),(23,10)] [(8,.v (.bool true))] ([(0,qE 13 16 p.na p.ia (ints p.ja) p.nb p.ib (ints p.jb) 19),(13,Abh p.ida true ih.b 14 15 (rP ih.b 20) p.a.lT p.a.mx p.a.lD p.a.tD p.a.kl),(14,Ag p.a.ok p.a.oi),(15,Ag p.a.ik p.a.ii),(16,Abh p.idb false ih.b 17 18 (rP ih.b 22) p.b.lT p.b.mx p.b.lD p.b.tD p.b.kl),(17,Ag p.b.ok p.b.oi),(18,Ag p.b.ik p.b.ii),(19,.sl 48 Bp p.fl)]++rH ih.b [(20,AL p.a.st p.a.ep p.a.aD p.a.sd p.a.tx 21),(21,AT p.a.rD p.a.rT p.a.bx),(22,AL p.b.st p.b.ep p.b.aD p.b.sd p.b.tx 23),(23,AT p.b.rD p.b.rT p.b.bx)]) 24 Y
  exact BW V
def EndH.gotQ (r:EndH) (A:Ad) (i l lD:Nat) (kl:List KR) (lT:Nat) (mx:AZ) (X:Nat×Nat×Nat×Ad×Ad×Nat×Nat×CB×AZ):EndH:=
 {r with ik:=Am A i,ii:=i,lT:=lT,mx:=mx,lD:=lD,tD:=max r.tD l,kl:=kl,st:=X.1,ep:=X.2.1,aD:=X.2.2.1,sd:=X.2.2.2.1,tx:=X.2.2.2.2.1,rD:=X.2.2.2.2.2.1,rT:=X.2.2.2.2.2.2.1,bx:=X.2.2.2.2.2.2.2.1}
section
variable (id:Ad) (fi:Bool) {r:EndH} {M:Nat->Ad} {A:Ad} {g:Nat->Nat×Nat} {js:List Nat} {n m l:Nat} {pc tT:Ad} (rQ:Ad)
theorem bW (hik : r.ik = Am A r.ii) (hkl : r.kl = js.map (Ix M A g)) (hM : MI M r.lT r.mx) (hR : RI r.ii js) (hl : r.lT <= r.lD) (hg : gIn g r.ii r.lD (r.lT + r.mx.length) n m) (hf : EN r.ii js n = true) (hn : n <= 2147483648 /\ m <= 2147483648 /\ l <= 2147483648) (hp : pc.length <= 1040) (ht : tT.length <= 500) (hy : By tT) :
  tK id fi r (Uy (Am A n) (M m) n m l pc tT) rQ (r.gotQ A (nI r.ii n) l (if n<r.ii then r.lD else m) ((nJ r.ii js n).map (Ix M A (gN g r.ii r.lD m))) r.lT r.mx (r.st,r.ep,r.aD,r.sd,r.tx,r.rD,r.rT,r.bx,[])) tT n:=by
 obtain⟨h1,h2⟩:=l7 (Am A n) (M m) hn.1 hn.2.1 hn.2.2 hp ht
 have ok1:=wK id fi r.ok r.oi (M:=M) (A:=A) (tD:=r.tD) (R7 n m l pc) l pc (WG (Am A n) (M m) n m l pc tT) hR hg
 have ok2:=AbP id fi r.ok r.oi (A:=A) (tD:=r.tD) (R7 n m l pc) l pc (WG (Am A n) (M m) n m l pc tT) hM hR hl hg hf
 have cm:=AcM id fi r.ok r.oi (A:=A) (tD:=r.tD) (R7 n m l pc) l pc (WG (Am A n) (M m) n m l pc tT) hM hR hl hg hf
 have hop:BS (qM M (Am A n) m) (replicate 12 (0:Int)) (R7 n m l pc) (WG (Am A n) (M m) n m l pc tT)=(tT,0):=S8 _ _ _ hy
 refine⟨?_,?_,rfl,rfl,rfl,rfl⟩
 ·rw[hik,hkl];unfold HG;rw[Ab]
  rw[ah]
  unfold HN;rw[Ab]
  rw[ah h1,h2]
  simp only[]
  rw[ok1,hf,ok2,hop]
  rfl
 ·rw[hik,hkl];unfold DK;rw[Ab]
  unfold B5;rw[Ab]
  rw[h2]
  simp only[]
  rw[ok2,hop,cm]
  rfl
end
end
end Go.Sx.Tryz
