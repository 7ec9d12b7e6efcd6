/- General lemmas, walks. -/
import Derived.Test.YtmkplecnmklbfaaGreatJ7PSpoilt
set_option maxRecDepth 100000
set_option maxHeartbeats 1000000
set_option linter.unusedSimpArgs false
set_option linter.unusedVariables false
set_option linter.unnecessarySimpa false
set_option linter.unusedSectionVars false
namespace Go.Sx.Tryz
open Go.Mi Go.RowKit Go.Sx Go.Proofs Go.Proofs.Tryz
noncomputable section
open List (replicate take_left drop_left map_congr_left)
theorem EL {id ai ct:Nat} {d:Ad} (h:id<2^62/\ai<2^62/\ct<2^62) (hd:d.length<=1000):(BJ id ai ct d).length<=1040:=by have h1:=An (n:=id) Ac;have h2:=An (n:=ai) Ac;have h3:=An (n:=ct) Ac;have h4:=An (n:=d.length) Ac;unfold BJ;simp only[ah];omega
theorem OC (st ep aD:Nat) (sd tx:Ad) (id ln:Nat) (bx:CE) (r:Ad) (he:ep<=400000000) (hx:tx.length<=10000) (hr:r.length=64) (hat:aD<2^62):(Bd st ep aD sd tx id ln bx r).2.2.2.length<=1040:=by
 have hkl:=(GQ (r.take 32) (r.drop 32) (by rw[au];omega)).1;have key:∀(i:Nat) (t:Ad),i<=1000000000->t.length<=10000->(BJ i (aD%(Ar i t 1000).length) (Ar i t 1000).length ((t.drop ((aD%(Ar i t 1000).length)*1000)).take 1000)).length<=1040:=by
  intro i t hi ht;have hs:=H2 i t 1000;have hm:aD%(Ar i t 1000).length<2^62:=by
   by_cases h0:(Ar i t 1000).length=0
   ·have ht0:(t.length+1000-1)/1000=0:=by rw[<-hs];exact h0
    have :Ar i t 1000=[]:=bm h0;rw[h0,Nat.mod_zero];exact hat
   ·have :=di aD (Nat.pos_of_ne_zero h0);omega
  exact EL ⟨by omega,hm,by omega⟩ (by rw[ao];omega)
 unfold Bd;rw[Ab];split
 ·exact br _
 ·split
  ·split
   ·exact key _ _ Ac (by rw[hkl];decide)
   ·exact key _ _ Ac hx
  ·split
   ·exact key _ _ Ac (by rw[hkl];decide)
   ·exact key _ _ Ac hx
theorem Zy (id:Ad) (fi:Bool) (ok:Ad) (oi:Nat) (ik:Ad) (ii lT:Nat) (mx:AZ) (lD tD:Nat) (kl:List KR) (st:Nat) (ep aD:Nat) (sd tx:Ad) (rD rT:Nat) (bx:CE) (k:Ad) (n:Nat) (hm1:1<=mx.length/\mx.length<=100000) (hm2:∀j,(mx.getD j AW).length<=32) (hlow:lT<=100000000000) (hk:k.length=32) (hn:lT<=n/\n<lT+mx.length):AO 51 (Cq [.cp 0 0,lb k,vi (n:Int)] [(0,G4 id fi true 1 2 3 lT mx lD tD kl),(1,Al ok oi),(2,Al ik ii),(3,AI st ep aD sd tx 4),(4,AQ rD rT bx)] (lb (AT k (mx.getD (n-lT) AW) [109,101,115,115,97,103,101]))):=by refine cy 5 func51 rfl ntmps51 λY V=>Ak [] 5 V λV=>Ao ?_;have hmk:=hm2 (n-lT);exact Aw [(10,Ie n lT (n-lT)),(11,AN (n-lT) mx.length),(13,QQ),(14,OZ (0<[109,101,115,115,97,103,101].length) (by decide)),(15,AS (FP k (mx.getD (n-lT) AW) [109,101,115,115,97,103,101] Au Au Au))] [] 6 V λV=>Fa (BN V)
def dM (fi:Bool) (ok:Ad) (oi lT:Nat) (mx:AZ) (tD:Nat) (st ep aD:Nat) (sd tx:Ad) (rD rT:Nat) (bx:CE) (tT rQ:Ad):Ad×Nat×Nat×Ad×Ad×Ad:=AR ((V7 ok,(oi+1),((Bd st ep aD sd tx rD rT bx (rQ.take 64)).1),(Bd st ep aD sd tx rD rT bx (rQ.take 64)).2.1,(Bd st ep aD sd tx rD rT bx (rQ.take 64)).2.2.1,(((([]++Ah ((((([]++Ah oi)++Ah (A5 fi lT mx.length tD))++Ah (lT+mx.length-1))++Ah ((Bd st ep aD sd tx rD rT bx (rQ.take 64)).2.2.2).length)++((Bd st ep aD sd tx rD rT bx (rQ.take 64)).2.2.2)).length)++((((([]++Ah oi)++Ah (A5 fi lT mx.length tD))++Ah (lT+mx.length-1))++Ah ((Bd st ep aD sd tx rD rT bx (rQ.take 64)).2.2.2).length)++((Bd st ep aD sd tx rD rT bx (rQ.take 64)).2.2.2)))++Ah (Ea (AT (KQ ok) (mx.getD ((A5 fi lT mx.length tD)-lT) AW) [109,101,115,115,97,103,101]) (replicate 12 (0:Int)) ((((([]++Ah oi)++Ah (A5 fi lT mx.length tD))++Ah (lT+mx.length-1))++Ah ((Bd st ep aD sd tx rD rT bx (rQ.take 64)).2.2.2).length)++((Bd st ep aD sd tx rD rT bx (rQ.take 64)).2.2.2)) tT).length)++(Ea (AT (KQ ok) (mx.getD ((A5 fi lT mx.length tD)-lT) AW) [109,101,115,115,97,103,101]) (replicate 12 (0:Int)) ((((([]++Ah oi)++Ah (A5 fi lT mx.length tD))++Ah (lT+mx.length-1))++Ah ((Bd st ep aD sd tx rD rT bx (rQ.take 64)).2.2.2).length)++((Bd st ep aD sd tx rD rT bx (rQ.take 64)).2.2.2)) tT))))
section
variable (id:Ad) (fi:Bool) (ok:Ad) (oi:Nat) (ik:Ad) (ii lT:Nat) (mx:AZ) (lD tD:Nat) (kl:List KR) (st:Nat) (ep aD:Nat) (sd tx:Ad) (rD rT:Nat) (bx:CE) (tT rQ:Ad)
def lE (z_:Ad×Nat×Nat×Ad×Ad×Ad:=dM fi ok oi lT mx tD st ep aD sd tx rD rT bx tT rQ):Con:=⟨[.cp 0 0,lb tT,lb rQ],[(0,G4 id fi true 1 2 3 lT mx lD tD kl),(1,Al ok oi),(2,Al ik ii),(3,AI st ep aD sd tx 4),(4,AQ rD rT bx)],.tu (Ag [lb (z_.2.2.2.2.2),vi (oi:Int),vi 0]),[(0,G4 id fi true 1 2 3 lT mx lD tD kl),(1,Al (z_.1) z_.2.1),(2,Al ik ii),(3,AI st ep z_.2.2.1 (z_.2.2.2.1) (z_.2.2.2.2.1) 4),(4,AQ rD rT bx)]⟩
theorem nM (hok:ok.length=32) (hik:ik.length=32) (hoi:oi<=100000000000) (hii:ii<=100000000000) (hm1:1<=mx.length/\mx.length<=100000) (hm2:∀j,(mx.getD j AW).length<=32) (hlow:lT<=100000000000) (hmn:lT<=A5 fi lT mx.length tD) (htx0:tT.length<=500) (hr0:rQ.length=128) (hst:st=1\/st=2\/st=3) (he:ep<=400000000) (ha:aD<=1000000000) (ht:(st=1->tx.length=0\/tx.length=1184)/\(st=3->tx.length=1088)) (htl:tx.length<=10000):AO 24 (lE id fi ok oi ik ii lT mx lD tD kl st ep aD sd tx rD rT bx tT rQ):=by
 refine cy 5 func24 rfl ntmps24 λY V=> ?_;have hr1:((rQ.length:Nat):Int)=128:=Ac;have hx1:¬(500:Int)<((tT.length:Nat):Int):=Ac;refine Ak [] 5 V λV=>Ao (BK (Ay [(1,Kf (Cu) [0,1] [.im (Ag [.top,.top,.top,.im (Ag []) 0,.top,.top,.top,.top,.top,.top,.top]) 0]),(5,Gd hr1)] [] 5 V λV=>Ai V (Ay [(2,CH hx1)] [] 5 V λV=>Ai V (GT (Ak [] 5 V λV=>Ao (Ak [] 5 V λV=>AE V (Ak [] 5 V λV=>Aw [(2,Zi 64 rQ.length),(3,AC (oU st ep aD sd tx rD rT bx (rQ.take 64) A3 Au Ac Ac A3) [(0,3),(1,4)] [])] [] 5 V λV=>Ae (Ay [(4,AC (Cw ok oi) [(0,1)] [])] [] 5 V λV=>Ay [(1,Kf (HJ fi lT mx tD HL Ac) [0,1] [.im (Ag [.top,.v (.bool fi),.top,.im (Ag []) 0,.top,.top,vi (lT:Int),.ls false A0 mx,.top,vi (tD:Int),.top]) 0])] [] 5 V λV=>Ak [] 6 V λV=>Ao ?_))))))));have hmx:=IZ fi lT mx.length tD Ac;have hw1:=An (n:=oi) Ac;have hw2:=An (n:=A5 fi lT mx.length tD) Ac;have hw3:=An (n:=lT+mx.length-1) Ac;have hpcl:=OC st ep aD sd tx rD rT bx (rQ.take 64) he htl (by rw[ao];omega) Ac;have hw4:=An (n:=((Bd st ep aD sd tx rD rT bx (rQ.take 64)).2.2.2).length) Ac;refine Aw [(2,Jn oi),(3,AC (LS oi Ac) [(0,5)] [(1,6)]),(5,Jn (A5 fi lT mx.length tD)),(6,AC (BF ([]++Ah oi) (A5 fi lT mx.length tD) Au Ac) [(0,5),(1,6)] [(2,7)]),(8,Kf (EB lT mx HL Ac) [0,1] [.im (Ag [.top,.top,.top,.im (Ag []) 0,.top,.top,vi (lT:Int),.ls false A0 mx,.top,.top,.top]) 0]),(9,Jn (lT+mx.length-1)),(10,AC (BF (([]++Ah oi)++Ah (A5 fi lT mx.length tD)) (lT+mx.length-1) Au Ac) [(0,5),(1,7)] [(2,8)]),(12,AC (Db ((([]++Ah oi)++Ah (A5 fi lT mx.length tD))++Ah (lT+mx.length-1)) ((Bd st ep aD sd tx rD rT bx (rQ.take 64)).2.2.2) Au Au) [(0,5),(1,8)] [(2,9)]),(13,AC (FS ((((([]++Ah oi)++Ah (A5 fi lT mx.length tD))++Ah (lT+mx.length-1))++Ah ((Bd st ep aD sd tx rD rT bx (rQ.take 64)).2.2.2).length)++((Bd st ep aD sd tx rD rT bx (rQ.take 64)).2.2.2)) Au) [(0,5),(1,9)] [])] [] 10 V λV=>CV ?_;have hmx:=IZ fi lT mx.length tD Ac;have hw1:=An (n:=oi) Ac;have hw2:=An (n:=A5 fi lT mx.length tD) Ac;have hw3:=An (n:=lT+mx.length-1) Ac;have hpcl:=OC st ep aD sd tx rD rT bx (rQ.take 64) he htl (by rw[ao];omega) Ac;have hw4:=An (n:=((Bd st ep aD sd tx rD rT bx (rQ.take 64)).2.2.2).length) Ac;have hhd:((((([]++Ah oi)++Ah (A5 fi lT mx.length tD))++Ah (lT+mx.length-1))++Ah ((Bd st ep aD sd tx rD rT bx (rQ.take 64)).2.2.2).length)++((Bd st ep aD sd tx rD rT bx (rQ.take 64)).2.2.2)).length<=1200:=by simp only[ah,av];omega
 refine Aw [(5,AC (IL ok oi Au Ac) [(0,1)] []),(7,AC (Zy id fi (V7 ok) (oi+1) ik ii lT mx lD tD kl st ep ((Bd st ep aD sd tx rD rT bx (rQ.take 64)).1) ((Bd st ep aD sd tx rD rT bx (rQ.take 64)).2.1) ((Bd st ep aD sd tx rD rT bx (rQ.take 64)).2.2.1) rD rT bx (KQ ok) (A5 fi lT mx.length tD) HL (by first |assumption|(intro j;simp<;>omega)) Ac Au Ac) [(0,0),(1,1),(2,2),(3,3),(4,4)] []),(8,QP .mf [(12:Int)=12,(0:Int)<=12,1*12<=281474976710656,(12:Int)<=9223372036854775807] ⟨rfl,by omega,by omega,by omega,aa⟩),(11,AS (XY (AT (KQ ok) (mx.getD ((A5 fi lT mx.length tD)-lT) AW) [109,101,115,115,97,103,101]) (replicate 12 (0:Int)) ((((([]++Ah oi)++Ah (A5 fi lT mx.length tD))++Ah (lT+mx.length-1))++Ah ((Bd st ep aD sd tx rD rT bx (rQ.take 64)).2.2.2).length)++((Bd st ep aD sd tx rD rT bx (rQ.take 64)).2.2.2)) tT Au Au Au Au))] [] 10 V λV=>CV ?_;have hmx:=IZ fi lT mx.length tD Ac;have hw1:=An (n:=oi) Ac;have hw2:=An (n:=A5 fi lT mx.length tD) Ac;have hw3:=An (n:=lT+mx.length-1) Ac;have hpcl:=OC st ep aD sd tx rD rT bx (rQ.take 64) he htl (by rw[ao];omega) Ac;have hw4:=An (n:=((Bd st ep aD sd tx rD rT bx (rQ.take 64)).2.2.2).length) Ac;have hhd:((((([]++Ah oi)++Ah (A5 fi lT mx.length tD))++Ah (lT+mx.length-1))++Ah ((Bd st ep aD sd tx rD rT bx (rQ.take 64)).2.2.2).length)++((Bd st ep aD sd tx rD rT bx (rQ.take 64)).2.2.2)).length<=1200:=by simp only[ah,av];omega
 have hw5:=An (n:=((((([]++Ah oi)++Ah (A5 fi lT mx.length tD))++Ah (lT+mx.length-1))++Ah ((Bd st ep aD sd tx rD rT bx (rQ.take 64)).2.2.2).length)++((Bd st ep aD sd tx rD rT bx (rQ.take 64)).2.2.2)).length) Ac;have hw5s:=hw5;simp only[ah,av]at hw5s;have hsl:(Ea (AT (KQ ok) (mx.getD ((A5 fi lT mx.length tD)-lT) AW) [109,101,115,115,97,103,101]) (replicate 12 (0:Int)) ((((([]++Ah oi)++Ah (A5 fi lT mx.length tD))++Ah (lT+mx.length-1))++Ah ((Bd st ep aD sd tx rD rT bx (rQ.take 64)).2.2.2).length)++((Bd st ep aD sd tx rD rT bx (rQ.take 64)).2.2.2)) tT).length=tT.length+32:=L_ ..;have hw6:=An (n:=(Ea (AT (KQ ok) (mx.getD ((A5 fi lT mx.length tD)-lT) AW) [109,101,115,115,97,103,101]) (replicate 12 (0:Int)) ((((([]++Ah oi)++Ah (A5 fi lT mx.length tD))++Ah (lT+mx.length-1))++Ah ((Bd st ep aD sd tx rD rT bx (rQ.take 64)).2.2.2).length)++((Bd st ep aD sd tx rD rT bx (rQ.take 64)).2.2.2)) tT).length) Ac;have hw5t:=hw5;simp at hw5t;have hw6t:=hw6;simp at hw6t;exact Aw [(2,AC (IP ((((([]++Ah oi)++Ah (A5 fi lT mx.length tD))++Ah (lT+mx.length-1))++Ah ((Bd st ep aD sd tx rD rT bx (rQ.take 64)).2.2.2).length)++((Bd st ep aD sd tx rD rT bx (rQ.take 64)).2.2.2)) Au) [(0,10)] [(1,11)]),(4,AC (Db (([]++Ah ((((([]++Ah oi)++Ah (A5 fi lT mx.length tD))++Ah (lT+mx.length-1))++Ah ((Bd st ep aD sd tx rD rT bx (rQ.take 64)).2.2.2).length)++((Bd st ep aD sd tx rD rT bx (rQ.take 64)).2.2.2)).length)++((((([]++Ah oi)++Ah (A5 fi lT mx.length tD))++Ah (lT+mx.length-1))++Ah ((Bd st ep aD sd tx rD rT bx (rQ.take 64)).2.2.2).length)++((Bd st ep aD sd tx rD rT bx (rQ.take 64)).2.2.2))) (Ea (AT (KQ ok) (mx.getD ((A5 fi lT mx.length tD)-lT) AW) [109,101,115,115,97,103,101]) (replicate 12 (0:Int)) ((((([]++Ah oi)++Ah (A5 fi lT mx.length tD))++Ah (lT+mx.length-1))++Ah ((Bd st ep aD sd tx rD rT bx (rQ.take 64)).2.2.2).length)++((Bd st ep aD sd tx rD rT bx (rQ.take 64)).2.2.2)) tT) Au Au) [(0,10),(1,11)] [(2,12)]),(5,AC (FS (((([]++Ah ((((([]++Ah oi)++Ah (A5 fi lT mx.length tD))++Ah (lT+mx.length-1))++Ah ((Bd st ep aD sd tx rD rT bx (rQ.take 64)).2.2.2).length)++((Bd st ep aD sd tx rD rT bx (rQ.take 64)).2.2.2)).length)++((((([]++Ah oi)++Ah (A5 fi lT mx.length tD))++Ah (lT+mx.length-1))++Ah ((Bd st ep aD sd tx rD rT bx (rQ.take 64)).2.2.2).length)++((Bd st ep aD sd tx rD rT bx (rQ.take 64)).2.2.2)))++Ah (Ea (AT (KQ ok) (mx.getD ((A5 fi lT mx.length tD)-lT) AW) [109,101,115,115,97,103,101]) (replicate 12 (0:Int)) ((((([]++Ah oi)++Ah (A5 fi lT mx.length tD))++Ah (lT+mx.length-1))++Ah ((Bd st ep aD sd tx rD rT bx (rQ.take 64)).2.2.2).length)++((Bd st ep aD sd tx rD rT bx (rQ.take 64)).2.2.2)) tT).length)++(Ea (AT (KQ ok) (mx.getD ((A5 fi lT mx.length tD)-lT) AW) [109,101,115,115,97,103,101]) (replicate 12 (0:Int)) ((((([]++Ah oi)++Ah (A5 fi lT mx.length tD))++Ah (lT+mx.length-1))++Ah ((Bd st ep aD sd tx rD rT bx (rQ.take 64)).2.2.2).length)++((Bd st ep aD sd tx rD rT bx (rQ.take 64)).2.2.2)) tT)) Au) [(0,10),(1,12)] [])] [7] 13 V λV=>Fa (BX (Ab _) V)
end
theorem dL (rX:Ad) (hr:rX.length=32):AO 23 ⟨[lb rX,.v (.bool true),.v (.bool true)],[],.tu (Ag [.cp 0 0,vi 0]),[(0,.ob 80 (Ag [lb (CM rX (ByteArray.mk #[112,97,105,114])),.v (.bool true),.v (.bool true),.cp 1 0,.cp 2 0,.cp 3 0,vi 0,.ls true A0 [CM rX (ByteArray.mk #[109,105,120])],vi 0,vi 0,.v (.slice none 0 0)])),(1,QM (CM rX (ByteArray.mk #[102,105,114,115,116]))),(2,QM (CM rX (ByteArray.mk #[111,116,104,101,114]))),(3,.ob 126 (Ag [vi 1000,vi 1,vi 0,vi 0,.v (.slice none 0 0),.v (.slice none 0 0),.cp 4 0,.v (.slice none 0 0)])),(4,bS ((2*0)+1) 5),(5,.sl 22 A8 (replicate (((1088+1000)-1)/1000) none))]⟩:=by refine cy 0 func23 rfl ntmps23 λY V=> ?_;have hr1:((rX.length:Nat):Int)=32:=Ac;exact Ak [] 0 V λV=>Ao (Ay [(2,Gd hr1)] [] 0 V λV=>Ai V (BR (Ay [(1,AS (Fx rX (ByteArray.mk #[112,97,105,114]) Au (by decide))),(5,AS (Fx rX (ByteArray.mk #[109,105,120]) Au (by decide)))] [] 1 V λV=>Ay [(2,AS (Fx rX (ByteArray.mk #[102,105,114,115,116]) Au (by decide))),(3,AC (KG (CM rX (ByteArray.mk #[102,105,114,115,116])) Au) [] [(0,1)])] [] 2 V λV=>Ay [(2,AS (Fx rX (ByteArray.mk #[111,116,104,101,114]) Au (by decide))),(3,AC (KG (CM rX (ByteArray.mk #[111,116,104,101,114])) Au) [] [(0,2)])] [] 3 V λV=>Ao (Ak [] 3 V λV=>Ai V (DZ (Ak [] 3 V λV=>AE V (Aw [(2,AC (IY 1000 Ac) [] [(0,3),(1,4),(2,5)])] [] 6 V λV=>Ae (Ak [] 6 V λV=>AU (BN V)))))))))
theorem dJ (rX:Ad) (hr:rX.length=32):AO 23 ⟨[lb rX,.v (.bool false),.v (.bool true)],[],.tu (Ag [.cp 0 0,vi 0]),[(0,.ob 80 (Ag [lb (CM rX (ByteArray.mk #[112,97,105,114])),.v (.bool false),.v (.bool true),.cp 1 0,.cp 2 0,.cp 3 0,vi 0,.ls true A0 [CM rX (ByteArray.mk #[109,105,120])],vi 0,vi 0,.v (.slice none 0 0)])),(1,QM (CM rX (ByteArray.mk #[111,116,104,101,114]))),(2,QM (CM rX (ByteArray.mk #[102,105,114,115,116]))),(3,.ob 126 (Ag [vi 1000,vi 2,vi 0,vi 0,.v (.slice none 0 0),.v (.slice none 0 0),.cp 4 0,.v (.slice none 0 0)])),(4,XB (2*0) 5),(5,.sl 22 A8 (replicate (((1184+1000)-1)/1000) none))]⟩:=by refine cy 0 func23 rfl ntmps23 λY V=> ?_;have hr1:((rX.length:Nat):Int)=32:=Ac;refine Ak [] 0 V λV=>Ao (Ay [(2,Gd hr1)] [] 0 V λV=>Ai V (BR (Ay [(1,AS (Fx rX (ByteArray.mk #[112,97,105,114]) Au (by decide))),(5,AS (Fx rX (ByteArray.mk #[109,105,120]) Au (by decide)))] [] 1 V λV=>Ay [(2,AS (Fx rX (ByteArray.mk #[102,105,114,115,116]) Au (by decide))),(3,AC (KG (CM rX (ByteArray.mk #[102,105,114,115,116])) Au) [] [(0,1)])] [] 2 V λV=>Ay [(2,AS (Fx rX (ByteArray.mk #[111,116,104,101,114]) Au (by decide))),(3,AC (KG (CM rX (ByteArray.mk #[111,116,104,101,114])) Au) [] [(0,2)])] [] 3 V λV=>Ao (Ak [] 3 V λV=>AE V (CW [] 3 V λV=>CV (Ak [] 3 V λV=>AE V (Aw [(2,AC (pD 1000 Ac) [] [(0,3),(1,4),(2,5)])] [] 6 V λV=>Ae (Ak [] 6 V λV=>AU ?_))))))));obtain⟨gs,V⟩:=V.rx [(0,0),(1,2),(2,1),(3,3),(4,4),(5,5)] [6,7] [0,1,2,3,4,5] 6 Y;exact BN V
def fky (mx:AZ) (key:Ad):Ad:=AT (KQ key) (mx.getD 0 AW) [109,101,115,115,97,103,101]
theorem eX {xs:Ad} {m n:Nat} {r:Ad} (h:JM xs=some ((n:Int),r)) (h1:n<=m) (h2:n<=r.length):Bw xs m=true:=by
 have hB:=JK h;have hV:=H9 h;have hs:DO xs m=true:=by unfold DO;rw[Ab];rw[ab hB,hV,aj (by show¬(m:Int)<(n:Int);omega)]
 unfold Bw;rw[Ab];rw[ab hs,hV];have hf:Cy r n=true:=by unfold Cy;rw[Ab];rw[aj Ac]
 show(if Cy r (n:Int).toNat=true then true else false)=true;rw[bh,ab hf]
theorem dN {xs:Ad} {n:Nat} {r:Ad} (h:JM xs=some ((n:Int),r)) (h1:n<=2147483648):DI xs=true:=by unfold DI;rw[Ab];rw[ab (JK h),H9 h,aj (by show¬(2147483648:Int)<(n:Int);omega)]
theorem UL:Ec []=true:=by unfold Ec;rw[Ab];rfl
theorem RR (key num data:Ad) {tT:Ad} (h:By tT):BA key num data (Ea key num data tT)=(tT,0):=by
 have hb:∀(k:Ad) (u1:Nat->Int) (r1:Ad) (n1:Int) (u2:Nat->Int) (r2:Ad) (n2:Int),Ic k u1 r1 n1 u2 r2 n2 num data (Jc k u1 r1 n1 u2 r2 n2 num data tT)=(tT,0):=by
  intro k u1 r1 n1 u2 r2 n2;have hl:(Jc k u1 r1 n1 u2 r2 n2 num data tT).length=tT.length+32:=by unfold Jc;rw[Ab];rw[ah,Hs,Pl]
  unfold Ic;rw[Ab];rw[hl,aj Ac,show(((tT.length+32:Nat):Int)-32).toNat=(EM k num tT).length by rw[Hs];omega];unfold Jc;rw[Ab];rw[take_left,drop_left,ab rfl,aN k num h]
 unfold BA;rw[Ab];unfold Ea;rw[Ab];rw[hb]
theorem Mt (A:Ad) (m:Nat):∀n,Bm (Bm A m) n=Bm A (m+n)
 |0=>rfl
 |n+1=>by show V7 (Bm (Bm A m) n)=V7 (Bm A (m+n));rw[Mt A m n]
section
variable (mx:AZ) (A:Ad)
def Ab1 (j:Nat):KR:=((j:Int),(0:Int),[fky mx (Bm A j)])
def kls (js:List Nat):List KR:=js.map (Ab1 mx A)
end
structure RI (ii:Nat) (js:List Nat):Prop where
 len:js.length<=60
 nd:js.Nodup
 lt:∀j,j∈js->j<ii
def LM (ii:Nat) (js:List Nat) (i:Nat):Bool:=if i<ii then decide (i∈js)else decide (i<=ii+40)
def T8 (ii i:Nat):Nat:=if i<ii then 5 else 6
def nI (ii i:Nat):Nat:=if i<ii then ii else i+1
def nJ (ii:Nat) (js:List Nat) (i:Nat):List Nat:=if i<ii then js.filter (· !=i)else(js++List.range' ii (i-ii)).drop ((js++List.range' ii (i-ii)).length-60)
theorem RI.next {ii:Nat} {js:List Nat} {i:Nat} (h:RI ii js):RI (nI ii i) (nJ ii js i):=by
 unfold nI nJ;by_cases hi:i<ii
 ·rw[ab hi,ab hi];exact⟨b_ (List.length_filter_le ..) h.len,h.nd.filter _,λj hj=>h.lt j (gv.1 hj).1⟩
 ·rw[aj hi,aj hi];refine⟨by rw[au];omega,List.Pairwise.drop ?_,λj hj=> ?_⟩
  ·refine h_.2 ⟨h.nd,List.nodup_range' ..,λa ha b hb e=> ?_⟩;have :=h.lt a ha;rw[List.mem_range'_1]at hb;omega
  ·rcases bn.1 (cw hj)with h1|h1
   ·have :=h.lt j h1;omega
   ·rw[List.mem_range'_1]at h1;omega
def ints (l:List Nat):Ad:=l.map λj=>((j:Nat):Int)
theorem ZZ {js:List Nat} {n:Nat} (h:n<js.length):(ints js).getD n 0=((js[n]:Nat):Int):=by unfold ints;rw[al,eo,am h];rfl
theorem sP (a ii:Nat) (js:List Nat) (i:Nat):∀n,n<=js.length->IM a ii (ints js) i n=(decide (i∈js.take n),ints ((js.take n).filter (· !=i)))
 |0,_=>by simp [ints];rfl
 |n+1,h=>by
  have hn:n<js.length:=by omega
  show Im (ints js) i n (IM a ii (ints js) i n)=_;rw[sP a ii js i n Ac,da hn,List.filter_append];unfold Im;simp only[ZZ hn];by_cases e:js[n]=i
  ·rw[ab Ac];simp [e]
  ·rw[aj Ac];have e2:¬i=js[n]:=λh=>e h.symm;simp [e,e2,ints,-List.take_append_getElem]
theorem XN (a ii:Nat) (js:List Nat) (i:Nat):∀k,Ck a ii (ints js) i k=(ii+k,ints (js++List.range' ii k))
 |0=>by
  show(ii,[]++ints js)=_;simp
 |k+1=>by show Kh k (Ck a ii (ints js) i k)=_;rw[XN a ii js i k,List.range'_concat];unfold Kh;simp [ints,gx]
theorem XM (a:Nat) {ii:Nat} {js:List Nat} (i:Nat) (hR:RI ii js):Wa a ii (ints js) i=if LM ii js i=true then(nI ii i,ints (nJ ii js i),0)else(ii,ints js,T8 ii i):=by
 have hl:(ints js).length=js.length:=cg ..;unfold Wa;rw[Ab];unfold LM nI nJ T8;by_cases h:i<ii
 ·rw[ab Ac,hl,sP a ii js i _ (an _),e_];simp only[ab h];by_cases hj:i∈js<;>simp [hj]
 ·rw[aj Ac];simp only[aj h];by_cases h2:i<=ii+40
  ·have hlst : i - ii = DX λj => Da i (Ck a ii (ints js) i j) := by
    refine CB (P:=λj=>Da i (Ck a ii (ints js) i j)) ?_ ?_
    ·show¬Da i (Ck a ii (ints js) i (i-ii));rw[XN];show¬(((ii+(i-ii):Nat):Int)<(i:Int));omega
    ·intro j hj;show Da i (Ck a ii (ints js) i j);rw[XN];show(((ii+j:Nat):Int)<(i:Int));omega
   rw[aj Ac,<-hlst,XN];have hli:(ints (js++List.range' ii (i-ii))).length=(js++List.range' ii (i-ii)).length:=cg ..;simp only[hli,decide_eq_true h2,if_true];have hd:ints ((js++List.range' ii (i-ii)).drop ((js++List.range' ii (i-ii)).length-60))=(ints (js++List.range' ii (i-ii))).drop ((js++List.range' ii (i-ii)).length-60):=by unfold ints;rw[List.map_drop]
   by_cases h6:(60:Int)<(((js++List.range' ii (i-ii)).length:Nat):Int)
   ·rw[ab h6,hd]
   ·rw[aj h6,hd,show(js++List.range' ii (i-ii)).length-60=0 by omega,ig]
  ·rw[ab Ac,decide_eq_false h2];rfl
structure EndH where
 ok:Ad
 oi:Nat
 ik:Ad
 ii:Nat
 lT:Nat
 mx:AZ
 lD:Nat
 tD:Nat
 kl:List KR
 st:Nat
 ep:Nat
 aD:Nat
 sd:Ad
 tx:Ad
 rD:Nat
 rT:Nat
 bx:CE
def N2 (n m l:Nat) (pc:Ad):Ad:=((((([]++Ah n)++Ah m)++Ah l)++Ah pc.length)++pc)
def QX (ok mix:Ad) (n m l:Nat) (pc tT:Ad):Ad:=Ea (AT (KQ ok) mix [109,101,115,115,97,103,101]) (replicate 12 (0:Int)) (N2 n m l pc) tT
def QW (ok mix:Ad) (n m l:Nat) (pc tT:Ad):Ad:=(([]++Ah (N2 n m l pc).length)++N2 n m l pc)++Ah (QX ok mix n m l pc tT).length++QX ok mix n m l pc tT
def EndH.num (e:EndH) (fi:Bool):Nat:=A5 fi e.lT e.mx.length e.tD
def EndH.pc (e:EndH) (rQ:Ad):Nat×Ad×Ad×Ad:=Bd e.st e.ep e.aD e.sd e.tx e.rD e.rT e.bx (rQ.take 64)
structure SndOk (fi:Bool) (e:EndH):Prop where
 ok:e.ok.length=32
 ik:e.ik.length=32
 oi:e.oi<=1000000
 ii:e.ii<=1000000
 m1:1<=e.mx.length/\e.mx.length<=80000
 m2:∀j,(e.mx.getD j AW).length<=32
 lT:e.lT<=10000000
 mn:e.lT<=A5 fi e.lT e.mx.length e.tD
 st:e.st=1\/e.st=2\/e.st=3
 ep:e.ep<=100000000
 aD:e.aD<=100000000
 tx:(e.st=1->e.tx.length=0\/e.tx.length=1184)/\(e.st=3->e.tx.length=1088)
 txl:e.tx.length<=10000
theorem AaA (n:Nat):0<(Ah n).length:=by rw[Ah];split<;>simp
theorem EndH.pc_le {fi:Bool} {e:EndH} (h:SndOk fi e) {rQ:Ad} (hr:rQ.length=128):(e.pc rQ).2.2.2.length<=1040:=
 OC e.st e.ep e.aD e.sd e.tx e.rD e.rT e.bx (rQ.take 64) (by have :=h.ep;omega) h.txl (by rw[ao];omega) (by have :=h.aD;omega)
theorem YL {ok mix:Ad} {n m l:Nat} {pc tT:Ad} (h:n<2^62/\m<2^62/\l<2^62) (hp:pc.length<=1040) (ht:tT.length<=500):0<(QW ok mix n m l pc tT).length/\(QW ok mix n m l pc tT).length<=4000:=by
 unfold QW QX N2;have w1:=An (n:=n) Ac;have w2:=An (n:=m) Ac;have w3:=An (n:=l) Ac;have w4:=An (n:=pc.length) Ac;generalize hH:(((([]++Ah n)++Ah m)++Ah l)++Ah pc.length)++pc=H;have hl:H.length<=1200:=by rw[<-hH];simp only[ah,av];omega
 have w5:=An (n:=H.length) Ac;have w6:=An (n:=tT.length+32) Ac;simp only[ah,av,L_];omega
theorem EndH.num_le {fi:Bool} {e:EndH} (h:SndOk fi e):e.num fi<=20000000:=by have :=IZ fi e.lT e.mx.length e.tD h.m1.1;have h2:=h.m1;have h3:=h.lT;unfold EndH.num;omega
structure PS where
 ida:Ad
 idb:Ad
 a:EndH
 b:EndH
 na:Nat
 ia:Nat
 ja:List Nat
 nb:Nat
 ib:Nat
 jb:List Nat
 fl:LzF
section
variable (a ii:Nat) (js:List Nat) (i:Nat)
theorem Ud (hR:RI ii js) (hii:ii<=1000000) (hi:i<=1000000) (hs:LM ii js i=true):AO 35 ⟨[.ag (Ag [vi (a:Int),vi (ii:Int),.ls false F5 (ints js)]),vi (i:Int)],[],.tu (Ag [.ag (Ag [vi (a:Int),vi ((nI ii i:Nat):Int),.ls false F5 (ints (nJ ii js i))]),vi 0]),[]⟩:=by have hl:(ints js).length=js.length:=cg ..;have h6:=hR.len;have h:=XI a ii (ints js) i Ac ⟨by omega,by omega⟩;unfold Xh at h;rw[XM a i hR,hs]at h;exact h
theorem Ue (hR:RI ii js) (hii:ii<=1000000) (hi:i<=1000000) (hs:LM ii js i=false):AO 35 ⟨[.ag (Ag [vi (a:Int),vi (ii:Int),.ls false F5 (ints js)]),vi (i:Int)],[],.tu (Ag [.ag (Ag [vi (a:Int),vi (ii:Int),.ls false F5 (ints js)]),vi ((T8 ii i:Nat):Int)]),[]⟩:=by have hl:(ints js).length=js.length:=cg ..;have h6:=hR.len;have h:=XI a ii (ints js) i Ac ⟨by omega,by omega⟩;unfold Xh at h;rw[XM a i hR,hs]at h;exact h
end
theorem dK:AO 23 ⟨[.v (.slice none 0 0),.v (.bool true),.v (.bool false)],[],.tu (Ag [.v (.pointer none),vi 1]),[]⟩:=by exact cy 0 func23 rfl ntmps23 λY V=>Ak [] 0 V λV=>Ao (Ak [] 0 V λV=>AE V (Ak [] 0 V λV=>AU (Aj (BN V))))
theorem by1 {b:Int} (h:0<=b/\b<256):By [b]:=λx hx=>by rw[bo.1 hx];exact h
theorem Qd (xs ys:Ad) (h:xs=ys):AO 31 ⟨[.ls false F5 xs,.ls false F5 ys],[],.v (.bool true),[]⟩:=by have h2:=pW xs ys;unfold lR at h2;rw[decide_eq_true h]at h2;exact h2
structure EOk (fi:Bool) (e:EndH):Prop extends SndOk fi e where
 K:KOk e.kl
 ll:e.lT<=e.lD/\e.lD<=20000000
 td:e.tD<=20000000
 rT:e.rT=(if e.st=1 then 1088 else 1184)
 rD:e.rD=(if e.st=1 then 2*e.ep+1 else 2*e.ep)
 bx:e.bx.length=2
structure mU (id:Ad) (fi:Bool) (e:EndH) (xs rQ:Ad) (e2:EndH) (tT:Ad) (n:Nat):Prop where
 same:e2.ok=e.ok/\e2.oi=e.oi
 ex:∃pid pa d,GB e.st e.ep e.sd e.tx e.bx (Aa xs).2.2.2.2.1 pid pa d/\Dv id fi e.ok e.oi e.ik e.ii e.lT e.mx e.lD e.tD e.kl e.st e.ep e.aD e.sd e.tx e.rD e.rT e.bx xs rQ pid pa d=true/\Br id fi e.ok e.oi e.ik e.ii e.lT e.mx e.lD e.tD e.kl e.st e.ep e.aD e.sd e.tx e.rD e.rT e.bx xs rQ pid pa d=(e2.ik,e2.ii,e2.st,e2.ep,e2.aD,e2.sd,e2.tx,e2.rD,e2.rT,e2.bx,e2.lT,e2.mx,e2.lD,e2.tD,e2.kl,tT,n)
section
variable (p:PS) (e2:EndH) (n:Nat)
def PS.dlvA:PS:={p with b:=e2,ia:=nI p.ia n,ja:=nJ p.ia p.ja n}
def PS.dlvB:PS:={p with a:=e2,ib:=nI p.ib n,jb:=nJ p.ib p.jb n}
end
def CQ (x0 x1:Nat) (x2 x3:Nat) (x4:Ad) (x5 x6:Nat) (x7:Ad) (x8:Nat):O:= .ob 39 (Ag [.cp x0 0,.cp x1 0,vi ((x2:Nat):Int),vi ((x3:Nat):Int),.ls false F5 x4,vi ((x5:Nat):Int),vi ((x6:Nat):Int),.ls false F5 x7,.sk x8])
def EH (rX:Ad):PS where
 ida:=vV rX
 idb:=vV rX
 a:=⟨pA rX,0,pB rX,0,0,[pM rX],0,0,[],1,0,0,[],[],2*0+1,1088,replicate (((1088+1000)-1)/1000) none⟩
 b:=⟨pB rX,0,pA rX,0,0,[pM rX],0,0,[],2,0,0,[],[],2*0,1184,replicate (((1184+1000)-1)/1000) none⟩
 na:=0
 ia:=0
 ja:=[]
 nb:=0
 ib:=0
 jb:=[]
 fl:=[]
theorem WO (rX:Ad) (hr:rX.length=32):AO 12 ⟨[lb rX,.v (.bool true)],[],.tu (Ag [.cp 0 0,.v (.bool true)]),[(0,CQ 1 6 ((EH rX).na) ((EH rX).ia) (ints (EH rX).ja) ((EH rX).nb) ((EH rX).ib) (ints (EH rX).jb) 11),(1,G4 ((EH rX).ida) true true 2 3 4 ((EH rX).a.lT) ((EH rX).a.mx) ((EH rX).a.lD) ((EH rX).a.tD) ((EH rX).a.kl)),(2,Al ((EH rX).a.ok) ((EH rX).a.oi)),(3,Al ((EH rX).a.ik) ((EH rX).a.ii)),(4,AI ((EH rX).a.st) ((EH rX).a.ep) ((EH rX).a.aD) ((EH rX).a.sd) ((EH rX).a.tx) 5),(5,AQ ((EH rX).a.rD) ((EH rX).a.rT) ((EH rX).a.bx)),(6,G4 ((EH rX).idb) false true 7 8 9 ((EH rX).b.lT) ((EH rX).b.mx) ((EH rX).b.lD) ((EH rX).b.tD) ((EH rX).b.kl)),(7,Al ((EH rX).b.ok) ((EH rX).b.oi)),(8,Al ((EH rX).b.ik) ((EH rX).b.ii)),(9,AI ((EH rX).b.st) ((EH rX).b.ep) ((EH rX).b.aD) ((EH rX).b.sd) ((EH rX).b.tx) 10),(10,AQ ((EH rX).b.rD) ((EH rX).b.rT) ((EH rX).b.bx)),(11,.sl 48 CJ ((EH rX).fl))]⟩:=by refine cy 0 func12 rfl ntmps12 λY V=>Ak [] 0 V λV=>Ak [] 1 V λV=>Ao (Ak [] 1 V λV=>BK (wp_loop_rounds 3 ?_));refine AX (n:=2) (Ao (Ak [12] 1 V λV=>AE V (B6 (Ay [(4,AC (dL rX Au) [] [(0,1),(1,2),(2,3),(3,4),(4,5),(5,6)])] [16,17,18,19,20,21,22,23] 7 V λV=>Ao (Ak [24,25,26,27,28] 7 V λV=>Ai V (BR (Aw [(5,AN 0 2)] [30,31,32,33,34,35] 7 V λV=>Cn (CW [7,14,15] 7 V λV=>Ae ?_))))))));refine AX (n:=1) (Ao (Ak [12] 7 V λV=>AE V (B6 (Ay [(4,AC (dJ rX Au) [] [(0,7),(1,8),(2,9),(3,10),(4,11),(5,12)])] [16,17,18,19,20,21,22,23] 13 V λV=>Ao (Ak [24,25,26,27,28] 13 V λV=>Ai V (BR (Aw [(5,AN 1 2)] [30,31,32,33,34,35] 13 V λV=>Cn (CW [7,14,15] 13 V λV=>Ae ?_))))))));refine AX (n:=0) (Ao (Ak [] 13 V λV=>Ai V (I8 ?_)));have V:=V.wko 0 [.top,.top,.top,.top,.ls false F5 [],.top,.top,.ls false F5 [],.top];obtain⟨gs,V⟩:=V.nilob 0 8 48 CJ;have V:=V.wko 1 [.top,.top,.top,.top,.top,.top,.top,.ls false A0 [],.top,.top,.ls false Ct []];have V:=V.wko 7 [.top,.top,.top,.top,.top,.top,.top,.ls false A0 [],.top,.top,.ls false Ct []];have V:=V.wko 4 [.top,.top,.top,.top,lb [],lb [],.top,.top];have V:=V.wko 10 [.top,.top,.top,.top,lb [],lb [],.top,.top];obtain⟨gs,V⟩:=V.fy 6 22 A8 (replicate (((1088+1000)-1)/1000) none) ((show true=true->(replicate (((1088+1000)-1)/1000) none)≠[]from λ_=>by decide) rfl);obtain⟨gs,V⟩:=V.fy 12 22 A8 (replicate (((1184+1000)-1)/1000) none) ((show true=true->(replicate (((1184+1000)-1)/1000) none)≠[]from λ_=>by decide) rfl);refine CW [0,1,6,7,8,9,13,14,15,16,17,18,19,20,21,22,23,24,25,26,27,28,29,30,31,32,33,34,35] 14 V λV=>Fa ?_;obtain⟨gs,V⟩:=V.rx [(0,0),(1,1),(2,2),(3,3),(4,4),(5,5),(6,7),(7,8),(8,9),(9,10),(10,11),(11,13)] [4,5] [0,1,2,3,4,5,6,7,8,9,10,11] 12 Y;exact BN V
def pc (E:Ad) (sz j:Nat):Ad:=(E.drop (j*sz)).take sz
theorem Yi (E:Ad) (sz:Nat):∀k,((List.range k).map (pc E sz)).flatten=E.take (k*sz)
 |0=>by simp
 |k+1=>by rw[List.range_succ,ce,de,Yi E sz k,fb,List.take_add];simp [pc]
def Good (E:Ad) (sz n:Nat) (bx:CE):Prop:=bx.length=n/\∀j,j<n->Jh bx j (pc E sz j)
theorem Yd {bx:CE} {pa:Nat} {d:Ad} (h:pa<bx.length) (j:Nat):List.getD (α:=Option Ad) (A2 bx pa d) j none=if j=pa then some d else List.getD (α:=Option Ad) bx j none:=by
 unfold A2;rw[al,List.getElem?_set];by_cases e:j=pa
 ·rw[ab e,ab e.symm,ab h];rfl
 ·rw[aj e,aj (λq=>e q.symm),al]
theorem Good.put {E:Ad} {sz n pa:Nat} {bx:CE} (h:Good E sz n bx) (hp:pa<n):Good E sz n (A2 bx pa (pc E sz pa)):=by
 refine⟨by rw[ET,h.1],λj hj=> ?_⟩;unfold Jh;rw[Yd (by rw[h.1];exact hp)];by_cases e:j=pa
 ·rw[ab e,e];exact .inr rfl
 ·rw[aj e];exact h.2 j hj
theorem YJ {bx:CE}:C_ bx=true↔∀j,j<bx.length->(List.getD (α:=Option Ad) bx j none).isSome=true:=by
 unfold C_;rw[ax];refine⟨λh j hj=> ?_,λh x hx=> ?_⟩
 ·rw[al,am hj];exact h _ (gr hj)
 ·obtain⟨j,hj,rfl⟩:=List.mem_iff_getElem.1 hx;have :=h j hj;rw[al,am hj]at this;exact this
theorem Good.all {E:Ad} {sz n:Nat} {bx:CE} (h:Good E sz n bx) (hf:C_ bx=true):Gt bx=(List.range n).map (pc E sz):=by
 refine io (by rw[cg,cg,d_,h.1]) λj h1 h2=> ?_;rw[cg]at h1;have h3:=YJ.1 hf j h1;have h4:=h.2 j (by rw[<-h.1];exact h1);unfold Jh at h4;rw[al,am h1]at h3 h4;rw[List.getElem_map,List.getElem_map,List.getElem_range];rcases h4 with h4|h4
 ·have h4:bx[j]=none:=h4;rw[ej,h4]at h3;cases h3
 ·have h4:bx[j]=some (pc E sz j):=h4;rw[h4];rfl
theorem xU {len sz:Nat} (hz:1<=sz):len<=(len+sz-1)/sz*sz:=by
 have :=(TK (len:=len) hz ((len+sz-1)/sz)).2;rcases ci ((len+sz-1)/sz*sz) len with h|h
 ·exact absurd (this h) (gy _)
 ·exact h
theorem Good.flat {E:Ad} {sz:Nat} {bx:CE} (hz:1<=sz) (h:Good E sz ((E.length+sz-1)/sz) bx) (hf:C_ bx=true):(Gt bx).flatten=E:=by rw[h.all hf,Yi,bp (xU hz)]
theorem eE (n j:Nat):List.getD (α:=Option Ad) (replicate n none) j none=none:=by rw[al,List.getElem?_replicate];split<;>rfl
theorem Good.nil (E:Ad) (sz n:Nat):Good E sz n (replicate n none):=⟨az,λj _=> .inl (eE n j)⟩
theorem iK {n pa:Nat} {d:Ad} (h:2<=n) (hp:pa<n):C_ (A2 (replicate n none) pa d)=false:=by
 cases hf:C_ (A2 (replicate n none) pa d)with
 |false=>rfl
 |true=>
  have :=YJ.1 hf (if pa=0 then 1 else 0) (by rw[ET,az];split<;>omega);rw[Yd (by rw[az];exact hp),aj (by split<;>omega),eE]at this;cases this
theorem W0 (ek m:Ad):(EE ek m).2.length=1088:=by unfold EE;rw[Ab];simp only[VE]
def B0:CE:=replicate 2 none
theorem T5 {pa:Nat} (d:Ad) (h:pa<2):C_ (A2 B0 pa d)=false:=iK (by decide) h
def Yw (st ep:Nat):Nat:=if st=3 then ep+1 else ep
theorem TF {sa ta:Ad} (h:sa.length=64/\ta=(AK (sa.take 32) (sa.drop 32)).1):chk ta=0/\ta.length=1184:=by obtain⟨h1,h2⟩:=h;rw[h2];exact⟨gX ..,(GQ _ _ (by rw[au];omega)).1⟩
theorem uV (id:Nat) {t:Ad} (h:t.length=1184\/t.length=1088):(Ar id t 1000).length=2:=by
 rw[H2];rcases h with h|h<;>rw[h]
theorem PU {t:Ad} {n pa:Nat} (h:t.length=n) (h2:n=1184\/n=1088) (hp:pa<2):(pc t 1000 pa).length=min 1000 (n-pa*1000)/\1<=(pc t 1000 pa).length/\(pc t 1000 pa).length<=1000:=by unfold pc;rw[ao,au,h];omega
theorem tN (n m l:Nat) (pc:Ad):N2 n m l pc=Ah n++(Ah m++(Ah l++(Ah pc.length++pc))):=by unfold N2;simp only[dx,bw]
theorem iF {n m l:Nat} {pc:Ad} (hn:n<=2147483648) (hm:m<=2147483648) (hl:l<=2147483648) (hp:pc.length<=4000) (ba bb:Ad):IB (N2 n m l pc) ba bb=true/\Ge (N2 n m l pc) ba bb=(n,m,l,pc):=by
 rw[tN];have m1:=JL (n:=n) Ac (Ah m++(Ah l++(Ah pc.length++pc)));have m2:=JL (n:=m) Ac (Ah l++(Ah pc.length++pc));have m3:=JL (n:=l) Ac (Ah pc.length++pc);have m4:=JL (n:=pc.length) Ac pc;have v1:=H9 m1;have v2:=H9 m2;have v3:=H9 m3;have v4:=H9 m4;generalize Ah n++(Ah m++(Ah l++(Ah pc.length++pc)))=X at *;have hp:HE X ba bb=true:=by unfold HE;rw[Ab];rw[v1];simp only[];rw[v2];simp only[];rw[v3];simp only[];rw[ab (dN m1 hn),ab (dN m2 hm),ab (dN m3 hl),ab (eX m4 hp (an _))]
 have hm:Df X ba bb=([],n,m,l,pc):=by unfold Df;rw[Ab];rw[v1];simp only[];rw[v2];simp only[];rw[v3];simp only[];rw[v4];simp
 constructor
 ·unfold IB;rw[Ab];rw[ab hp,hm,ab UL]
 ·unfold Ge;rw[Ab];rw[hm]
theorem AaX (ok mix:Ad) (n m l:Nat) (pc tT:Ad):QW ok mix n m l pc tT=Ah (N2 n m l pc).length++(N2 n m l pc++(Ah (QX ok mix n m l pc tT).length++QX ok mix n m l pc tT)):=by unfold QW;simp only[dx,bw]
theorem WP (ok mix:Ad) {n m l:Nat} {pc tT:Ad} (hn:n<=2147483648) (hm:m<=2147483648) (hl:l<=2147483648) (hp:pc.length<=1040) (ht:tT.length<=500):B9 (QW ok mix n m l pc tT)=true/\Aa (QW ok mix n m l pc tT)=(N2 n m l pc,n,m,l,pc,QX ok mix n m l pc tT):=by
 have hH:(N2 n m l pc).length<=1200:=by have w1:=An (n:=n) Ac;have w2:=An (n:=m) Ac;have w3:=An (n:=l) Ac;have w4:=An (n:=pc.length) Ac;rw[tN];simp only[ah];omega
 have hb:(QX ok mix n m l pc tT).length=tT.length+32:=L_ ..;have hh:=iF hn hm hl (show pc.length<=4000 by omega) (N2 n m l pc) (QX ok mix n m l pc tT);have e1:((([]++Ah (N2 n m l pc).length)++N2 n m l pc)++Ah (QX ok mix n m l pc tT).length)++QX ok mix n m l pc tT=QW ok mix n m l pc tT:=rfl;rw[AaX]at e1⊢;generalize N2 n m l pc=H at *;generalize QX ok mix n m l pc tT=X at *;have m1:=JL (n:=H.length) Ac (H++(Ah X.length++X));have m2:=JL (n:=X.length) Ac X;have v1:=H9 m1;have v2:=H9 m2;have t1:List.take H.length (H++(Ah X.length++X))=H:=take_left;have t2:List.drop H.length (H++(Ah X.length++X))=Ah X.length++X:=drop_left;have r1:Bw (Ah H.length++(H++(Ah X.length++X))) 4000=true:=eX m1 Ac (by rw[ah];omega);have r2:Bw (Ah X.length++X) 4000=true:=eX m2 Ac Ac;generalize Ah H.length++(H++(Ah X.length++X))=F at *;have hp:JH F=true:=by unfold JH;rw[Ab];simp only[v1,bh,t2,r1,r2,if_true]
 have hr:JF F=true:=by unfold JF;rw[Ab];simp only[hp,v1,bh,t2,v2,List.drop_length,UL,if_true]
 constructor
 ·unfold B9;rw[Ab];simp only[hr,v1,bh,t1,t2,v2,e_,hh.1,e1,if_true]
 ·unfold Aa;rw[Ab];simp only[v1,bh,t1,t2,v2,e_,hh.2]
def Mw (mx sec:AZ):AZ:=sec.foldl (λo b=>o++[AT (o.getD (o.length-1) AW) b [109,105,120]]) mx
def Jl (fi:Bool) (lT:Nat) (mx:AZ) (lD tD:Nat) (sec:AZ):Nat×AZ:=(min lD (A5 fi lT (Mw mx sec).length tD),(Mw mx sec).drop (min lD (A5 fi lT (Mw mx sec).length tD)-lT))
theorem pG (id:Ad) (fi:Bool) (ok:Ad) (oi:Nat) (ik:Ad) (ii lT:Nat) (mx:AZ) (lD tD:Nat) (kl:List KR) (st ep aD:Nat) (sd tx:Ad) (rD rT:Nat) (bx:CE) (sec:AZ):P6 id fi ok oi ik ii lT mx lD tD kl st ep aD sd tx rD rT bx sec=Jl fi lT mx lD tD sec:=by
 have key:∀n,n<=sec.length->CZ id fi ok oi ik ii lT mx lD tD kl st ep aD sd tx rD rT bx sec n=Mw mx (sec.take n):=by
  intro n
  induction n with
  |zero=>intro _;rfl
  |succ n ih=>
   intro hn;show Kw sec n (CZ id fi ok oi ik ii lT mx lD tD kl st ep aD sd tx rD rT bx sec n)=_;rw[ih Ac,da Ac];have hg:List.getD (α:=Ad) sec n []=sec[n]:=by rw[al,am (show n<sec.length by omega)];rfl
   unfold Mw Kw;rw[List.foldl_append,<-hg];rfl
 unfold P6;rw[Ab];unfold Jl;rw[key _ (an _),e_]
def mg (l:AZ) (i:Nat):Ad:=List.getD (α:=Ad) l i []
theorem wD {l:AZ} {x:Ad} {i:Nat}:mg (l++[x]) i=if i<l.length then mg l i else if i=l.length then x else[]:=by
 unfold mg;rw[al];by_cases h:i<l.length
 ·rw[ab h,dj h,al]
 ·rw[aj h,df Ac];by_cases h2:i=l.length
  ·rw[ab h2,h2,Nat.sub_self];rfl
  ·rw[aj h2,bf (by simp;omega)];rfl
theorem Yr (l:AZ) (c i:Nat):mg (l.drop c) i=mg l (c+i):=by unfold mg;rw[al,dh,al]
structure MI (M:Nat->Ad) (lT:Nat) (mx:AZ):Prop where
 pos:1<=mx.length
 aD:∀i,i<mx.length->mg mx i=M (lT+i)
theorem MI.out {M:Nat->Ad} {lT:Nat} {mx:AZ} (h:MI M lT mx) {j:Nat} (h1:lT<=j) (h2:j<lT+mx.length):mx.getD (j-lT) AW=M j:=by have :=h.aD (j-lT) Ac;rw[show lT+(j-lT)=j by omega]at this;exact this
theorem MI.m2 {M:Nat->Ad} {lT:Nat} {mx:AZ} (h:MI M lT mx) (h32:∀j,(M j).length=32) (j:Nat):(mx.getD j AW).length<=32:=by
 show(mg mx j).length<=32;by_cases hj:j<mx.length
 ·rw[h.aD j hj];exact Nat.le_of_eq (h32 _)
 ·unfold mg;rw[al,bf Ac];exact br _
theorem MI.put {M : Nat -> Ad} {lT : Nat} {mx : AZ} (h : MI M lT mx) (h32 : ∀ j, (M j).length = 32) (fi : Bool) (lD tD : Nat) (ks : AZ) (hk : ks.length <= 1) (h1 : lT <= lD) (h2 : lD < lT + mx.length) (h3 : lT <= A5 fi lT (Mw mx ks).length tD) :
  (Mw mx ks).length=mx.length+ks.length/\∃M',(∀j,j<lT+mx.length->M' j=M j)/\(∀j,(M' j).length=32)/\MI M' (Jl fi lT mx lD tD ks).1 (Jl fi lT mx lD tD ks).2
   /\(Jl fi lT mx lD tD ks).1=min lD (A5 fi lT (Mw mx ks).length tD)/\(Jl fi lT mx lD tD ks).1+(Jl fi lT mx lD tD ks).2.length=lT+mx.length+ks.length:=by
 match ks,hk,h3 with
 |[],_,h3=>
  refine⟨rfl,M,λ_ _=>rfl,h32,?_⟩;unfold Jl;show MI M (min lD (A5 fi lT mx.length tD)) (mx.drop (min lD (A5 fi lT mx.length tD)-lT))/\_/\_;have h3:lT<=A5 fi lT mx.length tD:=h3;refine⟨⟨by rw[au];omega,λi hi=> ?_⟩,rfl,?_⟩
  ·rw[au]at hi;rw[Yr,h.aD _ Ac];congr 1;omega
  ·show min lD (A5 fi lT mx.length tD)+(mx.drop (min lD (A5 fi lT mx.length tD)-lT)).length=lT+mx.length+0;rw[au];omega
 |[k],_,h3=>
  have hl:(Mw mx [k]).length=mx.length+1:=by show(mx++[_]).length=_;rw[ah];rfl
  refine⟨hl,λj=>if j=lT+mx.length then AT (mg mx (mx.length-1)) k [109,105,120]else M j,λj hj=>aj Ac,λj=> ?_,?_⟩
  ·show(if _ then _ else _:Ad).length=32;split
   ·exact F9 ..
   ·exact h32 j
  unfold Jl;generalize hlo:min lD (A5 fi lT (Mw mx [k]).length tD)=lo;refine⟨⟨by rw[au];omega,λi hi=> ?_⟩,rfl,?_⟩
  ·rw[au]at hi;show _=if lo+i=lT+mx.length then _ else _;rw[Yr];show mg (mx++[AT (mg mx (mx.length-1)) k [109,105,120]]) (lo-lT+i)=_;rw[wD];by_cases hc:lo-lT+i<mx.length
   ·rw[ab hc,aj Ac,h.aD _ hc];congr 1;omega
   ·rw[aj hc,ab Ac,ab Ac]
  ·show lo+((Mw mx [k]).drop (lo-lT)).length=lT+mx.length+1;rw[au];omega
theorem MI.mono {M M':Nat->Ad} {lT:Nat} {mx:AZ} (h:MI M lT mx) (hM:∀j,j<lT+mx.length->M' j=M j):MI M' lT mx:=⟨h.pos,λi hi=>by rw[hM _ Ac];exact h.aD i hi⟩
theorem zO (n:Nat):RI n []:=⟨by decide,List.nodup_nil,λ_ h=>by cases h⟩
def sl (b:CE) (j:Nat):Prop:=(List.getD (α:=Option Ad) b j none).isSome=true
structure PN where
 id:Ad
 A:Ad
 B:Ad
 mx:AZ
 na:Nat
 ia:Nat
 ja:List Nat
 nb:Nat
 ib:Nat
 jb:List Nat
 fl:LzF
theorem UB (tT rQ:Ad) (htx:500<tT.length) (hr:rQ.length=128):AO 24 ⟨[.im (Ag [.top,.top,.top,.im (Ag []) 0,.top,.top,.top,.top,.top,.top,.top]) 0,lb tT,lb rQ],[],.tu (Ag [.v (.slice none 0 0),vi 0,vi 11]),[]⟩:=by refine cy 0 func24 rfl ntmps24 λY V=> ?_;have hx1:(500:Int)<((tT.length:Nat):Int):=Ac;have hx2:((rQ.length:Nat):Int)=128:=Ac;exact Ak [] 0 V λV=>Ao (BK (Ay [(1,Kf (Cu) [] [.im (Ag [.top,.top,.top,.im (Ag []) 0,.top,.top,.top,.top,.top,.top,.top]) 0]),(5,Gd hx2)] [] 0 V λV=>Ai V (Ay [(2,Ga hx1)] [] 0 V λV=>AE V (Ak [] 0 V λV=>AU (As (Aj (BN V)))))))
end
end Go.Sx.Tryz
namespace Go.Sx
open Go.Mi Go.RowKit
variable [Dfr]
section
variable {P:Program} {n:Nat} {L:DL} {H:Hp} {σ:Sg} {S0:Nat->Prop} {g0 g:G} {w0 w:World} {nb:Nat} {a:Act} {Q:Exit->Act->World->Prop}
def Mz {ι:Type} (n:Nat) (S0:Nat->Prop) (g0:G) (w0:World) (σ:Sg) (kL kH:List Nat) (nb:Nat) (F:ι->DL×Hc×Prop):Act->World->Prop:=λa w=>
 ∃s,(F s).2.2/\∃g',Sp n S0 g0 w0 ((F s).1++Bo σ.1 kL,Gs ((F s).2.1++U3 σ.2 kH)) nb a g' w
theorem Tq {ι:Type} {x y:Code} (_hS:Sp n S0 g0 w0 σ nb a g w) (F:ι->DL×Hc×Prop) (kL kH:List Nat) (nb':Nat) (h1:x.wp P (Exit.then (Mz n S0 g0 w0 σ kL kH nb' F) Q) a w) (h2:∀s a g w,(F s).2.2->Sp n S0 g0 w0 ((F s).1++Bo σ.1 kL,Gs ((F s).2.1++U3 σ.2 kH)) nb' a g w->y.wp P Q a w):(Code.seq x y).wp P Q a w:=by refine wp_seq (nA _ h1 ?_);rintro a w ⟨s,hp,g,V⟩;exact h2 s a g w hp V
theorem G0 {ι : Type} {σ' : Sg} {ks0 : List Nat} {kL kH : List Nat} {nb' : Nat} {F : ι -> DL × Hc × Prop} (Y : ∀ k v, g0.N k = some v -> k ∈ ks0) (V : Sp n S0 g0 w0 σ nb a g w) (s' : ι) (ρ : LO) (hP : (F s').2.2)
  (h1:G3 ρ ks0 ((F s').1++Bo σ'.1 kL) ((F s').2.1++U3 σ'.2 kH) nb'=true:=by kernel_rfl) (h2:Bo σ.1 (Ax ((F s').1++Bo σ'.1 kL))=(((F s').1++Bo σ'.1 kL).map λp=>(p.1,p.2.ren (rn ρ))):=by kernel_rfl) (h3:(((F s').2.1++U3 σ'.2 kH).map λp=>A4 σ.2 (rn ρ p.1))=(((F s').2.1++U3 σ'.2 kH).map λp=>some (p.2.ren (rn ρ))):=by kernel_rfl):Mz n S0 g0 w0 σ' kL kH nb' F a w:=by
 obtain⟨g',hS'⟩:=Sp.ren Y V ρ _ _ nb' h1 h2 h3;exact⟨s',hP,g',hS'⟩
end
end Go.Sx
namespace Go.Sx.Tryz
open Go.Mi Go.RowKit Go.Sx Go.Proofs Go.Proofs.Tryz
noncomputable section
open List (replicate take_left drop_left map_congr_left)
def Mn (rX:Ad):PN:=⟨vV rX,pA rX,pB rX,[pM rX],0,0,[],0,0,[],[]⟩
theorem R5 (rX:Ad) (hr:rX.length=32):AO 12 ⟨[lb rX,.v (.bool false)],[],.tu (Ag [.cp 0 0,.v (.bool true)]),[(0,CQ 1 4 ((Mn rX).na) ((Mn rX).ia) (ints (Mn rX).ja) ((Mn rX).nb) ((Mn rX).ib) (ints (Mn rX).jb) 7),(1,sO ((Mn rX).id) true false 2 3 ((Mn rX).mx) (kls (Mn rX).mx (Mn rX).B (Mn rX).jb)),(2,Al (Bm (Mn rX).A (Mn rX).na) ((Mn rX).na)),(3,Al (Bm (Mn rX).B (Mn rX).ib) ((Mn rX).ib)),(4,sO ((Mn rX).id) false false 5 6 ((Mn rX).mx) (kls (Mn rX).mx (Mn rX).A (Mn rX).ja)),(5,Al (Bm (Mn rX).B (Mn rX).nb) ((Mn rX).nb)),(6,Al (Bm (Mn rX).A (Mn rX).ia) ((Mn rX).ia)),(7,.sl 48 CJ ((Mn rX).fl))]⟩:=by have h:=iM rX hr;unfold Za at h;rw[iN]at h;exact h
def I0 (l:AZ):Ad:=(l.map λx=>Ah x.length++x).flatten
def Ds (l:AZ):Ad:=Ah l.length++I0 l
theorem RY {l:AZ} {i:Nat} (h:i<l.length):I0 (l.take (i+1))=I0 (l.take i)++(Ah (l.getD i []).length++l.getD i []):=by unfold I0;rw[da h,ce,de,al,am h];simp
theorem gJ (b:Ad) (l:AZ) (i:Nat) (h:i<l.length):b++Ah l.length++I0 (l.take (i+1))=b++Ah l.length++I0 (l.take i)++Ah (l.getD i []).length++l.getD i []:=by rw[RY h];simp only[bw]
theorem P9 {l:AZ} {m:Nat} (h:∀j,(l.getD j []).length<=m) (hm:m<18446744073709551616):∀i,(I0 (l.take i)).length<=i*(m+10)
 |0=>by simp [I0]
 |i+1=>by
  have ih:=P9 h hm i;by_cases hi:i<l.length
  ·rw[RY hi,ah,ah];have h1:=h i;have h2:=An (n:=(l.getD i []).length) Ac;rw[fb];omega
  ·rw[show l.take (i+1)=l.take i by rw[bp Ac,bp Ac],fb];omega
theorem GZ {l:AZ} (h:∀k∈l,k.length=32) (j:Nat):(l.getD j []).length<=10000:=by
 rw[al];by_cases hj:j<l.length
 ·rw[am hj];have :=h _ (gr hj);simp only[ej];omega
 ·rw[bf Ac];simp
theorem Ia {l:AZ} (hl:l.length<=100000) (h:∀j,(l.getD j []).length<=32):(Ds l).length<=4200010:=by have h1:=P9 h (by decide) l.length;rw[bp (an _)]at h1;have h2:=An (n:=l.length) Ac;unfold Ds;rw[ah];omega
theorem Tc {l:AZ} (h:∀k∈l,k.length=32) (j:Nat):(l.getD j []).length<=32:=by
 rw[al];by_cases hj:j<l.length
 ·rw[am hj];have :=h _ (gr hj);simp only[ej];omega
 ·rw[bf Ac];simp
theorem Es (b:Ad) (l:AZ) (hb:b.length<=40000000000) (hl:l.length<=100000) (he:∀j,(l.getD j []).length<=10000):AO 56 ⟨[.cp 0 0,.ls false A0 l],[(0,N8 1),(1,.sl 5 Bb b)],.cp 0 0,[(0,N8 2),(2,.sl 5 Bb (b++Ds l))]⟩:=by
 refine cy 2 func56 rfl ntmps56 λY V=>Ak [] 2 V λV=>Ao ?_;have h10:=An (n:=l.length) Ac;refine Aw [(3,Jn l.length),(4,AC (BF b l.length Au Ac) [(0,0),(1,1)] [(2,2)])] [] 3 V λV=>CV (Ao (CW [12] 3 V λV=> ?_));have hnw:b++Ah l.length++I0 (l.take 0)=b++Ah l.length:=(by rw[gl];simp [I0]);have V:=(V.rv [(0,.cp 0 0),(4,.v (.pointer none)),(12,.ls false A0 l),(13,vi ((l.length:Nat):Int)),(14,vi 0)] [(0,some (N8 2)),(2,some (.sl 5 Bb (b++Ah l.length++I0 (l.take 0))))] (by kernel_rfl) (by rw[hnw];kernel_rfl)).sp;refine Ae (BK (AD (ι:=Nat) Y V (λi=>(l.length-i,[(14,vi ((i:Nat):Int))],[(2,.sl 5 Bb (b++Ah l.length++I0 (l.take i)))],(i<=l.length)/\True)) [0,4,12,13] [0] 3 0 [(0,0),(1,1),(2,2)] ⟨Ac,aa⟩ ?_));rintro i ac gs ws ⟨hi,_⟩ V;refine Ak [] 3 V λV=>Ao (AH ((i:Int)<((l.length:Nat):Int)) V (λh1=> ?_) (λh1=> ?_))
 ·refine B6 (Ay [(0,AN i l.length)] [] 3 V λV=> ?_);have hli:=P9 he Ac i;have hei:(l.getD i AW).length<=10000:=he i;have h10:=An (n:=l.length) Ac;refine Aw [(2,AC (Db (b++Ah l.length++I0 (l.take i)) (l.getD i AW) Au Au) [(0,0),(1,2)] [(2,3)])] [] 4 V λV=> ?_;have hnw:b++Ah l.length++I0 (l.take (i+1))=(((b++Ah l.length++I0 (l.take i))++Ah (l.getD i AW).length)++(l.getD i AW)):=gJ b l i Ac;have V:=(V.rv [(0,.cp 0 0),(4,.v (.pointer none)),(12,.ls false A0 l),(13,vi ((l.length:Nat):Int)),(14,vi (i:Int))] [(0,some (N8 3)),(3,some (.sl 5 Bb (b++Ah l.length++I0 (l.take (i+1)))))] (by kernel_rfl) (by rw[hnw];kernel_rfl)).sp;exact Cn (Aw [(0,CF i)] [14] 4 V λV=>Ae (Av Y V (i+1) [(0,0),(1,1),(2,3)] ⟨Ac,aa⟩))
 ·have hT:=V;obtain rfl:l.length=i:=by omega
  have V:=hT;refine I8 (CW [] 3 V λV=> ?_);have hnw:b++Ds l=b++Ah l.length++I0 (l.take l.length):=(by rw[bp (an _)];simp only[Ds,bw]);have V:=(V.rv [(4,.cp 0 0)] [(0,some (N8 2)),(2,some (.sl 5 Bb (b++Ds l)))] (by kernel_rfl) (by rw[hnw];kernel_rfl)).sp;exact Fa (BN V)
section
variable (b:Bool)
def AM:Nat:=AR (if b=true then 1 else 0)
theorem Fy:AM b<=1:=by unfold AM;rw[Ab];split<;>decide
def y3 (z_:Nat:=AM b):Con:=⟨[.v (.bool b)],[],.v (.int .u64 (z_:Int)),[]⟩
theorem OJ:AO 54 (y3 b):=by
 refine cy 0 func54 rfl ntmps54 λY V=>Ak [] 0 V λV=>Ao (Ak [] 0 V λV=>Qe b V (λh1=> ?_) (λh1=> ?_))
 ·exact Ak [] 0 V λV=>AU (Aj (BX (.trans (Ab _) (ab h1)) V))
 ·exact BR (Ak [] 0 V λV=>AU (BX (.trans (Ab _) (aj (Ka h1))) V))
end
theorem XJ {x:Int} (h:0<=x) (h2:x<=1000000000000):IntKind.wrap .u64 x=((x.toNat:Nat):Int):=by rw[Uf h Ac];omega
def Pn (kl:List KR) (x89:Nat):Ad->Ad:=λo15=>((o15++Ah ((kl.getD x89 Bg).1.toNat))++Ah ((kl.getD x89 Bg).2.1.toNat))++Ds (kl.getD x89 Bg).2.2
section
variable (id:Ad) (fi:Bool) (ok:Ad) (oi:Nat) (ik:Ad) (ii lT:Nat) (mx:AZ) (lD tD:Nat) (kl:List KR)
def FU (id:Ad) (fi:Bool) (ok:Ad) (oi:Nat) (ik:Ad) (ii lT:Nat) (mx:AZ) (lD tD:Nat) (kl:List KR):Nat->Ad
 |0=>((((((((((([]++id)++Ah (AM fi))++Ah (AM false))++ok)++Ah oi)++ik)++Ah ii)++Ah lT)++Ds mx)++Ah lD)++Ah tD)++Ah kl.length
 |x89+1=>Pn kl x89 (FU id fi ok oi ik ii lT mx lD tD kl x89)
def E2:Ad:=AR (FU id fi ok oi ik ii lT mx lD tD kl kl.length)
def rF (z_:Ad:=E2 id fi ok oi ik ii lT mx lD tD kl):Con:=Cq [.cp 0 0] [(0,D6 id fi false 1 2 lT mx lD tD kl),(1,Al ok oi),(2,Al ik ii)] (lb z_)
theorem Uu (hok:ok.length=32) (hik:ik.length=32) (hoi:oi<=100000000000) (hii:ii<=100000000000) (hm1:1<=mx.length/\mx.length<=100000) (hm2:∀j,(mx.getD j AW).length<=32) (hlow:lT<=100000000000) (hK:KOk kl) (hll:lT<=lD/\lD<=100000000000) (htd:tD<=100000000000) (hid:id.length=32):AO 25 (rF id fi ok oi ik ii lT mx lD tD kl):=by
 refine cy 3 func25 rfl ntmps25 λY V=>Ak [] 3 V λV=>Ao (Ay [(1,Kf (Cu) [0,1] [.im (Ag [.top,.top,.top,.im (Ag []) 0,.top,.top,.top,.top,.top,.top,.top]) 0])] [] 3 V λV=>Ai V (BR (Ak [] 4 V λV=>Ao ?_)));have hf1:=Fy fi;have hf2:=Fy false;have hg1:=An (n:=AM fi) Ac;have hg2:=An (n:=AM false) Ac;have hg3:=An (n:=oi) Ac;have hg4:=An (n:=ii) Ac;have hg5:=An (n:=lT) Ac;have hg6:=An (n:=lD) Ac;have hg7:=An (n:=tD) Ac;have hK1:=hK.1;have hg8:=An (n:=kl.length) Ac;have hlw:=Ia hm1.2 hm2;refine Aw [(5,AC (O7 id Au) [(0,3)] [(1,4)]),(10,AS (OJ fi)),(11,AC (BF ([]++id) (AM fi) Au Ac) [(0,3),(1,4)] [(2,5)]),(16,AS (OJ false)),(17,AC (BF (([]++id)++Ah (AM fi)) (AM false) Au Ac) [(0,3),(1,5)] [(2,6)])] [] 7 V λV=>CV (Ak [38] 7 V λV=>BK (wp_loop_rounds 3 ?_));refine AX (n:=2) (Ak [] 7 V λV=>Ao (AE V (B6 (Ay [(0,AN 0 2)] [42,43] 7 V λV=>Aw [(2,AC (OP ok oi Au) [(0,1)] []),(3,AC (Ez ((([]++id)++Ah (AM fi))++Ah (AM false)) ok Au Au) [(0,3),(1,6)] [(2,7)]),(5,AC (Cw ok oi) [(0,1)] []),(6,Jn oi),(7,AC (BF (((([]++id)++Ah (AM fi))++Ah (AM false))++ok) oi Au Ac) [(0,3),(1,7)] [(2,8)])] [44,45,46,47,48,49,50] 9 V λV=>Cn (CW [40,52] 9 V λV=>Ae ?_)))));refine AX (n:=1) (Ak [] 9 V λV=>Ao (AE V (B6 (Ay [(0,AN 1 2)] [42,43] 9 V λV=>Aw [(2,AC (OP ik ii Au) [(0,2)] []),(3,AC (Ez ((((([]++id)++Ah (AM fi))++Ah (AM false))++ok)++Ah oi) ik Au Au) [(0,3),(1,8)] [(2,9)]),(5,AC (Cw ik ii) [(0,2)] []),(6,Jn ii),(7,AC (BF (((((([]++id)++Ah (AM fi))++Ah (AM false))++ok)++Ah oi)++ik) ii Au Ac) [(0,3),(1,9)] [(2,10)])] [44,45,46,47,48,49,50] 11 V λV=>Cn (CW [40,52] 11 V λV=>Ae ?_)))));refine AX (n:=0) (Ak [] 11 V λV=>Ao (Ai V (DF (Ay [(5,Jn lT),(6,AC (BF ((((((([]++id)++Ah (AM fi))++Ah (AM false))++ok)++Ah oi)++ik)++Ah ii) lT Au Ac) [(0,3),(1,10)] [(2,11)]),(11,AC (Es (((((((([]++id)++Ah (AM fi))++Ah (AM false))++ok)++Ah oi)++ik)++Ah ii)++Ah lT) mx Au Au (by first |assumption|exact λj=>b_ (hm2 j) (by decide)|exact GZ hkr.2.2.2)) [(0,3),(1,11)] [(2,12)]),(16,Jn lD),(17,AC (BF ((((((((([]++id)++Ah (AM fi))++Ah (AM false))++ok)++Ah oi)++ik)++Ah ii)++Ah lT)++Ds mx) lD Au Ac) [(0,3),(1,12)] [(2,13)]),(22,Jn tD),(23,AC (BF (((((((((([]++id)++Ah (AM fi))++Ah (AM false))++ok)++Ah oi)++ik)++Ah ii)++Ah lT)++Ds mx)++Ah lD) tD Au Ac) [(0,3),(1,13)] [(2,14)]),(29,Jn kl.length),(30,AC (BF ((((((((((([]++id)++Ah (AM fi))++Ah (AM false))++ok)++Ah oi)++ik)++Ah ii)++Ah lT)++Ds mx)++Ah lD)++Ah tD) kl.length Au Ac) [(0,3),(1,14)] [(2,15)])] [] 16 V λV=>Ao (Ak [87] 16 V λV=>BK (AD (ι:=Nat×Ad) Y V (λ(x89,o15)=>(kl.length-x89,[(89,vi ((x89:Nat):Int))],[(15,.sl 5 Bb o15)],(x89<=kl.length)/\(o15=FU id fi ok oi ik ii lT mx lD tD kl x89)/\(o15.length<=5000000+x89*5000000)/\True)) [0,2,3,87,88] [0,1,2,3] 16 (0,((((((((((([]++id)++Ah (AM fi))++Ah (AM false))++ok)++Ah oi)++ik)++Ah ii)++Ah lT)++Ds mx)++Ah lD)++Ah tD)++Ah kl.length) [(0,0),(1,1),(2,2),(3,3),(15,15)] ⟨Ac,rfl,Au,aa⟩ ?_))))));rintro⟨x89,o15⟩ ac gs ws ⟨hx89,hq2,pL,_⟩ V;refine Ak [] 16 V λV=>Ao (AH ((x89:Int)<((kl.length:Nat):Int)) V (λh1=> ?_) (λh1=> ?_))
 ·refine B6 (Ay [(0,AN x89 kl.length)] [7] 17 V λV=> ?_);have hkr:(0<=(kl.getD x89 Bg).1/\(kl.getD x89 Bg).1<=1000000000000)/\(0<=(kl.getD x89 Bg).2.1/\(kl.getD x89 Bg).2.1<=1000000000000)/\(kl.getD x89 Bg).2.2.length<=100000/\∀k∈(kl.getD x89 Bg).2.2,k.length=32:=hK.2 x89 Ac;have hkw:(Ds (kl.getD x89 Bg).2.2).length<=4200010:=Ia hkr.2.2.1 (Tc hkr.2.2.2);have hn1:=An (n:=(kl.getD x89 Bg).1.toNat) Ac;have hn2:=An (n:=(kl.getD x89 Bg).2.1.toNat) Ac;exact Aw [(3,Jo (((kl.getD x89 Bg).1.toNat:Nat):Int) [IntKind.wrap .u64 (kl.getD x89 Bg).1=(((kl.getD x89 Bg).1.toNat:Nat):Int)] ⟨XJ hkr.1.1 hkr.1.2,aa⟩),(4,AC (BF o15 ((kl.getD x89 Bg).1.toNat) Au Ac) [(0,3),(1,15)] [(2,17)]),(7,Jo (((kl.getD x89 Bg).2.1.toNat:Nat):Int) [IntKind.wrap .u64 (kl.getD x89 Bg).2.1=(((kl.getD x89 Bg).2.1.toNat:Nat):Int)] ⟨XJ hkr.2.1.1 hkr.2.1.2,aa⟩),(8,AC (BF (o15++Ah ((kl.getD x89 Bg).1.toNat)) ((kl.getD x89 Bg).2.1.toNat) Au Ac) [(0,3),(1,17)] [(2,18)]),(11,AC (Es ((o15++Ah ((kl.getD x89 Bg).1.toNat))++Ah ((kl.getD x89 Bg).2.1.toNat)) (kl.getD x89 Bg).2.2 Au Au (by first |assumption|exact λj=>b_ (hm2 j) (by decide)|exact GZ hkr.2.2.2)) [(0,3),(1,18)] [(2,19)])] [] 20 V λV=>Cn (Aw [(0,CF x89)] [89] 20 V λV=>Ae (Av Y V (x89+1,((o15++Ah ((kl.getD x89 Bg).1.toNat))++Ah ((kl.getD x89 Bg).2.1.toNat))++Ds (kl.getD x89 Bg).2.2) [(0,0),(1,1),(2,2),(3,3),(15,19)] ⟨Ac,(Bp (st:=Pn _) hq2 rfl rfl),Au,aa⟩))
 ·have hT:=V;obtain rfl:kl.length=x89:=by omega
  obtain rfl:=hq2.symm;have V:=hT;exact I8 (Ak [] 16 V λV=>Ai V (BR (Ay [(1,AC (FS (FU id fi ok oi ik ii lT mx lD tD kl kl.length) Au) [(0,3),(1,15)] [])] [] 16 V λV=>AU (BX (Ab _) V))))
end
def A_ (n:Nat) (r:Ad):Ad:=Ah n++r
def Kk (x r:Ad):Ad:=x++r
def Dr (x r:Ad):Ad:=Ah x.length++(x++r)
def T6:AZ->Ad->Ad
 |[],r=>r
 |x::l,r=>Dr x (T6 l r)
def B3 (l:AZ) (r:Ad):Ad:=A_ l.length (T6 l r)
theorem Bv {n:Nat} {r:Ad} {m:Nat} (h:(A_ n r).length<=m):r.length<=m:=by unfold A_ at h;rw[ah]at h;omega
theorem M8 {x r:Ad} {m:Nat} (h:(Kk x r).length<=m):r.length<=m:=by unfold Kk at h;rw[ah]at h;omega
theorem FR {x r:Ad} {m:Nat} (h:(Dr x r).length<=m):r.length<=m:=by unfold Dr at h;rw[ah,ah]at h;omega
theorem cC {r:Ad} {m:Nat}:∀{l:AZ},(T6 l r).length<=m->r.length<=m
 |[],h=>h
 |_::_,h=>cC (FR h)
theorem IN {l:AZ} {r:Ad} {m:Nat} (h:(B3 l r).length<=m):r.length<=m:=cC (Bv h)
theorem Ug {r:Ad} {m:Nat}:∀{l:AZ} (i:Nat),(T6 l r).length<=m->(T6 (l.drop i) r).length<=m
 |_,0,h=>h
 |[],_+1,h=>h
 |_::_,i+1,h=>Ug i (FR h)
theorem Wb {r:Ad}:∀{l:AZ} {i:Nat},i<l.length->T6 (l.drop i) r=Dr (l.getD i []) (T6 (l.drop (i+1)) r)
 |_::_,0,_=>rfl
 |_::_,i+1,h=>Wb (i:=i) (Nat.lt_of_succ_lt_succ h)
theorem m9 {r:Ad} {l:AZ} {i:Nat} (h:l.length<=i):T6 (l.drop i) r=r:=by rw[List.drop_of_length_le h];rfl
section
variable (l:AZ)
theorem Aac (r:Ad):I0 l++r=T6 l r:=by
 induction l with
 |nil=>rfl
 |cons x l ih=>show(Ah x.length++x++I0 l)++r=Ah x.length++(x++T6 l r);rw[<-ih];simp only[bw]
theorem Aad (r:Ad):Ds l++r=B3 l r:=by unfold Ds B3 A_;rw[bw,Aac]
theorem tkN {i:Nat} (h:i<l.length):l.take (i+1)=l.take i++[l.getD i []]:=by rw[da h,al,am h];rfl
end
section
variable (n:Nat) (r:Ad)
theorem o5 (h:(A_ n r).length<=100000000000000) (hn:n<4611686018427387904):AO 126 ⟨[.cp 0 0],[(0,C0 (A_ n r))],.v (.int .u64 (n:Int)),[(0,C0 r)]⟩:=by have h2:=HG (A_ n r) h (JO Ac r);unfold t7 at h2;rw[show Af (A_ n r)=((n:Int),r)from Ii Ac r]at h2;exact h2
theorem CI (h:(A_ n r).length<=100000000000000) (hn:n<=2147483648):AO 92 ⟨[.cp 0 0],[(0,C0 (A_ n r))],vi (n:Int),[(0,C0 r)]⟩:=by have hv:Af (A_ n r)=((n:Int),r):=Ii Ac r;have h2:=E3 (A_ n r) h (by unfold DI;rw[Ab];rw[ab (show F2 (A_ n r)=true from JO Ac r),hv,aj (by show¬(2147483648:Int)<(n:Int);omega)]);unfold J_ at h2;rw[hv]at h2;exact h2
end
theorem Re (m n:Nat) (r:Ad) (h:(A_ n r).length<=100000000000000) (hm:m<=100000000000000) (hn:n<=m):AO 139 ⟨[.cp 0 0,vi (m:Int)],[(0,C0 (A_ n r))],vi (n:Int),[(0,C0 r)]⟩:=by have hv:Af (A_ n r)=((n:Int),r):=Ii Ac r;have h2:=L6 (A_ n r) m h hm (by unfold DO;rw[Ab];rw[ab (show F2 (A_ n r)=true from JO Ac r),hv,aj (by show¬(m:Int)<(n:Int);omega)]);unfold TP at h2;rw[hv]at h2;exact h2
theorem Ix (n:Nat) (x r:Ad) (h:(Kk x r).length<=100000000000000) (hn:x.length=n):AO 91 ⟨[.cp 0 0,vi (n:Int)],[(0,C0 (Kk x r))],lb x,[(0,C0 r)]⟩:=by
 subst hn;have h2:=Iy (Kk x r) x.length h (by
  unfold Cy;rw[Ab];rw[aj (by unfold Kk;rw[ah];omega)])
 unfold VU at h2
 erw [show(Kk x r).take x.length=x from take_left,show(Kk x r).drop x.length=r from drop_left]at h2
 exact h2
theorem Ee (m:Nat) (x r:Ad) (h:(Dr x r).length<=100000000000000) (hm:m<=100000000000000) (hx:x.length<=m):AO 102 ⟨[.cp 0 0,vi (m:Int)],[(0,C0 (Dr x r))],lb x,[(0,C0 r)]⟩:=by
 have hv:Af (Dr x r)=(((x.length:Nat):Int),x++r):=Ii Ac _;have h1:DO (Dr x r) m=true:=by unfold DO;rw[Ab];rw[ab (show F2 (Dr x r)=true from JO Ac _),hv,aj (by show¬(m:Int)<((x.length:Nat):Int);omega)]
 have h2:=D2 (Dr x r) m h hm (by
  unfold Bw;rw[Ab];rw[ab h1,ab (by rw[hv];unfold Cy;rw[Ab];rw[aj (by show¬(((x++r).length:Nat):Int)<((x.length:Nat):Int);rw[ah];omega)])])
 unfold NE at h2;rw[hv]at h2
 erw [show List.take (Int.toNat (((x.length:Nat):Int),x++r).1) (((x.length:Nat):Int),x++r).2=x from take_left,show List.drop (Int.toNat (((x.length:Nat):Int),x++r).1) (((x.length:Nat):Int),x++r).2=r from drop_left]at h2
 exact h2
theorem PC (cn m:Nat) (l:AZ) (r:Ad) (h:(B3 l r).length<=100000000000000) (hc:l.length<=cn/\cn<=100000000000) (hm:m<=100000000000000) (he:∀j,(l.getD j []).length<=m):AO 127 ⟨[.cp 0 0,vi (cn:Int),vi (m:Int)],[(0,C0 (B3 l r))],.ls false A0 l,[(0,C0 r)]⟩:=by
 refine cy 1 func127 rfl ntmps127 λY V=>Ak [] 1 V λV=>Ao (Ay [(1,TX false [(decide ((m:Int)<0))=false] ⟨decide_eq_false Ac,aa⟩)] [] 1 V λV=>Ai V (DZ (Ao ?_)));have V:=V.ch 0 (C0 (A_ l.length (T6 l r))) (C0 (B3 l r)) rfl;have hLr:=Bv h;refine Aw [(2,AC (Re cn l.length (T6 l r) (by first |assumption|omega) Ac Ac) [(0,0)] [])] [] 1 V λV=>Ae (BK ?_);obtain⟨gs,V⟩:=V.nilk 6 22 A0;refine AD (ι:=Nat) Y V (λi=>(l.length-i,[(7,vi ((l.length-i:Nat):Int))],[(0,C0 (T6 (l.drop i) r)),(1,.sl 22 A0 (l.take i))],(i<=l.length)/\True)) [0,2,6] [] 2 0 [(0,0),(1,1)] ⟨(br _),aa⟩ ?_;rintro i ac gs ws ⟨hi,_⟩ V;refine Ao (Ak [] 2 V λV=>AH ((0:Int)<((l.length-i:Nat):Int)) V (λh1=> ?_) (λh1=> ?_))
 ·refine B6 ?_;have V:=V.ch 0 (C0 (Dr (l.getD i []) (T6 (l.drop (i+1)) r))) (C0 (T6 (l.drop i) r)) (by rw[Wb Ac]<;>rfl);have hLb:(Dr (l.getD i []) (T6 (l.drop (i+1)) r)).length<=100000000000000:=by rw[<-Wb Ac];exact Ug i hLr
  have hei:=he i;refine Aw [(3,AC (Ee m (l.getD i []) (T6 (l.drop (i+1)) r) (by first |assumption|omega) Ac (by first |assumption|omega)) [(0,0)] []),(5,GJ ((l.take i).length) 1 24)] [6] 3 V λV=> ?_;have V:=V.ch 2 (.sl 22 A0 (l.take (i+1))) (.sl 22 A0 ((l.take i)++[l.getD i []])) (dn (λz:AZ=>O.sl 22 A0 z) (tkN l (i:=i) Ac).symm);exact Cn (Aw [(1,Jo ((l.length-(i+1):Nat):Int) [EO .i64 ((l.length-i:Nat):Int) 1=((l.length-(i+1):Nat):Int)] ⟨(Nz Ac Ac).trans Ac,aa⟩)] [7] 3 V λV=>Ae (Av Y V (i+1) [(0,0),(1,2)] ⟨Ac,aa⟩))
 ·have hT:=V;have V:=hT;refine I8 ?_;have V:=V.ch 0 (C0 r) (C0 (T6 (l.drop i) r)) (by rw[m9 Ac]<;>rfl);have V:=V.ch 1 (.sl 22 A0 l) (.sl 22 A0 (l.take i)) (dn (λz:AZ=>O.sl 22 A0 z) (show l.take i=l by rw[bp Ac]));refine CW [6] 2 V λV=>Fa ?_;obtain⟨gs,V⟩:=V.fz 1;exact BN V
theorem gY (x:Ad) (hx:x.length=32):AO 129 ⟨[lb x],[],.v (.bool false),[]⟩:=by refine cy 0 func129 rfl ntmps129 λY V=> ?_;have hx0:((x.length:Nat):Int)=32:=Ac;exact Ak [] 0 V λV=>Ay [(2,Gd hx0)] [] 0 V λV=>AU (BN V)
theorem pJ (l:AZ) (he:∀j,j<l.length->(l.getD j AW).length=32):AO 166 ⟨[.ls false A0 l,.v (.func (.func 129) #[] #[])],[],vi (-1),[]⟩:=by
 refine cy 0 func166 rfl ntmps166 λY V=> ?_;have Fp:l.length<=9223372036854775807:=V.len 0 rfl;refine Ak [] 0 V λV=>Ao (Ak [] 0 V λV=>BK (AD (ι:=Nat) Y V (λx=>(l.length-x,[(8,vi ((x:Nat):Int))],[],(x<=l.length)/\True)) [0,1,7] [] 0 0 [] ⟨Ac,aa⟩ ?_));rintro x ac gs ws ⟨hx,_⟩ V;refine Ak [] 0 V λV=>Ao (AH ((x:Int)<((l.length:Nat):Int)) V (λh1=> ?_) (λh1=> ?_))
 ·exact B6 (Ak [] 0 V λV=>Ay [(3,AN x l.length),(5,AS (gY (l.getD x AW) (he x Ac)))] [] 0 V λV=>Ai V (GT (Aw [(0,CF x)] [8] 0 V λV=>Ae (Av Y V (x+1) [] ⟨Ac,aa⟩))))
 ·have hT:=V;obtain rfl:l.length=x:=by omega
  have V:=hT;exact DF (Ak [] 0 V λV=>AU (BN V))
theorem pK (l:AZ) (he:∀j,j<l.length->(l.getD j AW).length=32):AO 128 ⟨[.ls false A0 l,.v (.func (.func 129) #[] #[])],[],.v (.bool false),[]⟩:=by exact cy 0 func128 rfl ntmps128 λY V=>Ak [] 0 V λV=>Ay [(2,AS (pJ l A3))] [] 0 V λV=>AU (BN V)
theorem e32 {l:AZ} (h:∀j,j<l.length->(l.getD j AW).length=32) (j:Nat):(l.getD j []).length<=32:=by
 rw[al];by_cases hj:j<l.length
 ·have :(l.getD j ([]:Ad)).length=32:=h j hj;rw[al,am hj]at this;rw[am hj];exact Nat.le_of_eq this
 ·rw[bf Ac];simp
theorem MA (l:AZ) (r:Ad) (h:(B3 l r).length<=100000000000000) (hc:l.length<=60000) (he:∀j,j<l.length->(l.getD j AW).length=32):AO 93 ⟨[.cp 0 0],[(0,C0 (B3 l r))],.ls false A0 l,[(0,C0 r)]⟩:=by exact cy 1 func93 rfl ntmps93 λY V=>Ak [] 1 V λV=>Ay [(1,AC (PC 65536 32 l r h ⟨b_ hc (by decide),by decide⟩ (by decide) (e32 he)) [(0,0)] [])] [] 1 V λV=>Ao (Ay [(1,AS (pK l A3))] [] 1 V λV=>Ai V (BR (Ak [] 1 V λV=>AU (BN V))))
def bR (x0 x1:Bool):O:= .ob 80 (Ag [.v (.slice none 0 0),.v (.bool x0),.v (.bool x1),.v (.pointer none),.v (.pointer none),.v (.pointer none),vi 0,.v (.slice none 0 0),vi 0,vi 0,.v (.slice none 0 0)])
def Gh:List KR->Ad->Ad
 |[],r=>r
 |k::l,r=>A_ k.1.toNat (A_ k.2.1.toNat (B3 k.2.2 (Gh l r)))
def LK (id:Ad) (fi hy:Bool) (ok:Ad) (oi:Nat) (ik:Ad) (ii lT:Nat) (mx:AZ) (lD tD:Nat) (kl:List KR) (r:Ad):Ad:=Kk id (A_ (AM fi) (A_ (AM hy) (Kk ok (A_ oi (Kk ik (A_ ii (A_ lT (B3 mx (A_ lD (A_ tD (A_ kl.length (Gh kl r))))))))))))
theorem LR {r:Ad} {m:Nat}:∀{l:List KR} (i:Nat),(Gh l r).length<=m->(Gh (l.drop i) r).length<=m
 |_,0,h=>h
 |[],_+1,h=>h
 |_::_,i+1,h=>LR i (IN (Bv (Bv h)))
theorem Lb {r:Ad}:∀{l:List KR} {i:Nat},i<l.length->Gh (l.drop i) r=A_ (l.getD i kz).1.toNat (A_ (l.getD i kz).2.1.toNat (B3 (l.getD i kz).2.2 (Gh (l.drop (i+1)) r)))
 |_::_,0,_=>rfl
 |_::_,i+1,h=>Lb (i:=i) (Nat.lt_of_succ_lt_succ h)
theorem LQ {r:Ad} {l:List KR} {i:Nat} (h:l.length<=i):Gh (l.drop i) r=r:=by rw[List.drop_of_length_le h];rfl
theorem tkK (l:List KR) {i:Nat} (h:i<l.length):l.take (i+1)=l.take i++[l.getD i kz]:=by rw[da h,al,am h];rfl
theorem OK (b:Bool):(decide (((AM b:Nat):Int)=1))=b:=by unfold AM;rw[Ab];cases b<;>rfl
structure KRd (ii:Nat) (kl:List KR):Prop where
 n:kl.length<=60
 k:∀j,j<kl.length->(0<=(kl.getD j kz).1/\(kl.getD j kz).1<(ii:Int))/\(0<=(kl.getD j kz).2.1/\(kl.getD j kz).2.1<=2147483648)/\(kl.getD j kz).2.2.length<=60000/\∀x,x<(kl.getD j kz).2.2.length->((kl.getD j kz).2.2.getD x AW).length=32
 d:∀j,j<kl.length->CY (kl.take j) (((kl.getD j kz).1.toNat:Nat):Int)<0
theorem ktk {ii:Nat} {kl:List KR} (h:KRd ii kl) {i:Nat} (hi:i<kl.length):kl.take (i+1)=kl.take i++[((((kl.getD i kz).1.toNat:Nat):Int),(((kl.getD i kz).2.1.toNat:Nat):Int),(kl.getD i kz).2.2)]:=by
 rw[tkK kl hi];have h1:=h.k i hi;have h2:(((kl.getD i kz).1.toNat:Nat):Int)=(kl.getD i kz).1:=by omega
 have h3:(((kl.getD i kz).2.1.toNat:Nat):Int)=(kl.getD i kz).2.1:=by omega
 rw[h2,h3]
theorem Zv (id:Ad) (fi:Bool) (ok:Ad) (oi:Nat) (ik:Ad) (ii lT:Nat) (mx:AZ) (lD tD:Nat) (kl:List KR) (r:Ad) (hr:(LK id fi false ok oi ik ii lT mx lD tD kl r).length<=100000000000000) (hid:id.length=32) (hok:ok.length=32) (hik:ik.length=32) (hoi:oi<=100000000000) (hii:ii<=100000000000) (hn1:oi<=2147483648/\ii<=2147483648/\lT<=2147483648) (hn2:lD<=2147483648/\tD<=2147483648) (hmx:1<=mx.length/\mx.length<=60000) (hm32:∀j,j<mx.length->(mx.getD j AW).length=32) (hlo:lT<=lD/\lD<=lT+mx.length-1/\lT<=A5 fi lT mx.length tD) (hkr:KRd ii kl):AO 60 ⟨[.cp 0 0,.cp 1 0],[(0,bR false false),(1,C0 (LK id fi false ok oi ik ii lT mx lD tD kl r))],.tu (Ag []),[(0,D6 id fi false 2 3 lT mx lD tD kl),(1,C0 r),(2,Al ok oi),(3,Al ik ii)]⟩:=by
 refine cy 2 func60 rfl ntmps60 λY V=> ?_;have hx0:QN 0=true:=(by decide);have hx1:¬((mx.length:Nat):Int)=0:=Ac;have hx2:¬(lD:Int)<(lT:Int):=Ac;have hx3:¬((lT+mx.length-1:Nat):Int)<(lD:Int):=Ac;have hx4:¬((A5 fi lT mx.length tD:Nat):Int)<(lT:Int):=Ac;have hx5:¬(60:Int)<((kl.length:Nat):Int):=(by have :=hkr.n;omega);refine Ao ?_;have hr0:=M8 hr;have hr1:=Bv hr0;have hr2:=Bv hr1;have hr3:=M8 hr2;have hr4:=Bv hr3;have hr5:=M8 hr4;have hr6:=Bv hr5;have hr7:=Bv hr6;have hr8:=IN hr7;have hr9:=Bv hr8;have hr10:=Bv hr9;have hr11:=Bv hr10;have V:=V.ch 1 (C0 (Kk id (A_ (AM fi) (A_ (AM false) (Kk ok (A_ oi (Kk ik (A_ ii (A_ lT (B3 mx (A_ lD (A_ tD (A_ kl.length (Gh kl r)))))))))))))) (C0 (LK id fi false ok oi ik ii lT mx lD tD kl r)) rfl;have hm1:1<=mx.length/\mx.length<=100000:=⟨hmx.1,by omega⟩;have hf1:=Fy fi;have hf2:=Fy false;refine Aw [(2,AC (Ix 32 id (A_ (AM fi) (A_ (AM false) (Kk ok (A_ oi (Kk ik (A_ ii (A_ lT (B3 mx (A_ lD (A_ tD (A_ kl.length (Gh kl r)))))))))))) (by first |assumption|omega) (by first |assumption|omega)) [(0,1)] [])] [] 2 V λV=>Ae (Ay [(3,AC (CI (AM fi) (A_ (AM false) (Kk ok (A_ oi (Kk ik (A_ ii (A_ lT (B3 mx (A_ lD (A_ tD (A_ kl.length (Gh kl r))))))))))) (by first |assumption|omega) Ac) [(0,1)] []),(4,TX fi [(decide (((AM fi:Nat):Int)=1))=fi] ⟨OK fi,aa⟩),(6,AC (CI (AM false) (Kk ok (A_ oi (Kk ik (A_ ii (A_ lT (B3 mx (A_ lD (A_ tD (A_ kl.length (Gh kl r)))))))))) (by first |assumption|omega) Ac) [(0,1)] []),(7,TX false [(decide (((AM false:Nat):Int)=1))=false] ⟨OK false,aa⟩)] [] 2 V λV=>Ao (Ak [32] 2 V λV=>BK (wp_loop_rounds 3 ?_)));refine AX (n:=2) (Ak [] 2 V λV=>Ao (AE V (B6 (Ay [(0,AN 0 2)] [36,37] 2 V λV=>Ak [] 2 V λV=>Ay [(2,AC (Ix 32 ok (A_ oi (Kk ik (A_ ii (A_ lT (B3 mx (A_ lD (A_ tD (A_ kl.length (Gh kl r))))))))) (by first |assumption|omega) (by first |assumption|omega)) [(0,1)] []),(4,AC (CI oi (Kk ik (A_ ii (A_ lT (B3 mx (A_ lD (A_ tD (A_ kl.length (Gh kl r)))))))) (by first |assumption|omega) Ac) [(0,1)] []),(5,AC (MN ok oi Au) [] [(0,2)])] [38,39,40,41,42,43,44,45,46,47] 3 V λV=>Aw [(1,AS (Fj 0 hx0))] [48] 3 V λV=>Cn (CW [34,50] 3 V λV=>Ae ?_)))));refine AX (n:=1) (Ak [] 3 V λV=>Ao (AE V (B6 (Ay [(0,AN 1 2)] [36,37] 3 V λV=>Ak [] 3 V λV=>Ay [(2,AC (Ix 32 ik (A_ ii (A_ lT (B3 mx (A_ lD (A_ tD (A_ kl.length (Gh kl r))))))) (by first |assumption|omega) (by first |assumption|omega)) [(0,1)] []),(4,AC (CI ii (A_ lT (B3 mx (A_ lD (A_ tD (A_ kl.length (Gh kl r)))))) (by first |assumption|omega) Ac) [(0,1)] []),(5,AC (MN ik ii Au) [] [(0,3)])] [38,39,40,41,42,43,44,45,46,47] 4 V λV=>Aw [(1,AS (Fj 0 hx0))] [48] 4 V λV=>Cn (CW [34,50] 4 V λV=>Ae ?_)))));refine AX (n:=0) (Ak [] 4 V λV=>Ao (Ai V (DF (Ay [(5,AC (CI lT (B3 mx (A_ lD (A_ tD (A_ kl.length (Gh kl r))))) (by first |assumption|omega) Ac) [(0,1)] []),(7,AC (MA mx (A_ lD (A_ tD (A_ kl.length (Gh kl r)))) A3 (by first |assumption|omega) A3) [(0,1)] []),(9,AC (CI lD (A_ tD (A_ kl.length (Gh kl r))) (by first |assumption|omega) Ac) [(0,1)] []),(11,AC (CI tD (A_ kl.length (Gh kl r)) (by first |assumption|omega) Ac) [(0,1)] [])] [] 4 V λV=>Ao (Ay [(5,CH hx1),(15,CH hx2),(23,Kf (EB lT mx HL Ac) [0,2] [.im (Ag [.top,.top,.top,.im (Ag []) 0,.top,.top,vi (lT:Int),.ls false A0 mx,.top,.top,.top]) 0]),(24,CH hx3),(28,Kf (HJ fi lT mx tD HL Ac) [0,2] [.im (Ag [.top,.v (.bool fi),.top,.im (Ag []) 0,.top,.top,vi (lT:Int),.ls false A0 mx,.top,vi (tD:Int),.top]) 0]),(33,CH hx4)] [] 4 V λV=>Ai V (BR (Ay [(1,AC (CI kl.length (Gh kl r) (by first |assumption|omega) Ac) [(0,1)] [])] [] 4 V λV=>Ao (Ay [(1,CH hx5)] [] 4 V λV=>Ai V (DZ (Ao ?_))))))))));obtain⟨gs,V⟩:=V.nilob 0 10 86 Ct;refine CW [] 5 V λV=>Ae (BK (AD (ι:=Nat) Y V (λi=>(kl.length-i,[(113,vi ((i:Nat):Int))],[(1,C0 (Gh (kl.drop i) r)),(4,.sl 86 Ct (kl.take i))],(i<=kl.length)/\True)) [0,1,112] [0,2,3] 5 0 [(0,0),(1,1),(2,2),(3,3),(4,4)] ⟨Ac,aa⟩ ?_));rintro i ac gs ws ⟨hi,_⟩ V;refine Ak [] 5 V λV=>Ao (AH ((i:Int)<((kl.length:Nat):Int)) V (λh1=> ?_) (λh1=> ?_))
 ·refine B6 (Ao ?_);have V:=V.ch 1 (C0 (A_ (kl.getD i kz).1.toNat (A_ (kl.getD i kz).2.1.toNat (B3 (kl.getD i kz).2.2 (Gh (kl.drop (i+1)) r))))) (C0 (Gh (kl.drop i) r)) (by rw[Lb Ac]<;>rfl);have hra:(A_ (kl.getD i kz).1.toNat (A_ (kl.getD i kz).2.1.toNat (B3 (kl.getD i kz).2.2 (Gh (kl.drop (i+1)) r)))).length<=100000000000000:=by rw[<-Lb Ac];exact LR i hr11
  have hrb:=Bv hra;have hrc:=Bv hrb;have hkj:=hkr.k i Ac;have hke:=hkj.2.2.2;have hkd:=hkr.d i Ac;refine Aw [(1,AC (CI ((kl.getD i kz).1.toNat) (A_ (kl.getD i kz).2.1.toNat (B3 (kl.getD i kz).2.2 (Gh (kl.drop (i+1)) r))) (by first |assumption|omega) Ac) [(0,1)] []),(3,AC (CI ((kl.getD i kz).2.1.toNat) (B3 (kl.getD i kz).2.2 (Gh (kl.drop (i+1)) r)) (by first |assumption|omega) Ac) [(0,1)] []),(5,AC (MA (kl.getD i kz).2.2 (Gh (kl.drop (i+1)) r) A3 (by first |assumption|omega) A3) [(0,1)] [])] [8] 6 V λV=>CV (Ao ?_);have hy1:¬(ii:Int)<=(((kl.getD i kz).1.toNat:Nat):Int):=Ac;have hy2:¬(0:Int)<=(CY (kl.take i) ((((kl.getD i kz).1.toNat):Nat):Int)):=Ac;refine Aw [(6,AC (Cw ik ii) [(0,3)] []),(7,CH hy1),(12,AC (Mo id fi ok oi ik ii lT mx lD tD (kl.take i) ((kl.getD i kz).1.toNat)) [(0,0),(1,2),(2,3),(3,4)] []),(13,CH hy2)] [] 6 V λV=>Ae (Ai V (BR (Aw [(7,GJ ((kl.take i).length) 1 40)] [] 7 V λV=> ?_)));have V:=V.ch 6 (.sl 86 Ct (kl.take (i+1))) (.sl 86 Ct ((kl.take i)++[((((kl.getD i kz).1.toNat:Nat):Int),(((kl.getD i kz).2.1.toNat:Nat):Int),(kl.getD i kz).2.2)])) (dn (λz:List KR=>O.sl 86 Ct z) (ktk hkr (i:=i) Ac).symm);exact Cn (Aw [(0,CF i)] [113] 7 V λV=>Ae (Av Y V (i+1) [(0,0),(1,1),(2,2),(3,3),(4,6)] ⟨Ac,aa⟩))
 ·have hT:=V;obtain rfl:kl.length=i:=by omega
  have V:=hT;refine I8 ?_;have V:=V.ch 1 (C0 r) (C0 (Gh (kl.drop kl.length) r)) (by rw[LQ Ac]<;>rfl);have V:=V.ch 4 (.sl 86 Ct kl) (.sl 86 Ct (kl.take kl.length)) (dn (λz:List KR=>O.sl 86 Ct z) (show kl.take kl.length=kl by rw[bp Ac]));obtain⟨gs,V⟩:=V.fz 4;exact CW [] 5 V λV=>Ae (Ai V (xV (bY V)))
theorem Q6 (a x r:Ad):(a++x)++r=a++Kk x r:=bw ..
theorem C6 (a:Ad) (n:Nat) (r:Ad):(a++Ah n)++r=a++A_ n r:=bw ..
theorem LP (a:Ad) (l:AZ) (r:Ad):(a++Ds l)++r=a++B3 l r:=by rw[bw,Aad]
theorem XT (id : Ad) (fi : Bool) (ok : Ad) (oi : Nat) (ik : Ad) (ii lT : Nat) (mx : AZ) (lD tD : Nat) (kl : List KR) (r : Ad) :
  ∀i,i<=kl.length->FU id fi ok oi ik ii lT mx lD tD kl i++Gh (kl.drop i) r=LK id fi false ok oi ik ii lT mx lD tD kl r
 |0,_=>by
  show(((((((((((([]++id)++Ah (AM fi))++Ah (AM false))++ok)++Ah oi)++ik)++Ah ii)++Ah lT)++Ds mx)++Ah lD)++Ah tD)++Ah kl.length)++Gh kl r=_;rw[C6,C6,C6,LP,C6,C6,Q6,C6,Q6,C6,C6,Q6];rfl
 |i+1,h=>by rw[<-XT id fi ok oi ik ii lT mx lD tD kl r i Ac,Lb (i:=i) h];show((FU id fi ok oi ik ii lT mx lD tD kl i++Ah (kl.getD i kz).1.toNat)++Ah (kl.getD i kz).2.1.toNat)++Ds (kl.getD i kz).2.2++Gh (kl.drop (i+1)) r=_;rw[LP,C6,C6]
theorem Na (id:Ad) (fi:Bool) (ok:Ad) (oi:Nat) (ik:Ad) (ii lT:Nat) (mx:AZ) (lD tD:Nat) (kl:List KR):E2 id fi ok oi ik ii lT mx lD tD kl=LK id fi false ok oi ik ii lT mx lD tD kl []:=by unfold E2;rw[Ab];rw[<-XT id fi ok oi ik ii lT mx lD tD kl [] kl.length (an _),LQ (an _),fm]<;>rfl
theorem KRd.KOk {ii:Nat} {kl:List KR} (h:KRd ii kl) (hi:ii<=100000000000):KOk kl:=by refine⟨by have :=h.n;omega,λj hj=> ?_⟩;have hk:=h.k j hj;refine⟨by omega,by omega,by omega,λk hkm=> ?_⟩;obtain⟨x,hx,rfl⟩:=List.getElem_of_mem hkm;have :(List.getD (α:=Ad) _ x ([]:Ad)).length=32:=hk.2.2.2 x hx;rw[al,am hx]at this;exact this
theorem aI {l:AZ} (h:∀j,j<l.length->(l.getD j AW).length=32) (j:Nat):(l.getD j AW).length<=32:=e32 h j
section
variable (id:Ad) (fi:Bool) (ok:Ad) (oi:Nat) (ik:Ad) (ii lT:Nat) (mx:AZ) (lD tD:Nat) (kl:List KR)
theorem eM (hr:(LK id fi false ok oi ik ii lT mx lD tD kl []).length<=100000000000000) (hid:id.length=32) (hok:ok.length=32) (hik:ik.length=32) (hoi:oi<=100000000000) (hii:ii<=100000000000) (hn1:oi<=2147483648/\ii<=2147483648/\lT<=2147483648) (hn2:lD<=2147483648/\tD<=2147483648) (hmx:1<=mx.length/\mx.length<=60000) (hm32:∀j,j<mx.length->(mx.getD j AW).length=32) (hlo:lT<=lD/\lD<=lT+mx.length-1/\lT<=A5 fi lT mx.length tD) (hkr:KRd ii kl):AO 59 ⟨[lb (LK id fi false ok oi ik ii lT mx lD tD kl []),.fn 60 (Ag [.cp 0 0]) (Ag [])],[(0,bR false false)],vi 0,[(0,D6 id fi false 3 4 lT mx lD tD kl),(3,Al ok oi),(4,Al ik ii)]⟩:=by refine Dh rfl (nb:=1) func59 rfl rfl ntmps59 rfl rfl rfl λg0 w0 ac gs ws Y V=> ?_;have Fp:(LK id fi false ok oi ik ii lT mx lD tD kl []).length<=9223372036854775807:=V.len 0 rfl;have V:=V.sp;have hrk:Ec []=true:=(by unfold Ec;rw[Ab];rfl);refine Ak [] 2 V λV=>Ao ?_;have V:=V.rv [(0,lb (LK id fi false ok oi ik ii lT mx lD tD kl [])),(1,.fn 60 (Ag [.cp 0 0]) (Ag [])),(4,.cp 1 0)] [(0,some (bR false false)),(1,some (C3))];refine Fz rfl V (cs:=[.cp 1 0]) rfl rfl rfl λD vds ac hD hcv hB V=> ?_;have V:=V.sp;refine Ae (Ay [(1,AC (GM (LK id fi false ok oi ik ii lT mx lD tD kl []) Au) [] [(0,2)])] [] 3 V λV=>Ao (Ak [] 3 V λV=>AE V (Aw [(2,AC (Zv id fi ok oi ik ii lT mx lD tD kl ([]:Ad) A3 (by first |assumption|omega) Au Au Ac Ac Ac Ac (by first |assumption|omega) A3 (by first |assumption|omega) A3) [(0,0),(1,2)] [(2,3),(3,4)])] [] 5 V λV=>Ae (Ay [(1,AC (H6 ([]:Ad) hrk) [(0,2)] [])] [] 5 V λV=>Ak [] 5 V λV=>AU ?_))));have V:=V.rv [(4,.cp 1 0)] [(0,some (D6 id fi false 3 4 lT mx lD tD kl)),(1,some (C3)),(3,some (Al ok oi)),(4,some (Al ik ii))];exact Ly (.inr rfl) V hD (Dx ⟨88,(KI),[(0,1)],[]⟩ [(1,some (C3)),(0,some (D6 id fi false 3 4 lT mx lD tD kl)),(1,some (C3)),(3,some (Al ok oi)),(4,some (Al ik ii))] hB V hcv (show FrameMode.returning≠ .run from nofun) rfl rfl rfl (JC) rfl ⟨rfl,aa⟩ rfl (ds:=[vi 0]) (by kernel_rfl) rfl ⟨rfl,rfl,rfl,aa⟩)
theorem nO (hr:(E2 id fi ok oi ik ii lT mx lD tD kl).length<=100000000000000) (hid:id.length=32) (hok:ok.length=32) (hik:ik.length=32) (hoi:oi<=100000000000) (hii:ii<=100000000000) (hn1:oi<=2147483648/\ii<=2147483648/\lT<=2147483648) (hn2:lD<=2147483648/\tD<=2147483648) (hmx:1<=mx.length/\mx.length<=60000) (hm32:∀j,j<mx.length->(mx.getD j AW).length=32) (hlo:lT<=lD/\lD<=lT+mx.length-1/\lT<=A5 fi lT mx.length tD) (hkr:KRd ii kl):AO 29 ⟨[lb (E2 id fi ok oi ik ii lT mx lD tD kl)],[],.tu (Ag [.cp 0 0,vi 0]),[(0,D6 id fi false 1 2 lT mx lD tD kl),(1,Al ok oi),(2,Al ik ii)]⟩:=by
 refine cy 0 func29 rfl ntmps29 λY V=> ?_;have Fp:(E2 id fi ok oi ik ii lT mx lD tD kl).length<=9223372036854775807:=V.len 0 rfl;have hq1:(E2 id fi ok oi ik ii lT mx lD tD kl)=(LK id fi false ok oi ik ii lT mx lD tD kl []):=(Na ..);refine Ao ?_;have hr2:(LK id fi false ok oi ik ii lT mx lD tD kl []).length<=100000000000000:=by rw[<-Na];exact hr
 have hKK:=hkr.KOk hii;have hmm:=aI hm32;have hm1:1<=mx.length/\mx.length<=100000:=⟨hmx.1,by omega⟩;refine CW [] 0 V λV=>CV ?_;have V:=V.cl 0 (lb (LK id fi false ok oi ik ii lT mx lD tD kl [])) (lb (E2 id fi ok oi ik ii lT mx lD tD kl)) (by rw[Na]<;>rfl);refine CW [] 1 V λV=>CV (Ay [(3,AC (eM id fi ok oi ik ii lT mx lD tD kl A3 (by first |assumption|omega) Au Au Ac Ac Ac Ac (by first |assumption|omega) A3 (by first |assumption|omega) A3) [(0,0)] [(3,1),(4,2)]),(7,AC (Uu id fi ok oi ik ii lT mx lD tD kl Au Au Ac Ac HL (by first |assumption|(intro j;simp<;>omega)) Ac A3 Ac Ac Au) [(0,0),(1,1),(2,2)] []),(9,AS (EW (E2 id fi ok oi ik ii lT mx lD tD kl) (LK id fi false ok oi ik ii lT mx lD tD kl [])))] [] 3 V λV=>Ik ((E2 id fi ok oi ik ii lT mx lD tD kl)=(LK id fi false ok oi ik ii lT mx lD tD kl [])) V (λh1=> ?_) (λh1=> ?_))
 ·exact absurd hq1 h1
 ·exact BR (Ak [] 3 V λV=>AU (BN V))
end
def VZ (k:Int) (x6:Nat):Ad->Ad:=λx5=>x5.set x6 (IntKind.wrap .u8 ((HA (A6 .i64 (A6 .i64 (BE .i64 (x6:Int) (x6:Int)) (BE .i64 k 7)) 1) 251:Nat):Int))
section
variable (n:Nat) (k:Int)
def QF (n:Nat) (k:Int):Nat->Ad
 |0=>replicate (max n 0) (0:Int)
 |x6+1=>VZ k x6 (QF n k x6)
def MW:Ad:=AR (QF n k (max n 0))
def AbG (z_:Ad:=MW n k):Con:=⟨[vi (n:Int),vi k],[],.sk 0,[(0,.sl 5 Bb z_)]⟩
theorem zF (hn:n<=100000):AO 58 (AbG n k):=by
 refine cy 0 func58 rfl ntmps58 λY V=>Ak [] 0 V λV=>Ay [(1,Rmx n 0),(2,mT (max n 0) 1)] [] 1 V λV=>Ao (Ak [] 1 V λV=>BK (AD (ι:=Nat×Ad) Y V (λ(x6,x5)=>(max n 0-x6,[(6,vi ((x6:Nat):Int))],[(0,.sl 5 Bb x5)],(x6<=max n 0)/\(x5=QF n k x6)/\(x5.length=max n 0)/\True)) [1,4,5] [] 1 (0,replicate (max n 0) (0:Int)) [(0,0)] ⟨Ac,rfl,(az ..),aa⟩ ?_));rintro⟨x6,x5⟩ ac gs ws ⟨hx6,hq1,p1,_⟩ V;refine Ao (Ay [(2,Jo ((max n 0:Nat):Int) [((x5.length:Nat):Int)=((max n 0:Nat):Int)] ⟨Ac,aa⟩)] [] 1 V λV=>AH ((x6:Int)<((max n 0:Nat):Int)) V (λh1=> ?_) (λh1=> ?_))
 ·exact B6 (Aw [(4,Jo (BE .i64 (x6:Int) (x6:Int)) [BE .i64 (x6:Int) (x6:Int)=BE .i64 (x6:Int) (x6:Int)] ⟨rfl,aa⟩),(6,Jo (BE .i64 k 7) [BE .i64 k 7=BE .i64 k 7] ⟨rfl,aa⟩),(7,Jo (A6 .i64 (BE .i64 (x6:Int) (x6:Int)) (BE .i64 k 7)) [A6 .i64 (BE .i64 (x6:Int) (x6:Int)) (BE .i64 k 7)=A6 .i64 (BE .i64 (x6:Int) (x6:Int)) (BE .i64 k 7)] ⟨rfl,aa⟩),(8,Jo (A6 .i64 (A6 .i64 (BE .i64 (x6:Int) (x6:Int)) (BE .i64 k 7)) 1) [A6 .i64 (A6 .i64 (BE .i64 (x6:Int) (x6:Int)) (BE .i64 k 7)) 1=A6 .i64 (A6 .i64 (BE .i64 (x6:Int) (x6:Int)) (BE .i64 k 7)) 1] ⟨rfl,aa⟩),(9,AS (Dc (A6 .i64 (A6 .i64 (BE .i64 (x6:Int) (x6:Int)) (BE .i64 k 7)) 1) 251 Ac)),(11,AN x6 x5.length)] [] 1 V λV=>Cn (Aw [(1,CF x6)] [6] 1 V λV=>Ae (Av Y V (x6+1,x5.set x6 (IntKind.wrap .u8 ((HA (A6 .i64 (A6 .i64 (BE .i64 (x6:Int) (x6:Int)) (BE .i64 k 7)) 1) 251:Nat):Int))) [(0,0)] ⟨Ac,(Bp (st:=VZ _) hq1 rfl rfl),(by rw[c_];exact p1),aa⟩)))
 ·have hT:=V;obtain rfl:max n 0=x6:=by omega
  obtain rfl:=hq1.symm;have V:=hT;exact DF (Ak [] 1 V λV=>AU (BX (Ab _) V))
theorem sD (hn:n<=100000):AO 58 ⟨[vi (n:Int),vi k],[],lb (MW n k),[]⟩:=ConOk.frz [] 0 5 Bb (MW n k) (zF n k hn) (by kernel_rfl)
theorem mF (n:Nat) (k:Int):∀j,(QF n k j).length=max n 0/\By (QF n k j)
 |0=>⟨az ..,λx hx=>by rw[(List.mem_replicate.1 hx).2];decide⟩
 |j+1=>by
  obtain⟨h1,h2⟩:=mF n k j;refine⟨(c_ ..).trans h1,λx hx=> ?_⟩;rcases List.mem_or_eq_of_mem_set hx with h|h
  ·exact h2 x h
  ·rw[h];exact cE _
theorem zG:(MW n k).length=n/\By (MW n k):=by unfold MW;rw[Ab];have h:=mF n k (max n 0);exact⟨h.1.trans (Nat.max_eq_left (br _)),h.2⟩
end
theorem Zu {id : Ad} (fi : Bool) {ok : Ad} {oi : Nat} {ik : Ad} {ii lT : Nat} {mx : AZ} {lD tD : Nat} {kl : List KR} (hid : id.length = 32) (hok : ok.length = 32) (hik : ik.length = 32) (h1 : oi <= 100000000000 /\ ii <= 100000000000 /\ lT <= 100000000000 /\ lD <= 100000000000 /\ tD <= 100000000000) (hm1 : mx.length <= 100000) (hm2 : ∀ j, (mx.getD j AW).length <= 32) (hK : KOk kl) :
  (E2 id fi ok oi ik ii lT mx lD tD kl).length<=100000000000000:=by
 have key:∀i,i<=kl.length->(FU id fi ok oi ik ii lT mx lD tD kl i).length<=5000000+i*5000000:=by
  intro i
  induction i with
  |zero=>
   intro _;have hf1:=Fy fi;have hf2:=Fy false;have a1:=An (n:=AM fi) Ac;have a2:=An (n:=AM false) Ac;have a3:=An (n:=oi) Ac;have a4:=An (n:=ii) Ac;have a5:=An (n:=lT) Ac;have a6:=An (n:=lD) Ac;have a7:=An (n:=tD) Ac;have hk:=hK.1;have a8:=An (n:=kl.length) Ac;have a9:=Ia hm1 hm2;show((((((((((([]++id)++Ah (AM fi))++Ah (AM false))++ok)++Ah oi)++ik)++Ah ii)++Ah lT)++Ds mx)++Ah lD)++Ah tD++Ah kl.length:Ad).length<=_;simp only[ah,av];omega
  |succ i ih=>
   intro h;have ih:=ih Ac;have hk:(0<=(kl.getD i kz).1/\(kl.getD i kz).1<=1000000000000)/\(0<=(kl.getD i kz).2.1/\(kl.getD i kz).2.1<=1000000000000)/\(kl.getD i kz).2.2.length<=100000/\∀k∈(kl.getD i kz).2.2,k.length=32:=hK.2 i Ac;have b1:=An (n:=(kl.getD i kz).1.toNat) Ac;have b2:=An (n:=(kl.getD i kz).2.1.toNat) Ac;have b3:=Ia hk.2.2.1 (Tc hk.2.2.2);show(((FU id fi ok oi ik ii lT mx lD tD kl i++Ah (kl.getD i kz).1.toNat)++Ah (kl.getD i kz).2.1.toNat)++Ds (kl.getD i kz).2.2:Ad).length<=_;simp only[ah];rw[fb];omega
 unfold E2;rw[Ab];have h:=key kl.length (an _);have hk:=hK.1;show(FU id fi ok oi ik ii lT mx lD tD kl kl.length).length<=_;omega
theorem aQ (o:Option Ad) (h:(o.getD []).length<=100000000000000):AO 81 ⟨[.os (.int .u8) o],[],lb (o.getD []),[]⟩:=ConOk.os0 (e:= .int .u8) o (D1 (o.getD []) h)
section
variable (id:Nat)
def PT (bx:CE) (x12:Nat):(List (Int×Int×Int×Ad))->(List (Int×Int×Int×Ad)):=λx2=>if(!(bx.getD x12 KO).isNone)=true then x2++[((id:Int),(x12:Int),((bx.length:Nat):Int),(bx.getD x12 KO).getD [])]else x2
def WA (id:Nat) (bx:CE):Nat->(List (Int×Int×Int×Ad))
 |0=>[]
 |x12+1=>PT id bx x12 (WA id bx x12)
def U6 (ln:Nat) (bx:CE):(List (Int×Int×Int×Ad)):=AR (WA id bx bx.length)
def lI (ln:Nat) (bx:CE) (z_:(List (Int×Int×Int×Ad)):=U6 id ln bx):Con:=Cq [.cp 0 0] [(0,AQ id ln bx)] (.ls false Oa z_)
theorem fO (ln:Nat) (bx:CE) (hb:bx.length=2) (hd:∀j,((List.getD (α:=Option Ad) bx j none).getD []).length<=1000):AO 87 (lI id ln bx):=by
 refine cy 1 func87 rfl ntmps87 λY V=>CK [] 1 V λV=>Ao (CK [] 1 V λV=>Ai V (DZ (CK [10] 1 V λV=>BK ?_)));obtain⟨gs,V⟩:=V.nilk 2 133 Oa;refine AD (ι:=Nat×(List (Int×Int×Int×Ad))) Y V (λ(x12,x2)=>(bx.length-x12,[(12,vi ((x12:Nat):Int))],[(1,.sl 133 Oa x2)],(x12<=bx.length)/\(x2=WA id bx x12)/\(x2.length<=x12)/\True)) [0,2,10,11] [0] 2 (0,[]) [(0,0),(1,1)] ⟨Ac,rfl,(by simp),aa⟩ ?_;rintro⟨x12,x2⟩ ac gs ws ⟨hx12,hq1,p1,_⟩ V;refine CK [] 2 V λV=>Ao (AH ((x12:Int)<((bx.length:Nat):Int)) V (λh1=> ?_) (λh1=> ?_))
 ·refine B6 (DG [(1,AN x12 bx.length)] [] 2 V λV=>CK [] 2 V λV=>Qe (!(bx.getD x12 KO).isNone) V (λh2=> ?_) (λh2=> ?_))
  ·have hdx:((bx.getD x12 KO).getD []).length<=1000:=hd x12;exact Gc [(12,AS (aQ (bx.getD x12 KO) Ac)),(15,GJ x2.length 1 48)] [2] 3 V λV=>Cn (Gc [(0,CF x12)] [12] 3 V λV=>Ae (Av Y V (x12+1,x2++[((id:Int),(x12:Int),((bx.length:Nat):Int),(bx.getD x12 KO).getD [])]) [(0,0),(1,2)] ⟨Ac,(Bp (st:=PT _ _) hq1 rfl (Eq.symm (ab h2))),(by first |(rw[ah];simp;omega)|omega),aa⟩))
  ·exact GT (Gc [(0,CF x12)] [12] 2 V λV=>Ae (Av Y V (x12+1,x2) [(0,0),(1,1)] ⟨Ac,(Bp (st:=PT _ _) hq1 rfl (Eq.symm (aj (Ka h2)))),(by first |(rw[ah];simp;omega)|omega),aa⟩))
 ·have hT:=V;obtain rfl:bx.length=x12:=by omega
  obtain rfl:=hq1.symm;have V:=hT;refine DF (CK [2] 2 V λV=>AU ?_);obtain⟨gs,V⟩:=V.fz 1;exact BX (Ab _) V
end
theorem Aav (id ln:Nat):U6 id ln B0=[]:=by unfold U6;rw[Ab];rfl
theorem Aau (id ln:Nat) {pa:Nat} (h:pa<2) (d:Ad):U6 id ln (A2 B0 pa d)=[((id:Int),(pa:Int),((2:Nat):Int),d)]:=by
 unfold U6;rw[Ab];have :pa=0\/pa=1:=by omega
 rcases this with e|e<;>subst e<;>rfl
theorem Yh (id ln:Nat):AO 87 ⟨[.cp 0 0],[(0,AQ id ln B0)],.ls false Oa [],[(0,AQ id ln B0)]⟩:=by
 have h:=fO id ln B0 rfl (λj=>by
  match j with
  |0|1=>exact(br _)
  |_+2=>exact(br _))
 unfold lI at h;rw[Aav]at h;exact h
theorem Yg (id ln pa:Nat) (d:Ad) (hpa:pa<2) (hd:d.length<=1000):AO 87 ⟨[.cp 0 0],[(0,AQ id ln (A2 B0 pa d))],.ls false Oa [((id:Int),(pa:Int),((2:Nat):Int),d)],[(0,AQ id ln (A2 B0 pa d))]⟩:=by
 have h:=fO id ln (A2 B0 pa d) (by rw[ET];rfl) (λj=>by
  rcases(by omega:pa=0\/pa=1)with e|e<;>subst e<;>(
  match j with
  |0|1=>first |exact hd|exact(br _)
  |_+2=>exact(br _)))
 unfold lI at h;rw[Aau _ _ hpa]at h;exact h
theorem AaJ:(Ds ([]:AZ)).length<=10:=by have :=An (n:=0) Ac;show(Ah 0++[]).length<=10;rw[fm];exact this
theorem AaI {x:Ad} (h:x.length<=1040):(Ds ([]++[x])).length<=1070:=by have h1:=An (n:=1) Ac;have h2:=An (n:=x.length) Ac;show(Ah 1++((Ah x.length++x)++[])).length<=1070;simp only[ah,av];omega
theorem el1 {x:Ad} (h:x.length<=1040) (j:Nat):(([]++[x]:AZ).getD j []).length<=10000:=by
 match j with
 |0=>exact b_ h (by decide)
 |j+1=>exact br _
theorem el0 (j:Nat):(([]:AZ).getD j []).length<=10000:=br _
section
variable (st ep aD:Nat) (sd tx:Ad)
def WF (id ln:Nat) (b:Ad):CE×Ad:=AR (if(st:Int)=1 then(B0,(((((((((b++Ah 1000)++Ah st)++Ah ep)++Ah aD)++Ah sd.length)++sd)++Ah ([]:Ad).length)++([]:Ad))++Ds ([]:AZ))++Ds ([]:AZ))else(B0,(((((((((b++Ah 1000)++Ah st)++Ah ep)++Ah aD)++Ah sd.length)++sd)++Ah tx.length)++tx)++Ds ([]:AZ))++Ds ([]:AZ)))
def lO (id ln:Nat) (b:Ad) (z_:CE×Ad:=WF st ep aD sd tx id ln b):Con:=⟨[.cp 0 0,.cp 2 0],[(0,AI st ep aD sd tx 1),(1,AQ id ln B0),(2,N8 3),(3,.sl 5 Bb b)],.tu (Ag []),[(0,AI st ep aD sd tx 1),(1,AQ id ln (z_.1)),(2,N8 4),(4,.sl 5 Bb (z_.2))]⟩
theorem pO (id ln:Nat) (b:Ad) (hb:b.length<=10000000000) (hsd:sd.length<=64/\tx.length<=2000) (hn:st<=1000000000/\ep<=1000000000/\aD<=1000000000/\id<=1000000000):AO 57 (lO st ep aD sd tx id ln b):=by
 refine cy 4 func57 rfl ntmps57 λY V=>Ao ?_;have h10:=An (n:=1000) Ac;have h11:=An (n:=st) Ac;have h12:=An (n:=ep) Ac;have h13:=An (n:=aD) Ac;have h14:=An (n:=sd.length) Ac;have h15:=An (n:=tx.length) Ac;have h17:=An (n:=0) (by decide);have hl0:=AaJ;have he0:=el0;refine Aw [(6,AC (BF b 1000 Au Ac) [(0,2),(1,3)] [(2,4)]),(11,Jn st),(12,AC (BF (b++Ah 1000) st Au Ac) [(0,2),(1,4)] [(2,5)]),(17,Jn ep),(18,AC (BF ((b++Ah 1000)++Ah st) ep Au Ac) [(0,2),(1,5)] [(2,6)]),(23,Jn aD),(24,AC (BF (((b++Ah 1000)++Ah st)++Ah ep) aD Au Ac) [(0,2),(1,6)] [(2,7)]),(29,AC (Db ((((b++Ah 1000)++Ah st)++Ah ep)++Ah aD) sd Au Au) [(0,2),(1,7)] [(2,8)])] [] 9 V λV=>Ae (Ak [] 9 V λV=>Ao (Ak [] 9 V λV=>AH ((st:Int)=1) V (λh1=> ?_) (λh1=> ?_)))
 ·refine CW [] 9 V λV=>Ae (Ak [] 9 V λV=>Ao (Ay [(4,AC (Yh id ln) [(0,1)] [])] [53] 9 V λV=>BK (wp_loop_rounds 2 ?_)));refine AX (n:=1) (Ak [] 9 V λV=>Ao (Ai V (DF (Aw [(2,AC (Db ((((((b++Ah 1000)++Ah st)++Ah ep)++Ah aD)++Ah sd.length)++sd) ([]:Ad) Au Au) [(0,2),(1,8)] [(2,9)]),(4,AC (Es ((((((((b++Ah 1000)++Ah st)++Ah ep)++Ah aD)++Ah sd.length)++sd)++Ah ([]:Ad).length)++([]:Ad)) ([]:AZ) Au Au (by first |assumption|exact λj=>b_ (hm2 j) (by decide)|exact GZ hkr.2.2.2)) [(0,2),(1,9)] [(2,10)]),(9,AC (Es (((((((((b++Ah 1000)++Ah st)++Ah ep)++Ah aD)++Ah sd.length)++sd)++Ah ([]:Ad).length)++([]:Ad))++Ds ([]:AZ)) ([]:AZ) Au Au (by first |assumption|exact λj=>b_ (hm2 j) (by decide)|exact GZ hkr.2.2.2)) [(0,2),(1,10)] [(2,11)])] [] 12 V λV=> ?_))));obtain⟨gs,V⟩:=V.rx [(0,0),(1,1),(2,2),(3,3),(4,11)] [] [0,1,2,4] 5 Y;exact iO (.trans (Ab _) (ab h1)) V
 ·refine BR (Ak [] 9 V λV=>Ao (Ay [(4,AC (Yh id ln) [(0,1)] [])] [53] 9 V λV=>BK (wp_loop_rounds 2 ?_)));refine AX (n:=1) (Ak [] 9 V λV=>Ao (Ai V (DF (Aw [(2,AC (Db ((((((b++Ah 1000)++Ah st)++Ah ep)++Ah aD)++Ah sd.length)++sd) tx Au Au) [(0,2),(1,8)] [(2,9)]),(4,AC (Es ((((((((b++Ah 1000)++Ah st)++Ah ep)++Ah aD)++Ah sd.length)++sd)++Ah tx.length)++tx) ([]:AZ) Au Au (by first |assumption|exact λj=>b_ (hm2 j) (by decide)|exact GZ hkr.2.2.2)) [(0,2),(1,9)] [(2,10)]),(9,AC (Es (((((((((b++Ah 1000)++Ah st)++Ah ep)++Ah aD)++Ah sd.length)++sd)++Ah tx.length)++tx)++Ds ([]:AZ)) ([]:AZ) Au Au (by first |assumption|exact λj=>b_ (hm2 j) (by decide)|exact GZ hkr.2.2.2)) [(0,2),(1,10)] [(2,11)])] [] 12 V λV=> ?_))));obtain⟨gs,V⟩:=V.rx [(0,0),(1,1),(2,2),(3,3),(4,11)] [] [0,1,2,4] 5 Y;exact iO (.trans (Ab _) (aj h1)) V
def WE (id ln pa:Nat) (d b:Ad):CE×Ad:=AR (if(st:Int)=1 then(A2 B0 pa d,(((((((((b++Ah 1000)++Ah st)++Ah ep)++Ah aD)++Ah sd.length)++sd)++Ah ([]:Ad).length)++([]:Ad))++Ds ([]++[BJ id pa 2 d]))++Ds ([]:AZ))else(A2 B0 pa d,(((((((((b++Ah 1000)++Ah st)++Ah ep)++Ah aD)++Ah sd.length)++sd)++Ah tx.length)++tx)++Ds ([]++[BJ id pa 2 d]))++Ds ([]:AZ)))
def lN (id ln pa:Nat) (d b:Ad) (z_:CE×Ad:=WE st ep aD sd tx id ln pa d b):Con:=⟨[.cp 0 0,.cp 2 0],[(0,AI st ep aD sd tx 1),(1,AQ id ln (A2 B0 pa d)),(2,N8 3),(3,.sl 5 Bb b)],.tu (Ag []),[(0,AI st ep aD sd tx 1),(1,AQ id ln (z_.1)),(2,N8 4),(4,.sl 5 Bb (z_.2))]⟩
theorem pN (id ln pa:Nat) (d b:Ad) (hb:b.length<=10000000000) (hsd:sd.length<=64/\tx.length<=2000) (hn:st<=1000000000/\ep<=1000000000/\aD<=1000000000/\id<=1000000000) (hpa:pa<2) (hd:1<=d.length/\d.length<=1000):AO 57 (lN st ep aD sd tx id ln pa d b):=by
 refine cy 4 func57 rfl ntmps57 λY V=>Ao ?_;have h10:=An (n:=1000) Ac;have h11:=An (n:=st) Ac;have h12:=An (n:=ep) Ac;have h13:=An (n:=aD) Ac;have h14:=An (n:=sd.length) Ac;have h15:=An (n:=tx.length) Ac;have h17:=An (n:=0) (by decide);have he0:=el0;have hec:=EL (id:=id) (ai:=pa) (ct:=2) (d:=d) ⟨by omega,by omega,by omega⟩ hd.2;have hl1:=AaI hec;have he1:=el1 hec;refine Aw [(6,AC (BF b 1000 Au Ac) [(0,2),(1,3)] [(2,4)]),(11,Jn st),(12,AC (BF (b++Ah 1000) st Au Ac) [(0,2),(1,4)] [(2,5)]),(17,Jn ep),(18,AC (BF ((b++Ah 1000)++Ah st) ep Au Ac) [(0,2),(1,5)] [(2,6)]),(23,Jn aD),(24,AC (BF (((b++Ah 1000)++Ah st)++Ah ep) aD Au Ac) [(0,2),(1,6)] [(2,7)]),(29,AC (Db ((((b++Ah 1000)++Ah st)++Ah ep)++Ah aD) sd Au Au) [(0,2),(1,7)] [(2,8)])] [] 9 V λV=>Ae (Ak [] 9 V λV=>Ao (Ak [] 9 V λV=>AH ((st:Int)=1) V (λh1=> ?_) (λh1=> ?_)))
 ·refine CW [] 9 V λV=>Ae (Ak [] 9 V λV=>Ao (Ay [(4,AC (Yg id ln pa d Ac Au) [(0,1)] [])] [53] 9 V λV=>BK (wp_loop_rounds 2 ?_)));refine AX (n:=1) (Ak [] 9 V λV=>Ao (AE V (B6 (Ay [(0,AN 0 1)] [7,57,58] 10 V λV=>Ay [(1,AS (Gw id pa 2 d Ac Ac))] [59,60,61,62,63] 10 V λV=>Aw [(3,GJ 0 1 24)] [5,64,65,66,67] 11 V λV=>Cn (CW [55,68] 11 V λV=>Ae ?_)))));refine AX (n:=0) (Ak [] 11 V λV=>Ao (Ai V (DF ?_)));obtain⟨gs,V⟩:=V.fz 10;refine Aw [(2,AC (Db ((((((b++Ah 1000)++Ah st)++Ah ep)++Ah aD)++Ah sd.length)++sd) ([]:Ad) Au Au) [(0,2),(1,8)] [(2,11)]),(4,AC (Es ((((((((b++Ah 1000)++Ah st)++Ah ep)++Ah aD)++Ah sd.length)++sd)++Ah ([]:Ad).length)++([]:Ad)) ([]++[BJ id pa 2 d]) Au Au (by first |assumption|exact λj=>b_ (hm2 j) (by decide)|exact GZ hkr.2.2.2)) [(0,2),(1,11)] [(2,12)]),(9,AC (Es (((((((((b++Ah 1000)++Ah st)++Ah ep)++Ah aD)++Ah sd.length)++sd)++Ah ([]:Ad).length)++([]:Ad))++Ds ([]++[BJ id pa 2 d])) ([]:AZ) Au Au (by first |assumption|exact λj=>b_ (hm2 j) (by decide)|exact GZ hkr.2.2.2)) [(0,2),(1,12)] [(2,13)])] [0,1,4,5,7,8,9,39,48,53,54,55,56,57,58,59,60,61,62,63,64,65,66,67,68,78] 14 V λV=> ?_;obtain⟨gs,V⟩:=V.rx [(0,0),(1,1),(2,2),(3,3),(4,13)] [] [0,1,2,4] 5 Y;exact iO (.trans (Ab _) (ab h1)) V
 ·refine BR (Ak [] 9 V λV=>Ao (Ay [(4,AC (Yg id ln pa d Ac Au) [(0,1)] [])] [53] 9 V λV=>BK (wp_loop_rounds 2 ?_)));refine AX (n:=1) (Ak [] 9 V λV=>Ao (AE V (B6 (Ay [(0,AN 0 1)] [7,57,58] 10 V λV=>Ay [(1,AS (Gw id pa 2 d Ac Ac))] [59,60,61,62,63] 10 V λV=>Aw [(3,GJ 0 1 24)] [5,64,65,66,67] 11 V λV=>Cn (CW [55,68] 11 V λV=>Ae ?_)))));refine AX (n:=0) (Ak [] 11 V λV=>Ao (Ai V (DF ?_)));obtain⟨gs,V⟩:=V.fz 10;refine Aw [(2,AC (Db ((((((b++Ah 1000)++Ah st)++Ah ep)++Ah aD)++Ah sd.length)++sd) tx Au Au) [(0,2),(1,8)] [(2,11)]),(4,AC (Es ((((((((b++Ah 1000)++Ah st)++Ah ep)++Ah aD)++Ah sd.length)++sd)++Ah tx.length)++tx) ([]++[BJ id pa 2 d]) Au Au (by first |assumption|exact λj=>b_ (hm2 j) (by decide)|exact GZ hkr.2.2.2)) [(0,2),(1,11)] [(2,12)]),(9,AC (Es (((((((((b++Ah 1000)++Ah st)++Ah ep)++Ah aD)++Ah sd.length)++sd)++Ah tx.length)++tx)++Ds ([]++[BJ id pa 2 d])) ([]:AZ) Au Au (by first |assumption|exact λj=>b_ (hm2 j) (by decide)|exact GZ hkr.2.2.2)) [(0,2),(1,12)] [(2,13)])] [0,1,4,5,7,8,9,39,48,53,54,55,56,57,58,59,60,61,62,63,64,65,66,67,68,78] 14 V λV=> ?_;obtain⟨gs,V⟩:=V.rx [(0,0),(1,1),(2,2),(3,3),(4,13)] [] [0,1,2,4] 5 Y;exact iO (.trans (Ab _) (aj h1)) V
end
theorem B_ (n:Nat) (r:Ad) (h:(A_ n r).length<=100000000000000) (hn:n<=1073741824):AO 132 ⟨[.cp 0 0],[(0,C0 (A_ n r))],vi (n:Int),[(0,C0 r)]⟩:=by refine cy 1 func132 rfl ntmps132 λY V=> ?_;have hf:¬(1073741824:Int)<(n:Int):=Ac;exact Ak [] 1 V λV=>Ay [(1,AC (o5 n r (by first |assumption|omega) Ac) [(0,0)] [])] [] 1 V λV=>Ao (Ay [(1,CH hf)] [] 1 V λV=>Ai V (BR (Ay [(1,Rwi n)] [] 1 V λV=>AU (BN V))))
theorem EA (cn m:Nat) (r:Ad) (h:(B3 [] r).length<=100000000000000) (hc:cn<=100000000000) (hm:m<=100000000000000):AO 127 ⟨[.cp 0 0,vi (cn:Int),vi (m:Int)],[(0,C0 (B3 [] r))],.v (.slice none 0 0),[(0,C0 r)]⟩:=by refine cy 1 func127 rfl ntmps127 λY V=>Ak [] 1 V λV=>Ao (Ay [(1,TX false [(decide ((m:Int)<0))=false] ⟨decide_eq_false Ac,aa⟩)] [] 1 V λV=>Ai V (DZ (Ao ?_)));have V:=V.ch 0 (C0 (A_ 0 r)) (C0 (B3 [] r)) rfl;refine Aw [(2,AC (Re cn 0 r (by first |assumption|omega) Ac Ac) [(0,0)] [])] [] 1 V λV=>Ae (BK (wp_loop_rounds 1 ?_));exact AX (n:=0) (Ao (Ak [] 1 V λV=>Ai V (DF (Ak [6] 1 V λV=>AU (BN V)))))
section
variable (st ep aD:Nat) (sd tx:Ad) (id ln:Nat) (bx:CE) (e2:Nat)
theorem W7 (hst:st=1) (he2:e2<=500000000):AO 114 ⟨[.cp 0 0,vi (e2:Int)],[(0,AI st ep aD sd tx 1),(1,Cd id ln 2),(2,.sl 22 A8 bx)],.cp 3 0,[(0,AI st ep aD sd tx 1),(1,Cd id ln 2),(2,.sl 22 A8 bx),(3,bS ((2*e2)+1) 4),(4,.sl 22 A8 (replicate 2 none))]⟩:=by refine cy 3 func114 rfl ntmps114 λY V=> ?_;have hs1:(st:Int)=1:=Ac;exact CK [] 3 V λV=>DG [(1,HV 2 e2 (2*e2))] [] 3 V λV=>Ao (DG [(4,Ga hs1)] [] 3 V λV=>AE V (Gc [(1,HV 2 e2 (2*e2)),(2,FA (2*e2) 1 ((2*e2)+1))] [] 3 V λV=>Ae (DG [(12,NI ((1000:Int)≠0)),(18,AC (Jd ((2*e2)+1) 2 1000 1088 Ac Ac) [] [(0,3),(1,4)])] [] 5 V λV=>CK [] 5 V λV=>AU (BN V))))
theorem Ls (hst:st=1) (he2:e2<=500000000):AO 77 ⟨[.cp 0 0,vi (e2:Int)],[(0,AI st ep aD sd tx 1),(1,Cd id ln 2),(2,.sl 22 A8 bx)],.cp 0 0,[(0,zT st e2 3),(1,Cd id ln 2),(2,.sl 22 A8 bx),(3,bS ((2*e2)+1) 4),(4,.sl 22 A8 (replicate 2 none))]⟩:=by exact cy 3 func77 rfl ntmps77 λY V=>CK [] 3 V λV=>DG [(8,AC (W7 st ep aD sd tx id ln bx e2 Ac Ac) [(0,0),(1,1),(2,2)] [(3,3),(4,4)])] [] 5 V λV=>CK [] 5 V λV=>AU (BN V)
theorem W6 (hst:st=2\/st=3) (he2:e2<=500000000):AO 114 ⟨[.cp 0 0,vi (e2:Int)],[(0,AI st ep aD sd tx 1),(1,Cd id ln 2),(2,.sl 22 A8 bx)],.cp 3 0,[(0,AI st ep aD sd tx 1),(1,Cd id ln 2),(2,.sl 22 A8 bx),(3,XB (2*e2) 4),(4,.sl 22 A8 (replicate 2 none))]⟩:=by refine cy 3 func114 rfl ntmps114 λY V=> ?_;have hs1:¬(st:Int)=1:=Ac;exact CK [] 3 V λV=>DG [(1,HV 2 e2 (2*e2))] [] 3 V λV=>Ao (DG [(4,CH hs1)] [] 3 V λV=>Ai V (BR (DG [(12,NI ((1000:Int)≠0)),(18,AC (Jd (2*e2) 2 1000 1184 Ac Ac) [] [(0,3),(1,4)])] [] 5 V λV=>CK [] 5 V λV=>AU (BN V))))
theorem Lr (hst:st=2\/st=3) (he2:e2<=500000000):AO 77 ⟨[.cp 0 0,vi (e2:Int)],[(0,AI st ep aD sd tx 1),(1,Cd id ln 2),(2,.sl 22 A8 bx)],.cp 0 0,[(0,zT st e2 3),(1,Cd id ln 2),(2,.sl 22 A8 bx),(3,XB (2*e2) 4),(4,.sl 22 A8 (replicate 2 none))]⟩:=by exact cy 3 func77 rfl ntmps77 λY V=>CK [] 3 V λV=>DG [(8,AC (W6 st ep aD sd tx id ln bx e2 Ac Ac) [(0,0),(1,1),(2,2)] [(3,3),(4,4)])] [] 5 V λV=>CK [] 5 V λV=>AU (BN V)
end
def zS (x0:Nat) (x1:CE):O:= .ob 187 (Ag [vi ((x0:Nat):Int),vi 1000,vi 1184,.ls true A8 x1])
def zR (x0 x1:Nat) (x2 x3:Ad) (x4:Nat):O:= .ob 126 (Ag [vi 1000,vi 1,vi ((x0:Nat):Int),vi ((x1:Nat):Int),lb x2,lb x3,.cp x4 0,.v (.slice none 0 0)])
def zQ (x0:Nat) (x1:CE):O:= .ob 187 (Ag [vi ((x0:Nat):Int),vi 1000,vi 1088,.ls true A8 x1])
theorem Aa2 {x:Ad} (h:x.length<=1040) (j:Nat):(([x]:AZ).getD j []).length<=2000:=by
 match j with
 |0=>exact b_ h (by decide)
 |j+1=>exact br _
theorem uD {pa:Nat} (h:pa<2):Kd B0 pa=0:=by
 have :pa=0\/pa=1:=by omega
 rcases this with e|e<;>subst e<;>rfl
theorem AaY {pa:Nat} (d:Ad) (h:pa<2):Jh B0 pa d:=by
 have :pa=0\/pa=1:=by omega
 rcases this with e|e<;>subst e<;>exact .inl rfl
theorem gS (ep aD:Nat) (r:Ad) (h:(A_ 1000 (A_ 2 (A_ ep (A_ aD (Dr [] (Dr [] (B3 [] (B3 [] r)))))))).length<=100000000000000) (hn:ep<=400000000/\aD<=1000000000):AO 95 ⟨[.cp 0 0],[(0,C0 (A_ 1000 (A_ 2 (A_ ep (A_ aD (Dr [] (Dr [] (B3 [] (B3 [] r)))))))))],.cp 1 0,[(0,C0 r),(1,.ob 126 (Ag [vi 1000,vi 2,vi (ep:Int),vi (aD:Int),lb [],lb [],.cp 2 0,.v (.slice none 0 0)])),(2,zS (2*ep) B0)]⟩:=by refine cy 1 func95 rfl ntmps95 λY V=> ?_;have hx2:¬(536870912:Int)<=(ep:Int):=Ac;refine CK [] 1 V λV=>Ao ?_;have hnil:([]:Ad).length=0:=rfl;have hfb:C_ B0=false:=rfl;have hB0l:1<=(B0).length/\(B0).length<=10000:=⟨by decide,by decide⟩;have hw0:=Bv h;have hw1:=Bv hw0;have hw2:=Bv hw1;have hw3:=Bv hw2;have hw4:=FR hw3;have hw5:=FR hw4;have hw6:=IN hw5;refine Gc [(1,AC (B_ 1000 (A_ 2 (A_ ep (A_ aD (Dr [] (Dr [] (B3 [] (B3 [] r))))))) (by first |assumption|omega) Ac) [(0,0)] []),(2,AC (IY 1000 Ac) [] [(0,1),(1,2),(2,3)])] [] 4 V λV=>CV (CK [] 4 V λV=>Ai V (BR (DG [(2,AC (B_ 2 (A_ ep (A_ aD (Dr [] (Dr [] (B3 [] (B3 [] r)))))) (by first |assumption|omega) Ac) [(0,0)] [])] [] 4 V λV=>DG [(1,AC (B_ ep (A_ aD (Dr [] (Dr [] (B3 [] (B3 [] r))))) (by first |assumption|omega) Ac) [(0,0)] []),(3,AC (B_ aD (Dr [] (Dr [] (B3 [] (B3 [] r)))) (by first |assumption|omega) Ac) [(0,0)] [])] [] 4 V λV=>DG [(1,AC (Ee 64 ([]:Ad) (Dr [] (B3 [] (B3 [] r))) (by first |assumption|omega) Ac (by first |assumption|omega)) [(0,0)] []),(3,AC (Ee 1088 ([]:Ad) (B3 [] (B3 [] r)) (by first |assumption|omega) Ac (by first |assumption|omega)) [(0,0)] [])] [] 4 V λV=>Ao (DG [(14,CH hx2)] [] 4 V λV=>Ai V (DZ ?_)))));have V:=V.wko 1 [.top,.top,.top,.top,lb [],.top,.top,.top];have V:=V.wko 1 [.top,.top,.top,.top,.top,lb [],.top,.top];refine Gc [(2,AC (Lr 2 0 0 ([]:Ad) ([]:Ad) ((2*0)+1) 1088 (replicate (((1088+1000)-1)/1000) none) ep Ac Ac) [(0,1),(1,2),(2,3)] [(3,4),(4,5)])] [] 6 V λV=>CV (BK (CK [] 6 V λV=>Ai V (CK [] 6 V λV=>Ai V (GT (He ?_)))));have V:=V.ch 5 (.sl 22 A8 B0) (.sl 22 A8 (replicate 2 none)) rfl;refine Gc [(1,AC (EA 2000 2000 (B3 [] r) (by first |assumption|omega) Ac Ac) [(0,0)] [])] [107] 6 V λV=>Ae (BK (wp_loop_rounds 1 ?_));refine AX (n:=0) (CK [] 6 V λV=>Ao (Ai V (I8 (DG [(4,AC (Gz (2*ep) 1000 1184 B0 Au A3) [(0,4),(1,5)] [])] [] 6 V λV=>CK [] 6 V λV=>Ai V (DZ (Gc [(2,AC (EA 2000 32 r (by first |assumption|omega) Ac Ac) [(0,0)] [])] [] 6 V λV=> ?_))))));have V:=V.wko 1 [.top,.top,.top,.top,lb [],.top,.top,.top];obtain⟨gs,V⟩:=V.fy 5 22 A8 B0 ((show true=true->B0≠[]from(λ_ e=>by have :=dn List.length e;cases this)) rfl);refine Ae (CK [] 6 V λV=>AU ?_);obtain⟨gs,V⟩:=V.rx [(0,0),(1,1),(2,4)] [2] [0,1,2] 3 Y;exact BN V
theorem Rz (st ep aD:Nat) (sd tx:Ad) (id ln:Nat) (bx:CE) (s:Ad) (hs:s.length=64):AO 78 ⟨[.cp 0 0,lb s],[(0,AI st ep aD sd tx 1),(1,Cd id ln 2),(2,.sl 22 A8 bx)],.tu (Ag []),[(0,.ob 126 (Ag [vi 1000,vi (st:Int),vi (ep:Int),vi (aD:Int),.ls true Bb s,lb ((AK (s.take 32) (s.drop 32)).1),.cp 1 0,.v (.slice none 0 0)])),(1,Cd id ln 2),(2,.sl 22 A8 bx)]⟩:=by exact cy 3 func78 rfl ntmps78 λY V=>DG [(2,AS (NB s Au))] [] 3 V λV=>Gc [(2,Zi 32 s.length),(4,NJ 32 s.length),(5,AC (Tn (s.take 32) (s.drop 32) Au Au) [] [(0,3)])] [] 4 V λV=>bY V
section
variable (ep aD:Nat)
theorem gR (pa:Nat) (d r:Ad) (h:(A_ 1000 (A_ 2 (A_ ep (A_ aD (Dr [] (Dr [] (B3 [BJ (2*ep) pa 2 d] (B3 [] r)))))))).length<=100000000000000) (hn:ep<=400000000/\aD<=1000000000) (hpa:pa<2) (hd:1<=d.length/\d.length<=1000) (hdl:d.length=min 1000 (1184-pa*1000)):AO 95 ⟨[.cp 0 0],[(0,C0 (A_ 1000 (A_ 2 (A_ ep (A_ aD (Dr [] (Dr [] (B3 [BJ (2*ep) pa 2 d] (B3 [] r)))))))))],.cp 1 0,[(0,C0 r),(1,.ob 126 (Ag [vi 1000,vi 2,vi (ep:Int),vi (aD:Int),lb [],lb [],.cp 2 0,.v (.slice none 0 0)])),(2,zS (2*ep) (A2 B0 pa d))]⟩:=by
 refine cy 1 func95 rfl ntmps95 λY V=> ?_;have hbe:((Kd B0 pa:Nat):Int)=0:=(by rw[uD hpa];rfl);have hx2:¬(536870912:Int)<=(ep:Int):=Ac;refine CK [] 1 V λV=>Ao ?_;have hnil:([]:Ad).length=0:=rfl;have hw0:=Bv h;have hw1:=Bv hw0;have hw2:=Bv hw1;have hw3:=Bv hw2;have hw4:=FR hw3;have hw5:=FR hw4;have hw6:=IN hw5;refine Gc [(1,AC (B_ 1000 (A_ 2 (A_ ep (A_ aD (Dr [] (Dr [] (B3 [BJ (2*ep) pa 2 d] (B3 [] r))))))) (by first |assumption|omega) Ac) [(0,0)] []),(2,AC (IY 1000 Ac) [] [(0,1),(1,2),(2,3)])] [] 4 V λV=>CV (CK [] 4 V λV=>Ai V (BR (DG [(2,AC (B_ 2 (A_ ep (A_ aD (Dr [] (Dr [] (B3 [BJ (2*ep) pa 2 d] (B3 [] r)))))) (by first |assumption|omega) Ac) [(0,0)] [])] [] 4 V λV=>DG [(1,AC (B_ ep (A_ aD (Dr [] (Dr [] (B3 [BJ (2*ep) pa 2 d] (B3 [] r))))) (by first |assumption|omega) Ac) [(0,0)] []),(3,AC (B_ aD (Dr [] (Dr [] (B3 [BJ (2*ep) pa 2 d] (B3 [] r)))) (by first |assumption|omega) Ac) [(0,0)] [])] [] 4 V λV=>DG [(1,AC (Ee 64 ([]:Ad) (Dr [] (B3 [BJ (2*ep) pa 2 d] (B3 [] r))) (by first |assumption|omega) Ac (by first |assumption|omega)) [(0,0)] []),(3,AC (Ee 1088 ([]:Ad) (B3 [BJ (2*ep) pa 2 d] (B3 [] r)) (by first |assumption|omega) Ac (by first |assumption|omega)) [(0,0)] [])] [] 4 V λV=>Ao (DG [(14,CH hx2)] [] 4 V λV=>Ai V (DZ ?_)))));have V:=V.wko 1 [.top,.top,.top,.top,lb [],.top,.top,.top];have V:=V.wko 1 [.top,.top,.top,.top,.top,lb [],.top,.top];refine Gc [(2,AC (Lr 2 0 0 ([]:Ad) ([]:Ad) ((2*0)+1) 1088 (replicate (((1088+1000)-1)/1000) none) ep Ac Ac) [(0,1),(1,2),(2,3)] [(3,4),(4,5)])] [] 6 V λV=>CV (BK (CK [] 6 V λV=>Ai V (CK [] 6 V λV=>Ai V (GT (He ?_)))));have V:=V.ch 5 (.sl 22 A8 B0) (.sl 22 A8 (replicate 2 none)) rfl;have hB0:(B0).length=2:=rfl;have hpl:(A2 B0 pa d).length=2:=by rw[ET];rfl
 have hfp:=T5 d hpa;have hec:=EL (id:=2*ep) (ai:=pa) (ct:=2) (d:=d) ⟨by omega,by omega,by omega⟩ hd.2;have he1:=Aa2 hec;have hl1:([BJ (2*ep) pa 2 d]:AZ).length=1:=rfl;refine Gc [(1,AC (PC 2000 2000 [BJ (2*ep) pa 2 d] (B3 [] r) (by first |assumption|omega) (by first |assumption|omega) Ac A3) [(0,0)] [])] [107] 6 V λV=>Ae (BK (wp_loop_rounds 2 ?_));refine AX (n:=1) (CK [] 6 V λV=>Ao (AE V (B6 (DG [(0,AN 0 1)] [111,112] 6 V λV=>DG [(1,AS (KE (2*ep) pa 2 d Ac Au))] [11,113,114,115,116,117] 7 V λV=>DG [(8,AC (MX (2*ep) 1000 1184 B0 (2*ep) pa 2 (pa*1000) d Ac Ac rfl rfl Ac Ac Ac hdl (AaY d hpa) ⟨hd.1,by omega⟩) [(0,4),(1,5)] []),(9,Gd hbe)] [118,119,120,121,122,123,124,125,126,127] 7 V λV=>Ai V (GT (ugQ [109,130] 7 V λV=>Ae ?_))))));refine AX (n:=0) (CK [] 7 V λV=>Ao (Ai V (I8 (DG [(4,AC (Gz (2*ep) 1000 1184 (A2 B0 pa d) Au A3) [(0,4),(1,5)] [])] [4,5,6,7,8,10,11,12,13,22,75,87,101,107,108,109,110,111,112,113,114,115,116,117,118,119,120,121,122,123,124,125,126,127,128,130] 7 V λV=>CK [] 7 V λV=>Ai V (DZ (Gc [(2,AC (EA 2000 32 r (by first |assumption|omega) Ac Ac) [(0,0)] [])] [] 7 V λV=> ?_))))));have V:=V.wko 1 [.top,.top,.top,.top,lb [],.top,.top,.top];obtain⟨gs,V⟩:=V.fy 5 22 A8 (A2 B0 pa d) ((show true=true->(A2 B0 pa d)≠[]from(λ_ e=>by have :=dn List.length e;rw[ET]at this;cases this)) rfl);refine Ae (CK [] 7 V λV=>AU ?_);obtain⟨gs,V⟩:=V.rx [(0,0),(1,1),(2,4)] [2] [0,1,2] 3 Y;exact BN V
theorem pQ (tx r:Ad) (h:(A_ 1000 (A_ 3 (A_ ep (A_ aD (Dr [] (Dr tx (B3 [] (B3 [] r)))))))).length<=100000000000000) (hn:ep<=400000000/\aD<=1000000000) (htx:tx.length=1088):AO 95 ⟨[.cp 0 0],[(0,C0 (A_ 1000 (A_ 3 (A_ ep (A_ aD (Dr [] (Dr tx (B3 [] (B3 [] r)))))))))],.cp 1 0,[(0,C0 r),(1,.ob 126 (Ag [vi 1000,vi 3,vi (ep:Int),vi (aD:Int),lb [],lb tx,.cp 2 0,.v (.slice none 0 0)])),(2,zS (2*ep) B0)]⟩:=by refine cy 1 func95 rfl ntmps95 λY V=> ?_;have hx3:((tx.length:Nat):Int)=1088:=Ac;have hx2:¬(536870912:Int)<=(ep:Int):=Ac;refine CK [] 1 V λV=>Ao ?_;have hnil:([]:Ad).length=0:=rfl;have hfb:C_ B0=false:=rfl;have hB0l:1<=(B0).length/\(B0).length<=10000:=⟨by decide,by decide⟩;have hw0:=Bv h;have hw1:=Bv hw0;have hw2:=Bv hw1;have hw3:=Bv hw2;have hw4:=FR hw3;have hw5:=FR hw4;have hw6:=IN hw5;refine Gc [(1,AC (B_ 1000 (A_ 3 (A_ ep (A_ aD (Dr [] (Dr tx (B3 [] (B3 [] r))))))) (by first |assumption|omega) Ac) [(0,0)] []),(2,AC (IY 1000 Ac) [] [(0,1),(1,2),(2,3)])] [] 4 V λV=>CV (CK [] 4 V λV=>Ai V (BR (DG [(2,AC (B_ 3 (A_ ep (A_ aD (Dr [] (Dr tx (B3 [] (B3 [] r)))))) (by first |assumption|omega) Ac) [(0,0)] [])] [] 4 V λV=>DG [(1,AC (B_ ep (A_ aD (Dr [] (Dr tx (B3 [] (B3 [] r))))) (by first |assumption|omega) Ac) [(0,0)] []),(3,AC (B_ aD (Dr [] (Dr tx (B3 [] (B3 [] r)))) (by first |assumption|omega) Ac) [(0,0)] [])] [] 4 V λV=>DG [(1,AC (Ee 64 ([]:Ad) (Dr tx (B3 [] (B3 [] r))) (by first |assumption|omega) Ac (by first |assumption|omega)) [(0,0)] []),(3,AC (Ee 1088 tx (B3 [] (B3 [] r)) (by first |assumption|omega) Ac (by first |assumption|omega)) [(0,0)] [])] [] 4 V λV=>Ao (DG [(14,CH hx2),(24,Ga hx3)] [] 4 V λV=>Ai V (DZ ?_)))));have V:=V.wko 1 [.top,.top,.top,.top,lb [],.top,.top,.top];have V:=V.wko 1 [.top,.top,.top,.top,.top,lb [],.top,.top];refine Gc [(2,AC (Lr 3 0 0 ([]:Ad) ([]:Ad) ((2*0)+1) 1088 (replicate (((1088+1000)-1)/1000) none) ep Ac Ac) [(0,1),(1,2),(2,3)] [(3,4),(4,5)])] [] 6 V λV=>CV (BK (CK [] 6 V λV=>Ai V (CK [] 6 V λV=>Ai V (GT (He ?_)))));have V:=V.ch 5 (.sl 22 A8 B0) (.sl 22 A8 (replicate 2 none)) rfl;refine Gc [(1,AC (EA 2000 2000 (B3 [] r) (by first |assumption|omega) Ac Ac) [(0,0)] [])] [107] 6 V λV=>Ae (BK (wp_loop_rounds 1 ?_));refine AX (n:=0) (CK [] 6 V λV=>Ao (Ai V (I8 (DG [(4,AC (Gz (2*ep) 1000 1184 B0 Au A3) [(0,4),(1,5)] [])] [] 6 V λV=>CK [] 6 V λV=>Ai V (DZ (Gc [(2,AC (EA 2000 32 r (by first |assumption|omega) Ac Ac) [(0,0)] [])] [] 6 V λV=> ?_))))));have V:=V.wko 1 [.top,.top,.top,.top,lb [],.top,.top,.top];obtain⟨gs,V⟩:=V.fy 5 22 A8 B0 ((show true=true->B0≠[]from(λ_ e=>by have :=dn List.length e;cases this)) rfl);refine Ae (CK [] 6 V λV=>AU ?_);obtain⟨gs,V⟩:=V.rx [(0,0),(1,1),(2,4)] [2] [0,1,2] 3 Y;exact BN V
theorem gV (r:Ad) (h:(A_ 1000 (A_ 1 (A_ ep (A_ aD (Dr [] (Dr [] (B3 [] (B3 [] r)))))))).length<=100000000000000) (hn:ep<=400000000/\aD<=1000000000):AO 95 ⟨[.cp 0 0],[(0,C0 (A_ 1000 (A_ 1 (A_ ep (A_ aD (Dr [] (Dr [] (B3 [] (B3 [] r)))))))))],.cp 1 0,[(0,C0 r),(1,zR ep aD [] [] 2),(2,zQ ((2*ep)+1) B0)]⟩:=by refine cy 1 func95 rfl ntmps95 λY V=> ?_;have hx2:¬(536870912:Int)<=(ep:Int):=Ac;refine CK [] 1 V λV=>Ao ?_;have hnil:([]:Ad).length=0:=rfl;have hfb:C_ B0=false:=rfl;have hB0l:1<=(B0).length/\(B0).length<=10000:=⟨by decide,by decide⟩;have hw0:=Bv h;have hw1:=Bv hw0;have hw2:=Bv hw1;have hw3:=Bv hw2;have hw4:=FR hw3;have hw5:=FR hw4;have hw6:=IN hw5;refine Gc [(1,AC (B_ 1000 (A_ 1 (A_ ep (A_ aD (Dr [] (Dr [] (B3 [] (B3 [] r))))))) (by first |assumption|omega) Ac) [(0,0)] []),(2,AC (IY 1000 Ac) [] [(0,1),(1,2),(2,3)])] [] 4 V λV=>CV (CK [] 4 V λV=>Ai V (BR (DG [(2,AC (B_ 1 (A_ ep (A_ aD (Dr [] (Dr [] (B3 [] (B3 [] r)))))) (by first |assumption|omega) Ac) [(0,0)] [])] [] 4 V λV=>DG [(1,AC (B_ ep (A_ aD (Dr [] (Dr [] (B3 [] (B3 [] r))))) (by first |assumption|omega) Ac) [(0,0)] []),(3,AC (B_ aD (Dr [] (Dr [] (B3 [] (B3 [] r)))) (by first |assumption|omega) Ac) [(0,0)] [])] [] 4 V λV=>DG [(1,AC (Ee 64 ([]:Ad) (Dr [] (B3 [] (B3 [] r))) (by first |assumption|omega) Ac (by first |assumption|omega)) [(0,0)] []),(3,AC (Ee 1088 ([]:Ad) (B3 [] (B3 [] r)) (by first |assumption|omega) Ac (by first |assumption|omega)) [(0,0)] [])] [] 4 V λV=>Ao (DG [(14,CH hx2)] [] 4 V λV=>Ai V (DZ ?_)))));have V:=V.wko 1 [.top,.top,.top,.top,lb [],.top,.top,.top];have V:=V.wko 1 [.top,.top,.top,.top,.top,lb [],.top,.top];refine Gc [(2,AC (Ls 1 0 0 ([]:Ad) ([]:Ad) ((2*0)+1) 1088 (replicate (((1088+1000)-1)/1000) none) ep Ac Ac) [(0,1),(1,2),(2,3)] [(3,4),(4,5)])] [] 6 V λV=>CV (BK (CK [] 6 V λV=>Ai V (CK [] 6 V λV=>Ai V (GT (He ?_)))));have V:=V.ch 5 (.sl 22 A8 B0) (.sl 22 A8 (replicate 2 none)) rfl;refine Gc [(1,AC (EA 2000 2000 (B3 [] r) (by first |assumption|omega) Ac Ac) [(0,0)] [])] [107] 6 V λV=>Ae (BK (wp_loop_rounds 1 ?_));refine AX (n:=0) (CK [] 6 V λV=>Ao (Ai V (I8 (DG [(4,AC (Gz ((2*ep)+1) 1000 1088 B0 Au A3) [(0,4),(1,5)] [])] [] 6 V λV=>CK [] 6 V λV=>Ai V (DZ (Gc [(2,AC (EA 2000 32 r (by first |assumption|omega) Ac Ac) [(0,0)] [])] [] 6 V λV=> ?_))))));have V:=V.wko 1 [.top,.top,.top,.top,lb [],.top,.top,.top];obtain⟨gs,V⟩:=V.fy 5 22 A8 B0 ((show true=true->B0≠[]from(λ_ e=>by have :=dn List.length e;cases this)) rfl);refine Ae (CK [] 6 V λV=>AU ?_);obtain⟨gs,V⟩:=V.rx [(0,0),(1,1),(2,4)] [2] [0,1,2] 3 Y;exact BN V
theorem gU (sd r:Ad) (h:(A_ 1000 (A_ 1 (A_ ep (A_ aD (Dr sd (Dr [] (B3 [] (B3 [] r)))))))).length<=100000000000000) (hn:ep<=400000000/\aD<=1000000000) (hsd:sd.length=64):AO 95 ⟨[.cp 0 0],[(0,C0 (A_ 1000 (A_ 1 (A_ ep (A_ aD (Dr sd (Dr [] (B3 [] (B3 [] r)))))))))],.cp 1 0,[(0,C0 r),(1,zR ep aD sd ((AK (sd.take 32) (sd.drop 32)).1) 2),(2,zQ ((2*ep)+1) B0)]⟩:=by refine cy 1 func95 rfl ntmps95 λY V=> ?_;have hx4:((sd.length:Nat):Int)=64:=Ac;have hx2:¬(536870912:Int)<=(ep:Int):=Ac;refine CK [] 1 V λV=>Ao ?_;have hnil:([]:Ad).length=0:=rfl;have hfb:C_ B0=false:=rfl;have hB0l:1<=(B0).length/\(B0).length<=10000:=⟨by decide,by decide⟩;have hw0:=Bv h;have hw1:=Bv hw0;have hw2:=Bv hw1;have hw3:=Bv hw2;have hw4:=FR hw3;have hw5:=FR hw4;have hw6:=IN hw5;refine Gc [(1,AC (B_ 1000 (A_ 1 (A_ ep (A_ aD (Dr sd (Dr [] (B3 [] (B3 [] r))))))) (by first |assumption|omega) Ac) [(0,0)] []),(2,AC (IY 1000 Ac) [] [(0,1),(1,2),(2,3)])] [] 4 V λV=>CV (CK [] 4 V λV=>Ai V (BR (DG [(2,AC (B_ 1 (A_ ep (A_ aD (Dr sd (Dr [] (B3 [] (B3 [] r)))))) (by first |assumption|omega) Ac) [(0,0)] [])] [] 4 V λV=>DG [(1,AC (B_ ep (A_ aD (Dr sd (Dr [] (B3 [] (B3 [] r))))) (by first |assumption|omega) Ac) [(0,0)] []),(3,AC (B_ aD (Dr sd (Dr [] (B3 [] (B3 [] r)))) (by first |assumption|omega) Ac) [(0,0)] [])] [] 4 V λV=>DG [(1,AC (Ee 64 sd (Dr [] (B3 [] (B3 [] r))) (by first |assumption|omega) Ac (by first |assumption|omega)) [(0,0)] []),(3,AC (Ee 1088 ([]:Ad) (B3 [] (B3 [] r)) (by first |assumption|omega) Ac (by first |assumption|omega)) [(0,0)] [])] [] 4 V λV=>Ao (DG [(14,CH hx2)] [] 4 V λV=>Ai V (DZ ?_)))));have V:=V.wko 1 [.top,.top,.top,.top,lb [],.top,.top,.top];have V:=V.wko 1 [.top,.top,.top,.top,.top,lb [],.top,.top];refine Gc [(2,AC (Ls 1 0 0 ([]:Ad) ([]:Ad) ((2*0)+1) 1088 (replicate (((1088+1000)-1)/1000) none) ep Ac Ac) [(0,1),(1,2),(2,3)] [(3,4),(4,5)])] [] 6 V λV=>CV (BK (DG [(8,Ga hx4)] [] 6 V λV=>AE V ?_));have V:=V.wko 1 [.top,.top,.top,.top,lb [],.top,.top,.top];refine Gc [(2,AC (Rz 1 ep aD ([]:Ad) ([]:Ad) ((2*ep)+1) 1088 (replicate 2 none) sd Au) [(0,1),(1,4),(2,5)] [])] [] 6 V λV=>Cn (He ?_);have V:=V.ch 5 (.sl 22 A8 B0) (.sl 22 A8 (replicate 2 none)) rfl;refine Gc [(1,AC (EA 2000 2000 (B3 [] r) (by first |assumption|omega) Ac Ac) [(0,0)] [])] [107] 6 V λV=>Ae (BK (wp_loop_rounds 1 ?_));refine AX (n:=0) (CK [] 6 V λV=>Ao (Ai V (I8 (DG [(4,AC (Gz ((2*ep)+1) 1000 1088 B0 Au A3) [(0,4),(1,5)] [])] [] 6 V λV=>CK [] 6 V λV=>Ai V (DZ (Gc [(2,AC (EA 2000 32 r (by first |assumption|omega) Ac Ac) [(0,0)] [])] [] 6 V λV=> ?_))))));have V:=V.wko 1 [.top,.top,.top,.top,lb [],.top,.top,.top];obtain⟨gs,V⟩:=V.fy 5 22 A8 B0 ((show true=true->B0≠[]from(λ_ e=>by have :=dn List.length e;cases this)) rfl);refine Ae (CK [] 6 V λV=>AU ?_);obtain⟨gs,V⟩:=V.rx [(0,0),(1,1),(2,4)] [2] [0,1,2] 3 Y;exact BN V
theorem gT (sd:Ad) (pa:Nat) (d r:Ad) (h:(A_ 1000 (A_ 1 (A_ ep (A_ aD (Dr sd (Dr [] (B3 [BJ (2*ep+1) pa 2 d] (B3 [] r)))))))).length<=100000000000000) (hn:ep<=400000000/\aD<=1000000000) (hsd:sd.length=64) (hpa:pa<2) (hd:1<=d.length/\d.length<=1000) (hdl:d.length=min 1000 (1088-pa*1000)):AO 95 ⟨[.cp 0 0],[(0,C0 (A_ 1000 (A_ 1 (A_ ep (A_ aD (Dr sd (Dr [] (B3 [BJ (2*ep+1) pa 2 d] (B3 [] r)))))))))],.cp 1 0,[(0,C0 r),(1,zR ep aD sd ((AK (sd.take 32) (sd.drop 32)).1) 2),(2,zQ ((2*ep)+1) (A2 B0 pa d))]⟩:=by
 refine cy 1 func95 rfl ntmps95 λY V=> ?_;have hx4:((sd.length:Nat):Int)=64:=Ac;have hbe:((Kd B0 pa:Nat):Int)=0:=(by rw[uD hpa];rfl);have hx2:¬(536870912:Int)<=(ep:Int):=Ac;refine CK [] 1 V λV=>Ao ?_;have hnil:([]:Ad).length=0:=rfl;have hw0:=Bv h;have hw1:=Bv hw0;have hw2:=Bv hw1;have hw3:=Bv hw2;have hw4:=FR hw3;have hw5:=FR hw4;have hw6:=IN hw5;refine Gc [(1,AC (B_ 1000 (A_ 1 (A_ ep (A_ aD (Dr sd (Dr [] (B3 [BJ (2*ep+1) pa 2 d] (B3 [] r))))))) (by first |assumption|omega) Ac) [(0,0)] []),(2,AC (IY 1000 Ac) [] [(0,1),(1,2),(2,3)])] [] 4 V λV=>CV (CK [] 4 V λV=>Ai V (BR (DG [(2,AC (B_ 1 (A_ ep (A_ aD (Dr sd (Dr [] (B3 [BJ (2*ep+1) pa 2 d] (B3 [] r)))))) (by first |assumption|omega) Ac) [(0,0)] [])] [] 4 V λV=>DG [(1,AC (B_ ep (A_ aD (Dr sd (Dr [] (B3 [BJ (2*ep+1) pa 2 d] (B3 [] r))))) (by first |assumption|omega) Ac) [(0,0)] []),(3,AC (B_ aD (Dr sd (Dr [] (B3 [BJ (2*ep+1) pa 2 d] (B3 [] r)))) (by first |assumption|omega) Ac) [(0,0)] [])] [] 4 V λV=>DG [(1,AC (Ee 64 sd (Dr [] (B3 [BJ (2*ep+1) pa 2 d] (B3 [] r))) (by first |assumption|omega) Ac (by first |assumption|omega)) [(0,0)] []),(3,AC (Ee 1088 ([]:Ad) (B3 [BJ (2*ep+1) pa 2 d] (B3 [] r)) (by first |assumption|omega) Ac (by first |assumption|omega)) [(0,0)] [])] [] 4 V λV=>Ao (DG [(14,CH hx2)] [] 4 V λV=>Ai V (DZ ?_)))));have V:=V.wko 1 [.top,.top,.top,.top,lb [],.top,.top,.top];have V:=V.wko 1 [.top,.top,.top,.top,.top,lb [],.top,.top];refine Gc [(2,AC (Ls 1 0 0 ([]:Ad) ([]:Ad) ((2*0)+1) 1088 (replicate (((1088+1000)-1)/1000) none) ep Ac Ac) [(0,1),(1,2),(2,3)] [(3,4),(4,5)])] [] 6 V λV=>CV (BK (DG [(8,Ga hx4)] [] 6 V λV=>AE V ?_));have V:=V.wko 1 [.top,.top,.top,.top,lb [],.top,.top,.top];refine Gc [(2,AC (Rz 1 ep aD ([]:Ad) ([]:Ad) ((2*ep)+1) 1088 (replicate 2 none) sd Au) [(0,1),(1,4),(2,5)] [])] [] 6 V λV=>Cn (He ?_);have V:=V.ch 5 (.sl 22 A8 B0) (.sl 22 A8 (replicate 2 none)) rfl;have hB0:(B0).length=2:=rfl;have hpl:(A2 B0 pa d).length=2:=by rw[ET];rfl
 have hfp:=T5 d hpa;have hec:=EL (id:=(2*ep)+1) (ai:=pa) (ct:=2) (d:=d) ⟨by omega,by omega,by omega⟩ hd.2;have he1:=Aa2 hec;have hl1:([BJ (2*ep+1) pa 2 d]:AZ).length=1:=rfl;refine Gc [(1,AC (PC 2000 2000 [BJ (2*ep+1) pa 2 d] (B3 [] r) (by first |assumption|omega) (by first |assumption|omega) Ac A3) [(0,0)] [])] [107] 6 V λV=>Ae (BK (wp_loop_rounds 2 ?_));refine AX (n:=1) (CK [] 6 V λV=>Ao (AE V (B6 (DG [(0,AN 0 1)] [111,112] 6 V λV=>DG [(1,AS (KE (2*ep+1) pa 2 d Ac Au))] [11,113,114,115,116,117] 7 V λV=>DG [(8,AC (MX ((2*ep)+1) 1000 1088 B0 (2*ep+1) pa 2 (pa*1000) d Ac Ac rfl rfl Ac Ac Ac hdl (AaY d hpa) ⟨hd.1,by omega⟩) [(0,4),(1,5)] []),(9,Gd hbe)] [118,119,120,121,122,123,124,125,126,127] 7 V λV=>Ai V (GT (ugQ [109,130] 7 V λV=>Ae ?_))))));refine AX (n:=0) (CK [] 7 V λV=>Ao (Ai V (I8 (DG [(4,AC (Gz ((2*ep)+1) 1000 1088 (A2 B0 pa d) Au A3) [(0,4),(1,5)] [])] [4,5,6,7,8,10,11,12,13,22,75,87,100,107,108,109,110,111,112,113,114,115,116,117,118,119,120,121,122,123,124,125,126,127,128,130] 7 V λV=>CK [] 7 V λV=>Ai V (DZ (Gc [(2,AC (EA 2000 32 r (by first |assumption|omega) Ac Ac) [(0,0)] [])] [] 7 V λV=> ?_))))));have V:=V.wko 1 [.top,.top,.top,.top,lb [],.top,.top,.top];obtain⟨gs,V⟩:=V.fy 5 22 A8 (A2 B0 pa d) ((show true=true->(A2 B0 pa d)≠[]from(λ_ e=>by have :=dn List.length e;rw[ET]at this;cases this)) rfl);refine Ae (CK [] 7 V λV=>AU ?_);obtain⟨gs,V⟩:=V.rx [(0,0),(1,1),(2,4)] [2] [0,1,2] 3 Y;exact BN V
end
def oN (id:Nat) (bx:CE):AZ:=(match bx.getD 0 none with |none=>[]|some d=>[BJ id 0 2 d])++(match bx.getD 1 none with |none=>[]|some d=>[BJ id 1 2 d])
theorem SV (id:Nat) {pa:Nat} (h:pa<2) (d:Ad):oN id (A2 B0 pa d)=[BJ id pa 2 d]:=by
 have :pa=0\/pa=1:=by omega
 rcases this with e|e<;>subst e<;>rfl
def G2 (st ep aD:Nat) (sd tx:Ad) (id:Nat) (bx:CE) (r:Ad):Ad:=A_ 1000 (A_ st (A_ ep (A_ aD (Dr sd (Dr (if st=1 then[]else tx) (B3 (oN id bx) (B3 [] r)))))))
structure LdOk (st ep:Nat) (sd tx:Ad) (id ln:Nat) (bx:CE):Prop where
 or:(st=2/\sd=[]/\tx=[]/\id=2*ep/\ln=1184)\/(st=3/\sd=[]/\tx.length=1088/\id=2*ep/\ln=1184/\bx=B0)\/(st=1/\sd=[]/\tx=[]/\id=2*ep+1/\ln=1088/\bx=B0)\/(st=1/\sd.length=64/\tx=(AK (sd.take 32) (sd.drop 32)).1/\id=2*ep+1/\ln=1088)
 bx:bx=B0\/∃pa d,pa<2/\(1<=d.length/\d.length<=1000)/\d.length=min 1000 (ln-pa*1000)/\bx=A2 B0 pa d
section
variable (st ep aD:Nat) (sd tx:Ad) (id ln:Nat) (bx:CE) (r:Ad)
def Y7:Con:=⟨[.cp 0 0],[(0,C0 (G2 st ep aD sd tx id bx r))],.cp 1 0,[(0,C0 r),(1,AI st ep aD sd tx 2),(2,AQ id ln bx)]⟩
theorem gQ (h:(G2 st ep aD sd tx id bx r).length<=100000000000000) (hn:ep<=400000000/\aD<=1000000000) (hL:LdOk st ep sd tx id ln bx):AO 95 (Y7 st ep aD sd tx id ln bx r):=by
 unfold Y7;rcases hL.or with⟨rfl,rfl,rfl,rfl,rfl⟩|⟨rfl,rfl,h3,rfl,rfl,rfl⟩|⟨rfl,rfl,rfl,rfl,rfl,rfl⟩|⟨rfl,h2,rfl,rfl,rfl⟩
 ·rcases hL.bx with rfl|⟨pa,d,h1,h2,h3,rfl⟩
  ·exact gS ep aD r h hn
  ·have e:G2 2 ep aD [] [] (2*ep) (A2 B0 pa d) r=A_ 1000 (A_ 2 (A_ ep (A_ aD (Dr [] (Dr [] (B3 [BJ (2*ep) pa 2 d] (B3 [] r))))))):=by unfold G2;rw[SV _ h1];rfl
   rw[e]at h⊢;exact gR ep aD pa d r h hn h1 h2 h3
 ·exact pQ ep aD tx r h hn h3
 ·exact gV ep aD r h hn
 ·rcases hL.bx with rfl|⟨pa,d,h1,h3,h4,rfl⟩
  ·exact gU ep aD sd r h hn h2
  ·have e:G2 1 ep aD sd (AK (sd.take 32) (sd.drop 32)).1 (2*ep+1) (A2 B0 pa d) r=A_ 1000 (A_ 1 (A_ ep (A_ aD (Dr sd (Dr [] (B3 [BJ (2*ep+1) pa 2 d] (B3 [] r))))))):=by unfold G2;rw[SV _ h1];rfl
   rw[e]at h⊢;exact gT ep aD sd pa d r h hn h2 h1 h3 h4
end
theorem NM (a x r:Ad):((a++Ah x.length)++x)++r=a++Dr x r:=by show((a++Ah x.length)++x)++r=a++(Ah x.length++(x++r));simp only[bw]
theorem XK (a:Ad) (l:AZ):a++Ds l=a++B3 l []:=by rw[<-LP,fm]
theorem wO (st ep aD:Nat) (sd tx:Ad) (id ln:Nat) (b:Ad):WF st ep aD sd tx id ln b=(B0,b++G2 st ep aD sd tx id B0 []):=by
 unfold WF;rw[Ab];unfold G2;by_cases h:st=1
 ·rw[ab Ac,ab h,XK,LP,NM,NM,C6,C6,C6,C6];rfl
 ·rw[aj Ac,aj h,XK,LP,NM,NM,C6,C6,C6,C6];rfl
theorem wN (st ep aD:Nat) (sd tx:Ad) (id ln:Nat) {pa:Nat} (d b:Ad) (hp:pa<2):WE st ep aD sd tx id ln pa d b=(A2 B0 pa d,b++G2 st ep aD sd tx id (A2 B0 pa d) []):=by
 unfold WE;rw[Ab];unfold G2;rw[SV _ hp];by_cases h:st=1
 ·rw[ab Ac,ab h,XK,LP,NM,NM,C6,C6,C6,C6];rfl
 ·rw[aj Ac,aj h,XK,LP,NM,NM,C6,C6,C6,C6];rfl
theorem LdOk.len {st ep:Nat} {sd tx:Ad} {id ln:Nat} {bx:CE} (h:LdOk st ep sd tx id ln bx):sd.length<=64/\tx.length<=2000/\st<=3/\id<=2*ep+1:=by
 rcases h.or with⟨rfl,rfl,rfl,rfl,rfl⟩|⟨rfl,rfl,h3,rfl,rfl,rfl⟩|⟨rfl,rfl,rfl,rfl,rfl,rfl⟩|⟨rfl,h2,rfl,rfl,rfl⟩
 ·exact⟨by decide,by decide,by decide,by omega⟩
 ·exact⟨by decide,by omega,by decide,by omega⟩
 ·exact⟨by decide,by decide,by decide,by omega⟩
 ·have :=(GQ (sd.take 32) (sd.drop 32) (by rw[au];omega)).1;exact⟨by omega,by omega,by decide,by omega⟩
theorem gP (st ep aD:Nat) (sd tx:Ad) (id ln:Nat) (bx:CE) (b:Ad) (hb:b.length<=10000000000) (hn:ep<=400000000/\aD<=1000000000) (hL:LdOk st ep sd tx id ln bx):AO 57 ⟨[.cp 0 0,.cp 2 0],[(0,AI st ep aD sd tx 1),(1,AQ id ln bx),(2,N8 3),(3,.sl 5 Bb b)],.tu (Ag []),[(0,AI st ep aD sd tx 1),(1,AQ id ln bx),(2,N8 4),(4,.sl 5 Bb (b++G2 st ep aD sd tx id bx []))]⟩:=by
 have hl:=hL.len;rcases hL.bx with rfl|⟨pa,d,h1,h2,h3,rfl⟩
 ·have h:=pO st ep aD sd tx id ln b hb ⟨hl.1,hl.2.1⟩ Ac;unfold lO at h;rw[wO]at h;exact h
 ·have h:=pN st ep aD sd tx id ln pa d b hb ⟨hl.1,hl.2.1⟩ Ac h1 h2;unfold lN at h;rw[wN _ _ _ _ _ _ _ _ _ h1]at h;exact h
theorem Yu {st ep aD:Nat} {sd tx:Ad} {id ln:Nat} {bx:CE} (hn:ep<=400000000/\aD<=1000000000) (hL:LdOk st ep sd tx id ln bx):(G2 st ep aD sd tx id bx []).length<=5000:=by
 have hl:=hL.len;have hq:(B3 (oN id bx) (B3 [] [])).length<=2000:=by
  have a0:=An (n:=0) Ac;rcases hL.bx with rfl|⟨pa,d,h1,h2,h3,rfl⟩
  ·show(Ah 0++(Ah 0++[])).length<=2000;simp only[ah,av];omega
  ·rw[SV _ h1];have a1:=An (n:=1) Ac;have a2:=EL (id:=id) (ai:=pa) (ct:=2) (d:=d) ⟨by omega,by omega,by omega⟩ h2.2;have a3:=An (n:=(BJ id pa 2 d).length) Ac;show(Ah 1++(Ah (BJ id pa 2 d).length++(BJ id pa 2 d++(Ah 0++[])))).length<=2000;simp only[ah,av];omega
 have b1:=An (n:=1000) Ac;have b2:=An (n:=st) Ac;have b3:=An (n:=ep) Ac;have b4:=An (n:=aD) Ac;have b5:=An (n:=sd.length) Ac;have e:(G2 st ep aD sd tx id bx []).length=(Ah 1000++(Ah st++(Ah ep++(Ah aD++(Ah sd.length++(sd++(Ah (if st=1 then[]else tx).length++((if st=1 then[]else tx)++B3 (oN id bx) (B3 [] []))))))))).length:=rfl;by_cases hs:st=1
 ·rw[e,ab hs];have b7:=An (n:=([]:Ad).length) (by decide);simp only[ah,av]at *;omega
 ·rw[e,aj hs];have b7:=An (n:=tx.length) Ac;simp only[ah];omega
def NP (kl:List KR) (x89:Nat):Ad->Ad:=λo17=>((o17++Ah ((kl.getD x89 Bg).1.toNat))++Ah ((kl.getD x89 Bg).2.1.toNat))++Ds (kl.getD x89 Bg).2.2
section
variable (id:Ad) (fi:Bool) (ok:Ad) (oi:Nat) (ik:Ad) (ii lT:Nat) (mx:AZ) (lD tD:Nat) (kl:List KR) (st:Nat) (ep aD:Nat) (sd tx:Ad) (rD rT:Nat) (bx:CE)
def EZ (id:Ad) (fi:Bool) (ok:Ad) (oi:Nat) (ik:Ad) (ii lT:Nat) (mx:AZ) (lD tD:Nat) (kl:List KR) (st:Nat) (ep aD:Nat) (sd tx:Ad) (rD rT:Nat) (bx:CE):Nat->Ad
 |0=>((((((((((([]++id)++Ah (AM fi))++Ah (AM true))++ok)++Ah oi)++ik)++Ah ii)++Ah lT)++Ds mx)++Ah lD)++Ah tD)++Ah kl.length
 |x89+1=>NP kl x89 (EZ id fi ok oi ik ii lT mx lD tD kl st ep aD sd tx rD rT bx x89)
def D9:Ad:=AR ((EZ id fi ok oi ik ii lT mx lD tD kl st ep aD sd tx rD rT bx kl.length)++G2 st ep aD sd tx rD bx [])
def lC (z_:Ad:=D9 id fi ok oi ik ii lT mx lD tD kl st ep aD sd tx rD rT bx):Con:=Cq [.cp 0 0] [(0,G4 id fi true 1 2 3 lT mx lD tD kl),(1,Al ok oi),(2,Al ik ii),(3,AI st ep aD sd tx 4),(4,AQ rD rT bx)] (lb z_)
theorem Q9 (hok:ok.length=32) (hik:ik.length=32) (hoi:oi<=100000000000) (hii:ii<=100000000000) (hm1:1<=mx.length/\mx.length<=100000) (hm2:∀j,(mx.getD j AW).length<=32) (hlow:lT<=100000000000) (hK:KOk kl) (hll:lT<=lD/\lD<=100000000000) (htd:tD<=100000000000) (hid:id.length=32) (hn:ep<=400000000/\aD<=1000000000) (hL:LdOk st ep sd tx rD rT bx):AO 25 (lC id fi ok oi ik ii lT mx lD tD kl st ep aD sd tx rD rT bx):=by
 refine cy 5 func25 rfl ntmps25 λY V=>Ak [] 5 V λV=>Ao (Ay [(1,Kf (Cu) [0,1] [.im (Ag [.top,.top,.top,.im (Ag []) 0,.top,.top,.top,.top,.top,.top,.top]) 0])] [] 5 V λV=>Ai V (BR (Ak [] 6 V λV=>Ao ?_)));have hkw9:=Yu (aD:=aD) hn hL;have hf1:=Fy fi;have hf2:=Fy true;have hg1:=An (n:=AM fi) Ac;have hg2:=An (n:=AM true) Ac;have hg3:=An (n:=oi) Ac;have hg4:=An (n:=ii) Ac;have hg5:=An (n:=lT) Ac;have hg6:=An (n:=lD) Ac;have hg7:=An (n:=tD) Ac;have hK1:=hK.1;have hg8:=An (n:=kl.length) Ac;have hlw:=Ia hm1.2 hm2;refine Aw [(5,AC (O7 id Au) [(0,5)] [(1,6)]),(10,AS (OJ fi)),(11,AC (BF ([]++id) (AM fi) Au Ac) [(0,5),(1,6)] [(2,7)]),(16,AS (OJ true)),(17,AC (BF (([]++id)++Ah (AM fi)) (AM true) Au Ac) [(0,5),(1,7)] [(2,8)])] [] 9 V λV=>CV (Ak [38] 9 V λV=>BK (wp_loop_rounds 3 ?_));refine AX (n:=2) (Ak [] 9 V λV=>Ao (AE V (B6 (Ay [(0,AN 0 2)] [42,43] 9 V λV=>Aw [(2,AC (OP ok oi Au) [(0,1)] []),(3,AC (Ez ((([]++id)++Ah (AM fi))++Ah (AM true)) ok Au Au) [(0,5),(1,8)] [(2,9)]),(5,AC (Cw ok oi) [(0,1)] []),(6,Jn oi),(7,AC (BF (((([]++id)++Ah (AM fi))++Ah (AM true))++ok) oi Au Ac) [(0,5),(1,9)] [(2,10)])] [44,45,46,47,48,49,50] 11 V λV=>Cn (CW [40,52] 11 V λV=>Ae ?_)))));refine AX (n:=1) (Ak [] 11 V λV=>Ao (AE V (B6 (Ay [(0,AN 1 2)] [42,43] 11 V λV=>Aw [(2,AC (OP ik ii Au) [(0,2)] []),(3,AC (Ez ((((([]++id)++Ah (AM fi))++Ah (AM true))++ok)++Ah oi) ik Au Au) [(0,5),(1,10)] [(2,11)]),(5,AC (Cw ik ii) [(0,2)] []),(6,Jn ii),(7,AC (BF (((((([]++id)++Ah (AM fi))++Ah (AM true))++ok)++Ah oi)++ik) ii Au Ac) [(0,5),(1,11)] [(2,12)])] [44,45,46,47,48,49,50] 13 V λV=>Cn (CW [40,52] 13 V λV=>Ae ?_)))));refine AX (n:=0) (Ak [] 13 V λV=>Ao (Ai V (DF (Ay [(5,Jn lT),(6,AC (BF ((((((([]++id)++Ah (AM fi))++Ah (AM true))++ok)++Ah oi)++ik)++Ah ii) lT Au Ac) [(0,5),(1,12)] [(2,13)]),(11,AC (Es (((((((([]++id)++Ah (AM fi))++Ah (AM true))++ok)++Ah oi)++ik)++Ah ii)++Ah lT) mx Au Au (by first |assumption|exact λj=>b_ (hm2 j) (by decide)|exact GZ hkr.2.2.2)) [(0,5),(1,13)] [(2,14)]),(16,Jn lD),(17,AC (BF ((((((((([]++id)++Ah (AM fi))++Ah (AM true))++ok)++Ah oi)++ik)++Ah ii)++Ah lT)++Ds mx) lD Au Ac) [(0,5),(1,14)] [(2,15)]),(22,Jn tD),(23,AC (BF (((((((((([]++id)++Ah (AM fi))++Ah (AM true))++ok)++Ah oi)++ik)++Ah ii)++Ah lT)++Ds mx)++Ah lD) tD Au Ac) [(0,5),(1,15)] [(2,16)]),(29,Jn kl.length),(30,AC (BF ((((((((((([]++id)++Ah (AM fi))++Ah (AM true))++ok)++Ah oi)++ik)++Ah ii)++Ah lT)++Ds mx)++Ah lD)++Ah tD) kl.length Au Ac) [(0,5),(1,16)] [(2,17)])] [] 18 V λV=>Ao (Ak [87] 18 V λV=>BK (AD (ι:=Nat×Ad) Y V (λ(x89,o17)=>(kl.length-x89,[(89,vi ((x89:Nat):Int))],[(17,.sl 5 Bb o17)],(x89<=kl.length)/\(o17=EZ id fi ok oi ik ii lT mx lD tD kl st ep aD sd tx rD rT bx x89)/\(o17.length<=5000000+x89*5000000)/\True)) [0,2,3,87,88] [0,1,2,3,4,5] 18 (0,((((((((((([]++id)++Ah (AM fi))++Ah (AM true))++ok)++Ah oi)++ik)++Ah ii)++Ah lT)++Ds mx)++Ah lD)++Ah tD)++Ah kl.length) [(0,0),(1,1),(2,2),(3,3),(4,4),(5,5),(17,17)] ⟨Ac,rfl,Au,aa⟩ ?_))))));rintro⟨x89,o17⟩ ac gs ws ⟨hx89,hq2,pL,_⟩ V;refine Ak [] 18 V λV=>Ao (AH ((x89:Int)<((kl.length:Nat):Int)) V (λh1=> ?_) (λh1=> ?_))
 ·refine B6 (Ay [(0,AN x89 kl.length)] [7] 19 V λV=> ?_);have hkr:(0<=(kl.getD x89 Bg).1/\(kl.getD x89 Bg).1<=1000000000000)/\(0<=(kl.getD x89 Bg).2.1/\(kl.getD x89 Bg).2.1<=1000000000000)/\(kl.getD x89 Bg).2.2.length<=100000/\∀k∈(kl.getD x89 Bg).2.2,k.length=32:=hK.2 x89 Ac;have hkw:(Ds (kl.getD x89 Bg).2.2).length<=4200010:=Ia hkr.2.2.1 (Tc hkr.2.2.2);have hn1:=An (n:=(kl.getD x89 Bg).1.toNat) Ac;have hn2:=An (n:=(kl.getD x89 Bg).2.1.toNat) Ac;exact Aw [(3,Jo (((kl.getD x89 Bg).1.toNat:Nat):Int) [IntKind.wrap .u64 (kl.getD x89 Bg).1=(((kl.getD x89 Bg).1.toNat:Nat):Int)] ⟨XJ hkr.1.1 hkr.1.2,aa⟩),(4,AC (BF o17 ((kl.getD x89 Bg).1.toNat) Au Ac) [(0,5),(1,17)] [(2,19)]),(7,Jo (((kl.getD x89 Bg).2.1.toNat:Nat):Int) [IntKind.wrap .u64 (kl.getD x89 Bg).2.1=(((kl.getD x89 Bg).2.1.toNat:Nat):Int)] ⟨XJ hkr.2.1.1 hkr.2.1.2,aa⟩),(8,AC (BF (o17++Ah ((kl.getD x89 Bg).1.toNat)) ((kl.getD x89 Bg).2.1.toNat) Au Ac) [(0,5),(1,19)] [(2,20)]),(11,AC (Es ((o17++Ah ((kl.getD x89 Bg).1.toNat))++Ah ((kl.getD x89 Bg).2.1.toNat)) (kl.getD x89 Bg).2.2 Au Au (by first |assumption|exact λj=>b_ (hm2 j) (by decide)|exact GZ hkr.2.2.2)) [(0,5),(1,20)] [(2,21)])] [] 22 V λV=>Cn (Aw [(0,CF x89)] [89] 22 V λV=>Ae (Av Y V (x89+1,((o17++Ah ((kl.getD x89 Bg).1.toNat))++Ah ((kl.getD x89 Bg).2.1.toNat))++Ds (kl.getD x89 Bg).2.2) [(0,0),(1,1),(2,2),(3,3),(4,4),(5,5),(17,21)] ⟨Ac,(Bp (st:=NP _) hq2 rfl rfl),Au,aa⟩))
 ·have hT:=V;obtain rfl:kl.length=x89:=by omega
  obtain rfl:=hq2.symm;have V:=hT;exact I8 (Ak [] 18 V λV=>AE V (Aw [(5,AC (gP st ep aD sd tx rD rT bx (EZ id fi ok oi ik ii lT mx lD tD kl st ep aD sd tx rD rT bx kl.length) Au Ac A3) [(0,3),(1,4),(2,5),(3,17)] [(4,18)])] [] 19 V λV=>Ae (Ay [(1,AC (FS ((EZ id fi ok oi ik ii lT mx lD tD kl st ep aD sd tx rD rT bx kl.length)++G2 st ep aD sd tx rD bx []) Au) [(0,5),(1,18)] [])] [] 19 V λV=>AU (BX (Ab _) V))))
end
section
variable (id:Ad) (fi:Bool) (ok:Ad) (oi:Nat) (ik:Ad) (ii lT:Nat) (mx:AZ) (lD tD:Nat) (kl:List KR)
theorem ZO (i:Nat):AO 94 (Cq [.cp 0 0,vi (i:Int)] [(0,NK id fi true 1 2 lT mx lD tD 3),(1,Al ok oi),(2,Al ik ii),(3,.sl 86 Ct kl)] (vi (CY kl (i:Int)))):=by exact cy 4 func94 rfl ntmps94 λY V=>Ak [] 5 V λV=>Ay [(5,AC (Tm kl i) [(0,3),(1,4)] [])] [] 5 V λV=>AU (BN V)
theorem Zw (st ep aD:Nat) (sd tx:Ad) (rD rT:Nat) (bx:CE) (r:Ad) (hr:(LK id fi true ok oi ik ii lT mx lD tD kl (G2 st ep aD sd tx rD bx r)).length<=100000000000000) (hid:id.length=32) (hok:ok.length=32) (hik:ik.length=32) (hoi:oi<=100000000000) (hii:ii<=100000000000) (hn1:oi<=2147483648/\ii<=2147483648/\lT<=2147483648) (hn2:lD<=2147483648/\tD<=2147483648) (hmx:1<=mx.length/\mx.length<=60000) (hm32:∀j,j<mx.length->(mx.getD j AW).length=32) (hlo:lT<=lD/\lD<=lT+mx.length-1/\lT<=A5 fi lT mx.length tD) (hkr:KRd ii kl) (hn:ep<=400000000/\aD<=1000000000) (hL:LdOk st ep sd tx rD rT bx):AO 60 ⟨[.cp 0 0,.cp 1 0],[(0,bR false false),(1,C0 (LK id fi true ok oi ik ii lT mx lD tD kl (G2 st ep aD sd tx rD bx r)))],.tu (Ag []),[(0,G4 id fi true 2 3 4 lT mx lD tD kl),(1,C0 r),(2,Al ok oi),(3,Al ik ii),(4,AI st ep aD sd tx 5),(5,AQ rD rT bx)]⟩:=by
 refine cy 2 func60 rfl ntmps60 λY V=> ?_;have hx0:QN 0=true:=(by decide);have hx1:¬((mx.length:Nat):Int)=0:=Ac;have hx2:¬(lD:Int)<(lT:Int):=Ac;have hx3:¬((lT+mx.length-1:Nat):Int)<(lD:Int):=Ac;have hx4:¬((A5 fi lT mx.length tD:Nat):Int)<(lT:Int):=Ac;have hx5:¬(60:Int)<((kl.length:Nat):Int):=(by have :=hkr.n;omega);refine Ao ?_;have hr0:=M8 hr;have hr1:=Bv hr0;have hr2:=Bv hr1;have hr3:=M8 hr2;have hr4:=Bv hr3;have hr5:=M8 hr4;have hr6:=Bv hr5;have hr7:=Bv hr6;have hr8:=IN hr7;have hr9:=Bv hr8;have hr10:=Bv hr9;have hr11:=Bv hr10;have V:=V.ch 1 (C0 (Kk id (A_ (AM fi) (A_ (AM true) (Kk ok (A_ oi (Kk ik (A_ ii (A_ lT (B3 mx (A_ lD (A_ tD (A_ kl.length (Gh kl (G2 st ep aD sd tx rD bx r))))))))))))))) (C0 (LK id fi true ok oi ik ii lT mx lD tD kl (G2 st ep aD sd tx rD bx r))) rfl;have hm1:1<=mx.length/\mx.length<=100000:=⟨hmx.1,by omega⟩;have hf1:=Fy fi;have hf2:=Fy true;refine Aw [(2,AC (Ix 32 id (A_ (AM fi) (A_ (AM true) (Kk ok (A_ oi (Kk ik (A_ ii (A_ lT (B3 mx (A_ lD (A_ tD (A_ kl.length (Gh kl (G2 st ep aD sd tx rD bx r))))))))))))) (by first |assumption|omega) (by first |assumption|omega)) [(0,1)] [])] [] 2 V λV=>Ae (Ay [(3,AC (CI (AM fi) (A_ (AM true) (Kk ok (A_ oi (Kk ik (A_ ii (A_ lT (B3 mx (A_ lD (A_ tD (A_ kl.length (Gh kl (G2 st ep aD sd tx rD bx r)))))))))))) (by first |assumption|omega) Ac) [(0,1)] []),(4,TX fi [(decide (((AM fi:Nat):Int)=1))=fi] ⟨OK fi,aa⟩),(6,AC (CI (AM true) (Kk ok (A_ oi (Kk ik (A_ ii (A_ lT (B3 mx (A_ lD (A_ tD (A_ kl.length (Gh kl (G2 st ep aD sd tx rD bx r))))))))))) (by first |assumption|omega) Ac) [(0,1)] []),(7,TX true [(decide (((AM true:Nat):Int)=1))=true] ⟨OK true,aa⟩)] [] 2 V λV=>Ao (Ak [32] 2 V λV=>BK (wp_loop_rounds 3 ?_)));refine AX (n:=2) (Ak [] 2 V λV=>Ao (AE V (B6 (Ay [(0,AN 0 2)] [36,37] 2 V λV=>Ak [] 2 V λV=>Ay [(2,AC (Ix 32 ok (A_ oi (Kk ik (A_ ii (A_ lT (B3 mx (A_ lD (A_ tD (A_ kl.length (Gh kl (G2 st ep aD sd tx rD bx r)))))))))) (by first |assumption|omega) (by first |assumption|omega)) [(0,1)] []),(4,AC (CI oi (Kk ik (A_ ii (A_ lT (B3 mx (A_ lD (A_ tD (A_ kl.length (Gh kl (G2 st ep aD sd tx rD bx r))))))))) (by first |assumption|omega) Ac) [(0,1)] []),(5,AC (MN ok oi Au) [] [(0,2)])] [38,39,40,41,42,43,44,45,46,47] 3 V λV=>Aw [(1,AS (Fj 0 hx0))] [48] 3 V λV=>Cn (CW [34,50] 3 V λV=>Ae ?_)))));refine AX (n:=1) (Ak [] 3 V λV=>Ao (AE V (B6 (Ay [(0,AN 1 2)] [36,37] 3 V λV=>Ak [] 3 V λV=>Ay [(2,AC (Ix 32 ik (A_ ii (A_ lT (B3 mx (A_ lD (A_ tD (A_ kl.length (Gh kl (G2 st ep aD sd tx rD bx r)))))))) (by first |assumption|omega) (by first |assumption|omega)) [(0,1)] []),(4,AC (CI ii (A_ lT (B3 mx (A_ lD (A_ tD (A_ kl.length (Gh kl (G2 st ep aD sd tx rD bx r))))))) (by first |assumption|omega) Ac) [(0,1)] []),(5,AC (MN ik ii Au) [] [(0,3)])] [38,39,40,41,42,43,44,45,46,47] 4 V λV=>Aw [(1,AS (Fj 0 hx0))] [48] 4 V λV=>Cn (CW [34,50] 4 V λV=>Ae ?_)))));refine AX (n:=0) (Ak [] 4 V λV=>Ao (Ai V (DF (Ay [(5,AC (CI lT (B3 mx (A_ lD (A_ tD (A_ kl.length (Gh kl (G2 st ep aD sd tx rD bx r)))))) (by first |assumption|omega) Ac) [(0,1)] []),(7,AC (MA mx (A_ lD (A_ tD (A_ kl.length (Gh kl (G2 st ep aD sd tx rD bx r))))) A3 (by first |assumption|omega) A3) [(0,1)] []),(9,AC (CI lD (A_ tD (A_ kl.length (Gh kl (G2 st ep aD sd tx rD bx r)))) (by first |assumption|omega) Ac) [(0,1)] []),(11,AC (CI tD (A_ kl.length (Gh kl (G2 st ep aD sd tx rD bx r))) (by first |assumption|omega) Ac) [(0,1)] [])] [] 4 V λV=>Ao (Ay [(5,CH hx1),(15,CH hx2),(23,Kf (EB lT mx HL Ac) [0,2] [.im (Ag [.top,.top,.top,.im (Ag []) 0,.top,.top,vi (lT:Int),.ls false A0 mx,.top,.top,.top]) 0]),(24,CH hx3),(28,Kf (HJ fi lT mx tD HL Ac) [0,2] [.im (Ag [.top,.v (.bool fi),.top,.im (Ag []) 0,.top,.top,vi (lT:Int),.ls false A0 mx,.top,vi (tD:Int),.top]) 0]),(33,CH hx4)] [] 4 V λV=>Ai V (BR (Ay [(1,AC (CI kl.length (Gh kl (G2 st ep aD sd tx rD bx r)) (by first |assumption|omega) Ac) [(0,1)] [])] [] 4 V λV=>Ao (Ay [(1,CH hx5)] [] 4 V λV=>Ai V (DZ (Ao ?_))))))))));obtain⟨gs,V⟩:=V.nilob 0 10 86 Ct;refine CW [] 5 V λV=>Ae (BK (AD (ι:=Nat) Y V (λi=>(kl.length-i,[(113,vi ((i:Nat):Int))],[(1,C0 (Gh (kl.drop i) (G2 st ep aD sd tx rD bx r))),(4,.sl 86 Ct (kl.take i))],(i<=kl.length)/\True)) [0,1,112] [0,2,3] 5 0 [(0,0),(1,1),(2,2),(3,3),(4,4)] ⟨Ac,aa⟩ ?_));rintro i ac gs ws ⟨hi,_⟩ V;refine Ak [] 5 V λV=>Ao (AH ((i:Int)<((kl.length:Nat):Int)) V (λh1=> ?_) (λh1=> ?_))
 ·refine B6 (Ao ?_);have V:=V.ch 1 (C0 (A_ (kl.getD i kz).1.toNat (A_ (kl.getD i kz).2.1.toNat (B3 (kl.getD i kz).2.2 (Gh (kl.drop (i+1)) (G2 st ep aD sd tx rD bx r)))))) (C0 (Gh (kl.drop i) (G2 st ep aD sd tx rD bx r))) (by rw[Lb Ac]<;>rfl);have hra:(A_ (kl.getD i kz).1.toNat (A_ (kl.getD i kz).2.1.toNat (B3 (kl.getD i kz).2.2 (Gh (kl.drop (i+1)) (G2 st ep aD sd tx rD bx r))))).length<=100000000000000:=by rw[<-Lb Ac];exact LR i hr11
  have hrb:=Bv hra;have hrc:=Bv hrb;have hkj:=hkr.k i Ac;have hke:=hkj.2.2.2;have hkd:=hkr.d i Ac;refine Aw [(1,AC (CI ((kl.getD i kz).1.toNat) (A_ (kl.getD i kz).2.1.toNat (B3 (kl.getD i kz).2.2 (Gh (kl.drop (i+1)) (G2 st ep aD sd tx rD bx r)))) (by first |assumption|omega) Ac) [(0,1)] []),(3,AC (CI ((kl.getD i kz).2.1.toNat) (B3 (kl.getD i kz).2.2 (Gh (kl.drop (i+1)) (G2 st ep aD sd tx rD bx r))) (by first |assumption|omega) Ac) [(0,1)] []),(5,AC (MA (kl.getD i kz).2.2 (Gh (kl.drop (i+1)) (G2 st ep aD sd tx rD bx r)) A3 (by first |assumption|omega) A3) [(0,1)] [])] [8] 6 V λV=>CV (Ao ?_);have hy1:¬(ii:Int)<=(((kl.getD i kz).1.toNat:Nat):Int):=Ac;have hy2:¬(0:Int)<=(CY (kl.take i) ((((kl.getD i kz).1.toNat):Nat):Int)):=Ac;refine Aw [(6,AC (Cw ik ii) [(0,3)] []),(7,CH hy1),(12,AC (ZO id fi ok oi ik ii lT mx lD tD (kl.take i) ((kl.getD i kz).1.toNat)) [(0,0),(1,2),(2,3),(3,4)] []),(13,CH hy2)] [] 6 V λV=>Ae (Ai V (BR (Aw [(7,GJ ((kl.take i).length) 1 40)] [] 7 V λV=> ?_)));have V:=V.ch 6 (.sl 86 Ct (kl.take (i+1))) (.sl 86 Ct ((kl.take i)++[((((kl.getD i kz).1.toNat:Nat):Int),(((kl.getD i kz).2.1.toNat:Nat):Int),(kl.getD i kz).2.2)])) (dn (λz:List KR=>O.sl 86 Ct z) (ktk hkr (i:=i) Ac).symm);exact Cn (Aw [(0,CF i)] [113] 7 V λV=>Ae (Av Y V (i+1) [(0,0),(1,1),(2,2),(3,3),(4,6)] ⟨Ac,aa⟩))
 ·have hT:=V;obtain rfl:kl.length=i:=by omega
  have V:=hT;refine I8 ?_;have hw9:=LR kl.length hr11;rw[LQ (an _)]at hw9;have V:=V.ch 1 (C0 (G2 st ep aD sd tx rD bx r)) (C0 (Gh (kl.drop kl.length) (G2 st ep aD sd tx rD bx r))) (by rw[LQ Ac]<;>rfl);have V:=V.ch 4 (.sl 86 Ct kl) (.sl 86 Ct (kl.take kl.length)) (dn (λz:List KR=>O.sl 86 Ct z) (show kl.take kl.length=kl by rw[bp Ac]));obtain⟨gs,V⟩:=V.fz 4;refine CW [] 5 V λV=>Ae (AE V (Aw [(2,AC (gQ st ep aD sd tx rD rT bx r hw9 hn hL) [(0,1)] [(1,5),(2,6)])] [] 7 V λV=> ?_));obtain⟨gs,V⟩:=V.rx [(0,0),(1,1),(2,2),(3,3),(4,5),(5,6)] [] [0,1,2,3,4,5] 6 Y;exact bY V
end
section
variable (id:Ad) (fi:Bool) (ok:Ad) (oi:Nat) (ik:Ad)
theorem Us (id : Ad) (fi : Bool) (ok : Ad) (oi : Nat) (ik : Ad) (ii lT : Nat) (mx : AZ) (lD tD : Nat) (kl : List KR) (st ep aD : Nat) (sd tx : Ad) (rD rT : Nat) (bx : CE) (r : Ad) :
  ∀i,i<=kl.length->EZ id fi ok oi ik ii lT mx lD tD kl st ep aD sd tx rD rT bx i++Gh (kl.drop i) r=LK id fi true ok oi ik ii lT mx lD tD kl r
 |0,_=>by
  show(((((((((((([]++id)++Ah (AM fi))++Ah (AM true))++ok)++Ah oi)++ik)++Ah ii)++Ah lT)++Ds mx)++Ah lD)++Ah tD)++Ah kl.length)++Gh kl r=_;rw[C6,C6,C6,LP,C6,C6,Q6,C6,Q6,C6,C6,Q6];rfl
 |i+1,h=>by rw[<-Us id fi ok oi ik ii lT mx lD tD kl st ep aD sd tx rD rT bx r i Ac,Lb (i:=i) h];show((EZ id fi ok oi ik ii lT mx lD tD kl st ep aD sd tx rD rT bx i++Ah (kl.getD i kz).1.toNat)++Ah (kl.getD i kz).2.1.toNat)++Ds (kl.getD i kz).2.2++Gh (kl.drop (i+1)) r=_;rw[LP,C6,C6]
theorem Lf (ii lT:Nat) (mx:AZ) (lD tD:Nat) (kl:List KR) (st ep aD:Nat) (sd tx:Ad) (rD rT:Nat) (bx:CE):D9 id fi ok oi ik ii lT mx lD tD kl st ep aD sd tx rD rT bx=LK id fi true ok oi ik ii lT mx lD tD kl (G2 st ep aD sd tx rD bx []):=by unfold D9;rw[Ab];rw[<-Us id fi ok oi ik ii lT mx lD tD kl st ep aD sd tx rD rT bx _ kl.length (an _),LQ (an _)]<;>rfl
theorem eN (ii lT:Nat) (mx:AZ) (lD tD:Nat) (kl:List KR) (st ep aD:Nat) (sd tx:Ad) (rD rT:Nat) (bx:CE) (hr:(LK id fi true ok oi ik ii lT mx lD tD kl (G2 st ep aD sd tx rD bx [])).length<=100000000000000) (hid:id.length=32) (hok:ok.length=32) (hik:ik.length=32) (hoi:oi<=100000000000) (hii:ii<=100000000000) (hn1:oi<=2147483648/\ii<=2147483648/\lT<=2147483648) (hn2:lD<=2147483648/\tD<=2147483648) (hmx:1<=mx.length/\mx.length<=60000) (hm32:∀j,j<mx.length->(mx.getD j AW).length=32) (hlo:lT<=lD/\lD<=lT+mx.length-1/\lT<=A5 fi lT mx.length tD) (hkr:KRd ii kl) (hn:ep<=400000000/\aD<=1000000000) (hL:LdOk st ep sd tx rD rT bx):AO 59 ⟨[lb (LK id fi true ok oi ik ii lT mx lD tD kl (G2 st ep aD sd tx rD bx [])),.fn 60 (Ag [.cp 0 0]) (Ag [])],[(0,bR false false)],vi 0,[(0,G4 id fi true 3 4 5 lT mx lD tD kl),(3,Al ok oi),(4,Al ik ii),(5,AI st ep aD sd tx 6),(6,AQ rD rT bx)]⟩:=by refine Dh rfl (nb:=1) func59 rfl rfl ntmps59 rfl rfl rfl λg0 w0 ac gs ws Y V=> ?_;have Fp:(LK id fi true ok oi ik ii lT mx lD tD kl (G2 st ep aD sd tx rD bx [])).length<=9223372036854775807:=V.len 0 rfl;have V:=V.sp;have hrk:Ec []=true:=(by unfold Ec;rw[Ab];rfl);refine Ak [] 2 V λV=>Ao ?_;have V:=V.rv [(0,lb (LK id fi true ok oi ik ii lT mx lD tD kl (G2 st ep aD sd tx rD bx []))),(1,.fn 60 (Ag [.cp 0 0]) (Ag [])),(4,.cp 1 0)] [(0,some (bR false false)),(1,some (C3))];refine Fz rfl V (cs:=[.cp 1 0]) rfl rfl rfl λD vds ac hD hcv hB V=> ?_;have V:=V.sp;refine Ae (Ay [(1,AC (GM (LK id fi true ok oi ik ii lT mx lD tD kl (G2 st ep aD sd tx rD bx [])) Au) [] [(0,2)])] [] 3 V λV=>Ao (Ak [] 3 V λV=>AE V (Aw [(2,AC (Zw id fi ok oi ik ii lT mx lD tD kl st ep aD sd tx rD rT bx ([]:Ad) A3 (by first |assumption|omega) Au Au Ac Ac Ac Ac (by first |assumption|omega) A3 (by first |assumption|omega) A3 Ac A3) [(0,0),(1,2)] [(2,3),(3,4),(4,5),(5,6)])] [] 7 V λV=>Ae (Ay [(1,AC (H6 ([]:Ad) hrk) [(0,2)] [])] [] 7 V λV=>Ak [] 7 V λV=>AU ?_))));have V:=V.rv [(4,.cp 1 0)] [(0,some (G4 id fi true 3 4 5 lT mx lD tD kl)),(1,some (C3)),(3,some (Al ok oi)),(4,some (Al ik ii)),(5,some (AI st ep aD sd tx 6)),(6,some (AQ rD rT bx))];exact Ly (.inr rfl) V hD (Dx ⟨88,(KI),[(0,1)],[]⟩ [(1,some (C3)),(0,some (G4 id fi true 3 4 5 lT mx lD tD kl)),(1,some (C3)),(3,some (Al ok oi)),(4,some (Al ik ii)),(5,some (AI st ep aD sd tx 6)),(6,some (AQ rD rT bx))] hB V hcv (show FrameMode.returning≠ .run from nofun) rfl rfl rfl (JC) rfl ⟨rfl,aa⟩ rfl (ds:=[vi 0]) (by kernel_rfl) rfl ⟨rfl,rfl,rfl,rfl,rfl,aa⟩)
theorem nP (ii lT:Nat) (mx:AZ) (lD tD:Nat) (kl:List KR) (st ep aD:Nat) (sd tx:Ad) (rD rT:Nat) (bx:CE) (hr:(D9 id fi ok oi ik ii lT mx lD tD kl st ep aD sd tx rD rT bx).length<=100000000000000) (hid:id.length=32) (hok:ok.length=32) (hik:ik.length=32) (hoi:oi<=100000000000) (hii:ii<=100000000000) (hn1:oi<=2147483648/\ii<=2147483648/\lT<=2147483648) (hn2:lD<=2147483648/\tD<=2147483648) (hmx:1<=mx.length/\mx.length<=60000) (hm32:∀j,j<mx.length->(mx.getD j AW).length=32) (hlo:lT<=lD/\lD<=lT+mx.length-1/\lT<=A5 fi lT mx.length tD) (hkr:KRd ii kl) (hn:ep<=400000000/\aD<=1000000000) (hL:LdOk st ep sd tx rD rT bx):AO 29 ⟨[lb (D9 id fi ok oi ik ii lT mx lD tD kl st ep aD sd tx rD rT bx)],[],.tu (Ag [.cp 0 0,vi 0]),[(0,G4 id fi true 1 2 3 lT mx lD tD kl),(1,Al ok oi),(2,Al ik ii),(3,AI st ep aD sd tx 4),(4,AQ rD rT bx)]⟩:=by
 refine cy 0 func29 rfl ntmps29 λY V=> ?_;have Fp:(D9 id fi ok oi ik ii lT mx lD tD kl st ep aD sd tx rD rT bx).length<=9223372036854775807:=V.len 0 rfl;have hq1:(D9 id fi ok oi ik ii lT mx lD tD kl st ep aD sd tx rD rT bx)=(LK id fi true ok oi ik ii lT mx lD tD kl (G2 st ep aD sd tx rD bx [])):=(Lf ..);refine Ao ?_;have hr2:(LK id fi true ok oi ik ii lT mx lD tD kl (G2 st ep aD sd tx rD bx [])).length<=100000000000000:=by rw[<-Lf];exact hr
 have hKK:=hkr.KOk hii;have hmm:=aI hm32;have hm1:1<=mx.length/\mx.length<=100000:=⟨hmx.1,by omega⟩;refine CW [] 0 V λV=>CV ?_;have V:=V.cl 0 (lb (LK id fi true ok oi ik ii lT mx lD tD kl (G2 st ep aD sd tx rD bx []))) (lb (D9 id fi ok oi ik ii lT mx lD tD kl st ep aD sd tx rD rT bx)) (by rw[Lf]<;>rfl);refine CW [] 1 V λV=>CV (Ay [(3,AC (eN id fi ok oi ik ii lT mx lD tD kl st ep aD sd tx rD rT bx A3 (by first |assumption|omega) Au Au Ac Ac Ac Ac (by first |assumption|omega) A3 (by first |assumption|omega) A3 Ac A3) [(0,0)] [(3,1),(4,2),(5,3),(6,4)]),(7,AC (Q9 id fi ok oi ik ii lT mx lD tD kl st ep aD sd tx rD rT bx Au Au Ac Ac HL (by first |assumption|(intro j;simp<;>omega)) Ac A3 Ac Ac Au Ac A3) [(0,0),(1,1),(2,2),(3,3),(4,4)] []),(9,AS (EW (D9 id fi ok oi ik ii lT mx lD tD kl st ep aD sd tx rD rT bx) (LK id fi true ok oi ik ii lT mx lD tD kl (G2 st ep aD sd tx rD bx []))))] [] 5 V λV=>Ik ((D9 id fi ok oi ik ii lT mx lD tD kl st ep aD sd tx rD rT bx)=(LK id fi true ok oi ik ii lT mx lD tD kl (G2 st ep aD sd tx rD bx []))) V (λh1=> ?_) (λh1=> ?_))
 ·exact absurd hq1 h1
 ·exact BR (Ak [] 5 V λV=>AU (BN V))
end
theorem Ut {id : Ad} (fi : Bool) {ok : Ad} {oi : Nat} {ik : Ad} {ii lT : Nat} {mx : AZ} {lD tD : Nat} {kl : List KR} (hid : id.length = 32) (hok : ok.length = 32) (hik : ik.length = 32) (h1 : oi <= 100000000000 /\ ii <= 100000000000 /\ lT <= 100000000000 /\ lD <= 100000000000 /\ tD <= 100000000000) (hm1 : mx.length <= 100000) (hm2 : ∀ j, (mx.getD j AW).length <= 32) (hK : KOk kl) (st ep aD : Nat) (sd tx : Ad) (rD rT : Nat) (bx : CE) :
  ∀i,i<=kl.length->(EZ id fi ok oi ik ii lT mx lD tD kl st ep aD sd tx rD rT bx i).length<=5000000+i*5000000:=by
 intro i
 induction i with
 |zero=>
  intro _;have hf1:=Fy fi;have hf2:=Fy true;have a1:=An (n:=AM fi) Ac;have a2:=An (n:=AM true) Ac;have a3:=An (n:=oi) Ac;have a4:=An (n:=ii) Ac;have a5:=An (n:=lT) Ac;have a6:=An (n:=lD) Ac;have a7:=An (n:=tD) Ac;have hk:=hK.1;have a8:=An (n:=kl.length) Ac;have a9:=Ia hm1 hm2;show((((((((((([]++id)++Ah (AM fi))++Ah (AM true))++ok)++Ah oi)++ik)++Ah ii)++Ah lT)++Ds mx)++Ah lD)++Ah tD++Ah kl.length:Ad).length<=_;simp only[ah,av];omega
 |succ i ih=>
  intro h;have ih:=ih Ac;have hk:(0<=(kl.getD i kz).1/\(kl.getD i kz).1<=1000000000000)/\(0<=(kl.getD i kz).2.1/\(kl.getD i kz).2.1<=1000000000000)/\(kl.getD i kz).2.2.length<=100000/\∀k∈(kl.getD i kz).2.2,k.length=32:=hK.2 i Ac;have b1:=An (n:=(kl.getD i kz).1.toNat) Ac;have b2:=An (n:=(kl.getD i kz).2.1.toNat) Ac;have b3:=Ia hk.2.2.1 (Tc hk.2.2.2);show(((EZ id fi ok oi ik ii lT mx lD tD kl st ep aD sd tx rD rT bx i++Ah (kl.getD i kz).1.toNat)++Ah (kl.getD i kz).2.1.toNat)++Ds (kl.getD i kz).2.2:Ad).length<=_;simp only[ah];rw[fb];omega
structure LdE (fi:Bool) (id:Ad) (e:EndH):Prop where
 id:id.length=32
 ok:e.ok.length=32
 ik:e.ik.length=32
 n:e.oi<=1000000/\e.ii<=1000000/\e.lT<=10000000/\e.lD<=20000000/\e.tD<=20000000
 mx:1<=e.mx.length/\e.mx.length<=60000
 m32:∀j,j<e.mx.length->(e.mx.getD j AW).length=32
 lo:e.lT<=e.lD/\e.lD<=e.lT+e.mx.length-1/\e.lT<=A5 fi e.lT e.mx.length e.tD
 kr:KRd e.ii e.kl
 ra:e.ep<=400000000/\e.aD<=1000000000
 L:LdOk e.st e.ep e.sd e.tx e.rD e.rT e.bx
theorem LdE.len {fi:Bool} {id:Ad} {e:EndH} (h:LdE fi id e):(D9 id fi e.ok e.oi e.ik e.ii e.lT e.mx e.lD e.tD e.kl e.st e.ep e.aD e.sd e.tx e.rD e.rT e.bx).length<=100000000000000:=by have h1:=h.n;have h2:=h.mx;have hK:=h.kr.KOk Ac;have a:=Ut fi h.id h.ok h.ik (oi:=e.oi) (ii:=e.ii) (lT:=e.lT) (lD:=e.lD) (tD:=e.tD) ⟨by omega,by omega,by omega,by omega,by omega⟩ Ac (aI h.m32) hK e.st e.ep e.aD e.sd e.tx e.rD e.rT e.bx e.kl.length (an _);have b:=Yu h.ra h.L;have c:=hK.1;unfold D9;rw[Ab];rw[ah];omega
structure Zh (id:Ad) (fi:Bool) (e:EndH) (xs:Ad) (er:Nat):Prop where
 p:B9 xs=true
 k:B4 id fi e.ok e.oi e.ik e.ii e.lT e.mx e.lD e.tD e.kl (Aa xs).1 (Aa xs).2.1 (Aa xs).2.2.1 (Aa xs).2.2.2.1 (Aa xs).2.2.2.2.1 (Aa xs).2.2.2.2.2=false
 e:Bj id fi e.ok e.oi e.ik e.ii e.lT e.mx e.lD e.tD e.kl (Aa xs).1 (Aa xs).2.1 (Aa xs).2.2.1 (Aa xs).2.2.2.1 (Aa xs).2.2.2.2.1 (Aa xs).2.2.2.2.2=er
end
end Go.Sx.Tryz
