/- General lemmas, walks. -/
import Derived.Test.YtmkplecnmklbfaaGreatJ7PPlays
set_option maxRecDepth 100000
set_option maxHeartbeats 1000000
set_option linter.unusedSimpArgs false
set_option linter.unusedVariables false
set_option linter.unnecessarySimpa false
set_option linter.unusedSectionVars false
namespace Go.Sx.Tryz
open Go.Mi Go.RowKit Go.Sx Go.Proofs Go.Proofs.Tryz
noncomputable section
open List (replicate map_drop take_left drop_left map_congr_left range'_concat)
section
variable (mx:AZ) (A:Ad)
def Acc (j:Nat) (t:Ad):Int×Int×Ad×Ad:=((0:Int),(j:Int),t,frm mx (Am A j) j t)
def NA (tx:AZ):yW:=tx.mapIdx λj t=>Acc mx A j t
theorem aC (tx:AZ):(NA mx A tx).length=tx.length:=List.length_mapIdx ..
theorem tR (tx:AZ) (t:Ad):NA mx A (tx++[t])=NA mx A tx++[((0:Int),((tx.length:Nat):Int),t,frm mx (Am A tx.length) tx.length t)]:=by
 unfold NA
 rw[List.mapIdx_append]
 simp [Acc]
theorem Aaa {tx:AZ} {k:Nat} (h:k<tx.length):(NA mx A tx).getD k Bu=((0:Int),(k:Int),tx.getD k [],frm mx (Am A k) k (tx.getD k [])):=by
 show List.getD (α:=Int×Int×Ad×Ad) (NA mx A tx) k (0,0,[],[])=_
 unfold NA
 rw[al,List.getElem?_mapIdx,al,am h]
 rfl
end
section
variable (id:Ad) (fi:Bool) (ok:Ad) (oi:Nat)
theorem QC (ik:Ad) (ii:Nat) (mx:AZ) (kl:List KR) (tT rQ:Ad) (hok:ok.length=32) (hik:ik.length=32) (hoi:oi<=1000000) (hii:ii<=1000000) (hm:mx.length=1) (hm2:∀j,(mx.getD j AW).length<=32) (htx:tT.length<=500) (hr:rQ.length=128):AP 24 ⟨[.cp 0 0,lb tT,lb rQ],[(0,A4 id fi false 1 2 mx kl),(1,Ag ok oi),(2,Ag ik ii)],.tu (Jg [lb (frm mx ok oi tT),vi (oi:Int),vi 0]),[(0,A4 id fi false 1 2 mx kl),(1,Ag (Sb ok) (oi+1)),(2,Ag ik ii)]⟩:=by
 have h:=rE id fi ok oi ik ii 0 mx 0 0 kl tT rQ hok hik Ac Ac ⟨by omega,by omega⟩ hm2 Ac (bw _) htx hr
 unfold oU at h
 rw[iC _ _ _ _ _ _ _ _ _ _ hm]at h
 exact h
theorem TV (A:Ad) (ii:Nat) (mx:AZ) (js:List Nat) (i:Nat) (t rQ:Ad) (hok:ok.length=32) (hA:A.length=32) (hoi:oi<=1000000) (hii:ii<=1000000) (hm:mx.length=1) (hm2:∀j,(mx.getD j AW).length<=32) (hR:RI ii js) (hi:i<=1000000) (ht:t.length<=500) (hy:By t) (hr:rQ.length=128) (hs:EN ii js i=true):AP 19 ⟨[.cp 0 0,lb (frm mx (Am A i) i t),lb rQ],[(0,A4 id fi false 1 2 mx (BO mx A js)),(1,Ag ok oi),(2,Ag (Am A ii) ii)],.tu (Jg [lb t,vi (i:Int),vi 0]),[(0,A4 id fi false 7 8 mx (BO mx A (nJ ii js i))),(1,Ag ok oi),(2,Ag (Am A ii) ii),(7,Ag ok oi),(8,Ag (Am A (nI ii i)) (nI ii i))]⟩:=by
 have hn:=Cf hA
 have hf:=(NB mx (Am A i) (n:=i) (tT:=t) Ac ht).2
 have hh:=Zz id fi ok oi (A:=A) rQ hm hR (show i<2^31 by omega) ht hy
 have h:=XP id fi ok oi (Am A ii) ii 0 mx 0 0 (BO mx A js) (frm mx (Am A i) i t) rQ hok (hn ii) Ac Ac ⟨by omega,by omega⟩ hm2 Ac (X1 mx A hR Ac) ⟨by omega,by omega⟩ Ac Ac hr (hh.1.trans hs)
 unfold Tw at h
 rw[hh.2 hs]at h
 exact h
end
section
variable (a ii:Nat) (js:List Nat) (i:Nat)
theorem J3 (hR:RI ii js) (hii:ii<=1000000) (hi:i<=1000000) (hs:EN ii js i=true):AP 35 ⟨[.ag (Jg [vi (a:Int),vi (ii:Int),.ls false El (ints js)]),vi (i:Int)],[],.tu (Jg [.ag (Jg [vi (a:Int),vi ((nI ii i:Nat):Int),.ls false El (ints (nJ ii js i))]),vi 0]),[]⟩:=by
 have hl:(ints js).length=js.length:=cg ..
 have h6:=hR.len
 have h:=Y6 a ii (ints js) i Ac ⟨by omega,by omega⟩
 unfold YB at h
 rw[Y_ a i hR,hs]at h
 exact h
theorem MF (hR:RI ii js) (hii:ii<=1000000) (hi:i<=1000000) (hs:EN ii js i=false):AP 35 ⟨[.ag (Jg [vi (a:Int),vi (ii:Int),.ls false El (ints js)]),vi (i:Int)],[],.tu (Jg [.ag (Jg [vi (a:Int),vi (ii:Int),.ls false El (ints js)]),vi ((LF ii i:Nat):Int)]),[]⟩:=by
 have hl:(ints js).length=js.length:=cg ..
 have h6:=hR.len
 have h:=Y6 a ii (ints js) i Ac ⟨by omega,by omega⟩
 unfold YB at h
 rw[Y_ a i hR,hs]at h
 exact h
end
section
variable (id:Ad) (fi:Bool) (ok:Ad) (oi:Nat) (ik:Ad) (ii lT:Nat) (mx:AZ) (lD tD:Nat) (kl:List KR)
def W_:Con:=⟨[.cp 0 0],[(0,Ga id fi false 1 2 lT mx lD tD kl),(1,Ag ok oi),(2,Ag ik ii)],.ls false El (MZ id fi ok oi ik ii lT mx lD tD kl),[(0,Ga id fi false 1 2 lT mx lD tD kl),(1,Ag ok oi),(2,Ag ik ii)]⟩
theorem b8 (hK:KOk kl):AP 21 (W_ id fi ok oi ik ii lT mx lD tD kl):=ConOk.frz [(0,Ga id fi false 1 2 lT mx lD tD kl),(1,Ag ok oi),(2,Ag ik ii)] 3 3 El (MZ id fi ok oi ik ii lT mx lD tD kl) (iA id fi ok oi ik ii lT mx lD tD kl hK) (by kernel_rfl)
end
theorem K9 (id:Ad) (fi:Bool) (ok:Ad) (oi:Nat) (A:Ad) (ii:Nat) (mx:AZ) (js:List Nat) (hR:RI ii js) (hii:ii<=1000000):AP 21 ⟨[.cp 0 0],[(0,A4 id fi false 1 2 mx (BO mx A js)),(1,Ag ok oi),(2,Ag (Am A ii) ii)],.ls false El (ints js),[(0,A4 id fi false 1 2 mx (BO mx A js)),(1,Ag ok oi),(2,Ag (Am A ii) ii)]⟩:=by
 have h:=b8 id fi ok oi (Am A ii) ii 0 mx 0 0 (BO mx A js) (X1 mx A hR Ac)
 unfold W_ at h
 rw[b9,s9]at h
 exact h
def BB (x0 x1:Nat) (x2 x3:Nat) (x4 x5:Ad) (x6:Nat):O:= .ob 39 (Jg [.cp x0 0,.cp x1 0,vi ((x2:Nat):Int),vi ((x3:Nat):Int),.ls false El x4,vi 0,vi 0,.ls false El x5,.sk x6])
theorem V7 (A B:Ad) (mx:AZ) (n ii:Nat) (js:List Nat) (tx:AZ) (ida:Ad) (idb tT rQ:Ad) (hA:A.length=32) (hB:B.length=32) (hm:mx.length=1) (hm2:∀j,(mx.getD j AW).length<=32) (hn:n=tx.length/\n<=100000) (hii:ii<=100000) (htx:tT.length<=500) (hr:rQ.length=128):AP 14 ⟨[.cp 0 0,vi 0,lb tT,lb rQ],[(0,BB 1 4 n ii (ints js) [] 7),(1,A4 ida true false 2 3 mx []),(2,Ag (Am A n) n),(3,En B),(4,A4 idb false false 5 6 mx (BO mx A js)),(5,En B),(6,Ag (Am A ii) ii),(7,.sl 48 Bp (NA mx A tx))],.v (.bool true),[(0,BB 1 4 (n+1) ii (ints js) [] 8),(1,A4 ida true false 2 3 mx []),(2,Ag (Am A (n+1)) (n+1)),(3,En B),(4,A4 idb false false 5 6 mx (BO mx A js)),(5,En B),(6,Ag (Am A ii) ii),(8,.sl 48 Bp (NA mx A (tx++[tT])))]⟩:=by
 refine cy 8 func14 rfl ntmps14 λY V=> ?_
 have hx1:¬(500:Int)<((tT.length:Nat):Int):=Ac
 refine Aj [] 8 V λV=>Ay [(4,AH 0 2),(8,AA (QC ida true (Am A n) n B 0 mx ([]:List KR) tT rQ (Cf hA _) hB Ac Ac hm hm2 htx hr) [(0,1),(1,2),(2,3)] [])] [] 8 V λV=>Ar (Ay [(2,Do hx1)] [] 8 V λV=>Ai V (DG (Ar ?_)))
 have hfl:=NB mx (Am A n) (n:=n) (tT:=tT) Ac htx
 have hq3:(n:Int)=(n:Int):=rfl
 have hq1:¬(4000:Int)<(((frm mx (Am A n) n tT).length:Nat):Int):=Ac
 have hq2:¬(((frm mx (Am A n) n tT).length:Nat):Int)=0:=Ac
 refine Aw [(8,AH 0 2),(11,Ha hq3),(16,Do hq1),(21,Do hq2)] [] 8 V λV=>Ae (Ai V (Cb (Ay [(4,AH 0 2),(7,Cu n),(10,AH 0 2)] [] 8 V λV=>Ar ?_)))
 have hfs:=aC mx A tx
 refine Aw [(11,Gt ((NA mx A tx).length) 1 64)] [] 9 V λV=>CQ ?_
 have V:=V.ch 8 (.sl 48 Bp (NA mx A (tx++[tT]))) (.sl 48 Bp ((NA mx A tx)++[(0,(n:Int),tT,frm mx (Am A n) n tT)])) (by rw[tR,<-hn.1]<;>rfl)
 exact Aw [(4,AH 0 2),(6,AA (Qt ida true (Sb (Am A n)) (n+1) B 0 0 mx 0 0 ([]:List KR)) [(0,1),(1,2),(2,3)] []),(11,AH 0 2)] [] 9 V λV=>EY (Ec rfl (.inr rfl) V [.v (.bool (decide ((((n+1):Nat):Int)=((n+1:Nat):Int))))] [(0,some (BB 1 4 (n+1) ii (ints js) [] 8)),(1,some (A4 ida true false 2 3 mx [])),(2,some (Ag (Sb (Am A n)) (n+1))),(3,some (En B)),(4,some (A4 idb false false 5 6 mx (BO mx A js))),(5,some (En B)),(6,some (Ag (Am A ii) ii)),(8,some (.sl 48 Bp (NA mx A (tx++[tT]))))] (by show weak (.v (.bool (decide (((n+1:Nat):Int)=((n+1:Nat):Int))))) (.v (.bool true))= .v (.bool true);rw[decide_eq_true rfl];rfl) ⟨rfl,rfl,rfl,rfl,rfl,rfl,rfl,rfl,aa⟩)
def YY (x0 x1:Int) (x2 x3:Ad):O:= .ob 48 (Jg [vi x0,vi x1,lb x2,lb x3])
section
variable (A B:Ad) (mx:AZ) (n ii:Nat) (js:List Nat) (tx:AZ) (ida idb:Ad)
theorem cO (hA:A.length=32) (hB:B.length=32) (hm:mx.length=1) (hm2:∀j,(mx.getD j AW).length<=32) (hR:RI ii js) (hii:ii<=100000) (hn:n<=100000):AP 27 (Cq [.cp 0 0,vi 1] [(0,BB 1 4 n ii (ints js) [] 7),(1,A4 ida true false 2 3 mx []),(2,Ag (Am A n) n),(3,En B),(4,A4 idb false false 5 6 mx (BO mx A js)),(5,En B),(6,Ag (Am A ii) ii),(7,.sl 48 Bp (NA mx A tx))] (.v (.bool true))):=by
 refine cy 8 func27 rfl ntmps27 λY V=>Aj [] 8 V λV=>Ay [(5,AH 0 2)] [5] 9 V λV=>Ar ?_
 have hq1:(ii:Int)=(ii:Int):=rfl
 exact Aw [(4,AH 1 2),(6,AA (Qy idb false B 0 (Am A ii) ii 0 mx 0 0 (BO mx A js)) [(0,4),(1,5),(2,6)] []),(9,Gv hq1),(15,AH 1 2),(17,AA (K9 idb false B 0 A ii mx js A_ Ac) [(0,4),(1,5),(2,6)] []),(20,AS (Z6 (ints js) (ints js)))] [] 9 V λV=>EY (Ec rfl (.inr rfl) V [.v (.bool (decide ((ints js)=(ints js))))] [(0,some (BB 1 4 n ii (ints js) [] 7)),(1,some (A4 ida true false 2 3 mx [])),(2,some (Ag (Am A n) n)),(3,some (En B)),(4,some (A4 idb false false 5 6 mx (BO mx A js))),(5,some (En B)),(6,some (Ag (Am A ii) ii)),(7,some (.sl 48 Bp (NA mx A tx)))] (by show weak (.v (.bool (decide (ints js=ints js)))) (.v (.bool true))= .v (.bool true);rw[decide_eq_true rfl];rfl) ⟨rfl,rfl,rfl,rfl,rfl,rfl,rfl,rfl,aa⟩)
theorem jS (k:Nat) (rQ:Ad) (hA:A.length=32) (hB:B.length=32) (hm:mx.length=1) (hm2:∀j,(mx.getD j AW).length<=32) (hR:RI ii js) (hii:ii<=100000) (hn:n<=100000) (hk:k<tx.length/\k<100000) (htk:(tx.getD k []).length<=500/\By (tx.getD k [])) (hr:rQ.length=128) (hs:EN ii js k=true):AP 16 ⟨[.cp 0 0,vi (k:Int),lb rQ],[(0,BB 1 4 n ii (ints js) [] 7),(1,A4 ida true false 2 3 mx []),(2,Ag (Am A n) n),(3,En B),(4,A4 idb false false 5 6 mx (BO mx A js)),(5,En B),(6,Ag (Am A ii) ii),(7,.sl 48 Bp (NA mx A tx))],.v (.bool true),[(0,BB 1 4 n (nI ii k) (ints (nJ ii js k)) [] 7),(1,A4 ida true false 2 3 mx []),(2,Ag (Am A n) n),(3,En B),(4,A4 idb false false 8 9 mx (BO mx A (nJ ii js k))),(5,En B),(6,Ag (Am A ii) ii),(7,.sl 48 Bp (NA mx A tx)),(8,En B),(9,Ag (Am A (nI ii k)) (nI ii k))]⟩:=by
 refine cy 8 func16 rfl ntmps16 λY V=> ?_
 have hs1:EN ii js k=true:=hs
 refine Aj [] 8 V λV=>Ar ?_
 have hfs:=aC mx A tx
 refine Aw [(5,AH k ((NA mx A tx).length))] [7] 9 V λV=>CQ ?_
 have V:=V.ch 8 (.ob 48 (Jg [vi 0,vi (k:Int),lb (tx.getD k []),lb (frm mx (Am A k) k (tx.getD k []))])) (YY (((NA mx A tx).getD k Bu).1) ((((NA mx A tx).getD k Bu).2).1) (((((NA mx A tx).getD k Bu).2).2).1) (((((NA mx A tx).getD k Bu).2).2).2)) (by rw[Aaa mx A hk.1]<;>rfl)
 refine Dl [] 9 V λV=>Ae (Ay [(5,AH 0 2),(9,AS (J3 n ii js k A_ Ac Ac hs1))] [9] 10 V λV=>Ay [(4,AH 1 2),(9,AA (TV idb false B 0 A ii mx js k (tx.getD k []) rQ hB hA Ac Ac hm hm2 hR Ac htk.1 htk.2 hr hs) [(0,4),(1,5),(2,6)] [(7,10),(8,11)])] [] 12 V λV=>Ar (Aj [] 12 V λV=>Ai V (DG (Aj [] 12 V λV=>AG V (Ay [(6,AH 0 2)] [] 12 V λV=>Ar ?_)))))
 have hq3:(k:Int)=(k:Int):=rfl
 refine Aw [(5,Vj false [(!((EP (tx.getD k [])).toList==(EP (tx.getD k [])).toList))=false] ⟨by rw[beq_self_eq_true _];rfl,aa⟩),(10,Ha hq3)] [] 12 V λV=>Ae (Ai V (Cb (Ay [(2,AA (cO A B mx n (nI ii k) (nJ ii js k) tx ida idb hA hB hm hm2 hR.next (by have :=kG ii k;omega) Ac) [(0,0),(1,1),(2,2),(3,3),(4,4),(5,10),(6,11),(7,7)] [])] [] 12 V λV=>AY ?_)))
 obtain⟨gs,V⟩:=V.rx [(0,0),(1,1),(2,2),(3,3),(4,4),(5,5),(6,6),(7,7),(8,10),(9,11)] [6] [0,1,2,3,4,5,6,7,8,9] 10 Y
 exact BW V
end
theorem dI (rX:Ad) (hr:rX.length=32):AP 12 ⟨[lb rX,.v (.bool false)],[],.tu (Jg [.cp 0 0,.v (.bool true)]),[(0,Abk 1 4 (ints ([]:List Nat)) [] 7),(1,A4 (Pj rX) true false 2 3 [pM rX] []),(2,En (Am (pA rX) 0)),(3,En (pB rX)),(4,A4 (Pj rX) false false 5 6 [pM rX] (BO ([pM rX]) (pA rX) ([]:List Nat))),(5,En (pB rX)),(6,En (Am (pA rX) 0)),(7,.sl 48 Bp (NA ([pM rX]) (pA rX) ([]:AZ)))]⟩:=by
 have h:=WB rX hr
 unfold UX at h
 rw[WC]at h
 exact h
theorem LN {M:Ad} (h:M.length=32) (j:Nat):([M].getD j AW).length<=32:=by
 show(List.getD (α:=Ad) [M] j []).length<=32
 match j with
 |0=>exact Nat.le_of_eq h
 |j+1=>simp
theorem g9:AP 23 ⟨[.v (.slice none 0 0),.v (.bool true),.v (.bool false)],[],.tu (Jg [.v (.pointer none),vi 1]),[]⟩:=by
 exact cy 0 func23 rfl ntmps23 λY V=>Aj [] 0 V λV=>Ar (Aj [] 0 V λV=>AG V (Aj [] 0 V λV=>AY (Ao (BW V))))
theorem Tx (id ok:Ad) (oi:Nat) (ik:Ad) (ii:Nat) (mx:AZ) (kl:List KR) (okb:Ad) (oib:Nat) (ikb:Ad) (iib:Nat) (klb:List KR) (hm:mx.length=1):AP 17 ⟨[.cp 0 0,.cp 3 0],[(0,A4 id true false 1 2 mx kl),(1,Ag ok oi),(2,Ag ik ii),(3,A4 id false false 4 5 mx klb),(4,Ag okb oib),(5,Ag ikb iib)],.v (.bool true),[(0,A4 id true false 1 2 mx kl),(1,Ag ok oi),(2,Ag ik ii),(3,A4 id false false 4 5 mx klb),(4,Ag okb oib),(5,Ag ikb iib)]⟩:=by
 have h:=pZ id ok oi ik ii 0 mx 0 0 kl id okb oib ikb iib 0 mx 0 0 klb ⟨by omega,by omega⟩ Ac ⟨by omega,by omega⟩ Ac
 have e:U4 id 0 mx id 0 mx=true:=by
  unfold U4;rw[Ab]
  rw[ah rfl,aj Ac,aj Ac]
  exact decide_eq_true rfl
 unfold bE at h
 rw[e]at h
 exact h
theorem MO {b:Int} (h:0<=b/\b<256):By [b]:=λx hx=>by rw[bn.1 hx];exact h
theorem Ky (xs ys:Ad) (h:xs=ys):AP 31 ⟨[.ls false El xs,.ls false El ys],[],.v (.bool true),[]⟩:=by
 have h2:=Z6 xs ys
 unfold pG at h2
 rw[decide_eq_true h]at h2
 exact h2
theorem If:AP 11 ⟨[],[],.v (.bool true),[]⟩:=by
 refine cy 0 func11 rfl ntmps11 λY V=>Aj [] 0 V λV=>Ay [(0,R8 .mf [(32:Int)=32,(0:Int)<=32,1*32<=281474976710656,(32:Int)<=9223372036854775807] ⟨rfl,by omega,by omega,by omega,aa⟩),(1,AA (dI (replicate 32 (0:Int)) Ax) [] [(0,0),(1,1),(2,2),(3,3),(4,4),(5,5),(6,6),(7,7)])] [] 8 V λV=>Ii ?_
 have hm2:=LN (XX (replicate 32 (0:Int)))
 have hq1:EN 0 ([]:List Nat) 1=true:=rfl
 refine Aw [(4,Np),(5,P8 (0<[97].length) (by decide)),(6,AS (DF 1)),(7,J0 (V7 (pA (replicate 32 (0:Int))) (pB (replicate 32 (0:Int))) [pM (replicate 32 (0:Int))] 0 0 ([]:List Nat) ([]:AZ) (Pj (replicate 32 (0:Int))) (Pj (replicate 32 (0:Int))) [97] (Al 1) (Q0 _) (QZ _) rfl hm2 ⟨rfl,by decide⟩ (by decide) (by decide) (CL _)) [(0,0),(1,1),(2,2),(3,3),(4,4),(5,5),(6,6),(7,7)] [(8,9)] [.cp 0 0,vi 0,lb ([97]:Ad),lb (Al 1)] [some (Abk 1 4 (ints ([]:List Nat)) [] 7),some (A4 (Pj (replicate 32 (0:Int))) true false 2 3 [pM (replicate 32 (0:Int))] []),some (En (Am (pA (replicate 32 (0:Int))) 0)),some (En (pB (replicate 32 (0:Int)))),some (A4 (Pj (replicate 32 (0:Int))) false false 5 6 [pM (replicate 32 (0:Int))] (BO ([pM (replicate 32 (0:Int))]) (pA (replicate 32 (0:Int))) ([]:List Nat))),some (En (pB (replicate 32 (0:Int)))),some (En (Am (pA (replicate 32 (0:Int))) 0)),some (.sl 48 Bp (NA ([pM (replicate 32 (0:Int))]) (pA (replicate 32 (0:Int))) ([]:AZ)))]),(12,Np),(13,P8 (0<[98].length) (by decide)),(14,AS (DF 2)),(15,J0 (V7 (pA (replicate 32 (0:Int))) (pB (replicate 32 (0:Int))) [pM (replicate 32 (0:Int))] (0+1) 0 ([]:List Nat) (([]:AZ)++[[97]]) (Pj (replicate 32 (0:Int))) (Pj (replicate 32 (0:Int))) [98] (Al 2) (Q0 _) (QZ _) rfl hm2 ⟨rfl,by decide⟩ (by decide) (by decide) (CL _)) [(0,0),(1,1),(2,2),(3,3),(4,4),(5,5),(6,6),(7,9)] [(8,11)] [.cp 0 0,vi 0,lb ([98]:Ad),lb (Al 2)] [some (.ob 39 (Jg [.cp 1 0,.cp 4 0,vi ((0+1:Nat):Int),vi 0,.ls false El (ints ([]:List Nat)),vi 0,vi 0,.ls false El [],.sk 9])),some (A4 (Pj (replicate 32 (0:Int))) true false 2 3 [pM (replicate 32 (0:Int))] []),some (Ag (Am (pA (replicate 32 (0:Int))) (0+1)) (0+1)),some (En (pB (replicate 32 (0:Int)))),some (A4 (Pj (replicate 32 (0:Int))) false false 5 6 [pM (replicate 32 (0:Int))] (BO [pM (replicate 32 (0:Int))] (pA (replicate 32 (0:Int))) ([]:List Nat))),some (En (pB (replicate 32 (0:Int)))),some (En (Am (pA (replicate 32 (0:Int))) 0)),some (.sl 48 Bp (NA [pM (replicate 32 (0:Int))] (pA (replicate 32 (0:Int))) (([]:AZ)++[[97]])))]),(20,AS (DF 3)),(21,J0 (jS (pA (replicate 32 (0:Int))) (pB (replicate 32 (0:Int))) [pM (replicate 32 (0:Int))] ((0+1)+1) 0 ([]:List Nat) ((([]:AZ)++[[97]])++[[98]]) (Pj (replicate 32 (0:Int))) (Pj (replicate 32 (0:Int))) 1 (Al 3) (Q0 _) (QZ _) rfl hm2 RI.nil (by decide) (by decide) ⟨by decide,by decide⟩ ⟨by decide,by have :=MO (b:=98) ⟨by decide,by decide⟩;simpa using this⟩ (CL _) hq1) [(0,0),(1,1),(2,2),(3,3),(4,4),(5,5),(6,6),(7,11)] [(8,12),(9,13)] [.cp 0 0,vi 1,lb (Al 3)] [some (.ob 39 (Jg [.cp 1 0,.cp 4 0,vi (((0+1)+1:Nat):Int),vi 0,.ls false El (ints ([]:List Nat)),vi 0,vi 0,.ls false El [],.sk 11])),some (A4 (Pj (replicate 32 (0:Int))) true false 2 3 [pM (replicate 32 (0:Int))] []),some (Ag (Am (pA (replicate 32 (0:Int))) ((0+1)+1)) ((0+1)+1)),some (En (pB (replicate 32 (0:Int)))),some (A4 (Pj (replicate 32 (0:Int))) false false 5 6 [pM (replicate 32 (0:Int))] (BO [pM (replicate 32 (0:Int))] (pA (replicate 32 (0:Int))) ([]:List Nat))),some (En (pB (replicate 32 (0:Int)))),some (En (Am (pA (replicate 32 (0:Int))) 0)),some (.sl 48 Bp (NA [pM (replicate 32 (0:Int))] (pA (replicate 32 (0:Int))) ((([]:AZ)++[[97]])++[[98]])))])] [] 14 V λV=>Ae (Ai V (Cb (Ay [(0,AS (g9))] [] 14 V λV=>Ar ?_)))
 have hR5:RI (nI 0 1) (nJ 0 ([]:List Nat) 1):=RI.nil.next
 exact Aw [(3,AH 1 2),(5,AA (K9 (Pj (replicate 32 (0:Int))) false (pB (replicate 32 (0:Int))) 0 (pA (replicate 32 (0:Int))) (nI 0 1) [pM (replicate 32 (0:Int))] (nJ 0 ([]:List Nat) 1) hR5 (by decide)) [(0,4),(1,12),(2,13)] []),(7,AS (Ky (ints (nJ 0 ([]:List Nat) 1)) [0] rfl)),(16,AH 0 2),(21,AH 1 2),(23,J0 (Tx (Pj (replicate 32 (0:Int))) (Am (pA (replicate 32 (0:Int))) ((0+1)+1)) ((0+1)+1) (pB (replicate 32 (0:Int))) 0 [pM (replicate 32 (0:Int))] ([]:List KR) (pB (replicate 32 (0:Int))) 0 (Am (pA (replicate 32 (0:Int))) (nI 0 1)) (nI 0 1) (BO [pM (replicate 32 (0:Int))] (pA (replicate 32 (0:Int))) (nJ 0 ([]:List Nat) 1)) (by first |assumption|rfl)) [(0,1),(1,2),(2,3),(3,4),(4,12),(5,13)] [] [.cp 1 0,.cp 4 0] [some (A4 (Pj (replicate 32 (0:Int))) true false 2 3 [pM (replicate 32 (0:Int))] []),some (Ag (Am (pA (replicate 32 (0:Int))) ((0+1)+1)) ((0+1)+1)),some (En (pB (replicate 32 (0:Int)))),some (A4 (Pj (replicate 32 (0:Int))) false false 12 13 [pM (replicate 32 (0:Int))] (BO [pM (replicate 32 (0:Int))] (pA (replicate 32 (0:Int))) (nJ 0 ([]:List Nat) 1))),some (En (pB (replicate 32 (0:Int)))),some (Ag (Am (pA (replicate 32 (0:Int))) (nI 0 1)) (nI 0 1))])] [] 14 V λV=>EY (BW V)
structure EOk (fi:Bool) (e:EndH):Prop extends SndOk fi e where
 K:KOk e.kl
 ll:e.lT<=e.lD/\e.lD<=20000000
 td:e.tD<=20000000
 rT:e.rT=(if e.st=1 then 1088 else 1184)
 rD:e.rD=(if e.st=1 then 2*e.ep+1 else 2*e.ep)
 bx:e.bx.length=2
structure Xm (id:Ad) (fi:Bool) (e:EndH) (xs rQ:Ad) (e2:EndH) (tT:Ad) (n:Nat):Prop where
 same:e2.ok=e.ok/\e2.oi=e.oi
 ex:∃pid pa d,R4 e.st e.ep e.sd e.tx e.bx (Aa xs).2.2.2.2.1 pid pa d/\E_ id fi e.ok e.oi e.ik e.ii e.lT e.mx e.lD e.tD e.kl e.st e.ep e.aD e.sd e.tx e.rD e.rT e.bx xs=true/\BH id fi e.ok e.oi e.ik e.ii e.lT e.mx e.lD e.tD e.kl e.st e.ep e.aD e.sd e.tx e.rD e.rT e.bx xs rQ pid pa d=(e2.ik,e2.ii,e2.st,e2.ep,e2.aD,e2.sd,e2.tx,e2.rD,e2.rT,e2.bx,e2.lT,e2.mx,e2.lD,e2.tD,e2.kl,tT,n)
section
variable (p:PS) (e2:EndH) (n:Nat)
def PS.dlvA:PS:={p with b:=e2,ia:=nI p.ia n,ja:=nJ p.ia p.ja n}
def PS.dlvB:PS:={p with a:=e2,ib:=nI p.ib n,jb:=nJ p.ib p.jb n}
end
def qE (x0 x1:Nat) (x2 x3:Nat) (x4:Ad) (x5 x6:Nat) (x7:Ad) (x8:Nat):O:= .ob 39 (Jg [.cp x0 0,.cp x1 0,vi ((x2:Nat):Int),vi ((x3:Nat):Int),.ls false El x4,vi ((x5:Nat):Int),vi ((x6:Nat):Int),.ls false El x7,.sk x8])
def Ih (rX:Ad):PS where
 ida:=Pj rX
 idb:=Pj rX
 a:=⟨pA rX,0,pB rX,0,0,[pM rX],0,0,[],1,0,0,[],[],2*0+1,1088,replicate (((1088+1000)-1)/1000) none⟩
 b:=⟨pB rX,0,pA rX,0,0,[pM rX],0,0,[],2,0,0,[],[],2*0,1184,replicate (((1184+1000)-1)/1000) none⟩
 na:=0
 ia:=0
 ja:=[]
 nb:=0
 ib:=0
 jb:=[]
 fl:=[]
theorem X8 (rX:Ad) (hr:rX.length=32):AP 12 ⟨[lb rX,.v (.bool true)],[],.tu (Jg [.cp 0 0,.v (.bool true)]),[(0,qE 1 6 ((Ih rX).na) ((Ih rX).ia) (ints (Ih rX).ja) ((Ih rX).nb) ((Ih rX).ib) (ints (Ih rX).jb) 11),(1,A3 ((Ih rX).ida) true true 2 3 4 ((Ih rX).a.lT) ((Ih rX).a.mx) ((Ih rX).a.lD) ((Ih rX).a.tD) ((Ih rX).a.kl)),(2,Ag ((Ih rX).a.ok) ((Ih rX).a.oi)),(3,Ag ((Ih rX).a.ik) ((Ih rX).a.ii)),(4,AL ((Ih rX).a.st) ((Ih rX).a.ep) ((Ih rX).a.aD) ((Ih rX).a.sd) ((Ih rX).a.tx) 5),(5,AT ((Ih rX).a.rD) ((Ih rX).a.rT) ((Ih rX).a.bx)),(6,A3 ((Ih rX).idb) false true 7 8 9 ((Ih rX).b.lT) ((Ih rX).b.mx) ((Ih rX).b.lD) ((Ih rX).b.tD) ((Ih rX).b.kl)),(7,Ag ((Ih rX).b.ok) ((Ih rX).b.oi)),(8,Ag ((Ih rX).b.ik) ((Ih rX).b.ii)),(9,AL ((Ih rX).b.st) ((Ih rX).b.ep) ((Ih rX).b.aD) ((Ih rX).b.sd) ((Ih rX).b.tx) 10),(10,AT ((Ih rX).b.rD) ((Ih rX).b.rT) ((Ih rX).b.bx)),(11,.sl 48 Bp ((Ih rX).fl))]⟩:=by
 refine cy 0 func12 rfl ntmps12 λY V=>Aj [] 0 V λV=>Aj [] 1 V λV=>Ar (Aj [] 1 V λV=>BC (wp_loop_rounds 3 ?_))
 refine Bc (n:=2) (Ar (Aj [12] 1 V λV=>AG V (B3 (Ay [(4,AA (hO rX Ax) [] [(0,1),(1,2),(2,3),(3,4),(4,5),(5,6)])] [16,17,18,19,20,21,22,23] 7 V λV=>Ar (Aj [24,25,26,27,28] 7 V λV=>Ai V (Cb (Aw [(5,AH 0 2)] [30,31,32,33,34,35] 7 V λV=>Ck (Dl [7,14,15] 7 V λV=>Ae ?_))))))))
 refine Bc (n:=1) (Ar (Aj [12] 7 V λV=>AG V (B3 (Ay [(4,AA (g8 rX Ax) [] [(0,7),(1,8),(2,9),(3,10),(4,11),(5,12)])] [16,17,18,19,20,21,22,23] 13 V λV=>Ar (Aj [24,25,26,27,28] 13 V λV=>Ai V (Cb (Aw [(5,AH 1 2)] [30,31,32,33,34,35] 13 V λV=>Ck (Dl [7,14,15] 13 V λV=>Ae ?_))))))))
 refine Bc (n:=0) (Ar (Aj [] 13 V λV=>Ai V (JH ?_)))
 have V:=V.wko 0 [.top,.top,.top,.top,.ls false El [],.top,.top,.ls false El [],.top]
 obtain⟨gs,V⟩:=V.nilob 0 8 48 Bp
 have V:=V.wko 1 [.top,.top,.top,.top,.top,.top,.top,.ls false A8 [],.top,.top,.ls false CM []]
 have V:=V.wko 7 [.top,.top,.top,.top,.top,.top,.top,.ls false A8 [],.top,.top,.ls false CM []]
 have V:=V.wko 4 [.top,.top,.top,.top,lb [],lb [],.top,.top]
 have V:=V.wko 10 [.top,.top,.top,.top,lb [],lb [],.top,.top]
 obtain⟨gs,V⟩:=V.fy 6 22 Bq (replicate (((1088+1000)-1)/1000) none) ((show true=true->(replicate (((1088+1000)-1)/1000) none)≠[]from λ_=>by decide) rfl)
 obtain⟨gs,V⟩:=V.fy 12 22 Bq (replicate (((1184+1000)-1)/1000) none) ((show true=true->(replicate (((1184+1000)-1)/1000) none)≠[]from λ_=>by decide) rfl)
 refine Dl [0,1,6,7,8,9,13,14,15,16,17,18,19,20,21,22,23,24,25,26,27,28,29,30,31,32,33,34,35] 14 V λV=>EY ?_
 obtain⟨gs,V⟩:=V.rx [(0,0),(1,1),(2,2),(3,3),(4,4),(5,5),(6,7),(7,8),(8,9),(9,10),(10,11),(11,13)] [4,5] [0,1,2,3,4,5,6,7,8,9,10,11] 12 Y
 exact BW V
def pc (E:Ad) (sz j:Nat):Ad:=(E.drop (j*sz)).take sz
theorem ZI (E:Ad) (sz:Nat):∀k,((List.range k).map (pc E sz)).flatten=E.take (k*sz)
 |0=>by simp
 |k+1=>by
  rw[List.range_succ,cb,de,ZI E sz k,eP,List.take_add]
  simp [pc]
def Good (E:Ad) (sz n:Nat) (bx:CB):Prop:=bx.length=n/\∀j,j<n->Lz bx j (pc E sz j)
theorem Nf {bx:CB} {pa:Nat} {d:Ad} (h:pa<bx.length) (j:Nat):List.getD (α:=Option Ad) (Bf bx pa d) j none=if j=pa then some d else List.getD (α:=Option Ad) bx j none:=by
 unfold Bf
 rw[al,List.getElem?_set]
 by_cases e:j=pa
 ·rw[ah e,ah e.symm,ah h];rfl
 ·rw[aj e,aj (λq=>e q.symm),al]
theorem Good.put {E:Ad} {sz n pa:Nat} {bx:CB} (h:Good E sz n bx) (hp:pa<n):Good E sz n (Bf bx pa (pc E sz pa)):=by
 refine⟨by rw[EO,h.1],λj hj=> ?_⟩
 unfold Lz
 rw[Nf (by rw[h.1];exact hp)]
 by_cases e:j=pa
 ·rw[ah e,e];exact .inr rfl
 ·rw[aj e];exact h.2 j hj
theorem PO {bx:CB}:KI bx=true↔∀j,j<bx.length->(List.getD (α:=Option Ad) bx j none).isSome=true:=by
 unfold KI
 rw[ax]
 refine⟨λh j hj=> ?_,λh x hx=> ?_⟩
 ·rw[al,am hj]
  exact h _ (fv hj)
 ·obtain⟨j,hj,rfl⟩:=List.mem_iff_getElem.1 hx
  have :=h j hj
  rw[al,am hj]at this
  exact this
theorem Good.all {E:Ad} {sz n:Nat} {bx:CB} (h:Good E sz n bx) (hf:KI bx=true):II bx=(List.range n).map (pc E sz):=by
 refine g_ (by rw[cg,cg,d_,h.1]) λj h1 h2=> ?_
 rw[cg]at h1
 have h3:=PO.1 hf j h1
 have h4:=h.2 j (by rw[<-h.1];exact h1)
 unfold Lz at h4
 rw[al,am h1]at h3 h4
 rw[List.getElem_map,List.getElem_map,List.getElem_range]
 rcases h4 with h4|h4
 ·have h4:bx[j]=none:=h4
  rw[el,h4]at h3;cases h3
 ·have h4:bx[j]=some (pc E sz j):=h4
  rw[h4];rfl
theorem Aay {len sz:Nat} (hz:1<=sz):len<=(len+sz-1)/sz*sz:=by
 have :=(UO (len:=len) hz ((len+sz-1)/sz)).2
 rcases ci ((len+sz-1)/sz*sz) len with h|h
 ·exact absurd (this h) (gq _)
 ·exact h
theorem Good.flat {E:Ad} {sz:Nat} {bx:CB} (hz:1<=sz) (h:Good E sz ((E.length+sz-1)/sz) bx) (hf:KI bx=true):(II bx).flatten=E:=by
 rw[h.all hf,ZI,bp (Aay hz)]
theorem iU (n j:Nat):List.getD (α:=Option Ad) (replicate n none) j none=none:=by
 rw[al,List.getElem?_replicate]
 split<;>rfl
theorem Good.nil (E:Ad) (sz n:Nat):Good E sz n (replicate n none):=⟨az,λj _=> .inl (iU n j)⟩
theorem lZ {n pa:Nat} {d:Ad} (h:2<=n) (hp:pa<n):KI (Bf (replicate n none) pa d)=false:=by
 cases hf:KI (Bf (replicate n none) pa d)with
 |false=>rfl
 |true=>
  have :=PO.1 hf (if pa=0 then 1 else 0) (by rw[EO,az];split<;>omega)
  rw[Nf (by rw[az];exact hp),aj (by split<;>omega),iU]at this
  cases this
theorem Ym (ek m:Ad):(EV ek m).2.length=1088:=by
 unfold EV;rw[Ab]
 simp only[WP]
def B0:CB:=replicate 2 none
theorem Va {pa:Nat} (d:Ad) (h:pa<2):KI (Bf B0 pa d)=false:=lZ (by decide) h
def Xq (st ep:Nat):Nat:=if st=3 then ep+1 else ep
theorem Rz {sa ta:Ad} (h:sa.length=64/\ta=(AO (sa.take 32) (sa.drop 32)).1):chk ta=0/\ta.length=1184:=by
 obtain⟨h1,h2⟩:=h
 rw[h2]
 exact⟨lC ..,(H8 _ _ (by rw[av];omega)).1⟩
theorem yH (id:Nat) {t:Ad} (h:t.length=1184\/t.length=1088):(Av id t 1000).length=2:=by
 rw[Iq]
 rcases h with h|h<;>rw[h]
theorem QY {t:Ad} {n pa:Nat} (h:t.length=n) (h2:n=1184\/n=1088) (hp:pa<2):(pc t 1000 pa).length=min 1000 (n-pa*1000)/\1<=(pc t 1000 pa).length/\(pc t 1000 pa).length<=1000:=by
 unfold pc
 rw[ap,av,h]
 omega
theorem wZ (n m l:Nat) (pc:Ad):R7 n m l pc=Ah n++(Ah m++(Ah l++(Ah pc.length++pc))):=by
 unfold R7
 simp only[dw,bu]
theorem lU {n m l:Nat} {pc:Ad} (hn:n<=2147483648) (hm:m<=2147483648) (hl:l<=2147483648) (hp:pc.length<=4000) (ba bb:Ad):HU (R7 n m l pc) ba bb=true/\FZ (R7 n m l pc) ba bb=(n,m,l,pc):=by
 rw[wZ]
 have m1:=Gm (n:=n) Ac (Ah m++(Ah l++(Ah pc.length++pc)))
 have m2:=Gm (n:=m) Ac (Ah l++(Ah pc.length++pc))
 have m3:=Gm (n:=l) Ac (Ah pc.length++pc)
 have m4:=Gm (n:=pc.length) Ac pc
 have v1:=F2 m1
 have v2:=F2 m2
 have v3:=F2 m3
 have v4:=F2 m4
 generalize Ah n++(Ah m++(Ah l++(Ah pc.length++pc)))=X at *
 have hp:G2 X ba bb=true:=by
  unfold G2;rw[Ab]
  rw[v1];simp only[]
  rw[v2];simp only[]
  rw[v3];simp only[]
  rw[ah (SC m1 hn),ah (SC m2 hm),ah (SC m3 hl),ah (S5 m4 hp (an _))]
 have hm:Di X ba bb=([],n,m,l,pc):=by
  unfold Di;rw[Ab]
  rw[v1];simp only[]
  rw[v2];simp only[]
  rw[v3];simp only[]
  rw[v4];simp
 constructor
 ·unfold HU;rw[Ab]
  rw[ah hp,hm,ah M6]
 ·unfold FZ;rw[Ab]
  rw[hm]
theorem Acd (ok mix:Ad) (n m l:Nat) (pc tT:Ad):Uy ok mix n m l pc tT=Ah (R7 n m l pc).length++(R7 n m l pc++(Ah (WG ok mix n m l pc tT).length++WG ok mix n m l pc tT)):=by
 unfold Uy
 simp only[dw,bu]
theorem l7 (ok mix:Ad) {n m l:Nat} {pc tT:Ad} (hn:n<=2147483648) (hm:m<=2147483648) (hl:l<=2147483648) (hp:pc.length<=1040) (ht:tT.length<=500):B_ (Uy ok mix n m l pc tT)=true/\Aa (Uy ok mix n m l pc tT)=(R7 n m l pc,n,m,l,pc,WG ok mix n m l pc tT):=by
 have hH:(R7 n m l pc).length<=1200:=by
  have w1:=Aq (n:=n) Ac
  have w2:=Aq (n:=m) Ac
  have w3:=Aq (n:=l) Ac
  have w4:=Aq (n:=pc.length) Ac
  rw[wZ]
  simp only[ab];omega
 have hb:(WG ok mix n m l pc tT).length=tT.length+32:=Ka ..
 have hh:=lU hn hm hl (show pc.length<=4000 by omega) (R7 n m l pc) (WG ok mix n m l pc tT)
 have e1:((([]++Ah (R7 n m l pc).length)++R7 n m l pc)++Ah (WG ok mix n m l pc tT).length)++WG ok mix n m l pc tT=Uy ok mix n m l pc tT:=rfl
 rw[Acd]at e1⊢
 generalize R7 n m l pc=H at *
 generalize WG ok mix n m l pc tT=X at *
 have m1:=Gm (n:=H.length) Ac (H++(Ah X.length++X))
 have m2:=Gm (n:=X.length) Ac X
 have v1:=F2 m1
 have v2:=F2 m2
 have t1:List.take H.length (H++(Ah X.length++X))=H:=take_left
 have t2:List.drop H.length (H++(Ah X.length++X))=Ah X.length++X:=drop_left
 have r1:BA (Ah H.length++(H++(Ah X.length++X))) 4000=true:=S5 m1 Ac (by rw[ab];omega)
 have r2:BA (Ah X.length++X) 4000=true:=S5 m2 Ac Ac
 generalize Ah H.length++(H++(Ah X.length++X))=F at *
 have hp:I5 F=true:=by
  unfold I5;rw[Ab]
  simp only[v1,bc,t2,r1,r2,if_true]
 have hr:I4 F=true:=by
  unfold I4;rw[Ab]
  simp only[hp,v1,bc,t2,v2,List.drop_length,M6,if_true]
 constructor
 ·unfold B_;rw[Ab]
  simp only[hr,v1,bc,t1,t2,v2,eh,hh.1,e1,if_true]
 ·unfold Aa;rw[Ab]
  simp only[v1,bc,t1,t2,v2,eh,hh.2]
def Nm (mx sec:AZ):AZ:=sec.foldl (λo b=>o++[AX (o.getD (o.length-1) AW) b [109,105,120]]) mx
def EF (fi:Bool) (lT:Nat) (mx:AZ) (lD tD:Nat) (sec:AZ):Nat×AZ:=(min lD (A6 fi lT (Nm mx sec).length tD),(Nm mx sec).drop (min lD (A6 fi lT (Nm mx sec).length tD)-lT))
theorem sW (id:Ad) (fi:Bool) (ok:Ad) (oi:Nat) (ik:Ad) (ii lT:Nat) (mx:AZ) (lD tD:Nat) (kl:List KR) (st ep aD:Nat) (sd tx:Ad) (rD rT:Nat) (bx:CB) (sec:AZ):Re id fi ok oi ik ii lT mx lD tD kl st ep aD sd tx rD rT bx sec=EF fi lT mx lD tD sec:=by
 have key:∀n,n<=sec.length->C7 id fi ok oi ik ii lT mx lD tD kl st ep aD sd tx rD rT bx sec n=Nm mx (sec.take n):=by
  intro n
  induction n with
  |zero=>intro _;rfl
  |succ n ih=>
   intro hn
   show Lc sec n (C7 id fi ok oi ik ii lT mx lD tD kl st ep aD sd tx rD rT bx sec n)=_
   rw[ih Ac,cw Ac]
   have hg:List.getD (α:=Ad) sec n []=sec[n]:=by rw[al,am (show n<sec.length by omega)];rfl
   unfold Nm Lc
   rw[List.foldl_append,<-hg]
   rfl
 unfold Re;rw[Ab];unfold EF
 rw[key _ (an _),eh]
def mg (l:AZ) (i:Nat):Ad:=List.getD (α:=Ad) l i []
theorem zQ {l:AZ} {x:Ad} {i:Nat}:mg (l++[x]) i=if i<l.length then mg l i else if i=l.length then x else[]:=by
 unfold mg
 rw[al]
 by_cases h:i<l.length
 ·rw[ah h,dj h,al]
 ·rw[aj h,df Ac]
  by_cases h2:i=l.length
  ·rw[ah h2,h2,Nat.sub_self];rfl
  ·rw[aj h2,bg (by simp;omega)];rfl
theorem ZS (l:AZ) (c i:Nat):mg (l.drop c) i=mg l (c+i):=by
 unfold mg
 rw[al,dh,al]
structure MI (M:Nat->Ad) (lT:Nat) (mx:AZ):Prop where
 pos:1<=mx.length
 aD:∀i,i<mx.length->mg mx i=M (lT+i)
theorem MI.out {M:Nat->Ad} {lT:Nat} {mx:AZ} (h:MI M lT mx) {j:Nat} (h1:lT<=j) (h2:j<lT+mx.length):mx.getD (j-lT) AW=M j:=by
 have :=h.aD (j-lT) Ac
 rw[show lT+(j-lT)=j by omega]at this
 exact this
theorem MI.m2 {M:Nat->Ad} {lT:Nat} {mx:AZ} (h:MI M lT mx) (h32:∀j,(M j).length=32) (j:Nat):(mx.getD j AW).length<=32:=by
 show(mg mx j).length<=32
 by_cases hj:j<mx.length
 ·rw[h.aD j hj];exact Nat.le_of_eq (h32 _)
 ·unfold mg;rw[al,bg Ac];exact bw _
theorem MI.put {M : Nat -> Ad} {lT : Nat} {mx : AZ} (h : MI M lT mx) (h32 : ∀ j, (M j).length = 32) (fi : Bool) (lD tD : Nat) (ks : AZ) (hk : ks.length <= 1) (h1 : lT <= lD) (h2 : lD < lT + mx.length) (h3 : lT <= A6 fi lT (Nm mx ks).length tD) :
  (Nm mx ks).length=mx.length+ks.length/\∃M',(∀j,j<lT+mx.length->M' j=M j)/\(∀j,(M' j).length=32)/\MI M' (EF fi lT mx lD tD ks).1 (EF fi lT mx lD tD ks).2
   /\(EF fi lT mx lD tD ks).1=min lD (A6 fi lT (Nm mx ks).length tD)/\(EF fi lT mx lD tD ks).1+(EF fi lT mx lD tD ks).2.length=lT+mx.length+ks.length:=by
 match ks,hk,h3 with
 |[],_,h3=>
  refine⟨rfl,M,λ_ _=>rfl,h32,?_⟩
  unfold EF
  show MI M (min lD (A6 fi lT mx.length tD)) (mx.drop (min lD (A6 fi lT mx.length tD)-lT))/\_/\_
  have h3:lT<=A6 fi lT mx.length tD:=h3
  refine⟨⟨by rw[av];omega,λi hi=> ?_⟩,rfl,?_⟩
  ·rw[av]at hi
   rw[ZS,h.aD _ Ac];congr 1;omega
  ·show min lD (A6 fi lT mx.length tD)+(mx.drop (min lD (A6 fi lT mx.length tD)-lT)).length=lT+mx.length+0
   rw[av];omega
 |[k],_,h3=>
  have hl:(Nm mx [k]).length=mx.length+1:=by show(mx++[_]).length=_;rw[ab];rfl
  refine⟨hl,λj=>if j=lT+mx.length then AX (mg mx (mx.length-1)) k [109,105,120]else M j,λj hj=>aj Ac,λj=> ?_,?_⟩
  ·show(if _ then _ else _:Ad).length=32
   split
   ·exact Fq ..
   ·exact h32 j
  unfold EF
  generalize hlo:min lD (A6 fi lT (Nm mx [k]).length tD)=lo
  refine⟨⟨by rw[av];omega,λi hi=> ?_⟩,rfl,?_⟩
  ·rw[av]at hi
   show _=if lo+i=lT+mx.length then _ else _
   rw[ZS]
   show mg (mx++[AX (mg mx (mx.length-1)) k [109,105,120]]) (lo-lT+i)=_
   rw[zQ]
   by_cases hc:lo-lT+i<mx.length
   ·rw[ah hc,aj Ac,h.aD _ hc];congr 1;omega
   ·rw[aj hc,ah Ac,ah Ac]
  ·show lo+((Nm mx [k]).drop (lo-lT)).length=lT+mx.length+1
   rw[av];omega
theorem MI.mono {M M':Nat->Ad} {lT:Nat} {mx:AZ} (h:MI M lT mx) (hM:∀j,j<lT+mx.length->M' j=M j):MI M' lT mx:=⟨h.pos,λi hi=>by rw[hM _ Ac];exact h.aD i hi⟩
theorem R3 (n:Nat):RI n []:=⟨by decide,List.nodup_nil,λ_ h=>by cases h⟩
def sl (b:CB) (j:Nat):Prop:=(List.getD (α:=Option Ad) b j none).isSome=true
structure PN where
 id:Ad
 A:Ad
 B:Ad
 mx:AZ
 na:Nat
 ia:Nat
 ja:List Nat
 nb:Nat
 ib:Nat
 jb:List Nat
 fl:yW
theorem VH (tT rQ:Ad) (htx:500<tT.length) (hr:rQ.length=128):AP 24 ⟨[.im (Jg [.top,.top,.top,.im (Jg []) 0,.top,.top,.top,.top,.top,.top,.top]) 0,lb tT,lb rQ],[],.tu (Jg [.v (.slice none 0 0),vi 0,vi 11]),[]⟩:=by
 refine cy 0 func24 rfl ntmps24 λY V=> ?_
 have hx1:(500:Int)<((tT.length:Nat):Int):=Ac
 have hx2:((rQ.length:Nat):Int)=128:=Ac
 exact Aj [] 0 V λV=>Ar (BC (Ay [(1,Ig (B4) [] [.im (Jg [.top,.top,.top,.im (Jg []) 0,.top,.top,.top,.top,.top,.top,.top]) 0]),(5,Ha hx2)] [] 0 V λV=>Ai V (Ay [(2,Gv hx1)] [] 0 V λV=>AG V (Aj [] 0 V λV=>AY (AN (Ao (BW V)))))))
end
end Go.Sx.Tryz
namespace Go.Sx
open Go.Mi Go.RowKit
variable [Dfr]
end Go.Sx
namespace Go.Sx.Tryz
open Go.Mi Go.RowKit Go.Sx Go.Proofs Go.Proofs.Tryz
noncomputable section
open List (replicate map_drop take_left drop_left map_congr_left range'_concat)
def L9 (rX:Ad):PN:=⟨Pj rX,pA rX,pB rX,[pM rX],0,0,[],0,0,[],[]⟩
theorem dH (rX:Ad) (hr:rX.length=32):AP 12 ⟨[lb rX,.v (.bool false)],[],.tu (Jg [.cp 0 0,.v (.bool true)]),[(0,qE 1 4 ((L9 rX).na) ((L9 rX).ia) (ints (L9 rX).ja) ((L9 rX).nb) ((L9 rX).ib) (ints (L9 rX).jb) 7),(1,A4 ((L9 rX).id) true false 2 3 ((L9 rX).mx) (BO (L9 rX).mx (L9 rX).B (L9 rX).jb)),(2,Ag (Am (L9 rX).A (L9 rX).na) ((L9 rX).na)),(3,Ag (Am (L9 rX).B (L9 rX).ib) ((L9 rX).ib)),(4,A4 ((L9 rX).id) false false 5 6 ((L9 rX).mx) (BO (L9 rX).mx (L9 rX).A (L9 rX).ja)),(5,Ag (Am (L9 rX).B (L9 rX).nb) ((L9 rX).nb)),(6,Ag (Am (L9 rX).A (L9 rX).ia) ((L9 rX).ia)),(7,.sl 48 Bp ((L9 rX).fl))]⟩:=by
 have h:=WB rX hr
 unfold UX at h
 rw[WC]at h
 exact h
def Jw (l:AZ):Ad:=(l.map λx=>Ah x.length++x).flatten
def DN (l:AZ):Ad:=Ah l.length++Jw l
theorem Tc {l:AZ} {i:Nat} (h:i<l.length):Jw (l.take (i+1))=Jw (l.take i)++(Ah (l.getD i []).length++l.getD i []):=by
 unfold Jw
 rw[cw h,cb,de,al,am h]
 simp
theorem kO (b:Ad) (l:AZ) (i:Nat) (h:i<l.length):b++Ah l.length++Jw (l.take (i+1))=b++Ah l.length++Jw (l.take i)++Ah (l.getD i []).length++l.getD i []:=by rw[Tc h];simp only[bu]
theorem Ri {l:AZ} {m:Nat} (h:∀j,(l.getD j []).length<=m) (hm:m<18446744073709551616):∀i,(Jw (l.take i)).length<=i*(m+10)
 |0=>by simp [Jw]
 |i+1=>by
  have ih:=Ri h hm i
  by_cases hi:i<l.length
  ·rw[Tc hi,ab,ab]
   have h1:=h i
   have h2:=Aq (n:=(l.getD i []).length) Ac
   rw[eP];omega
  ·rw[show l.take (i+1)=l.take i by rw[bp Ac,bp Ac],eP];omega
theorem Hf {l:AZ} (h:∀k∈l,k.length=32) (j:Nat):(l.getD j []).length<=10000:=by
 rw[al]
 by_cases hj:j<l.length
 ·rw[am hj]
  have :=h _ (fv hj)
  simp only[el];omega
 ·rw[bg Ac];simp
theorem Iw {l:AZ} (hl:l.length<=100000) (h:∀j,(l.getD j []).length<=32):(DN l).length<=4200010:=by
 have h1:=Ri h (by decide) l.length
 rw[bp (an _)]at h1
 have h2:=Aq (n:=l.length) Ac
 unfold DN
 rw[ab];omega
theorem Uf {l:AZ} (h:∀k∈l,k.length=32) (j:Nat):(l.getD j []).length<=32:=by
 rw[al]
 by_cases hj:j<l.length
 ·rw[am hj]
  have :=h _ (fv hj)
  simp only[el];omega
 ·rw[bg Ac];simp
theorem EJ (b:Ad) (l:AZ) (hb:b.length<=40000000000) (hl:l.length<=100000) (he:∀j,(l.getD j []).length<=10000):AP 56 ⟨[.cp 0 0,.ls false A8 l],[(0,Pf 1),(1,.sl 5 Bg b)],.cp 0 0,[(0,Pf 2),(2,.sl 5 Bg (b++DN l))]⟩:=by
 refine cy 2 func56 rfl ntmps56 λY V=>Aj [] 2 V λV=>Ar ?_
 have h10:=Aq (n:=l.length) Ac
 refine Aw [(3,JZ l.length),(4,AA (BP b l.length Ax Ac) [(0,0),(1,1)] [(2,2)])] [] 3 V λV=>CQ (Ar (Dl [12] 3 V λV=> ?_))
 have hnw:b++Ah l.length++Jw (l.take 0)=b++Ah l.length:=(by rw[ge];simp [Jw])
 have V:=(V.rv [(0,.cp 0 0),(4,.v (.pointer none)),(12,.ls false A8 l),(13,vi ((l.length:Nat):Int)),(14,vi 0)] [(0,some (Pf 2)),(2,some (.sl 5 Bg (b++Ah l.length++Jw (l.take 0))))] (by kernel_rfl) (by rw[hnw];kernel_rfl)).sp
 refine Ae (BC (AC (ι:=Nat) Y V (λi=>(l.length-i,[(14,vi ((i:Nat):Int))],[(2,.sl 5 Bg (b++Ah l.length++Jw (l.take i)))],(i<=l.length)/\True)) [0,4,12,13] [0] 3 0 [(0,0),(1,1),(2,2)] ⟨Ac,aa⟩ ?_))
 rintro i ac gs ws ⟨hi,_⟩ V
 refine Aj [] 3 V λV=>Ar (AJ ((i:Int)<((l.length:Nat):Int)) V (λh1=> ?_) (λh1=> ?_))
 ·refine B3 (Ay [(0,AH i l.length)] [] 3 V λV=> ?_)
  have hli:=Ri he Ac i
  have hei:(l.getD i AW).length<=10000:=he i
  have h10:=Aq (n:=l.length) Ac
  refine Aw [(2,AA (Dq (b++Ah l.length++Jw (l.take i)) (l.getD i AW) Ax Ax) [(0,0),(1,2)] [(2,3)])] [] 4 V λV=> ?_
  have hnw:b++Ah l.length++Jw (l.take (i+1))=(((b++Ah l.length++Jw (l.take i))++Ah (l.getD i AW).length)++(l.getD i AW)):=kO b l i Ac
  have V:=(V.rv [(0,.cp 0 0),(4,.v (.pointer none)),(12,.ls false A8 l),(13,vi ((l.length:Nat):Int)),(14,vi (i:Int))] [(0,some (Pf 3)),(3,some (.sl 5 Bg (b++Ah l.length++Jw (l.take (i+1)))))] (by kernel_rfl) (by rw[hnw];kernel_rfl)).sp
  exact Ck (Aw [(0,Cu i)] [14] 4 V λV=>Ae (As Y V (i+1) [(0,0),(1,1),(2,3)] ⟨Ac,aa⟩))
 ·have hT:=V
  obtain rfl:l.length=i:=by omega
  have V:=hT
  refine JH (Dl [] 3 V λV=> ?_)
  have hnw:b++DN l=b++Ah l.length++Jw (l.take l.length):=(by rw[bp (an _)];simp only[DN,bu])
  have V:=(V.rv [(4,.cp 0 0)] [(0,some (Pf 2)),(2,some (.sl 5 Bg (b++DN l)))] (by kernel_rfl) (by rw[hnw];kernel_rfl)).sp
  exact EY (BW V)
section
variable (b:Bool)
def AR:Nat:=AV (if b=true then 1 else 0)
theorem FL:AR b<=1:=by unfold AR;rw[Ab];split<;>decide
def Aa0 (z_:Nat:=AR b):Con:=⟨[.v (.bool b)],[],.v (.int .u64 (z_:Int)),[]⟩
theorem PR:AP 54 (Aa0 b):=by
 refine cy 0 func54 rfl ntmps54 λY V=>Aj [] 0 V λV=>Ar (Aj [] 0 V λV=>Sd b V (λh1=> ?_) (λh1=> ?_))
 ·exact Aj [] 0 V λV=>AY (Ao (BV (.trans (Ab _) (ah h1)) V))
 ·exact Cb (Aj [] 0 V λV=>AY (BV (.trans (Ab _) (aj (LQ h1))) V))
end
theorem Y7 {x:Int} (h:0<=x) (h2:x<=1000000000000):IntKind.wrap .u64 x=((x.toNat:Nat):Int):=by
 rw[Vm h Ac];omega
def Qv (kl:List KR) (x89:Nat):Ad->Ad:=λo15=>((o15++Ah ((kl.getD x89 Bi).1.toNat))++Ah ((kl.getD x89 Bi).2.1.toNat))++DN (kl.getD x89 Bi).2.2
section
variable (id:Ad) (fi:Bool) (ok:Ad) (oi:Nat) (ik:Ad) (ii lT:Nat) (mx:AZ) (lD tD:Nat) (kl:List KR)
def Gf (id:Ad) (fi:Bool) (ok:Ad) (oi:Nat) (ik:Ad) (ii lT:Nat) (mx:AZ) (lD tD:Nat) (kl:List KR):Nat->Ad
 |0=>((((((((((([]++id)++Ah (AR fi))++Ah (AR false))++ok)++Ah oi)++ik)++Ah ii)++Ah lT)++DN mx)++Ah lD)++Ah tD)++Ah kl.length
 |x89+1=>Qv kl x89 (Gf id fi ok oi ik ii lT mx lD tD kl x89)
def FJ:Ad:=AV (Gf id fi ok oi ik ii lT mx lD tD kl kl.length)
def uW (z_:Ad:=FJ id fi ok oi ik ii lT mx lD tD kl):Con:=Cq [.cp 0 0] [(0,Ga id fi false 1 2 lT mx lD tD kl),(1,Ag ok oi),(2,Ag ik ii)] (lb z_)
theorem Qu (hok:ok.length=32) (hik:ik.length=32) (hoi:oi<=100000000000) (hii:ii<=100000000000) (hm1:1<=mx.length/\mx.length<=100000) (hm2:∀j,(mx.getD j AW).length<=32) (hlow:lT<=100000000000) (hK:KOk kl) (hll:lT<=lD/\lD<=100000000000) (htd:tD<=100000000000) (hid:id.length=32):AP 25 (uW id fi ok oi ik ii lT mx lD tD kl):=by
 refine cy 3 func25 rfl ntmps25 λY V=>Aj [] 3 V λV=>Ar (Ay [(1,Ig (B4) [0,1] [.im (Jg [.top,.top,.top,.im (Jg []) 0,.top,.top,.top,.top,.top,.top,.top]) 0])] [] 3 V λV=>Ai V (Cb (Aj [] 4 V λV=>Ar ?_)))
 have hf1:=FL fi
 have hf2:=FL false
 have hg1:=Aq (n:=AR fi) Ac
 have hg2:=Aq (n:=AR false) Ac
 have hg3:=Aq (n:=oi) Ac
 have hg4:=Aq (n:=ii) Ac
 have hg5:=Aq (n:=lT) Ac
 have hg6:=Aq (n:=lD) Ac
 have hg7:=Aq (n:=tD) Ac
 have hK1:=hK.1
 have hg8:=Aq (n:=kl.length) Ac
 have hlw:=Iw hm1.2 hm2
 refine Aw [(5,AA (Qg id Ax) [(0,3)] [(1,4)]),(10,AS (PR fi)),(11,AA (BP ([]++id) (AR fi) Ax Ac) [(0,3),(1,4)] [(2,5)]),(16,AS (PR false)),(17,AA (BP (([]++id)++Ah (AR fi)) (AR false) Ax Ac) [(0,3),(1,5)] [(2,6)])] [] 7 V λV=>CQ (Aj [38] 7 V λV=>BC (wp_loop_rounds 3 ?_))
 refine Bc (n:=2) (Aj [] 7 V λV=>Ar (AG V (B3 (Ay [(0,AH 0 2)] [42,43] 7 V λV=>Aw [(2,AA (P0 ok oi Ax) [(0,1)] []),(3,AA (EQ ((([]++id)++Ah (AR fi))++Ah (AR false)) ok Ax Ax) [(0,3),(1,6)] [(2,7)]),(5,AA (Cn ok oi) [(0,1)] []),(6,JZ oi),(7,AA (BP (((([]++id)++Ah (AR fi))++Ah (AR false))++ok) oi Ax Ac) [(0,3),(1,7)] [(2,8)])] [44,45,46,47,48,49,50] 9 V λV=>Ck (Dl [40,52] 9 V λV=>Ae ?_)))))
 refine Bc (n:=1) (Aj [] 9 V λV=>Ar (AG V (B3 (Ay [(0,AH 1 2)] [42,43] 9 V λV=>Aw [(2,AA (P0 ik ii Ax) [(0,2)] []),(3,AA (EQ ((((([]++id)++Ah (AR fi))++Ah (AR false))++ok)++Ah oi) ik Ax Ax) [(0,3),(1,8)] [(2,9)]),(5,AA (Cn ik ii) [(0,2)] []),(6,JZ ii),(7,AA (BP (((((([]++id)++Ah (AR fi))++Ah (AR false))++ok)++Ah oi)++ik) ii Ax Ac) [(0,3),(1,9)] [(2,10)])] [44,45,46,47,48,49,50] 11 V λV=>Ck (Dl [40,52] 11 V λV=>Ae ?_)))))
 refine Bc (n:=0) (Aj [] 11 V λV=>Ar (Ai V (Dw (Ay [(5,JZ lT),(6,AA (BP ((((((([]++id)++Ah (AR fi))++Ah (AR false))++ok)++Ah oi)++ik)++Ah ii) lT Ax Ac) [(0,3),(1,10)] [(2,11)]),(11,AA (EJ (((((((([]++id)++Ah (AR fi))++Ah (AR false))++ok)++Ah oi)++ik)++Ah ii)++Ah lT) mx Ax Ax (by first |assumption|exact λj=>ca (hm2 j) (by decide)|exact Hf hkr.2.2.2)) [(0,3),(1,11)] [(2,12)]),(16,JZ lD),(17,AA (BP ((((((((([]++id)++Ah (AR fi))++Ah (AR false))++ok)++Ah oi)++ik)++Ah ii)++Ah lT)++DN mx) lD Ax Ac) [(0,3),(1,12)] [(2,13)]),(22,JZ tD),(23,AA (BP (((((((((([]++id)++Ah (AR fi))++Ah (AR false))++ok)++Ah oi)++ik)++Ah ii)++Ah lT)++DN mx)++Ah lD) tD Ax Ac) [(0,3),(1,13)] [(2,14)]),(29,JZ kl.length),(30,AA (BP ((((((((((([]++id)++Ah (AR fi))++Ah (AR false))++ok)++Ah oi)++ik)++Ah ii)++Ah lT)++DN mx)++Ah lD)++Ah tD) kl.length Ax Ac) [(0,3),(1,14)] [(2,15)])] [] 16 V λV=>Ar (Aj [87] 16 V λV=>BC (AC (ι:=Nat×Ad) Y V (λ(x89,o15)=>(kl.length-x89,[(89,vi ((x89:Nat):Int))],[(15,.sl 5 Bg o15)],(x89<=kl.length)/\(o15=Gf id fi ok oi ik ii lT mx lD tD kl x89)/\(o15.length<=5000000+x89*5000000)/\True)) [0,2,3,87,88] [0,1,2,3] 16 (0,((((((((((([]++id)++Ah (AR fi))++Ah (AR false))++ok)++Ah oi)++ik)++Ah ii)++Ah lT)++DN mx)++Ah lD)++Ah tD)++Ah kl.length) [(0,0),(1,1),(2,2),(3,3),(15,15)] ⟨Ac,rfl,Ax,aa⟩ ?_))))))
 rintro⟨x89,o15⟩ ac gs ws ⟨hx89,hq2,pL,_⟩ V
 refine Aj [] 16 V λV=>Ar (AJ ((x89:Int)<((kl.length:Nat):Int)) V (λh1=> ?_) (λh1=> ?_))
 ·refine B3 (Ay [(0,AH x89 kl.length)] [7] 17 V λV=> ?_)
  have hkr:(0<=(kl.getD x89 Bi).1/\(kl.getD x89 Bi).1<=1000000000000)/\(0<=(kl.getD x89 Bi).2.1/\(kl.getD x89 Bi).2.1<=1000000000000)/\(kl.getD x89 Bi).2.2.length<=100000/\∀k∈(kl.getD x89 Bi).2.2,k.length=32:=hK.2 x89 Ac
  have hkw:(DN (kl.getD x89 Bi).2.2).length<=4200010:=Iw hkr.2.2.1 (Uf hkr.2.2.2)
  have hn1:=Aq (n:=(kl.getD x89 Bi).1.toNat) Ac
  have hn2:=Aq (n:=(kl.getD x89 Bi).2.1.toNat) Ac
  exact Aw [(3,Ly (((kl.getD x89 Bi).1.toNat:Nat):Int) [IntKind.wrap .u64 (kl.getD x89 Bi).1=(((kl.getD x89 Bi).1.toNat:Nat):Int)] ⟨Y7 hkr.1.1 hkr.1.2,aa⟩),(4,AA (BP o15 ((kl.getD x89 Bi).1.toNat) Ax Ac) [(0,3),(1,15)] [(2,17)]),(7,Ly (((kl.getD x89 Bi).2.1.toNat:Nat):Int) [IntKind.wrap .u64 (kl.getD x89 Bi).2.1=(((kl.getD x89 Bi).2.1.toNat:Nat):Int)] ⟨Y7 hkr.2.1.1 hkr.2.1.2,aa⟩),(8,AA (BP (o15++Ah ((kl.getD x89 Bi).1.toNat)) ((kl.getD x89 Bi).2.1.toNat) Ax Ac) [(0,3),(1,17)] [(2,18)]),(11,AA (EJ ((o15++Ah ((kl.getD x89 Bi).1.toNat))++Ah ((kl.getD x89 Bi).2.1.toNat)) (kl.getD x89 Bi).2.2 Ax Ax (by first |assumption|exact λj=>ca (hm2 j) (by decide)|exact Hf hkr.2.2.2)) [(0,3),(1,18)] [(2,19)])] [] 20 V λV=>Ck (Aw [(0,Cu x89)] [89] 20 V λV=>Ae (As Y V (x89+1,((o15++Ah ((kl.getD x89 Bi).1.toNat))++Ah ((kl.getD x89 Bi).2.1.toNat))++DN (kl.getD x89 Bi).2.2) [(0,0),(1,1),(2,2),(3,3),(15,19)] ⟨Ac,(Bm (st:=Qv _) hq2 rfl rfl),Ax,aa⟩))
 ·have hT:=V
  obtain rfl:kl.length=x89:=by omega
  obtain rfl:=hq2.symm
  have V:=hT
  exact JH (Aj [] 16 V λV=>Ai V (Cb (Ay [(1,AA (Gd (Gf id fi ok oi ik ii lT mx lD tD kl kl.length) Ax) [(0,3),(1,15)] [])] [] 16 V λV=>AY (BV (Ab _) V))))
end
def Bb (n:Nat) (r:Ad):Ad:=Ah n++r
def K4 (x r:Ad):Ad:=x++r
def DJ (x r:Ad):Ad:=Ah x.length++(x++r)
def Vb:AZ->Ad->Ad
 |[],r=>r
 |x::l,r=>DJ x (Vb l r)
def Cc (l:AZ) (r:Ad):Ad:=Bb l.length (Vb l r)
theorem BE {n:Nat} {r:Ad} {m:Nat} (h:(Bb n r).length<=m):r.length<=m:=by unfold Bb at h;rw[ab]at h;omega
theorem N8 {x r:Ad} {m:Nat} (h:(K4 x r).length<=m):r.length<=m:=by unfold K4 at h;rw[ab]at h;omega
theorem Gc {x r:Ad} {m:Nat} (h:(DJ x r).length<=m):r.length<=m:=by unfold DJ at h;rw[ab,ab]at h;omega
theorem fY {r:Ad} {m:Nat}:∀{l:AZ},(Vb l r).length<=m->r.length<=m
 |[],h=>h
 |_::_,h=>fY (Gc h)
theorem Ji {l:AZ} {r:Ad} {m:Nat} (h:(Cc l r).length<=m):r.length<=m:=fY (BE h)
theorem Vn {r:Ad} {m:Nat}:∀{l:AZ} (i:Nat),(Vb l r).length<=m->(Vb (l.drop i) r).length<=m
 |_,0,h=>h
 |[],_+1,h=>h
 |_::_,i+1,h=>Vn i (Gc h)
theorem Xt {r:Ad}:∀{l:AZ} {i:Nat},i<l.length->Vb (l.drop i) r=DJ (l.getD i []) (Vb (l.drop (i+1)) r)
 |_::_,0,_=>rfl
 |_::_,i+1,h=>Xt (i:=i) (Nat.lt_of_succ_lt_succ h)
theorem qS {r:Ad} {l:AZ} {i:Nat} (h:l.length<=i):Vb (l.drop i) r=r:=by rw[List.drop_of_length_le h];rfl
section
variable (l:AZ)
theorem Abt (r:Ad):Jw l++r=Vb l r:=by
 induction l with
 |nil=>rfl
 |cons x l ih=>show(Ah x.length++x++Jw l)++r=Ah x.length++(x++Vb l r);rw[<-ih];simp only[bu]
theorem Abu (r:Ad):DN l++r=Cc l r:=by unfold DN Cc Bb;rw[bu,Abt]
theorem LE {i:Nat} (h:i<l.length):l.take (i+1)=l.take i++[l.getD i []]:=by
 rw[cw h,al,am h];rfl
end
section
variable (n:Nat) (r:Ad)
theorem sM (h:(Bb n r).length<=100000000000000) (hn:n<4611686018427387904):AP 126 ⟨[.cp 0 0],[(0,C8 (Bb n r))],.v (.int .u64 (n:Int)),[(0,C8 r)]⟩:=by
 have h2:=HZ (Bb n r) h (Ko Ac r)
 unfold xI at h2
 rw[show Af (Bb n r)=((n:Int),r)from IF Ac r]at h2
 exact h2
theorem CO (h:(Bb n r).length<=100000000000000) (hn:n<=2147483648):AP 92 ⟨[.cp 0 0],[(0,C8 (Bb n r))],vi (n:Int),[(0,C8 r)]⟩:=by
 have hv:Af (Bb n r)=((n:Int),r):=IF Ac r
 have h2:=Fi (Bb n r) h (by unfold DO;rw[Ab];rw[ah (show Gn (Bb n r)=true from Ko Ac r),hv,aj (by show¬(2147483648:Int)<(n:Int);omega)])
 unfold KU at h2
 rw[hv]at h2
 exact h2
end
theorem SD (m n:Nat) (r:Ad) (h:(Bb n r).length<=100000000000000) (hm:m<=100000000000000) (hn:n<=m):AP 139 ⟨[.cp 0 0,vi (m:Int)],[(0,C8 (Bb n r))],vi (n:Int),[(0,C8 r)]⟩:=by
 have hv:Af (Bb n r)=((n:Int),r):=IF Ac r
 have h2:=MY (Bb n r) m h hm (by unfold D9;rw[Ab];rw[ah (show Gn (Bb n r)=true from Ko Ac r),hv,aj (by show¬(m:Int)<(n:Int);omega)])
 unfold UU at h2
 rw[hv]at h2
 exact h2
theorem IZ (n:Nat) (x r:Ad) (h:(K4 x r).length<=100000000000000) (hn:x.length=n):AP 91 ⟨[.cp 0 0,vi (n:Int)],[(0,C8 (K4 x r))],lb x,[(0,C8 r)]⟩:=by
 subst hn
 have h2:=I0 (K4 x r) x.length h (by
  unfold CJ;rw[Ab]
  rw[aj (by unfold K4;rw[ab];omega)])
 unfold Xa at h2
 erw [show(K4 x r).take x.length=x from take_left,show(K4 x r).drop x.length=r from drop_left]at h2
 exact h2
theorem Es (m:Nat) (x r:Ad) (h:(DJ x r).length<=100000000000000) (hm:m<=100000000000000) (hx:x.length<=m):AP 102 ⟨[.cp 0 0,vi (m:Int)],[(0,C8 (DJ x r))],lb x,[(0,C8 r)]⟩:=by
 have hv:Af (DJ x r)=(((x.length:Nat):Int),x++r):=IF Ac _
 have h1:D9 (DJ x r) m=true:=by unfold D9;rw[Ab];rw[ah (show Gn (DJ x r)=true from Ko Ac _),hv,aj (by show¬(m:Int)<((x.length:Nat):Int);omega)]
 have h2:=Eg (DJ x r) m h hm (by
  unfold BA;rw[Ab]
  rw[ah h1,ah (by rw[hv];unfold CJ;rw[Ab];rw[aj (by show¬(((x++r).length:Nat):Int)<((x.length:Nat):Int);rw[ab];omega)])])
 unfold OI at h2
 rw[hv]at h2
 erw [show List.take (Int.toNat (((x.length:Nat):Int),x++r).1) (((x.length:Nat):Int),x++r).2=x from take_left,show List.drop (Int.toNat (((x.length:Nat):Int),x++r).1) (((x.length:Nat):Int),x++r).2=r from drop_left]at h2
 exact h2
theorem QL (cn m:Nat) (l:AZ) (r:Ad) (h:(Cc l r).length<=100000000000000) (hc:l.length<=cn/\cn<=100000000000) (hm:m<=100000000000000) (he:∀j,(l.getD j []).length<=m):AP 127 ⟨[.cp 0 0,vi (cn:Int),vi (m:Int)],[(0,C8 (Cc l r))],.ls false A8 l,[(0,C8 r)]⟩:=by
 refine cy 1 func127 rfl ntmps127 λY V=>Aj [] 1 V λV=>Ar (Ay [(1,Vj false [(decide ((m:Int)<0))=false] ⟨decide_eq_false Ac,aa⟩)] [] 1 V λV=>Ai V (DG (Ar ?_)))
 have V:=V.ch 0 (C8 (Bb l.length (Vb l r))) (C8 (Cc l r)) rfl
 have hLr:=BE h
 refine Aw [(2,AA (SD cn l.length (Vb l r) (by first |assumption|omega) Ac Ac) [(0,0)] [])] [] 1 V λV=>Ae (BC ?_)
 obtain⟨gs,V⟩:=V.nilk 6 22 A8
 refine AC (ι:=Nat) Y V (λi=>(l.length-i,[(7,vi ((l.length-i:Nat):Int))],[(0,C8 (Vb (l.drop i) r)),(1,.sl 22 A8 (l.take i))],(i<=l.length)/\True)) [0,2,6] [] 2 0 [(0,0),(1,1)] ⟨(bw _),aa⟩ ?_
 rintro i ac gs ws ⟨hi,_⟩ V
 refine Ar (Aj [] 2 V λV=>AJ ((0:Int)<((l.length-i:Nat):Int)) V (λh1=> ?_) (λh1=> ?_))
 ·refine B3 ?_
  have V:=V.ch 0 (C8 (DJ (l.getD i []) (Vb (l.drop (i+1)) r))) (C8 (Vb (l.drop i) r)) (by rw[Xt Ac]<;>rfl)
  have hLb:(DJ (l.getD i []) (Vb (l.drop (i+1)) r)).length<=100000000000000:=by rw[<-Xt Ac];exact Vn i hLr
  have hei:=he i
  refine Aw [(3,AA (Es m (l.getD i []) (Vb (l.drop (i+1)) r) (by first |assumption|omega) Ac (by first |assumption|omega)) [(0,0)] []),(5,Gt ((l.take i).length) 1 24)] [6] 3 V λV=> ?_
  have V:=V.ch 2 (.sl 22 A8 (l.take (i+1))) (.sl 22 A8 ((l.take i)++[l.getD i []])) (dp (λz:AZ=>O.sl 22 A8 z) (LE l (i:=i) Ac).symm)
  exact Ck (Aw [(1,Ly ((l.length-(i+1):Nat):Int) [FC .i64 ((l.length-i:Nat):Int) 1=((l.length-(i+1):Nat):Int)] ⟨(OD Ac Ac).trans Ac,aa⟩)] [7] 3 V λV=>Ae (As Y V (i+1) [(0,0),(1,2)] ⟨Ac,aa⟩))
 ·have hT:=V
  have V:=hT
  refine JH ?_
  have V:=V.ch 0 (C8 r) (C8 (Vb (l.drop i) r)) (by rw[qS Ac]<;>rfl)
  have V:=V.ch 1 (.sl 22 A8 l) (.sl 22 A8 (l.take i)) (dp (λz:AZ=>O.sl 22 A8 z) (show l.take i=l by rw[bp Ac]))
  refine Dl [6] 2 V λV=>EY ?_
  obtain⟨gs,V⟩:=V.fz 1
  exact BW V
theorem Abd (x:Ad) (hx:x.length=32):AP 129 ⟨[lb x],[],.v (.bool false),[]⟩:=by
 refine cy 0 func129 rfl ntmps129 λY V=> ?_
 have hx0:((x.length:Nat):Int)=32:=Ac
 exact Aj [] 0 V λV=>Ay [(2,Ha hx0)] [] 0 V λV=>AY (BW V)
theorem sZ (l:AZ) (he:∀j,j<l.length->(l.getD j AW).length=32):AP 166 ⟨[.ls false A8 l,.v (.func (.func 129) #[] #[])],[],vi (-1),[]⟩:=by
 refine cy 0 func166 rfl ntmps166 λY V=> ?_
 have Bj:l.length<=9223372036854775807:=V.len 0 rfl
 refine Aj [] 0 V λV=>Ar (Aj [] 0 V λV=>BC (AC (ι:=Nat) Y V (λx=>(l.length-x,[(8,vi ((x:Nat):Int))],[],(x<=l.length)/\True)) [0,1,7] [] 0 0 [] ⟨Ac,aa⟩ ?_))
 rintro x ac gs ws ⟨hx,_⟩ V
 refine Aj [] 0 V λV=>Ar (AJ ((x:Int)<((l.length:Nat):Int)) V (λh1=> ?_) (λh1=> ?_))
 ·exact B3 (Aj [] 0 V λV=>Ay [(3,AH x l.length),(5,AS (Abd (l.getD x AW) (he x Ac)))] [] 0 V λV=>Ai V (FN (Aw [(0,Cu x)] [8] 0 V λV=>Ae (As Y V (x+1) [] ⟨Ac,aa⟩))))
 ·have hT:=V
  obtain rfl:l.length=x:=by omega
  have V:=hT
  exact Dw (Aj [] 0 V λV=>AY (BW V))
theorem s4 (l:AZ) (he:∀j,j<l.length->(l.getD j AW).length=32):AP 128 ⟨[.ls false A8 l,.v (.func (.func 129) #[] #[])],[],.v (.bool false),[]⟩:=by
 exact cy 0 func128 rfl ntmps128 λY V=>Aj [] 0 V λV=>Ay [(2,AS (sZ l A_))] [] 0 V λV=>AY (BW V)
theorem KP {l:AZ} (h:∀j,j<l.length->(l.getD j AW).length=32) (j:Nat):(l.getD j []).length<=32:=by
 rw[al]
 by_cases hj:j<l.length
 ·have :(l.getD j ([]:Ad)).length=32:=h j hj
  rw[al,am hj]at this
  rw[am hj]
  exact Nat.le_of_eq this
 ·rw[bg Ac];simp
theorem Nr (l:AZ) (r:Ad) (h:(Cc l r).length<=100000000000000) (hc:l.length<=60000) (he:∀j,j<l.length->(l.getD j AW).length=32):AP 93 ⟨[.cp 0 0],[(0,C8 (Cc l r))],.ls false A8 l,[(0,C8 r)]⟩:=by
 exact cy 1 func93 rfl ntmps93 λY V=>Aj [] 1 V λV=>Ay [(1,AA (QL 65536 32 l r h ⟨ca hc (by decide),by decide⟩ (by decide) (KP he)) [(0,0)] [])] [] 1 V λV=>Ar (Ay [(1,AS (s4 l A_))] [] 1 V λV=>Ai V (Cb (Aj [] 1 V λV=>AY (BW V))))
def U5 (x0 x1:Bool):O:= .ob 80 (Jg [.v (.slice none 0 0),.v (.bool x0),.v (.bool x1),.v (.pointer none),.v (.pointer none),.v (.pointer none),vi 0,.v (.slice none 0 0),vi 0,vi 0,.v (.slice none 0 0)])
def Gx:List KR->Ad->Ad
 |[],r=>r
 |k::l,r=>Bb k.1.toNat (Bb k.2.1.toNat (Cc k.2.2 (Gx l r)))
def MB (id:Ad) (fi hy:Bool) (ok:Ad) (oi:Nat) (ik:Ad) (ii lT:Nat) (mx:AZ) (lD tD:Nat) (kl:List KR) (r:Ad):Ad:=K4 id (Bb (AR fi) (Bb (AR hy) (K4 ok (Bb oi (K4 ik (Bb ii (Bb lT (Cc mx (Bb lD (Bb tD (Bb kl.length (Gx kl r))))))))))))
theorem MJ {r:Ad} {m:Nat}:∀{l:List KR} (i:Nat),(Gx l r).length<=m->(Gx (l.drop i) r).length<=m
 |_,0,h=>h
 |[],_+1,h=>h
 |_::_,i+1,h=>MJ i (Ji (BE (BE h)))
theorem LV {r:Ad}:∀{l:List KR} {i:Nat},i<l.length->Gx (l.drop i) r=Bb (l.getD i kz).1.toNat (Bb (l.getD i kz).2.1.toNat (Cc (l.getD i kz).2.2 (Gx (l.drop (i+1)) r)))
 |_::_,0,_=>rfl
 |_::_,i+1,h=>LV (i:=i) (Nat.lt_of_succ_lt_succ h)
theorem MH {r:Ad} {l:List KR} {i:Nat} (h:l.length<=i):Gx (l.drop i) r=r:=by rw[List.drop_of_length_le h];rfl
theorem LL (l:List KR) {i:Nat} (h:i<l.length):l.take (i+1)=l.take i++[l.getD i kz]:=by
 rw[cw h,al,am h];rfl
theorem PT (b:Bool):(decide (((AR b:Nat):Int)=1))=b:=by
 unfold AR;rw[Ab];cases b<;>rfl
structure KRd (ii:Nat) (kl:List KR):Prop where
 n:kl.length<=60
 k:∀j,j<kl.length->(0<=(kl.getD j kz).1/\(kl.getD j kz).1<(ii:Int))/\(0<=(kl.getD j kz).2.1/\(kl.getD j kz).2.1<=2147483648)/\(kl.getD j kz).2.2.length<=60000/\∀x,x<(kl.getD j kz).2.2.length->((kl.getD j kz).2.2.getD x AW).length=32
 d:∀j,j<kl.length->CV (kl.take j) (((kl.getD j kz).1.toNat:Nat):Int)<0
theorem Kz {ii:Nat} {kl:List KR} (h:KRd ii kl) {i:Nat} (hi:i<kl.length):kl.take (i+1)=kl.take i++[((((kl.getD i kz).1.toNat:Nat):Int),(((kl.getD i kz).2.1.toNat:Nat):Int),(kl.getD i kz).2.2)]:=by
 rw[LL kl hi]
 have h1:=h.k i hi
 have h2:(((kl.getD i kz).1.toNat:Nat):Int)=(kl.getD i kz).1:=by omega
 have h3:(((kl.getD i kz).2.1.toNat:Nat):Int)=(kl.getD i kz).2.1:=by omega
 rw[h2,h3]
theorem bT (id:Ad) (fi:Bool) (ok:Ad) (oi:Nat) (ik:Ad) (ii lT:Nat) (mx:AZ) (lD tD:Nat) (kl:List KR) (r:Ad) (hr:(MB id fi false ok oi ik ii lT mx lD tD kl r).length<=100000000000000) (hid:id.length=32) (hok:ok.length=32) (hik:ik.length=32) (hoi:oi<=100000000000) (hii:ii<=100000000000) (hn1:oi<=2147483648/\ii<=2147483648/\lT<=2147483648) (hn2:lD<=2147483648/\tD<=2147483648) (hmx:1<=mx.length/\mx.length<=60000) (hm32:∀j,j<mx.length->(mx.getD j AW).length=32) (hlo:lT<=lD/\lD<=lT+mx.length-1/\lT<=A6 fi lT mx.length tD) (hkr:KRd ii kl):AP 60 ⟨[.cp 0 0,.cp 1 0],[(0,U5 false false),(1,C8 (MB id fi false ok oi ik ii lT mx lD tD kl r))],.tu (Jg []),[(0,Ga id fi false 2 3 lT mx lD tD kl),(1,C8 r),(2,Ag ok oi),(3,Ag ik ii)]⟩:=by
 refine cy 2 func60 rfl ntmps60 λY V=> ?_
 have hx0:S_ 0=true:=(by decide)
 have hx1:¬((mx.length:Nat):Int)=0:=Ac
 have hx2:¬(lD:Int)<(lT:Int):=Ac
 have hx3:¬((lT+mx.length-1:Nat):Int)<(lD:Int):=Ac
 have hx4:¬((A6 fi lT mx.length tD:Nat):Int)<(lT:Int):=Ac
 have hx5:¬(60:Int)<((kl.length:Nat):Int):=(by have :=hkr.n;omega)
 refine Ar ?_
 have hr0:=N8 hr
 have hr1:=BE hr0
 have hr2:=BE hr1
 have hr3:=N8 hr2
 have hr4:=BE hr3
 have hr5:=N8 hr4
 have hr6:=BE hr5
 have hr7:=BE hr6
 have hr8:=Ji hr7
 have hr9:=BE hr8
 have hr10:=BE hr9
 have hr11:=BE hr10
 have V:=V.ch 1 (C8 (K4 id (Bb (AR fi) (Bb (AR false) (K4 ok (Bb oi (K4 ik (Bb ii (Bb lT (Cc mx (Bb lD (Bb tD (Bb kl.length (Gx kl r)))))))))))))) (C8 (MB id fi false ok oi ik ii lT mx lD tD kl r)) rfl
 have hm1:1<=mx.length/\mx.length<=100000:=⟨hmx.1,by omega⟩
 have hf1:=FL fi
 have hf2:=FL false
 refine Aw [(2,AA (IZ 32 id (Bb (AR fi) (Bb (AR false) (K4 ok (Bb oi (K4 ik (Bb ii (Bb lT (Cc mx (Bb lD (Bb tD (Bb kl.length (Gx kl r)))))))))))) (by first |assumption|omega) (by first |assumption|omega)) [(0,1)] [])] [] 2 V λV=>Ae (Ay [(3,AA (CO (AR fi) (Bb (AR false) (K4 ok (Bb oi (K4 ik (Bb ii (Bb lT (Cc mx (Bb lD (Bb tD (Bb kl.length (Gx kl r))))))))))) (by first |assumption|omega) Ac) [(0,1)] []),(4,Vj fi [(decide (((AR fi:Nat):Int)=1))=fi] ⟨PT fi,aa⟩),(6,AA (CO (AR false) (K4 ok (Bb oi (K4 ik (Bb ii (Bb lT (Cc mx (Bb lD (Bb tD (Bb kl.length (Gx kl r)))))))))) (by first |assumption|omega) Ac) [(0,1)] []),(7,Vj false [(decide (((AR false:Nat):Int)=1))=false] ⟨PT false,aa⟩)] [] 2 V λV=>Ar (Aj [32] 2 V λV=>BC (wp_loop_rounds 3 ?_)))
 refine Bc (n:=2) (Aj [] 2 V λV=>Ar (AG V (B3 (Ay [(0,AH 0 2)] [36,37] 2 V λV=>Aj [] 2 V λV=>Ay [(2,AA (IZ 32 ok (Bb oi (K4 ik (Bb ii (Bb lT (Cc mx (Bb lD (Bb tD (Bb kl.length (Gx kl r))))))))) (by first |assumption|omega) (by first |assumption|omega)) [(0,1)] []),(4,AA (CO oi (K4 ik (Bb ii (Bb lT (Cc mx (Bb lD (Bb tD (Bb kl.length (Gx kl r)))))))) (by first |assumption|omega) Ac) [(0,1)] []),(5,AA (NO ok oi Ax) [] [(0,2)])] [38,39,40,41,42,43,44,45,46,47] 3 V λV=>Aw [(1,AS (FB 0 hx0))] [48] 3 V λV=>Ck (Dl [34,50] 3 V λV=>Ae ?_)))))
 refine Bc (n:=1) (Aj [] 3 V λV=>Ar (AG V (B3 (Ay [(0,AH 1 2)] [36,37] 3 V λV=>Aj [] 3 V λV=>Ay [(2,AA (IZ 32 ik (Bb ii (Bb lT (Cc mx (Bb lD (Bb tD (Bb kl.length (Gx kl r))))))) (by first |assumption|omega) (by first |assumption|omega)) [(0,1)] []),(4,AA (CO ii (Bb lT (Cc mx (Bb lD (Bb tD (Bb kl.length (Gx kl r)))))) (by first |assumption|omega) Ac) [(0,1)] []),(5,AA (NO ik ii Ax) [] [(0,3)])] [38,39,40,41,42,43,44,45,46,47] 4 V λV=>Aw [(1,AS (FB 0 hx0))] [48] 4 V λV=>Ck (Dl [34,50] 4 V λV=>Ae ?_)))))
 refine Bc (n:=0) (Aj [] 4 V λV=>Ar (Ai V (Dw (Ay [(5,AA (CO lT (Cc mx (Bb lD (Bb tD (Bb kl.length (Gx kl r))))) (by first |assumption|omega) Ac) [(0,1)] []),(7,AA (Nr mx (Bb lD (Bb tD (Bb kl.length (Gx kl r)))) A_ (by first |assumption|omega) A_) [(0,1)] []),(9,AA (CO lD (Bb tD (Bb kl.length (Gx kl r))) (by first |assumption|omega) Ac) [(0,1)] []),(11,AA (CO tD (Bb kl.length (Gx kl r)) (by first |assumption|omega) Ac) [(0,1)] [])] [] 4 V λV=>Ar (Ay [(5,Do hx1),(15,Do hx2),(23,Ig (Ds lT mx GG Ac) [0,2] [.im (Jg [.top,.top,.top,.im (Jg []) 0,.top,.top,vi (lT:Int),.ls false A8 mx,.top,.top,.top]) 0]),(24,Do hx3),(28,Ig (H4 fi lT mx tD GG Ac) [0,2] [.im (Jg [.top,.v (.bool fi),.top,.im (Jg []) 0,.top,.top,vi (lT:Int),.ls false A8 mx,.top,vi (tD:Int),.top]) 0]),(33,Do hx4)] [] 4 V λV=>Ai V (Cb (Ay [(1,AA (CO kl.length (Gx kl r) (by first |assumption|omega) Ac) [(0,1)] [])] [] 4 V λV=>Ar (Ay [(1,Do hx5)] [] 4 V λV=>Ai V (DG (Ar ?_))))))))))
 obtain⟨gs,V⟩:=V.nilob 0 10 86 CM
 refine Dl [] 5 V λV=>Ae (BC (AC (ι:=Nat) Y V (λi=>(kl.length-i,[(113,vi ((i:Nat):Int))],[(1,C8 (Gx (kl.drop i) r)),(4,.sl 86 CM (kl.take i))],(i<=kl.length)/\True)) [0,1,112] [0,2,3] 5 0 [(0,0),(1,1),(2,2),(3,3),(4,4)] ⟨Ac,aa⟩ ?_))
 rintro i ac gs ws ⟨hi,_⟩ V
 refine Aj [] 5 V λV=>Ar (AJ ((i:Int)<((kl.length:Nat):Int)) V (λh1=> ?_) (λh1=> ?_))
 ·refine B3 (Ar ?_)
  have V:=V.ch 1 (C8 (Bb (kl.getD i kz).1.toNat (Bb (kl.getD i kz).2.1.toNat (Cc (kl.getD i kz).2.2 (Gx (kl.drop (i+1)) r))))) (C8 (Gx (kl.drop i) r)) (by rw[LV Ac]<;>rfl)
  have hra:(Bb (kl.getD i kz).1.toNat (Bb (kl.getD i kz).2.1.toNat (Cc (kl.getD i kz).2.2 (Gx (kl.drop (i+1)) r)))).length<=100000000000000:=by rw[<-LV Ac];exact MJ i hr11
  have hrb:=BE hra
  have hrc:=BE hrb
  have hkj:=hkr.k i Ac
  have hke:=hkj.2.2.2
  have hkd:=hkr.d i Ac
  refine Aw [(1,AA (CO ((kl.getD i kz).1.toNat) (Bb (kl.getD i kz).2.1.toNat (Cc (kl.getD i kz).2.2 (Gx (kl.drop (i+1)) r))) (by first |assumption|omega) Ac) [(0,1)] []),(3,AA (CO ((kl.getD i kz).2.1.toNat) (Cc (kl.getD i kz).2.2 (Gx (kl.drop (i+1)) r)) (by first |assumption|omega) Ac) [(0,1)] []),(5,AA (Nr (kl.getD i kz).2.2 (Gx (kl.drop (i+1)) r) A_ (by first |assumption|omega) A_) [(0,1)] [])] [8] 6 V λV=>CQ (Ar ?_)
  have hy1:¬(ii:Int)<=(((kl.getD i kz).1.toNat:Nat):Int):=Ac
  have hy2:¬(0:Int)<=(CV (kl.take i) ((((kl.getD i kz).1.toNat):Nat):Int)):=Ac
  refine Aw [(6,AA (Cn ik ii) [(0,3)] []),(7,Do hy1),(12,AA (Nh id fi ok oi ik ii lT mx lD tD (kl.take i) ((kl.getD i kz).1.toNat)) [(0,0),(1,2),(2,3),(3,4)] []),(13,Do hy2)] [] 6 V λV=>Ae (Ai V (Cb (Aw [(7,Gt ((kl.take i).length) 1 40)] [] 7 V λV=> ?_)))
  have V:=V.ch 6 (.sl 86 CM (kl.take (i+1))) (.sl 86 CM ((kl.take i)++[((((kl.getD i kz).1.toNat:Nat):Int),(((kl.getD i kz).2.1.toNat:Nat):Int),(kl.getD i kz).2.2)])) (dp (λz:List KR=>O.sl 86 CM z) (Kz hkr (i:=i) Ac).symm)
  exact Ck (Aw [(0,Cu i)] [113] 7 V λV=>Ae (As Y V (i+1) [(0,0),(1,1),(2,2),(3,3),(4,6)] ⟨Ac,aa⟩))
 ·have hT:=V
  obtain rfl:kl.length=i:=by omega
  have V:=hT
  refine JH ?_
  have V:=V.ch 1 (C8 r) (C8 (Gx (kl.drop kl.length) r)) (by rw[MH Ac]<;>rfl)
  have V:=V.ch 4 (.sl 86 CM kl) (.sl 86 CM (kl.take kl.length)) (dp (λz:List KR=>O.sl 86 CM z) (show kl.take kl.length=kl by rw[bp Ac]))
  obtain⟨gs,V⟩:=V.fz 4
  exact Dl [] 5 V λV=>Ae (Ai V (sR (fQ V)))
theorem Ss (a x r:Ad):(a++x)++r=a++K4 x r:=bu ..
theorem Dh (a:Ad) (n:Nat) (r:Ad):(a++Ah n)++r=a++Bb n r:=bu ..
theorem MG (a:Ad) (l:AZ) (r:Ad):(a++DN l)++r=a++Cc l r:=by rw[bu,Abu]
theorem Zg (id : Ad) (fi : Bool) (ok : Ad) (oi : Nat) (ik : Ad) (ii lT : Nat) (mx : AZ) (lD tD : Nat) (kl : List KR) (r : Ad) :
  ∀i,i<=kl.length->Gf id fi ok oi ik ii lT mx lD tD kl i++Gx (kl.drop i) r=MB id fi false ok oi ik ii lT mx lD tD kl r
 |0,_=>by
  show(((((((((((([]++id)++Ah (AR fi))++Ah (AR false))++ok)++Ah oi)++ik)++Ah ii)++Ah lT)++DN mx)++Ah lD)++Ah tD)++Ah kl.length)++Gx kl r=_
  rw[Dh,Dh,Dh,MG,Dh,Dh,Ss,Dh,Ss,Dh,Dh,Ss]
  rfl
 |i+1,h=>by
  rw[<-Zg id fi ok oi ik ii lT mx lD tD kl r i Ac,LV (i:=i) h]
  show((Gf id fi ok oi ik ii lT mx lD tD kl i++Ah (kl.getD i kz).1.toNat)++Ah (kl.getD i kz).2.1.toNat)++DN (kl.getD i kz).2.2++Gx (kl.drop (i+1)) r=_
  rw[MG,Dh,Dh]
theorem Oc (id:Ad) (fi:Bool) (ok:Ad) (oi:Nat) (ik:Ad) (ii lT:Nat) (mx:AZ) (lD tD:Nat) (kl:List KR):FJ id fi ok oi ik ii lT mx lD tD kl=MB id fi false ok oi ik ii lT mx lD tD kl []:=by
 unfold FJ;rw[Ab];rw[<-Zg id fi ok oi ik ii lT mx lD tD kl [] kl.length (an _),MH (an _),ez]<;>rfl
theorem KRd.KOk {ii:Nat} {kl:List KR} (h:KRd ii kl) (hi:ii<=100000000000):KOk kl:=by
 refine⟨by have :=h.n;omega,λj hj=> ?_⟩
 have hk:=h.k j hj
 refine⟨by omega,by omega,by omega,λk hkm=> ?_⟩
 obtain⟨x,hx,rfl⟩:=List.getElem_of_mem hkm
 have :(List.getD (α:=Ad) _ x ([]:Ad)).length=32:=hk.2.2.2 x hx
 rw[al,am hx]at this
 exact this
theorem dW {l:AZ} (h:∀j,j<l.length->(l.getD j AW).length=32) (j:Nat):(l.getD j AW).length<=32:=KP h j
section
variable (id:Ad) (fi:Bool) (ok:Ad) (oi:Nat) (ik:Ad) (ii lT:Nat) (mx:AZ) (lD tD:Nat) (kl:List KR)
theorem i8 (hr:(MB id fi false ok oi ik ii lT mx lD tD kl []).length<=100000000000000) (hid:id.length=32) (hok:ok.length=32) (hik:ik.length=32) (hoi:oi<=100000000000) (hii:ii<=100000000000) (hn1:oi<=2147483648/\ii<=2147483648/\lT<=2147483648) (hn2:lD<=2147483648/\tD<=2147483648) (hmx:1<=mx.length/\mx.length<=60000) (hm32:∀j,j<mx.length->(mx.getD j AW).length=32) (hlo:lT<=lD/\lD<=lT+mx.length-1/\lT<=A6 fi lT mx.length tD) (hkr:KRd ii kl):AP 59 ⟨[lb (MB id fi false ok oi ik ii lT mx lD tD kl []),.fn 60 (Jg [.cp 0 0]) (Jg [])],[(0,U5 false false)],vi 0,[(0,Ga id fi false 3 4 lT mx lD tD kl),(3,Ag ok oi),(4,Ag ik ii)]⟩:=by
 refine Du rfl (nb:=1) func59 rfl rfl ntmps59 rfl rfl rfl λg0 w0 ac gs ws Y V=> ?_
 have V:=V.sp
 have hrk:Er []=true:=(by unfold Er;rw[Ab];rfl)
 refine Aj [] 2 V λV=>Ar ?_
 have V:=V.rv [(0,lb (MB id fi false ok oi ik ii lT mx lD tD kl [])),(1,.fn 60 (Jg [.cp 0 0]) (Jg [])),(4,.cp 1 0)] [(0,some (U5 false false)),(1,some (Da))]
 refine FM rfl V (cs:=[.cp 1 0]) rfl rfl rfl λD vds ac hD hcv hB V=> ?_
 have V:=V.sp
 refine Ae (Ay [(1,AA (G5 (MB id fi false ok oi ik ii lT mx lD tD kl []) Ax) [] [(0,2)])] [] 3 V λV=>Ar (Aj [] 3 V λV=>AG V (Aw [(2,AA (bT id fi ok oi ik ii lT mx lD tD kl ([]:Ad) A_ (by first |assumption|omega) Ax Ax Ac Ac Ac Ac (by first |assumption|omega) A_ (by first |assumption|omega) A_) [(0,0),(1,2)] [(2,3),(3,4)])] [] 5 V λV=>Ae (Ay [(1,AA (It ([]:Ad) hrk) [(0,2)] [])] [] 5 V λV=>Aj [] 5 V λV=>AY ?_))))
 have V:=V.rv [(4,.cp 1 0)] [(0,some (Ga id fi false 3 4 lT mx lD tD kl)),(1,some (Da)),(3,some (Ag ok oi)),(4,some (Ag ik ii))]
 exact Mm (.inr rfl) V hD (DT ⟨88,(Lr),[(0,1)],[]⟩ [(1,some (Da)),(0,some (Ga id fi false 3 4 lT mx lD tD kl)),(1,some (Da)),(3,some (Ag ok oi)),(4,some (Ag ik ii))] hB V hcv (show FrameMode.returning≠ .run from nofun) rfl rfl rfl (Kh) rfl ⟨rfl,aa⟩ rfl (ds:=[vi 0]) (by kernel_rfl) rfl ⟨rfl,rfl,rfl,aa⟩)
theorem Zj (hr:(FJ id fi ok oi ik ii lT mx lD tD kl).length<=100000000000000) (hid:id.length=32) (hok:ok.length=32) (hik:ik.length=32) (hoi:oi<=100000000000) (hii:ii<=100000000000) (hn1:oi<=2147483648/\ii<=2147483648/\lT<=2147483648) (hn2:lD<=2147483648/\tD<=2147483648) (hmx:1<=mx.length/\mx.length<=60000) (hm32:∀j,j<mx.length->(mx.getD j AW).length=32) (hlo:lT<=lD/\lD<=lT+mx.length-1/\lT<=A6 fi lT mx.length tD) (hkr:KRd ii kl):AP 29 ⟨[lb (FJ id fi ok oi ik ii lT mx lD tD kl)],[],.tu (Jg [.cp 0 0,vi 0]),[(0,Ga id fi false 1 2 lT mx lD tD kl),(1,Ag ok oi),(2,Ag ik ii)]⟩:=by
 refine cy 0 func29 rfl ntmps29 λY V=> ?_
 have hq1:(FJ id fi ok oi ik ii lT mx lD tD kl)=(MB id fi false ok oi ik ii lT mx lD tD kl []):=(Oc ..)
 refine Ar ?_
 have hr2:(MB id fi false ok oi ik ii lT mx lD tD kl []).length<=100000000000000:=by rw[<-Oc];exact hr
 have hKK:=hkr.KOk hii
 have hmm:=dW hm32
 have hm1:1<=mx.length/\mx.length<=100000:=⟨hmx.1,by omega⟩
 refine Dl [] 0 V λV=>CQ ?_
 have V:=V.cl 0 (lb (MB id fi false ok oi ik ii lT mx lD tD kl [])) (lb (FJ id fi ok oi ik ii lT mx lD tD kl)) (by rw[Oc]<;>rfl)
 refine Dl [] 1 V λV=>CQ (Ay [(3,AA (i8 id fi ok oi ik ii lT mx lD tD kl A_ (by first |assumption|omega) Ax Ax Ac Ac Ac Ac (by first |assumption|omega) A_ (by first |assumption|omega) A_) [(0,0)] [(3,1),(4,2)]),(7,AA (Qu id fi ok oi ik ii lT mx lD tD kl Ax Ax Ac Ac GG (by first |assumption|(intro j;simp<;>omega)) Ac A_ Ac Ac Ax) [(0,0),(1,1),(2,2)] []),(9,AS (Ew (FJ id fi ok oi ik ii lT mx lD tD kl) (MB id fi false ok oi ik ii lT mx lD tD kl [])))] [] 3 V λV=>IH ((FJ id fi ok oi ik ii lT mx lD tD kl)=(MB id fi false ok oi ik ii lT mx lD tD kl [])) V (λh1=> ?_) (λh1=> ?_))
 ·exact absurd hq1 h1
 ·exact Cb (Aj [] 3 V λV=>AY (BW V))
end
def Xg (k:Int) (x6:Nat):Ad->Ad:=λx5=>x5.set x6 (IntKind.wrap .u8 ((AK (A9 .i64 (A9 .i64 (BN .i64 (x6:Int) (x6:Int)) (BN .i64 k 7)) 1) 251:Nat):Int))
section
variable (n:Nat) (k:Int)
def RY (n:Nat) (k:Int):Nat->Ad
 |0=>replicate (max n 0) (0:Int)
 |x6+1=>Xg k x6 (RY n k x6)
def Ak:Ad:=AV (RY n k (max n 0))
def AcY (z_:Ad:=Ak n k):Con:=⟨[vi (n:Int),vi k],[],.sk 0,[(0,.sl 5 Bg z_)]⟩
theorem Aa9 (hn:n<=100000):AP 58 (AcY n k):=by
 refine cy 0 func58 rfl ntmps58 λY V=>Aj [] 0 V λV=>Ay [(1,Q1 n 0),(2,fD (max n 0) 1)] [] 1 V λV=>Ar (Aj [] 1 V λV=>BC (AC (ι:=Nat×Ad) Y V (λ(x6,x5)=>(max n 0-x6,[(6,vi ((x6:Nat):Int))],[(0,.sl 5 Bg x5)],(x6<=max n 0)/\(x5=RY n k x6)/\(x5.length=max n 0)/\True)) [1,4,5] [] 1 (0,replicate (max n 0) (0:Int)) [(0,0)] ⟨Ac,rfl,(az ..),aa⟩ ?_))
 rintro⟨x6,x5⟩ ac gs ws ⟨hx6,hq1,p1,_⟩ V
 refine Ar (Ay [(2,Ly ((max n 0:Nat):Int) [((x5.length:Nat):Int)=((max n 0:Nat):Int)] ⟨Ac,aa⟩)] [] 1 V λV=>AJ ((x6:Int)<((max n 0:Nat):Int)) V (λh1=> ?_) (λh1=> ?_))
 ·exact B3 (Aw [(4,Ly (BN .i64 (x6:Int) (x6:Int)) [BN .i64 (x6:Int) (x6:Int)=BN .i64 (x6:Int) (x6:Int)] ⟨rfl,aa⟩),(6,Ly (BN .i64 k 7) [BN .i64 k 7=BN .i64 k 7] ⟨rfl,aa⟩),(7,Ly (A9 .i64 (BN .i64 (x6:Int) (x6:Int)) (BN .i64 k 7)) [A9 .i64 (BN .i64 (x6:Int) (x6:Int)) (BN .i64 k 7)=A9 .i64 (BN .i64 (x6:Int) (x6:Int)) (BN .i64 k 7)] ⟨rfl,aa⟩),(8,Ly (A9 .i64 (A9 .i64 (BN .i64 (x6:Int) (x6:Int)) (BN .i64 k 7)) 1) [A9 .i64 (A9 .i64 (BN .i64 (x6:Int) (x6:Int)) (BN .i64 k 7)) 1=A9 .i64 (A9 .i64 (BN .i64 (x6:Int) (x6:Int)) (BN .i64 k 7)) 1] ⟨rfl,aa⟩),(9,AS (A1 (A9 .i64 (A9 .i64 (BN .i64 (x6:Int) (x6:Int)) (BN .i64 k 7)) 1) 251 Ac)),(11,AH x6 x5.length)] [] 1 V λV=>Ck (Aw [(1,Cu x6)] [6] 1 V λV=>Ae (As Y V (x6+1,x5.set x6 (IntKind.wrap .u8 ((AK (A9 .i64 (A9 .i64 (BN .i64 (x6:Int) (x6:Int)) (BN .i64 k 7)) 1) 251:Nat):Int))) [(0,0)] ⟨Ac,(Bm (st:=Xg _) hq1 rfl rfl),(by rw[da];exact p1),aa⟩)))
 ·have hT:=V
  obtain rfl:max n 0=x6:=by omega
  obtain rfl:=hq1.symm
  have V:=hT
  exact Dw (Aj [] 1 V λV=>AY (BV (Ab _) V))
theorem IB (hn:n<=100000):AP 58 ⟨[vi (n:Int),vi k],[],lb (Ak n k),[]⟩:=ConOk.frz [] 0 5 Bg (Ak n k) (Aa9 n k hn) (by kernel_rfl)
theorem pU (n:Nat) (k:Int):∀j,(RY n k j).length=max n 0/\By (RY n k j)
 |0=>⟨az ..,λx hx=>by rw[(List.mem_replicate.1 hx).2];decide⟩
 |j+1=>by
  obtain⟨h1,h2⟩:=pU n k j
  refine⟨(da ..).trans h1,λx hx=> ?_⟩
  rcases List.mem_or_eq_of_mem_set hx with h|h
  ·exact h2 x h
  ·rw[h];exact f5 _
theorem IK:(Ak n k).length=n/\By (Ak n k):=by
 unfold Ak;rw[Ab]
 have h:=pU n k (max n 0)
 exact⟨h.1.trans (Nat.max_eq_left (bw _)),h.2⟩
end
theorem Sw {id : Ad} (fi : Bool) {ok : Ad} {oi : Nat} {ik : Ad} {ii lT : Nat} {mx : AZ} {lD tD : Nat} {kl : List KR} (hid : id.length = 32) (hok : ok.length = 32) (hik : ik.length = 32) (h1 : oi <= 100000000000 /\ ii <= 100000000000 /\ lT <= 100000000000 /\ lD <= 100000000000 /\ tD <= 100000000000) (hm1 : mx.length <= 100000) (hm2 : ∀ j, (mx.getD j AW).length <= 32) (hK : KOk kl) :
  (FJ id fi ok oi ik ii lT mx lD tD kl).length<=100000000000000:=by
 have key:∀i,i<=kl.length->(Gf id fi ok oi ik ii lT mx lD tD kl i).length<=5000000+i*5000000:=by
  intro i
  induction i with
  |zero=>
   intro _
   have hf1:=FL fi
   have hf2:=FL false
   have a1:=Aq (n:=AR fi) Ac
   have a2:=Aq (n:=AR false) Ac
   have a3:=Aq (n:=oi) Ac
   have a4:=Aq (n:=ii) Ac
   have a5:=Aq (n:=lT) Ac
   have a6:=Aq (n:=lD) Ac
   have a7:=Aq (n:=tD) Ac
   have hk:=hK.1
   have a8:=Aq (n:=kl.length) Ac
   have a9:=Iw hm1 hm2
   show((((((((((([]++id)++Ah (AR fi))++Ah (AR false))++ok)++Ah oi)++ik)++Ah ii)++Ah lT)++DN mx)++Ah lD)++Ah tD++Ah kl.length:Ad).length<=_
   simp only[ab,au]
   omega
  |succ i ih=>
   intro h
   have ih:=ih Ac
   have hk:(0<=(kl.getD i kz).1/\(kl.getD i kz).1<=1000000000000)/\(0<=(kl.getD i kz).2.1/\(kl.getD i kz).2.1<=1000000000000)/\(kl.getD i kz).2.2.length<=100000/\∀k∈(kl.getD i kz).2.2,k.length=32:=hK.2 i Ac
   have b1:=Aq (n:=(kl.getD i kz).1.toNat) Ac
   have b2:=Aq (n:=(kl.getD i kz).2.1.toNat) Ac
   have b3:=Iw hk.2.2.1 (Uf hk.2.2.2)
   show(((Gf id fi ok oi ik ii lT mx lD tD kl i++Ah (kl.getD i kz).1.toNat)++Ah (kl.getD i kz).2.1.toNat)++DN (kl.getD i kz).2.2:Ad).length<=_
   simp only[ab]
   rw[eP]
   omega
 unfold FJ;rw[Ab]
 have h:=key kl.length (an _)
 have hk:=hK.1
 show(Gf id fi ok oi ik ii lT mx lD tD kl kl.length).length<=_
 omega
theorem d6 (o:Option Ad) (h:(o.getD []).length<=100000000000000):AP 81 ⟨[.os (.int .u8) o],[],lb (o.getD []),[]⟩:=ConOk.os0 (e:= .int .u8) o (Ee (o.getD []) h)
section
variable (id:Nat)
def QX (bx:CB) (x12:Nat):(List (Int×Int×Int×Ad))->(List (Int×Int×Int×Ad)):=λx2=>if(!(bx.getD x12 Oi).isNone)=true then x2++[((id:Int),(x12:Int),((bx.length:Nat):Int),(bx.getD x12 Oi).getD [])]else x2
def XV (id:Nat) (bx:CB):Nat->(List (Int×Int×Int×Ad))
 |0=>[]
 |x12+1=>QX id bx x12 (XV id bx x12)
def Wb (ln:Nat) (bx:CB):(List (Int×Int×Int×Ad)):=AV (XV id bx bx.length)
def oY (ln:Nat) (bx:CB) (z_:(List (Int×Int×Int×Ad)):=Wb id ln bx):Con:=Cq [.cp 0 0] [(0,AT id ln bx)] (.ls false Pl z_)
theorem jT (ln:Nat) (bx:CB) (hb:bx.length=2) (hd:∀j,((List.getD (α:=Option Ad) bx j none).getD []).length<=1000):AP 87 (oY id ln bx):=by
 refine cy 1 func87 rfl ntmps87 λY V=>C9 [] 1 V λV=>Ar (C9 [] 1 V λV=>Ai V (DG (C9 [10] 1 V λV=>BC ?_)))
 obtain⟨gs,V⟩:=V.nilk 2 133 Pl
 refine AC (ι:=Nat×(List (Int×Int×Int×Ad))) Y V (λ(x12,x2)=>(bx.length-x12,[(12,vi ((x12:Nat):Int))],[(1,.sl 133 Pl x2)],(x12<=bx.length)/\(x2=XV id bx x12)/\(x2.length<=x12)/\True)) [0,2,10,11] [0] 2 (0,[]) [(0,0),(1,1)] ⟨Ac,rfl,(by simp),aa⟩ ?_
 rintro⟨x12,x2⟩ ac gs ws ⟨hx12,hq1,p1,_⟩ V
 refine C9 [] 2 V λV=>Ar (AJ ((x12:Int)<((bx.length:Nat):Int)) V (λh1=> ?_) (λh1=> ?_))
 ·refine B3 (D8 [(1,AH x12 bx.length)] [] 2 V λV=>C9 [] 2 V λV=>Sd (!(bx.getD x12 Oi).isNone) V (λh2=> ?_) (λh2=> ?_))
  ·have hdx:((bx.getD x12 Oi).getD []).length<=1000:=hd x12
   exact G0 [(12,AS (d6 (bx.getD x12 Oi) Ac)),(15,Gt x2.length 1 48)] [2] 3 V λV=>Ck (G0 [(0,Cu x12)] [12] 3 V λV=>Ae (As Y V (x12+1,x2++[((id:Int),(x12:Int),((bx.length:Nat):Int),(bx.getD x12 Oi).getD [])]) [(0,0),(1,2)] ⟨Ac,(Bm (st:=QX _ _) hq1 rfl (Eq.symm (ah h2))),(by first |(rw[ab];simp;omega)|omega),aa⟩))
  ·exact FN (G0 [(0,Cu x12)] [12] 2 V λV=>Ae (As Y V (x12+1,x2) [(0,0),(1,1)] ⟨Ac,(Bm (st:=QX _ _) hq1 rfl (Eq.symm (aj (LQ h2)))),(by first |(rw[ab];simp;omega)|omega),aa⟩))
 ·have hT:=V
  obtain rfl:bx.length=x12:=by omega
  obtain rfl:=hq1.symm
  have V:=hT
  refine Dw (C9 [2] 2 V λV=>AY ?_)
  obtain⟨gs,V⟩:=V.fz 1
  exact BV (Ab _) V
end
theorem AbO (id ln:Nat):Wb id ln B0=[]:=by unfold Wb;rw[Ab];rfl
theorem AbN (id ln:Nat) {pa:Nat} (h:pa<2) (d:Ad):Wb id ln (Bf B0 pa d)=[((id:Int),(pa:Int),((2:Nat):Int),d)]:=by
 unfold Wb;rw[Ab]
 have :pa=0\/pa=1:=by omega
 rcases this with e|e<;>subst e<;>rfl
theorem ZH (id ln:Nat):AP 87 ⟨[.cp 0 0],[(0,AT id ln B0)],.ls false Pl [],[(0,AT id ln B0)]⟩:=by
 have h:=jT id ln B0 rfl (λj=>by
  match j with
  |0|1=>exact(bw _)
  |_+2=>exact(bw _))
 unfold oY at h
 rw[AbO]at h
 exact h
theorem ZG (id ln pa:Nat) (d:Ad) (hpa:pa<2) (hd:d.length<=1000):AP 87 ⟨[.cp 0 0],[(0,AT id ln (Bf B0 pa d))],.ls false Pl [((id:Int),(pa:Int),((2:Nat):Int),d)],[(0,AT id ln (Bf B0 pa d))]⟩:=by
 have h:=jT id ln (Bf B0 pa d) (by rw[EO];rfl) (λj=>by
  rcases(by omega:pa=0\/pa=1)with e|e<;>subst e<;>(
  match j with
  |0|1=>first |exact hd|exact(bw _)
  |_+2=>exact(bw _)))
 unfold oY at h
 rw[AbN _ _ hpa]at h
 exact h
theorem wQ:(DN ([]:AZ)).length<=10:=by
 have :=Aq (n:=0) Ac
 show(Ah 0++[]).length<=10
 rw[ez];exact this
theorem Ab0 {x:Ad} (h:x.length<=1040):(DN ([]++[x])).length<=1070:=by
 have h1:=Aq (n:=1) Ac
 have h2:=Aq (n:=x.length) Ac
 show(Ah 1++((Ah x.length++x)++[])).length<=1070
 simp only[ab,au];omega
theorem MN {x:Ad} (h:x.length<=1040) (j:Nat):(([]++[x]:AZ).getD j []).length<=10000:=by
 match j with
 |0=>exact ca h (by decide)
 |j+1=>exact bw _
theorem KO (j:Nat):(([]:AZ).getD j []).length<=10000:=bw _
section
variable (st ep aD:Nat) (sd tx:Ad)
def XZ (id ln:Nat) (b:Ad):CB×Ad:=AV (if(st:Int)=1 then(B0,(((((((((b++Ah 1000)++Ah st)++Ah ep)++Ah aD)++Ah sd.length)++sd)++Ah ([]:Ad).length)++([]:Ad))++DN ([]:AZ))++DN ([]:AZ))else(B0,(((((((((b++Ah 1000)++Ah st)++Ah ep)++Ah aD)++Ah sd.length)++sd)++Ah tx.length)++tx)++DN ([]:AZ))++DN ([]:AZ)))
def pD (id ln:Nat) (b:Ad) (z_:CB×Ad:=XZ st ep aD sd tx id ln b):Con:=⟨[.cp 0 0,.cp 2 0],[(0,AL st ep aD sd tx 1),(1,AT id ln B0),(2,Pf 3),(3,.sl 5 Bg b)],.tu (Jg []),[(0,AL st ep aD sd tx 1),(1,AT id ln (z_.1)),(2,Pf 4),(4,.sl 5 Bg (z_.2))]⟩
theorem s6 (id ln:Nat) (b:Ad) (hb:b.length<=10000000000) (hsd:sd.length<=64/\tx.length<=2000) (hn:st<=1000000000/\ep<=1000000000/\aD<=1000000000/\id<=1000000000):AP 57 (pD st ep aD sd tx id ln b):=by
 refine cy 4 func57 rfl ntmps57 λY V=>Ar ?_
 have h10:=Aq (n:=1000) Ac
 have h11:=Aq (n:=st) Ac
 have h12:=Aq (n:=ep) Ac
 have h13:=Aq (n:=aD) Ac
 have h14:=Aq (n:=sd.length) Ac
 have h15:=Aq (n:=tx.length) Ac
 have h17:=Aq (n:=0) (by decide)
 have hl0:=wQ
 have he0:=KO
 refine Aw [(6,AA (BP b 1000 Ax Ac) [(0,2),(1,3)] [(2,4)]),(11,JZ st),(12,AA (BP (b++Ah 1000) st Ax Ac) [(0,2),(1,4)] [(2,5)]),(17,JZ ep),(18,AA (BP ((b++Ah 1000)++Ah st) ep Ax Ac) [(0,2),(1,5)] [(2,6)]),(23,JZ aD),(24,AA (BP (((b++Ah 1000)++Ah st)++Ah ep) aD Ax Ac) [(0,2),(1,6)] [(2,7)]),(29,AA (Dq ((((b++Ah 1000)++Ah st)++Ah ep)++Ah aD) sd Ax Ax) [(0,2),(1,7)] [(2,8)])] [] 9 V λV=>Ae (Aj [] 9 V λV=>Ar (Aj [] 9 V λV=>AJ ((st:Int)=1) V (λh1=> ?_) (λh1=> ?_)))
 ·refine Dl [] 9 V λV=>Ae (Aj [] 9 V λV=>Ar (Ay [(4,AA (ZH id ln) [(0,1)] [])] [53] 9 V λV=>BC (wp_loop_rounds 2 ?_)))
  refine Bc (n:=1) (Aj [] 9 V λV=>Ar (Ai V (Dw (Aw [(2,AA (Dq ((((((b++Ah 1000)++Ah st)++Ah ep)++Ah aD)++Ah sd.length)++sd) ([]:Ad) Ax Ax) [(0,2),(1,8)] [(2,9)]),(4,AA (EJ ((((((((b++Ah 1000)++Ah st)++Ah ep)++Ah aD)++Ah sd.length)++sd)++Ah ([]:Ad).length)++([]:Ad)) ([]:AZ) Ax Ax (by first |assumption|exact λj=>ca (hm2 j) (by decide)|exact Hf hkr.2.2.2)) [(0,2),(1,9)] [(2,10)]),(9,AA (EJ (((((((((b++Ah 1000)++Ah st)++Ah ep)++Ah aD)++Ah sd.length)++sd)++Ah ([]:Ad).length)++([]:Ad))++DN ([]:AZ)) ([]:AZ) Ax Ax (by first |assumption|exact λj=>ca (hm2 j) (by decide)|exact Hf hkr.2.2.2)) [(0,2),(1,10)] [(2,11)])] [] 12 V λV=> ?_))))
  obtain⟨gs,V⟩:=V.rx [(0,0),(1,1),(2,2),(3,3),(4,11)] [] [0,1,2,4] 5 Y
  exact l8 (.trans (Ab _) (ah h1)) V
 ·refine Cb (Aj [] 9 V λV=>Ar (Ay [(4,AA (ZH id ln) [(0,1)] [])] [53] 9 V λV=>BC (wp_loop_rounds 2 ?_)))
  refine Bc (n:=1) (Aj [] 9 V λV=>Ar (Ai V (Dw (Aw [(2,AA (Dq ((((((b++Ah 1000)++Ah st)++Ah ep)++Ah aD)++Ah sd.length)++sd) tx Ax Ax) [(0,2),(1,8)] [(2,9)]),(4,AA (EJ ((((((((b++Ah 1000)++Ah st)++Ah ep)++Ah aD)++Ah sd.length)++sd)++Ah tx.length)++tx) ([]:AZ) Ax Ax (by first |assumption|exact λj=>ca (hm2 j) (by decide)|exact Hf hkr.2.2.2)) [(0,2),(1,9)] [(2,10)]),(9,AA (EJ (((((((((b++Ah 1000)++Ah st)++Ah ep)++Ah aD)++Ah sd.length)++sd)++Ah tx.length)++tx)++DN ([]:AZ)) ([]:AZ) Ax Ax (by first |assumption|exact λj=>ca (hm2 j) (by decide)|exact Hf hkr.2.2.2)) [(0,2),(1,10)] [(2,11)])] [] 12 V λV=> ?_))))
  obtain⟨gs,V⟩:=V.rx [(0,0),(1,1),(2,2),(3,3),(4,11)] [] [0,1,2,4] 5 Y
  exact l8 (.trans (Ab _) (aj h1)) V
def XY (id ln pa:Nat) (d b:Ad):CB×Ad:=AV (if(st:Int)=1 then(Bf B0 pa d,(((((((((b++Ah 1000)++Ah st)++Ah ep)++Ah aD)++Ah sd.length)++sd)++Ah ([]:Ad).length)++([]:Ad))++DN ([]++[B7 id pa 2 d]))++DN ([]:AZ))else(Bf B0 pa d,(((((((((b++Ah 1000)++Ah st)++Ah ep)++Ah aD)++Ah sd.length)++sd)++Ah tx.length)++tx)++DN ([]++[B7 id pa 2 d]))++DN ([]:AZ)))
def pC (id ln pa:Nat) (d b:Ad) (z_:CB×Ad:=XY st ep aD sd tx id ln pa d b):Con:=⟨[.cp 0 0,.cp 2 0],[(0,AL st ep aD sd tx 1),(1,AT id ln (Bf B0 pa d)),(2,Pf 3),(3,.sl 5 Bg b)],.tu (Jg []),[(0,AL st ep aD sd tx 1),(1,AT id ln (z_.1)),(2,Pf 4),(4,.sl 5 Bg (z_.2))]⟩
theorem s5 (id ln pa:Nat) (d b:Ad) (hb:b.length<=10000000000) (hsd:sd.length<=64/\tx.length<=2000) (hn:st<=1000000000/\ep<=1000000000/\aD<=1000000000/\id<=1000000000) (hpa:pa<2) (hd:1<=d.length/\d.length<=1000):AP 57 (pC st ep aD sd tx id ln pa d b):=by
 refine cy 4 func57 rfl ntmps57 λY V=>Ar ?_
 have h10:=Aq (n:=1000) Ac
 have h11:=Aq (n:=st) Ac
 have h12:=Aq (n:=ep) Ac
 have h13:=Aq (n:=aD) Ac
 have h14:=Aq (n:=sd.length) Ac
 have h15:=Aq (n:=tx.length) Ac
 have h17:=Aq (n:=0) (by decide)
 have he0:=KO
 have hec:=HB (id:=id) (ai:=pa) (ct:=2) (d:=d) ⟨by omega,by omega,by omega⟩ hd.2
 have hl1:=Ab0 hec
 have he1:=MN hec
 refine Aw [(6,AA (BP b 1000 Ax Ac) [(0,2),(1,3)] [(2,4)]),(11,JZ st),(12,AA (BP (b++Ah 1000) st Ax Ac) [(0,2),(1,4)] [(2,5)]),(17,JZ ep),(18,AA (BP ((b++Ah 1000)++Ah st) ep Ax Ac) [(0,2),(1,5)] [(2,6)]),(23,JZ aD),(24,AA (BP (((b++Ah 1000)++Ah st)++Ah ep) aD Ax Ac) [(0,2),(1,6)] [(2,7)]),(29,AA (Dq ((((b++Ah 1000)++Ah st)++Ah ep)++Ah aD) sd Ax Ax) [(0,2),(1,7)] [(2,8)])] [] 9 V λV=>Ae (Aj [] 9 V λV=>Ar (Aj [] 9 V λV=>AJ ((st:Int)=1) V (λh1=> ?_) (λh1=> ?_)))
 ·refine Dl [] 9 V λV=>Ae (Aj [] 9 V λV=>Ar (Ay [(4,AA (ZG id ln pa d Ac Ax) [(0,1)] [])] [53] 9 V λV=>BC (wp_loop_rounds 2 ?_)))
  refine Bc (n:=1) (Aj [] 9 V λV=>Ar (AG V (B3 (Ay [(0,AH 0 1)] [7,57,58] 10 V λV=>Ay [(1,AS (GJ id pa 2 d Ac Ac))] [59,60,61,62,63] 10 V λV=>Aw [(3,Gt 0 1 24)] [5,64,65,66,67] 11 V λV=>Ck (Dl [55,68] 11 V λV=>Ae ?_)))))
  refine Bc (n:=0) (Aj [] 11 V λV=>Ar (Ai V (Dw ?_)))
  obtain⟨gs,V⟩:=V.fz 10
  refine Aw [(2,AA (Dq ((((((b++Ah 1000)++Ah st)++Ah ep)++Ah aD)++Ah sd.length)++sd) ([]:Ad) Ax Ax) [(0,2),(1,8)] [(2,11)]),(4,AA (EJ ((((((((b++Ah 1000)++Ah st)++Ah ep)++Ah aD)++Ah sd.length)++sd)++Ah ([]:Ad).length)++([]:Ad)) ([]++[B7 id pa 2 d]) Ax Ax (by first |assumption|exact λj=>ca (hm2 j) (by decide)|exact Hf hkr.2.2.2)) [(0,2),(1,11)] [(2,12)]),(9,AA (EJ (((((((((b++Ah 1000)++Ah st)++Ah ep)++Ah aD)++Ah sd.length)++sd)++Ah ([]:Ad).length)++([]:Ad))++DN ([]++[B7 id pa 2 d])) ([]:AZ) Ax Ax (by first |assumption|exact λj=>ca (hm2 j) (by decide)|exact Hf hkr.2.2.2)) [(0,2),(1,12)] [(2,13)])] [0,1,4,5,7,8,9,39,48,53,54,55,56,57,58,59,60,61,62,63,64,65,66,67,68,78] 14 V λV=> ?_
  obtain⟨gs,V⟩:=V.rx [(0,0),(1,1),(2,2),(3,3),(4,13)] [] [0,1,2,4] 5 Y
  exact l8 (.trans (Ab _) (ah h1)) V
 ·refine Cb (Aj [] 9 V λV=>Ar (Ay [(4,AA (ZG id ln pa d Ac Ax) [(0,1)] [])] [53] 9 V λV=>BC (wp_loop_rounds 2 ?_)))
  refine Bc (n:=1) (Aj [] 9 V λV=>Ar (AG V (B3 (Ay [(0,AH 0 1)] [7,57,58] 10 V λV=>Ay [(1,AS (GJ id pa 2 d Ac Ac))] [59,60,61,62,63] 10 V λV=>Aw [(3,Gt 0 1 24)] [5,64,65,66,67] 11 V λV=>Ck (Dl [55,68] 11 V λV=>Ae ?_)))))
  refine Bc (n:=0) (Aj [] 11 V λV=>Ar (Ai V (Dw ?_)))
  obtain⟨gs,V⟩:=V.fz 10
  refine Aw [(2,AA (Dq ((((((b++Ah 1000)++Ah st)++Ah ep)++Ah aD)++Ah sd.length)++sd) tx Ax Ax) [(0,2),(1,8)] [(2,11)]),(4,AA (EJ ((((((((b++Ah 1000)++Ah st)++Ah ep)++Ah aD)++Ah sd.length)++sd)++Ah tx.length)++tx) ([]++[B7 id pa 2 d]) Ax Ax (by first |assumption|exact λj=>ca (hm2 j) (by decide)|exact Hf hkr.2.2.2)) [(0,2),(1,11)] [(2,12)]),(9,AA (EJ (((((((((b++Ah 1000)++Ah st)++Ah ep)++Ah aD)++Ah sd.length)++sd)++Ah tx.length)++tx)++DN ([]++[B7 id pa 2 d])) ([]:AZ) Ax Ax (by first |assumption|exact λj=>ca (hm2 j) (by decide)|exact Hf hkr.2.2.2)) [(0,2),(1,12)] [(2,13)])] [0,1,4,5,7,8,9,39,48,53,54,55,56,57,58,59,60,61,62,63,64,65,66,67,68,78] 14 V λV=> ?_
  obtain⟨gs,V⟩:=V.rx [(0,0),(1,1),(2,2),(3,3),(4,13)] [] [0,1,2,4] 5 Y
  exact l8 (.trans (Ab _) (aj h1)) V
end
theorem Cg (n:Nat) (r:Ad) (h:(Bb n r).length<=100000000000000) (hn:n<=1073741824):AP 132 ⟨[.cp 0 0],[(0,C8 (Bb n r))],vi (n:Int),[(0,C8 r)]⟩:=by
 refine cy 1 func132 rfl ntmps132 λY V=> ?_
 have hf:¬(1073741824:Int)<(n:Int):=Ac
 exact Aj [] 1 V λV=>Ay [(1,AA (sM n r (by first |assumption|omega) Ac) [(0,0)] [])] [] 1 V λV=>Ar (Ay [(1,Do hf)] [] 1 V λV=>Ai V (Cb (Ay [(1,MP n)] [] 1 V λV=>AY (BW V))))
theorem ES (cn m:Nat) (r:Ad) (h:(Cc [] r).length<=100000000000000) (hc:cn<=100000000000) (hm:m<=100000000000000):AP 127 ⟨[.cp 0 0,vi (cn:Int),vi (m:Int)],[(0,C8 (Cc [] r))],.v (.slice none 0 0),[(0,C8 r)]⟩:=by
 refine cy 1 func127 rfl ntmps127 λY V=>Aj [] 1 V λV=>Ar (Ay [(1,Vj false [(decide ((m:Int)<0))=false] ⟨decide_eq_false Ac,aa⟩)] [] 1 V λV=>Ai V (DG (Ar ?_)))
 have V:=V.ch 0 (C8 (Bb 0 r)) (C8 (Cc [] r)) rfl
 refine Aw [(2,AA (SD cn 0 r (by first |assumption|omega) Ac Ac) [(0,0)] [])] [] 1 V λV=>Ae (BC (wp_loop_rounds 1 ?_))
 exact Bc (n:=0) (Ar (Aj [] 1 V λV=>Ai V (Dw (Aj [6] 1 V λV=>AY (BW V)))))
section
variable (st ep aD:Nat) (sd tx:Ad) (id ln:Nat) (bx:CB) (e2:Nat)
theorem Yr (hst:st=1) (he2:e2<=500000000):AP 114 ⟨[.cp 0 0,vi (e2:Int)],[(0,AL st ep aD sd tx 1),(1,Dg id ln 2),(2,.sl 22 Bq bx)],.cp 3 0,[(0,AL st ep aD sd tx 1),(1,Dg id ln 2),(2,.sl 22 Bq bx),(3,fI ((2*e2)+1) 4),(4,.sl 22 Bq (replicate 2 none))]⟩:=by
 refine cy 3 func114 rfl ntmps114 λY V=> ?_
 have hs1:(st:Int)=1:=Ac
 exact C9 [] 3 V λV=>D8 [(1,IC 2 e2 (2*e2))] [] 3 V λV=>Ar (D8 [(4,Gv hs1)] [] 3 V λV=>AG V (G0 [(1,IC 2 e2 (2*e2)),(2,FW (2*e2) 1 ((2*e2)+1))] [] 3 V λV=>Ae (D8 [(12,Pe ((1000:Int)≠0)),(18,AA (JM ((2*e2)+1) 2 1000 1088 Ac Ac) [] [(0,3),(1,4)])] [] 5 V λV=>C9 [] 5 V λV=>AY (BW V))))
theorem Mh (hst:st=1) (he2:e2<=500000000):AP 77 ⟨[.cp 0 0,vi (e2:Int)],[(0,AL st ep aD sd tx 1),(1,Dg id ln 2),(2,.sl 22 Bq bx)],.cp 0 0,[(0,Abj st e2 3),(1,Dg id ln 2),(2,.sl 22 Bq bx),(3,fI ((2*e2)+1) 4),(4,.sl 22 Bq (replicate 2 none))]⟩:=by
 exact cy 3 func77 rfl ntmps77 λY V=>C9 [] 3 V λV=>D8 [(8,AA (Yr st ep aD sd tx id ln bx e2 Ac Ac) [(0,0),(1,1),(2,2)] [(3,3),(4,4)])] [] 5 V λV=>C9 [] 5 V λV=>AY (BW V)
theorem Yq (hst:st=2\/st=3) (he2:e2<=500000000):AP 114 ⟨[.cp 0 0,vi (e2:Int)],[(0,AL st ep aD sd tx 1),(1,Dg id ln 2),(2,.sl 22 Bq bx)],.cp 3 0,[(0,AL st ep aD sd tx 1),(1,Dg id ln 2),(2,.sl 22 Bq bx),(3,YZ (2*e2) 4),(4,.sl 22 Bq (replicate 2 none))]⟩:=by
 refine cy 3 func114 rfl ntmps114 λY V=> ?_
 have hs1:¬(st:Int)=1:=Ac
 exact C9 [] 3 V λV=>D8 [(1,IC 2 e2 (2*e2))] [] 3 V λV=>Ar (D8 [(4,Do hs1)] [] 3 V λV=>Ai V (Cb (D8 [(12,Pe ((1000:Int)≠0)),(18,AA (JM (2*e2) 2 1000 1184 Ac Ac) [] [(0,3),(1,4)])] [] 5 V λV=>C9 [] 5 V λV=>AY (BW V))))
theorem Mg (hst:st=2\/st=3) (he2:e2<=500000000):AP 77 ⟨[.cp 0 0,vi (e2:Int)],[(0,AL st ep aD sd tx 1),(1,Dg id ln 2),(2,.sl 22 Bq bx)],.cp 0 0,[(0,Abj st e2 3),(1,Dg id ln 2),(2,.sl 22 Bq bx),(3,YZ (2*e2) 4),(4,.sl 22 Bq (replicate 2 none))]⟩:=by
 exact cy 3 func77 rfl ntmps77 λY V=>C9 [] 3 V λV=>D8 [(8,AA (Yq st ep aD sd tx id ln bx e2 Ac Ac) [(0,0),(1,1),(2,2)] [(3,3),(4,4)])] [] 5 V λV=>C9 [] 5 V λV=>AY (BW V)
end
def vY (x0:Nat) (x1:CB):O:= .ob 187 (Jg [vi ((x0:Nat):Int),vi 1000,vi 1184,.ls true Bq x1])
def fG (x0 x1:Nat) (x2 x3:Ad) (x4:Nat):O:= .ob 126 (Jg [vi 1000,vi 1,vi ((x0:Nat):Int),vi ((x1:Nat):Int),lb x2,lb x3,.cp x4 0,.v (.slice none 0 0)])
def Abi (x0:Nat) (x1:CB):O:= .ob 187 (Jg [vi ((x0:Nat):Int),vi 1000,vi 1088,.ls true Bq x1])
theorem Aci {x:Ad} (h:x.length<=1040) (j:Nat):(([x]:AZ).getD j []).length<=2000:=by
 match j with
 |0=>exact ca h (by decide)
 |j+1=>exact bw _
theorem xN {pa:Nat} (h:pa<2):KW B0 pa=0:=by
 have :pa=0\/pa=1:=by omega
 rcases this with e|e<;>subst e<;>rfl
theorem Ace {pa:Nat} (d:Ad) (h:pa<2):Lz B0 pa d:=by
 have :pa=0\/pa=1:=by omega
 rcases this with e|e<;>subst e<;>exact .inl rfl
theorem kW (ep aD:Nat) (r:Ad) (h:(Bb 1000 (Bb 2 (Bb ep (Bb aD (DJ [] (DJ [] (Cc [] (Cc [] r)))))))).length<=100000000000000) (hn:ep<=400000000/\aD<=1000000000):AP 95 ⟨[.cp 0 0],[(0,C8 (Bb 1000 (Bb 2 (Bb ep (Bb aD (DJ [] (DJ [] (Cc [] (Cc [] r)))))))))],.cp 1 0,[(0,C8 r),(1,.ob 126 (Jg [vi 1000,vi 2,vi (ep:Int),vi (aD:Int),lb [],lb [],.cp 2 0,.v (.slice none 0 0)])),(2,vY (2*ep) B0)]⟩:=by
 refine cy 1 func95 rfl ntmps95 λY V=> ?_
 have hx2:¬(536870912:Int)<=(ep:Int):=Ac
 refine C9 [] 1 V λV=>Ar ?_
 have hnil:([]:Ad).length=0:=rfl
 have hfb:KI B0=false:=rfl
 have hB0l:1<=(B0).length/\(B0).length<=10000:=⟨by decide,by decide⟩
 have hw0:=BE h
 have hw1:=BE hw0
 have hw2:=BE hw1
 have hw3:=BE hw2
 have hw4:=Gc hw3
 have hw5:=Gc hw4
 have hw6:=Ji hw5
 refine G0 [(1,AA (Cg 1000 (Bb 2 (Bb ep (Bb aD (DJ [] (DJ [] (Cc [] (Cc [] r))))))) (by first |assumption|omega) Ac) [(0,0)] []),(2,AA (Ju 1000 Ac) [] [(0,1),(1,2),(2,3)])] [] 4 V λV=>CQ (C9 [] 4 V λV=>Ai V (Cb (D8 [(2,AA (Cg 2 (Bb ep (Bb aD (DJ [] (DJ [] (Cc [] (Cc [] r)))))) (by first |assumption|omega) Ac) [(0,0)] [])] [] 4 V λV=>D8 [(1,AA (Cg ep (Bb aD (DJ [] (DJ [] (Cc [] (Cc [] r))))) (by first |assumption|omega) Ac) [(0,0)] []),(3,AA (Cg aD (DJ [] (DJ [] (Cc [] (Cc [] r)))) (by first |assumption|omega) Ac) [(0,0)] [])] [] 4 V λV=>D8 [(1,AA (Es 64 ([]:Ad) (DJ [] (Cc [] (Cc [] r))) (by first |assumption|omega) Ac (by first |assumption|omega)) [(0,0)] []),(3,AA (Es 1088 ([]:Ad) (Cc [] (Cc [] r)) (by first |assumption|omega) Ac (by first |assumption|omega)) [(0,0)] [])] [] 4 V λV=>Ar (D8 [(14,Do hx2)] [] 4 V λV=>Ai V (DG ?_)))))
 have V:=V.wko 1 [.top,.top,.top,.top,lb [],.top,.top,.top]
 have V:=V.wko 1 [.top,.top,.top,.top,.top,lb [],.top,.top]
 refine G0 [(2,AA (Mg 2 0 0 ([]:Ad) ([]:Ad) ((2*0)+1) 1088 (replicate (((1088+1000)-1)/1000) none) ep Ac Ac) [(0,1),(1,2),(2,3)] [(3,4),(4,5)])] [] 6 V λV=>CQ (BC (C9 [] 6 V λV=>Ai V (C9 [] 6 V λV=>Ai V (FN (Ii ?_)))))
 have V:=V.ch 5 (.sl 22 Bq B0) (.sl 22 Bq (replicate 2 none)) rfl
 refine G0 [(1,AA (ES 2000 2000 (Cc [] r) (by first |assumption|omega) Ac Ac) [(0,0)] [])] [107] 6 V λV=>Ae (BC (wp_loop_rounds 1 ?_))
 refine Bc (n:=0) (C9 [] 6 V λV=>Ar (Ai V (JH (D8 [(4,AA (GR (2*ep) 1000 1184 B0 Ax A_) [(0,4),(1,5)] [])] [] 6 V λV=>C9 [] 6 V λV=>Ai V (DG (G0 [(2,AA (ES 2000 32 r (by first |assumption|omega) Ac Ac) [(0,0)] [])] [] 6 V λV=> ?_))))))
 have V:=V.wko 1 [.top,.top,.top,.top,lb [],.top,.top,.top]
 obtain⟨gs,V⟩:=V.fy 5 22 Bq B0 ((show true=true->B0≠[]from(λ_ e=>by have :=dp List.length e;cases this)) rfl)
 refine Ae (C9 [] 6 V λV=>AY ?_)
 obtain⟨gs,V⟩:=V.rx [(0,0),(1,1),(2,4)] [2] [0,1,2] 3 Y
 exact BW V
theorem SX (st ep aD:Nat) (sd tx:Ad) (id ln:Nat) (bx:CB) (s:Ad) (hs:s.length=64):AP 78 ⟨[.cp 0 0,lb s],[(0,AL st ep aD sd tx 1),(1,Dg id ln 2),(2,.sl 22 Bq bx)],.tu (Jg []),[(0,.ob 126 (Jg [vi 1000,vi (st:Int),vi (ep:Int),vi (aD:Int),.ls true Bg s,lb ((AO (s.take 32) (s.drop 32)).1),.cp 1 0,.v (.slice none 0 0)])),(1,Dg id ln 2),(2,.sl 22 Bq bx)]⟩:=by
 exact cy 3 func78 rfl ntmps78 λY V=>D8 [(2,AS (OF s Ax))] [] 3 V λV=>G0 [(2,fE 32 s.length),(4,ON 32 s.length),(5,AA (Ur (s.take 32) (s.drop 32) Ax Ax) [] [(0,3)])] [] 4 V λV=>fQ V
section
variable (ep aD:Nat)
theorem kV (pa:Nat) (d r:Ad) (h:(Bb 1000 (Bb 2 (Bb ep (Bb aD (DJ [] (DJ [] (Cc [B7 (2*ep) pa 2 d] (Cc [] r)))))))).length<=100000000000000) (hn:ep<=400000000/\aD<=1000000000) (hpa:pa<2) (hd:1<=d.length/\d.length<=1000) (hdl:d.length=min 1000 (1184-pa*1000)):AP 95 ⟨[.cp 0 0],[(0,C8 (Bb 1000 (Bb 2 (Bb ep (Bb aD (DJ [] (DJ [] (Cc [B7 (2*ep) pa 2 d] (Cc [] r)))))))))],.cp 1 0,[(0,C8 r),(1,.ob 126 (Jg [vi 1000,vi 2,vi (ep:Int),vi (aD:Int),lb [],lb [],.cp 2 0,.v (.slice none 0 0)])),(2,vY (2*ep) (Bf B0 pa d))]⟩:=by
 refine cy 1 func95 rfl ntmps95 λY V=> ?_
 have hbe:((KW B0 pa:Nat):Int)=0:=(by rw[xN hpa];rfl)
 have hx2:¬(536870912:Int)<=(ep:Int):=Ac
 refine C9 [] 1 V λV=>Ar ?_
 have hnil:([]:Ad).length=0:=rfl
 have hw0:=BE h
 have hw1:=BE hw0
 have hw2:=BE hw1
 have hw3:=BE hw2
 have hw4:=Gc hw3
 have hw5:=Gc hw4
 have hw6:=Ji hw5
 refine G0 [(1,AA (Cg 1000 (Bb 2 (Bb ep (Bb aD (DJ [] (DJ [] (Cc [B7 (2*ep) pa 2 d] (Cc [] r))))))) (by first |assumption|omega) Ac) [(0,0)] []),(2,AA (Ju 1000 Ac) [] [(0,1),(1,2),(2,3)])] [] 4 V λV=>CQ (C9 [] 4 V λV=>Ai V (Cb (D8 [(2,AA (Cg 2 (Bb ep (Bb aD (DJ [] (DJ [] (Cc [B7 (2*ep) pa 2 d] (Cc [] r)))))) (by first |assumption|omega) Ac) [(0,0)] [])] [] 4 V λV=>D8 [(1,AA (Cg ep (Bb aD (DJ [] (DJ [] (Cc [B7 (2*ep) pa 2 d] (Cc [] r))))) (by first |assumption|omega) Ac) [(0,0)] []),(3,AA (Cg aD (DJ [] (DJ [] (Cc [B7 (2*ep) pa 2 d] (Cc [] r)))) (by first |assumption|omega) Ac) [(0,0)] [])] [] 4 V λV=>D8 [(1,AA (Es 64 ([]:Ad) (DJ [] (Cc [B7 (2*ep) pa 2 d] (Cc [] r))) (by first |assumption|omega) Ac (by first |assumption|omega)) [(0,0)] []),(3,AA (Es 1088 ([]:Ad) (Cc [B7 (2*ep) pa 2 d] (Cc [] r)) (by first |assumption|omega) Ac (by first |assumption|omega)) [(0,0)] [])] [] 4 V λV=>Ar (D8 [(14,Do hx2)] [] 4 V λV=>Ai V (DG ?_)))))
 have V:=V.wko 1 [.top,.top,.top,.top,lb [],.top,.top,.top]
 have V:=V.wko 1 [.top,.top,.top,.top,.top,lb [],.top,.top]
 refine G0 [(2,AA (Mg 2 0 0 ([]:Ad) ([]:Ad) ((2*0)+1) 1088 (replicate (((1088+1000)-1)/1000) none) ep Ac Ac) [(0,1),(1,2),(2,3)] [(3,4),(4,5)])] [] 6 V λV=>CQ (BC (C9 [] 6 V λV=>Ai V (C9 [] 6 V λV=>Ai V (FN (Ii ?_)))))
 have V:=V.ch 5 (.sl 22 Bq B0) (.sl 22 Bq (replicate 2 none)) rfl
 have hB0:(B0).length=2:=rfl
 have hpl:(Bf B0 pa d).length=2:=by rw[EO];rfl
 have hfp:=Va d hpa
 have hec:=HB (id:=2*ep) (ai:=pa) (ct:=2) (d:=d) ⟨by omega,by omega,by omega⟩ hd.2
 have he1:=Aci hec
 have hl1:([B7 (2*ep) pa 2 d]:AZ).length=1:=rfl
 refine G0 [(1,AA (QL 2000 2000 [B7 (2*ep) pa 2 d] (Cc [] r) (by first |assumption|omega) (by first |assumption|omega) Ac A_) [(0,0)] [])] [107] 6 V λV=>Ae (BC (wp_loop_rounds 2 ?_))
 refine Bc (n:=1) (C9 [] 6 V λV=>Ar (AG V (B3 (D8 [(0,AH 0 1)] [111,112] 6 V λV=>D8 [(1,AS (UK (2*ep) pa 2 d Ac Ax))] [11,113,114,115,116,117] 7 V λV=>D8 [(8,AA (NX (2*ep) 1000 1184 B0 (2*ep) pa 2 (pa*1000) d Ac Ac rfl rfl Ac Ac Ac hdl (Ace d hpa) ⟨hd.1,by omega⟩) [(0,4),(1,5)] []),(9,Ha hbe)] [118,119,120,121,122,123,124,125,126,127] 7 V λV=>Ai V (FN (g5 [109,130] 7 V λV=>Ae ?_))))))
 refine Bc (n:=0) (C9 [] 7 V λV=>Ar (Ai V (JH (D8 [(4,AA (GR (2*ep) 1000 1184 (Bf B0 pa d) Ax A_) [(0,4),(1,5)] [])] [4,5,6,7,8,10,11,12,13,22,75,87,101,107,108,109,110,111,112,113,114,115,116,117,118,119,120,121,122,123,124,125,126,127,128,130] 7 V λV=>C9 [] 7 V λV=>Ai V (DG (G0 [(2,AA (ES 2000 32 r (by first |assumption|omega) Ac Ac) [(0,0)] [])] [] 7 V λV=> ?_))))))
 have V:=V.wko 1 [.top,.top,.top,.top,lb [],.top,.top,.top]
 obtain⟨gs,V⟩:=V.fy 5 22 Bq (Bf B0 pa d) ((show true=true->(Bf B0 pa d)≠[]from(λ_ e=>by have :=dp List.length e;rw[EO]at this;cases this)) rfl)
 refine Ae (C9 [] 7 V λV=>AY ?_)
 obtain⟨gs,V⟩:=V.rx [(0,0),(1,1),(2,4)] [2] [0,1,2] 3 Y
 exact BW V
theorem s8 (tx r:Ad) (h:(Bb 1000 (Bb 3 (Bb ep (Bb aD (DJ [] (DJ tx (Cc [] (Cc [] r)))))))).length<=100000000000000) (hn:ep<=400000000/\aD<=1000000000) (htx:tx.length=1088):AP 95 ⟨[.cp 0 0],[(0,C8 (Bb 1000 (Bb 3 (Bb ep (Bb aD (DJ [] (DJ tx (Cc [] (Cc [] r)))))))))],.cp 1 0,[(0,C8 r),(1,.ob 126 (Jg [vi 1000,vi 3,vi (ep:Int),vi (aD:Int),lb [],lb tx,.cp 2 0,.v (.slice none 0 0)])),(2,vY (2*ep) B0)]⟩:=by
 refine cy 1 func95 rfl ntmps95 λY V=> ?_
 have hx3:((tx.length:Nat):Int)=1088:=Ac
 have hx2:¬(536870912:Int)<=(ep:Int):=Ac
 refine C9 [] 1 V λV=>Ar ?_
 have hnil:([]:Ad).length=0:=rfl
 have hfb:KI B0=false:=rfl
 have hB0l:1<=(B0).length/\(B0).length<=10000:=⟨by decide,by decide⟩
 have hw0:=BE h
 have hw1:=BE hw0
 have hw2:=BE hw1
 have hw3:=BE hw2
 have hw4:=Gc hw3
 have hw5:=Gc hw4
 have hw6:=Ji hw5
 refine G0 [(1,AA (Cg 1000 (Bb 3 (Bb ep (Bb aD (DJ [] (DJ tx (Cc [] (Cc [] r))))))) (by first |assumption|omega) Ac) [(0,0)] []),(2,AA (Ju 1000 Ac) [] [(0,1),(1,2),(2,3)])] [] 4 V λV=>CQ (C9 [] 4 V λV=>Ai V (Cb (D8 [(2,AA (Cg 3 (Bb ep (Bb aD (DJ [] (DJ tx (Cc [] (Cc [] r)))))) (by first |assumption|omega) Ac) [(0,0)] [])] [] 4 V λV=>D8 [(1,AA (Cg ep (Bb aD (DJ [] (DJ tx (Cc [] (Cc [] r))))) (by first |assumption|omega) Ac) [(0,0)] []),(3,AA (Cg aD (DJ [] (DJ tx (Cc [] (Cc [] r)))) (by first |assumption|omega) Ac) [(0,0)] [])] [] 4 V λV=>D8 [(1,AA (Es 64 ([]:Ad) (DJ tx (Cc [] (Cc [] r))) (by first |assumption|omega) Ac (by first |assumption|omega)) [(0,0)] []),(3,AA (Es 1088 tx (Cc [] (Cc [] r)) (by first |assumption|omega) Ac (by first |assumption|omega)) [(0,0)] [])] [] 4 V λV=>Ar (D8 [(14,Do hx2),(24,Gv hx3)] [] 4 V λV=>Ai V (DG ?_)))))
 have V:=V.wko 1 [.top,.top,.top,.top,lb [],.top,.top,.top]
 have V:=V.wko 1 [.top,.top,.top,.top,.top,lb [],.top,.top]
 refine G0 [(2,AA (Mg 3 0 0 ([]:Ad) ([]:Ad) ((2*0)+1) 1088 (replicate (((1088+1000)-1)/1000) none) ep Ac Ac) [(0,1),(1,2),(2,3)] [(3,4),(4,5)])] [] 6 V λV=>CQ (BC (C9 [] 6 V λV=>Ai V (C9 [] 6 V λV=>Ai V (FN (Ii ?_)))))
 have V:=V.ch 5 (.sl 22 Bq B0) (.sl 22 Bq (replicate 2 none)) rfl
 refine G0 [(1,AA (ES 2000 2000 (Cc [] r) (by first |assumption|omega) Ac Ac) [(0,0)] [])] [107] 6 V λV=>Ae (BC (wp_loop_rounds 1 ?_))
 refine Bc (n:=0) (C9 [] 6 V λV=>Ar (Ai V (JH (D8 [(4,AA (GR (2*ep) 1000 1184 B0 Ax A_) [(0,4),(1,5)] [])] [] 6 V λV=>C9 [] 6 V λV=>Ai V (DG (G0 [(2,AA (ES 2000 32 r (by first |assumption|omega) Ac Ac) [(0,0)] [])] [] 6 V λV=> ?_))))))
 have V:=V.wko 1 [.top,.top,.top,.top,lb [],.top,.top,.top]
 obtain⟨gs,V⟩:=V.fy 5 22 Bq B0 ((show true=true->B0≠[]from(λ_ e=>by have :=dp List.length e;cases this)) rfl)
 refine Ae (C9 [] 6 V λV=>AY ?_)
 obtain⟨gs,V⟩:=V.rx [(0,0),(1,1),(2,4)] [2] [0,1,2] 3 Y
 exact BW V
theorem kZ (r:Ad) (h:(Bb 1000 (Bb 1 (Bb ep (Bb aD (DJ [] (DJ [] (Cc [] (Cc [] r)))))))).length<=100000000000000) (hn:ep<=400000000/\aD<=1000000000):AP 95 ⟨[.cp 0 0],[(0,C8 (Bb 1000 (Bb 1 (Bb ep (Bb aD (DJ [] (DJ [] (Cc [] (Cc [] r)))))))))],.cp 1 0,[(0,C8 r),(1,fG ep aD [] [] 2),(2,Abi ((2*ep)+1) B0)]⟩:=by
 refine cy 1 func95 rfl ntmps95 λY V=> ?_
 have hx2:¬(536870912:Int)<=(ep:Int):=Ac
 refine C9 [] 1 V λV=>Ar ?_
 have hnil:([]:Ad).length=0:=rfl
 have hfb:KI B0=false:=rfl
 have hB0l:1<=(B0).length/\(B0).length<=10000:=⟨by decide,by decide⟩
 have hw0:=BE h
 have hw1:=BE hw0
 have hw2:=BE hw1
 have hw3:=BE hw2
 have hw4:=Gc hw3
 have hw5:=Gc hw4
 have hw6:=Ji hw5
 refine G0 [(1,AA (Cg 1000 (Bb 1 (Bb ep (Bb aD (DJ [] (DJ [] (Cc [] (Cc [] r))))))) (by first |assumption|omega) Ac) [(0,0)] []),(2,AA (Ju 1000 Ac) [] [(0,1),(1,2),(2,3)])] [] 4 V λV=>CQ (C9 [] 4 V λV=>Ai V (Cb (D8 [(2,AA (Cg 1 (Bb ep (Bb aD (DJ [] (DJ [] (Cc [] (Cc [] r)))))) (by first |assumption|omega) Ac) [(0,0)] [])] [] 4 V λV=>D8 [(1,AA (Cg ep (Bb aD (DJ [] (DJ [] (Cc [] (Cc [] r))))) (by first |assumption|omega) Ac) [(0,0)] []),(3,AA (Cg aD (DJ [] (DJ [] (Cc [] (Cc [] r)))) (by first |assumption|omega) Ac) [(0,0)] [])] [] 4 V λV=>D8 [(1,AA (Es 64 ([]:Ad) (DJ [] (Cc [] (Cc [] r))) (by first |assumption|omega) Ac (by first |assumption|omega)) [(0,0)] []),(3,AA (Es 1088 ([]:Ad) (Cc [] (Cc [] r)) (by first |assumption|omega) Ac (by first |assumption|omega)) [(0,0)] [])] [] 4 V λV=>Ar (D8 [(14,Do hx2)] [] 4 V λV=>Ai V (DG ?_)))))
 have V:=V.wko 1 [.top,.top,.top,.top,lb [],.top,.top,.top]
 have V:=V.wko 1 [.top,.top,.top,.top,.top,lb [],.top,.top]
 refine G0 [(2,AA (Mh 1 0 0 ([]:Ad) ([]:Ad) ((2*0)+1) 1088 (replicate (((1088+1000)-1)/1000) none) ep Ac Ac) [(0,1),(1,2),(2,3)] [(3,4),(4,5)])] [] 6 V λV=>CQ (BC (C9 [] 6 V λV=>Ai V (C9 [] 6 V λV=>Ai V (FN (Ii ?_)))))
 have V:=V.ch 5 (.sl 22 Bq B0) (.sl 22 Bq (replicate 2 none)) rfl
 refine G0 [(1,AA (ES 2000 2000 (Cc [] r) (by first |assumption|omega) Ac Ac) [(0,0)] [])] [107] 6 V λV=>Ae (BC (wp_loop_rounds 1 ?_))
 refine Bc (n:=0) (C9 [] 6 V λV=>Ar (Ai V (JH (D8 [(4,AA (GR ((2*ep)+1) 1000 1088 B0 Ax A_) [(0,4),(1,5)] [])] [] 6 V λV=>C9 [] 6 V λV=>Ai V (DG (G0 [(2,AA (ES 2000 32 r (by first |assumption|omega) Ac Ac) [(0,0)] [])] [] 6 V λV=> ?_))))))
 have V:=V.wko 1 [.top,.top,.top,.top,lb [],.top,.top,.top]
 obtain⟨gs,V⟩:=V.fy 5 22 Bq B0 ((show true=true->B0≠[]from(λ_ e=>by have :=dp List.length e;cases this)) rfl)
 refine Ae (C9 [] 6 V λV=>AY ?_)
 obtain⟨gs,V⟩:=V.rx [(0,0),(1,1),(2,4)] [2] [0,1,2] 3 Y
 exact BW V
theorem kY (sd r:Ad) (h:(Bb 1000 (Bb 1 (Bb ep (Bb aD (DJ sd (DJ [] (Cc [] (Cc [] r)))))))).length<=100000000000000) (hn:ep<=400000000/\aD<=1000000000) (hsd:sd.length=64):AP 95 ⟨[.cp 0 0],[(0,C8 (Bb 1000 (Bb 1 (Bb ep (Bb aD (DJ sd (DJ [] (Cc [] (Cc [] r)))))))))],.cp 1 0,[(0,C8 r),(1,fG ep aD sd ((AO (sd.take 32) (sd.drop 32)).1) 2),(2,Abi ((2*ep)+1) B0)]⟩:=by
 refine cy 1 func95 rfl ntmps95 λY V=> ?_
 have hx4:((sd.length:Nat):Int)=64:=Ac
 have hx2:¬(536870912:Int)<=(ep:Int):=Ac
 refine C9 [] 1 V λV=>Ar ?_
 have hnil:([]:Ad).length=0:=rfl
 have hfb:KI B0=false:=rfl
 have hB0l:1<=(B0).length/\(B0).length<=10000:=⟨by decide,by decide⟩
 have hw0:=BE h
 have hw1:=BE hw0
 have hw2:=BE hw1
 have hw3:=BE hw2
 have hw4:=Gc hw3
 have hw5:=Gc hw4
 have hw6:=Ji hw5
 refine G0 [(1,AA (Cg 1000 (Bb 1 (Bb ep (Bb aD (DJ sd (DJ [] (Cc [] (Cc [] r))))))) (by first |assumption|omega) Ac) [(0,0)] []),(2,AA (Ju 1000 Ac) [] [(0,1),(1,2),(2,3)])] [] 4 V λV=>CQ (C9 [] 4 V λV=>Ai V (Cb (D8 [(2,AA (Cg 1 (Bb ep (Bb aD (DJ sd (DJ [] (Cc [] (Cc [] r)))))) (by first |assumption|omega) Ac) [(0,0)] [])] [] 4 V λV=>D8 [(1,AA (Cg ep (Bb aD (DJ sd (DJ [] (Cc [] (Cc [] r))))) (by first |assumption|omega) Ac) [(0,0)] []),(3,AA (Cg aD (DJ sd (DJ [] (Cc [] (Cc [] r)))) (by first |assumption|omega) Ac) [(0,0)] [])] [] 4 V λV=>D8 [(1,AA (Es 64 sd (DJ [] (Cc [] (Cc [] r))) (by first |assumption|omega) Ac (by first |assumption|omega)) [(0,0)] []),(3,AA (Es 1088 ([]:Ad) (Cc [] (Cc [] r)) (by first |assumption|omega) Ac (by first |assumption|omega)) [(0,0)] [])] [] 4 V λV=>Ar (D8 [(14,Do hx2)] [] 4 V λV=>Ai V (DG ?_)))))
 have V:=V.wko 1 [.top,.top,.top,.top,lb [],.top,.top,.top]
 have V:=V.wko 1 [.top,.top,.top,.top,.top,lb [],.top,.top]
 refine G0 [(2,AA (Mh 1 0 0 ([]:Ad) ([]:Ad) ((2*0)+1) 1088 (replicate (((1088+1000)-1)/1000) none) ep Ac Ac) [(0,1),(1,2),(2,3)] [(3,4),(4,5)])] [] 6 V λV=>CQ (BC (D8 [(8,Gv hx4)] [] 6 V λV=>AG V ?_))
 have V:=V.wko 1 [.top,.top,.top,.top,lb [],.top,.top,.top]
 refine G0 [(2,AA (SX 1 ep aD ([]:Ad) ([]:Ad) ((2*ep)+1) 1088 (replicate 2 none) sd Ax) [(0,1),(1,4),(2,5)] [])] [] 6 V λV=>Ck (Ii ?_)
 have V:=V.ch 5 (.sl 22 Bq B0) (.sl 22 Bq (replicate 2 none)) rfl
 refine G0 [(1,AA (ES 2000 2000 (Cc [] r) (by first |assumption|omega) Ac Ac) [(0,0)] [])] [107] 6 V λV=>Ae (BC (wp_loop_rounds 1 ?_))
 refine Bc (n:=0) (C9 [] 6 V λV=>Ar (Ai V (JH (D8 [(4,AA (GR ((2*ep)+1) 1000 1088 B0 Ax A_) [(0,4),(1,5)] [])] [] 6 V λV=>C9 [] 6 V λV=>Ai V (DG (G0 [(2,AA (ES 2000 32 r (by first |assumption|omega) Ac Ac) [(0,0)] [])] [] 6 V λV=> ?_))))))
 have V:=V.wko 1 [.top,.top,.top,.top,lb [],.top,.top,.top]
 obtain⟨gs,V⟩:=V.fy 5 22 Bq B0 ((show true=true->B0≠[]from(λ_ e=>by have :=dp List.length e;cases this)) rfl)
 refine Ae (C9 [] 6 V λV=>AY ?_)
 obtain⟨gs,V⟩:=V.rx [(0,0),(1,1),(2,4)] [2] [0,1,2] 3 Y
 exact BW V
theorem kX (sd:Ad) (pa:Nat) (d r:Ad) (h:(Bb 1000 (Bb 1 (Bb ep (Bb aD (DJ sd (DJ [] (Cc [B7 (2*ep+1) pa 2 d] (Cc [] r)))))))).length<=100000000000000) (hn:ep<=400000000/\aD<=1000000000) (hsd:sd.length=64) (hpa:pa<2) (hd:1<=d.length/\d.length<=1000) (hdl:d.length=min 1000 (1088-pa*1000)):AP 95 ⟨[.cp 0 0],[(0,C8 (Bb 1000 (Bb 1 (Bb ep (Bb aD (DJ sd (DJ [] (Cc [B7 (2*ep+1) pa 2 d] (Cc [] r)))))))))],.cp 1 0,[(0,C8 r),(1,fG ep aD sd ((AO (sd.take 32) (sd.drop 32)).1) 2),(2,Abi ((2*ep)+1) (Bf B0 pa d))]⟩:=by
 refine cy 1 func95 rfl ntmps95 λY V=> ?_
 have hx4:((sd.length:Nat):Int)=64:=Ac
 have hbe:((KW B0 pa:Nat):Int)=0:=(by rw[xN hpa];rfl)
 have hx2:¬(536870912:Int)<=(ep:Int):=Ac
 refine C9 [] 1 V λV=>Ar ?_
 have hnil:([]:Ad).length=0:=rfl
 have hw0:=BE h
 have hw1:=BE hw0
 have hw2:=BE hw1
 have hw3:=BE hw2
 have hw4:=Gc hw3
 have hw5:=Gc hw4
 have hw6:=Ji hw5
 refine G0 [(1,AA (Cg 1000 (Bb 1 (Bb ep (Bb aD (DJ sd (DJ [] (Cc [B7 (2*ep+1) pa 2 d] (Cc [] r))))))) (by first |assumption|omega) Ac) [(0,0)] []),(2,AA (Ju 1000 Ac) [] [(0,1),(1,2),(2,3)])] [] 4 V λV=>CQ (C9 [] 4 V λV=>Ai V (Cb (D8 [(2,AA (Cg 1 (Bb ep (Bb aD (DJ sd (DJ [] (Cc [B7 (2*ep+1) pa 2 d] (Cc [] r)))))) (by first |assumption|omega) Ac) [(0,0)] [])] [] 4 V λV=>D8 [(1,AA (Cg ep (Bb aD (DJ sd (DJ [] (Cc [B7 (2*ep+1) pa 2 d] (Cc [] r))))) (by first |assumption|omega) Ac) [(0,0)] []),(3,AA (Cg aD (DJ sd (DJ [] (Cc [B7 (2*ep+1) pa 2 d] (Cc [] r)))) (by first |assumption|omega) Ac) [(0,0)] [])] [] 4 V λV=>D8 [(1,AA (Es 64 sd (DJ [] (Cc [B7 (2*ep+1) pa 2 d] (Cc [] r))) (by first |assumption|omega) Ac (by first |assumption|omega)) [(0,0)] []),(3,AA (Es 1088 ([]:Ad) (Cc [B7 (2*ep+1) pa 2 d] (Cc [] r)) (by first |assumption|omega) Ac (by first |assumption|omega)) [(0,0)] [])] [] 4 V λV=>Ar (D8 [(14,Do hx2)] [] 4 V λV=>Ai V (DG ?_)))))
 have V:=V.wko 1 [.top,.top,.top,.top,lb [],.top,.top,.top]
 have V:=V.wko 1 [.top,.top,.top,.top,.top,lb [],.top,.top]
 refine G0 [(2,AA (Mh 1 0 0 ([]:Ad) ([]:Ad) ((2*0)+1) 1088 (replicate (((1088+1000)-1)/1000) none) ep Ac Ac) [(0,1),(1,2),(2,3)] [(3,4),(4,5)])] [] 6 V λV=>CQ (BC (D8 [(8,Gv hx4)] [] 6 V λV=>AG V ?_))
 have V:=V.wko 1 [.top,.top,.top,.top,lb [],.top,.top,.top]
 refine G0 [(2,AA (SX 1 ep aD ([]:Ad) ([]:Ad) ((2*ep)+1) 1088 (replicate 2 none) sd Ax) [(0,1),(1,4),(2,5)] [])] [] 6 V λV=>Ck (Ii ?_)
 have V:=V.ch 5 (.sl 22 Bq B0) (.sl 22 Bq (replicate 2 none)) rfl
 have hB0:(B0).length=2:=rfl
 have hpl:(Bf B0 pa d).length=2:=by rw[EO];rfl
 have hfp:=Va d hpa
 have hec:=HB (id:=(2*ep)+1) (ai:=pa) (ct:=2) (d:=d) ⟨by omega,by omega,by omega⟩ hd.2
 have he1:=Aci hec
 have hl1:([B7 (2*ep+1) pa 2 d]:AZ).length=1:=rfl
 refine G0 [(1,AA (QL 2000 2000 [B7 (2*ep+1) pa 2 d] (Cc [] r) (by first |assumption|omega) (by first |assumption|omega) Ac A_) [(0,0)] [])] [107] 6 V λV=>Ae (BC (wp_loop_rounds 2 ?_))
 refine Bc (n:=1) (C9 [] 6 V λV=>Ar (AG V (B3 (D8 [(0,AH 0 1)] [111,112] 6 V λV=>D8 [(1,AS (UK (2*ep+1) pa 2 d Ac Ax))] [11,113,114,115,116,117] 7 V λV=>D8 [(8,AA (NX ((2*ep)+1) 1000 1088 B0 (2*ep+1) pa 2 (pa*1000) d Ac Ac rfl rfl Ac Ac Ac hdl (Ace d hpa) ⟨hd.1,by omega⟩) [(0,4),(1,5)] []),(9,Ha hbe)] [118,119,120,121,122,123,124,125,126,127] 7 V λV=>Ai V (FN (g5 [109,130] 7 V λV=>Ae ?_))))))
 refine Bc (n:=0) (C9 [] 7 V λV=>Ar (Ai V (JH (D8 [(4,AA (GR ((2*ep)+1) 1000 1088 (Bf B0 pa d) Ax A_) [(0,4),(1,5)] [])] [4,5,6,7,8,10,11,12,13,22,75,87,100,107,108,109,110,111,112,113,114,115,116,117,118,119,120,121,122,123,124,125,126,127,128,130] 7 V λV=>C9 [] 7 V λV=>Ai V (DG (G0 [(2,AA (ES 2000 32 r (by first |assumption|omega) Ac Ac) [(0,0)] [])] [] 7 V λV=> ?_))))))
 have V:=V.wko 1 [.top,.top,.top,.top,lb [],.top,.top,.top]
 obtain⟨gs,V⟩:=V.fy 5 22 Bq (Bf B0 pa d) ((show true=true->(Bf B0 pa d)≠[]from(λ_ e=>by have :=dp List.length e;rw[EO]at this;cases this)) rfl)
 refine Ae (C9 [] 7 V λV=>AY ?_)
 obtain⟨gs,V⟩:=V.rx [(0,0),(1,1),(2,4)] [2] [0,1,2] 3 Y
 exact BW V
end
def rZ (id:Nat) (bx:CB):AZ:=(match bx.getD 0 none with |none=>[]|some d=>[B7 id 0 2 d])++(match bx.getD 1 none with |none=>[]|some d=>[B7 id 1 2 d])
theorem T3 (id:Nat) {pa:Nat} (h:pa<2) (d:Ad):rZ id (Bf B0 pa d)=[B7 id pa 2 d]:=by
 have :pa=0\/pa=1:=by omega
 rcases this with e|e<;>subst e<;>rfl
def Hh (st ep aD:Nat) (sd tx:Ad) (id:Nat) (bx:CB) (r:Ad):Ad:=Bb 1000 (Bb st (Bb ep (Bb aD (DJ sd (DJ (if st=1 then[]else tx) (Cc (rZ id bx) (Cc [] r)))))))
structure LdOk (st ep:Nat) (sd tx:Ad) (id ln:Nat) (bx:CB):Prop where
 or:(st=2/\sd=[]/\tx=[]/\id=2*ep/\ln=1184)\/(st=3/\sd=[]/\tx.length=1088/\id=2*ep/\ln=1184/\bx=B0)\/(st=1/\sd=[]/\tx=[]/\id=2*ep+1/\ln=1088/\bx=B0)\/(st=1/\sd.length=64/\tx=(AO (sd.take 32) (sd.drop 32)).1/\id=2*ep+1/\ln=1088)
 bx:bx=B0\/∃pa d,pa<2/\(1<=d.length/\d.length<=1000)/\d.length=min 1000 (ln-pa*1000)/\bx=Bf B0 pa d
section
variable (st ep aD:Nat) (sd tx:Ad) (id ln:Nat) (bx:CB) (r:Ad)
def aY:Con:=⟨[.cp 0 0],[(0,C8 (Hh st ep aD sd tx id bx r))],.cp 1 0,[(0,C8 r),(1,AL st ep aD sd tx 2),(2,AT id ln bx)]⟩
theorem kU (h:(Hh st ep aD sd tx id bx r).length<=100000000000000) (hn:ep<=400000000/\aD<=1000000000) (hL:LdOk st ep sd tx id ln bx):AP 95 (aY st ep aD sd tx id ln bx r):=by
 unfold aY
 rcases hL.or with⟨rfl,rfl,rfl,rfl,rfl⟩|⟨rfl,rfl,h3,rfl,rfl,rfl⟩|⟨rfl,rfl,rfl,rfl,rfl,rfl⟩|⟨rfl,h2,rfl,rfl,rfl⟩
 ·rcases hL.bx with rfl|⟨pa,d,h1,h2,h3,rfl⟩
  ·exact kW ep aD r h hn
  ·have e:Hh 2 ep aD [] [] (2*ep) (Bf B0 pa d) r=Bb 1000 (Bb 2 (Bb ep (Bb aD (DJ [] (DJ [] (Cc [B7 (2*ep) pa 2 d] (Cc [] r))))))):=by unfold Hh;rw[T3 _ h1];rfl
   rw[e]at h⊢
   exact kV ep aD pa d r h hn h1 h2 h3
 ·exact s8 ep aD tx r h hn h3
 ·exact kZ ep aD r h hn
 ·rcases hL.bx with rfl|⟨pa,d,h1,h3,h4,rfl⟩
  ·exact kY ep aD sd r h hn h2
  ·have e:Hh 1 ep aD sd (AO (sd.take 32) (sd.drop 32)).1 (2*ep+1) (Bf B0 pa d) r=Bb 1000 (Bb 1 (Bb ep (Bb aD (DJ sd (DJ [] (Cc [B7 (2*ep+1) pa 2 d] (Cc [] r))))))):=by unfold Hh;rw[T3 _ h1];rfl
   rw[e]at h⊢
   exact kX ep aD sd pa d r h hn h2 h1 h3 h4
end
theorem OQ (a x r:Ad):((a++Ah x.length)++x)++r=a++DJ x r:=by
 show((a++Ah x.length)++x)++r=a++(Ah x.length++(x++r));simp only[bu]
theorem Y8 (a:Ad) (l:AZ):a++DN l=a++Cc l []:=by rw[<-MG,ez]
theorem z3 (st ep aD:Nat) (sd tx:Ad) (id ln:Nat) (b:Ad):XZ st ep aD sd tx id ln b=(B0,b++Hh st ep aD sd tx id B0 []):=by
 unfold XZ;rw[Ab];unfold Hh
 by_cases h:st=1
 ·rw[ah Ac,ah h,Y8,MG,OQ,OQ,Dh,Dh,Dh,Dh];rfl
 ·rw[aj Ac,aj h,Y8,MG,OQ,OQ,Dh,Dh,Dh,Dh];rfl
theorem zZ (st ep aD:Nat) (sd tx:Ad) (id ln:Nat) {pa:Nat} (d b:Ad) (hp:pa<2):XY st ep aD sd tx id ln pa d b=(Bf B0 pa d,b++Hh st ep aD sd tx id (Bf B0 pa d) []):=by
 unfold XY;rw[Ab];unfold Hh
 rw[T3 _ hp]
 by_cases h:st=1
 ·rw[ah Ac,ah h,Y8,MG,OQ,OQ,Dh,Dh,Dh,Dh];rfl
 ·rw[aj Ac,aj h,Y8,MG,OQ,OQ,Dh,Dh,Dh,Dh];rfl
theorem LdOk.len {st ep:Nat} {sd tx:Ad} {id ln:Nat} {bx:CB} (h:LdOk st ep sd tx id ln bx):sd.length<=64/\tx.length<=2000/\st<=3/\id<=2*ep+1:=by
 rcases h.or with⟨rfl,rfl,rfl,rfl,rfl⟩|⟨rfl,rfl,h3,rfl,rfl,rfl⟩|⟨rfl,rfl,rfl,rfl,rfl,rfl⟩|⟨rfl,h2,rfl,rfl,rfl⟩
 ·exact⟨by decide,by decide,by decide,by omega⟩
 ·exact⟨by decide,by omega,by decide,by omega⟩
 ·exact⟨by decide,by decide,by decide,by omega⟩
 ·have :=(H8 (sd.take 32) (sd.drop 32) (by rw[av];omega)).1
  exact⟨by omega,by omega,by decide,by omega⟩
theorem kT (st ep aD:Nat) (sd tx:Ad) (id ln:Nat) (bx:CB) (b:Ad) (hb:b.length<=10000000000) (hn:ep<=400000000/\aD<=1000000000) (hL:LdOk st ep sd tx id ln bx):AP 57 ⟨[.cp 0 0,.cp 2 0],[(0,AL st ep aD sd tx 1),(1,AT id ln bx),(2,Pf 3),(3,.sl 5 Bg b)],.tu (Jg []),[(0,AL st ep aD sd tx 1),(1,AT id ln bx),(2,Pf 4),(4,.sl 5 Bg (b++Hh st ep aD sd tx id bx []))]⟩:=by
 have hl:=hL.len
 rcases hL.bx with rfl|⟨pa,d,h1,h2,h3,rfl⟩
 ·have h:=s6 st ep aD sd tx id ln b hb ⟨hl.1,hl.2.1⟩ Ac
  unfold pD at h
  rw[z3]at h
  exact h
 ·have h:=s5 st ep aD sd tx id ln pa d b hb ⟨hl.1,hl.2.1⟩ Ac h1 h2
  unfold pC at h
  rw[zZ _ _ _ _ _ _ _ _ _ h1]at h
  exact h
theorem ZW {st ep aD:Nat} {sd tx:Ad} {id ln:Nat} {bx:CB} (hn:ep<=400000000/\aD<=1000000000) (hL:LdOk st ep sd tx id ln bx):(Hh st ep aD sd tx id bx []).length<=5000:=by
 have hl:=hL.len
 have hq:(Cc (rZ id bx) (Cc [] [])).length<=2000:=by
  have a0:=Aq (n:=0) Ac
  rcases hL.bx with rfl|⟨pa,d,h1,h2,h3,rfl⟩
  ·show(Ah 0++(Ah 0++[])).length<=2000
   simp only[ab,au];omega
  ·rw[T3 _ h1]
   have a1:=Aq (n:=1) Ac
   have a2:=HB (id:=id) (ai:=pa) (ct:=2) (d:=d) ⟨by omega,by omega,by omega⟩ h2.2
   have a3:=Aq (n:=(B7 id pa 2 d).length) Ac
   show(Ah 1++(Ah (B7 id pa 2 d).length++(B7 id pa 2 d++(Ah 0++[])))).length<=2000
   simp only[ab,au];omega
 have b1:=Aq (n:=1000) Ac
 have b2:=Aq (n:=st) Ac
 have b3:=Aq (n:=ep) Ac
 have b4:=Aq (n:=aD) Ac
 have b5:=Aq (n:=sd.length) Ac
 have e:(Hh st ep aD sd tx id bx []).length=(Ah 1000++(Ah st++(Ah ep++(Ah aD++(Ah sd.length++(sd++(Ah (if st=1 then[]else tx).length++((if st=1 then[]else tx)++Cc (rZ id bx) (Cc [] []))))))))).length:=rfl
 by_cases hs:st=1
 ·rw[e,ah hs]
  have b7:=Aq (n:=([]:Ad).length) (by decide)
  simp only[ab,au]at *;omega
 ·rw[e,aj hs]
  have b7:=Aq (n:=tx.length) Ac
  simp only[ab];omega
def OU (kl:List KR) (x89:Nat):Ad->Ad:=λo17=>((o17++Ah ((kl.getD x89 Bi).1.toNat))++Ah ((kl.getD x89 Bi).2.1.toNat))++DN (kl.getD x89 Bi).2.2
section
variable (id:Ad) (fi:Bool) (ok:Ad) (oi:Nat) (ik:Ad) (ii lT:Nat) (mx:AZ) (lD tD:Nat) (kl:List KR) (st:Nat) (ep aD:Nat) (sd tx:Ad) (rD rT:Nat) (bx:CB)
def Fh (id:Ad) (fi:Bool) (ok:Ad) (oi:Nat) (ik:Ad) (ii lT:Nat) (mx:AZ) (lD tD:Nat) (kl:List KR) (st:Nat) (ep aD:Nat) (sd tx:Ad) (rD rT:Nat) (bx:CB):Nat->Ad
 |0=>((((((((((([]++id)++Ah (AR fi))++Ah (AR true))++ok)++Ah oi)++ik)++Ah ii)++Ah lT)++DN mx)++Ah lD)++Ah tD)++Ah kl.length
 |x89+1=>OU kl x89 (Fh id fi ok oi ik ii lT mx lD tD kl st ep aD sd tx rD rT bx x89)
def EK:Ad:=AV ((Fh id fi ok oi ik ii lT mx lD tD kl st ep aD sd tx rD rT bx kl.length)++Hh st ep aD sd tx rD bx [])
def oR (z_:Ad:=EK id fi ok oi ik ii lT mx lD tD kl st ep aD sd tx rD rT bx):Con:=Cq [.cp 0 0] [(0,A3 id fi true 1 2 3 lT mx lD tD kl),(1,Ag ok oi),(2,Ag ik ii),(3,AL st ep aD sd tx 4),(4,AT rD rT bx)] (lb z_)
theorem Oa (hok:ok.length=32) (hik:ik.length=32) (hoi:oi<=100000000000) (hii:ii<=100000000000) (hm1:1<=mx.length/\mx.length<=100000) (hm2:∀j,(mx.getD j AW).length<=32) (hlow:lT<=100000000000) (hK:KOk kl) (hll:lT<=lD/\lD<=100000000000) (htd:tD<=100000000000) (hid:id.length=32) (hn:ep<=400000000/\aD<=1000000000) (hL:LdOk st ep sd tx rD rT bx):AP 25 (oR id fi ok oi ik ii lT mx lD tD kl st ep aD sd tx rD rT bx):=by
 refine cy 5 func25 rfl ntmps25 λY V=>Aj [] 5 V λV=>Ar (Ay [(1,Ig (B4) [0,1] [.im (Jg [.top,.top,.top,.im (Jg []) 0,.top,.top,.top,.top,.top,.top,.top]) 0])] [] 5 V λV=>Ai V (Cb (Aj [] 6 V λV=>Ar ?_)))
 have hkw9:=ZW (aD:=aD) hn hL
 have hf1:=FL fi
 have hf2:=FL true
 have hg1:=Aq (n:=AR fi) Ac
 have hg2:=Aq (n:=AR true) Ac
 have hg3:=Aq (n:=oi) Ac
 have hg4:=Aq (n:=ii) Ac
 have hg5:=Aq (n:=lT) Ac
 have hg6:=Aq (n:=lD) Ac
 have hg7:=Aq (n:=tD) Ac
 have hK1:=hK.1
 have hg8:=Aq (n:=kl.length) Ac
 have hlw:=Iw hm1.2 hm2
 refine Aw [(5,AA (Qg id Ax) [(0,5)] [(1,6)]),(10,AS (PR fi)),(11,AA (BP ([]++id) (AR fi) Ax Ac) [(0,5),(1,6)] [(2,7)]),(16,AS (PR true)),(17,AA (BP (([]++id)++Ah (AR fi)) (AR true) Ax Ac) [(0,5),(1,7)] [(2,8)])] [] 9 V λV=>CQ (Aj [38] 9 V λV=>BC (wp_loop_rounds 3 ?_))
 refine Bc (n:=2) (Aj [] 9 V λV=>Ar (AG V (B3 (Ay [(0,AH 0 2)] [42,43] 9 V λV=>Aw [(2,AA (P0 ok oi Ax) [(0,1)] []),(3,AA (EQ ((([]++id)++Ah (AR fi))++Ah (AR true)) ok Ax Ax) [(0,5),(1,8)] [(2,9)]),(5,AA (Cn ok oi) [(0,1)] []),(6,JZ oi),(7,AA (BP (((([]++id)++Ah (AR fi))++Ah (AR true))++ok) oi Ax Ac) [(0,5),(1,9)] [(2,10)])] [44,45,46,47,48,49,50] 11 V λV=>Ck (Dl [40,52] 11 V λV=>Ae ?_)))))
 refine Bc (n:=1) (Aj [] 11 V λV=>Ar (AG V (B3 (Ay [(0,AH 1 2)] [42,43] 11 V λV=>Aw [(2,AA (P0 ik ii Ax) [(0,2)] []),(3,AA (EQ ((((([]++id)++Ah (AR fi))++Ah (AR true))++ok)++Ah oi) ik Ax Ax) [(0,5),(1,10)] [(2,11)]),(5,AA (Cn ik ii) [(0,2)] []),(6,JZ ii),(7,AA (BP (((((([]++id)++Ah (AR fi))++Ah (AR true))++ok)++Ah oi)++ik) ii Ax Ac) [(0,5),(1,11)] [(2,12)])] [44,45,46,47,48,49,50] 13 V λV=>Ck (Dl [40,52] 13 V λV=>Ae ?_)))))
 refine Bc (n:=0) (Aj [] 13 V λV=>Ar (Ai V (Dw (Ay [(5,JZ lT),(6,AA (BP ((((((([]++id)++Ah (AR fi))++Ah (AR true))++ok)++Ah oi)++ik)++Ah ii) lT Ax Ac) [(0,5),(1,12)] [(2,13)]),(11,AA (EJ (((((((([]++id)++Ah (AR fi))++Ah (AR true))++ok)++Ah oi)++ik)++Ah ii)++Ah lT) mx Ax Ax (by first |assumption|exact λj=>ca (hm2 j) (by decide)|exact Hf hkr.2.2.2)) [(0,5),(1,13)] [(2,14)]),(16,JZ lD),(17,AA (BP ((((((((([]++id)++Ah (AR fi))++Ah (AR true))++ok)++Ah oi)++ik)++Ah ii)++Ah lT)++DN mx) lD Ax Ac) [(0,5),(1,14)] [(2,15)]),(22,JZ tD),(23,AA (BP (((((((((([]++id)++Ah (AR fi))++Ah (AR true))++ok)++Ah oi)++ik)++Ah ii)++Ah lT)++DN mx)++Ah lD) tD Ax Ac) [(0,5),(1,15)] [(2,16)]),(29,JZ kl.length),(30,AA (BP ((((((((((([]++id)++Ah (AR fi))++Ah (AR true))++ok)++Ah oi)++ik)++Ah ii)++Ah lT)++DN mx)++Ah lD)++Ah tD) kl.length Ax Ac) [(0,5),(1,16)] [(2,17)])] [] 18 V λV=>Ar (Aj [87] 18 V λV=>BC (AC (ι:=Nat×Ad) Y V (λ(x89,o17)=>(kl.length-x89,[(89,vi ((x89:Nat):Int))],[(17,.sl 5 Bg o17)],(x89<=kl.length)/\(o17=Fh id fi ok oi ik ii lT mx lD tD kl st ep aD sd tx rD rT bx x89)/\(o17.length<=5000000+x89*5000000)/\True)) [0,2,3,87,88] [0,1,2,3,4,5] 18 (0,((((((((((([]++id)++Ah (AR fi))++Ah (AR true))++ok)++Ah oi)++ik)++Ah ii)++Ah lT)++DN mx)++Ah lD)++Ah tD)++Ah kl.length) [(0,0),(1,1),(2,2),(3,3),(4,4),(5,5),(17,17)] ⟨Ac,rfl,Ax,aa⟩ ?_))))))
 rintro⟨x89,o17⟩ ac gs ws ⟨hx89,hq2,pL,_⟩ V
 refine Aj [] 18 V λV=>Ar (AJ ((x89:Int)<((kl.length:Nat):Int)) V (λh1=> ?_) (λh1=> ?_))
 ·refine B3 (Ay [(0,AH x89 kl.length)] [7] 19 V λV=> ?_)
  have hkr:(0<=(kl.getD x89 Bi).1/\(kl.getD x89 Bi).1<=1000000000000)/\(0<=(kl.getD x89 Bi).2.1/\(kl.getD x89 Bi).2.1<=1000000000000)/\(kl.getD x89 Bi).2.2.length<=100000/\∀k∈(kl.getD x89 Bi).2.2,k.length=32:=hK.2 x89 Ac
  have hkw:(DN (kl.getD x89 Bi).2.2).length<=4200010:=Iw hkr.2.2.1 (Uf hkr.2.2.2)
  have hn1:=Aq (n:=(kl.getD x89 Bi).1.toNat) Ac
  have hn2:=Aq (n:=(kl.getD x89 Bi).2.1.toNat) Ac
  exact Aw [(3,Ly (((kl.getD x89 Bi).1.toNat:Nat):Int) [IntKind.wrap .u64 (kl.getD x89 Bi).1=(((kl.getD x89 Bi).1.toNat:Nat):Int)] ⟨Y7 hkr.1.1 hkr.1.2,aa⟩),(4,AA (BP o17 ((kl.getD x89 Bi).1.toNat) Ax Ac) [(0,5),(1,17)] [(2,19)]),(7,Ly (((kl.getD x89 Bi).2.1.toNat:Nat):Int) [IntKind.wrap .u64 (kl.getD x89 Bi).2.1=(((kl.getD x89 Bi).2.1.toNat:Nat):Int)] ⟨Y7 hkr.2.1.1 hkr.2.1.2,aa⟩),(8,AA (BP (o17++Ah ((kl.getD x89 Bi).1.toNat)) ((kl.getD x89 Bi).2.1.toNat) Ax Ac) [(0,5),(1,19)] [(2,20)]),(11,AA (EJ ((o17++Ah ((kl.getD x89 Bi).1.toNat))++Ah ((kl.getD x89 Bi).2.1.toNat)) (kl.getD x89 Bi).2.2 Ax Ax (by first |assumption|exact λj=>ca (hm2 j) (by decide)|exact Hf hkr.2.2.2)) [(0,5),(1,20)] [(2,21)])] [] 22 V λV=>Ck (Aw [(0,Cu x89)] [89] 22 V λV=>Ae (As Y V (x89+1,((o17++Ah ((kl.getD x89 Bi).1.toNat))++Ah ((kl.getD x89 Bi).2.1.toNat))++DN (kl.getD x89 Bi).2.2) [(0,0),(1,1),(2,2),(3,3),(4,4),(5,5),(17,21)] ⟨Ac,(Bm (st:=OU _) hq2 rfl rfl),Ax,aa⟩))
 ·have hT:=V
  obtain rfl:kl.length=x89:=by omega
  obtain rfl:=hq2.symm
  have V:=hT
  exact JH (Aj [] 18 V λV=>AG V (Aw [(5,AA (kT st ep aD sd tx rD rT bx (Fh id fi ok oi ik ii lT mx lD tD kl st ep aD sd tx rD rT bx kl.length) Ax Ac A_) [(0,3),(1,4),(2,5),(3,17)] [(4,18)])] [] 19 V λV=>Ae (Ay [(1,AA (Gd ((Fh id fi ok oi ik ii lT mx lD tD kl st ep aD sd tx rD rT bx kl.length)++Hh st ep aD sd tx rD bx []) Ax) [(0,5),(1,18)] [])] [] 19 V λV=>AY (BV (Ab _) V))))
end
section
variable (id:Ad) (fi:Bool) (ok:Ad) (oi:Nat) (ik:Ad) (ii lT:Nat) (mx:AZ) (lD tD:Nat) (kl:List KR)
theorem cQ (i:Nat):AP 94 (Cq [.cp 0 0,vi (i:Int)] [(0,OO id fi true 1 2 lT mx lD tD 3),(1,Ag ok oi),(2,Ag ik ii),(3,.sl 86 CM kl)] (vi (CV kl (i:Int)))):=by
 exact cy 4 func94 rfl ntmps94 λY V=>Aj [] 5 V λV=>Ay [(5,AA (Uq kl i) [(0,3),(1,4)] [])] [] 5 V λV=>AY (BW V)
theorem bU (st ep aD:Nat) (sd tx:Ad) (rD rT:Nat) (bx:CB) (r:Ad) (hr:(MB id fi true ok oi ik ii lT mx lD tD kl (Hh st ep aD sd tx rD bx r)).length<=100000000000000) (hid:id.length=32) (hok:ok.length=32) (hik:ik.length=32) (hoi:oi<=100000000000) (hii:ii<=100000000000) (hn1:oi<=2147483648/\ii<=2147483648/\lT<=2147483648) (hn2:lD<=2147483648/\tD<=2147483648) (hmx:1<=mx.length/\mx.length<=60000) (hm32:∀j,j<mx.length->(mx.getD j AW).length=32) (hlo:lT<=lD/\lD<=lT+mx.length-1/\lT<=A6 fi lT mx.length tD) (hkr:KRd ii kl) (hn:ep<=400000000/\aD<=1000000000) (hL:LdOk st ep sd tx rD rT bx):AP 60 ⟨[.cp 0 0,.cp 1 0],[(0,U5 false false),(1,C8 (MB id fi true ok oi ik ii lT mx lD tD kl (Hh st ep aD sd tx rD bx r)))],.tu (Jg []),[(0,A3 id fi true 2 3 4 lT mx lD tD kl),(1,C8 r),(2,Ag ok oi),(3,Ag ik ii),(4,AL st ep aD sd tx 5),(5,AT rD rT bx)]⟩:=by
 refine cy 2 func60 rfl ntmps60 λY V=> ?_
 have hx0:S_ 0=true:=(by decide)
 have hx1:¬((mx.length:Nat):Int)=0:=Ac
 have hx2:¬(lD:Int)<(lT:Int):=Ac
 have hx3:¬((lT+mx.length-1:Nat):Int)<(lD:Int):=Ac
 have hx4:¬((A6 fi lT mx.length tD:Nat):Int)<(lT:Int):=Ac
 have hx5:¬(60:Int)<((kl.length:Nat):Int):=(by have :=hkr.n;omega)
 refine Ar ?_
 have hr0:=N8 hr
 have hr1:=BE hr0
 have hr2:=BE hr1
 have hr3:=N8 hr2
 have hr4:=BE hr3
 have hr5:=N8 hr4
 have hr6:=BE hr5
 have hr7:=BE hr6
 have hr8:=Ji hr7
 have hr9:=BE hr8
 have hr10:=BE hr9
 have hr11:=BE hr10
 have V:=V.ch 1 (C8 (K4 id (Bb (AR fi) (Bb (AR true) (K4 ok (Bb oi (K4 ik (Bb ii (Bb lT (Cc mx (Bb lD (Bb tD (Bb kl.length (Gx kl (Hh st ep aD sd tx rD bx r))))))))))))))) (C8 (MB id fi true ok oi ik ii lT mx lD tD kl (Hh st ep aD sd tx rD bx r))) rfl
 have hm1:1<=mx.length/\mx.length<=100000:=⟨hmx.1,by omega⟩
 have hf1:=FL fi
 have hf2:=FL true
 refine Aw [(2,AA (IZ 32 id (Bb (AR fi) (Bb (AR true) (K4 ok (Bb oi (K4 ik (Bb ii (Bb lT (Cc mx (Bb lD (Bb tD (Bb kl.length (Gx kl (Hh st ep aD sd tx rD bx r))))))))))))) (by first |assumption|omega) (by first |assumption|omega)) [(0,1)] [])] [] 2 V λV=>Ae (Ay [(3,AA (CO (AR fi) (Bb (AR true) (K4 ok (Bb oi (K4 ik (Bb ii (Bb lT (Cc mx (Bb lD (Bb tD (Bb kl.length (Gx kl (Hh st ep aD sd tx rD bx r)))))))))))) (by first |assumption|omega) Ac) [(0,1)] []),(4,Vj fi [(decide (((AR fi:Nat):Int)=1))=fi] ⟨PT fi,aa⟩),(6,AA (CO (AR true) (K4 ok (Bb oi (K4 ik (Bb ii (Bb lT (Cc mx (Bb lD (Bb tD (Bb kl.length (Gx kl (Hh st ep aD sd tx rD bx r))))))))))) (by first |assumption|omega) Ac) [(0,1)] []),(7,Vj true [(decide (((AR true:Nat):Int)=1))=true] ⟨PT true,aa⟩)] [] 2 V λV=>Ar (Aj [32] 2 V λV=>BC (wp_loop_rounds 3 ?_)))
 refine Bc (n:=2) (Aj [] 2 V λV=>Ar (AG V (B3 (Ay [(0,AH 0 2)] [36,37] 2 V λV=>Aj [] 2 V λV=>Ay [(2,AA (IZ 32 ok (Bb oi (K4 ik (Bb ii (Bb lT (Cc mx (Bb lD (Bb tD (Bb kl.length (Gx kl (Hh st ep aD sd tx rD bx r)))))))))) (by first |assumption|omega) (by first |assumption|omega)) [(0,1)] []),(4,AA (CO oi (K4 ik (Bb ii (Bb lT (Cc mx (Bb lD (Bb tD (Bb kl.length (Gx kl (Hh st ep aD sd tx rD bx r))))))))) (by first |assumption|omega) Ac) [(0,1)] []),(5,AA (NO ok oi Ax) [] [(0,2)])] [38,39,40,41,42,43,44,45,46,47] 3 V λV=>Aw [(1,AS (FB 0 hx0))] [48] 3 V λV=>Ck (Dl [34,50] 3 V λV=>Ae ?_)))))
 refine Bc (n:=1) (Aj [] 3 V λV=>Ar (AG V (B3 (Ay [(0,AH 1 2)] [36,37] 3 V λV=>Aj [] 3 V λV=>Ay [(2,AA (IZ 32 ik (Bb ii (Bb lT (Cc mx (Bb lD (Bb tD (Bb kl.length (Gx kl (Hh st ep aD sd tx rD bx r)))))))) (by first |assumption|omega) (by first |assumption|omega)) [(0,1)] []),(4,AA (CO ii (Bb lT (Cc mx (Bb lD (Bb tD (Bb kl.length (Gx kl (Hh st ep aD sd tx rD bx r))))))) (by first |assumption|omega) Ac) [(0,1)] []),(5,AA (NO ik ii Ax) [] [(0,3)])] [38,39,40,41,42,43,44,45,46,47] 4 V λV=>Aw [(1,AS (FB 0 hx0))] [48] 4 V λV=>Ck (Dl [34,50] 4 V λV=>Ae ?_)))))
 refine Bc (n:=0) (Aj [] 4 V λV=>Ar (Ai V (Dw (Ay [(5,AA (CO lT (Cc mx (Bb lD (Bb tD (Bb kl.length (Gx kl (Hh st ep aD sd tx rD bx r)))))) (by first |assumption|omega) Ac) [(0,1)] []),(7,AA (Nr mx (Bb lD (Bb tD (Bb kl.length (Gx kl (Hh st ep aD sd tx rD bx r))))) A_ (by first |assumption|omega) A_) [(0,1)] []),(9,AA (CO lD (Bb tD (Bb kl.length (Gx kl (Hh st ep aD sd tx rD bx r)))) (by first |assumption|omega) Ac) [(0,1)] []),(11,AA (CO tD (Bb kl.length (Gx kl (Hh st ep aD sd tx rD bx r))) (by first |assumption|omega) Ac) [(0,1)] [])] [] 4 V λV=>Ar (Ay [(5,Do hx1),(15,Do hx2),(23,Ig (Ds lT mx GG Ac) [0,2] [.im (Jg [.top,.top,.top,.im (Jg []) 0,.top,.top,vi (lT:Int),.ls false A8 mx,.top,.top,.top]) 0]),(24,Do hx3),(28,Ig (H4 fi lT mx tD GG Ac) [0,2] [.im (Jg [.top,.v (.bool fi),.top,.im (Jg []) 0,.top,.top,vi (lT:Int),.ls false A8 mx,.top,vi (tD:Int),.top]) 0]),(33,Do hx4)] [] 4 V λV=>Ai V (Cb (Ay [(1,AA (CO kl.length (Gx kl (Hh st ep aD sd tx rD bx r)) (by first |assumption|omega) Ac) [(0,1)] [])] [] 4 V λV=>Ar (Ay [(1,Do hx5)] [] 4 V λV=>Ai V (DG (Ar ?_))))))))))
 obtain⟨gs,V⟩:=V.nilob 0 10 86 CM
 refine Dl [] 5 V λV=>Ae (BC (AC (ι:=Nat) Y V (λi=>(kl.length-i,[(113,vi ((i:Nat):Int))],[(1,C8 (Gx (kl.drop i) (Hh st ep aD sd tx rD bx r))),(4,.sl 86 CM (kl.take i))],(i<=kl.length)/\True)) [0,1,112] [0,2,3] 5 0 [(0,0),(1,1),(2,2),(3,3),(4,4)] ⟨Ac,aa⟩ ?_))
 rintro i ac gs ws ⟨hi,_⟩ V
 refine Aj [] 5 V λV=>Ar (AJ ((i:Int)<((kl.length:Nat):Int)) V (λh1=> ?_) (λh1=> ?_))
 ·refine B3 (Ar ?_)
  have V:=V.ch 1 (C8 (Bb (kl.getD i kz).1.toNat (Bb (kl.getD i kz).2.1.toNat (Cc (kl.getD i kz).2.2 (Gx (kl.drop (i+1)) (Hh st ep aD sd tx rD bx r)))))) (C8 (Gx (kl.drop i) (Hh st ep aD sd tx rD bx r))) (by rw[LV Ac]<;>rfl)
  have hra:(Bb (kl.getD i kz).1.toNat (Bb (kl.getD i kz).2.1.toNat (Cc (kl.getD i kz).2.2 (Gx (kl.drop (i+1)) (Hh st ep aD sd tx rD bx r))))).length<=100000000000000:=by rw[<-LV Ac];exact MJ i hr11
  have hrb:=BE hra
  have hrc:=BE hrb
  have hkj:=hkr.k i Ac
  have hke:=hkj.2.2.2
  have hkd:=hkr.d i Ac
  refine Aw [(1,AA (CO ((kl.getD i kz).1.toNat) (Bb (kl.getD i kz).2.1.toNat (Cc (kl.getD i kz).2.2 (Gx (kl.drop (i+1)) (Hh st ep aD sd tx rD bx r)))) (by first |assumption|omega) Ac) [(0,1)] []),(3,AA (CO ((kl.getD i kz).2.1.toNat) (Cc (kl.getD i kz).2.2 (Gx (kl.drop (i+1)) (Hh st ep aD sd tx rD bx r))) (by first |assumption|omega) Ac) [(0,1)] []),(5,AA (Nr (kl.getD i kz).2.2 (Gx (kl.drop (i+1)) (Hh st ep aD sd tx rD bx r)) A_ (by first |assumption|omega) A_) [(0,1)] [])] [8] 6 V λV=>CQ (Ar ?_)
  have hy1:¬(ii:Int)<=(((kl.getD i kz).1.toNat:Nat):Int):=Ac
  have hy2:¬(0:Int)<=(CV (kl.take i) ((((kl.getD i kz).1.toNat):Nat):Int)):=Ac
  refine Aw [(6,AA (Cn ik ii) [(0,3)] []),(7,Do hy1),(12,AA (cQ id fi ok oi ik ii lT mx lD tD (kl.take i) ((kl.getD i kz).1.toNat)) [(0,0),(1,2),(2,3),(3,4)] []),(13,Do hy2)] [] 6 V λV=>Ae (Ai V (Cb (Aw [(7,Gt ((kl.take i).length) 1 40)] [] 7 V λV=> ?_)))
  have V:=V.ch 6 (.sl 86 CM (kl.take (i+1))) (.sl 86 CM ((kl.take i)++[((((kl.getD i kz).1.toNat:Nat):Int),(((kl.getD i kz).2.1.toNat:Nat):Int),(kl.getD i kz).2.2)])) (dp (λz:List KR=>O.sl 86 CM z) (Kz hkr (i:=i) Ac).symm)
  exact Ck (Aw [(0,Cu i)] [113] 7 V λV=>Ae (As Y V (i+1) [(0,0),(1,1),(2,2),(3,3),(4,6)] ⟨Ac,aa⟩))
 ·have hT:=V
  obtain rfl:kl.length=i:=by omega
  have V:=hT
  refine JH ?_
  have hw9:=MJ kl.length hr11
  rw[MH (an _)]at hw9
  have V:=V.ch 1 (C8 (Hh st ep aD sd tx rD bx r)) (C8 (Gx (kl.drop kl.length) (Hh st ep aD sd tx rD bx r))) (by rw[MH Ac]<;>rfl)
  have V:=V.ch 4 (.sl 86 CM kl) (.sl 86 CM (kl.take kl.length)) (dp (λz:List KR=>O.sl 86 CM z) (show kl.take kl.length=kl by rw[bp Ac]))
  obtain⟨gs,V⟩:=V.fz 4
  refine Dl [] 5 V λV=>Ae (AG V (Aw [(2,AA (kU st ep aD sd tx rD rT bx r hw9 hn hL) [(0,1)] [(1,5),(2,6)])] [] 7 V λV=> ?_))
  obtain⟨gs,V⟩:=V.rx [(0,0),(1,1),(2,2),(3,3),(4,5),(5,6)] [] [0,1,2,3,4,5] 6 Y
  exact fQ V
end
section
variable (id:Ad) (fi:Bool) (ok:Ad) (oi:Nat) (ik:Ad)
theorem VB (id : Ad) (fi : Bool) (ok : Ad) (oi : Nat) (ik : Ad) (ii lT : Nat) (mx : AZ) (lD tD : Nat) (kl : List KR) (st ep aD : Nat) (sd tx : Ad) (rD rT : Nat) (bx : CB) (r : Ad) :
  ∀i,i<=kl.length->Fh id fi ok oi ik ii lT mx lD tD kl st ep aD sd tx rD rT bx i++Gx (kl.drop i) r=MB id fi true ok oi ik ii lT mx lD tD kl r
 |0,_=>by
  show(((((((((((([]++id)++Ah (AR fi))++Ah (AR true))++ok)++Ah oi)++ik)++Ah ii)++Ah lT)++DN mx)++Ah lD)++Ah tD)++Ah kl.length)++Gx kl r=_
  rw[Dh,Dh,Dh,MG,Dh,Dh,Ss,Dh,Ss,Dh,Dh,Ss]
  rfl
 |i+1,h=>by
  rw[<-VB id fi ok oi ik ii lT mx lD tD kl st ep aD sd tx rD rT bx r i Ac,LV (i:=i) h]
  show((Fh id fi ok oi ik ii lT mx lD tD kl st ep aD sd tx rD rT bx i++Ah (kl.getD i kz).1.toNat)++Ah (kl.getD i kz).2.1.toNat)++DN (kl.getD i kz).2.2++Gx (kl.drop (i+1)) r=_
  rw[MG,Dh,Dh]
theorem L5 (ii lT:Nat) (mx:AZ) (lD tD:Nat) (kl:List KR) (st ep aD:Nat) (sd tx:Ad) (rD rT:Nat) (bx:CB):EK id fi ok oi ik ii lT mx lD tD kl st ep aD sd tx rD rT bx=MB id fi true ok oi ik ii lT mx lD tD kl (Hh st ep aD sd tx rD bx []):=by
 unfold EK;rw[Ab];rw[<-VB id fi ok oi ik ii lT mx lD tD kl st ep aD sd tx rD rT bx _ kl.length (an _),MH (an _)]<;>rfl
theorem i9 (ii lT:Nat) (mx:AZ) (lD tD:Nat) (kl:List KR) (st ep aD:Nat) (sd tx:Ad) (rD rT:Nat) (bx:CB) (hr:(MB id fi true ok oi ik ii lT mx lD tD kl (Hh st ep aD sd tx rD bx [])).length<=100000000000000) (hid:id.length=32) (hok:ok.length=32) (hik:ik.length=32) (hoi:oi<=100000000000) (hii:ii<=100000000000) (hn1:oi<=2147483648/\ii<=2147483648/\lT<=2147483648) (hn2:lD<=2147483648/\tD<=2147483648) (hmx:1<=mx.length/\mx.length<=60000) (hm32:∀j,j<mx.length->(mx.getD j AW).length=32) (hlo:lT<=lD/\lD<=lT+mx.length-1/\lT<=A6 fi lT mx.length tD) (hkr:KRd ii kl) (hn:ep<=400000000/\aD<=1000000000) (hL:LdOk st ep sd tx rD rT bx):AP 59 ⟨[lb (MB id fi true ok oi ik ii lT mx lD tD kl (Hh st ep aD sd tx rD bx [])),.fn 60 (Jg [.cp 0 0]) (Jg [])],[(0,U5 false false)],vi 0,[(0,A3 id fi true 3 4 5 lT mx lD tD kl),(3,Ag ok oi),(4,Ag ik ii),(5,AL st ep aD sd tx 6),(6,AT rD rT bx)]⟩:=by
 refine Du rfl (nb:=1) func59 rfl rfl ntmps59 rfl rfl rfl λg0 w0 ac gs ws Y V=> ?_
 have V:=V.sp
 have hrk:Er []=true:=(by unfold Er;rw[Ab];rfl)
 refine Aj [] 2 V λV=>Ar ?_
 have V:=V.rv [(0,lb (MB id fi true ok oi ik ii lT mx lD tD kl (Hh st ep aD sd tx rD bx []))),(1,.fn 60 (Jg [.cp 0 0]) (Jg [])),(4,.cp 1 0)] [(0,some (U5 false false)),(1,some (Da))]
 refine FM rfl V (cs:=[.cp 1 0]) rfl rfl rfl λD vds ac hD hcv hB V=> ?_
 have V:=V.sp
 refine Ae (Ay [(1,AA (G5 (MB id fi true ok oi ik ii lT mx lD tD kl (Hh st ep aD sd tx rD bx [])) Ax) [] [(0,2)])] [] 3 V λV=>Ar (Aj [] 3 V λV=>AG V (Aw [(2,AA (bU id fi ok oi ik ii lT mx lD tD kl st ep aD sd tx rD rT bx ([]:Ad) A_ (by first |assumption|omega) Ax Ax Ac Ac Ac Ac (by first |assumption|omega) A_ (by first |assumption|omega) A_ Ac A_) [(0,0),(1,2)] [(2,3),(3,4),(4,5),(5,6)])] [] 7 V λV=>Ae (Ay [(1,AA (It ([]:Ad) hrk) [(0,2)] [])] [] 7 V λV=>Aj [] 7 V λV=>AY ?_))))
 have V:=V.rv [(4,.cp 1 0)] [(0,some (A3 id fi true 3 4 5 lT mx lD tD kl)),(1,some (Da)),(3,some (Ag ok oi)),(4,some (Ag ik ii)),(5,some (AL st ep aD sd tx 6)),(6,some (AT rD rT bx))]
 exact Mm (.inr rfl) V hD (DT ⟨88,(Lr),[(0,1)],[]⟩ [(1,some (Da)),(0,some (A3 id fi true 3 4 5 lT mx lD tD kl)),(1,some (Da)),(3,some (Ag ok oi)),(4,some (Ag ik ii)),(5,some (AL st ep aD sd tx 6)),(6,some (AT rD rT bx))] hB V hcv (show FrameMode.returning≠ .run from nofun) rfl rfl rfl (Kh) rfl ⟨rfl,aa⟩ rfl (ds:=[vi 0]) (by kernel_rfl) rfl ⟨rfl,rfl,rfl,rfl,rfl,aa⟩)
theorem Zk (ii lT:Nat) (mx:AZ) (lD tD:Nat) (kl:List KR) (st ep aD:Nat) (sd tx:Ad) (rD rT:Nat) (bx:CB) (hr:(EK id fi ok oi ik ii lT mx lD tD kl st ep aD sd tx rD rT bx).length<=100000000000000) (hid:id.length=32) (hok:ok.length=32) (hik:ik.length=32) (hoi:oi<=100000000000) (hii:ii<=100000000000) (hn1:oi<=2147483648/\ii<=2147483648/\lT<=2147483648) (hn2:lD<=2147483648/\tD<=2147483648) (hmx:1<=mx.length/\mx.length<=60000) (hm32:∀j,j<mx.length->(mx.getD j AW).length=32) (hlo:lT<=lD/\lD<=lT+mx.length-1/\lT<=A6 fi lT mx.length tD) (hkr:KRd ii kl) (hn:ep<=400000000/\aD<=1000000000) (hL:LdOk st ep sd tx rD rT bx):AP 29 ⟨[lb (EK id fi ok oi ik ii lT mx lD tD kl st ep aD sd tx rD rT bx)],[],.tu (Jg [.cp 0 0,vi 0]),[(0,A3 id fi true 1 2 3 lT mx lD tD kl),(1,Ag ok oi),(2,Ag ik ii),(3,AL st ep aD sd tx 4),(4,AT rD rT bx)]⟩:=by
 refine cy 0 func29 rfl ntmps29 λY V=> ?_
 have hq1:(EK id fi ok oi ik ii lT mx lD tD kl st ep aD sd tx rD rT bx)=(MB id fi true ok oi ik ii lT mx lD tD kl (Hh st ep aD sd tx rD bx [])):=(L5 ..)
 refine Ar ?_
 have hr2:(MB id fi true ok oi ik ii lT mx lD tD kl (Hh st ep aD sd tx rD bx [])).length<=100000000000000:=by rw[<-L5];exact hr
 have hKK:=hkr.KOk hii
 have hmm:=dW hm32
 have hm1:1<=mx.length/\mx.length<=100000:=⟨hmx.1,by omega⟩
 refine Dl [] 0 V λV=>CQ ?_
 have V:=V.cl 0 (lb (MB id fi true ok oi ik ii lT mx lD tD kl (Hh st ep aD sd tx rD bx []))) (lb (EK id fi ok oi ik ii lT mx lD tD kl st ep aD sd tx rD rT bx)) (by rw[L5]<;>rfl)
 refine Dl [] 1 V λV=>CQ (Ay [(3,AA (i9 id fi ok oi ik ii lT mx lD tD kl st ep aD sd tx rD rT bx A_ (by first |assumption|omega) Ax Ax Ac Ac Ac Ac (by first |assumption|omega) A_ (by first |assumption|omega) A_ Ac A_) [(0,0)] [(3,1),(4,2),(5,3),(6,4)]),(7,AA (Oa id fi ok oi ik ii lT mx lD tD kl st ep aD sd tx rD rT bx Ax Ax Ac Ac GG (by first |assumption|(intro j;simp<;>omega)) Ac A_ Ac Ac Ax Ac A_) [(0,0),(1,1),(2,2),(3,3),(4,4)] []),(9,AS (Ew (EK id fi ok oi ik ii lT mx lD tD kl st ep aD sd tx rD rT bx) (MB id fi true ok oi ik ii lT mx lD tD kl (Hh st ep aD sd tx rD bx []))))] [] 5 V λV=>IH ((EK id fi ok oi ik ii lT mx lD tD kl st ep aD sd tx rD rT bx)=(MB id fi true ok oi ik ii lT mx lD tD kl (Hh st ep aD sd tx rD bx []))) V (λh1=> ?_) (λh1=> ?_))
 ·exact absurd hq1 h1
 ·exact Cb (Aj [] 5 V λV=>AY (BW V))
end
theorem VC {id : Ad} (fi : Bool) {ok : Ad} {oi : Nat} {ik : Ad} {ii lT : Nat} {mx : AZ} {lD tD : Nat} {kl : List KR} (hid : id.length = 32) (hok : ok.length = 32) (hik : ik.length = 32) (h1 : oi <= 100000000000 /\ ii <= 100000000000 /\ lT <= 100000000000 /\ lD <= 100000000000 /\ tD <= 100000000000) (hm1 : mx.length <= 100000) (hm2 : ∀ j, (mx.getD j AW).length <= 32) (hK : KOk kl) (st ep aD : Nat) (sd tx : Ad) (rD rT : Nat) (bx : CB) :
  ∀i,i<=kl.length->(Fh id fi ok oi ik ii lT mx lD tD kl st ep aD sd tx rD rT bx i).length<=5000000+i*5000000:=by
 intro i
 induction i with
 |zero=>
  intro _
  have hf1:=FL fi
  have hf2:=FL true
  have a1:=Aq (n:=AR fi) Ac
  have a2:=Aq (n:=AR true) Ac
  have a3:=Aq (n:=oi) Ac
  have a4:=Aq (n:=ii) Ac
  have a5:=Aq (n:=lT) Ac
  have a6:=Aq (n:=lD) Ac
  have a7:=Aq (n:=tD) Ac
  have hk:=hK.1
  have a8:=Aq (n:=kl.length) Ac
  have a9:=Iw hm1 hm2
  show((((((((((([]++id)++Ah (AR fi))++Ah (AR true))++ok)++Ah oi)++ik)++Ah ii)++Ah lT)++DN mx)++Ah lD)++Ah tD++Ah kl.length:Ad).length<=_
  simp only[ab,au]
  omega
 |succ i ih=>
  intro h
  have ih:=ih Ac
  have hk:(0<=(kl.getD i kz).1/\(kl.getD i kz).1<=1000000000000)/\(0<=(kl.getD i kz).2.1/\(kl.getD i kz).2.1<=1000000000000)/\(kl.getD i kz).2.2.length<=100000/\∀k∈(kl.getD i kz).2.2,k.length=32:=hK.2 i Ac
  have b1:=Aq (n:=(kl.getD i kz).1.toNat) Ac
  have b2:=Aq (n:=(kl.getD i kz).2.1.toNat) Ac
  have b3:=Iw hk.2.2.1 (Uf hk.2.2.2)
  show(((Fh id fi ok oi ik ii lT mx lD tD kl st ep aD sd tx rD rT bx i++Ah (kl.getD i kz).1.toNat)++Ah (kl.getD i kz).2.1.toNat)++DN (kl.getD i kz).2.2:Ad).length<=_
  simp only[ab]
  rw[eP]
  omega
structure LdE (fi:Bool) (id:Ad) (e:EndH):Prop where
 id:id.length=32
 ok:e.ok.length=32
 ik:e.ik.length=32
 n:e.oi<=1000000/\e.ii<=1000000/\e.lT<=10000000/\e.lD<=20000000/\e.tD<=20000000
 mx:1<=e.mx.length/\e.mx.length<=60000
 m32:∀j,j<e.mx.length->(e.mx.getD j AW).length=32
 lo:e.lT<=e.lD/\e.lD<=e.lT+e.mx.length-1/\e.lT<=A6 fi e.lT e.mx.length e.tD
 kr:KRd e.ii e.kl
 ra:e.ep<=400000000/\e.aD<=1000000000
 L:LdOk e.st e.ep e.sd e.tx e.rD e.rT e.bx
theorem LdE.len {fi:Bool} {id:Ad} {e:EndH} (h:LdE fi id e):(EK id fi e.ok e.oi e.ik e.ii e.lT e.mx e.lD e.tD e.kl e.st e.ep e.aD e.sd e.tx e.rD e.rT e.bx).length<=100000000000000:=by
 have h1:=h.n;have h2:=h.mx
 have hK:=h.kr.KOk Ac
 have a:=VC fi h.id h.ok h.ik (oi:=e.oi) (ii:=e.ii) (lT:=e.lT) (lD:=e.lD) (tD:=e.tD) ⟨by omega,by omega,by omega,by omega,by omega⟩ Ac (dW h.m32) hK e.st e.ep e.aD e.sd e.tx e.rD e.rT e.bx e.kl.length (an _)
 have b:=ZW h.ra h.L
 have c:=hK.1
 unfold EK;rw[Ab]
 rw[ab];omega
structure Tz (id:Ad) (fi:Bool) (e:EndH) (xs:Ad) (er:Nat):Prop where
 p:B_ xs=true
 k:BZ id fi e.ok e.oi e.ik e.ii e.lT e.mx e.lD e.tD e.kl (Aa xs).1 (Aa xs).2.1 (Aa xs).2.2.1 (Aa xs).2.2.2.1 (Aa xs).2.2.2.2.1 (Aa xs).2.2.2.2.2=false
 e:Bw id fi e.ok e.oi e.ik e.ii e.lT e.mx e.lD e.tD e.kl (Aa xs).1 (Aa xs).2.1 (Aa xs).2.2.1 (Aa xs).2.2.2.1 (Aa xs).2.2.2.2.1 (Aa xs).2.2.2.2.2=er
end
end Go.Sx.Tryz
