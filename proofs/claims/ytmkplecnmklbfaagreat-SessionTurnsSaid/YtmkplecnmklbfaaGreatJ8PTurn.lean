/- General lemmas, walks. -/
import Derived.Test.YtmkplecnmklbfaaGreatJ7PTurn
set_option maxRecDepth 100000
set_option maxHeartbeats 1000000
set_option linter.unusedSimpArgs false
set_option linter.unusedVariables false
set_option linter.unnecessarySimpa false
set_option linter.unusedSectionVars false
namespace Go.Sx.Tryz
open Go.Mi Go.RowKit Go.Sx Go.Proofs
noncomputable section
theorem xI {id ai ct:Nat} {d:List Int} (h:id<2^62∧ai<2^62∧ct<2^62) (hd:d.length≤1000):(Ds id ai ct d).length≤1040:=by
 have h1:=AH (n:=id) Ac
 have h2:=AH (n:=ai) Ac
 have h3:=AH (n:=ct) Ac
 have h4:=AH (n:=d.length) Ac
 unfold Ds
 simp only[List.length_append];omega
theorem Om (st ep at_:Nat) (sd tx:List Int) (id ln:Nat) (bx:List (Option (List Int))) (r:List Int) (he:ep≤400000000) (hx:tx.length≤10000) (hr:r.length=64) (hat:at_<2^62):(A3 st ep at_ sd tx id ln bx r).2.2.2.length≤1040:=by
 have hkl:=(Hu (r.take 32) (r.drop 32) (by rw[List.length_drop];omega)).1
 have key:∀(i:Nat) (t:List Int),i≤1000000000→t.length≤10000→(Ds i (at_%(Al i t 1000).length) (Al i t 1000).length ((t.drop ((at_%(Al i t 1000).length)*1000)).take 1000)).length≤1040:=by
  intro i t hi ht
  have hs:=GK i t 1000
  have hm:at_%(Al i t 1000).length<2^62:=by
   by_cases h0:(Al i t 1000).length=0
   ·have ht0:(t.length+1000-1)/1000=0:=by rw[←hs];exact h0
    have :Al i t 1000=[]:=List.eq_nil_of_length_eq_zero h0
    rw[h0,Nat.mod_zero]
    exact hat
   ·have :=Nat.mod_lt at_ (Nat.pos_of_ne_zero h0);omega
  exact xI ⟨by omega,hm,by omega⟩ (by rw[List.length_take];omega)
 rw[HV]
 unfold Nj
 split
 ·exact Nat.zero_le _
 ·split
  ·split
   ·exact key _ _ Ac (by rw[hkl];decide)
   ·exact key _ _ Ac hx
  ·split
   ·exact key _ _ Ac (by rw[hkl];decide)
   ·exact key _ _ Ac hx
section
variable (id:List Int) (fi:Bool) (ok:List Int) (oi:Nat) (ik:List Int) (ii low:Nat) (mx:List (List Int)) (last told:Nat) (kl:List KR) (st:Nat) (ep at_:Nat) (sd tx:List Int) (rid rln:Nat) (bx:List (Option (List Int))) (k:List Int) (n:Nat)
def qT:Con:=Cq [.cp 0 0,lb k,vi (n:Int)] [(0,B8 id fi true 1 2 3 low mx last told kl),(1,Ao ok oi),(2,Ao ik ii),(3,A9 st ep at_ sd tx 4),(4,BA rid rln bx)] (lb (AI k (mx.getD (n-low) (rz [.sl (.int .u8)])) [109,101,115,115,97,103,101]))
theorem cR (hm1:1≤mx.length∧mx.length≤100000) (hm2:∀j,(mx.getD j (rz [.sl (.int .u8)])).length≤32) (hlow:low≤100000000000) (hk:k.length=32) (hn:low≤n∧n<low+mx.length):ConOk Tryz.prog 51 (qT id fi ok oi ik ii low mx last told kl st ep at_ sd tx rid rln bx k n):=by
 refine cy 5 Tryz.func51 rfl Tryz.ntmps51 fun hg0 hS=> ?_
 have Bf:k.length≤9223372036854775807:=hS.len 1 rfl
 refine Ae [] 5 hS fun hS=>Au ?_
 have hmk:=hm2 (n-low)
 exact Av [(10,GD n low (n-low)),(11,AG (n-low) mx.length),(13,Row),(14,OM (0<[109,101,115,115,97,103,101].length) (by decide)),(15,AR (EJ k (mx.getD (n-low) (rz [.sl (.int .u8)])) [109,101,115,115,97,103,101] AD AD AD))] [] 6 hS fun hS=>D6 (Ci hS)
end
section
variable (fi:Bool) (ok:List Int) (oi low:Nat) (mx:List (List Int)) (told:Nat) (st ep at_:Nat) (sd tx:List Int) (rid rln:Nat) (bx:List (Option (List Int))) (text rand:List Int)
def jR:(List Int)×Nat×Nat×(List Int)×(List Int)×(List Int):=(P9 ok,(oi+1),((A3 st ep at_ sd tx rid rln bx (rand.take 64)).1),(A3 st ep at_ sd tx rid rln bx (rand.take 64)).2.1,(A3 st ep at_ sd tx rid rln bx (rand.take 64)).2.2.1,(((([]++Aj ((((([]++Aj oi)++Aj (AV fi low mx.length told))++Aj (low+mx.length-1))++Aj ((A3 st ep at_ sd tx rid rln bx (rand.take 64)).2.2.2).length)++((A3 st ep at_ sd tx rid rln bx (rand.take 64)).2.2.2)).length)++((((([]++Aj oi)++Aj (AV fi low mx.length told))++Aj (low+mx.length-1))++Aj ((A3 st ep at_ sd tx rid rln bx (rand.take 64)).2.2.2).length)++((A3 st ep at_ sd tx rid rln bx (rand.take 64)).2.2.2)))++Aj (C_ (AI (J6 ok) (mx.getD ((AV fi low mx.length told)-low) (rz [.sl (.int .u8)])) [109,101,115,115,97,103,101]) (List.replicate 12 (0:Int)) ((((([]++Aj oi)++Aj (AV fi low mx.length told))++Aj (low+mx.length-1))++Aj ((A3 st ep at_ sd tx rid rln bx (rand.take 64)).2.2.2).length)++((A3 st ep at_ sd tx rid rln bx (rand.take 64)).2.2.2)) text).length)++(C_ (AI (J6 ok) (mx.getD ((AV fi low mx.length told)-low) (rz [.sl (.int .u8)])) [109,101,115,115,97,103,101]) (List.replicate 12 (0:Int)) ((((([]++Aj oi)++Aj (AV fi low mx.length told))++Aj (low+mx.length-1))++Aj ((A3 st ep at_ sd tx rid rln bx (rand.take 64)).2.2.2).length)++((A3 st ep at_ sd tx rid rln bx (rand.take 64)).2.2.2)) text)))
def XV:(List Int)×Nat×Nat×(List Int)×(List Int)×(List Int):=AJ (jR fi ok oi low mx told st ep at_ sd tx rid rln bx text rand)
theorem jS:XV fi ok oi low mx told st ep at_ sd tx rid rln bx text rand=jR fi ok oi low mx told st ep at_ sd tx rid rln bx text rand:=Af _
end
section
variable (id:List Int) (fi:Bool) (ok:List Int) (oi:Nat) (ik:List Int) (ii low:Nat) (mx:List (List Int)) (last told:Nat) (kl:List KR) (st:Nat) (ep at_:Nat) (sd tx:List Int) (rid rln:Nat) (bx:List (Option (List Int))) (text rand:List Int)
def qS (z_:(List Int)×Nat×Nat×(List Int)×(List Int)×(List Int):=XV fi ok oi low mx told st ep at_ sd tx rid rln bx text rand):Con:=⟨[.cp 0 0,lb text,lb rand],[(0,B8 id fi true 1 2 3 low mx last told kl),(1,Ao ok oi),(2,Ao ik ii),(3,A9 st ep at_ sd tx 4),(4,BA rid rln bx)],.tu (chain [lb (z_.2.2.2.2.2),vi (oi:Int),vi 0]),[(0,B8 id fi true 1 2 3 low mx last told kl),(1,Ao (z_.1) z_.2.1),(2,Ao ik ii),(3,A9 st ep z_.2.2.1 (z_.2.2.2.1) (z_.2.2.2.2.1) 4),(4,BA rid rln bx)]⟩
theorem uE (hok:ok.length=32) (hik:ik.length=32) (hoi:oi≤100000000000) (hii:ii≤100000000000) (hm1:1≤mx.length∧mx.length≤100000) (hm2:∀j,(mx.getD j (rz [.sl (.int .u8)])).length≤32) (hlow:low≤100000000000) (hmn:low≤AV fi low mx.length told) (htx0:text.length≤500) (hr0:rand.length=128) (hst:st=1∨st=2∨st=3) (he:ep≤400000000) (ha:at_≤1000000000) (ht:(st=1→tx.length=0∨tx.length=1184)∧(st=3→tx.length=1088)) (htl:tx.length≤10000):ConOk Tryz.prog 24 (qS id fi ok oi ik ii low mx last told kl st ep at_ sd tx rid rln bx text rand):=by
 refine cy 5 Tryz.func24 rfl Tryz.ntmps24 fun hg0 hS=> ?_
 have Bf:text.length≤9223372036854775807:=hS.len 1 rfl
 have CF:rand.length≤9223372036854775807:=hS.len 2 rfl
 have hr1:((rand.length:Nat):Int)=128:=Ac
 have hx1:¬(500:Int)<((text.length:Nat):Int):=Ac
 refine Ae [] 5 hS fun hS=>Au (Br (Ay [(1,Lc (BN) [0,1] [.im (chain [.top,.top,.top,.im (chain []) 0,.top,.top,.top,.top,.top,.top,.top]) 0]),(5,Ik hr1)] [] 5 hS fun hS=>Ai hS (Ay [(2,Ez hx1)] [] 5 hS fun hS=>Ai hS (Iu (Ae [] 5 hS fun hS=>Au (Ae [] 5 hS fun hS=>AQ hS (Ae [] 5 hS fun hS=>Av [(2,g9 64 rand.length),(3,AO (vI st ep at_ sd tx rid rln bx (rand.take 64) BC AD Ac Ac BC) [(0,3),(1,4)] [])] [] 5 hS fun hS=>Ab (Ay [(4,AO (CM ok oi) [(0,1)] [])] [] 5 hS fun hS=>Ay [(1,Lc (KF fi low mx told MW Ac) [0,1] [.im (chain [.top,.v (.bool fi),.top,.im (chain []) 0,.top,.top,vi (low:Int),.ls false [.sl (.int .u8)] mx,.top,vi (told:Int),.top]) 0])] [] 5 hS fun hS=>Ae [] 6 hS fun hS=>Au ?_))))))))
 have hmx:=HZ fi low mx.length told Ac
 have hw1:=AH (n:=oi) Ac
 have hw2:=AH (n:=AV fi low mx.length told) Ac
 have hw3:=AH (n:=low+mx.length-1) Ac
 have hpcl:=Om st ep at_ sd tx rid rln bx (rand.take 64) he htl (by rw[List.length_take];omega) Ac
 have hw4:=AH (n:=((A3 st ep at_ sd tx rid rln bx (rand.take 64)).2.2.2).length) Ac
 refine Av [(2,Xx oi),(3,AO (Lg oi Ac) [(0,5)] [(1,6)]),(5,Xx (AV fi low mx.length told)),(6,AO (HG ([]++Aj oi) (AV fi low mx.length told) AD Ac) [(0,5),(1,6)] [(2,7)]),(8,Lc (Dv low mx MW Ac) [0,1] [.im (chain [.top,.top,.top,.im (chain []) 0,.top,.top,vi (low:Int),.ls false [.sl (.int .u8)] mx,.top,.top,.top]) 0]),(9,Xx (low+mx.length-1)),(10,AO (HG (([]++Aj oi)++Aj (AV fi low mx.length told)) (low+mx.length-1) AD Ac) [(0,5),(1,7)] [(2,8)]),(12,AO (F5 ((([]++Aj oi)++Aj (AV fi low mx.length told))++Aj (low+mx.length-1)) ((A3 st ep at_ sd tx rid rln bx (rand.take 64)).2.2.2) AD AD) [(0,5),(1,8)] [(2,9)]),(13,AO (G4 ((((([]++Aj oi)++Aj (AV fi low mx.length told))++Aj (low+mx.length-1))++Aj ((A3 st ep at_ sd tx rid rln bx (rand.take 64)).2.2.2).length)++((A3 st ep at_ sd tx rid rln bx (rand.take 64)).2.2.2)) AD) [(0,5),(1,9)] [])] [] 10 hS fun hS=>Ej ?_
 have hmx:=HZ fi low mx.length told Ac
 have hw1:=AH (n:=oi) Ac
 have hw2:=AH (n:=AV fi low mx.length told) Ac
 have hw3:=AH (n:=low+mx.length-1) Ac
 have hpcl:=Om st ep at_ sd tx rid rln bx (rand.take 64) he htl (by rw[List.length_take];omega) Ac
 have hw4:=AH (n:=((A3 st ep at_ sd tx rid rln bx (rand.take 64)).2.2.2).length) Ac
 have hhd:((((([]++Aj oi)++Aj (AV fi low mx.length told))++Aj (low+mx.length-1))++Aj ((A3 st ep at_ sd tx rid rln bx (rand.take 64)).2.2.2).length)++((A3 st ep at_ sd tx rid rln bx (rand.take 64)).2.2.2)).length≤1200:=by simp only[List.length_append,List.length_nil];omega
 refine Av [(5,AO (HC ok oi AD Ac) [(0,1)] []),(7,AO (cR id fi (P9 ok) (oi+1) ik ii low mx last told kl st ep ((A3 st ep at_ sd tx rid rln bx (rand.take 64)).1) ((A3 st ep at_ sd tx rid rln bx (rand.take 64)).2.1) ((A3 st ep at_ sd tx rid rln bx (rand.take 64)).2.2.1) rid rln bx (J6 ok) (AV fi low mx.length told) MW (by first |assumption|(intro j;simp<;>omega)) Ac AD Ac) [(0,0),(1,1),(2,2),(3,3),(4,4)] []),(8,U6 .mf [(12:Int)=12,(0:Int)≤12,1*12≤281474976710656,(12:Int)≤9223372036854775807] ⟨rfl,by omega,by omega,by omega,trivial⟩),(11,AR (ZE (AI (J6 ok) (mx.getD ((AV fi low mx.length told)-low) (rz [.sl (.int .u8)])) [109,101,115,115,97,103,101]) (List.replicate 12 (0:Int)) ((((([]++Aj oi)++Aj (AV fi low mx.length told))++Aj (low+mx.length-1))++Aj ((A3 st ep at_ sd tx rid rln bx (rand.take 64)).2.2.2).length)++((A3 st ep at_ sd tx rid rln bx (rand.take 64)).2.2.2)) text AD AD AD AD))] [] 10 hS fun hS=>Ej ?_
 have hmx:=HZ fi low mx.length told Ac
 have hw1:=AH (n:=oi) Ac
 have hw2:=AH (n:=AV fi low mx.length told) Ac
 have hw3:=AH (n:=low+mx.length-1) Ac
 have hpcl:=Om st ep at_ sd tx rid rln bx (rand.take 64) he htl (by rw[List.length_take];omega) Ac
 have hw4:=AH (n:=((A3 st ep at_ sd tx rid rln bx (rand.take 64)).2.2.2).length) Ac
 have hhd:((((([]++Aj oi)++Aj (AV fi low mx.length told))++Aj (low+mx.length-1))++Aj ((A3 st ep at_ sd tx rid rln bx (rand.take 64)).2.2.2).length)++((A3 st ep at_ sd tx rid rln bx (rand.take 64)).2.2.2)).length≤1200:=by simp only[List.length_append,List.length_nil];omega
 have hw5:=AH (n:=((((([]++Aj oi)++Aj (AV fi low mx.length told))++Aj (low+mx.length-1))++Aj ((A3 st ep at_ sd tx rid rln bx (rand.take 64)).2.2.2).length)++((A3 st ep at_ sd tx rid rln bx (rand.take 64)).2.2.2)).length) Ac
 have hw5s:=hw5
 simp only[List.length_append,List.length_nil]at hw5s
 have hsl:(C_ (AI (J6 ok) (mx.getD ((AV fi low mx.length told)-low) (rz [.sl (.int .u8)])) [109,101,115,115,97,103,101]) (List.replicate 12 (0:Int)) ((((([]++Aj oi)++Aj (AV fi low mx.length told))++Aj (low+mx.length-1))++Aj ((A3 st ep at_ sd tx rid rln bx (rand.take 64)).2.2.2).length)++((A3 st ep at_ sd tx rid rln bx (rand.take 64)).2.2.2)) text).length=text.length+32:=IJ ..
 have hw6:=AH (n:=(C_ (AI (J6 ok) (mx.getD ((AV fi low mx.length told)-low) (rz [.sl (.int .u8)])) [109,101,115,115,97,103,101]) (List.replicate 12 (0:Int)) ((((([]++Aj oi)++Aj (AV fi low mx.length told))++Aj (low+mx.length-1))++Aj ((A3 st ep at_ sd tx rid rln bx (rand.take 64)).2.2.2).length)++((A3 st ep at_ sd tx rid rln bx (rand.take 64)).2.2.2)) text).length) Ac
 have hw5t:=hw5
 simp at hw5t
 have hw6t:=hw6
 simp at hw6t
 exact Av [(2,AO (Kk ((((([]++Aj oi)++Aj (AV fi low mx.length told))++Aj (low+mx.length-1))++Aj ((A3 st ep at_ sd tx rid rln bx (rand.take 64)).2.2.2).length)++((A3 st ep at_ sd tx rid rln bx (rand.take 64)).2.2.2)) AD) [(0,10)] [(1,11)]),(4,AO (F5 (([]++Aj ((((([]++Aj oi)++Aj (AV fi low mx.length told))++Aj (low+mx.length-1))++Aj ((A3 st ep at_ sd tx rid rln bx (rand.take 64)).2.2.2).length)++((A3 st ep at_ sd tx rid rln bx (rand.take 64)).2.2.2)).length)++((((([]++Aj oi)++Aj (AV fi low mx.length told))++Aj (low+mx.length-1))++Aj ((A3 st ep at_ sd tx rid rln bx (rand.take 64)).2.2.2).length)++((A3 st ep at_ sd tx rid rln bx (rand.take 64)).2.2.2))) (C_ (AI (J6 ok) (mx.getD ((AV fi low mx.length told)-low) (rz [.sl (.int .u8)])) [109,101,115,115,97,103,101]) (List.replicate 12 (0:Int)) ((((([]++Aj oi)++Aj (AV fi low mx.length told))++Aj (low+mx.length-1))++Aj ((A3 st ep at_ sd tx rid rln bx (rand.take 64)).2.2.2).length)++((A3 st ep at_ sd tx rid rln bx (rand.take 64)).2.2.2)) text) AD AD) [(0,10),(1,11)] [(2,12)]),(5,AO (G4 (((([]++Aj ((((([]++Aj oi)++Aj (AV fi low mx.length told))++Aj (low+mx.length-1))++Aj ((A3 st ep at_ sd tx rid rln bx (rand.take 64)).2.2.2).length)++((A3 st ep at_ sd tx rid rln bx (rand.take 64)).2.2.2)).length)++((((([]++Aj oi)++Aj (AV fi low mx.length told))++Aj (low+mx.length-1))++Aj ((A3 st ep at_ sd tx rid rln bx (rand.take 64)).2.2.2).length)++((A3 st ep at_ sd tx rid rln bx (rand.take 64)).2.2.2)))++Aj (C_ (AI (J6 ok) (mx.getD ((AV fi low mx.length told)-low) (rz [.sl (.int .u8)])) [109,101,115,115,97,103,101]) (List.replicate 12 (0:Int)) ((((([]++Aj oi)++Aj (AV fi low mx.length told))++Aj (low+mx.length-1))++Aj ((A3 st ep at_ sd tx rid rln bx (rand.take 64)).2.2.2).length)++((A3 st ep at_ sd tx rid rln bx (rand.take 64)).2.2.2)) text).length)++(C_ (AI (J6 ok) (mx.getD ((AV fi low mx.length told)-low) (rz [.sl (.int .u8)])) [109,101,115,115,97,103,101]) (List.replicate 12 (0:Int)) ((((([]++Aj oi)++Aj (AV fi low mx.length told))++Aj (low+mx.length-1))++Aj ((A3 st ep at_ sd tx rid rln bx (rand.take 64)).2.2.2).length)++((A3 st ep at_ sd tx rid rln bx (rand.take 64)).2.2.2)) text)) AD) [(0,10),(1,12)] [])] [7] 13 hS fun hS=>D6 (Bh (jS ..) hS)
end
end
end Go.Sx.Tryz
namespace Go.Sx.Tryz
open Go.Mi Go.RowKit Go.Sx Go.Proofs
noncomputable section
section
variable (root:List Int)
def yP:Con:=⟨[lb root,.v (.bool true),.v (.bool true)],[],.tu (chain [.cp 0 0,vi 0]),[(0,.ob 80 (chain [lb (BZ root (ByteArray.mk #[112,97,105,114])),.v (.bool true),.v (.bool true),.cp 1 0,.cp 2 0,.cp 3 0,vi 0,.ls true [.sl (.int .u8)] [BZ root (ByteArray.mk #[109,105,120])],vi 0,vi 0,.v (.slice none 0 0)])),(1,C8 (BZ root (ByteArray.mk #[102,105,114,115,116]))),(2,C8 (BZ root (ByteArray.mk #[111,116,104,101,114]))),(3,.ob 126 (chain [vi 1000,vi 1,vi 0,vi 0,.v (.slice none 0 0),.v (.slice none 0 0),.cp 4 0,.v (.slice none 0 0)])),(4,Aar ((2*0)+1) 5),(5,.sl 22 [.os (.int .u8)] (List.replicate (((1088+1000)-1)/1000) none))]⟩
theorem jQ (hr:root.length=32):ConOk Tryz.prog 23 (yP root):=by
 refine cy 0 Tryz.func23 rfl Tryz.ntmps23 fun hg0 hS=> ?_
 have A6:root.length≤9223372036854775807:=hS.len 0 rfl
 have hr1:((root.length:Nat):Int)=32:=Ac
 exact Ae [] 0 hS fun hS=>Au (Ay [(2,Ik hr1)] [] 0 hS fun hS=>Ai hS (B5 (Ay [(1,AR (Ep root (ByteArray.mk #[112,97,105,114]) AD (by decide))),(5,AR (Ep root (ByteArray.mk #[109,105,120]) AD (by decide)))] [] 1 hS fun hS=>Ay [(2,AR (Ep root (ByteArray.mk #[102,105,114,115,116]) AD (by decide))),(3,AO (JO (BZ root (ByteArray.mk #[102,105,114,115,116])) AD) [] [(0,1)])] [] 2 hS fun hS=>Ay [(2,AR (Ep root (ByteArray.mk #[111,116,104,101,114]) AD (by decide))),(3,AO (JO (BZ root (ByteArray.mk #[111,116,104,101,114])) AD) [] [(0,2)])] [] 3 hS fun hS=>Au (Ae [] 3 hS fun hS=>Ai hS (EK (Ae [] 3 hS fun hS=>AQ hS (Av [(2,AO (vV 1000 Ac) [] [(0,3),(1,4),(2,5)])] [] 6 hS fun hS=>Ab (Ae [] 6 hS fun hS=>AU (Ci hS)))))))))
def yN:Con:=⟨[lb root,.v (.bool false),.v (.bool true)],[],.tu (chain [.cp 0 0,vi 0]),[(0,.ob 80 (chain [lb (BZ root (ByteArray.mk #[112,97,105,114])),.v (.bool false),.v (.bool true),.cp 1 0,.cp 2 0,.cp 3 0,vi 0,.ls true [.sl (.int .u8)] [BZ root (ByteArray.mk #[109,105,120])],vi 0,vi 0,.v (.slice none 0 0)])),(1,C8 (BZ root (ByteArray.mk #[111,116,104,101,114]))),(2,C8 (BZ root (ByteArray.mk #[102,105,114,115,116]))),(3,.ob 126 (chain [vi 1000,vi 2,vi 0,vi 0,.v (.slice none 0 0),.v (.slice none 0 0),.cp 4 0,.v (.slice none 0 0)])),(4,tE (2*0) 5),(5,.sl 22 [.os (.int .u8)] (List.replicate (((1184+1000)-1)/1000) none))]⟩
theorem jO (hr:root.length=32):ConOk Tryz.prog 23 (yN root):=by
 refine cy 0 Tryz.func23 rfl Tryz.ntmps23 fun hg0 hS=> ?_
 have A6:root.length≤9223372036854775807:=hS.len 0 rfl
 have hr1:((root.length:Nat):Int)=32:=Ac
 refine Ae [] 0 hS fun hS=>Au (Ay [(2,Ik hr1)] [] 0 hS fun hS=>Ai hS (B5 (Ay [(1,AR (Ep root (ByteArray.mk #[112,97,105,114]) AD (by decide))),(5,AR (Ep root (ByteArray.mk #[109,105,120]) AD (by decide)))] [] 1 hS fun hS=>Ay [(2,AR (Ep root (ByteArray.mk #[102,105,114,115,116]) AD (by decide))),(3,AO (JO (BZ root (ByteArray.mk #[102,105,114,115,116])) AD) [] [(0,1)])] [] 2 hS fun hS=>Ay [(2,AR (Ep root (ByteArray.mk #[111,116,104,101,114]) AD (by decide))),(3,AO (JO (BZ root (ByteArray.mk #[111,116,104,101,114])) AD) [] [(0,2)])] [] 3 hS fun hS=>Au (Ae [] 3 hS fun hS=>AQ hS (Dn [] 3 hS fun hS=>Ej (Ae [] 3 hS fun hS=>AQ hS (Av [(2,AO (vU 1000 Ac) [] [(0,3),(1,4),(2,5)])] [] 6 hS fun hS=>Ab (Ae [] 6 hS fun hS=>AU ?_))))))))
 obtain⟨gs,hS⟩:=hS.rx [(0,0),(1,2),(2,1),(3,3),(4,4),(5,5)] [6,7] [0,1,2,3,4,5] 6 hg0
 exact Ci hS
end
section
variable (id:List Int) (fi:Bool) (ok:List Int) (oi:Nat) (ik:List Int) (ii low:Nat) (mx:List (List Int)) (last told:Nat) (kl:List KR) (st:Nat) (ep at_:Nat) (sd tx:List Int) (rid rln:Nat) (bx:List (Option (List Int)))
def qO:Con:=Cq [.cp 0 0] [(0,B8 id fi true 1 2 3 low mx last told kl),(1,Ao ok oi),(2,Ao ik ii),(3,A9 st ep at_ sd tx 4),(4,BA rid rln bx)] (vi (oi:Int))
theorem RJ:ConOk Tryz.prog 32 (qO id fi ok oi ik ii low mx last told kl st ep at_ sd tx rid rln bx):=by
 exact cy 5 Tryz.func32 rfl Tryz.ntmps32 fun hg0 hS=>Ae [] 5 hS fun hS=>Au (Ay [(1,Lc (BN) [0,1] [.im (chain [.top,.top,.top,.im (chain []) 0,.top,.top,.top,.top,.top,.top,.top]) 0])] [] 5 hS fun hS=>Ai hS (B5 (Ay [(4,AO (CM ok oi) [(0,1)] [])] [] 5 hS fun hS=>AU (Ci hS))))
def qR:Con:=Cq [.cp 0 0] [(0,B8 id fi true 1 2 3 low mx last told kl),(1,Ao ok oi),(2,Ao ik ii),(3,A9 st ep at_ sd tx 4),(4,BA rid rln bx)] (vi (ii:Int))
theorem RQ:ConOk Tryz.prog 20 (qR id fi ok oi ik ii low mx last told kl st ep at_ sd tx rid rln bx):=by
 exact cy 5 Tryz.func20 rfl Tryz.ntmps20 fun hg0 hS=>Ae [] 5 hS fun hS=>Au (Ay [(1,Lc (BN) [0,1] [.im (chain [.top,.top,.top,.im (chain []) 0,.top,.top,.top,.top,.top,.top,.top]) 0])] [] 5 hS fun hS=>Ai hS (B5 (Ay [(4,AO (CM ik ii) [(0,2)] [])] [] 5 hS fun hS=>AU (Ci hS))))
def qY:Con:=Cq [.cp 0 0] [(0,B8 id fi true 1 2 3 low mx last told kl),(1,Ao ok oi),(2,Ao ik ii),(3,A9 st ep at_ sd tx 4),(4,BA rid rln bx)] (vi ((((low+mx.length)-1):Nat):Int))
theorem cW (hm1:1≤mx.length∧mx.length≤100000) (hlow:low≤100000000000):ConOk Tryz.prog 18 (qY id fi ok oi ik ii low mx last told kl st ep at_ sd tx rid rln bx):=by
 exact cy 5 Tryz.func18 rfl Tryz.ntmps18 fun hg0 hS=>Ae [] 5 hS fun hS=>Au (Ay [(1,Lc (BN) [0,1] [.im (chain [.top,.top,.top,.im (chain []) 0,.top,.top,.top,.top,.top,.top,.top]) 0])] [] 5 hS fun hS=>Ai hS (B5 (Ay [(9,DI low mx.length (low+mx.length)),(10,GD (low+mx.length) 1 ((low+mx.length)-1))] [] 5 hS fun hS=>AU (Ci hS))))
end
section
variable (id:List Int) (low:Nat) (mx:List (List Int)) (idb:List Int) (lowb:Nat) (mxb:List (List Int))
def Zd:Bool:=if id=idb then(if((min (low+mx.length-1) (lowb+mxb.length-1):Nat):Int)<(low:Int)then true else(if((min (low+mx.length-1) (lowb+mxb.length-1):Nat):Int)<(lowb:Int)then true else decide ((mx.getD ((min (low+mx.length-1) (lowb+mxb.length-1))-low) (rz [.sl (.int .u8)]))=(mxb.getD ((min (low+mx.length-1) (lowb+mxb.length-1))-lowb) (rz [.sl (.int .u8)])))))else false
def Ze:Bool:=AJ (Zd id low mx idb lowb mxb)
theorem Rc:Ze id low mx idb lowb mxb=Zd id low mx idb lowb mxb:=Af _
end
section
variable (id ok:List Int) (oi:Nat) (ik:List Int) (ii low:Nat) (mx:List (List Int)) (last told:Nat) (kl:List KR) (st ep at_:Nat) (sd tx:List Int) (rid rln:Nat) (bx:List (Option (List Int))) (idb okb:List Int) (oib:Nat) (ikb:List Int) (iib lowb:Nat) (mxb:List (List Int)) (lastb toldb:Nat) (klb:List KR) (t9 epb at_b:Nat) (sdb txb:List Int) (ridb rlnb:Nat) (bxb:List (Option (List Int)))
def Adu (z_:Bool:=Ze id low mx idb lowb mxb):Con:=Cq [.cp 0 0,.cp 5 0] [(0,B8 id true true 1 2 3 low mx last told kl),(1,Ao ok oi),(2,Ao ik ii),(3,A9 st ep at_ sd tx 4),(4,BA rid rln bx),(5,B8 idb false true 6 7 8 lowb mxb lastb toldb klb),(6,Ao okb oib),(7,Ao ikb iib),(8,A9 t9 epb at_b sdb txb 9),(9,BA ridb rlnb bxb)] (.v (.bool z_))
theorem Aak (hm1:1≤mx.length∧mx.length≤100000) (hlow:low≤100000000000) (hm1b:1≤mxb.length∧mxb.length≤100000) (hlowb:lowb≤100000000000):ConOk Tryz.prog 17 (Adu id ok oi ik ii low mx last told kl st ep at_ sd tx rid rln bx idb okb oib ikb iib lowb mxb lastb toldb klb t9 epb at_b sdb txb ridb rlnb bxb):=by
 refine cy 10 Tryz.func17 rfl Tryz.ntmps17 fun hg0 hS=>Ae [] 10 hS fun hS=>Au (Ay [(1,Lc (BN) [0,1] [.im (chain [.top,.top,.top,.im (chain []) 0,.top,.top,.top,.top,.top,.top,.top]) 0]),(4,Lc (BN) [5,6] [.im (chain [.top,.top,.top,.im (chain []) 0,.top,.top,.top,.top,.top,.top,.top]) 0]),(37,AR (Ei id idb))] [] 10 hS fun hS=>Is (id=idb) hS (fun h1=> ?_) (fun h1=> ?_))
 ·exact Ae [] 10 hS fun hS=>AU (Ah (Bh (.trans (Rc ..) (if_neg h1)) hS))
 ·refine B5 (Ay [(1,Lc (Dv low mx MW Ac) [0,1] [.im (chain [.top,.top,.top,.im (chain []) 0,.top,.top,vi (low:Int),.ls false [.sl (.int .u8)] mx,.top,.top,.top]) 0]),(3,Lc (Dv lowb mxb MW Ac) [5,6] [.im (chain [.top,.top,.top,.im (chain []) 0,.top,.top,vi (lowb:Int),.ls false [.sl (.int .u8)] mxb,.top,.top,.top]) 0]),(4,Rmn (low+mx.length-1) (lowb+mxb.length-1))] [] 10 hS fun hS=>Au ?_)
  by_cases h2:((min (low+mx.length-1) (lowb+mxb.length-1):Nat):Int)<(low:Int)
  ·exact Av [(5,Iw h2)] [] 10 hS fun hS=>D6 (Bh (.trans (Rc ..) ((if_pos h1).trans (if_pos h2))) hS)
  ·by_cases h3:((min (low+mx.length-1) (lowb+mxb.length-1):Nat):Int)<(lowb:Int)
   ·exact Av [(5,Ez h2),(12,Iw h3)] [] 10 hS fun hS=>D6 (Bh (.trans (Rc ..) ((if_pos h1).trans ((if_neg h2).trans (if_pos h3)))) hS)
   ·exact Av [(5,Ez h2),(12,Ez h3),(24,GD (min (low+mx.length-1) (lowb+mxb.length-1)) low ((min (low+mx.length-1) (lowb+mxb.length-1))-low)),(25,AG ((min (low+mx.length-1) (lowb+mxb.length-1))-low) mx.length),(36,GD (min (low+mx.length-1) (lowb+mxb.length-1)) lowb ((min (low+mx.length-1) (lowb+mxb.length-1))-lowb)),(37,AG ((min (low+mx.length-1) (lowb+mxb.length-1))-lowb) mxb.length),(39,AR (Ei (mx.getD ((min (low+mx.length-1) (lowb+mxb.length-1))-low) (rz [.sl (.int .u8)])) (mxb.getD ((min (low+mx.length-1) (lowb+mxb.length-1))-lowb) (rz [.sl (.int .u8)]))))] [] 10 hS fun hS=>D6 (Bh (.trans (Rc ..) ((if_pos h1).trans ((if_neg h2).trans (if_neg h3)))) hS)
end
end
end Go.Sx.Tryz
namespace Go.Sx.Tryz
open Go.Mi Go.RowKit Go.Sx Go.Proofs
noncomputable section
def Le (n:Nat):List Int:=Aj n++(Aj 0++(Aj 0++Aj 0))
section
variable (mx:List (List Int)) (key:List Int)
def fky:List Int:=AI (J6 key) (mx.getD 0 (rz [.sl (.int .u8)])) [109,101,115,115,97,103,101]
def MX (n:Nat) (text:List Int):List Int:=C_ (fky mx key) (List.replicate 12 (0:Int)) (Le n) text
def frm (n:Nat) (text:List Int):List Int:=Aj (Le n).length++(Le n++(Aj (MX mx key n text).length++MX mx key n text))
end
@[simp] theorem wR (mx:List (List Int)) (key:List Int):(fky mx key).length=32:=EZ ..
@[simp] theorem Oy (mx:List (List Int)) (key:List Int) (n:Nat) (text:List Int):(MX mx key n text).length=text.length+32:=IJ ..
theorem oE {n:Nat} (h:n<2^31):(Le n).length≤40:=by
 have h1:=AH (n:=n) Ac
 have h2:=AH (n:=0) (by decide)
 unfold Le
 rw[List.length_append,List.length_append,List.length_append];omega
theorem aY (mx:List (List Int)) (key:List Int) {n:Nat} {text:List Int} (hn:n<2^31) (ht:text.length≤500):0<(frm mx key n text).length∧(frm mx key n text).length≤4000:=by
 have h1:=oE hn
 have h2:=AH (n:=(Le n).length) Ac
 have h3:=AH (n:=(MX mx key n text).length) (by rw[Oy];omega)
 unfold frm
 rw[List.length_append,List.length_append,List.length_append,Oy]
 rw[Oy]at h3
 omega
theorem AbZ (fi:Bool):AV fi 0 1 0=0:=by cases fi<;>rfl
theorem jX (id:List Int) (fi:Bool) (ok:List Int) (oi:Nat) (ik:List Int) (ii:Nat) {mx:List (List Int)} (last:Nat) (kl:List KR) (text rand:List Int) (hm:mx.length=1):X1 id fi ok oi ik ii 0 mx last 0 kl text rand=(P9 ok,oi+1,frm mx ok oi text):=by
 rw[jY];unfold X0
 simp only[hm,AbZ,List.nil_append,List.append_nil,Nat.zero_add,Nat.sub_self,List.length_nil]
 unfold frm MX fky Le
 simp only[List.append_assoc]
theorem Sr {xs:List Int} {m n:Nat} {r:List Int} (h:Ir xs=some ((n:Int),r)) (h1:n≤m) (h2:n≤r.length):Be xs m=true:=by
 have hB:=IS h
 have hV:=ED h
 have hs:Eo xs m=true:=by rw[G_];unfold IF;rw[if_pos hB,hV,if_neg (by show¬(m:Int)<(n:Int);omega)]
 rw[E9];unfold Gm
 rw[if_pos hs,hV]
 have hf:Ck r n=true:=by rw[Hh];unfold Hg;rw[if_neg Ac]
 show(if Ck r (n:Int).toNat=true then true else false)=true
 rw[Int.toNat_natCast,if_pos hf]
theorem RR {xs:List Int} {n:Nat} {r:List Int} (h:Ir xs=some ((n:Int),r)) (h1:n≤2147483648):Ea xs=true:=by
 rw[N9];unfold N8
 rw[if_pos (IS h),ED h,if_neg (by show¬(2147483648:Int)<(n:Int);omega)]
theorem LC:E8 []=true:=by rw[Oh];rfl
theorem Z9:Ir (Aj 0)=some (((0:Nat):Int),[]):=by
 have :=EV (n:=0) (by decide) []
 rwa [List.append_nil]at this
theorem wJ {n:Nat} (hn:n≤2147483648) (ba bb:List Int):J2 (Le n) ba bb=true∧E4 (Le n) ba bb=(n,0,0,[]):=by
 have m1:=EV (n:=n) Ac (Aj 0++(Aj 0++Aj 0))
 have m2:=EV (n:=0) (by decide) (Aj 0++Aj 0)
 have m3:=EV (n:=0) (by decide) (Aj 0)
 have v1:Ad (Le n)=_:=ED m1
 have v2:=ED m2
 have v3:=ED m3
 have v4:=ED Z9
 have hp:Im (Le n) ba bb=true:=by
  rw[KA];unfold P2
  rw[v1];simp only[]
  rw[v2];simp only[]
  rw[v3];simp only[]
  have hs0:Ea (Le n)=true:=RR m1 hn
  rw[if_pos hs0,if_pos (RR m2 (by decide)),if_pos (RR m3 (by decide)),if_pos (Sr Z9 (by decide) (by decide))]
 have hm:C5 (Le n) ba bb=([],n,0,0,[]):=by
  rw[Wc];unfold Z4
  rw[v1];simp only[]
  rw[v2];simp only[]
  rw[v3];simp only[]
  rw[v4];simp
 constructor
 ·rw[PT];unfold PR
  rw[if_pos hp,hm,if_pos LC]
 ·rw[ZT];unfold ZS
  rw[hm]
theorem Acg (mx:List (List Int)) (key:List Int) {n:Nat} {text:List Int} (hn:n<2^31) (ht:text.length≤500):CB (frm mx key n text)=true∧Aa (frm mx key n text)=(Le n,n,0,0,[],MX mx key n text):=by
 have hl:=oE hn
 have hb:(MX mx key n text).length=text.length+32:=Oy ..
 have m1:=EV (n:=(Le n).length) Ac (Le n++(Aj (MX mx key n text).length++MX mx key n text))
 have m2:=EV (n:=(MX mx key n text).length) Ac (MX mx key n text)
 have v1:Ad (frm mx key n text)=_:=ED m1
 have v2:=ED m2
 have hh:=wJ (n:=n) Ac (Le n) (MX mx key n text)
 have t1:List.take (Le n).length (Le n++(Aj (MX mx key n text).length++MX mx key n text))=Le n:=List.take_left
 have t2:List.drop (Le n).length (Le n++(Aj (MX mx key n text).length++MX mx key n text))=Aj (MX mx key n text).length++MX mx key n text:=List.drop_left
 have r1:Be (frm mx key n text) 4000=true:=Sr m1 Ac (by rw[List.length_append];omega)
 have r2:Be (Aj (MX mx key n text).length++MX mx key n text) 4000=true:=Sr m2 Ac Ac
 have hp:LS (frm mx key n text)=true:=by
  rw[T5];unfold T4
  simp only[v1,Int.toNat_natCast,t2,r1,r2,if_true]
 have hr:LL (frm mx key n text)=true:=by
  rw[TR];unfold TQ
  simp only[hp,v1,Int.toNat_natCast,t2,v2,List.drop_length,LC,if_true]
 have e1:((([]++Aj (Le n).length)++Le n)++Aj (MX mx key n text).length)++MX mx key n text=frm mx key n text:=by
  unfold frm
  simp only[List.nil_append,List.append_assoc]
 constructor
 ·rw[Ga];unfold Hj
  simp only[hr,v1,Int.toNat_natCast,t1,t2,v2,List.take_length,hh.1,e1,if_true]
 ·rw[LV];unfold LU
  simp only[v1,Int.toNat_natCast,t1,t2,v2,List.take_length,hh.2]
theorem Sy (key num data:List Int) {text:List Int} (h:By text):C9 key num data (C_ key num data text)=(text,0):=by
 have hb:∀(k:List Int) (u1:Nat→Int) (r1:List Int) (n1:Int) (u2:Nat→Int) (r2:List Int) (n2:Int),MF k u1 r1 n1 u2 r2 n2 num data (ME k u1 r1 n1 u2 r2 n2 num data text)=(text,0):=by
  intro k u1 r1 n1 u2 r2 n2
  have hl:(ME k u1 r1 n1 u2 r2 n2 num data text).length=text.length+32:=by
   rw[OI];unfold MD;rw[List.length_append,Fh,Pj]
  rw[OJ];unfold U0
  rw[hl,if_neg Ac,show(((text.length+32:Nat):Int)-32).toNat=(DG k num text).length by rw[Fh];omega,OI]
  unfold MD
  rw[List.take_left,List.drop_left,if_pos rfl,eU k num h]
 rw[Zy,X2];unfold Tp Tz
 rw[hb]
end
end Go.Sx.Tryz
namespace Go.Sx.Tryz
open Go.Mi Go.RowKit Go.Sx Go.Proofs
noncomputable section
theorem L4 (A:List Int) (m:Nat):∀n,A0 (A0 A m) n=A0 A (m+n)
 |0=>rfl
 |n+1=>by
  show P9 (A0 (A0 A m) n)=P9 (A0 A (m+n))
  rw[L4 A m n]
section
variable (mx:List (List Int)) (A:List Int)
def d3 (j:Nat):KR:=((j:Int),(0:Int),[fky mx (A0 A j)])
def EM (js:List Nat):List KR:=js.map (d3 mx A)
end
structure RI (ii:Nat) (js:List Nat):Prop where
 len:js.length≤60
 nd:js.Nodup
 lt:∀j,j∈js→j<ii
def J3 (ii:Nat) (js:List Nat) (i:Nat):Bool:=if i<ii then decide (i∈js)else decide (i≤ii+40)
def rEr (ii i:Nat):Nat:=if i<ii then 5 else 6
def nI (ii i:Nat):Nat:=if i<ii then ii else i+1
def nJ (ii:Nat) (js:List Nat) (i:Nat):List Nat:=if i<ii then js.filter (· !=i)else(js++List.range' ii (i-ii)).drop ((js++List.range' ii (i-ii)).length-60)
section
variable (mx:List (List Int)) (A:List Int)
theorem I1 {js:List Nat} {p:Nat} (h:p<js.length):(EM mx A js).getD p kz=d3 mx A (js[p]):=by
 unfold EM
 rw[List.getD_eq_getElem?_getD,List.getElem?_map,List.getElem?_eq_getElem h];rfl
theorem Mc (js:List Nat):(EM mx A js).length=js.length:=List.length_map ..
theorem ZZ {js:List Nat} {i:Nat} (h:i∉js):C4 (EM mx A js) (i:Int)= -1:=by
 refine lY fun j hj e=> ?_
 rw[Mc]at hj
 rw[I1 mx A hj]at e
 have e:((js[j]:Nat):Int)=(i:Int):=e
 have :js[j]=i:=by omega
 exact h (this▸List.getElem_mem hj)
theorem Yc {js:List Nat} {i:Nat} (hn:js.Nodup) (h:i∈js):∃p,p<js.length∧C4 (EM mx A js) (i:Int)=((p:Nat):Int)∧(EM mx A js).getD p kz=d3 mx A i∧(EM mx A js).take p++(EM mx A js).drop (p+1)=EM mx A (js.filter (· !=i)):=by
 have hp:=List.idxOf_lt_length_iff.2 h
 have he:js[js.idxOf i]=i:=List.getElem_idxOf hp
 refine⟨js.idxOf i,hp,lZ (by rw[Mc];exact hp) (fun j hj e=> ?_) ?_,?_,?_⟩
 ·have hj2:j<js.length:=by omega
  rw[I1 mx A hj2]at e
  have e:((js[j]:Nat):Int)=(i:Int):=e
  have e:js[j]=i:=by omega
  have :=List.not_of_lt_findIdx (p:=(· ==i)) (xs:=js) hj
  simp [e]at this
 ·rw[I1 mx A hp,he];rfl
 ·rw[I1 mx A hp,he]
 ·rw[←hn.erase_eq_filter i]
  unfold EM
  rw[List.erase_eq_eraseIdx_of_idxOf rfl,List.eraseIdx_eq_take_drop_succ,List.map_append,List.map_take,List.map_drop]
theorem m8 {ii:Nat} {js:List Nat} (h:RI ii js) (hi:ii≤1000000000000):N2 (EM mx A js):=by
 refine⟨by rw[Mc];have :=h.len;omega,fun j hj=> ?_⟩
 rw[Mc]at hj
 rw[I1 mx A hj]
 have :=h.lt _ (List.getElem_mem hj)
 refine⟨⟨?_,?_⟩,⟨?_,?_⟩,?_,?_⟩
 ·show(0:Int)≤((js[j]:Nat):Int);omega
 ·show((js[j]:Nat):Int)≤1000000000000;omega
 ·exact Int.le_refl 0
 ·show(0:Int)≤1000000000000;decide
 ·show(1:Nat)≤100000;decide
 ·intro k hk
  have hk:k=fky mx (A0 A js[j]):=List.mem_singleton.1 hk
  rw[hk];exact wR ..
end
section
variable (id:List Int) (fi:Bool) (ok:List Int) (oi:Nat) {mx:List (List Int)} {A:List Int} {ii:Nat} {js:List Nat} {i:Nat} (hb hp hx:List Int)
theorem AbO (hm:mx.length=1) (hR:RI ii js):Cc id fi ok oi (A0 A ii) ii 0 mx 0 0 (EM mx A js) hb i 0 0 hp hx=J3 ii js i:=by
 rw[C1];unfold Gn J3
 by_cases h:i<ii
 ·rw[if_pos Ac,if_pos h]
  by_cases hj:i∈js
  ·obtain⟨p,h1,h2,h3,_⟩:=Yc mx A hR.nd hj
   have h3':(EM mx A js).getD p (rz [.int .i64,.int .i64,.sl (.sl (.int .u8))])=d3 mx A i:=h3
   simp only[h2,Int.toNat_natCast,h3']
   rw[if_neg Ac,if_neg (by show¬(((0:Nat):Int)<(0:Int));omega),if_neg (by show¬(((1:Nat):Int)≤((0:Nat):Int)-0);omega),decide_eq_true hj]
  ·rw[ZZ mx A hj,if_pos (by decide),decide_eq_false hj]
 ·rw[if_neg Ac,if_neg h]
  by_cases h2:i≤ii+40
  ·rw[if_pos (show bK ii i=true from decide_eq_true ⟨by omega,h2⟩),if_neg Ac,if_neg Ac,decide_eq_true h2]
  ·have :bK ii i=false:=decide_eq_false fun hh=>h2 hh.2
   rw[this,decide_eq_false h2];rfl
theorem AbP (hf:J3 ii js i=false):GP id fi ok oi (A0 A ii) ii 0 mx 0 0 (EM mx A js) hb i 0 0 hp hx=rEr ii i:=by
 unfold J3 at hf
 rw[LY];unfold HW rEr
 by_cases h:i<ii
 ·rw[if_pos h]at hf⊢
  rw[if_pos Ac,ZZ mx A (of_decide_eq_false hf),if_pos (by decide)]
 ·rw[if_neg h]at hf⊢
  have h2:=of_decide_eq_false hf
  have :bK ii i=false:=decide_eq_false fun hh=>h2 hh.2
  rw[if_neg Ac,this]
  exact pY Ac
theorem AbN (hR:RI ii js) (hf:J3 ii js i=true):Cz id fi ok oi (A0 A ii) ii 0 mx 0 0 (EM mx A js) hb i 0 0 hp hx=fky mx (A0 A i):=by
 unfold J3 at hf
 rw[Gb];unfold Hl
 by_cases h:i<ii
 ·rw[if_pos h]at hf
  obtain⟨p,h1,h2,h3,_⟩:=Yc mx A hR.nd (of_decide_eq_true hf)
  have h3':(EM mx A js).getD p (rz [.int .i64,.int .i64,.sl (.sl (.int .u8))])=d3 mx A i:=h3
  rw[if_pos Ac]
  simp only[h2,Int.toNat_natCast,h3']
  rfl
 ·rw[if_neg Ac,L4,show ii+(i-ii)=i by omega];rfl
theorem AcI (h:ii≤i) (x:Nat) (hx1:x<i-ii) (o6:List KR):(D7 id fi ok oi (A0 A ii) ii 0 mx 0 0 (EM mx A js) hb i 0 0 hp hx x o6 (CU fun j=>Fo id fi ok oi (A0 A ii) ii 0 mx 0 0 (EM mx A js) hb i 0 0 hp hx x o6 (D7 id fi ok oi (A0 A ii) ii 0 mx 0 0 (EM mx A js) hb i 0 0 hp hx x o6 j))).2=[fky mx (A0 A (ii+x))]:=by
 have hl:1=CU fun j=>Fo id fi ok oi (A0 A ii) ii 0 mx 0 0 (EM mx A js) hb i 0 0 hp hx x o6 (D7 id fi ok oi (A0 A ii) ii 0 mx 0 0 (EM mx A js) hb i 0 0 hp hx x o6 j):=by
  refine BP (P:=fun j=>Fo id fi ok oi (A0 A ii) ii 0 mx 0 0 (EM mx A js) hb i 0 0 hp hx x o6 (D7 id fi ok oi (A0 A ii) ii 0 mx 0 0 (EM mx A js) hb i 0 0 hp hx x o6 j)) ?_ ?_
  ·show¬(((0+1:Nat):Int)≤((0:Nat):Int));omega
  ·intro j hj
   have :j=0:=by omega
   subst this
   show((0:Nat):Int)≤((0:Nat):Int);omega
 rw[←hl]
 show[AI ((FJ (A0 A ii) (i-ii)).getD x (rz [.sl (.int .u8)])) (mx.getD (0-0) (rz [.sl (.int .u8)])) [109,101,115,115,97,103,101]]=_
 rw[ZC _ hx1,L4];rfl
theorem qD (h:ii≤i):∀x,x≤i-ii→Cj id fi ok oi (A0 A ii) ii 0 mx 0 0 (EM mx A js) hb i 0 0 hp hx x=EM mx A (js++List.range' ii x)
 |0,_=>by
  show EM mx A js=_
  rw[List.range'_zero,List.append_nil]
 |x+1,hx1=>by
  show Cj id fi ok oi (A0 A ii) ii 0 mx 0 0 (EM mx A js) hb i 0 0 hp hx x++[(((ii+x:Nat):Int),((0:Nat):Int),_)]=_
  rw[AcI id fi ok oi hb hp hx h x Ac,qD h x Ac,List.range'_concat,←List.append_assoc]
  show _=(((js++List.range' ii x)++[ii+1*x]).map (d3 mx A))
  rw[List.map_append,Nat.one_mul];rfl
theorem xV (hR:RI ii js) (hf:J3 ii js i=true):Ih id fi ok oi (A0 A ii) ii 0 mx 0 0 (EM mx A js) hb i 0 0 hp hx=(0,EM mx A (nJ ii js i),A0 A (nI ii i),nI ii i):=by
 unfold J3 at hf
 rw[Q2];unfold Q1 nJ nI
 by_cases h:i<ii
 ·rw[if_pos h]at hf
  obtain⟨p,h1,h2,h3,h4⟩:=Yc mx A hR.nd (of_decide_eq_true hf)
  rw[if_pos Ac,if_pos h,if_pos h]
  simp only[h2,Int.toNat_natCast,h4]
 ·rw[if_neg Ac,if_neg h,if_neg h,FT,qD id fi ok oi hb hp hx Ac _ (Nat.le_refl _),L4,show ii+(i-ii)=i by omega]
  rw[Mc,show(max (((js++List.range' ii (i-ii)).length:Nat)-60:Int) 0).toNat=(js++List.range' ii (i-ii)).length-60 by omega]
  unfold EM
  rw[List.map_drop];rfl
end
end
end Go.Sx.Tryz
namespace Go.Sx.Tryz
open Go.Mi Go.RowKit Go.Sx Go.Proofs
noncomputable section
section
variable (id:List Int) (fi:Bool) (ok:List Int) (oi:Nat) {mx:List (List Int)} {A:List Int} {ii:Nat} {js:List Nat} {i:Nat} {text:List Int} (rand:List Int)
theorem iY (hm : mx.length = 1) (hR : RI ii js) (hi : i < 2 ^ 31) (ht : text.length ≤ 500) (hy : By text) :
  ID id fi ok oi (A0 A ii) ii 0 mx 0 0 (EM mx A js) (frm mx (A0 A i) i text) rand=J3 ii js i
  ∧(J3 ii js i=false→Vs id fi ok oi (A0 A ii) ii 0 mx 0 0 (EM mx A js) (frm mx (A0 A i) i text) rand=rEr ii i)
  ∧(J3 ii js i=true→Bi id fi ok oi (A0 A ii) ii 0 mx 0 0 (EM mx A js) (frm mx (A0 A i) i text) rand=(0,0,EM mx A (nJ ii js i),A0 A (nI ii i),nI ii i,text,i)):=by
 obtain⟨h1,h2⟩:=Acg mx (A0 A i) hi ht
 have hk:=AbO id fi ok oi (A:=A) (i:=i) (Le i) [] (MX mx (A0 A i) i text) hm hR
 have hs:J3 ii js i=true→C9 (Cz id fi ok oi (A0 A ii) ii 0 mx 0 0 (EM mx A js) (Le i) i 0 0 [] (MX mx (A0 A i) i text)) (List.replicate 12 (0:Int)) (Le i) (MX mx (A0 A i) i text)=(text,0):=fun hf=>by
  rw[AbN id fi ok oi (Le i) [] (MX mx (A0 A i) i text) hR hf]
  exact Sy _ _ _ hy
 refine⟨?_,fun hf=> ?_,fun hf=> ?_⟩
 ·rw[N5];unfold Tl
  simp only[h1,h2,hk,if_true]
  cases hf:J3 ii js i with
  |false=>rfl
  |true=>simp only[hs hf,if_true];rfl
 ·rw[cL];unfold M4
  simp only[h1,h2,hk,hf,if_true]
  exact AbP id fi ok oi (Le i) [] (MX mx (A0 A i) i text) hf
 ·rw[iZ];unfold XQ
  simp only[h2,hs hf,xV id fi ok oi (Le i) [] (MX mx (A0 A i) i text) hR hf]
  rfl
theorem u3 (hm : mx.length = 1) (hR : RI ii js) (hi : i < 2 ^ 31) (ht : text.length ≤ 500) (hy : By text) :
  Jy id fi ok oi (A0 A ii) ii 0 mx 0 0 (EM mx A js) (frm mx (A0 A i) i text) rand=J3 ii js i
  ∧(J3 ii js i=true→Cx id fi ok oi (A0 A ii) ii 0 mx 0 0 (EM mx A js) (frm mx (A0 A i) i text) rand=(A0 A (nI ii i),nI ii i,0,0,EM mx A (nJ ii js i),text,i)):=by
 obtain⟨h1,_,h3⟩:=iY id fi ok oi (A:=A) (rand.drop 64) hm hR hi ht hy
 constructor
 ·rw[PG];unfold Kz
  rw[h1];cases J3 ii js i<;>rfl
 ·intro hf
  rw[Si];unfold Na
  rw[h3 hf]
end
theorem Aec (ii i:Nat):nI ii i≤max ii (i+1):=by unfold nI;split<;>omega
theorem RI.next {ii:Nat} {js:List Nat} {i:Nat} (h:RI ii js):RI (nI ii i) (nJ ii js i):=by
 unfold nI nJ
 by_cases hi:i<ii
 ·rw[if_pos hi,if_pos hi]
  exact⟨Nat.le_trans (List.length_filter_le ..) h.len,h.nd.filter _,fun j hj=>h.lt j (List.mem_filter.1 hj).1⟩
 ·rw[if_neg hi,if_neg hi]
  refine⟨by rw[List.length_drop];omega,List.Pairwise.drop ?_,fun j hj=> ?_⟩
  ·refine List.nodup_append.2 ⟨h.nd,List.nodup_range' ..,fun a ha b hb e=> ?_⟩
   have :=h.lt a ha
   rw[List.mem_range'_1]at hb
   omega
  ·rcases List.mem_append.1 (List.mem_of_mem_drop hj)with h1|h1
   ·have :=h.lt j h1;omega
   ·rw[List.mem_range'_1]at h1;omega
theorem RI.nil:RI 0 []:=⟨by decide,List.nodup_nil,fun _ h=>by cases h⟩
def ints (l:List Nat):List Int:=l.map fun j=>((j:Nat):Int)
theorem v9 (mx:List (List Int)) (A:List Int) (js:List Nat):Ve (EM mx A js)=ints js:=by
 unfold Ve EM ints
 rw[List.map_map];rfl
theorem cU (id:List Int) (fi:Bool) (ok:List Int) (oi:Nat) (ik:List Int) (ii low:Nat) (mx:List (List Int)) (last told:Nat) (kl:List KR):Lw id fi ok oi ik ii low mx last told kl=Ve kl:=by
 have key:∀n,n≤kl.length→IH kl n=Ve (kl.take n):=by
  intro n
  induction n with
  |zero=>intro _;rfl
  |succ n ih=>
   intro hn
   show IH kl n++[(kl.getD n kz).1]=_
   rw[ih Ac,List.take_succ_eq_append_getElem Ac,List.getD_eq_getElem?_getD,List.getElem?_eq_getElem Ac]
   unfold Ve
   rw[List.map_append];rfl
 rw[ZB];unfold Tx
 rw[key _ (Nat.le_refl _),List.take_length]
theorem d7 {js:List Nat} {n:Nat} (h:n<js.length):(ints js).getD n 0=((js[n]:Nat):Int):=by
 unfold ints
 rw[List.getD_eq_getElem?_getD,List.getElem?_map,List.getElem?_eq_getElem h];rfl
theorem Aat (a ii:Nat) (js:List Nat) (i:Nat):∀n,n≤js.length→HF a ii (ints js) i n=(decide (i∈js.take n),ints ((js.take n).filter (· !=i)))
 |0,_=>by simp [ints];rfl
 |n+1,h=>by
  have hn:n<js.length:=by omega
  show G3 (ints js) i n (HF a ii (ints js) i n)=_
  rw[Aat a ii js i n Ac,List.take_succ_eq_append_getElem hn,List.filter_append]
  unfold G3
  simp only[d7 hn]
  by_cases e:js[n]=i
  ·rw[if_pos Ac]
   simp [e]
  ·rw[if_neg Ac]
   have e2:¬i=js[n]:=fun h=>e h.symm
   simp [e,e2,ints,-List.take_append_getElem]
theorem Zq (a ii:Nat) (js:List Nat) (i:Nat):∀k,BH a ii (ints js) i k=(ii+k,ints (js++List.range' ii k))
 |0=>by
  show(ii,[]++ints js)=_
  simp
 |k+1=>by
  show Jn k (BH a ii (ints js) i k)=_
  rw[Zq a ii js i k,List.range'_concat]
  unfold Jn
  simp [ints,Nat.add_assoc]
theorem tV (a:Nat) {ii:Nat} {js:List Nat} (i:Nat) (hR:RI ii js):XJ a ii (ints js) i=if J3 ii js i=true then(nI ii i,ints (nJ ii js i),0)else(ii,ints js,rEr ii i):=by
 have hl:(ints js).length=js.length:=List.length_map ..
 rw[MZ];unfold XI J3 nI nJ rEr
 by_cases h:i<ii
 ·rw[if_pos Ac,hl,Aat a ii js i _ (Nat.le_refl _),List.take_length]
  simp only[if_pos h]
  by_cases hj:i∈js<;>simp [hj]
 ·rw[if_neg Ac]
  simp only[if_neg h]
  by_cases h2:i≤ii+40
  ·have hlst : i - ii = CU fun j => Cm i (BH a ii (ints js) i j) := by
    refine BP (P:=fun j=>Cm i (BH a ii (ints js) i j)) ?_ ?_
    ·show¬Cm i (BH a ii (ints js) i (i-ii))
     rw[Zq]
     show¬(((ii+(i-ii):Nat):Int)<(i:Int));omega
    ·intro j hj
     show Cm i (BH a ii (ints js) i j)
     rw[Zq]
     show(((ii+j:Nat):Int)<(i:Int));omega
   rw[if_neg Ac,←hlst,Zq]
   have hli:(ints (js++List.range' ii (i-ii))).length=(js++List.range' ii (i-ii)).length:=List.length_map ..
   simp only[hli,decide_eq_true h2,if_true]
   have hd:ints ((js++List.range' ii (i-ii)).drop ((js++List.range' ii (i-ii)).length-60))=(ints (js++List.range' ii (i-ii))).drop ((js++List.range' ii (i-ii)).length-60):=by unfold ints;rw[List.map_drop]
   by_cases h6:(60:Int)<(((js++List.range' ii (i-ii)).length:Nat):Int)
   ·rw[if_pos h6,hd]
   ·rw[if_neg h6,hd,show(js++List.range' ii (i-ii)).length-60=0 by omega,List.drop_zero]
  ·rw[if_pos Ac,decide_eq_false h2];rfl
end
end Go.Sx.Tryz
namespace Go.Sx.Tryz
open Go.Mi Go.RowKit Go.Sx Go.Proofs
noncomputable section
def NZ (x0 x1:Nat) (x2 x3:Nat) (x4:List Int) (x5 x6:Nat) (x7:List Int) (x8:Nat):O:= .ob 39 (chain [.cp x0 0,.cp x1 0,vi ((x2:Nat):Int),vi ((x3:Nat):Int),.ls false [.int .i64] x4,vi ((x5:Nat):Int),vi ((x6:Nat):Int),.ls false [.int .i64] x7,.sk x8])
structure EndH where
 ok:List Int
 oi:Nat
 ik:List Int
 ii:Nat
 low:Nat
 mx:List (List Int)
 last:Nat
 told:Nat
 kl:List KR
 st:Nat
 ep:Nat
 at_:Nat
 sd:List Int
 tx:List Int
 rid:Nat
 rln:Nat
 bx:List (Option (List Int))
def Rm (n m l:Nat) (pc:List Int):List Int:=((((([]++Aj n)++Aj m)++Aj l)++Aj pc.length)++pc)
def WL (ok mix:List Int) (n m l:Nat) (pc text:List Int):List Int:=C_ (AI (J6 ok) mix [109,101,115,115,97,103,101]) (List.replicate 12 (0:Int)) (Rm n m l pc) text
def g7 (ok mix:List Int) (n m l:Nat) (pc text:List Int):List Int:=(([]++Aj (Rm n m l pc).length)++Rm n m l pc)++Aj (WL ok mix n m l pc text).length++WL ok mix n m l pc text
section
variable (e:EndH)
def EndH.num (fi:Bool):Nat:=AV fi e.low e.mx.length e.told
def EndH.pc (rand:List Int):Nat×List Int×List Int×List Int:=A3 e.st e.ep e.at_ e.sd e.tx e.rid e.rln e.bx (rand.take 64)
def EndH.sent (rand:List Int):EndH:={e with ok:=P9 e.ok,oi:=e.oi+1,at_:=(e.pc rand).1,sd:=(e.pc rand).2.1,tx:=(e.pc rand).2.2.1}
def EndH.frame (fi:Bool) (text rand:List Int):List Int:=g7 e.ok (e.mx.getD (e.num fi-e.low) (rz [.sl (.int .u8)])) e.oi (e.num fi) (e.low+e.mx.length-1) (e.pc rand).2.2.2 text
end
structure SndOk (fi:Bool) (e:EndH):Prop where
 ok:e.ok.length=32
 ik:e.ik.length=32
 oi:e.oi≤1000000
 ii:e.ii≤1000000
 m1:1≤e.mx.length∧e.mx.length≤80000
 m2:∀j,(e.mx.getD j (rz [.sl (.int .u8)])).length≤32
 low:e.low≤10000000
 mn:e.low≤AV fi e.low e.mx.length e.told
 st:e.st=1∨e.st=2∨e.st=3
 ep:e.ep≤100000000
 at_:e.at_≤100000000
 tx:(e.st=1→e.tx.length=0∨e.tx.length=1184)∧(e.st=3→e.tx.length=1088)
 txl:e.tx.length≤10000
theorem mN (n:Nat):0<(Aj n).length:=by
 rw[Aj]
 split<;>simp
theorem EndH.pc_le {fi:Bool} {e:EndH} (h:SndOk fi e) {rand:List Int} (hr:rand.length=128):(e.pc rand).2.2.2.length≤1040:=
 Om e.st e.ep e.at_ e.sd e.tx e.rid e.rln e.bx (rand.take 64) (by have :=h.ep;omega) h.txl (by rw[List.length_take];omega) (by have :=h.at_;omega)
theorem wQ {ok mix:List Int} {n m l:Nat} {pc text:List Int} (h:n<2^62∧m<2^62∧l<2^62) (hp:pc.length≤1040) (ht:text.length≤500):0<(g7 ok mix n m l pc text).length∧(g7 ok mix n m l pc text).length≤4000:=by
 unfold g7 WL Rm
 have w1:=AH (n:=n) Ac
 have w2:=AH (n:=m) Ac
 have w3:=AH (n:=l) Ac
 have w4:=AH (n:=pc.length) Ac
 generalize hH:(((([]++Aj n)++Aj m)++Aj l)++Aj pc.length)++pc=H
 have hl:H.length≤1200:=by rw[←hH];simp only[List.length_append,List.length_nil];omega
 have w5:=AH (n:=H.length) Ac
 have w6:=AH (n:=text.length+32) Ac
 have p5:0<(Aj H.length).length:=mN _
 simp only[List.length_append,List.length_nil,IJ]
 omega
theorem EndH.num_le {fi:Bool} {e:EndH} (h:SndOk fi e):e.num fi≤20000000:=by
 have :=HZ fi e.low e.mx.length e.told h.m1.1
 have h2:=h.m1
 have h3:=h.low
 unfold EndH.num
 omega
theorem SndOk.len {fi:Bool} {e:EndH} (h:SndOk fi e) {text rand:List Int} (ht:text.length≤500) (hr:rand.length=128):0<(e.frame fi text rand).length∧(e.frame fi text rand).length≤4000:=by
 have h1:=h.oi
 have h2:=h.m1
 have h3:=h.low
 have h4:=EndH.num_le h
 exact wQ ⟨by omega,by omega,by omega⟩ (EndH.pc_le h hr) ht
section
variable (id:List Int) (fi:Bool) (e:EndH) (text rand:List Int)
def AcP:Con:=⟨[.cp 0 0,lb text,lb rand],[(0,B8 id fi true 1 2 3 e.low e.mx e.last e.told e.kl),(1,Ao e.ok e.oi),(2,Ao e.ik e.ii),(3,A9 e.st e.ep e.at_ e.sd e.tx 4),(4,BA e.rid e.rln e.bx)],.tu (chain [lb (e.frame fi text rand),vi ((e.oi:Nat):Int),vi 0]),[(0,B8 id fi true 1 2 3 ((e.sent rand).low) ((e.sent rand).mx) ((e.sent rand).last) ((e.sent rand).told) ((e.sent rand).kl)),(1,Ao ((e.sent rand).ok) ((e.sent rand).oi)),(2,Ao ((e.sent rand).ik) ((e.sent rand).ii)),(3,A9 ((e.sent rand).st) ((e.sent rand).ep) ((e.sent rand).at_) ((e.sent rand).sd) ((e.sent rand).tx) 4),(4,BA ((e.sent rand).rid) ((e.sent rand).rln) ((e.sent rand).bx))]⟩
theorem ZA (hA:SndOk fi e) (htx:text.length≤500) (hr:rand.length=128):ConOk Tryz.prog 24 (AcP id fi e text rand):=by
 have h:=uE id fi e.ok e.oi e.ik e.ii e.low e.mx e.last e.told e.kl e.st e.ep e.at_ e.sd e.tx e.rid e.rln e.bx text rand hA.ok hA.ik (by have :=hA.oi;omega) (by have :=hA.ii;omega) ⟨hA.m1.1,by have :=hA.m1.2;omega⟩ hA.m2 (by have :=hA.low;omega) hA.mn htx hr hA.st (by have :=hA.ep;omega) (by have :=hA.at_;omega) hA.tx hA.txl
 have hM:XV fi e.ok e.oi e.low e.mx e.told e.st e.ep e.at_ e.sd e.tx e.rid e.rln e.bx text rand=(P9 e.ok,e.oi+1,(e.pc rand).1,(e.pc rand).2.1,(e.pc rand).2.2.1,e.frame fi text rand):=jS ..
 unfold qS at h
 rw[hM]at h
 exact h
end
structure PS where
 ida:List Int
 idb:List Int
 a:EndH
 b:EndH
 na:Nat
 ia:Nat
 ja:List Nat
 nb:Nat
 ib:Nat
 jb:List Nat
 fl:List (Int×Int×List Int×List Int)
section
variable (p:PS)
def PS.sndA (text rand:List Int):PS:={p with a:=p.a.sent rand,na:=p.na+1,fl:=p.fl++[((0:Int),((p.a.oi:Nat):Int),text,p.a.frame true text rand)]}
def PS.sndB (text rand:List Int):PS:={p with b:=p.b.sent rand,nb:=p.nb+1,fl:=p.fl++[((1:Int),((p.b.oi:Nat):Int),text,p.b.frame false text rand)]}
def Ae5 (text rand:List Int):Con:=⟨[.cp 0 0,vi 0,lb text,lb rand],[(0,NZ 1 6 p.na p.ia (ints p.ja) p.nb p.ib (ints p.jb) 11),(1,B8 p.ida true true 2 3 4 p.a.low p.a.mx p.a.last p.a.told p.a.kl),(2,Ao p.a.ok p.a.oi),(3,Ao p.a.ik p.a.ii),(4,A9 p.a.st p.a.ep p.a.at_ p.a.sd p.a.tx 5),(5,BA p.a.rid p.a.rln p.a.bx),(6,B8 p.idb false true 7 8 9 p.b.low p.b.mx p.b.last p.b.told p.b.kl),(7,Ao p.b.ok p.b.oi),(8,Ao p.b.ik p.b.ii),(9,A9 p.b.st p.b.ep p.b.at_ p.b.sd p.b.tx 10),(10,BA p.b.rid p.b.rln p.b.bx),(11,.sl 48 [.int .i64,.int .i64,.sl (.int .u8),.sl (.int .u8)] p.fl)],.v (.bool true),[(0,NZ 1 6 ((p.sndA text rand).na) ((p.sndA text rand).ia) (ints (p.sndA text rand).ja) ((p.sndA text rand).nb) ((p.sndA text rand).ib) (ints (p.sndA text rand).jb) 12),(1,B8 ((p.sndA text rand).ida) true true 2 3 4 ((p.sndA text rand).a.low) ((p.sndA text rand).a.mx) ((p.sndA text rand).a.last) ((p.sndA text rand).a.told) ((p.sndA text rand).a.kl)),(2,Ao ((p.sndA text rand).a.ok) ((p.sndA text rand).a.oi)),(3,Ao ((p.sndA text rand).a.ik) ((p.sndA text rand).a.ii)),(4,A9 ((p.sndA text rand).a.st) ((p.sndA text rand).a.ep) ((p.sndA text rand).a.at_) ((p.sndA text rand).a.sd) ((p.sndA text rand).a.tx) 5),(5,BA ((p.sndA text rand).a.rid) ((p.sndA text rand).a.rln) ((p.sndA text rand).a.bx)),(6,B8 ((p.sndA text rand).idb) false true 7 8 9 ((p.sndA text rand).b.low) ((p.sndA text rand).b.mx) ((p.sndA text rand).b.last) ((p.sndA text rand).b.told) ((p.sndA text rand).b.kl)),(7,Ao ((p.sndA text rand).b.ok) ((p.sndA text rand).b.oi)),(8,Ao ((p.sndA text rand).b.ik) ((p.sndA text rand).b.ii)),(9,A9 ((p.sndA text rand).b.st) ((p.sndA text rand).b.ep) ((p.sndA text rand).b.at_) ((p.sndA text rand).b.sd) ((p.sndA text rand).b.tx) 10),(10,BA ((p.sndA text rand).b.rid) ((p.sndA text rand).b.rln) ((p.sndA text rand).b.bx)),(12,.sl 48 [.int .i64,.int .i64,.sl (.int .u8),.sl (.int .u8)] ((p.sndA text rand).fl))]⟩
theorem AbE (text rand:List Int) (hA:SndOk true p.a) (hna:p.a.oi=p.na) (hfl0:p.fl.length≤1000000) (htx:text.length≤500) (hr:rand.length=128):ConOk Tryz.prog 14 (Ae5 p text rand):=by
 refine cy 12 Tryz.func14 rfl Tryz.ntmps14 fun hg0 hS=> ?_
 have CF:text.length≤9223372036854775807:=hS.len 2 rfl
 have Ml:rand.length≤9223372036854775807:=hS.len 3 rfl
 have Mk:p.fl.length≤9223372036854775807:=hS.lens 11 rfl
 have hx1:¬(500:Int)<((text.length:Nat):Int):=Ac
 refine Ae [] 12 hS fun hS=>Ay [(4,AG 0 2),(8,AO (ZA p.ida true p.a text rand hA htx hr) [(0,1),(1,2),(2,3),(3,4),(4,5)] [])] [] 12 hS fun hS=>Au (Ay [(2,Ez hx1)] [] 12 hS fun hS=>Ai hS (EK (Au ?_)))
 have hfl:=hA.len htx hr
 have hq3:((p.a.oi:Nat):Int)=((p.na:Nat):Int):=(by rw[hna])
 have hq1:¬(4000:Int)<(((p.a.frame true text rand).length:Nat):Int):=Ac
 have hq2:¬(((p.a.frame true text rand).length:Nat):Int)=0:=Ac
 refine Av [(8,AG 0 2),(11,Ik hq3),(16,Ez hq1),(21,Ez hq2)] [] 12 hS fun hS=>Ab (Ai hS (EK ?_))
 have hoi:=hA.oi
 refine Av [(4,AG 0 2),(7,BQ p.na),(10,AG 0 2)] [] 12 hS fun hS=>Ab (Ay [(11,Ge p.fl.length 1 64)] [] 13 hS fun hS=>Au ?_)
 have hq4:((((p.a.sent rand).oi):Nat):Int)=((p.na+1:Nat):Int):=(by show((p.a.oi+1:Nat):Int)=_;rw[hna])
 exact Av [(4,AG 0 2),(6,AO (RJ p.ida true ((p.a.sent rand).ok) ((p.a.sent rand).oi) ((p.a.sent rand).ik) ((p.a.sent rand).ii) ((p.a.sent rand).low) ((p.a.sent rand).mx) ((p.a.sent rand).last) ((p.a.sent rand).told) ((p.a.sent rand).kl) ((p.a.sent rand).st) ((p.a.sent rand).ep) ((p.a.sent rand).at_) ((p.a.sent rand).sd) ((p.a.sent rand).tx) ((p.a.sent rand).rid) ((p.a.sent rand).rln) ((p.a.sent rand).bx)) [(0,1),(1,2),(2,3),(3,4),(4,5)] []),(11,AG 0 2),(14,Iw hq4)] [] 13 hS fun hS=>D6 (Ci hS)
def Ae4 (text rand:List Int):Con:=⟨[.cp 0 0,vi 1,lb text,lb rand],[(0,NZ 1 6 p.na p.ia (ints p.ja) p.nb p.ib (ints p.jb) 11),(1,B8 p.ida true true 2 3 4 p.a.low p.a.mx p.a.last p.a.told p.a.kl),(2,Ao p.a.ok p.a.oi),(3,Ao p.a.ik p.a.ii),(4,A9 p.a.st p.a.ep p.a.at_ p.a.sd p.a.tx 5),(5,BA p.a.rid p.a.rln p.a.bx),(6,B8 p.idb false true 7 8 9 p.b.low p.b.mx p.b.last p.b.told p.b.kl),(7,Ao p.b.ok p.b.oi),(8,Ao p.b.ik p.b.ii),(9,A9 p.b.st p.b.ep p.b.at_ p.b.sd p.b.tx 10),(10,BA p.b.rid p.b.rln p.b.bx),(11,.sl 48 [.int .i64,.int .i64,.sl (.int .u8),.sl (.int .u8)] p.fl)],.v (.bool true),[(0,NZ 1 6 ((p.sndB text rand).na) ((p.sndB text rand).ia) (ints (p.sndB text rand).ja) ((p.sndB text rand).nb) ((p.sndB text rand).ib) (ints (p.sndB text rand).jb) 12),(1,B8 ((p.sndB text rand).ida) true true 2 3 4 ((p.sndB text rand).a.low) ((p.sndB text rand).a.mx) ((p.sndB text rand).a.last) ((p.sndB text rand).a.told) ((p.sndB text rand).a.kl)),(2,Ao ((p.sndB text rand).a.ok) ((p.sndB text rand).a.oi)),(3,Ao ((p.sndB text rand).a.ik) ((p.sndB text rand).a.ii)),(4,A9 ((p.sndB text rand).a.st) ((p.sndB text rand).a.ep) ((p.sndB text rand).a.at_) ((p.sndB text rand).a.sd) ((p.sndB text rand).a.tx) 5),(5,BA ((p.sndB text rand).a.rid) ((p.sndB text rand).a.rln) ((p.sndB text rand).a.bx)),(6,B8 ((p.sndB text rand).idb) false true 7 8 9 ((p.sndB text rand).b.low) ((p.sndB text rand).b.mx) ((p.sndB text rand).b.last) ((p.sndB text rand).b.told) ((p.sndB text rand).b.kl)),(7,Ao ((p.sndB text rand).b.ok) ((p.sndB text rand).b.oi)),(8,Ao ((p.sndB text rand).b.ik) ((p.sndB text rand).b.ii)),(9,A9 ((p.sndB text rand).b.st) ((p.sndB text rand).b.ep) ((p.sndB text rand).b.at_) ((p.sndB text rand).b.sd) ((p.sndB text rand).b.tx) 10),(10,BA ((p.sndB text rand).b.rid) ((p.sndB text rand).b.rln) ((p.sndB text rand).b.bx)),(12,.sl 48 [.int .i64,.int .i64,.sl (.int .u8),.sl (.int .u8)] ((p.sndB text rand).fl))]⟩
theorem AbD (text rand:List Int) (hA:SndOk false p.b) (hna:p.b.oi=p.nb) (hfl0:p.fl.length≤1000000) (htx:text.length≤500) (hr:rand.length=128):ConOk Tryz.prog 14 (Ae4 p text rand):=by
 refine cy 12 Tryz.func14 rfl Tryz.ntmps14 fun hg0 hS=> ?_
 have CF:text.length≤9223372036854775807:=hS.len 2 rfl
 have Ml:rand.length≤9223372036854775807:=hS.len 3 rfl
 have Mk:p.fl.length≤9223372036854775807:=hS.lens 11 rfl
 have hx1:¬(500:Int)<((text.length:Nat):Int):=Ac
 refine Ae [] 12 hS fun hS=>Ay [(4,AG 1 2),(8,AO (ZA p.idb false p.b text rand hA htx hr) [(0,6),(1,7),(2,8),(3,9),(4,10)] [])] [] 12 hS fun hS=>Au (Ay [(2,Ez hx1)] [] 12 hS fun hS=>Ai hS (EK (Au ?_)))
 have hfl:=hA.len htx hr
 have hq3:((p.b.oi:Nat):Int)=((p.nb:Nat):Int):=(by rw[hna])
 have hq1:¬(4000:Int)<(((p.b.frame false text rand).length:Nat):Int):=Ac
 have hq2:¬(((p.b.frame false text rand).length:Nat):Int)=0:=Ac
 refine Av [(8,AG 1 2),(11,Ik hq3),(16,Ez hq1),(21,Ez hq2)] [] 12 hS fun hS=>Ab (Ai hS (EK ?_))
 have hoi:=hA.oi
 refine Av [(4,AG 1 2),(7,BQ p.nb),(10,AG 1 2)] [] 12 hS fun hS=>Ab (Ay [(11,Ge p.fl.length 1 64)] [] 13 hS fun hS=>Au ?_)
 have hq4:((((p.b.sent rand).oi):Nat):Int)=((p.nb+1:Nat):Int):=(by show((p.b.oi+1:Nat):Int)=_;rw[hna])
 exact Av [(4,AG 1 2),(6,AO (RJ p.idb false ((p.b.sent rand).ok) ((p.b.sent rand).oi) ((p.b.sent rand).ik) ((p.b.sent rand).ii) ((p.b.sent rand).low) ((p.b.sent rand).mx) ((p.b.sent rand).last) ((p.b.sent rand).told) ((p.b.sent rand).kl) ((p.b.sent rand).st) ((p.b.sent rand).ep) ((p.b.sent rand).at_) ((p.b.sent rand).sd) ((p.b.sent rand).tx) ((p.b.sent rand).rid) ((p.b.sent rand).rln) ((p.b.sent rand).bx)) [(0,6),(1,7),(2,8),(3,9),(4,10)] []),(11,AG 1 2),(14,Iw hq4)] [] 13 hS fun hS=>D6 (Ci hS)
end
end
end Go.Sx.Tryz
namespace Go.Sx.Tryz
open Go.Mi Go.RowKit Go.Sx Go.Proofs
noncomputable section
section
variable (mx:List (List Int)) (A:List Int)
def Aeq (j:Nat) (t:List Int):Int×Int×List Int×List Int:=((0:Int),(j:Int),t,frm mx (A0 A j) j t)
def Mn (tx:List (List Int)):List (Int×Int×List Int×List Int):=tx.mapIdx fun j t=>Aeq mx A j t
theorem aX (tx:List (List Int)):(Mn mx A tx).length=tx.length:=List.length_mapIdx ..
theorem wP (tx:List (List Int)) (t:List Int):Mn mx A (tx++[t])=Mn mx A tx++[((0:Int),((tx.length:Nat):Int),t,frm mx (A0 A tx.length) tx.length t)]:=by
 unfold Mn
 rw[List.mapIdx_append]
 simp [Aeq]
theorem Acf {tx:List (List Int)} {k:Nat} (h:k<tx.length):(Mn mx A tx).getD k (rz [.int .i64,.int .i64,.sl (.int .u8),.sl (.int .u8)])=((0:Int),(k:Int),tx.getD k [],frm mx (A0 A k) k (tx.getD k [])):=by
 show List.getD (α:=Int×Int×List Int×List Int) (Mn mx A tx) k (0,0,[],[])=_
 unfold Mn
 rw[List.getD_eq_getElem?_getD,List.getElem?_mapIdx,List.getD_eq_getElem?_getD,List.getElem?_eq_getElem h]
 rfl
end
section
variable (id:List Int) (fi:Bool) (ok:List Int) (oi:Nat)
def yU (ik:List Int) (ii:Nat) (mx:List (List Int)) (kl:List KR) (text rand:List Int):Con:=⟨[.cp 0 0,lb text,lb rand],[(0,DJ id fi false 1 2 mx kl),(1,Ao ok oi),(2,Ao ik ii)],.tu (chain [lb (frm mx ok oi text),vi (oi:Int),vi 0]),[(0,DJ id fi false 1 2 mx kl),(1,Ao (P9 ok) (oi+1)),(2,Ao ik ii)]⟩
theorem jW (ik:List Int) (ii:Nat) (mx:List (List Int)) (kl:List KR) (text rand:List Int) (hok:ok.length=32) (hik:ik.length=32) (hoi:oi≤1000000) (hii:ii≤1000000) (hm:mx.length=1) (hm2:∀j,(mx.getD j (rz [.sl (.int .u8)])).length≤32) (htx:text.length≤500) (hr:rand.length=128):ConOk Tryz.prog 24 (yU id fi ok oi ik ii mx kl text rand):=by
 have h:=uI id fi ok oi ik ii 0 mx 0 0 kl text rand hok hik Ac Ac ⟨by omega,by omega⟩ hm2 Ac (Nat.zero_le _) htx hr
 unfold qZ at h
 rw[jX _ _ _ _ _ _ _ _ _ _ hm]at h
 exact h
def Ac1 (A:List Int) (ii:Nat) (mx:List (List Int)) (js:List Nat) (i:Nat) (t rand:List Int):Con:=⟨[.cp 0 0,lb (frm mx (A0 A i) i t),lb rand],[(0,DJ id fi false 1 2 mx (EM mx A js)),(1,Ao ok oi),(2,Ao (A0 A ii) ii)],.tu (chain [lb t,vi (i:Int),vi 0]),[(0,DJ id fi false 7 8 mx (EM mx A (nJ ii js i))),(1,Ao ok oi),(2,Ao (A0 A ii) ii),(7,Ao ok oi),(8,Ao (A0 A (nI ii i)) (nI ii i))]⟩
theorem u0 (A:List Int) (ii:Nat) (mx:List (List Int)) (js:List Nat) (i:Nat) (t rand:List Int) (hok:ok.length=32) (hA:A.length=32) (hoi:oi≤1000000) (hii:ii≤1000000) (hm:mx.length=1) (hm2:∀j,(mx.getD j (rz [.sl (.int .u8)])).length≤32) (hR:RI ii js) (hi:i≤1000000) (ht:t.length≤500) (hy:By t) (hr:rand.length=128) (hs:J3 ii js i=true):ConOk Tryz.prog 19 (Ac1 id fi ok oi A ii mx js i t rand):=by
 have hn:=Hm hA
 have hf:=(aY mx (A0 A i) (n:=i) (text:=t) Ac ht).2
 have hh:=u3 id fi ok oi (A:=A) rand hm hR (show i<2^31 by omega) ht hy
 have h:=X_ id fi ok oi (A0 A ii) ii 0 mx 0 0 (EM mx A js) (frm mx (A0 A i) i t) rand hok (hn ii) Ac Ac ⟨by omega,by omega⟩ hm2 Ac (m8 mx A hR Ac) ⟨by omega,by omega⟩ Ac Ac hr (hh.1.trans hs)
 unfold Tc at h
 rw[hh.2 hs]at h
 exact h
end
section
variable (a ii:Nat) (js:List Nat) (i:Nat)
def xX:Con:=⟨[.ag (chain [vi (a:Int),vi (ii:Int),.ls false [.int .i64] (ints js)]),vi (i:Int)],[],.tu (chain [.ag (chain [vi (a:Int),vi ((nI ii i:Nat):Int),.ls false [.int .i64] (ints (nJ ii js i))]),vi 0]),[]⟩
theorem OU (hR:RI ii js) (hii:ii≤1000000) (hi:i≤1000000) (hs:J3 ii js i=true):ConOk Tryz.prog 35 (xX a ii js i):=by
 have hl:(ints js).length=js.length:=List.length_map ..
 have h6:=hR.len
 have h:=tU a ii (ints js) i Ac ⟨by omega,by omega⟩
 unfold qG at h
 rw[tV a i hR,hs]at h
 exact h
end
section
variable (id:List Int) (fi:Bool) (ok:List Int) (oi:Nat)
def Xk (ik:List Int) (ii low:Nat) (mx:List (List Int)) (last told:Nat) (kl:List KR):Con:=⟨[.cp 0 0],[(0,HE id fi false 1 2 low mx last told kl),(1,Ao ok oi),(2,Ao ik ii)],.ls false [.int .i64] (Lw id fi ok oi ik ii low mx last told kl),[(0,HE id fi false 1 2 low mx last told kl),(1,Ao ok oi),(2,Ao ik ii)]⟩
theorem cT (ik:List Int) (ii low:Nat) (mx:List (List Int)) (last told:Nat) (kl:List KR) (hK:N2 kl):ConOk Tryz.prog 21 (Xk id fi ok oi ik ii low mx last told kl):=ConOk.frz [(0,HE id fi false 1 2 low mx last told kl),(1,Ao ok oi),(2,Ao ik ii)] 3 3 [.int .i64] (Lw id fi ok oi ik ii low mx last told kl) (jU id fi ok oi ik ii low mx last told kl hK) (by kernel_rfl)
def qV (A:List Int) (ii:Nat) (mx:List (List Int)) (js:List Nat):Con:=⟨[.cp 0 0],[(0,DJ id fi false 1 2 mx (EM mx A js)),(1,Ao ok oi),(2,Ao (A0 A ii) ii)],.ls false [.int .i64] (ints js),[(0,DJ id fi false 1 2 mx (EM mx A js)),(1,Ao ok oi),(2,Ao (A0 A ii) ii)]⟩
theorem RS (A:List Int) (ii:Nat) (mx:List (List Int)) (js:List Nat) (hR:RI ii js) (hii:ii≤1000000):ConOk Tryz.prog 21 (qV id fi ok oi A ii mx js):=by
 have h:=cT id fi ok oi (A0 A ii) ii 0 mx 0 0 (EM mx A js) (m8 mx A hR Ac)
 unfold Xk at h
 rw[cU,v9]at h
 exact h
end
end
end Go.Sx.Tryz
namespace Go.Sx.Tryz
open Go.Mi Go.RowKit Go.Sx Go.Proofs
noncomputable section
def Zi (x0 x1:Nat) (x2 x3:Nat) (x4 x5:List Int) (x6:Nat):O:= .ob 39 (chain [.cp x0 0,.cp x1 0,vi ((x2:Nat):Int),vi ((x3:Nat):Int),.ls false [.int .i64] x4,vi 0,vi 0,.ls false [.int .i64] x5,.sk x6])
section
variable (A B:List Int) (mx:List (List Int)) (n ii:Nat) (js:List Nat) (tx:List (List Int)) (ida:List Int) (idb text rand:List Int)
def zE:Con:=⟨[.cp 0 0,vi 0,lb text,lb rand],[(0,Zi 1 4 n ii (ints js) [] 7),(1,DJ ida true false 2 3 mx []),(2,Ao (A0 A n) n),(3,C8 B),(4,DJ idb false false 5 6 mx (EM mx A js)),(5,C8 B),(6,Ao (A0 A ii) ii),(7,.sl 48 [.int .i64,.int .i64,.sl (.int .u8),.sl (.int .u8)] (Mn mx A tx))],.v (.bool true),[(0,Zi 1 4 (n+1) ii (ints js) [] 8),(1,DJ ida true false 2 3 mx []),(2,Ao (A0 A (n+1)) (n+1)),(3,C8 B),(4,DJ idb false false 5 6 mx (EM mx A js)),(5,C8 B),(6,Ao (A0 A ii) ii),(8,.sl 48 [.int .i64,.int .i64,.sl (.int .u8),.sl (.int .u8)] (Mn mx A (tx++[text])))]⟩
theorem V8 (hA:A.length=32) (hB:B.length=32) (hm:mx.length=1) (hm2:∀j,(mx.getD j (rz [.sl (.int .u8)])).length≤32) (hn:n=tx.length∧n≤100000) (hii:ii≤100000) (htx:text.length≤500) (hr:rand.length=128):ConOk Tryz.prog 14 (zE A B mx n ii js tx ida idb text rand):=by
 refine cy 8 Tryz.func14 rfl Tryz.ntmps14 fun hg0 hS=> ?_
 have CF:text.length≤9223372036854775807:=hS.len 2 rfl
 have Ml:rand.length≤9223372036854775807:=hS.len 3 rfl
 have I3:(Mn mx A tx).length≤9223372036854775807:=hS.lens 7 rfl
 have hx1:¬(500:Int)<((text.length:Nat):Int):=Ac
 refine Ae [] 8 hS fun hS=>Ay [(4,AG 0 2),(8,AO (jW ida true (A0 A n) n B 0 mx ([]:List KR) text rand (Hm hA _) hB Ac Ac hm hm2 htx hr) [(0,1),(1,2),(2,3)] [])] [] 8 hS fun hS=>Au (Ay [(2,Ez hx1)] [] 8 hS fun hS=>Ai hS (EK (Au ?_)))
 have hfl:=aY mx (A0 A n) (n:=n) (text:=text) Ac htx
 have hq3:(n:Int)=(n:Int):=rfl
 have hq1:¬(4000:Int)<(((frm mx (A0 A n) n text).length:Nat):Int):=Ac
 have hq2:¬(((frm mx (A0 A n) n text).length:Nat):Int)=0:=Ac
 refine Av [(8,AG 0 2),(11,Ik hq3),(16,Ez hq1),(21,Ez hq2)] [] 8 hS fun hS=>Ab (Ai hS (B5 (Ay [(4,AG 0 2),(7,BQ n),(10,AG 0 2)] [] 8 hS fun hS=>Au ?_)))
 have hfs:=aX mx A tx
 refine Av [(11,Ge ((Mn mx A tx).length) 1 64)] [] 9 hS fun hS=>Ej ?_
 have hS:=hS.ch 8 (.sl 48 [.int .i64,.int .i64,.sl (.int .u8),.sl (.int .u8)] (Mn mx A (tx++[text]))) (.sl 48 [.int .i64,.int .i64,.sl (.int .u8),.sl (.int .u8)] ((Mn mx A tx)++[(0,(n:Int),text,frm mx (A0 A n) n text)])) (by rw[wP,←hn.1]<;>rfl)
 exact Av [(4,AG 0 2),(6,AO (jJ ida true (P9 (A0 A n)) (n+1) B 0 0 mx 0 0 ([]:List KR)) [(0,1),(1,2),(2,3)] []),(11,AG 0 2)] [] 9 hS fun hS=>D6 (CW rfl (.inr rfl) hS [.v (.bool (decide ((((n+1):Nat):Int)=((n+1:Nat):Int))))] [(0,some (Zi 1 4 (n+1) ii (ints js) [] 8)),(1,some (DJ ida true false 2 3 mx [])),(2,some (Ao (P9 (A0 A n)) (n+1))),(3,some (C8 B)),(4,some (DJ idb false false 5 6 mx (EM mx A js))),(5,some (C8 B)),(6,some (Ao (A0 A ii) ii)),(8,some (.sl 48 [.int .i64,.int .i64,.sl (.int .u8),.sl (.int .u8)] (Mn mx A (tx++[text]))))] (by show weak (.v (.bool (decide (((n+1:Nat):Int)=((n+1:Nat):Int))))) (.v (.bool true))= .v (.bool true);rw[decide_eq_true rfl];rfl) ⟨rfl,rfl,rfl,rfl,rfl,rfl,rfl,rfl,trivial⟩)
end
end
end Go.Sx.Tryz
namespace Go.Sx.Tryz
open Go.Mi Go.RowKit Go.Sx Go.Proofs
noncomputable section
section
variable (A B:List Int) (mx:List (List Int)) (n ii:Nat) (js:List Nat) (tx:List (List Int)) (ida idb:List Int)
def rG:Con:=Cq [.cp 0 0,vi 1] [(0,Zi 1 4 n ii (ints js) [] 7),(1,DJ ida true false 2 3 mx []),(2,Ao (A0 A n) n),(3,C8 B),(4,DJ idb false false 5 6 mx (EM mx A js)),(5,C8 B),(6,Ao (A0 A ii) ii),(7,.sl 48 [.int .i64,.int .i64,.sl (.int .u8),.sl (.int .u8)] (Mn mx A tx))] (.v (.bool true))
theorem dQ (hA:A.length=32) (hB:B.length=32) (hm:mx.length=1) (hm2:∀j,(mx.getD j (rz [.sl (.int .u8)])).length≤32) (hR:RI ii js) (hii:ii≤100000) (hn:n≤100000):ConOk Tryz.prog 27 (rG A B mx n ii js tx ida idb):=by
 refine cy 8 Tryz.func27 rfl Tryz.ntmps27 fun hg0 hS=> ?_
 have I3:(Mn mx A tx).length≤9223372036854775807:=hS.lens 7 rfl
 refine Ae [] 8 hS fun hS=>Ay [(5,AG 0 2)] [5] 9 hS fun hS=>Au ?_
 have hq1:(ii:Int)=(ii:Int):=rfl
 exact Av [(4,AG 1 2),(6,AO (jN idb false B 0 (A0 A ii) ii 0 mx 0 0 (EM mx A js)) [(0,4),(1,5),(2,6)] []),(9,Iw hq1),(15,AG 1 2),(17,AO (RS idb false B 0 A ii mx js BC Ac) [(0,4),(1,5),(2,6)] []),(20,AR (aQ (ints js) (ints js)))] [] 9 hS fun hS=>D6 (CW rfl (.inr rfl) hS [.v (.bool (decide ((ints js)=(ints js))))] [(0,some (Zi 1 4 n ii (ints js) [] 7)),(1,some (DJ ida true false 2 3 mx [])),(2,some (Ao (A0 A n) n)),(3,some (C8 B)),(4,some (DJ idb false false 5 6 mx (EM mx A js))),(5,some (C8 B)),(6,some (Ao (A0 A ii) ii)),(7,some (.sl 48 [.int .i64,.int .i64,.sl (.int .u8),.sl (.int .u8)] (Mn mx A tx)))] (by show weak (.v (.bool (decide (ints js=ints js)))) (.v (.bool true))= .v (.bool true);rw[decide_eq_true rfl];rfl) ⟨rfl,rfl,rfl,rfl,rfl,rfl,rfl,rfl,trivial⟩)
def zG (k:Nat) (rand:List Int):Con:=⟨[.cp 0 0,vi (k:Int),lb rand],[(0,Zi 1 4 n ii (ints js) [] 7),(1,DJ ida true false 2 3 mx []),(2,Ao (A0 A n) n),(3,C8 B),(4,DJ idb false false 5 6 mx (EM mx A js)),(5,C8 B),(6,Ao (A0 A ii) ii),(7,.sl 48 [.int .i64,.int .i64,.sl (.int .u8),.sl (.int .u8)] (Mn mx A tx))],.v (.bool true),[(0,Zi 1 4 n (nI ii k) (ints (nJ ii js k)) [] 7),(1,DJ ida true false 2 3 mx []),(2,Ao (A0 A n) n),(3,C8 B),(4,DJ idb false false 8 9 mx (EM mx A (nJ ii js k))),(5,C8 B),(6,Ao (A0 A ii) ii),(7,.sl 48 [.int .i64,.int .i64,.sl (.int .u8),.sl (.int .u8)] (Mn mx A tx)),(8,C8 B),(9,Ao (A0 A (nI ii k)) (nI ii k))]⟩
theorem mB (k:Nat) (rand:List Int) (hA:A.length=32) (hB:B.length=32) (hm:mx.length=1) (hm2:∀j,(mx.getD j (rz [.sl (.int .u8)])).length≤32) (hR:RI ii js) (hii:ii≤100000) (hn:n≤100000) (hk:k<tx.length∧k<100000) (htk:(tx.getD k []).length≤500∧By (tx.getD k [])) (hr:rand.length=128) (hs:J3 ii js k=true):ConOk Tryz.prog 16 (zG A B mx n ii js tx ida idb k rand):=by
 refine cy 8 Tryz.func16 rfl Tryz.ntmps16 fun hg0 hS=> ?_
 have CF:rand.length≤9223372036854775807:=hS.len 2 rfl
 have I3:(Mn mx A tx).length≤9223372036854775807:=hS.lens 7 rfl
 have hs1:J3 ii js k=true:=hs
 refine Ae [] 8 hS fun hS=>Au ?_
 have hfs:=aX mx A tx
 refine Av [(5,AG k ((Mn mx A tx).length))] [7] 9 hS fun hS=>Ej ?_
 have hS:=hS.ch 8 (.ob 48 (chain [vi 0,vi (k:Int),lb (tx.getD k []),lb (frm mx (A0 A k) k (tx.getD k []))])) (.ob 48 (chain [vi (((Mn mx A tx).getD k (rz [.int .i64,.int .i64,.sl (.int .u8),.sl (.int .u8)])).1),vi ((((Mn mx A tx).getD k (rz [.int .i64,.int .i64,.sl (.int .u8),.sl (.int .u8)])).2).1),lb (((((Mn mx A tx).getD k (rz [.int .i64,.int .i64,.sl (.int .u8),.sl (.int .u8)])).2).2).1),lb (((((Mn mx A tx).getD k (rz [.int .i64,.int .i64,.sl (.int .u8),.sl (.int .u8)])).2).2).2)])) (by rw[Acf mx A hk.1]<;>rfl)
 refine Dn [] 9 hS fun hS=>Ab (Ay [(5,AG 0 2),(9,AR (OU n ii js k BC Ac Ac hs1))] [9] 10 hS fun hS=>Ay [(4,AG 1 2),(9,AO (u0 idb false B 0 A ii mx js k (tx.getD k []) rand hB hA Ac Ac hm hm2 hR Ac htk.1 htk.2 hr hs) [(0,4),(1,5),(2,6)] [(7,10),(8,11)])] [] 12 hS fun hS=>Au (Ae [] 12 hS fun hS=>Ai hS (EK (Ae [] 12 hS fun hS=>AQ hS (Ay [(6,AG 0 2)] [] 12 hS fun hS=>Au ?_)))))
 have hq2:FD (tx.getD k [])=FD (tx.getD k []):=rfl
 have hq3:(k:Int)=(k:Int):=rfl
 refine Av [(5,tP false [(!((FD (tx.getD k [])).toList==(FD (tx.getD k [])).toList))=false] ⟨by rw[beq_self_eq_true _];rfl,trivial⟩),(10,Ik hq3)] [] 12 hS fun hS=>Ab (Ai hS (B5 (Ay [(2,AO (dQ A B mx n (nI ii k) (nJ ii js k) tx ida idb hA hB hm hm2 hR.next (by have :=Aec ii k;omega) Ac) [(0,0),(1,1),(2,2),(3,3),(4,4),(5,10),(6,11),(7,7)] [])] [] 12 hS fun hS=>AU ?_)))
 obtain⟨gs,hS⟩:=hS.rx [(0,0),(1,1),(2,2),(3,3),(4,4),(5,5),(6,6),(7,7),(8,10),(9,11)] [6] [0,1,2,3,4,5,6,7,8,9] 10 hg0
 exact Ci hS
end
end
end Go.Sx.Tryz
namespace Go.Sx.Tryz
open Go.Mi Go.RowKit Go.Sx Go.Proofs
noncomputable section
def rX (root:List Int):Con:=⟨[lb root,.v (.bool false)],[],.tu (chain [.cp 0 0,.v (.bool true)]),[(0,AdG 1 4 (ints ([]:List Nat)) [] 7),(1,DJ (Ol root) true false 2 3 [pM root] []),(2,C8 (A0 (pA root) 0)),(3,C8 (pB root)),(4,DJ (Ol root) false false 5 6 [pM root] (EM ([pM root]) (pA root) ([]:List Nat))),(5,C8 (pB root)),(6,C8 (A0 (pA root) 0)),(7,.sl 48 [.int .i64,.int .i64,.sl (.int .u8),.sl (.int .u8)] (Mn ([pM root]) (pA root) ([]:List (List Int))))]⟩
theorem eA (root:List Int) (hr:root.length=32):ConOk Tryz.prog 12 (rX root):=by
 have h:=nX root hr
 unfold bR at h
 rw[nY]at h
 exact h
theorem mx1 {M:List Int} (h:M.length=32) (j:Nat):([M].getD j (rz [.sl (.int .u8)])).length≤32:=by
 show(List.getD (α:=List Int) [M] j []).length≤32
 match j with
 |0=>exact Nat.le_of_eq h
 |j+1=>simp
def yO:Con:=⟨[.v (.slice none 0 0),.v (.bool true),.v (.bool false)],[],.tu (chain [.v (.pointer none),vi 1]),[]⟩
theorem jP:ConOk Tryz.prog 23 (yO):=by
 exact cy 0 Tryz.func23 rfl Tryz.ntmps23 fun hg0 hS=>Ae [] 0 hS fun hS=>Au (Ae [] 0 hS fun hS=>AQ hS (Ae [] 0 hS fun hS=>AU (Ah (Ci hS))))
section
variable (id ok:List Int) (oi:Nat) (ik:List Int) (ii:Nat) (mx:List (List Int)) (kl:List KR) (okb:List Int) (oib:Nat) (ikb:List Int) (iib:Nat) (klb:List KR)
def sM:Con:=⟨[.cp 0 0,.cp 3 0],[(0,DJ id true false 1 2 mx kl),(1,Ao ok oi),(2,Ao ik ii),(3,DJ id false false 4 5 mx klb),(4,Ao okb oib),(5,Ao ikb iib)],.v (.bool true),[(0,DJ id true false 1 2 mx kl),(1,Ao ok oi),(2,Ao ik ii),(3,DJ id false false 4 5 mx klb),(4,Ao okb oib),(5,Ao ikb iib)]⟩
theorem gT (hm:mx.length=1):ConOk Tryz.prog 17 (sM id ok oi ik ii mx kl okb oib ikb iib klb):=by
 have h:=sY id ok oi ik ii 0 mx 0 0 kl id okb oib ikb iib 0 mx 0 0 klb ⟨by omega,by omega⟩ Ac ⟨by omega,by omega⟩ Ac
 have e:U5 id 0 mx id 0 mx=true:=by
  rw[MM];unfold U4
  rw[if_pos rfl,if_neg Ac,if_neg Ac]
  exact decide_eq_true rfl
 unfold bV at h
 rw[e]at h
 exact h
end
theorem by1 {b:Int} (h:0≤b∧b<256):By [b]:=fun x hx=>by rw[List.mem_singleton.1 hx];exact h
section
variable (xs ys:List Int)
def zM:Con:=⟨[.ls false [.int .i64] xs,.ls false [.int .i64] ys],[],.v (.bool true),[]⟩
theorem Qr (h:xs=ys):ConOk Tryz.prog 31 (zM xs ys):=by
 have h2:=aQ xs ys
 unfold rV at h2
 rw[decide_eq_true h]at h2
 exact h2
end
def Aac:Con:=⟨[],[],.v (.bool true),[]⟩
theorem Jl:ConOk Tryz.prog 11 (Aac):=by
 refine cy 0 Tryz.func11 rfl Tryz.ntmps11 fun hg0 hS=>Ae [] 0 hS fun hS=>Ay [(0,U6 .mf [(32:Int)=32,(0:Int)≤32,1*32≤281474976710656,(32:Int)≤9223372036854775807] ⟨rfl,by omega,by omega,by omega,trivial⟩),(1,AO (eA (List.replicate 32 (0:Int)) AD) [] [(0,0),(1,1),(2,2),(3,3),(4,4),(5,5),(6,6),(7,7)])] [] 8 hS fun hS=>JN ?_
 have hm2:=mx1 (mI (List.replicate 32 (0:Int)))
 have hq1:J3 0 ([]:List Nat) 1=true:=rfl
 refine Av [(4,Row),(5,OM (0<[97].length) (by decide)),(6,AR (Ia 1)),(7,Ix (V8 (pA (List.replicate 32 (0:Int))) (pB (List.replicate 32 (0:Int))) [pM (List.replicate 32 (0:Int))] 0 0 ([]:List Nat) ([]:List (List Int)) (Ol (List.replicate 32 (0:Int))) (Ol (List.replicate 32 (0:Int))) [97] (Aw 1) (T8 _) (T7 _) rfl hm2 ⟨rfl,by decide⟩ (by decide) (by decide) (DY _)) [(0,0),(1,1),(2,2),(3,3),(4,4),(5,5),(6,6),(7,7)] [(8,9)] [.cp 0 0,vi 0,lb ([97]:List Int),lb (Aw 1)] [some (AdG 1 4 (ints ([]:List Nat)) [] 7),some (DJ (Ol (List.replicate 32 (0:Int))) true false 2 3 [pM (List.replicate 32 (0:Int))] []),some (C8 (A0 (pA (List.replicate 32 (0:Int))) 0)),some (C8 (pB (List.replicate 32 (0:Int)))),some (DJ (Ol (List.replicate 32 (0:Int))) false false 5 6 [pM (List.replicate 32 (0:Int))] (EM ([pM (List.replicate 32 (0:Int))]) (pA (List.replicate 32 (0:Int))) ([]:List Nat))),some (C8 (pB (List.replicate 32 (0:Int)))),some (C8 (A0 (pA (List.replicate 32 (0:Int))) 0)),some (.sl 48 [.int .i64,.int .i64,.sl (.int .u8),.sl (.int .u8)] (Mn ([pM (List.replicate 32 (0:Int))]) (pA (List.replicate 32 (0:Int))) ([]:List (List Int))))]),(12,Row),(13,OM (0<[98].length) (by decide)),(14,AR (Ia 2)),(15,Ix (V8 (pA (List.replicate 32 (0:Int))) (pB (List.replicate 32 (0:Int))) [pM (List.replicate 32 (0:Int))] (0+1) 0 ([]:List Nat) (([]:List (List Int))++[[97]]) (Ol (List.replicate 32 (0:Int))) (Ol (List.replicate 32 (0:Int))) [98] (Aw 2) (T8 _) (T7 _) rfl hm2 ⟨rfl,by decide⟩ (by decide) (by decide) (DY _)) [(0,0),(1,1),(2,2),(3,3),(4,4),(5,5),(6,6),(7,9)] [(8,11)] [.cp 0 0,vi 0,lb ([98]:List Int),lb (Aw 2)] [some (.ob 39 (chain [.cp 1 0,.cp 4 0,vi ((0+1:Nat):Int),vi 0,.ls false [.int .i64] (ints ([]:List Nat)),vi 0,vi 0,.ls false [.int .i64] [],.sk 9])),some (DJ (Ol (List.replicate 32 (0:Int))) true false 2 3 [pM (List.replicate 32 (0:Int))] []),some (Ao (A0 (pA (List.replicate 32 (0:Int))) (0+1)) (0+1)),some (C8 (pB (List.replicate 32 (0:Int)))),some (DJ (Ol (List.replicate 32 (0:Int))) false false 5 6 [pM (List.replicate 32 (0:Int))] (EM [pM (List.replicate 32 (0:Int))] (pA (List.replicate 32 (0:Int))) ([]:List Nat))),some (C8 (pB (List.replicate 32 (0:Int)))),some (C8 (A0 (pA (List.replicate 32 (0:Int))) 0)),some (.sl 48 [.int .i64,.int .i64,.sl (.int .u8),.sl (.int .u8)] (Mn [pM (List.replicate 32 (0:Int))] (pA (List.replicate 32 (0:Int))) (([]:List (List Int))++[[97]])))]),(20,AR (Ia 3)),(21,Ix (mB (pA (List.replicate 32 (0:Int))) (pB (List.replicate 32 (0:Int))) [pM (List.replicate 32 (0:Int))] ((0+1)+1) 0 ([]:List Nat) ((([]:List (List Int))++[[97]])++[[98]]) (Ol (List.replicate 32 (0:Int))) (Ol (List.replicate 32 (0:Int))) 1 (Aw 3) (T8 _) (T7 _) rfl hm2 RI.nil (by decide) (by decide) ⟨by decide,by decide⟩ ⟨by decide,by have :=by1 (b:=98) ⟨by decide,by decide⟩;simpa using this⟩ (DY _) hq1) [(0,0),(1,1),(2,2),(3,3),(4,4),(5,5),(6,6),(7,11)] [(8,12),(9,13)] [.cp 0 0,vi 1,lb (Aw 3)] [some (.ob 39 (chain [.cp 1 0,.cp 4 0,vi (((0+1)+1:Nat):Int),vi 0,.ls false [.int .i64] (ints ([]:List Nat)),vi 0,vi 0,.ls false [.int .i64] [],.sk 11])),some (DJ (Ol (List.replicate 32 (0:Int))) true false 2 3 [pM (List.replicate 32 (0:Int))] []),some (Ao (A0 (pA (List.replicate 32 (0:Int))) ((0+1)+1)) ((0+1)+1)),some (C8 (pB (List.replicate 32 (0:Int)))),some (DJ (Ol (List.replicate 32 (0:Int))) false false 5 6 [pM (List.replicate 32 (0:Int))] (EM [pM (List.replicate 32 (0:Int))] (pA (List.replicate 32 (0:Int))) ([]:List Nat))),some (C8 (pB (List.replicate 32 (0:Int)))),some (C8 (A0 (pA (List.replicate 32 (0:Int))) 0)),some (.sl 48 [.int .i64,.int .i64,.sl (.int .u8),.sl (.int .u8)] (Mn [pM (List.replicate 32 (0:Int))] (pA (List.replicate 32 (0:Int))) ((([]:List (List Int))++[[97]])++[[98]])))])] [] 14 hS fun hS=>Ab (Ai hS (B5 (Ay [(0,AR (jP))] [] 14 hS fun hS=>Au ?_)))
 have hR5:RI (nI 0 1) (nJ 0 ([]:List Nat) 1):=RI.nil.next
 exact Av [(3,AG 1 2),(5,AO (RS (Ol (List.replicate 32 (0:Int))) false (pB (List.replicate 32 (0:Int))) 0 (pA (List.replicate 32 (0:Int))) (nI 0 1) [pM (List.replicate 32 (0:Int))] (nJ 0 ([]:List Nat) 1) hR5 (by decide)) [(0,4),(1,12),(2,13)] []),(7,AR (Qr (ints (nJ 0 ([]:List Nat) 1)) [0] rfl)),(16,AG 0 2),(21,AG 1 2),(23,Ix (gT (Ol (List.replicate 32 (0:Int))) (A0 (pA (List.replicate 32 (0:Int))) ((0+1)+1)) ((0+1)+1) (pB (List.replicate 32 (0:Int))) 0 [pM (List.replicate 32 (0:Int))] ([]:List KR) (pB (List.replicate 32 (0:Int))) 0 (A0 (pA (List.replicate 32 (0:Int))) (nI 0 1)) (nI 0 1) (EM [pM (List.replicate 32 (0:Int))] (pA (List.replicate 32 (0:Int))) (nJ 0 ([]:List Nat) 1)) (by first |assumption|rfl)) [(0,1),(1,2),(2,3),(3,4),(4,12),(5,13)] [] [.cp 1 0,.cp 4 0] [some (DJ (Ol (List.replicate 32 (0:Int))) true false 2 3 [pM (List.replicate 32 (0:Int))] []),some (Ao (A0 (pA (List.replicate 32 (0:Int))) ((0+1)+1)) ((0+1)+1)),some (C8 (pB (List.replicate 32 (0:Int)))),some (DJ (Ol (List.replicate 32 (0:Int))) false false 12 13 [pM (List.replicate 32 (0:Int))] (EM [pM (List.replicate 32 (0:Int))] (pA (List.replicate 32 (0:Int))) (nJ 0 ([]:List Nat) 1))),some (C8 (pB (List.replicate 32 (0:Int)))),some (Ao (A0 (pA (List.replicate 32 (0:Int))) (nI 0 1)) (nI 0 1))])] [] 14 hS fun hS=>D6 (Ci hS)
end
end Go.Sx.Tryz
namespace Go.Sx.Tryz
open Go.Mi Go.RowKit Go.Sx Go.Proofs
noncomputable section
structure EOk (fi:Bool) (e:EndH):Prop extends SndOk fi e where
 K:N2 e.kl
 ll:e.low≤e.last∧e.last≤20000000
 td:e.told≤20000000
 rln:e.rln=(if e.st=1 then 1088 else 1184)
 rid:e.rid=(if e.st=1 then 2*e.ep+1 else 2*e.ep)
 bx:e.bx.length=2
structure Xy (id:List Int) (fi:Bool) (e:EndH) (xs rand:List Int) (e2:EndH) (text:List Int) (n:Nat):Prop where
 same:e2.ok=e.ok∧e2.oi=e.oi
 ex:∃pid pa d,XA e.st e.ep e.sd e.tx e.bx ((Aa xs).2.2.2.2.1) pid pa d∧HO id fi e.ok e.oi e.ik e.ii e.low e.mx e.last e.told e.kl e.st e.ep e.at_ e.sd e.tx e.rid e.rln e.bx xs=true∧A_ id fi e.ok e.oi e.ik e.ii e.low e.mx e.last e.told e.kl e.st e.ep e.at_ e.sd e.tx e.rid e.rln e.bx xs rand pid pa d=(e2.ik,e2.ii,e2.st,e2.ep,e2.at_,e2.sd,e2.tx,e2.rid,e2.rln,e2.bx,e2.low,e2.mx,e2.last,e2.told,e2.kl,text,n)
section
variable (id:List Int) (fi:Bool) (e:EndH) (xs rand:List Int) (e2:EndH) (text:List Int) (n:Nat)
def rD:Con:=⟨[.cp 0 0,lb xs,lb rand],[(0,B8 id fi true 1 2 3 e.low e.mx e.last e.told e.kl),(1,Ao e.ok e.oi),(2,Ao e.ik e.ii),(3,A9 e.st e.ep e.at_ e.sd e.tx 4),(4,BA e.rid e.rln e.bx)],.tu (chain [lb text,vi (n:Int),vi 0]),[(0,B8 id fi true 9 10 11 e2.low e2.mx e2.last e2.told e2.kl),(1,Ao e.ok e.oi),(2,Ao e.ik e.ii),(3,A9 e.st e.ep e.at_ e.sd e.tx 4),(4,BA e.rid e.rln e.bx),(9,Ao e2.ok e2.oi),(10,Ao e2.ik e2.ii),(11,A9 e2.st e2.ep e2.at_ e2.sd e2.tx 17),(17,BA e2.rid e2.rln e2.bx)]⟩
theorem ZU (hE:EOk fi e) (hG:Xy id fi e xs rand e2 text n) (hf:xs.length≤50000) (hr:rand.length=128):ConOk Tryz.prog 19 (rD id fi e xs rand e2 text n):=by
 obtain⟨pid,pa,d,h1,h2,h3⟩:=hG.ex
 have h:=VW id fi e.ok e.oi e.ik e.ii e.low e.mx e.last e.told e.kl e.st e.ep e.at_ e.sd e.tx e.rid e.rln e.bx xs rand pid pa d hE.ok hE.ik (by have :=hE.oi;omega) (by have :=hE.ii;omega) ⟨hE.m1.1,by have :=hE.m1.2;omega⟩ hE.m2 (by have :=hE.low;omega) hE.K ⟨hE.ll.1,by have :=hE.ll.2;omega⟩ (by have :=hE.td;omega) hE.mn hE.st hE.rln hE.rid hE.bx (by have :=hE.ep;omega) (fun _ _ _=>h1) hf hr h2
 unfold Q4 at h
 rw[h3]at h
 unfold rD
 rw[hG.same.1,hG.same.2]
 exact h
end
def NC (e:EndH) (x12:Nat):(List Int)→(List Int):=fun x2=>x2++[((e.kl.getD x12 (rz [.int .i64,.int .i64,.sl (.sl (.int .u8))])).1)]
def Ha (e:EndH):Nat→(List Int)
 |0=>[]
 |x12+1=>NC e x12 (Ha e x12)
section
variable (id:List Int) (fi:Bool) (e:EndH)
def Pq (id:List Int) (fi:Bool) (e:EndH):(List Int):=Ha e e.kl.length
def IG:(List Int):=AJ (Pq id fi e)
theorem VF:IG id fi e=Pq id fi e:=Af _
def qU (z_:(List Int):=IG id fi e):Con:=⟨[.cp 0 0],[(0,B8 id fi true 1 2 3 e.low e.mx e.last e.told e.kl),(1,Ao e.ok e.oi),(2,Ao e.ik e.ii),(3,A9 e.st e.ep e.at_ e.sd e.tx 4),(4,BA e.rid e.rln e.bx)],.sk 5,[(0,B8 id fi true 1 2 3 e.low e.mx e.last e.told e.kl),(1,Ao e.ok e.oi),(2,Ao e.ik e.ii),(3,A9 e.st e.ep e.at_ e.sd e.tx 4),(4,BA e.rid e.rln e.bx),(5,.sl 3 [.int .i64] z_)]⟩
theorem cS (hK:N2 e.kl):ConOk Tryz.prog 21 (qU id fi e):=by
 refine cy 5 Tryz.func21 rfl Tryz.ntmps21 fun hg0 hS=>Ae [] 5 hS fun hS=>Au (Ay [(1,Lc (BN) [0,1] [.im (chain [.top,.top,.top,.im (chain []) 0,.top,.top,.top,.top,.top,.top,.top]) 0])] [] 5 hS fun hS=>Ai hS (EK (Ae [10] 5 hS fun hS=>Br ?_)))
 obtain⟨gs,hS⟩:=hS.nilk 2 3 [.int .i64]
 refine Ar (ι:=Nat×(List Int)) hg0 hS (fun(x12,x2)=>(e.kl.length-x12,[(12,vi ((x12:Nat):Int))],[(5,.sl 3 [.int .i64] x2)],(x12≤e.kl.length)∧(x2=Ha e x12)∧(x2.length=x12∧e.kl.length≤1000)∧True)) [2,10,11] [0,1,2,3,4] 6 (0,[]) [(0,0),(1,1),(2,2),(3,3),(4,4),(5,5)] ⟨Ac,rfl,⟨rfl,hK.1⟩,trivial⟩ ?_
 rintro⟨x12,x2⟩ ac gs ws ⟨hx12,hq1,p1,_⟩ hS
 refine Ae [] 6 hS fun hS=>Au (AB ((x12:Int)<((e.kl.length:Nat):Int)) hS (fun h1=> ?_) (fun h1=> ?_))
 ·exact BG (Ay [(0,AG x12 e.kl.length)] [4] 7 hS fun hS=>Av [(4,Ge x2.length 1 8)] [2] 8 hS fun hS=>BV (Av [(0,BQ x12)] [12] 8 hS fun hS=>Ab (Am hg0 hS (x12+1,x2++[((e.kl.getD x12 (rz [.int .i64,.int .i64,.sl (.sl (.int .u8))])).1)]) [(0,0),(1,1),(2,2),(3,3),(4,4),(5,7)] ⟨Ac,(A2 (st:=NC _) hq1 rfl rfl),(by rw[List.length_append,List.length_cons,List.length_nil];omega),trivial⟩)))
 ·have hT:=hS
  obtain rfl:e.kl.length=x12:=by omega
  obtain rfl:=hq1.symm
  have hS:=hT
  exact CX (Ae [2] 6 hS fun hS=>AU (Bh (VF ..) hS))
theorem XY:IG id fi e=Ve e.kl:=by
 have key:∀n,n≤e.kl.length→Ha e n=Ve (e.kl.take n):=by
  intro n
  induction n with
  |zero=>intro _;rfl
  |succ n ih=>
   intro hn
   show Ha e n++[(e.kl.getD n kz).1]=_
   rw[ih Ac,List.take_succ_eq_append_getElem Ac,List.getD_eq_getElem?_getD,List.getElem?_eq_getElem Ac]
   unfold Ve
   rw[List.map_append];rfl
 rw[VF];unfold Pq
 rw[key _ (Nat.le_refl _),List.take_length]
def Tb:Con:=⟨[.cp 0 0],[(0,B8 id fi true 1 2 3 e.low e.mx e.last e.told e.kl),(1,Ao e.ok e.oi),(2,Ao e.ik e.ii),(3,A9 e.st e.ep e.at_ e.sd e.tx 4),(4,BA e.rid e.rln e.bx)],.ls false [.int .i64] (IG id fi e),[(0,B8 id fi true 1 2 3 e.low e.mx e.last e.told e.kl),(1,Ao e.ok e.oi),(2,Ao e.ik e.ii),(3,A9 e.st e.ep e.at_ e.sd e.tx 4),(4,BA e.rid e.rln e.bx)]⟩
theorem XX (hK:N2 e.kl):ConOk Tryz.prog 21 (Tb id fi e):=ConOk.frz [(0,B8 id fi true 1 2 3 e.low e.mx e.last e.told e.kl),(1,Ao e.ok e.oi),(2,Ao e.ik e.ii),(3,A9 e.st e.ep e.at_ e.sd e.tx 4),(4,BA e.rid e.rln e.bx)] 5 3 [.int .i64] (IG id fi e) (cS id fi e hK) (by kernel_rfl)
def qW:Con:=⟨[.cp 0 0],[(0,B8 id fi true 1 2 3 e.low e.mx e.last e.told e.kl),(1,Ao e.ok e.oi),(2,Ao e.ik e.ii),(3,A9 e.st e.ep e.at_ e.sd e.tx 4),(4,BA e.rid e.rln e.bx)],.ls false [.int .i64] (Ve e.kl),[(0,B8 id fi true 1 2 3 e.low e.mx e.last e.told e.kl),(1,Ao e.ok e.oi),(2,Ao e.ik e.ii),(3,A9 e.st e.ep e.at_ e.sd e.tx 4),(4,BA e.rid e.rln e.bx)]⟩
theorem RU (hK:N2 e.kl):ConOk Tryz.prog 21 (qW id fi e):=by
 have h:=XX id fi e hK
 unfold Tb at h
 rw[XY]at h
 exact h
end
section
variable (a b:EndH) (ida idb:List Int) (sa ia:Nat) (ja:List Nat) (sb ib:Nat) (jb:List Nat) (fl:List (Int×Int×List Int×List Int))
def Ac4:Con:=Cq [.cp 0 0,vi 1] [(0,NZ 1 6 sa ia (ints ja) sb ib (ints jb) 11),(1,B8 ida true true 2 3 4 a.low a.mx a.last a.told a.kl),(2,Ao a.ok a.oi),(3,Ao a.ik a.ii),(4,A9 a.st a.ep a.at_ a.sd a.tx 5),(5,BA a.rid a.rln a.bx),(6,B8 idb false true 7 8 9 b.low b.mx b.last b.told b.kl),(7,Ao b.ok b.oi),(8,Ao b.ik b.ii),(9,A9 b.st b.ep b.at_ b.sd b.tx 10),(10,BA b.rid b.rln b.bx),(11,.sl 48 [.int .i64,.int .i64,.sl (.int .u8),.sl (.int .u8)] fl)] (.v (.bool true))
theorem u7 (hK:N2 b.kl) (hI:b.ii=ia) (hJ:Ve b.kl=ints ja):ConOk Tryz.prog 27 (Ac4 a b ida idb sa ia ja sb ib jb fl):=by
 refine cy 12 Tryz.func27 rfl Tryz.ntmps27 fun hg0 hS=> ?_
 have Mk:fl.length≤9223372036854775807:=hS.lens 11 rfl
 refine Ae [] 12 hS fun hS=>Ay [(5,AG 0 2)] [5] 13 hS fun hS=>Au ?_
 have hq1:((b.ii:Nat):Int)=(ia:Int):=(by rw[hI])
 exact Av [(4,AG 1 2),(6,AO (RQ idb false b.ok b.oi b.ik b.ii b.low b.mx b.last b.told b.kl b.st b.ep b.at_ b.sd b.tx b.rid b.rln b.bx) [(0,6),(1,7),(2,8),(3,9),(4,10)] []),(9,Iw hq1),(15,AG 1 2),(17,AO (RU idb false b BC) [(0,6),(1,7),(2,8),(3,9),(4,10)] []),(20,AR (Qr (Ve b.kl) (ints ja) hJ))] [] 13 hS fun hS=>D6 (Ci hS)
def Ac5:Con:=Cq [.cp 0 0,vi 0] [(0,NZ 1 6 sa ia (ints ja) sb ib (ints jb) 11),(1,B8 ida true true 2 3 4 a.low a.mx a.last a.told a.kl),(2,Ao a.ok a.oi),(3,Ao a.ik a.ii),(4,A9 a.st a.ep a.at_ a.sd a.tx 5),(5,BA a.rid a.rln a.bx),(6,B8 idb false true 7 8 9 b.low b.mx b.last b.told b.kl),(7,Ao b.ok b.oi),(8,Ao b.ik b.ii),(9,A9 b.st b.ep b.at_ b.sd b.tx 10),(10,BA b.rid b.rln b.bx),(11,.sl 48 [.int .i64,.int .i64,.sl (.int .u8),.sl (.int .u8)] fl)] (.v (.bool true))
theorem u9 (hK:N2 a.kl) (hI:a.ii=ib) (hJ:Ve a.kl=ints jb):ConOk Tryz.prog 27 (Ac5 a b ida idb sa ia ja sb ib jb fl):=by
 refine cy 12 Tryz.func27 rfl Tryz.ntmps27 fun hg0 hS=> ?_
 have Mk:fl.length≤9223372036854775807:=hS.lens 11 rfl
 refine Ae [] 12 hS fun hS=>Ay [(5,AG 1 2)] [5] 13 hS fun hS=>Au ?_
 have hq1:((a.ii:Nat):Int)=(ib:Int):=(by rw[hI])
 exact Av [(4,AG 0 2),(6,AO (RQ ida true a.ok a.oi a.ik a.ii a.low a.mx a.last a.told a.kl a.st a.ep a.at_ a.sd a.tx a.rid a.rln a.bx) [(0,1),(1,2),(2,3),(3,4),(4,5)] []),(9,Iw hq1),(15,AG 0 2),(17,AO (RU ida true a BC) [(0,1),(1,2),(2,3),(3,4),(4,5)] []),(20,AR (Qr (Ve a.kl) (ints jb) hJ))] [] 13 hS fun hS=>D6 (Ci hS)
end
end
end Go.Sx.Tryz
namespace Go.Sx.Tryz
open Go.Mi Go.RowKit Go.Sx Go.Proofs
noncomputable section
section
variable (p:PS)
def PS.dlvA (e2:EndH) (n:Nat):PS:={p with b:=e2,ia:=nI p.ia n,ja:=nJ p.ia p.ja n}
def PS.dlvB (e2:EndH) (n:Nat):PS:={p with a:=e2,ib:=nI p.ib n,jb:=nJ p.ib p.jb n}
def Ac8 (k:Nat) (rand:List Int) (n:Nat) (text fr:List Int) (e2:EndH):Con:=⟨[.cp 0 0,vi (k:Int),lb rand],[(0,NZ 1 6 p.na p.ia (ints p.ja) p.nb p.ib (ints p.jb) 11),(1,B8 p.ida true true 2 3 4 p.a.low p.a.mx p.a.last p.a.told p.a.kl),(2,Ao p.a.ok p.a.oi),(3,Ao p.a.ik p.a.ii),(4,A9 p.a.st p.a.ep p.a.at_ p.a.sd p.a.tx 5),(5,BA p.a.rid p.a.rln p.a.bx),(6,B8 p.idb false true 7 8 9 p.b.low p.b.mx p.b.last p.b.told p.b.kl),(7,Ao p.b.ok p.b.oi),(8,Ao p.b.ik p.b.ii),(9,A9 p.b.st p.b.ep p.b.at_ p.b.sd p.b.tx 10),(10,BA p.b.rid p.b.rln p.b.bx),(11,.sl 48 [.int .i64,.int .i64,.sl (.int .u8),.sl (.int .u8)] p.fl)],.v (.bool true),[(0,NZ 1 6 ((p.dlvA e2 n).na) ((p.dlvA e2 n).ia) (ints (p.dlvA e2 n).ja) ((p.dlvA e2 n).nb) ((p.dlvA e2 n).ib) (ints (p.dlvA e2 n).jb) 11),(1,B8 ((p.dlvA e2 n).ida) true true 2 3 4 ((p.dlvA e2 n).a.low) ((p.dlvA e2 n).a.mx) ((p.dlvA e2 n).a.last) ((p.dlvA e2 n).a.told) ((p.dlvA e2 n).a.kl)),(2,Ao ((p.dlvA e2 n).a.ok) ((p.dlvA e2 n).a.oi)),(3,Ao ((p.dlvA e2 n).a.ik) ((p.dlvA e2 n).a.ii)),(4,A9 ((p.dlvA e2 n).a.st) ((p.dlvA e2 n).a.ep) ((p.dlvA e2 n).a.at_) ((p.dlvA e2 n).a.sd) ((p.dlvA e2 n).a.tx) 5),(5,BA ((p.dlvA e2 n).a.rid) ((p.dlvA e2 n).a.rln) ((p.dlvA e2 n).a.bx)),(6,B8 ((p.dlvA e2 n).idb) false true 12 13 14 ((p.dlvA e2 n).b.low) ((p.dlvA e2 n).b.mx) ((p.dlvA e2 n).b.last) ((p.dlvA e2 n).b.told) ((p.dlvA e2 n).b.kl)),(7,Ao p.b.ok p.b.oi),(8,Ao p.b.ik p.b.ii),(9,A9 p.b.st p.b.ep p.b.at_ p.b.sd p.b.tx 10),(10,BA p.b.rid p.b.rln p.b.bx),(11,.sl 48 [.int .i64,.int .i64,.sl (.int .u8),.sl (.int .u8)] ((p.dlvA e2 n).fl)),(12,Ao ((p.dlvA e2 n).b.ok) ((p.dlvA e2 n).b.oi)),(13,Ao ((p.dlvA e2 n).b.ik) ((p.dlvA e2 n).b.ii)),(14,A9 ((p.dlvA e2 n).b.st) ((p.dlvA e2 n).b.ep) ((p.dlvA e2 n).b.at_) ((p.dlvA e2 n).b.sd) ((p.dlvA e2 n).b.tx) 15),(15,BA ((p.dlvA e2 n).b.rid) ((p.dlvA e2 n).b.rln) ((p.dlvA e2 n).b.bx))]⟩
theorem vE (k:Nat) (rand:List Int) (n:Nat) (text fr:List Int) (e2:EndH) (hE:EOk false p.b) (hG:Xy p.idb false p.b fr rand e2 text n) (hf:fr.length≤50000) (hr:rand.length=128) (hrow:p.fl.getD k (rz [.int .i64,.int .i64,.sl (.int .u8),.sl (.int .u8)])=((0:Int),(n:Int),text,fr)) (hk:k<p.fl.length∧k<1000000) (hR:RI p.ia p.ja) (hn:n≤1000000∧p.ia≤1000000) (hs:J3 p.ia p.ja n=true) (hI:e2.ii=nI p.ia n) (hJ:Ve e2.kl=ints (nJ p.ia p.ja n)) (hK2:N2 e2.kl):ConOk Tryz.prog 16 (Ac8 p k rand n text fr e2):=by
 refine cy 12 Tryz.func16 rfl Tryz.ntmps16 fun hg0 hS=> ?_
 have CF:rand.length≤9223372036854775807:=hS.len 2 rfl
 have Mk:p.fl.length≤9223372036854775807:=hS.lens 11 rfl
 have hs1:J3 p.ia p.ja n=true:=hs
 refine Ae [] 12 hS fun hS=>Ay [(5,AG k p.fl.length)] [7] 13 hS fun hS=>Au ?_
 have hS:=hS.ch 12 (.ob 48 (chain [vi 0,vi (n:Int),lb text,lb fr])) (.ob 48 (chain [vi ((p.fl.getD k (rz [.int .i64,.int .i64,.sl (.int .u8),.sl (.int .u8)])).1),vi (((p.fl.getD k (rz [.int .i64,.int .i64,.sl (.int .u8),.sl (.int .u8)])).2).1),lb ((((p.fl.getD k (rz [.int .i64,.int .i64,.sl (.int .u8),.sl (.int .u8)])).2).2).1),lb ((((p.fl.getD k (rz [.int .i64,.int .i64,.sl (.int .u8),.sl (.int .u8)])).2).2).2)])) (by rw[hrow]<;>rfl)
 refine Dn [] 13 hS fun hS=>Ab (Ay [(5,AG 0 2),(9,AR (OU p.na p.ia p.ja n BC Ac Ac hs1))] [9] 14 hS fun hS=>Ay [(4,AG 1 2),(9,AO (ZU p.idb false p.b fr rand e2 text n hE hG hf hr) [(0,6),(1,7),(2,8),(3,9),(4,10)] [(9,14),(10,15),(11,16),(17,17)])] [] 18 hS fun hS=>Au (Ae [] 18 hS fun hS=>Ai hS (EK (Ae [] 18 hS fun hS=>AQ hS (Ay [(6,AG 0 2)] [] 18 hS fun hS=>Au ?_)))))
 have hq2:FD text=FD text:=rfl
 have hq3:(n:Int)=(n:Int):=rfl
 refine Av [(5,tP false [(!((FD text).toList==(FD text).toList))=false] ⟨by rw[beq_self_eq_true _];rfl,trivial⟩),(10,Ik hq3)] [] 18 hS fun hS=>Ab (Ai hS (B5 (Ay [(2,AO (u7 p.a e2 p.ida p.idb p.na (nI p.ia n) (nJ p.ia p.ja n) p.nb p.ib p.jb p.fl hK2 hI hJ) [(0,0),(1,1),(2,2),(3,3),(4,4),(5,5),(6,6),(7,14),(8,15),(9,16),(10,17),(11,11)] [])] [] 18 hS fun hS=>AU ?_)))
 obtain⟨gs,hS⟩:=hS.rx [(0,0),(1,1),(2,2),(3,3),(4,4),(5,5),(6,6),(7,7),(8,8),(9,9),(10,10),(11,11),(12,14),(13,15),(14,16),(15,17)] [6] [0,1,2,3,4,5,6,7,8,9,10,11,12,13,14,15] 16 hg0
 exact Ci hS
def Ac7 (k:Nat) (rand:List Int) (n:Nat) (text fr:List Int) (e2:EndH):Con:=⟨[.cp 0 0,vi (k:Int),lb rand],[(0,NZ 1 6 p.na p.ia (ints p.ja) p.nb p.ib (ints p.jb) 11),(1,B8 p.ida true true 2 3 4 p.a.low p.a.mx p.a.last p.a.told p.a.kl),(2,Ao p.a.ok p.a.oi),(3,Ao p.a.ik p.a.ii),(4,A9 p.a.st p.a.ep p.a.at_ p.a.sd p.a.tx 5),(5,BA p.a.rid p.a.rln p.a.bx),(6,B8 p.idb false true 7 8 9 p.b.low p.b.mx p.b.last p.b.told p.b.kl),(7,Ao p.b.ok p.b.oi),(8,Ao p.b.ik p.b.ii),(9,A9 p.b.st p.b.ep p.b.at_ p.b.sd p.b.tx 10),(10,BA p.b.rid p.b.rln p.b.bx),(11,.sl 48 [.int .i64,.int .i64,.sl (.int .u8),.sl (.int .u8)] p.fl)],.v (.bool true),[(0,NZ 1 6 ((p.dlvB e2 n).na) ((p.dlvB e2 n).ia) (ints (p.dlvB e2 n).ja) ((p.dlvB e2 n).nb) ((p.dlvB e2 n).ib) (ints (p.dlvB e2 n).jb) 11),(1,B8 ((p.dlvB e2 n).ida) true true 12 13 14 ((p.dlvB e2 n).a.low) ((p.dlvB e2 n).a.mx) ((p.dlvB e2 n).a.last) ((p.dlvB e2 n).a.told) ((p.dlvB e2 n).a.kl)),(2,Ao p.a.ok p.a.oi),(3,Ao p.a.ik p.a.ii),(4,A9 p.a.st p.a.ep p.a.at_ p.a.sd p.a.tx 5),(5,BA p.a.rid p.a.rln p.a.bx),(6,B8 ((p.dlvB e2 n).idb) false true 7 8 9 ((p.dlvB e2 n).b.low) ((p.dlvB e2 n).b.mx) ((p.dlvB e2 n).b.last) ((p.dlvB e2 n).b.told) ((p.dlvB e2 n).b.kl)),(7,Ao ((p.dlvB e2 n).b.ok) ((p.dlvB e2 n).b.oi)),(8,Ao ((p.dlvB e2 n).b.ik) ((p.dlvB e2 n).b.ii)),(9,A9 ((p.dlvB e2 n).b.st) ((p.dlvB e2 n).b.ep) ((p.dlvB e2 n).b.at_) ((p.dlvB e2 n).b.sd) ((p.dlvB e2 n).b.tx) 10),(10,BA ((p.dlvB e2 n).b.rid) ((p.dlvB e2 n).b.rln) ((p.dlvB e2 n).b.bx)),(11,.sl 48 [.int .i64,.int .i64,.sl (.int .u8),.sl (.int .u8)] ((p.dlvB e2 n).fl)),(12,Ao ((p.dlvB e2 n).a.ok) ((p.dlvB e2 n).a.oi)),(13,Ao ((p.dlvB e2 n).a.ik) ((p.dlvB e2 n).a.ii)),(14,A9 ((p.dlvB e2 n).a.st) ((p.dlvB e2 n).a.ep) ((p.dlvB e2 n).a.at_) ((p.dlvB e2 n).a.sd) ((p.dlvB e2 n).a.tx) 15),(15,BA ((p.dlvB e2 n).a.rid) ((p.dlvB e2 n).a.rln) ((p.dlvB e2 n).a.bx))]⟩
theorem vD (k:Nat) (rand:List Int) (n:Nat) (text fr:List Int) (e2:EndH) (hE:EOk true p.a) (hG:Xy p.ida true p.a fr rand e2 text n) (hf:fr.length≤50000) (hr:rand.length=128) (hrow:p.fl.getD k (rz [.int .i64,.int .i64,.sl (.int .u8),.sl (.int .u8)])=((1:Int),(n:Int),text,fr)) (hk:k<p.fl.length∧k<1000000) (hR:RI p.ib p.jb) (hn:n≤1000000∧p.ib≤1000000) (hs:J3 p.ib p.jb n=true) (hI:e2.ii=nI p.ib n) (hJ:Ve e2.kl=ints (nJ p.ib p.jb n)) (hK2:N2 e2.kl):ConOk Tryz.prog 16 (Ac7 p k rand n text fr e2):=by
 refine cy 12 Tryz.func16 rfl Tryz.ntmps16 fun hg0 hS=> ?_
 have CF:rand.length≤9223372036854775807:=hS.len 2 rfl
 have Mk:p.fl.length≤9223372036854775807:=hS.lens 11 rfl
 have hs1:J3 p.ib p.jb n=true:=hs
 refine Ae [] 12 hS fun hS=>Ay [(5,AG k p.fl.length)] [7] 13 hS fun hS=>Au ?_
 have hS:=hS.ch 12 (.ob 48 (chain [vi 1,vi (n:Int),lb text,lb fr])) (.ob 48 (chain [vi ((p.fl.getD k (rz [.int .i64,.int .i64,.sl (.int .u8),.sl (.int .u8)])).1),vi (((p.fl.getD k (rz [.int .i64,.int .i64,.sl (.int .u8),.sl (.int .u8)])).2).1),lb ((((p.fl.getD k (rz [.int .i64,.int .i64,.sl (.int .u8),.sl (.int .u8)])).2).2).1),lb ((((p.fl.getD k (rz [.int .i64,.int .i64,.sl (.int .u8),.sl (.int .u8)])).2).2).2)])) (by rw[hrow]<;>rfl)
 refine Dn [] 13 hS fun hS=>Ab (Ay [(5,AG 1 2),(9,AR (OU p.nb p.ib p.jb n BC Ac Ac hs1))] [9] 14 hS fun hS=>Ay [(4,AG 0 2),(9,AO (ZU p.ida true p.a fr rand e2 text n hE hG hf hr) [(0,1),(1,2),(2,3),(3,4),(4,5)] [(9,14),(10,15),(11,16),(17,17)])] [] 18 hS fun hS=>Au (Ae [] 18 hS fun hS=>Ai hS (EK (Ae [] 18 hS fun hS=>AQ hS (Ay [(6,AG 1 2)] [] 18 hS fun hS=>Au ?_)))))
 have hq2:FD text=FD text:=rfl
 have hq3:(n:Int)=(n:Int):=rfl
 refine Av [(5,tP false [(!((FD text).toList==(FD text).toList))=false] ⟨by rw[beq_self_eq_true _];rfl,trivial⟩),(10,Ik hq3)] [] 18 hS fun hS=>Ab (Ai hS (B5 (Ay [(2,AO (u9 e2 p.b p.ida p.idb p.na p.ia p.ja p.nb (nI p.ib n) (nJ p.ib p.jb n) p.fl hK2 hI hJ) [(0,0),(1,1),(2,14),(3,15),(4,16),(5,17),(6,6),(7,7),(8,8),(9,9),(10,10),(11,11)] [])] [] 18 hS fun hS=>AU ?_)))
 obtain⟨gs,hS⟩:=hS.rx [(0,0),(1,1),(2,2),(3,3),(4,4),(5,5),(6,6),(7,7),(8,8),(9,9),(10,10),(11,11),(12,14),(13,15),(14,16),(15,17)] [6] [0,1,2,3,4,5,6,7,8,9,10,11,12,13,14,15] 16 hg0
 exact Ci hS
end
end
end Go.Sx.Tryz
namespace Go.Sx.Tryz
open Go.Mi Go.RowKit Go.Sx Go.Proofs
noncomputable section
def GB (root:List Int):PS where
 ida:=Ol root
 idb:=Ol root
 a:=⟨pA root,0,pB root,0,0,[pM root],0,0,[],1,0,0,[],[],2*0+1,1088,List.replicate (((1088+1000)-1)/1000) none⟩
 b:=⟨pB root,0,pA root,0,0,[pM root],0,0,[],2,0,0,[],[],2*0,1184,List.replicate (((1184+1000)-1)/1000) none⟩
 na:=0
 ia:=0
 ja:=[]
 nb:=0
 ib:=0
 jb:=[]
 fl:=[]
def f5 (root:List Int):Con:=⟨[lb root,.v (.bool true)],[],.tu (chain [.cp 0 0,.v (.bool true)]),[(0,NZ 1 6 ((GB root).na) ((GB root).ia) (ints (GB root).ja) ((GB root).nb) ((GB root).ib) (ints (GB root).jb) 11),(1,B8 ((GB root).ida) true true 2 3 4 ((GB root).a.low) ((GB root).a.mx) ((GB root).a.last) ((GB root).a.told) ((GB root).a.kl)),(2,Ao ((GB root).a.ok) ((GB root).a.oi)),(3,Ao ((GB root).a.ik) ((GB root).a.ii)),(4,A9 ((GB root).a.st) ((GB root).a.ep) ((GB root).a.at_) ((GB root).a.sd) ((GB root).a.tx) 5),(5,BA ((GB root).a.rid) ((GB root).a.rln) ((GB root).a.bx)),(6,B8 ((GB root).idb) false true 7 8 9 ((GB root).b.low) ((GB root).b.mx) ((GB root).b.last) ((GB root).b.told) ((GB root).b.kl)),(7,Ao ((GB root).b.ok) ((GB root).b.oi)),(8,Ao ((GB root).b.ik) ((GB root).b.ii)),(9,A9 ((GB root).b.st) ((GB root).b.ep) ((GB root).b.at_) ((GB root).b.sd) ((GB root).b.tx) 10),(10,BA ((GB root).b.rid) ((GB root).b.rln) ((GB root).b.bx)),(11,.sl 48 [.int .i64,.int .i64,.sl (.int .u8),.sl (.int .u8)] ((GB root).fl))]⟩
theorem Ys (root:List Int) (hr:root.length=32):ConOk Tryz.prog 12 (f5 root):=by
 refine cy 0 Tryz.func12 rfl Tryz.ntmps12 fun hg0 hS=> ?_
 have A6:root.length≤9223372036854775807:=hS.len 0 rfl
 refine Ae [] 0 hS fun hS=>Ae [] 1 hS fun hS=>Au (Ae [] 1 hS fun hS=>Br (wp_loop_rounds 3 (Ca (n:=2) (Au (Ae [12] 1 hS fun hS=>AQ hS (BG (Ay [(4,AO (jQ root AD) [] [(0,1),(1,2),(2,3),(3,4),(4,5),(5,6)])] [16,17,18,19,20,21,22,23] 7 hS fun hS=>Au (Ae [24,25,26,27,28] 7 hS fun hS=>Ai hS (B5 (Av [(5,AG 0 2)] [30,31,32,33,34,35] 7 hS fun hS=>BV (Dn [7,14,15] 7 hS fun hS=>Ab (Ca (n:=1) (Au (Ae [12] 7 hS fun hS=>AQ hS (BG (Ay [(4,AO (jO root AD) [] [(0,7),(1,8),(2,9),(3,10),(4,11),(5,12)])] [16,17,18,19,20,21,22,23] 13 hS fun hS=>Au (Ae [24,25,26,27,28] 13 hS fun hS=>Ai hS (B5 (Av [(5,AG 1 2)] [30,31,32,33,34,35] 13 hS fun hS=>BV (Dn [7,14,15] 13 hS fun hS=>Ab (Ca (n:=0) (Au (Ae [] 13 hS fun hS=>Ai hS (MY ?_))))))))))))))))))))))))
 have hS:=hS.wko 0 [.top,.top,.top,.top,.ls false [.int .i64] [],.top,.top,.ls false [.int .i64] [],.top]
 obtain⟨gs,hS⟩:=hS.nilob 0 8 48 [.int .i64,.int .i64,.sl (.int .u8),.sl (.int .u8)]
 have hS:=hS.wko 1 [.top,.top,.top,.top,.top,.top,.top,.ls false [.sl (.int .u8)] [],.top,.top,.ls false [.int .i64,.int .i64,.sl (.sl (.int .u8))] []]
 have hS:=hS.wko 7 [.top,.top,.top,.top,.top,.top,.top,.ls false [.sl (.int .u8)] [],.top,.top,.ls false [.int .i64,.int .i64,.sl (.sl (.int .u8))] []]
 have hS:=hS.wko 4 [.top,.top,.top,.top,lb [],lb [],.top,.top]
 have hS:=hS.wko 10 [.top,.top,.top,.top,lb [],lb [],.top,.top]
 obtain⟨gs,hS⟩:=hS.fy 6 22 [.os (.int .u8)] (List.replicate (((1088+1000)-1)/1000) none) ((show true=true→(List.replicate (((1088+1000)-1)/1000) none)≠[]from fun _=>by decide) rfl)
 obtain⟨gs,hS⟩:=hS.fy 12 22 [.os (.int .u8)] (List.replicate (((1184+1000)-1)/1000) none) ((show true=true→(List.replicate (((1184+1000)-1)/1000) none)≠[]from fun _=>by decide) rfl)
 refine Dn [0,1,6,7,8,9,13,14,15,16,17,18,19,20,21,22,23,24,25,26,27,28,29,30,31,32,33,34,35] 14 hS fun hS=>D6 ?_
 obtain⟨gs,hS⟩:=hS.rx [(0,0),(1,1),(2,2),(3,3),(4,4),(5,5),(6,7),(7,8),(8,9),(9,10),(10,11),(11,13)] [4,5] [0,1,2,3,4,5,6,7,8,9,10,11] 12 hg0
 exact Ci hS
def sZ (ida idb:List Int) (a b:EndH):Bool:=Ze ida a.low a.mx idb b.low b.mx
section
variable (ida idb:List Int) (a b:EndH)
def Adv:Con:=⟨[.cp 0 0,.cp 5 0],[(0,B8 ida true true 1 2 3 a.low a.mx a.last a.told a.kl),(1,Ao a.ok a.oi),(2,Ao a.ik a.ii),(3,A9 a.st a.ep a.at_ a.sd a.tx 4),(4,BA a.rid a.rln a.bx),(5,B8 idb false true 6 7 8 b.low b.mx b.last b.told b.kl),(6,Ao b.ok b.oi),(7,Ao b.ik b.ii),(8,A9 b.st b.ep b.at_ b.sd b.tx 9),(9,BA b.rid b.rln b.bx)],.v (.bool (sZ ida idb a b)),[(0,B8 ida true true 1 2 3 a.low a.mx a.last a.told a.kl),(1,Ao a.ok a.oi),(2,Ao a.ik a.ii),(3,A9 a.st a.ep a.at_ a.sd a.tx 4),(4,BA a.rid a.rln a.bx),(5,B8 idb false true 6 7 8 b.low b.mx b.last b.told b.kl),(6,Ao b.ok b.oi),(7,Ao b.ik b.ii),(8,A9 b.st b.ep b.at_ b.sd b.tx 9),(9,BA b.rid b.rln b.bx)]⟩
theorem Aal (ha:SndOk true a) (hb:SndOk false b):ConOk Tryz.prog 17 (Adv ida idb a b):=by
 exact Aak ida a.ok a.oi a.ik a.ii a.low a.mx a.last a.told a.kl a.st a.ep a.at_ a.sd a.tx a.rid a.rln a.bx idb b.ok b.oi b.ik b.ii b.low b.mx b.last b.told b.kl b.st b.ep b.at_ b.sd b.tx b.rid b.rln b.bx ⟨ha.m1.1,by have :=ha.m1.2;omega⟩ (by have :=ha.low;omega) ⟨hb.m1.1,by have :=hb.m1.2;omega⟩ (by have :=hb.low;omega)
end
section
variable (id:List Int) (fi:Bool) (e:EndH)
def fO:Con:=⟨[.cp 0 0],[(0,B8 id fi true 1 2 3 e.low e.mx e.last e.told e.kl),(1,Ao e.ok e.oi),(2,Ao e.ik e.ii),(3,A9 e.st e.ep e.at_ e.sd e.tx 4),(4,BA e.rid e.rln e.bx)],vi ((e.low+e.mx.length-1:Nat):Int),[(0,B8 id fi true 1 2 3 e.low e.mx e.last e.told e.kl),(1,Ao e.ok e.oi),(2,Ao e.ik e.ii),(3,A9 e.st e.ep e.at_ e.sd e.tx 4),(4,BA e.rid e.rln e.bx)]⟩
theorem Pu (he:SndOk fi e):ConOk Tryz.prog 18 (fO id fi e):=by
 exact cW id fi e.ok e.oi e.ik e.ii e.low e.mx e.last e.told e.kl e.st e.ep e.at_ e.sd e.tx e.rid e.rln e.bx ⟨he.m1.1,by have :=he.m1.2;omega⟩ (by have :=he.low;omega)
end
end
end Go.Sx.Tryz
namespace Go.Sx.Tryz
open Go.Mi Go.RowKit Go.Sx Go.Proofs
noncomputable section
def pc (E:List Int) (sz j:Nat):List Int:=(E.drop (j*sz)).take sz
theorem Z3 (E:List Int) (sz:Nat):∀k,((List.range k).map (pc E sz)).flatten=E.take (k*sz)
 |0=>by simp
 |k+1=>by
  rw[List.range_succ,List.map_append,List.flatten_append,Z3 E sz k,Nat.succ_mul,List.take_add]
  simp [pc]
def Good (E:List Int) (sz n:Nat) (bx:List (Option (List Int))):Prop:=bx.length=n∧∀j,j<n→Ld bx j (pc E sz j)
theorem LP {bx:List (Option (List Int))} {pa:Nat} {d:List Int} (h:pa<bx.length) (j:Nat):List.getD (α:=Option (List Int)) (A8 bx pa d) j none=if j=pa then some d else List.getD (α:=Option (List Int)) bx j none:=by
 unfold A8
 rw[List.getD_eq_getElem?_getD,List.getElem?_set]
 by_cases e:j=pa
 ·rw[if_pos e,if_pos e.symm,if_pos h];rfl
 ·rw[if_neg e,if_neg (fun q=>e q.symm),List.getD_eq_getElem?_getD]
theorem Good.put {E:List Int} {sz n pa:Nat} {bx:List (Option (List Int))} (h:Good E sz n bx) (hp:pa<n):Good E sz n (A8 bx pa (pc E sz pa)):=by
 refine⟨by rw[FA,h.1],fun j hj=> ?_⟩
 unfold Ld
 rw[LP (by rw[h.1];exact hp)]
 by_cases e:j=pa
 ·rw[if_pos e,e];exact .inr rfl
 ·rw[if_neg e];exact h.2 j hj
theorem Ov {bx:List (Option (List Int))}:full bx=true↔∀j,j<bx.length→(List.getD (α:=Option (List Int)) bx j none).isSome=true:=by
 unfold full
 rw[List.all_eq_true]
 refine⟨fun h j hj=> ?_,fun h x hx=> ?_⟩
 ·rw[List.getD_eq_getElem?_getD,List.getElem?_eq_getElem hj]
  exact h _ (List.getElem_mem hj)
 ·obtain⟨j,hj,rfl⟩:=List.mem_iff_getElem.1 hx
  have :=h j hj
  rw[List.getD_eq_getElem?_getD,List.getElem?_eq_getElem hj]at this
  exact this
theorem Good.all {E:List Int} {sz n:Nat} {bx:List (Option (List Int))} (h:Good E sz n bx) (hf:full bx=true):GY bx=(List.range n).map (pc E sz):=by
 refine List.ext_getElem (by rw[List.length_map,List.length_map,List.length_range,h.1]) fun j h1 h2=> ?_
 rw[List.length_map]at h1
 have h3:=Ov.1 hf j h1
 have h4:=h.2 j (by rw[←h.1];exact h1)
 unfold Ld at h4
 rw[List.getD_eq_getElem?_getD,List.getElem?_eq_getElem h1]at h3 h4
 rw[List.getElem_map,List.getElem_map,List.getElem_range]
 rcases h4 with h4|h4
 ·have h4:bx[j]=none:=h4
  rw[Option.getD_some,h4]at h3;cases h3
 ·have h4:bx[j]=some (pc E sz j):=h4
  rw[h4];rfl
theorem AcD {len sz:Nat} (hz:1≤sz):len≤(len+sz-1)/sz*sz:=by
 have :=(UP (len:=len) hz ((len+sz-1)/sz)).2
 rcases Nat.lt_or_ge ((len+sz-1)/sz*sz) len with h|h
 ·exact absurd (this h) (Nat.lt_irrefl _)
 ·exact h
theorem Good.flat {E:List Int} {sz:Nat} {bx:List (Option (List Int))} (hz:1≤sz) (h:Good E sz ((E.length+sz-1)/sz) bx) (hf:full bx=true):(GY bx).flatten=E:=by
 rw[h.all hf,Z3,List.take_of_length_le (AcD hz)]
theorem lA (n j:Nat):List.getD (α:=Option (List Int)) (List.replicate n none) j none=none:=by
 rw[List.getD_eq_getElem?_getD,List.getElem?_replicate]
 split<;>rfl
theorem Good.nil (E:List Int) (sz n:Nat):Good E sz n (List.replicate n none):=⟨List.length_replicate,fun j _=> .inl (lA n j)⟩
theorem nV {n pa:Nat} {d:List Int} (h:2≤n) (hp:pa<n):full (A8 (List.replicate n none) pa d)=false:=by
 cases hf:full (A8 (List.replicate n none) pa d)with
 |false=>rfl
 |true=>
  have :=Ov.1 hf (if pa=0 then 1 else 0) (by rw[FA,List.length_replicate];split<;>omega)
  rw[LP (by rw[List.length_replicate];exact hp),if_neg (by split<;>omega),lA]at this
  cases this
theorem t5 {n j:Nat} (L:Nat) (h:j<n):∃t,L≤t∧t<L+n∧t%n=j:=by
 have h1:=Nat.div_add_mod (L+n-1-j) n
 have h2:=Nat.mod_lt (L+n-1-j) (show 0<n by omega)
 refine⟨j+n*((L+n-1-j)/n),by omega,by omega,?_⟩
 rw[Nat.add_mul_mod_self_left,Nat.mod_eq_of_lt h]
def Came (n L k:Nat) (bx:List (Option (List Int))):Prop:=∀t,L≤t→t<k→(List.getD (α:=Option (List Int)) bx (t%n) none).isSome=true
theorem Came.put {n L k k' pa:Nat} {bx:List (Option (List Int))} {d:List Int} (h:Came n L k bx) (hp:pa<bx.length) (hk:∀t,L≤t→t<k'→t<k∨t%n=pa):Came n L k' (A8 bx pa d):=fun t h1 h2=>by
 rw[LP hp]
 by_cases e:t%n=pa
 ·rw[if_pos e];rfl
 ·rw[if_neg e]
  rcases hk t h1 h2 with h3|h3
  ·exact h t h1 h3
  ·exact absurd h3 e
theorem Came.full {n L k:Nat} {bx:List (Option (List Int))} (h:Came n L k bx) (hb:bx.length=n) (hk:L+n≤k):full bx=true:=Ov.2 fun j hj=>by
 obtain⟨t,h1,h2,h3⟩:=t5 L (hb▸hj:j<n)
 have :=h t h1 Ac
 rw[h3]at this
 exact this
theorem YI (ek m:List Int):(D5 ek m).2.length=1088:=by
 rw[Nr];unfold JK
 simp only[WU]
def B0:List (Option (List Int)):=List.replicate 2 none
theorem Va {pa:Nat} (d:List Int) (h:pa<2):full (A8 B0 pa d)=false:=nV (by decide) h
structure KI (ea:Nat) (sa ta:List Int) (ba:List (Option (List Int))) (sb eb:Nat) (tb:List Int) (bb:List (Option (List Int))):Prop where
 ek:ta=[]∨(sa.length=64∧ta=(AF (sa.take 32) (sa.drop 32)).1)
 or:(sb=2∧eb=ea∧ba=B0∧tb=[]∧Good ta 1000 2 bb∧(ta=[]→bb=B0))
  ∨(sb=3∧eb=ea∧bb=B0∧tb.length=1088∧ta≠[]∧Good tb 1000 2 ba)
  ∨(sb=3∧eb+1=ea∧bb=B0∧tb.length=1088∧ba=B0)
def StB (ea sb eb at_:Nat) (bb:List (Option (List Int))) (pa:Nat) (s e a:Nat) (b:List (Option (List Int))):Prop:=∃d,(sb=3→eb=ea→s=3∧e=eb∧a=at_)∧(sb=3→eb+1=ea→s=2∧b=A8 B0 pa d)
 ∧(sb=2→full (A8 bb pa d)=true→s=3∧e=eb∧a=0)∧(sb=2→full (A8 bb pa d)=false→s=2∧b=A8 bb pa d)
def StA (ea at_:Nat) (ba:List (Option (List Int))) (sb eb pa:Nat) (e a:Nat) (b:List (Option (List Int))):Prop:=∃d,(sb=2→e=ea∧a=at_∧b=ba)∧(sb=3→eb=ea→full (A8 ba pa d)=true→e=ea+1∧a=0)∧(sb=3→eb=ea→full (A8 ba pa d)=false→e=ea∧a=at_∧b=A8 ba pa d)
def G2 (st ep:Nat):Nat:=if st=3 then ep+1 else ep
theorem QL {sa ta:List Int} (h:sa.length=64∧ta=(AF (sa.take 32) (sa.drop 32)).1):chk ta=0∧ta.length=1184:=by
 obtain⟨h1,h2⟩:=h
 rw[h2]
 exact⟨m9 ..,(Hu _ _ (by rw[List.length_drop];omega)).1⟩
theorem uC (id:Nat) {t:List Int} (h:t.length=1184∨t.length=1088):(Al id t 1000).length=2:=by
 rw[GK]
 rcases h with h|h<;>rw[h]
theorem AfA {ea at_ : Nat} {sa ta : List Int} {ba : List (Option (List Int))} {sb eb : Nat} {tb : List Int} {bb : List (Option (List Int))} (h : KI ea sa ta ba sb eb tb bb) (id ln : Nat) {r : List Int} (hr : r.length = 64) :
  ∃s t,A3 1 ea at_ sa ta id ln ba r=(at_+1,s,t,Ds (2*ea) (at_%2) 2 (pc t 1000 (at_%2)))∧KI ea s t ba sb eb tb bb∧s.length=64∧t=(AF (s.take 32) (s.drop 32)).1:=by
 rcases h.ek with e|⟨e1,e2⟩
 ·subst e
  have hk:=QL (sa:=r) (ta:=(AF (r.take 32) (r.drop 32)).1) ⟨hr,rfl⟩
  refine⟨r,(AF (r.take 32) (r.drop 32)).1,?_,⟨.inr ⟨hr,rfl⟩,?_⟩,hr,rfl⟩
  ·rw[HV];unfold Nj
   rw[if_neg (by decide),if_neg (by decide),if_pos (by decide),uC _ (.inl hk.2)]
   rfl
  ·rcases h.or with⟨h1,h2,h3,h4,h5,h6⟩|⟨h1,h2,h3,h4,h5,h6⟩|h
   ·exact .inl ⟨h1,h2,h3,h4,by rw[h6 rfl];exact Good.nil _ _ _,fun e=>by rw[e]at hk;exact absurd hk.2 (by decide)⟩
   ·exact absurd rfl h5
   ·exact .inr (.inr h)
 ·have hk:=QL ⟨e1,e2⟩
  refine⟨sa,ta,?_,h,e1,e2⟩
  rw[HV];unfold Nj
  rw[if_neg (by decide),if_neg (by decide),if_neg Ac,uC _ (.inl hk.2)]
  rfl
theorem Afz {ea at_ : Nat} {sa ta : List Int} {ba : List (Option (List Int))} {sb eb : Nat} {tb : List Int} {bb : List (Option (List Int))} (h : KI ea sa ta ba sb eb tb bb) (sd : List Int) (id ln : Nat) (r : List Int) :
  A3 sb eb at_ sd tb id ln bb r=if sb=2 then(at_,sd,tb,[])else(at_+1,sd,tb,Ds (2*eb+1) (at_%2) 2 (pc tb 1000 (at_%2))):=by
 rw[HV];unfold Nj
 rcases h.or with⟨h1,_⟩|⟨h1,_,_,h4,_⟩|⟨h1,_,_,h4,_⟩
 ·rw[if_pos Ac,if_pos h1]
 ·rw[if_neg Ac,if_pos Ac,if_neg Ac,if_neg Ac,uC _ (.inr h4)];rfl
 ·rw[if_neg Ac,if_pos Ac,if_neg Ac,if_neg Ac,uC _ (.inr h4)];rfl
theorem Ye {t:List Int} {n pa:Nat} (h:t.length=n) (h2:n=1184∨n=1088) (hp:pa<2):(pc t 1000 pa).length=min 1000 (n-pa*1000)∧1≤(pc t 1000 pa).length∧(pc t 1000 pa).length≤1000:=by
 unfold pc
 rw[List.length_take,List.length_drop,h]
 omega
theorem inB {ea : Nat} {sa ta : List Int} {ba : List (Option (List Int))} {sb eb : Nat} {tb : List Int} {bb : List (Option (List Int))} (h : KI ea sa ta ba sb eb tb bb) (hk : sa.length = 64 ∧ ta = (AF (sa.take 32) (sa.drop 32)).1) (hea : ea ≤ 400000000) {pa : Nat} (hp : pa < 2) (at_ : Nat) (sd r : List Int) :
  XA sb eb sd tb bb (Ds (2*ea) pa 2 (pc ta 1000 pa)) (2*ea) pa (pc ta 1000 pa)
  ∧∃s e a d t b ks,FF sb eb at_ sd tb (2*eb) 1184 bb (Ds (2*ea) pa 2 (pc ta 1000 pa)) (2*ea) pa (pc ta 1000 pa) r=(s,e,a,d,t,2*e,1184,b,ks)
   ∧KI ea sa ta ba s e t b∧a≤at_∧G2 s e=G2 sb eb+ks.length∧ks.length≤1∧StB ea sb eb at_ bb pa s e a b:=by
 have hc:=QL hk
 have hl:=Ye hc.2 (.inl rfl) hp
 have hne:Ds (2*ea) pa 2 (pc ta 1000 pa)≠[]:=fun e=>by have :=QK (id:=2*ea) (ai:=pa) (ct:=2) hl.2.1;rw[e]at this;exact Nat.not_succ_le_zero 0 this
 have hta:ta≠[]:=fun e=>by rw[e]at hc;exact absurd hc.2 (by decide)
 have hB0:full (A8 B0 pa (pc ta 1000 pa))≠true:=by rw[Va _ hp];decide
 rw[WF _ _ _ _ _ _ _ _ hne,Hw]
 unfold SG
 rcases h.or with⟨h1,h2,h3,h4,h5,h6⟩|⟨h1,h2,h3,h4,h5,h6⟩|⟨h1,h2,h3,h4,h5⟩
 ·have hf:full (A8 bb pa (pc ta 1000 pa))=true→(GY (A8 bb pa (pc ta 1000 pa))).flatten=ta:=fun e=>Good.flat (sz:=1000) (by decide) (by rw[hc.2];exact h5.put hp) e
  refine⟨.inr ⟨rfl,hp,hl.2,by omega,by rw[if_neg Ac];exact hl.1,.inr (.inl ⟨by omega,by omega⟩),fun _ _=>h5.2 pa hp,fun e=>by omega,fun _ e=>by rw[hf e];exact⟨hc.1,hc.2⟩,fun e=>by omega⟩,?_⟩
  rw[if_neg Ac,if_neg Ac,if_pos Ac,if_neg Ac]
  by_cases hfl:full (A8 bb pa (pc ta 1000 pa))=true
  ·rw[if_pos hfl]
   refine⟨_,_,_,_,_,_,_,rfl,⟨h.ek,.inr (.inl ⟨rfl,h2,rfl,YI _ _,hta,?_⟩)⟩,Nat.zero_le _,?_,by simp,pc ta 1000 pa,by omega,by omega,fun _ _=>⟨rfl,rfl,rfl⟩,fun _ e=>by rw[hfl]at e;cases e⟩
   ·rw[h3];exact Good.nil _ _ _
   ·unfold G2;rw[if_pos rfl,if_neg Ac];rfl
  ·rw[if_neg hfl]
   refine⟨_,_,_,_,_,_,_,rfl,⟨h.ek,.inl ⟨h1,h2,h3,h4,h5.put hp,fun e=>absurd e hta⟩⟩,Nat.le_refl _,rfl,by simp,pc ta 1000 pa,by omega,by omega,fun _ e=>absurd e hfl,fun _ _=>⟨h1,rfl⟩⟩
 ·refine⟨.inr ⟨rfl,hp,hl.2,by omega,by rw[if_neg Ac];exact hl.1,.inr (.inl ⟨by omega,by omega⟩),fun _ e=>absurd h1 e,fun e=>by omega,fun _ e=>by rw[h3]at e;exact absurd e hB0,fun e=>by omega⟩,?_⟩
  rw[if_neg Ac,if_neg Ac,if_pos Ac,if_pos Ac]
  exact⟨_,_,_,_,_,_,_,rfl,h,Nat.le_refl _,rfl,by simp,pc ta 1000 pa,fun _ _=>⟨h1,rfl,rfl⟩,by omega,by omega,by omega⟩
 ·refine⟨.inr ⟨rfl,hp,hl.2,by omega,by rw[if_neg Ac];exact hl.1,.inr (.inr ⟨by omega,by omega⟩),fun _ e=>absurd h1 e,fun e=>by omega,fun _ e=>by rw[h3]at e;exact absurd e hB0,fun e=>by omega⟩,?_⟩
  rw[if_neg Ac,if_neg Ac,if_neg Ac]
  refine⟨_,_,_,_,_,_,_,rfl,⟨h.ek,.inl ⟨rfl,h2,h5,rfl,(Good.nil ta 1000 2).put hp,fun e=>absurd e hta⟩⟩,Nat.zero_le _,?_,by simp,pc ta 1000 pa,by omega,fun _ _=>⟨rfl,rfl⟩,by omega,by omega⟩
  unfold G2;rw[if_neg (by decide),if_pos h1];rfl
theorem inA {ea : Nat} {sa ta : List Int} {ba : List (Option (List Int))} {sb eb : Nat} {tb : List Int} {bb : List (Option (List Int))} (h : KI ea sa ta ba sb eb tb bb) (hea : ea ≤ 400000000) (hsb : sb = 3) {pa : Nat} (hp : pa < 2) (at_ : Nat) (r : List Int) :
  XA 1 ea sa ta ba (Ds (2*eb+1) pa 2 (pc tb 1000 pa)) (2*eb+1) pa (pc tb 1000 pa)
  ∧∃e a d t b ks,FF 1 ea at_ sa ta (2*ea+1) 1088 ba (Ds (2*eb+1) pa 2 (pc tb 1000 pa)) (2*eb+1) pa (pc tb 1000 pa) r=(1,e,a,d,t,2*e+1,1088,b,ks)
   ∧KI e d t b sb eb tb bb∧a≤at_∧e=ea+ks.length∧ks.length≤1∧StA ea at_ ba sb eb pa e a b:=by
 have hl:(pc tb 1000 pa).length=min 1000 (1088-pa*1000)∧1≤(pc tb 1000 pa).length∧(pc tb 1000 pa).length≤1000:=by
  rcases h.or with h|h|h
  ·omega
  ·exact Ye h.2.2.2.1 (.inr rfl) hp
  ·exact Ye h.2.2.2.1 (.inr rfl) hp
 have hne:Ds (2*eb+1) pa 2 (pc tb 1000 pa)≠[]:=fun e=>by have :=QK (id:=2*eb+1) (ai:=pa) (ct:=2) hl.2.1;rw[e]at this;exact Nat.not_succ_le_zero 0 this
 have hB0:full (A8 B0 pa (pc tb 1000 pa))≠true:=by rw[Va _ hp];decide
 rw[WF _ _ _ _ _ _ _ _ hne,Hw]
 unfold SG
 rw[if_pos (by decide)]
 rcases h.or with⟨h1,_⟩|⟨h1,h2,h3,h4,h5,h6⟩|⟨h1,h2,h3,h4,h5⟩
 ·omega
 ·have hf:full (A8 ba pa (pc tb 1000 pa))=true→(GY (A8 ba pa (pc tb 1000 pa))).flatten=tb:=fun e=>Good.flat (sz:=1000) (by decide) (by rw[h4];exact h6.put hp) e
  have hk:=h.ek.resolve_left h5
  have hc:=QL hk
  refine⟨.inr ⟨rfl,hp,hl.2,by omega,by rw[if_pos rfl];exact hl.1,.inl ⟨rfl,by omega⟩,fun _ _=>h6.2 pa hp,fun _ _=>⟨by omega,hk.1⟩,fun e=>absurd rfl e,fun _ e=>by rw[hf e];exact h4⟩,?_⟩
  rw[if_neg Ac,if_neg Ac]
  by_cases hfl:full (A8 ba pa (pc tb 1000 pa))=true
  ·rw[if_pos hfl]
   refine⟨_,_,_,_,_,_,rfl,⟨.inl rfl,.inr (.inr ⟨h1,by omega,h3,h4,rfl⟩)⟩,Nat.zero_le _,by simp,by simp,pc tb 1000 pa,by omega,fun _ _ _=>⟨rfl,rfl⟩,fun _ _ e=>by rw[hfl]at e;cases e⟩
  ·rw[if_neg hfl]
   exact⟨_,_,_,_,_,_,rfl,⟨h.ek,.inr (.inl ⟨h1,h2,h3,h4,h5,h6.put hp⟩)⟩,Nat.le_refl _,rfl,by simp,pc tb 1000 pa,by omega,fun _ _ e=>absurd e hfl,fun _ _ _=>⟨rfl,rfl,rfl⟩⟩
 ·refine⟨.inr ⟨rfl,hp,hl.2,by omega,by rw[if_pos rfl];exact hl.1,.inl ⟨rfl,by omega⟩,fun e=>by rw[if_pos rfl]at e;omega,fun _ e=>by omega,fun e=>absurd rfl e,fun _ e=>by rw[h5]at e;exact absurd e hB0⟩,?_⟩
  rw[if_pos Ac]
  exact⟨_,_,_,_,_,_,rfl,h,Nat.le_refl _,rfl,by simp,pc tb 1000 pa,by omega,by omega,by omega⟩
end
end Go.Sx.Tryz
namespace Go.Sx.Tryz
open Go.Mi Go.RowKit Go.Sx Go.Proofs
noncomputable section
theorem AaW (n m l:Nat) (pc:List Int):Rm n m l pc=Aj n++(Aj m++(Aj l++(Aj pc.length++pc))):=by
 unfold Rm
 simp only[List.nil_append,List.append_assoc]
theorem nO {n m l:Nat} {pc:List Int} (hn:n≤2147483648) (hm:m≤2147483648) (hl:l≤2147483648) (hp:pc.length≤4000) (ba bb:List Int):J2 (Rm n m l pc) ba bb=true∧E4 (Rm n m l pc) ba bb=(n,m,l,pc):=by
 rw[AaW]
 have m1:=EV (n:=n) Ac (Aj m++(Aj l++(Aj pc.length++pc)))
 have m2:=EV (n:=m) Ac (Aj l++(Aj pc.length++pc))
 have m3:=EV (n:=l) Ac (Aj pc.length++pc)
 have m4:=EV (n:=pc.length) Ac pc
 have v1:=ED m1
 have v2:=ED m2
 have v3:=ED m3
 have v4:=ED m4
 generalize Aj n++(Aj m++(Aj l++(Aj pc.length++pc)))=X at *
 have hp:Im X ba bb=true:=by
  rw[KA];unfold P2
  rw[v1];simp only[]
  rw[v2];simp only[]
  rw[v3];simp only[]
  rw[if_pos (RR m1 hn),if_pos (RR m2 hm),if_pos (RR m3 hl),if_pos (Sr m4 hp (Nat.le_refl _))]
 have hm:C5 X ba bb=([],n,m,l,pc):=by
  rw[Wc];unfold Z4
  rw[v1];simp only[]
  rw[v2];simp only[]
  rw[v3];simp only[]
  rw[v4];simp
 constructor
 ·rw[PT];unfold PR
  rw[if_pos hp,hm,if_pos LC]
 ·rw[ZT];unfold ZS
  rw[hm]
theorem Aer (ok mix:List Int) (n m l:Nat) (pc text:List Int):g7 ok mix n m l pc text=Aj (Rm n m l pc).length++(Rm n m l pc++(Aj (WL ok mix n m l pc text).length++WL ok mix n m l pc text)):=by
 unfold g7
 simp only[List.nil_append,List.append_assoc]
theorem Ach (ok mix:List Int) {n m l:Nat} {pc text:List Int} (hn:n≤2147483648) (hm:m≤2147483648) (hl:l≤2147483648) (hp:pc.length≤1040) (ht:text.length≤500):CB (g7 ok mix n m l pc text)=true∧Aa (g7 ok mix n m l pc text)=(Rm n m l pc,n,m,l,pc,WL ok mix n m l pc text):=by
 have hH:(Rm n m l pc).length≤1200:=by
  have w1:=AH (n:=n) Ac
  have w2:=AH (n:=m) Ac
  have w3:=AH (n:=l) Ac
  have w4:=AH (n:=pc.length) Ac
  rw[AaW]
  simp only[List.length_append];omega
 have hb:(WL ok mix n m l pc text).length=text.length+32:=IJ ..
 have hh:=nO hn hm hl (show pc.length≤4000 by omega) (Rm n m l pc) (WL ok mix n m l pc text)
 have e1:((([]++Aj (Rm n m l pc).length)++Rm n m l pc)++Aj (WL ok mix n m l pc text).length)++WL ok mix n m l pc text=g7 ok mix n m l pc text:=rfl
 rw[Aer]at e1⊢
 generalize Rm n m l pc=H at *
 generalize WL ok mix n m l pc text=X at *
 have m1:=EV (n:=H.length) Ac (H++(Aj X.length++X))
 have m2:=EV (n:=X.length) Ac X
 have v1:=ED m1
 have v2:=ED m2
 have t1:List.take H.length (H++(Aj X.length++X))=H:=List.take_left
 have t2:List.drop H.length (H++(Aj X.length++X))=Aj X.length++X:=List.drop_left
 have r1:Be (Aj H.length++(H++(Aj X.length++X))) 4000=true:=Sr m1 Ac (by rw[List.length_append];omega)
 have r2:Be (Aj X.length++X) 4000=true:=Sr m2 Ac Ac
 generalize Aj H.length++(H++(Aj X.length++X))=F at *
 have hp:LS F=true:=by
  rw[T5];unfold T4
  simp only[v1,Int.toNat_natCast,t2,r1,r2,if_true]
 have hr:LL F=true:=by
  rw[TR];unfold TQ
  simp only[hp,v1,Int.toNat_natCast,t2,v2,List.drop_length,LC,if_true]
 constructor
 ·rw[Ga];unfold Hj
  simp only[hr,v1,Int.toNat_natCast,t1,t2,v2,List.take_length,hh.1,e1,if_true]
 ·rw[LV];unfold LU
  simp only[v1,Int.toNat_natCast,t1,t2,v2,List.take_length,hh.2]
def KG (mx sec:List (List Int)):List (List Int):=sec.foldl (fun o b=>o++[AI (o.getD (o.length-1) (rz [.sl (.int .u8)])) b [109,105,120]]) mx
def Di (fi:Bool) (low:Nat) (mx:List (List Int)) (last told:Nat) (sec:List (List Int)):Nat×List (List Int):=(min last (AV fi low (KG mx sec).length told),(KG mx sec).drop (min last (AV fi low (KG mx sec).length told)-low))
theorem vZ (id:List Int) (fi:Bool) (ok:List Int) (oi:Nat) (ik:List Int) (ii low:Nat) (mx:List (List Int)) (last told:Nat) (kl:List KR) (st ep at_:Nat) (sd tx:List Int) (rid rln:Nat) (bx:List (Option (List Int))) (sec:List (List Int)):Qi id fi ok oi ik ii low mx last told kl st ep at_ sd tx rid rln bx sec=Di fi low mx last told sec:=by
 have key:∀n,n≤sec.length→B9 id fi ok oi ik ii low mx last told kl st ep at_ sd tx rid rln bx sec n=KG mx (sec.take n):=by
  intro n
  induction n with
  |zero=>intro _;rfl
  |succ n ih=>
   intro hn
   show JC sec n (B9 id fi ok oi ik ii low mx last told kl st ep at_ sd tx rid rln bx sec n)=_
   rw[ih Ac,List.take_succ_eq_append_getElem Ac]
   have hg:List.getD (α:=List Int) sec n []=sec[n]:=by rw[List.getD_eq_getElem?_getD,List.getElem?_eq_getElem (show n<sec.length by omega)];rfl
   unfold KG JC
   rw[List.foldl_append,←hg]
   rfl
 rw[mU];unfold Yi Di
 rw[key _ (Nat.le_refl _),List.take_length]
def EndH.got (r:EndH) (fi:Bool) (m l:Nat) (X:Nat×Nat×Nat×List Int×List Int×Nat×Nat×List (Option (List Int))×List (List Int)):EndH:=
 {r with ik:=P9 r.ik,ii:=r.ii+1,low:=(Di fi r.low r.mx m (max r.told l) X.2.2.2.2.2.2.2.2).1,mx:=(Di fi r.low r.mx m (max r.told l) X.2.2.2.2.2.2.2.2).2,last:=m,told:=max r.told l,kl:=[],st:=X.1,ep:=X.2.1,at_:=X.2.2.1,sd:=X.2.2.2.1,tx:=X.2.2.2.2.1,rid:=X.2.2.2.2.2.1,rln:=X.2.2.2.2.2.2.1,bx:=X.2.2.2.2.2.2.2.1}
theorem ZV (id : List Int) (fi : Bool) {r : EndH} {n m l pid pa : Nat} {pc text mix d : List Int} (rand : List Int) (hii : r.ii = n) (hkl : r.kl = []) (hlast : r.last ≤ m) (hm : m + 1 ≤ r.low + r.mx.length) (hmix : r.mx.getD (m - r.low) (rz [.sl (.int .u8)]) = mix) (hn : n ≤ 2147483648 ∧ m ≤ 2147483648 ∧ l ≤ 2147483648) (hp : pc.length ≤ 1040) (ht : text.length ≤ 500) (hy : By text)
  (hpk:XA r.st r.ep r.sd r.tx r.bx pc pid pa d):Xy id fi r (g7 r.ik mix n m l pc text) rand (r.got fi m l (FF r.st r.ep r.at_ r.sd r.tx r.rid r.rln r.bx pc pid pa d (rand.drop 64))) text n:=by
 obtain⟨h1,h2⟩:=Ach r.ik mix hn.1 hn.2.1 hn.2.2 hp ht
 refine⟨⟨rfl,rfl⟩,pid,pa,d,by rw[h2];exact hpk,?_⟩
 have ho:=NJ (id:=id) (fi:=fi) (ok:=r.ok) (oi:=r.oi) (ik:=r.ik) (ii:=r.ii) (low:=r.low) (mx:=r.mx) (last:=r.last) (told:=r.told) (kl:=r.kl) (st:=r.st) (ep:=r.ep) (at_:=r.at_) (sd:=r.sd) (tx:=r.tx) (rid:=r.rid) (rln:=r.rln) (bx:=r.bx) (hb:=Rm n m l pc) (hi:=n) (hn:=m) (hh:=l) (hp:=pc) (hx:=WL r.ik mix n m l pc text)
 have hc:=qC (id:=id) (fi:=fi) (ok:=r.ok) (oi:=r.oi) (ik:=r.ik) (ii:=r.ii) (low:=r.low) (mx:=r.mx) (last:=r.last) (told:=r.told) (kl:=r.kl) (st:=r.st) (ep:=r.ep) (at_:=r.at_) (sd:=r.sd) (tx:=r.tx) (rid:=r.rid) (rln:=r.rln) (bx:=r.bx) (hb:=Rm n m l pc) (hi:=n) (hn:=m) (hh:=l) (hp:=pc) (hx:=WL r.ik mix n m l pc text)
 have ok1:Cc id fi r.ok r.oi r.ik r.ii r.low r.mx r.last r.told r.kl (Rm n m l pc) n m l pc (WL r.ik mix n m l pc text)=true:=by
  rw[C1];unfold Gn
  rw[if_neg Ac,if_pos (show bK r.ii n=true from decide_eq_true ⟨by omega,by omega⟩),if_neg Ac,if_neg Ac]
 have ok2:Cz id fi r.ok r.oi r.ik r.ii r.low r.mx r.last r.told r.kl (Rm n m l pc) n m l pc (WL r.ik mix n m l pc text)=AI (J6 r.ik) mix [109,101,115,115,97,103,101]:=by
  rw[Gb];unfold Hl
  rw[if_neg Ac,hmix,hii,Nat.sub_self];rfl
 have cm:Ih id fi r.ok r.oi r.ik r.ii r.low r.mx r.last r.told r.kl (Rm n m l pc) n m l pc (WL r.ik mix n m l pc text)=(m,[],P9 r.ik,r.ii+1):=by
  rw[Q2];unfold Q1
  rw[if_neg Ac,FT,hii,Nat.sub_self,hkl]
  rfl
 have hop:C9 (AI (J6 r.ik) mix [109,101,115,115,97,103,101]) (List.replicate 12 (0:Int)) (Rm n m l pc) (WL r.ik mix n m l pc text)=(text,0):=Sy _ _ _ hy
 constructor
 ·rw[NH];unfold IN
  rw[if_pos]
  rw[IC];unfold Pe
  rw[if_pos h1,h2]
  simp only[]
  rw[ho.1,ok1,ho.2.1,ok2,hop]
  rfl
 ·rw[PF];unfold Ky
  rw[Tk];unfold Tj
  rw[h2]
  simp only[]
  rw[ho.2.1,ok2,hop,hc,cm]
  simp only[vZ]
  rfl
end
end Go.Sx.Tryz
namespace Go.Sx.Tryz
open Go.Mi Go.RowKit Go.Sx Go.Proofs
noncomputable section
def mg (l:List (List Int)) (i:Nat):List Int:=List.getD (α:=List Int) l i []
theorem Ab0 {l:List (List Int)} {x:List Int} {i:Nat}:mg (l++[x]) i=if i<l.length then mg l i else if i=l.length then x else[]:=by
 unfold mg
 rw[List.getD_eq_getElem?_getD]
 by_cases h:i<l.length
 ·rw[if_pos h,List.getElem?_append_left h,List.getD_eq_getElem?_getD]
 ·rw[if_neg h,List.getElem?_append_right Ac]
  by_cases h2:i=l.length
  ·rw[if_pos h2,h2,Nat.sub_self];rfl
  ·rw[if_neg h2,List.getElem?_eq_none (by simp;omega)];rfl
theorem aE (l:List (List Int)) (c i:Nat):mg (l.drop c) i=mg l (c+i):=by
 unfold mg
 rw[List.getD_eq_getElem?_getD,List.getElem?_drop,List.getD_eq_getElem?_getD]
structure MI (M:Nat→List Int) (low:Nat) (mx:List (List Int)):Prop where
 pos:1≤mx.length
 at_:∀i,i<mx.length→mg mx i=M (low+i)
theorem MI.out {M:Nat→List Int} {low:Nat} {mx:List (List Int)} (h:MI M low mx) {j:Nat} (h1:low≤j) (h2:j<low+mx.length):mx.getD (j-low) (rz [.sl (.int .u8)])=M j:=by
 have :=h.at_ (j-low) Ac
 rw[show low+(j-low)=j by omega]at this
 exact this
theorem MI.m2 {M:Nat→List Int} {low:Nat} {mx:List (List Int)} (h:MI M low mx) (h32:∀j,(M j).length≤32) (j:Nat):(mx.getD j (rz [.sl (.int .u8)])).length≤32:=by
 show(mg mx j).length≤32
 by_cases hj:j<mx.length
 ·rw[h.at_ j hj];exact h32 _
 ·unfold mg;rw[List.getD_eq_getElem?_getD,List.getElem?_eq_none Ac];exact Nat.zero_le _
theorem MI.put {M : Nat → List Int} {low : Nat} {mx : List (List Int)} (h : MI M low mx) (h32 : ∀ j, (M j).length ≤ 32) (fi : Bool) (last told : Nat) (ks : List (List Int)) (hk : ks.length ≤ 1) (h1 : low ≤ last) (h2 : last < low + mx.length) (h3 : low ≤ AV fi low (KG mx ks).length told) :
  (KG mx ks).length=mx.length+ks.length∧∃M',(∀j,j<low+mx.length→M' j=M j)∧(∀j,(M' j).length≤32)∧MI M' (Di fi low mx last told ks).1 (Di fi low mx last told ks).2
   ∧(Di fi low mx last told ks).1=min last (AV fi low (KG mx ks).length told)∧(Di fi low mx last told ks).1+(Di fi low mx last told ks).2.length=low+mx.length+ks.length:=by
 have hp:=h.pos
 match ks,hk,h3 with
 |[],_,h3=>
  refine⟨rfl,M,fun _ _=>rfl,h32,?_⟩
  unfold Di
  show MI M (min last (AV fi low mx.length told)) (mx.drop (min last (AV fi low mx.length told)-low))∧_∧_
  have h3:low≤AV fi low mx.length told:=h3
  refine⟨⟨by rw[List.length_drop];omega,fun i hi=> ?_⟩,rfl,?_⟩
  ·rw[List.length_drop]at hi
   rw[aE,h.at_ _ Ac];congr 1;omega
  ·show min last (AV fi low mx.length told)+(mx.drop (min last (AV fi low mx.length told)-low)).length=low+mx.length+0
   rw[List.length_drop];omega
 |[k],_,h3=>
  have hl:(KG mx [k]).length=mx.length+1:=by show(mx++[_]).length=_;rw[List.length_append];rfl
  refine⟨hl,fun j=>if j=low+mx.length then AI (mg mx (mx.length-1)) k [109,105,120]else M j,fun j hj=>if_neg Ac,fun j=> ?_,?_⟩
  ·show(if _ then _ else _:List Int).length≤32
   split
   ·exact Nat.le_of_eq (EZ ..)
   ·exact h32 j
  unfold Di
  generalize hlo:min last (AV fi low (KG mx [k]).length told)=lo
  refine⟨⟨by rw[List.length_drop];omega,fun i hi=> ?_⟩,rfl,?_⟩
  ·rw[List.length_drop]at hi
   show _=if lo+i=low+mx.length then _ else _
   rw[aE]
   show mg (mx++[AI (mg mx (mx.length-1)) k [109,105,120]]) (lo-low+i)=_
   rw[Ab0]
   by_cases hc:lo-low+i<mx.length
   ·rw[if_pos hc,if_neg Ac,h.at_ _ hc];congr 1;omega
   ·rw[if_neg hc,if_pos Ac,if_pos Ac]
  ·show lo+((KG mx [k]).drop (lo-low)).length=low+mx.length+1
   rw[List.length_drop];omega
theorem MI.mono {M M':Nat→List Int} {low:Nat} {mx:List (List Int)} (h:MI M low mx) (hM:∀j,j<low+mx.length→M' j=M j):MI M' low mx:=⟨h.pos,fun i hi=>by rw[hM _ Ac];exact h.at_ i hi⟩
structure IN0 (T:Nat) (p:PS) (M:Nat→List Int):Prop where
 id:p.ida=p.idb
 ka:p.a.ok.length=32
 kb:p.b.ok.length=32
 kab:p.b.ik=p.a.ok
 kba:p.a.ik=p.b.ok
 na:p.a.oi=p.na∧p.b.ii=p.na∧p.ia=p.na
 nb:p.b.oi=p.nb∧p.a.ii=p.nb∧p.ib=p.nb
 j:p.ja=[]∧p.jb=[]
 kl:p.a.kl=[]∧p.b.kl=[]
 t:p.na+p.nb≤T∧p.fl.length≤T
 fr:p.fl.length=p.na+p.nb
 ea:p.a.low+p.a.mx.length=p.a.ep+1
 eb:p.b.low+p.b.mx.length=G2 p.b.st p.b.ep+1
 m32:∀j,(M j).length≤32
 mb:MI M p.b.low p.b.mx
 la:p.a.low≤p.a.last∧p.a.last≤p.b.told
 lb:p.b.low≤p.b.last∧p.b.last≤p.a.ep∧p.b.low≤p.b.told∧p.b.told≤p.a.ep
 ta:p.a.told≤T
 st:p.a.st=1
 ki:KI p.a.ep p.a.sd p.a.tx p.a.bx p.b.st p.b.ep p.b.tx p.b.bx
 rida:p.a.rid=2*p.a.ep+1∧p.a.rln=1088
 ridb:p.b.rid=2*p.b.ep∧p.b.rln=1184
 at_:p.a.at_≤T∧p.b.at_≤T
 ep:p.a.ep≤T
structure INV (T:Nat) (p:PS) (M:Nat→List Int):Prop extends IN0 T p M where
 ma:MI M p.a.low p.a.mx
theorem KI.ne {ea:Nat} {sa ta:List Int} {ba:List (Option (List Int))} {sb eb:Nat} {tb:List Int} {bb:List (Option (List Int))} (h:KI ea sa ta ba sb eb tb bb):(sb=2∨sb=3)∧ea≤G2 sb eb∧G2 sb eb≤ea+1∧eb≤ea∧ba.length=2∧bb.length=2∧(sb=3→tb.length=1088)∧(sb=2→tb=[])∧(ta.length=0∨ta.length=1184):=by
 have ht:ta.length=0∨ta.length=1184:=h.ek.elim (fun e=> .inl (by rw[e];rfl)) (fun e=> .inr (QL e).2)
 unfold G2
 rcases h.or with⟨h1,h2,h3,h4,h5,h6⟩|⟨h1,h2,h3,h4,h5,h6⟩|⟨h1,h2,h3,h4,h5⟩
 ·rw[if_neg Ac];exact⟨.inl h1,by omega,by omega,by omega,by rw[h3];rfl,h5.1,by omega,fun _=>h4,ht⟩
 ·rw[if_pos h1];exact⟨.inr h1,by omega,by omega,by omega,h6.1,by rw[h3];rfl,fun _=>h4,by omega,ht⟩
 ·rw[if_pos h1];exact⟨.inr h1,by omega,by omega,by omega,by rw[h5];rfl,by rw[h3];rfl,fun _=>h4,by omega,ht⟩
theorem MS:N2 []:=⟨by decide,fun j h=>absurd h (Nat.not_lt_zero j)⟩
theorem INV.ok {T:Nat} {p:PS} {M:Nat→List Int} (h:INV T p M) (hT:T≤10000):EOk true p.a∧EOk false p.b:=by
 obtain⟨k1,k2,k3,k4,k5,k6,k7,k8,k9⟩:=h.ki.ne
 have e1:=h.na;have e2:=h.nb;have e3:=h.t;have e4:=h.ea;have e5:=h.eb;have e6:=h.la;have e7:=h.lb;have e8:=h.ta;have e9:=h.at_;have e10:=h.ep;have e11:=h.st;have e12:=h.rida;have e13:=h.ridb;have p1:=h.ma.pos;have p2:=h.mb.pos
 refine⟨⟨⟨h.ka,by rw[h.kba];exact h.kb,by omega,by omega,⟨p1,by omega⟩,h.ma.m2 h.m32,by omega,?_,.inl e11,by omega,by omega,⟨fun _=>k9,by omega⟩,by omega⟩,by rw[h.kl.1];exact MS,⟨by omega,by omega⟩,by omega,by rw[if_pos e11];exact e12.2,by rw[if_pos e11];exact e12.1,k5⟩,
  ⟨⟨h.kb,by rw[h.kab];exact h.ka,by omega,by omega,⟨p2,by omega⟩,h.mb.m2 h.m32,by omega,?_,by omega,by omega,by omega,⟨by omega,k7⟩,?_⟩,by rw[h.kl.2];exact MS,⟨by omega,by omega⟩,by omega,by rw[if_neg Ac];exact e13.2,by rw[if_neg Ac];exact e13.1,k6⟩⟩
 ·unfold AV;rw[if_pos rfl];omega
 ·unfold AV;rw[if_neg (by decide)];omega
 ·rcases k1 with k|k
  ·rw[k8 k];exact Nat.zero_le _
  ·rw[k7 k];decide
structure Abf (id:List Int) (fi:Bool) (w:Nat) (e:EndH) (fl:List (Int×Int×List Int×List Int)) (i:Nat) (j:List Nat) (k:Nat) (rand:List Int) (n:Nat) (text fr:List Int) (e2:EndH):Prop where
 E:EOk fi e
 G:Xy id fi e fr rand e2 text n
 f:fr.length≤50000
 row:fl.getD k (rz [.int .i64,.int .i64,.sl (.int .u8),.sl (.int .u8)])=((w:Int),(n:Int),text,fr)
 k:k<fl.length∧k<1000000
 R:RI i j
 hn:n≤1000000∧i≤1000000
 s:J3 i j n=true
 I:e2.ii=nI i n
 J:Ve e2.kl=ints (nJ i j n)
 K2:N2 e2.kl
theorem VP (l:List (Int×Int×List Int×List Int)) (x:Int×Int×List Int×List Int):(l++[x]).getD l.length (rz [.int .i64,.int .i64,.sl (.int .u8),.sl (.int .u8)])=x:=by
 show List.getD (α:=Int×Int×List Int×List Int) (l++[x]) l.length (0,0,[],[])=x
 rw[List.getD_eq_getElem?_getD,List.getElem?_append_right (Nat.le_refl _),Nat.sub_self];rfl
section
variable (n:Nat)
theorem Ug:nI n n=n+1:=if_neg (Nat.lt_irrefl n)
theorem Uf:nJ n [] n=[]:=by
 unfold nJ
 rw[if_neg (Nat.lt_irrefl n),Nat.sub_self];rfl
theorem ZX:J3 n [] n=true:=by
 unfold J3
 rw[if_neg (Nat.lt_irrefl n)];exact decide_eq_true Ac
theorem tC:RI n []:=⟨by decide,List.nodup_nil,fun _ h=>by cases h⟩
end
end
end Go.Sx.Tryz
namespace Go.Sx.Tryz
open Go.Mi Go.RowKit Go.Sx Go.Proofs
noncomputable section
theorem INV.stepA {T : Nat} {p : PS} {M : Nat → List Int} (h : INV T p M) (hT : T ≤ 9000) {text rand r2 : List Int} (ht : text.length ≤ 500) (hy : By text) (hr : rand.length = 128) (hr2 : r2.length = 128) :
  SndOk true p.a∧∃e2 M2,Abf p.idb false 0 (p.sndA text rand).b (p.sndA text rand).fl (p.sndA text rand).ia (p.sndA text rand).ja p.fl.length r2 p.na text (p.a.frame true text rand) e2
   ∧INV (T+1) ((p.sndA text rand).dlvA e2 p.na) M2∧(p.a.sent rand).at_=p.a.at_+1∧StB p.a.ep p.b.st p.b.ep p.b.at_ p.b.bx (p.a.at_%2) e2.st e2.ep e2.at_ e2.bx:=by
 obtain⟨oa,ob⟩:=h.ok Ac
 obtain⟨k1,k2,k3,k4,k5,k6,k7,k8,k9⟩:=h.ki.ne
 have e1:=h.na;have e2:=h.nb;have e3:=h.t;have e4:=h.ea;have e5:=h.eb;have e6:=h.la;have e7:=h.lb;have e8:=h.ta;have e9:=h.at_;have e10:=h.ep;have e11:=h.st;have e12:=h.rida;have e13:=h.ridb;have p1:=h.ma.pos;have p2:=h.mb.pos;have hfr:=h.fr
 obtain⟨s,t,ho,hk,hs,hst⟩:=AfA (at_:=p.a.at_) h.ki p.a.rid p.a.rln (r:=rand.take 64) (by rw[List.length_take];omega)
 have hpc:p.a.pc rand=(p.a.at_+1,s,t,Ds (2*p.a.ep) (p.a.at_%2) 2 (pc t 1000 (p.a.at_%2))):=by
  unfold EndH.pc;rw[e11];exact ho
 obtain⟨hpk,s2,ep2,a2,d2,t2,b2,ks,hX,hk2,ha2,hn2,hks,hSt⟩:=inB hk ⟨hs,hst⟩ Ac (show p.a.at_%2<2 from Nat.mod_lt _ (by decide)) p.b.at_ p.b.sd (r2.drop 64)
 have hnum:p.a.num true=p.a.ep:=by unfold EndH.num AV;rw[if_pos rfl];omega
 have hmix:p.b.mx.getD (p.a.ep-p.b.low) (rz [.sl (.int .u8)])=p.a.mx.getD (p.a.ep-p.a.low) (rz [.sl (.int .u8)]):=by rw[h.mb.out Ac Ac,h.ma.out Ac Ac]
 have hF:p.a.frame true text rand=g7 p.b.ik (p.a.mx.getD (p.a.ep-p.a.low) (rz [.sl (.int .u8)])) p.na p.a.ep p.a.ep (Ds (2*p.a.ep) (p.a.at_%2) 2 (pc t 1000 (p.a.at_%2))) text:=by
  unfold EndH.frame
  rw[hnum,hpc,h.kab,e1.1,show p.a.low+p.a.mx.length-1=p.a.ep by omega]
 have hpl:(Ds (2*p.a.ep) (p.a.at_%2) 2 (pc t 1000 (p.a.at_%2))).length≤1040:=by
  have :=EndH.pc_le oa.toSndOk hr
  rw[hpc]at this;exact this
 have hG:=ZV p.idb false (r:=p.b) (n:=p.na) (l:=p.a.ep) r2 e1.2.1 h.kl.2 Ac Ac hmix ⟨by omega,by omega,by omega⟩ hpl ht hy hpk
 rw[e13.1,e13.2,hX]at hG
 have hmn:p.b.low≤AV false p.b.low (KG p.b.mx ks).length (max p.b.told p.a.ep):=by
  have hl:p.b.mx.length≤(KG p.b.mx ks).length:=by
   match ks,hks with
   |[],_=>exact Nat.le_refl _
   |[k],_=>show _≤(p.b.mx++[_]).length;rw[List.length_append];omega
  unfold AV;rw[if_neg (by decide)];omega
 obtain⟨hml,M2,hM,h32,hMI,hlo,hle⟩:=h.mb.put h.m32 false p.a.ep (max p.b.told p.a.ep) ks hks Ac Ac hmn
 have hlo2:(Di false p.b.low p.b.mx p.a.ep (max p.b.told p.a.ep) ks).1=p.a.ep:=by
  rw[hlo];unfold AV;rw[if_neg (by decide)];omega
 have hfl:=oa.toSndOk.len ht hr
 refine⟨oa.toSndOk,p.b.got false p.a.ep p.a.ep (s2,ep2,a2,d2,t2,2*ep2,1184,b2,ks),M2,⟨ob,by rw[hF];exact hG,by omega,VP _ _|>.trans (by rw[e1.1];rfl),⟨?_,by omega⟩,?_,⟨by omega,?_⟩,?_,?_,?_,MS⟩,?_,by show(p.a.pc rand).1=_;rw[hpc],hSt⟩
 ·show p.fl.length<(p.fl++[_]).length
  rw[List.length_append];exact Nat.lt_succ_self _
 ·show RI p.ia p.ja
  rw[h.j.1];exact tC _
 ·show p.ia≤1000000;omega
 ·show J3 p.ia p.ja p.na=true
  rw[h.j.1,e1.2.2];exact ZX _
 ·show p.b.ii+1=nI p.ia p.na
  rw[e1.2.2,e1.2.1,Ug]
 ·show Ve []=ints (nJ p.ia p.ja p.na)
  rw[h.j.1,e1.2.2,Uf];rfl
 ·have hkn:=hk2.ne
  refine⟨⟨h.id,L3 _,h.kb,?_,h.kba,⟨?_,?_,?_⟩,h.nb,⟨?_,h.j.2⟩,⟨h.kl.1,rfl⟩,⟨?_,?_⟩,?_,h.ea,?_,h32,hMI,⟨?_,?_⟩,⟨?_,?_,?_,?_⟩,?_,h.st,?_,⟨e12.1,e12.2⟩,⟨rfl,rfl⟩,⟨?_,?_⟩,?_⟩,?_⟩
  ·show P9 p.b.ik=P9 p.a.ok;rw[h.kab]
  ·show p.a.oi+1=p.na+1;omega
  ·show p.b.ii+1=p.na+1;omega
  ·show nI p.ia p.na=p.na+1;rw[e1.2.2,Ug]
  ·show nJ p.ia p.ja p.na=[];rw[h.j.1,e1.2.2,Uf]
  ·show p.na+1+p.nb≤T+1;omega
  ·show(p.fl++[_]).length≤T+1;rw[List.length_append];simp;omega
  ·show(p.fl++[_]).length=p.na+1+p.nb;rw[List.length_append];simp;omega
  ·show(Di false p.b.low p.b.mx p.a.ep (max p.b.told p.a.ep) ks).1+(Di false p.b.low p.b.mx p.a.ep (max p.b.told p.a.ep) ks).2.length=G2 s2 ep2+1
   omega
  ·exact e6.1
  ·show p.a.last≤max p.b.told p.a.ep;omega
  ·show(Di false p.b.low p.b.mx p.a.ep (max p.b.told p.a.ep) ks).1≤p.a.ep;omega
  ·show p.a.ep≤p.a.ep;omega
  ·show(Di false p.b.low p.b.mx p.a.ep (max p.b.told p.a.ep) ks).1≤max p.b.told p.a.ep;omega
  ·show max p.b.told p.a.ep≤p.a.ep;omega
  ·show p.a.told≤T+1;omega
  ·show KI p.a.ep (p.a.pc rand).2.1 (p.a.pc rand).2.2.1 p.a.bx s2 ep2 t2 b2
   rw[hpc];exact hk2
  ·show(p.a.pc rand).1≤T+1
   rw[hpc];show p.a.at_+1≤T+1;omega
  ·show a2≤T+1;omega
  ·show p.a.ep≤T+1;omega
  ·exact h.ma.mono fun j hj=>hM j Ac
end
end Go.Sx.Tryz
namespace Go.Sx.Tryz
open Go.Mi Go.RowKit Go.Sx Go.Proofs
noncomputable section
theorem AdD {ida idb : List Int} {a b : EndH} (h : sZ ida idb a b = true) (h1 : a.low ≤ min (a.low + a.mx.length - 1) (b.low + b.mx.length - 1)) (h2 : b.low ≤ min (a.low + a.mx.length - 1) (b.low + b.mx.length - 1)) :
  a.mx.getD (min (a.low+a.mx.length-1) (b.low+b.mx.length-1)-a.low) (rz [.sl (.int .u8)])=b.mx.getD (min (a.low+a.mx.length-1) (b.low+b.mx.length-1)-b.low) (rz [.sl (.int .u8)]):=by
 unfold sZ at h
 rw[Rc]at h;unfold Zd at h
 by_cases hi:ida=idb
 ·rw[if_pos hi,if_neg Ac,if_neg Ac]at h
  exact of_decide_eq_true h
 ·rw[if_neg hi]at h;cases h
theorem INV.stepB {T : Nat} {p : PS} {M : Nat → List Int} (h : INV T p M) (hT : T ≤ 9000) {text rand r2 : List Int} (ht : text.length ≤ 500) (hy : By text) (hr : rand.length = 128) (hr2 : r2.length = 128) :
  SndOk false p.b∧∃e2,Abf p.ida true 1 (p.sndB text rand).a (p.sndB text rand).fl (p.sndB text rand).ib (p.sndB text rand).jb p.fl.length r2 p.nb text (p.b.frame false text rand) e2
   ∧EOk true e2∧SndOk false (p.b.sent rand)∧(sZ p.ida p.idb e2 (p.b.sent rand)=true→INV (T+1) ((p.sndB text rand).dlvB e2 p.nb) M)∧(p.b.sent rand).at_=(if p.b.st=2 then p.b.at_ else p.b.at_+1)∧StA p.a.ep p.a.at_ p.a.bx p.b.st p.b.ep (p.b.at_%2) e2.ep e2.at_ e2.bx:=by
 obtain⟨oa,ob⟩:=h.ok Ac
 obtain⟨k1,k2,k3,k4,k5,k6,k7,k8,k9⟩:=h.ki.ne
 have e1:=h.na;have e2:=h.nb;have e3:=h.t;have e4:=h.ea;have e5:=h.eb;have e6:=h.la;have e7:=h.lb;have e8:=h.ta;have e9:=h.at_;have e10:=h.ep;have e11:=h.st;have e12:=h.rida;have e13:=h.ridb;have p1:=h.ma.pos;have p2:=h.mb.pos;have hfr:=h.fr
 have ho:=Afz (at_:=p.b.at_) h.ki p.b.sd p.b.rid p.b.rln (rand.take 64)
 have hpc:p.b.pc rand=if p.b.st=2 then(p.b.at_,p.b.sd,p.b.tx,[])else(p.b.at_+1,p.b.sd,p.b.tx,Ds (2*p.b.ep+1) (p.b.at_%2) 2 (pc p.b.tx 1000 (p.b.at_%2))):=ho
 have hpc1:(p.b.pc rand).1≤p.b.at_+1∧(p.b.pc rand).2.1=p.b.sd∧(p.b.pc rand).2.2.1=p.b.tx:=by
  rw[hpc];split
  ·exact⟨Nat.le_succ _,rfl,rfl⟩
  ·exact⟨Nat.le_refl _,rfl,rfl⟩
 obtain ⟨pid, pa, d, hpk, ep2, a2, d2, t2, b2, ks, hX, hk2, ha2, hn2, hks, hSt⟩ : ∃ pid pa d, XA 1 p.a.ep p.a.sd p.a.tx p.a.bx ((p.b.pc rand).2.2.2) pid pa d ∧ ∃ ep2 a2 d2 t2 b2 ks, FF 1 p.a.ep p.a.at_ p.a.sd p.a.tx (2 * p.a.ep + 1) 1088 p.a.bx ((p.b.pc rand).2.2.2) pid pa d (r2.drop 64) = (1, ep2, a2, d2, t2, 2 * ep2 + 1, 1088, b2, ks)
   ∧KI ep2 d2 t2 b2 p.b.st p.b.ep p.b.tx p.b.bx∧a2≤p.a.at_∧ep2=p.a.ep+ks.length∧ks.length≤1∧StA p.a.ep p.a.at_ p.a.bx p.b.st p.b.ep (p.b.at_%2) ep2 a2 b2:=by
  rw[hpc]
  rcases k1 with k|k
  ·rw[if_pos k]
   exact⟨0,0,[],.inl rfl,p.a.ep,p.a.at_,p.a.sd,p.a.tx,p.a.bx,[],aR ..,h.ki,Nat.le_refl _,rfl,Nat.zero_le _,[],fun _=>⟨rfl,rfl,rfl⟩,by omega,by omega⟩
  ·rw[if_neg Ac]
   exact⟨_,_,_,inA h.ki Ac k (Nat.mod_lt _ (by decide)) p.a.at_ (r2.drop 64)⟩
 have hnum:p.b.num false=p.b.told:=by unfold EndH.num AV;rw[if_neg (by decide)];omega
 have hmix:p.a.mx.getD (p.b.told-p.a.low) (rz [.sl (.int .u8)])=p.b.mx.getD (p.b.told-p.b.low) (rz [.sl (.int .u8)]):=by rw[h.mb.out Ac Ac,h.ma.out Ac Ac]
 have hF:p.b.frame false text rand=g7 p.a.ik (p.b.mx.getD (p.b.told-p.b.low) (rz [.sl (.int .u8)])) p.nb p.b.told (G2 p.b.st p.b.ep) (p.b.pc rand).2.2.2 text:=by
  unfold EndH.frame
  rw[hnum,h.kba,e2.1,show p.b.low+p.b.mx.length-1=G2 p.b.st p.b.ep by omega]
 have hG:=ZV p.ida true (r:=p.a) (n:=p.nb) (l:=G2 p.b.st p.b.ep) r2 e2.2.1 h.kl.1 Ac Ac hmix ⟨by omega,by omega,by omega⟩ (EndH.pc_le ob.toSndOk hr) ht hy (by rw[e11];exact hpk)
 rw[e11,e12.1,e12.2,hX]at hG
 have hmn:p.a.low≤AV true p.a.low (KG p.a.mx ks).length (max p.a.told (G2 p.b.st p.b.ep)):=by
  have hl:p.a.mx.length≤(KG p.a.mx ks).length:=by
   match ks,hks with
   |[],_=>exact Nat.le_refl _
   |[k],_=>show _≤(p.a.mx++[_]).length;rw[List.length_append];omega
  unfold AV;rw[if_pos rfl];omega
 obtain⟨hml,M2,hM,h32,hMI,hlo,hle⟩:=h.ma.put h.m32 true p.b.told (max p.a.told (G2 p.b.st p.b.ep)) ks hks Ac Ac hmn
 have hlo2:(Di true p.a.low p.a.mx p.b.told (max p.a.told (G2 p.b.st p.b.ep)) ks).1=p.b.told:=by
  rw[hlo];unfold AV;rw[if_pos rfl];omega
 have hfl:=ob.toSndOk.len ht hr
 have hkn:=hk2.ne
 have I0:IN0 (T+1) ((p.sndB text rand).dlvB (p.a.got true p.b.told (G2 p.b.st p.b.ep) (1,ep2,a2,d2,t2,2*ep2+1,1088,b2,ks)) p.nb) M:=by
  refine⟨h.id,h.ka,L3 _,h.kab,?_,h.na,⟨?_,?_,?_⟩,⟨h.j.1,?_⟩,⟨rfl,h.kl.2⟩,⟨?_,?_⟩,?_,?_,h.eb,h.m32,h.mb,⟨?_,?_⟩,⟨?_,?_,?_,?_⟩,?_,rfl,?_,⟨rfl,rfl⟩,⟨e13.1,e13.2⟩,⟨?_,?_⟩,?_⟩
  ·show P9 p.a.ik=P9 p.b.ok;rw[h.kba]
  ·show p.b.oi+1=p.nb+1;omega
  ·show p.a.ii+1=p.nb+1;omega
  ·show nI p.ib p.nb=p.nb+1;rw[e2.2.2,Ug]
  ·show nJ p.ib p.jb p.nb=[];rw[h.j.2,e2.2.2,Uf]
  ·show p.na+(p.nb+1)≤T+1;omega
  ·show(p.fl++[_]).length≤T+1;rw[List.length_append];simp;omega
  ·show(p.fl++[_]).length=p.na+(p.nb+1);rw[List.length_append];simp;omega
  ·show(Di true p.a.low p.a.mx p.b.told (max p.a.told (G2 p.b.st p.b.ep)) ks).1+(Di true p.a.low p.a.mx p.b.told (max p.a.told (G2 p.b.st p.b.ep)) ks).2.length=ep2+1
   omega
  ·show(Di true p.a.low p.a.mx p.b.told (max p.a.told (G2 p.b.st p.b.ep)) ks).1≤p.b.told;omega
  ·show p.b.told≤p.b.told;omega
  ·exact e7.1
  ·show p.b.last≤ep2;omega
  ·exact e7.2.2.1
  ·show p.b.told≤ep2;omega
  ·show max p.a.told (G2 p.b.st p.b.ep)≤T+1;omega
  ·show KI ep2 d2 t2 b2 p.b.st p.b.ep (p.b.pc rand).2.2.1 p.b.bx
   rw[hpc1.2.2];exact hk2
  ·show a2≤T+1;omega
  ·show(p.b.pc rand).1≤T+1;omega
  ·show ep2≤T+1;omega
 refine⟨ob.toSndOk,p.a.got true p.b.told (G2 p.b.st p.b.ep) (1,ep2,a2,d2,t2,2*ep2+1,1088,b2,ks),⟨oa,by rw[hF];exact hG,by omega,VP _ _|>.trans (by rw[e2.1];rfl),⟨?_,by omega⟩,?_,⟨by omega,?_⟩,?_,?_,?_,MS⟩,?_,⟨L3 _,ob.ik,?_,ob.ii,ob.m1,ob.m2,ob.low,ob.mn,ob.st,ob.ep,?_,?_,?_⟩,fun hag=>⟨I0,?_⟩,by show(p.b.pc rand).1=_;rw[hpc];split<;>rfl,hSt⟩
 ·show p.fl.length<(p.fl++[_]).length
  rw[List.length_append];exact Nat.lt_succ_self _
 ·show RI p.ib p.jb
  rw[h.j.2];exact tC _
 ·show p.ib≤1000000;omega
 ·show J3 p.ib p.jb p.nb=true
  rw[h.j.2,e2.2.2];exact ZX _
 ·show p.a.ii+1=nI p.ib p.nb
  rw[e2.2.2,e2.2.1,Ug]
 ·show Ve []=ints (nJ p.ib p.jb p.nb)
  rw[h.j.2,e2.2.2,Uf];rfl
 ·have hmb:=hMI.pos
  refine⟨⟨h.ka,L3 _,?_,?_,⟨hmb,?_⟩,hMI.m2 h32,?_,?_,.inl rfl,?_,?_,⟨fun _=>hkn.2.2.2.2.2.2.2.2,fun e=>absurd (show(1:Nat)=3 from e) (by decide)⟩,?_⟩,MS,⟨?_,?_⟩,?_,rfl,rfl,hkn.2.2.2.2.1⟩
  ·exact(by omega:p.a.oi≤1000000)
  ·show p.a.ii+1≤1000000;omega
  ·show(Di true p.a.low p.a.mx p.b.told (max p.a.told (G2 p.b.st p.b.ep)) ks).2.length≤80000;omega
  ·show(Di true p.a.low p.a.mx p.b.told (max p.a.told (G2 p.b.st p.b.ep)) ks).1≤10000000;omega
  ·show(Di true p.a.low p.a.mx p.b.told (max p.a.told (G2 p.b.st p.b.ep)) ks).1≤AV true _ (Di true p.a.low p.a.mx p.b.told (max p.a.told (G2 p.b.st p.b.ep)) ks).2.length _
   unfold AV;rw[if_pos rfl]
   exact Nat.le_sub_one_of_lt (Nat.lt_add_of_pos_right hmb)
  ·show ep2≤100000000;omega
  ·show a2≤100000000;omega
  ·show t2.length≤10000;have :=hkn.2.2.2.2.2.2.2.2;omega
  ·show(Di true p.a.low p.a.mx p.b.told (max p.a.told (G2 p.b.st p.b.ep)) ks).1≤p.b.told;omega
  ·show p.b.told≤20000000;omega
  ·show max p.a.told (G2 p.b.st p.b.ep)≤20000000;omega
 ·show p.b.oi+1≤1000000;omega
 ·show(p.b.pc rand).1≤100000000;omega
 ·show(p.b.st=1→(p.b.pc rand).2.2.1.length=0∨(p.b.pc rand).2.2.1.length=1184)∧(p.b.st=3→(p.b.pc rand).2.2.1.length=1088)
  rw[hpc1.2.2];exact ob.tx
 ·show(p.b.pc rand).2.2.1.length≤10000
  rw[hpc1.2.2];exact ob.txl
 ·show MI M (Di true p.a.low p.a.mx p.b.told (max p.a.told (G2 p.b.st p.b.ep)) ks).1 (Di true p.a.low p.a.mx p.b.told (max p.a.told (G2 p.b.st p.b.ep)) ks).2
  have ha:=AdD hag
  have hag':(Di true p.a.low p.a.mx p.b.told (max p.a.told (G2 p.b.st p.b.ep)) ks).1≤min ((Di true p.a.low p.a.mx p.b.told (max p.a.told (G2 p.b.st p.b.ep)) ks).1+(Di true p.a.low p.a.mx p.b.told (max p.a.told (G2 p.b.st p.b.ep)) ks).2.length-1) (p.b.low+p.b.mx.length-1)→p.b.low≤min ((Di true p.a.low p.a.mx p.b.told (max p.a.told (G2 p.b.st p.b.ep)) ks).1+(Di true p.a.low p.a.mx p.b.told (max p.a.told (G2 p.b.st p.b.ep)) ks).2.length-1) (p.b.low+p.b.mx.length-1)→
   (Di true p.a.low p.a.mx p.b.told (max p.a.told (G2 p.b.st p.b.ep)) ks).2.getD (min ((Di true p.a.low p.a.mx p.b.told (max p.a.told (G2 p.b.st p.b.ep)) ks).1+(Di true p.a.low p.a.mx p.b.told (max p.a.told (G2 p.b.st p.b.ep)) ks).2.length-1) (p.b.low+p.b.mx.length-1)-(Di true p.a.low p.a.mx p.b.told (max p.a.told (G2 p.b.st p.b.ep)) ks).1) (rz [.sl (.int .u8)])=p.b.mx.getD (min ((Di true p.a.low p.a.mx p.b.told (max p.a.told (G2 p.b.st p.b.ep)) ks).1+(Di true p.a.low p.a.mx p.b.told (max p.a.told (G2 p.b.st p.b.ep)) ks).2.length-1) (p.b.low+p.b.mx.length-1)-p.b.low) (rz [.sl (.int .u8)]):=ha
  clear ha
  generalize(Di true p.a.low p.a.mx p.b.told (max p.a.told (G2 p.b.st p.b.ep)) ks).1=lo at *
  generalize(Di true p.a.low p.a.mx p.b.told (max p.a.told (G2 p.b.st p.b.ep)) ks).2=mx at *
  have hpos:=hMI.pos
  refine hMI.mono fun j hj=> ?_
  rcases Nat.lt_or_ge j (p.a.low+p.a.mx.length)with hj2|hj2
  ·exact(hM j hj2).symm
  ·have hmin:min (lo+mx.length-1) (p.b.low+p.b.mx.length-1)=j:=by omega
   rw[hmin]at hag'
   have :=hag' Ac Ac
   rw[hMI.out Ac Ac,h.mb.out Ac Ac]at this
   exact this.symm
end
end Go.Sx.Tryz
namespace Go.Sx.Tryz
open Go.Mi Go.RowKit Go.Sx Go.Proofs
noncomputable section
theorem AbG (root:List Int):INV 0 (GB root) (fun _=>pM root):=by
 have hm:∀(e:List (List Int)),e=[pM root]→MI (fun _=>pM root) 0 e:=fun e h=>by
  subst h
  exact⟨Nat.le_refl 1,fun i hi=>by
   have :i=0:=by simp at hi;omega
   subst this;rfl⟩
 refine⟨⟨rfl,T8 _,T7 _,rfl,rfl,⟨rfl,rfl,rfl⟩,⟨rfl,rfl,rfl⟩,⟨rfl,rfl⟩,⟨rfl,rfl⟩,⟨Nat.le_refl _,Nat.le_refl _⟩,rfl,rfl,rfl,fun _=>Nat.le_of_eq (mI _),hm _ rfl,⟨Nat.le_refl _,Nat.le_refl _⟩,⟨Nat.le_refl _,Nat.le_refl _,Nat.le_refl _,Nat.le_refl _⟩,Nat.le_refl _,rfl,⟨.inl rfl,.inl ⟨rfl,rfl,rfl,rfl,Good.nil _ _ _,fun _=>rfl⟩⟩,⟨rfl,rfl⟩,⟨rfl,rfl⟩,⟨Nat.le_refl _,Nat.le_refl _⟩,Nat.le_refl _⟩,hm _ rfl⟩
def sl (b:List (Option (List Int))) (j:Nat):Prop:=(List.getD (α:=Option (List Int)) b j none).isSome=true
theorem Pp {b:List (Option (List Int))} {pa:Nat} {d:List Int} (h:pa<b.length):sl (A8 b pa d) pa:=by
 unfold sl;rw[LP h,if_pos rfl];rfl
theorem jT {b:List (Option (List Int))} {pa j:Nat} {d:List Int} (h:pa<b.length) (hs:sl b j):sl (A8 b pa d) j:=by
 unfold sl at hs⊢;rw[LP h];split
 ·rfl
 ·exact hs
theorem AaS {b:List (Option (List Int))} (h:b.length=2) (h0:sl b 0) (h1:sl b 1):full b=true:=Ov.2 fun j hj=>by
 have :j=0∨j=1:=by omega
 rcases this with e|e<;>rw[e]<;>assumption
structure Pg (i ea aat:Nat) (ba:List (Option (List Int))) (sb eb bat:Nat) (bb:List (Option (List Int))):Prop where
 ep:ea=i/3
 p0:i%3=0→aat=0∧(sb=2→bb=B0)∧(sb=3→eb+1=ea)
 p1:i%3=1→aat=1∧sb=2∧sl bb 0
 p2:i%3=2→aat=2∧sb=3∧eb=ea∧bat=1∧sl ba 0
structure Pm (i ea aat:Nat) (ba:List (Option (List Int))) (sb eb bat:Nat) (bb:List (Option (List Int))):Prop where
 ep:ea=i/3
 p0:i%3=0→aat=1∧sb=2∧sl bb 0
 p1:i%3=1→aat=2∧sb=3∧eb=ea∧bat=0∧ba=B0
 p2:i%3=2→aat=3∧sb=3∧eb=ea∧bat=1∧sl ba 0
theorem Pg.mid {i ea aat:Nat} {sa ta:List Int} {ba:List (Option (List Int))} {sb eb bat:Nat} {tb:List Int} {bb:List (Option (List Int))} {s e a:Nat} {b:List (Option (List Int))} (h:Pg i ea aat ba sb eb bat bb) (hk:KI ea sa ta ba sb eb tb bb) (hs:StB ea sb eb bat bb (aat%2) s e a b):Pm i ea (aat+1) ba s e a b:=by
 obtain⟨d,f1,f2,f3,f4⟩:=hs
 have hn:=hk.ne
 have hor:=hk.or
 refine⟨h.ep,fun e0=> ?_,fun e1=> ?_,fun e2=> ?_⟩
 ·obtain⟨g1,g2,g3⟩:=h.p0 e0
  subst g1
  rcases hn.1 with k|k
  ·rw[g2 k]at f3 f4
   obtain⟨r1,r2⟩:=f4 k (Va d (by decide))
   exact⟨rfl,r1,by rw[r2];exact Pp (by decide)⟩
  ·obtain⟨r1,r2⟩:=f2 k (g3 k)
   exact⟨rfl,r1,by rw[r2];exact Pp (by decide)⟩
 ·obtain⟨g1,g2,g3⟩:=h.p1 e1
  subst g1
  have hl:bb.length=2:=hn.2.2.2.2.2.1
  obtain⟨r1,r2,r3⟩:=f3 g2 (AaS (by rw[FA];exact hl) (jT Ac g3) (Pp Ac))
  rcases hor with⟨q1,q2,q3,_⟩|⟨q1,_⟩|⟨q1,_⟩
  ·exact⟨rfl,r1,by omega,r3,q3⟩
  ·omega
  ·omega
 ·obtain⟨g1,g2,g3,g4,g5⟩:=h.p2 e2
  obtain⟨r1,r2,r3⟩:=f1 g2 g3
  exact⟨by omega,r1,by omega,by omega,g5⟩
theorem Pm.done {i ea aat:Nat} {sa ta:List Int} {ba:List (Option (List Int))} {sb eb bat:Nat} {tb:List Int} {bb:List (Option (List Int))} {e a:Nat} {b:List (Option (List Int))} (h:Pm i ea aat ba sb eb bat bb) (hk:KI ea sa ta ba sb eb tb bb) (hs:StA ea aat ba sb eb (bat%2) e a b):Pg (i+1) e a b sb eb (if sb=2 then bat else bat+1) bb:=by
 obtain⟨d,f1,f2,f3⟩:=hs
 have hn:=hk.ne
 have h3:i%3=0∨i%3=1∨i%3=2:=by omega
 have hep:=h.ep
 rcases h3 with e0|e1|e2
 ·obtain⟨g1,g2,g3⟩:=h.p0 e0
  obtain⟨r1,r2,r3⟩:=f1 g2
  exact⟨by omega,by omega,fun _=>⟨by omega,g2,g3⟩,by omega⟩
 ·obtain⟨g1,g2,g3,g4,g5⟩:=h.p1 e1
  subst g4 g5
  obtain⟨r1,r2,r3⟩:=f3 g2 g3 (Va d (by decide))
  exact⟨by omega,by omega,by omega,fun _=>⟨by omega,g2,by omega,by rw[if_neg Ac],by rw[r3];exact Pp (by decide)⟩⟩
 ·obtain⟨g1,g2,g3,g4,g5⟩:=h.p2 e2
  subst g4
  have hl:ba.length=2:=hn.2.2.2.2.1
  obtain⟨r1,r2⟩:=f2 g2 g3 (AaS (by rw[FA];exact hl) (jT Ac g5) (Pp Ac))
  exact⟨by omega,fun _=>⟨r2,by omega,by omega⟩,by omega,by omega⟩
end
end Go.Sx.Tryz
namespace Go.Sx.Tryz
open Go.Mi Go.RowKit Go.Sx Go.Proofs
noncomputable section
theorem AfB {b:Bool} (h:¬((!b)=true)):b=true:=by
 cases b
 ·exact absurd rfl h
 ·rfl
section
variable (root:List Int) (turns seed:Int)
def yG:Con:=⟨[lb root,vi turns,vi seed],[],.v (.bool true),[]⟩
theorem sturn_ok:ConOk Tryz.prog 4 (yG root turns seed):=by
 refine cy 0 Tryz.func4 rfl Tryz.ntmps4 fun hg0 hS=> ?_
 have A6:root.length≤9223372036854775807:=hS.len 0 rfl
 refine Ae [] 0 hS fun hS=>JN ?_
 by_cases h1:((root.length:Nat):Int)=32
 ·by_cases h2:turns<0
  ·exact Av [(2,Ik h1),(5,Iw h2)] [] 0 hS fun hS=>Ab (AQ hS (Ay [(0,AR (Jl))] [] 0 hS fun hS=>AU (Ah (Ci hS))))
  ·refine Av [(2,Ik h1),(5,Ez h2)] [] 0 hS fun hS=>Ab (AB ((125:Int)<turns) hS (fun h3=> ?_) (fun h3=> ?_))
   ·exact Ay [(0,AR (Jl))] [] 0 hS fun hS=>AU (Ah (Ci hS))
   ·refine B5 (Ay [(1,AO (Ys root AD) [] [(0,0),(1,1),(2,2),(3,3),(4,4),(5,5),(6,6),(7,7),(8,8),(9,9),(10,10),(11,11)])] [] 12 hS fun hS=>Au (Ae [] 12 hS fun hS=>Ai hS (EK ?_)))
    obtain⟨m,rfl⟩:=Int.eq_ofNat_of_zero_le (by omega:0≤turns)
    refine Av [(1,AR (dD seed 1048576 Ac))] [2] 12 hS fun hS=>Ej (Ae [] 12 hS fun hS=>Br (Ar (ι:=Nat×PS) hg0 hS (fun(i,p)=>(m-i,[(9,vi ((i:Nat):Int))],[(0,NZ 1 6 p.na p.ia (ints p.ja) p.nb p.ib (ints p.jb) 11),(1,B8 p.ida true true 2 3 4 p.a.low p.a.mx p.a.last p.a.told p.a.kl),(2,Ao p.a.ok p.a.oi),(3,Ao p.a.ik p.a.ii),(4,A9 p.a.st p.a.ep p.a.at_ p.a.sd p.a.tx 5),(5,BA p.a.rid p.a.rln p.a.bx),(6,B8 p.idb false true 7 8 9 p.b.low p.b.mx p.b.last p.b.told p.b.kl),(7,Ao p.b.ok p.b.oi),(8,Ao p.b.ik p.b.ii),(9,A9 p.b.st p.b.ep p.b.at_ p.b.sd p.b.tx 10),(10,BA p.b.rid p.b.rln p.b.bx),(11,.sl 48 [.int .i64,.int .i64,.sl (.int .u8),.sl (.int .u8)] p.fl)],(i≤m)∧(∃M,INV (2*i) p M)∧(Pg i p.a.ep p.a.at_ p.a.bx p.b.st p.b.ep p.b.at_ p.b.bx)∧True)) [1,2,7] [] 12 (0,(GB root)) [(0,0),(1,1),(2,2),(3,3),(4,4),(5,5),(6,6),(7,7),(8,8),(9,9),(10,10),(11,11)] ⟨Ac,⟨_,AbG root⟩,⟨rfl,fun _=>⟨rfl,fun _=>rfl,fun e=>absurd (show(2:Nat)=3 from e) (by decide)⟩,fun e=>absurd (show 0%3=1 from e) (by decide),fun e=>absurd (show 0%3=2 from e) (by decide)⟩,trivial⟩ ?_))
    rintro⟨i,p⟩ ac gs ws ⟨hi,hI,hG,_⟩ hS
    refine Au (Ae [] 12 hS fun hS=>AB ((i:Int)<(m:Int)) hS (fun h4=> ?_) (fun h4=> ?_))
    ·refine BG (Au (Ae [] 12 hS fun hS=>Br (wp_loop_rounds 3 (Ca (n:=2) (Au (Ae [37] 12 hS fun hS=>AQ hS (BG (JN ?_))))))))
     have hrl:=kQ seed (n:=1048576) (by decide)
     obtain⟨M,hIM⟩:=hI
     have hok:=hIM.ok Ac
     have hq1:=hok.1.toSndOk
     have hq2:=hIM.na.1
     have hq3:p.fl.length≤1000000:=by have :=hIM.t;omega
     refine Av [(7,GE 4 i (4*i)),(8,DI (BW seed 1048576) (4*i) ((BW seed 1048576)+(4*i))),(11,DI ((BW seed 1048576)+(4*i)) 0 ((BW seed 1048576)+(4*i))),(12,AR (Ia (((BW seed 1048576)+(4*i):Nat):Int))),(13,AO (AbE p [(IntKind.wrap .u8 (i:Int))] (Aw (((BW seed 1048576)+(4*i):Nat):Int)) hq1 hq2 hq3 (by simp) (DY _)) [(0,0),(1,1),(2,2),(3,3),(4,4),(5,5),(6,6),(7,7),(8,8),(9,9),(10,10),(11,11)] [(12,12)])] [41,42,43,44,45,46,47,48,49,50,51,52,53,54] 13 hS fun hS=>Ab (Ai hS (EK ?_))
     have hkk:(p.sndA [(IntKind.wrap .u8 (i:Int))] (Aw (((BW seed 1048576)+(4*i):Nat):Int))).fl.length-1=p.fl.length:=by show(p.fl++[_]).length-1=_;rw[List.length_append];rfl
     have hyl:(p.sndA [(IntKind.wrap .u8 (i:Int))] (Aw (((BW seed 1048576)+(4*i):Nat):Int))).fl.length=p.fl.length+1:=by show(p.fl++[_]).length=_;rw[List.length_append];rfl
     obtain⟨hsA,e2,M2,hD,hI2,hat,hSt⟩:=hIM.stepA Ac (text:=[(IntKind.wrap .u8 (i:Int))]) (rand:=(Aw (((BW seed 1048576)+(4*i):Nat):Int))) (r2:=(Aw ((((BW seed 1048576)+(4*i))+1:Nat):Int))) (by simp) (by1 (Zr _)) (DY _) (DY _)
     have hPm:=hG.mid hIM.ki hSt
     rw[←hkk]at hD
     refine Av [(6,GD (((p.sndA [(IntKind.wrap .u8 (i:Int))] (Aw (((BW seed 1048576)+(4*i):Nat):Int))).fl).length) 1 ((((p.sndA [(IntKind.wrap .u8 (i:Int))] (Aw (((BW seed 1048576)+(4*i):Nat):Int))).fl).length)-1)),(9,GE 4 i (4*i)),(10,DI (BW seed 1048576) (4*i) ((BW seed 1048576)+(4*i))),(13,DI ((BW seed 1048576)+(4*i)) 0 ((BW seed 1048576)+(4*i))),(14,DI ((BW seed 1048576)+(4*i)) 1 (((BW seed 1048576)+(4*i))+1)),(15,AR (Ia ((((BW seed 1048576)+(4*i))+1:Nat):Int))),(16,AO (vE (p.sndA [(IntKind.wrap .u8 (i:Int))] (Aw (((BW seed 1048576)+(4*i):Nat):Int))) ((((p.sndA [(IntKind.wrap .u8 (i:Int))] (Aw (((BW seed 1048576)+(4*i):Nat):Int))).fl).length)-1) (Aw ((((BW seed 1048576)+(4*i))+1:Nat):Int)) p.na [(IntKind.wrap .u8 (i:Int))] (p.a.frame true [(IntKind.wrap .u8 (i:Int))] (Aw (((BW seed 1048576)+(4*i):Nat):Int))) e2 hD.E hD.G hD.f (DY _) hD.row hD.k hD.R hD.hn hD.s hD.I hD.J hD.K2) [(0,0),(1,1),(2,2),(3,3),(4,4),(5,5),(6,6),(7,7),(8,8),(9,9),(10,10),(11,12)] [(12,13),(13,14),(14,15),(15,16)])] [56,57,58,59,60,61,62,63,64,65,66,67,68,69,70,71,72] 17 hS fun hS=>Ab (Ai hS (Iu (Dn [10,39,40] 17 hS fun hS=>Ab (Ca (n:=1) (Au (Ae [37] 17 hS fun hS=>AQ hS (BG (JN ?_))))))))
     have hrl:=kQ seed (n:=1048576) (by decide)
     have hok:=hI2.ok Ac
     have hq1:=hok.2.toSndOk
     have hq2:=hI2.nb.1
     have hq3:((p.sndA [(IntKind.wrap .u8 (i:Int))] (Aw (((BW seed 1048576)+(4*i):Nat):Int))).dlvA e2 p.na).fl.length≤1000000:=by have :=hI2.t;omega
     refine Av [(7,GE 4 i (4*i)),(8,DI (BW seed 1048576) (4*i) ((BW seed 1048576)+(4*i))),(11,DI ((BW seed 1048576)+(4*i)) 2 (((BW seed 1048576)+(4*i))+2)),(12,AR (Ia ((((BW seed 1048576)+(4*i))+2:Nat):Int))),(13,AO (AbD ((p.sndA [(IntKind.wrap .u8 (i:Int))] (Aw (((BW seed 1048576)+(4*i):Nat):Int))).dlvA e2 p.na) [(IntKind.wrap .u8 (i:Int))] (Aw ((((BW seed 1048576)+(4*i))+2:Nat):Int)) hq1 hq2 hq3 (by simp) (DY _)) [(0,0),(1,1),(2,2),(3,3),(4,4),(5,5),(6,6),(7,13),(8,14),(9,15),(10,16),(11,12)] [(12,17)])] [41,42,43,44,45,46,47,48,49,50,51,52,53,54] 18 hS fun hS=>Ab (Ai hS (EK ?_))
     have hkk:(((p.sndA [(IntKind.wrap .u8 (i:Int))] (Aw (((BW seed 1048576)+(4*i):Nat):Int))).dlvA e2 p.na).sndB [(IntKind.wrap .u8 (i:Int))] (Aw ((((BW seed 1048576)+(4*i))+2:Nat):Int))).fl.length-1=((p.sndA [(IntKind.wrap .u8 (i:Int))] (Aw (((BW seed 1048576)+(4*i):Nat):Int))).dlvA e2 p.na).fl.length:=by show(((p.sndA [(IntKind.wrap .u8 (i:Int))] (Aw (((BW seed 1048576)+(4*i):Nat):Int))).dlvA e2 p.na).fl++[_]).length-1=_;rw[List.length_append];rfl
     have hyl:(((p.sndA [(IntKind.wrap .u8 (i:Int))] (Aw (((BW seed 1048576)+(4*i):Nat):Int))).dlvA e2 p.na).sndB [(IntKind.wrap .u8 (i:Int))] (Aw ((((BW seed 1048576)+(4*i))+2:Nat):Int))).fl.length=((p.sndA [(IntKind.wrap .u8 (i:Int))] (Aw (((BW seed 1048576)+(4*i):Nat):Int))).dlvA e2 p.na).fl.length+1:=by show(((p.sndA [(IntKind.wrap .u8 (i:Int))] (Aw (((BW seed 1048576)+(4*i):Nat):Int))).dlvA e2 p.na).fl++[_]).length=_;rw[List.length_append];rfl
     obtain⟨hsB,e3,hD,hE3,hE4,hI3,hat3,hSt3⟩:=hI2.stepB Ac (text:=[(IntKind.wrap .u8 (i:Int))]) (rand:=(Aw ((((BW seed 1048576)+(4*i))+2:Nat):Int))) (r2:=(Aw (((((BW seed 1048576)+(4*i))+2)+1:Nat):Int))) (by simp) (by1 (Zr _)) (DY _) (DY _)
     have hPm2:Pm i ((p.sndA [(IntKind.wrap .u8 (i:Int))] (Aw (((BW seed 1048576)+(4*i):Nat):Int))).dlvA e2 p.na).a.ep ((p.sndA [(IntKind.wrap .u8 (i:Int))] (Aw (((BW seed 1048576)+(4*i):Nat):Int))).dlvA e2 p.na).a.at_ ((p.sndA [(IntKind.wrap .u8 (i:Int))] (Aw (((BW seed 1048576)+(4*i):Nat):Int))).dlvA e2 p.na).a.bx ((p.sndA [(IntKind.wrap .u8 (i:Int))] (Aw (((BW seed 1048576)+(4*i):Nat):Int))).dlvA e2 p.na).b.st ((p.sndA [(IntKind.wrap .u8 (i:Int))] (Aw (((BW seed 1048576)+(4*i):Nat):Int))).dlvA e2 p.na).b.ep ((p.sndA [(IntKind.wrap .u8 (i:Int))] (Aw (((BW seed 1048576)+(4*i):Nat):Int))).dlvA e2 p.na).b.at_ ((p.sndA [(IntKind.wrap .u8 (i:Int))] (Aw (((BW seed 1048576)+(4*i):Nat):Int))).dlvA e2 p.na).b.bx:=by show Pm i p.a.ep (p.a.sent _).at_ p.a.bx e2.st e2.ep e2.at_ e2.bx;rw[hat];exact hPm
     have hPg:=hPm2.done hI2.ki hSt3
     rw[←hkk]at hD
     refine Av [(6,GD (((((p.sndA [(IntKind.wrap .u8 (i:Int))] (Aw (((BW seed 1048576)+(4*i):Nat):Int))).dlvA e2 p.na).sndB [(IntKind.wrap .u8 (i:Int))] (Aw ((((BW seed 1048576)+(4*i))+2:Nat):Int))).fl).length) 1 ((((((p.sndA [(IntKind.wrap .u8 (i:Int))] (Aw (((BW seed 1048576)+(4*i):Nat):Int))).dlvA e2 p.na).sndB [(IntKind.wrap .u8 (i:Int))] (Aw ((((BW seed 1048576)+(4*i))+2:Nat):Int))).fl).length)-1)),(9,GE 4 i (4*i)),(10,DI (BW seed 1048576) (4*i) ((BW seed 1048576)+(4*i))),(13,DI ((BW seed 1048576)+(4*i)) 2 (((BW seed 1048576)+(4*i))+2)),(14,DI (((BW seed 1048576)+(4*i))+2) 1 (((BW seed 1048576)+(4*i))+3)),(15,AR (Ia ((((BW seed 1048576)+(4*i))+3:Nat):Int))),(16,AO (vD (((p.sndA [(IntKind.wrap .u8 (i:Int))] (Aw (((BW seed 1048576)+(4*i):Nat):Int))).dlvA e2 p.na).sndB [(IntKind.wrap .u8 (i:Int))] (Aw ((((BW seed 1048576)+(4*i))+2:Nat):Int))) ((((((p.sndA [(IntKind.wrap .u8 (i:Int))] (Aw (((BW seed 1048576)+(4*i):Nat):Int))).dlvA e2 p.na).sndB [(IntKind.wrap .u8 (i:Int))] (Aw ((((BW seed 1048576)+(4*i))+2:Nat):Int))).fl).length)-1) (Aw ((((BW seed 1048576)+(4*i))+3:Nat):Int)) (((p.sndA [(IntKind.wrap .u8 (i:Int))] (Aw (((BW seed 1048576)+(4*i):Nat):Int))).dlvA e2 p.na).nb) [(IntKind.wrap .u8 (i:Int))] (((p.sndA [(IntKind.wrap .u8 (i:Int))] (Aw (((BW seed 1048576)+(4*i):Nat):Int))).dlvA e2 p.na).b.frame false [(IntKind.wrap .u8 (i:Int))] (Aw ((((BW seed 1048576)+(4*i))+2:Nat):Int))) e3 hD.E hD.G hD.f (DY _) hD.row hD.k hD.R hD.hn hD.s hD.I hD.J hD.K2) [(0,0),(1,1),(2,2),(3,3),(4,4),(5,5),(6,6),(7,13),(8,14),(9,15),(10,16),(11,17)] [(12,18),(13,19),(14,20),(15,21)])] [56,57,58,59,60,61,62,63,64,65,66,67,68,69,70,71,72] 22 hS fun hS=>Ab (Ai hS (Iu (Dn [10,39,40] 22 hS fun hS=>Ab (Ca (n:=0) (Au (Ae [] 22 hS fun hS=>Ai hS (CX (Ay [(3,AG 0 2),(8,AG 1 2),(10,AO (Aal (((((p.sndA [(IntKind.wrap .u8 (i:Int))] (Aw (((BW seed 1048576)+(4*i):Nat):Int))).dlvA e2 p.na).sndB [(IntKind.wrap .u8 (i:Int))] (Aw ((((BW seed 1048576)+(4*i))+2:Nat):Int))).dlvB e3 (((p.sndA [(IntKind.wrap .u8 (i:Int))] (Aw (((BW seed 1048576)+(4*i):Nat):Int))).dlvA e2 p.na).nb)).ida) (((((p.sndA [(IntKind.wrap .u8 (i:Int))] (Aw (((BW seed 1048576)+(4*i):Nat):Int))).dlvA e2 p.na).sndB [(IntKind.wrap .u8 (i:Int))] (Aw ((((BW seed 1048576)+(4*i))+2:Nat):Int))).dlvB e3 (((p.sndA [(IntKind.wrap .u8 (i:Int))] (Aw (((BW seed 1048576)+(4*i):Nat):Int))).dlvA e2 p.na).nb)).idb) (((((p.sndA [(IntKind.wrap .u8 (i:Int))] (Aw (((BW seed 1048576)+(4*i):Nat):Int))).dlvA e2 p.na).sndB [(IntKind.wrap .u8 (i:Int))] (Aw ((((BW seed 1048576)+(4*i))+2:Nat):Int))).dlvB e3 (((p.sndA [(IntKind.wrap .u8 (i:Int))] (Aw (((BW seed 1048576)+(4*i):Nat):Int))).dlvA e2 p.na).nb)).a) (((((p.sndA [(IntKind.wrap .u8 (i:Int))] (Aw (((BW seed 1048576)+(4*i):Nat):Int))).dlvA e2 p.na).sndB [(IntKind.wrap .u8 (i:Int))] (Aw ((((BW seed 1048576)+(4*i))+2:Nat):Int))).dlvB e3 (((p.sndA [(IntKind.wrap .u8 (i:Int))] (Aw (((BW seed 1048576)+(4*i):Nat):Int))).dlvA e2 p.na).nb)).b) hE3.toSndOk hE4) [(0,1),(1,18),(2,19),(3,20),(4,21),(5,6),(6,13),(7,14),(8,15),(9,16)] [])] [10,34,38,39,40,41,42,43,44,45,46,47,48,49,50,51,52,53,54,55,56,57,58,59,60,61,62,63,64,65,66,67,68,69,70,71,72,73] 22 hS fun hS=>WG (!(sZ (((((p.sndA [(IntKind.wrap .u8 (i:Int))] (Aw (((BW seed 1048576)+(4*i):Nat):Int))).dlvA e2 p.na).sndB [(IntKind.wrap .u8 (i:Int))] (Aw ((((BW seed 1048576)+(4*i))+2:Nat):Int))).dlvB e3 (((p.sndA [(IntKind.wrap .u8 (i:Int))] (Aw (((BW seed 1048576)+(4*i):Nat):Int))).dlvA e2 p.na).nb)).ida) (((((p.sndA [(IntKind.wrap .u8 (i:Int))] (Aw (((BW seed 1048576)+(4*i):Nat):Int))).dlvA e2 p.na).sndB [(IntKind.wrap .u8 (i:Int))] (Aw ((((BW seed 1048576)+(4*i))+2:Nat):Int))).dlvB e3 (((p.sndA [(IntKind.wrap .u8 (i:Int))] (Aw (((BW seed 1048576)+(4*i):Nat):Int))).dlvA e2 p.na).nb)).idb) (((((p.sndA [(IntKind.wrap .u8 (i:Int))] (Aw (((BW seed 1048576)+(4*i):Nat):Int))).dlvA e2 p.na).sndB [(IntKind.wrap .u8 (i:Int))] (Aw ((((BW seed 1048576)+(4*i))+2:Nat):Int))).dlvB e3 (((p.sndA [(IntKind.wrap .u8 (i:Int))] (Aw (((BW seed 1048576)+(4*i):Nat):Int))).dlvA e2 p.na).nb)).a) (((((p.sndA [(IntKind.wrap .u8 (i:Int))] (Aw (((BW seed 1048576)+(4*i):Nat):Int))).dlvA e2 p.na).sndB [(IntKind.wrap .u8 (i:Int))] (Aw ((((BW seed 1048576)+(4*i))+2:Nat):Int))).dlvB e3 (((p.sndA [(IntKind.wrap .u8 (i:Int))] (Aw (((BW seed 1048576)+(4*i):Nat):Int))).dlvA e2 p.na).nb)).b))) hS (fun h5=> ?_) (fun h5=> ?_)))))))))
     ·exact Ay [(0,AR (Jl))] [] 22 hS fun hS=>AU (AC (Ah (Ah (AC (Ah (Ci hS))))))
     ·refine Iu ?_
      have hI9:∃M,INV (2*(i+1)) ((((p.sndA [(IntKind.wrap .u8 (i:Int))] (Aw (((BW seed 1048576)+(4*i):Nat):Int))).dlvA e2 p.na).sndB [(IntKind.wrap .u8 (i:Int))] (Aw ((((BW seed 1048576)+(4*i))+2:Nat):Int))).dlvB e3 (((p.sndA [(IntKind.wrap .u8 (i:Int))] (Aw (((BW seed 1048576)+(4*i):Nat):Int))).dlvA e2 p.na).nb)) M:=⟨M2,hI3 (AfB (NV h5))⟩
      have hG9:Pg (i+1) ((((p.sndA [(IntKind.wrap .u8 (i:Int))] (Aw (((BW seed 1048576)+(4*i):Nat):Int))).dlvA e2 p.na).sndB [(IntKind.wrap .u8 (i:Int))] (Aw ((((BW seed 1048576)+(4*i))+2:Nat):Int))).dlvB e3 (((p.sndA [(IntKind.wrap .u8 (i:Int))] (Aw (((BW seed 1048576)+(4*i):Nat):Int))).dlvA e2 p.na).nb)).a.ep ((((p.sndA [(IntKind.wrap .u8 (i:Int))] (Aw (((BW seed 1048576)+(4*i):Nat):Int))).dlvA e2 p.na).sndB [(IntKind.wrap .u8 (i:Int))] (Aw ((((BW seed 1048576)+(4*i))+2:Nat):Int))).dlvB e3 (((p.sndA [(IntKind.wrap .u8 (i:Int))] (Aw (((BW seed 1048576)+(4*i):Nat):Int))).dlvA e2 p.na).nb)).a.at_ ((((p.sndA [(IntKind.wrap .u8 (i:Int))] (Aw (((BW seed 1048576)+(4*i):Nat):Int))).dlvA e2 p.na).sndB [(IntKind.wrap .u8 (i:Int))] (Aw ((((BW seed 1048576)+(4*i))+2:Nat):Int))).dlvB e3 (((p.sndA [(IntKind.wrap .u8 (i:Int))] (Aw (((BW seed 1048576)+(4*i):Nat):Int))).dlvA e2 p.na).nb)).a.bx ((((p.sndA [(IntKind.wrap .u8 (i:Int))] (Aw (((BW seed 1048576)+(4*i):Nat):Int))).dlvA e2 p.na).sndB [(IntKind.wrap .u8 (i:Int))] (Aw ((((BW seed 1048576)+(4*i))+2:Nat):Int))).dlvB e3 (((p.sndA [(IntKind.wrap .u8 (i:Int))] (Aw (((BW seed 1048576)+(4*i):Nat):Int))).dlvA e2 p.na).nb)).b.st ((((p.sndA [(IntKind.wrap .u8 (i:Int))] (Aw (((BW seed 1048576)+(4*i):Nat):Int))).dlvA e2 p.na).sndB [(IntKind.wrap .u8 (i:Int))] (Aw ((((BW seed 1048576)+(4*i))+2:Nat):Int))).dlvB e3 (((p.sndA [(IntKind.wrap .u8 (i:Int))] (Aw (((BW seed 1048576)+(4*i):Nat):Int))).dlvA e2 p.na).nb)).b.ep ((((p.sndA [(IntKind.wrap .u8 (i:Int))] (Aw (((BW seed 1048576)+(4*i):Nat):Int))).dlvA e2 p.na).sndB [(IntKind.wrap .u8 (i:Int))] (Aw ((((BW seed 1048576)+(4*i))+2:Nat):Int))).dlvB e3 (((p.sndA [(IntKind.wrap .u8 (i:Int))] (Aw (((BW seed 1048576)+(4*i):Nat):Int))).dlvA e2 p.na).nb)).b.at_ ((((p.sndA [(IntKind.wrap .u8 (i:Int))] (Aw (((BW seed 1048576)+(4*i):Nat):Int))).dlvA e2 p.na).sndB [(IntKind.wrap .u8 (i:Int))] (Aw ((((BW seed 1048576)+(4*i))+2:Nat):Int))).dlvB e3 (((p.sndA [(IntKind.wrap .u8 (i:Int))] (Aw (((BW seed 1048576)+(4*i):Nat):Int))).dlvA e2 p.na).nb)).b.bx:=by rw[←hat3]at hPg;exact hPg
      exact Av [(1,BQ i)] [9] 22 hS fun hS=>Ab (Am hg0 hS (i+1,((((p.sndA [(IntKind.wrap .u8 (i:Int))] (Aw (((BW seed 1048576)+(4*i):Nat):Int))).dlvA e2 p.na).sndB [(IntKind.wrap .u8 (i:Int))] (Aw ((((BW seed 1048576)+(4*i))+2:Nat):Int))).dlvB e3 (((p.sndA [(IntKind.wrap .u8 (i:Int))] (Aw (((BW seed 1048576)+(4*i):Nat):Int))).dlvA e2 p.na).nb))) [(0,0),(1,1),(2,18),(3,19),(4,20),(5,21),(6,6),(7,13),(8,14),(9,15),(10,16),(11,17)] ⟨Ac,hI9,hG9,trivial⟩)
    ·have hT:=hS
     obtain rfl:m=i:=by omega
     have hS:=hT
     refine MY ?_
     obtain⟨M,hIM⟩:=hI
     have hok:=hIM.ok Ac
     have hqa:=hok.1.toSndOk
     have hqb:=hok.2.toSndOk
     have hep:=hG.ep
     have hea:=hIM.ea
     have heb:=hIM.eb
     have hkn:=hIM.ki.ne
     have hz1:((m/60:Nat):Int)≤((p.a.low+p.a.mx.length-1:Nat):Int):=Ac
     have hz2:((m/60:Nat):Int)≤((p.b.low+p.b.mx.length-1:Nat):Int):=Ac
     exact Av [(3,AG 0 2),(5,AO (Pu p.ida true p.a (by first |assumption|exact EOk.toSndOk BC)) [(0,1),(1,2),(2,3),(3,4),(4,5)] []),(7,Td m 60),(8,Iw hz1),(13,AG 1 2),(15,AO (Pu p.idb false p.b (by first |assumption|exact EOk.toSndOk BC)) [(0,6),(1,7),(2,8),(3,9),(4,10)] []),(17,Td m 60),(18,Iw hz2),(21,AR (Jl))] [] 12 hS fun hS=>D6 (Ci hS)
 ·exact Av [(2,Rnt h1)] [] 0 hS fun hS=>Ab (AQ hS (Ay [(0,AR (Jl))] [] 0 hS fun hS=>AU (Ah (Ci hS))))
end
end
end Go.Sx.Tryz
