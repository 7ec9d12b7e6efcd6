/- General lemmas, walks. -/
import Derived.Test.YtmkplecnmklbfaaGreatJ7PTalk
set_option maxRecDepth 100000
set_option maxHeartbeats 1000000
set_option linter.unusedSimpArgs false
set_option linter.unusedVariables false
set_option linter.unnecessarySimpa false
set_option linter.unusedSectionVars false
namespace Go.Sx.Tryz
open Go.Mi Go.RowKit Go.Sx Go.Proofs
noncomputable section
theorem yQ {id ai ct:Nat} {d:List Int} (h:id<2^62∧ai<2^62∧ct<2^62) (hd:d.length≤1000):(Dx id ai ct d).length≤1040:=by
 have h1:=AH (n:=id) Ac
 have h2:=AH (n:=ai) Ac
 have h3:=AH (n:=ct) Ac
 have h4:=AH (n:=d.length) Ac
 unfold Dx
 simp only[List.length_append];omega
theorem OC (st ep at_:Nat) (sd tx:List Int) (id ln:Nat) (bx:List (Option (List Int))) (r:List Int) (he:ep≤400000000) (hx:tx.length≤10000) (hr:r.length=64) (hat:at_<2^62):(A4 st ep at_ sd tx id ln bx r).2.2.2.length≤1040:=by
 have hkl:=(HB (r.take 32) (r.drop 32) (by rw[List.length_drop];omega)).1
 have key:∀(i:Nat) (t:List Int),i≤1000000000→t.length≤10000→(Dx i (at_%(An i t 1000).length) (An i t 1000).length ((t.drop ((at_%(An i t 1000).length)*1000)).take 1000)).length≤1040:=by
  intro i t hi ht
  have hs:=GQ i t 1000
  have hm:at_%(An i t 1000).length<2^62:=by
   by_cases h0:(An i t 1000).length=0
   ·have ht0:(t.length+1000-1)/1000=0:=by rw[←hs];exact h0
    have :An i t 1000=[]:=List.eq_nil_of_length_eq_zero h0
    rw[h0,Nat.mod_zero]
    exact hat
   ·have :=Nat.mod_lt at_ (Nat.pos_of_ne_zero h0);omega
  exact yQ ⟨by omega,hm,by omega⟩ (by rw[List.length_take];omega)
 rw[H5]
 unfold Nt
 split
 ·exact Nat.zero_le _
 ·split
  ·split
   ·exact key _ _ Ac (by rw[hkl];decide)
   ·exact key _ _ Ac hx
  ·split
   ·exact key _ _ Ac (by rw[hkl];decide)
   ·exact key _ _ Ac hx
section
variable (id:List Int) (fi:Bool) (ok:List Int) (oi:Nat) (ik:List Int) (ii low:Nat) (mx:List (List Int)) (last told:Nat) (kl:List KR) (st:Nat) (ep at_:Nat) (sd tx:List Int) (rid rln:Nat) (bx:List (Option (List Int))) (k:List Int) (n:Nat)
def rT:Con:=Cq [.cp 0 0,lb k,vi (n:Int)] [(0,Cm id fi true 1 2 3 low mx last told kl),(1,Aj ok oi),(2,Aj ik ii),(3,Bd st ep at_ sd tx 4),(4,BM rid rln bx)] (lb (AI k (mx.getD (n-low) (rz [.sl (.int .u8)])) [109,101,115,115,97,103,101]))
theorem dV (hm1:1≤mx.length∧mx.length≤100000) (hm2:∀j,(mx.getD j (rz [.sl (.int .u8)])).length≤32) (hlow:low≤100000000000) (hk:k.length=32) (hn:low≤n∧n<low+mx.length):ConOk Tryz.prog 51 (rT id fi ok oi ik ii low mx last told kl st ep at_ sd tx rid rln bx k n):=by
 refine cy 5 Tryz.func51 rfl Tryz.ntmps51 fun hg0 hS=> ?_
 have Be:k.length≤9223372036854775807:=hS.len 1 rfl
 refine Ae [] 5 hS fun hS=>Av ?_
 have hmk:=hm2 (n-low)
 exact As [(10,G9 n low (n-low)),(11,AD (n-low) mx.length),(13,Row),(14,O1 (0<[109,101,115,115,97,103,101].length) (by decide)),(15,AP (EP k (mx.getD (n-low) (rz [.sl (.int .u8)])) [109,101,115,115,97,103,101] AE AE AE))] [] 6 hS fun hS=>DX (BW hS)
end
section
variable (fi:Bool) (ok:List Int) (oi low:Nat) (mx:List (List Int)) (told:Nat) (st ep at_:Nat) (sd tx:List Int) (rid rln:Nat) (bx:List (Option (List Int))) (text rand:List Int)
def kO:(List Int)×Nat×Nat×(List Int)×(List Int)×(List Int):=(Oa ok,(oi+1),((A4 st ep at_ sd tx rid rln bx (rand.take 64)).1),(A4 st ep at_ sd tx rid rln bx (rand.take 64)).2.1,(A4 st ep at_ sd tx rid rln bx (rand.take 64)).2.2.1,(((([]++Ak ((((([]++Ak oi)++Ak (AV fi low mx.length told))++Ak (low+mx.length-1))++Ak ((A4 st ep at_ sd tx rid rln bx (rand.take 64)).2.2.2).length)++((A4 st ep at_ sd tx rid rln bx (rand.take 64)).2.2.2)).length)++((((([]++Ak oi)++Ak (AV fi low mx.length told))++Ak (low+mx.length-1))++Ak ((A4 st ep at_ sd tx rid rln bx (rand.take 64)).2.2.2).length)++((A4 st ep at_ sd tx rid rln bx (rand.take 64)).2.2.2)))++Ak (Db (AI (Kf ok) (mx.getD ((AV fi low mx.length told)-low) (rz [.sl (.int .u8)])) [109,101,115,115,97,103,101]) (List.replicate 12 (0:Int)) ((((([]++Ak oi)++Ak (AV fi low mx.length told))++Ak (low+mx.length-1))++Ak ((A4 st ep at_ sd tx rid rln bx (rand.take 64)).2.2.2).length)++((A4 st ep at_ sd tx rid rln bx (rand.take 64)).2.2.2)) text).length)++(Db (AI (Kf ok) (mx.getD ((AV fi low mx.length told)-low) (rz [.sl (.int .u8)])) [109,101,115,115,97,103,101]) (List.replicate 12 (0:Int)) ((((([]++Ak oi)++Ak (AV fi low mx.length told))++Ak (low+mx.length-1))++Ak ((A4 st ep at_ sd tx rid rln bx (rand.take 64)).2.2.2).length)++((A4 st ep at_ sd tx rid rln bx (rand.take 64)).2.2.2)) text)))
def Yf:(List Int)×Nat×Nat×(List Int)×(List Int)×(List Int):=AJ (kO fi ok oi low mx told st ep at_ sd tx rid rln bx text rand)
theorem kP:Yf fi ok oi low mx told st ep at_ sd tx rid rln bx text rand=kO fi ok oi low mx told st ep at_ sd tx rid rln bx text rand:=Ag _
end
section
variable (id:List Int) (fi:Bool) (ok:List Int) (oi:Nat) (ik:List Int) (ii low:Nat) (mx:List (List Int)) (last told:Nat) (kl:List KR) (st:Nat) (ep at_:Nat) (sd tx:List Int) (rid rln:Nat) (bx:List (Option (List Int))) (text rand:List Int)
def rR (z_:(List Int)×Nat×Nat×(List Int)×(List Int)×(List Int):=Yf fi ok oi low mx told st ep at_ sd tx rid rln bx text rand):Con:=⟨[.cp 0 0,lb text,lb rand],[(0,Cm id fi true 1 2 3 low mx last told kl),(1,Aj ok oi),(2,Aj ik ii),(3,Bd st ep at_ sd tx 4),(4,BM rid rln bx)],.tu (chain [lb (z_.2.2.2.2.2),vi (oi:Int),vi 0]),[(0,Cm id fi true 1 2 3 low mx last told kl),(1,Aj (z_.1) z_.2.1),(2,Aj ik ii),(3,Bd st ep z_.2.2.1 (z_.2.2.2.1) (z_.2.2.2.2.1) 4),(4,BM rid rln bx)]⟩
theorem vD (hok:ok.length=32) (hik:ik.length=32) (hoi:oi≤100000000000) (hii:ii≤100000000000) (hm1:1≤mx.length∧mx.length≤100000) (hm2:∀j,(mx.getD j (rz [.sl (.int .u8)])).length≤32) (hlow:low≤100000000000) (hmn:low≤AV fi low mx.length told) (htx0:text.length≤500) (hr0:rand.length=128) (hst:st=1∨st=2∨st=3) (he:ep≤400000000) (ha:at_≤1000000000) (ht:(st=1→tx.length=0∨tx.length=1184)∧(st=3→tx.length=1088)) (htl:tx.length≤10000):ConOk Tryz.prog 24 (rR id fi ok oi ik ii low mx last told kl st ep at_ sd tx rid rln bx text rand):=by
 refine cy 5 Tryz.func24 rfl Tryz.ntmps24 fun hg0 hS=> ?_
 have Be:text.length≤9223372036854775807:=hS.len 1 rfl
 have B2:rand.length≤9223372036854775807:=hS.len 2 rfl
 have hr1:((rand.length:Nat):Int)=128:=Ac
 have hx1:¬(500:Int)<((text.length:Nat):Int):=Ac
 refine Ae [] 5 hS fun hS=>Av (Br (Ax [(1,IB (BR) [0,1] [.im (chain [.top,.top,.top,.im (chain []) 0,.top,.top,.top,.top,.top,.top,.top]) 0]),(5,GH hr1)] [] 5 hS fun hS=>Ai hS (Ax [(2,DC hx1)] [] 5 hS fun hS=>Ai hS (G8 (Ae [] 5 hS fun hS=>Av (Ae [] 5 hS fun hS=>AO hS (Ae [] 5 hS fun hS=>As [(2,iZ 64 rand.length),(3,AM (wK st ep at_ sd tx rid rln bx (rand.take 64) BF AE Ac Ac BF) [(0,3),(1,4)] [])] [] 5 hS fun hS=>Ab (Ax [(4,AM (CU ok oi) [(0,1)] [])] [] 5 hS fun hS=>Ax [(1,IB (KQ fi low mx told M7 Ac) [0,1] [.im (chain [.top,.v (.bool fi),.top,.im (chain []) 0,.top,.top,vi (low:Int),.ls false [.sl (.int .u8)] mx,.top,vi (told:Int),.top]) 0])] [] 5 hS fun hS=>Ae [] 6 hS fun hS=>Av ?_))))))))
 have hmx:=H8 fi low mx.length told Ac
 have hw1:=AH (n:=oi) Ac
 have hw2:=AH (n:=AV fi low mx.length told) Ac
 have hw3:=AH (n:=low+mx.length-1) Ac
 have hpcl:=OC st ep at_ sd tx rid rln bx (rand.take 64) he htl (by rw[List.length_take];omega) Ac
 have hw4:=AH (n:=((A4 st ep at_ sd tx rid rln bx (rand.take 64)).2.2.2).length) Ac
 refine As [(2,XR oi),(3,AM (Lr oi Ac) [(0,5)] [(1,6)]),(5,XR (AV fi low mx.length told)),(6,AM (HN ([]++Ak oi) (AV fi low mx.length told) AE Ac) [(0,5),(1,6)] [(2,7)]),(8,IB (DF low mx M7 Ac) [0,1] [.im (chain [.top,.top,.top,.im (chain []) 0,.top,.top,vi (low:Int),.ls false [.sl (.int .u8)] mx,.top,.top,.top]) 0]),(9,XR (low+mx.length-1)),(10,AM (HN (([]++Ak oi)++Ak (AV fi low mx.length told)) (low+mx.length-1) AE Ac) [(0,5),(1,7)] [(2,8)]),(12,AM (Ga ((([]++Ak oi)++Ak (AV fi low mx.length told))++Ak (low+mx.length-1)) ((A4 st ep at_ sd tx rid rln bx (rand.take 64)).2.2.2) AE AE) [(0,5),(1,8)] [(2,9)]),(13,AM (Ha ((((([]++Ak oi)++Ak (AV fi low mx.length told))++Ak (low+mx.length-1))++Ak ((A4 st ep at_ sd tx rid rln bx (rand.take 64)).2.2.2).length)++((A4 st ep at_ sd tx rid rln bx (rand.take 64)).2.2.2)) AE) [(0,5),(1,9)] [])] [] 10 hS fun hS=>Ej ?_
 have hmx:=H8 fi low mx.length told Ac
 have hw1:=AH (n:=oi) Ac
 have hw2:=AH (n:=AV fi low mx.length told) Ac
 have hw3:=AH (n:=low+mx.length-1) Ac
 have hpcl:=OC st ep at_ sd tx rid rln bx (rand.take 64) he htl (by rw[List.length_take];omega) Ac
 have hw4:=AH (n:=((A4 st ep at_ sd tx rid rln bx (rand.take 64)).2.2.2).length) Ac
 have hhd:((((([]++Ak oi)++Ak (AV fi low mx.length told))++Ak (low+mx.length-1))++Ak ((A4 st ep at_ sd tx rid rln bx (rand.take 64)).2.2.2).length)++((A4 st ep at_ sd tx rid rln bx (rand.take 64)).2.2.2)).length≤1200:=by simp only[List.length_append,List.length_nil];omega
 refine As [(5,AM (HI ok oi AE Ac) [(0,1)] []),(7,AM (dV id fi (Oa ok) (oi+1) ik ii low mx last told kl st ep ((A4 st ep at_ sd tx rid rln bx (rand.take 64)).1) ((A4 st ep at_ sd tx rid rln bx (rand.take 64)).2.1) ((A4 st ep at_ sd tx rid rln bx (rand.take 64)).2.2.1) rid rln bx (Kf ok) (AV fi low mx.length told) M7 (by first |assumption|(intro j;simp<;>omega)) Ac AE Ac) [(0,0),(1,1),(2,2),(3,3),(4,4)] []),(8,Vn .mf [(12:Int)=12,(0:Int)≤12,1*12≤281474976710656,(12:Int)≤9223372036854775807] ⟨rfl,by omega,by omega,by omega,trivial⟩),(11,AP (Z6 (AI (Kf ok) (mx.getD ((AV fi low mx.length told)-low) (rz [.sl (.int .u8)])) [109,101,115,115,97,103,101]) (List.replicate 12 (0:Int)) ((((([]++Ak oi)++Ak (AV fi low mx.length told))++Ak (low+mx.length-1))++Ak ((A4 st ep at_ sd tx rid rln bx (rand.take 64)).2.2.2).length)++((A4 st ep at_ sd tx rid rln bx (rand.take 64)).2.2.2)) text AE AE AE AE))] [] 10 hS fun hS=>Ej ?_
 have hmx:=H8 fi low mx.length told Ac
 have hw1:=AH (n:=oi) Ac
 have hw2:=AH (n:=AV fi low mx.length told) Ac
 have hw3:=AH (n:=low+mx.length-1) Ac
 have hpcl:=OC st ep at_ sd tx rid rln bx (rand.take 64) he htl (by rw[List.length_take];omega) Ac
 have hw4:=AH (n:=((A4 st ep at_ sd tx rid rln bx (rand.take 64)).2.2.2).length) Ac
 have hhd:((((([]++Ak oi)++Ak (AV fi low mx.length told))++Ak (low+mx.length-1))++Ak ((A4 st ep at_ sd tx rid rln bx (rand.take 64)).2.2.2).length)++((A4 st ep at_ sd tx rid rln bx (rand.take 64)).2.2.2)).length≤1200:=by simp only[List.length_append,List.length_nil];omega
 have hw5:=AH (n:=((((([]++Ak oi)++Ak (AV fi low mx.length told))++Ak (low+mx.length-1))++Ak ((A4 st ep at_ sd tx rid rln bx (rand.take 64)).2.2.2).length)++((A4 st ep at_ sd tx rid rln bx (rand.take 64)).2.2.2)).length) Ac
 have hw5s:=hw5
 simp only[List.length_append,List.length_nil]at hw5s
 have hsl:(Db (AI (Kf ok) (mx.getD ((AV fi low mx.length told)-low) (rz [.sl (.int .u8)])) [109,101,115,115,97,103,101]) (List.replicate 12 (0:Int)) ((((([]++Ak oi)++Ak (AV fi low mx.length told))++Ak (low+mx.length-1))++Ak ((A4 st ep at_ sd tx rid rln bx (rand.take 64)).2.2.2).length)++((A4 st ep at_ sd tx rid rln bx (rand.take 64)).2.2.2)) text).length=text.length+32:=IR ..
 have hw6:=AH (n:=(Db (AI (Kf ok) (mx.getD ((AV fi low mx.length told)-low) (rz [.sl (.int .u8)])) [109,101,115,115,97,103,101]) (List.replicate 12 (0:Int)) ((((([]++Ak oi)++Ak (AV fi low mx.length told))++Ak (low+mx.length-1))++Ak ((A4 st ep at_ sd tx rid rln bx (rand.take 64)).2.2.2).length)++((A4 st ep at_ sd tx rid rln bx (rand.take 64)).2.2.2)) text).length) Ac
 have hw5t:=hw5
 simp at hw5t
 have hw6t:=hw6
 simp at hw6t
 exact As [(2,AM (Ku ((((([]++Ak oi)++Ak (AV fi low mx.length told))++Ak (low+mx.length-1))++Ak ((A4 st ep at_ sd tx rid rln bx (rand.take 64)).2.2.2).length)++((A4 st ep at_ sd tx rid rln bx (rand.take 64)).2.2.2)) AE) [(0,10)] [(1,11)]),(4,AM (Ga (([]++Ak ((((([]++Ak oi)++Ak (AV fi low mx.length told))++Ak (low+mx.length-1))++Ak ((A4 st ep at_ sd tx rid rln bx (rand.take 64)).2.2.2).length)++((A4 st ep at_ sd tx rid rln bx (rand.take 64)).2.2.2)).length)++((((([]++Ak oi)++Ak (AV fi low mx.length told))++Ak (low+mx.length-1))++Ak ((A4 st ep at_ sd tx rid rln bx (rand.take 64)).2.2.2).length)++((A4 st ep at_ sd tx rid rln bx (rand.take 64)).2.2.2))) (Db (AI (Kf ok) (mx.getD ((AV fi low mx.length told)-low) (rz [.sl (.int .u8)])) [109,101,115,115,97,103,101]) (List.replicate 12 (0:Int)) ((((([]++Ak oi)++Ak (AV fi low mx.length told))++Ak (low+mx.length-1))++Ak ((A4 st ep at_ sd tx rid rln bx (rand.take 64)).2.2.2).length)++((A4 st ep at_ sd tx rid rln bx (rand.take 64)).2.2.2)) text) AE AE) [(0,10),(1,11)] [(2,12)]),(5,AM (Ha (((([]++Ak ((((([]++Ak oi)++Ak (AV fi low mx.length told))++Ak (low+mx.length-1))++Ak ((A4 st ep at_ sd tx rid rln bx (rand.take 64)).2.2.2).length)++((A4 st ep at_ sd tx rid rln bx (rand.take 64)).2.2.2)).length)++((((([]++Ak oi)++Ak (AV fi low mx.length told))++Ak (low+mx.length-1))++Ak ((A4 st ep at_ sd tx rid rln bx (rand.take 64)).2.2.2).length)++((A4 st ep at_ sd tx rid rln bx (rand.take 64)).2.2.2)))++Ak (Db (AI (Kf ok) (mx.getD ((AV fi low mx.length told)-low) (rz [.sl (.int .u8)])) [109,101,115,115,97,103,101]) (List.replicate 12 (0:Int)) ((((([]++Ak oi)++Ak (AV fi low mx.length told))++Ak (low+mx.length-1))++Ak ((A4 st ep at_ sd tx rid rln bx (rand.take 64)).2.2.2).length)++((A4 st ep at_ sd tx rid rln bx (rand.take 64)).2.2.2)) text).length)++(Db (AI (Kf ok) (mx.getD ((AV fi low mx.length told)-low) (rz [.sl (.int .u8)])) [109,101,115,115,97,103,101]) (List.replicate 12 (0:Int)) ((((([]++Ak oi)++Ak (AV fi low mx.length told))++Ak (low+mx.length-1))++Ak ((A4 st ep at_ sd tx rid rln bx (rand.take 64)).2.2.2).length)++((A4 st ep at_ sd tx rid rln bx (rand.take 64)).2.2.2)) text)) AE) [(0,10),(1,12)] [])] [7] 13 hS fun hS=>DX (Bi (kP ..) hS)
end
end
end Go.Sx.Tryz
namespace Go.Sx.Tryz
open Go.Mi Go.RowKit Go.Sx Go.Proofs
noncomputable section
section
variable (root:List Int)
def zP:Con:=⟨[lb root,.v (.bool true),.v (.bool true)],[],.tu (chain [.cp 0 0,vi 0]),[(0,.ob 80 (chain [lb (B4 root (ByteArray.mk #[112,97,105,114])),.v (.bool true),.v (.bool true),.cp 1 0,.cp 2 0,.cp 3 0,vi 0,.ls true [.sl (.int .u8)] [B4 root (ByteArray.mk #[109,105,120])],vi 0,vi 0,.v (.slice none 0 0)])),(1,C_ (B4 root (ByteArray.mk #[102,105,114,115,116]))),(2,C_ (B4 root (ByteArray.mk #[111,116,104,101,114]))),(3,.ob 126 (chain [vi 1000,vi 1,vi 0,vi 0,.v (.slice none 0 0),.v (.slice none 0 0),.cp 4 0,.v (.slice none 0 0)])),(4,AaX ((2*0)+1) 5),(5,.sl 22 [.os (.int .u8)] (List.replicate (((1088+1000)-1)/1000) none))]⟩
theorem kN (hr:root.length=32):ConOk Tryz.prog 23 (zP root):=by
 refine cy 0 Tryz.func23 rfl Tryz.ntmps23 fun hg0 hS=> ?_
 have A7:root.length≤9223372036854775807:=hS.len 0 rfl
 have hr1:((root.length:Nat):Int)=32:=Ac
 exact Ae [] 0 hS fun hS=>Av (Ax [(2,GH hr1)] [] 0 hS fun hS=>Ai hS (BP (Ax [(1,AP (Ey root (ByteArray.mk #[112,97,105,114]) AE (by decide))),(5,AP (Ey root (ByteArray.mk #[109,105,120]) AE (by decide)))] [] 1 hS fun hS=>Ax [(2,AP (Ey root (ByteArray.mk #[102,105,114,115,116]) AE (by decide))),(3,AM (JX (B4 root (ByteArray.mk #[102,105,114,115,116])) AE) [] [(0,1)])] [] 2 hS fun hS=>Ax [(2,AP (Ey root (ByteArray.mk #[111,116,104,101,114]) AE (by decide))),(3,AM (JX (B4 root (ByteArray.mk #[111,116,104,101,114])) AE) [] [(0,2)])] [] 3 hS fun hS=>Av (Ae [] 3 hS fun hS=>Ai hS (DU (Ae [] 3 hS fun hS=>AO hS (As [(2,AM (wX 1000 Ac) [] [(0,3),(1,4),(2,5)])] [] 6 hS fun hS=>Ab (Ae [] 6 hS fun hS=>AR (BW hS)))))))))
def zN:Con:=⟨[lb root,.v (.bool false),.v (.bool true)],[],.tu (chain [.cp 0 0,vi 0]),[(0,.ob 80 (chain [lb (B4 root (ByteArray.mk #[112,97,105,114])),.v (.bool false),.v (.bool true),.cp 1 0,.cp 2 0,.cp 3 0,vi 0,.ls true [.sl (.int .u8)] [B4 root (ByteArray.mk #[109,105,120])],vi 0,vi 0,.v (.slice none 0 0)])),(1,C_ (B4 root (ByteArray.mk #[111,116,104,101,114]))),(2,C_ (B4 root (ByteArray.mk #[102,105,114,115,116]))),(3,.ob 126 (chain [vi 1000,vi 2,vi 0,vi 0,.v (.slice none 0 0),.v (.slice none 0 0),.cp 4 0,.v (.slice none 0 0)])),(4,uB (2*0) 5),(5,.sl 22 [.os (.int .u8)] (List.replicate (((1184+1000)-1)/1000) none))]⟩
theorem kK (hr:root.length=32):ConOk Tryz.prog 23 (zN root):=by
 refine cy 0 Tryz.func23 rfl Tryz.ntmps23 fun hg0 hS=> ?_
 have A7:root.length≤9223372036854775807:=hS.len 0 rfl
 have hr1:((root.length:Nat):Int)=32:=Ac
 refine Ae [] 0 hS fun hS=>Av (Ax [(2,GH hr1)] [] 0 hS fun hS=>Ai hS (BP (Ax [(1,AP (Ey root (ByteArray.mk #[112,97,105,114]) AE (by decide))),(5,AP (Ey root (ByteArray.mk #[109,105,120]) AE (by decide)))] [] 1 hS fun hS=>Ax [(2,AP (Ey root (ByteArray.mk #[102,105,114,115,116]) AE (by decide))),(3,AM (JX (B4 root (ByteArray.mk #[102,105,114,115,116])) AE) [] [(0,1)])] [] 2 hS fun hS=>Ax [(2,AP (Ey root (ByteArray.mk #[111,116,104,101,114]) AE (by decide))),(3,AM (JX (B4 root (ByteArray.mk #[111,116,104,101,114])) AE) [] [(0,2)])] [] 3 hS fun hS=>Av (Ae [] 3 hS fun hS=>AO hS (Dj [] 3 hS fun hS=>Ej (Ae [] 3 hS fun hS=>AO hS (As [(2,AM (wW 1000 Ac) [] [(0,3),(1,4),(2,5)])] [] 6 hS fun hS=>Ab (Ae [] 6 hS fun hS=>AR ?_))))))))
 obtain⟨gs,hS⟩:=hS.rx [(0,0),(1,2),(2,1),(3,3),(4,4),(5,5)] [6,7] [0,1,2,3,4,5] 6 hg0
 exact BW hS
end
section
variable (id:List Int) (fi:Bool) (ok:List Int) (oi:Nat) (ik:List Int) (ii low:Nat) (mx:List (List Int)) (last told:Nat) (kl:List KR) (st:Nat) (ep at_:Nat) (sd tx:List Int) (rid rln:Nat) (bx:List (Option (List Int)))
def rN:Con:=Cq [.cp 0 0] [(0,Cm id fi true 1 2 3 low mx last told kl),(1,Aj ok oi),(2,Aj ik ii),(3,Bd st ep at_ sd tx 4),(4,BM rid rln bx)] (vi (oi:Int))
theorem R8:ConOk Tryz.prog 32 (rN id fi ok oi ik ii low mx last told kl st ep at_ sd tx rid rln bx):=by
 exact cy 5 Tryz.func32 rfl Tryz.ntmps32 fun hg0 hS=>Ae [] 5 hS fun hS=>Av (Ax [(1,IB (BR) [0,1] [.im (chain [.top,.top,.top,.im (chain []) 0,.top,.top,.top,.top,.top,.top,.top]) 0])] [] 5 hS fun hS=>Ai hS (BP (Ax [(4,AM (CU ok oi) [(0,1)] [])] [] 5 hS fun hS=>AR (BW hS))))
def rQ:Con:=Cq [.cp 0 0] [(0,Cm id fi true 1 2 3 low mx last told kl),(1,Aj ok oi),(2,Aj ik ii),(3,Bd st ep at_ sd tx 4),(4,BM rid rln bx)] (vi (ii:Int))
theorem Sc:ConOk Tryz.prog 20 (rQ id fi ok oi ik ii low mx last told kl st ep at_ sd tx rid rln bx):=by
 exact cy 5 Tryz.func20 rfl Tryz.ntmps20 fun hg0 hS=>Ae [] 5 hS fun hS=>Av (Ax [(1,IB (BR) [0,1] [.im (chain [.top,.top,.top,.im (chain []) 0,.top,.top,.top,.top,.top,.top,.top]) 0])] [] 5 hS fun hS=>Ai hS (BP (Ax [(4,AM (CU ik ii) [(0,2)] [])] [] 5 hS fun hS=>AR (BW hS))))
end
section
variable (id:List Int) (low:Nat) (mx:List (List Int)) (idb:List Int) (lowb:Nat) (mxb:List (List Int))
def ZC:Bool:=if id=idb then(if((min (low+mx.length-1) (lowb+mxb.length-1):Nat):Int)<(low:Int)then true else(if((min (low+mx.length-1) (lowb+mxb.length-1):Nat):Int)<(lowb:Int)then true else decide ((mx.getD ((min (low+mx.length-1) (lowb+mxb.length-1))-low) (rz [.sl (.int .u8)]))=(mxb.getD ((min (low+mx.length-1) (lowb+mxb.length-1))-lowb) (rz [.sl (.int .u8)])))))else false
def ZD:Bool:=AJ (ZC id low mx idb lowb mxb)
theorem RA:ZD id low mx idb lowb mxb=ZC id low mx idb lowb mxb:=Ag _
end
section
variable (id ok:List Int) (oi:Nat) (ik:List Int) (ii low:Nat) (mx:List (List Int)) (last told:Nat) (kl:List KR) (st ep at_:Nat) (sd tx:List Int) (rid rln:Nat) (bx:List (Option (List Int))) (idb okb:List Int) (oib:Nat) (ikb:List Int) (iib lowb:Nat) (mxb:List (List Int)) (lastb toldb:Nat) (klb:List KR) (u7 epb at_b:Nat) (sdb txb:List Int) (ridb rlnb:Nat) (bxb:List (Option (List Int)))
def Aee (z_:Bool:=ZD id low mx idb lowb mxb):Con:=Cq [.cp 0 0,.cp 5 0] [(0,Cm id true true 1 2 3 low mx last told kl),(1,Aj ok oi),(2,Aj ik ii),(3,Bd st ep at_ sd tx 4),(4,BM rid rln bx),(5,Cm idb false true 6 7 8 lowb mxb lastb toldb klb),(6,Aj okb oib),(7,Aj ikb iib),(8,Bd u7 epb at_b sdb txb 9),(9,BM ridb rlnb bxb)] (.v (.bool z_))
theorem AaQ (hm1:1≤mx.length∧mx.length≤100000) (hlow:low≤100000000000) (hm1b:1≤mxb.length∧mxb.length≤100000) (hlowb:lowb≤100000000000):ConOk Tryz.prog 17 (Aee id ok oi ik ii low mx last told kl st ep at_ sd tx rid rln bx idb okb oib ikb iib lowb mxb lastb toldb klb u7 epb at_b sdb txb ridb rlnb bxb):=by
 refine cy 10 Tryz.func17 rfl Tryz.ntmps17 fun hg0 hS=>Ae [] 10 hS fun hS=>Av (Ax [(1,IB (BR) [0,1] [.im (chain [.top,.top,.top,.im (chain []) 0,.top,.top,.top,.top,.top,.top,.top]) 0]),(4,IB (BR) [5,6] [.im (chain [.top,.top,.top,.im (chain []) 0,.top,.top,.top,.top,.top,.top,.top]) 0]),(37,AP (Er id idb))] [] 10 hS fun hS=>Iz (id=idb) hS (fun h1=> ?_) (fun h1=> ?_))
 ·exact Ae [] 10 hS fun hS=>AR (Af (Bi (.trans (RA ..) (if_neg h1)) hS))
 ·refine BP (Ax [(1,IB (DF low mx M7 Ac) [0,1] [.im (chain [.top,.top,.top,.im (chain []) 0,.top,.top,vi (low:Int),.ls false [.sl (.int .u8)] mx,.top,.top,.top]) 0]),(3,IB (DF lowb mxb M7 Ac) [5,6] [.im (chain [.top,.top,.top,.im (chain []) 0,.top,.top,vi (lowb:Int),.ls false [.sl (.int .u8)] mxb,.top,.top,.top]) 0]),(4,Rmn (low+mx.length-1) (lowb+mxb.length-1))] [] 10 hS fun hS=>Av ?_)
  by_cases h2:((min (low+mx.length-1) (lowb+mxb.length-1):Nat):Int)<(low:Int)
  ·exact As [(5,GG h2)] [] 10 hS fun hS=>DX (Bi (.trans (RA ..) ((if_pos h1).trans (if_pos h2))) hS)
  ·by_cases h3:((min (low+mx.length-1) (lowb+mxb.length-1):Nat):Int)<(lowb:Int)
   ·exact As [(5,DC h2),(12,GG h3)] [] 10 hS fun hS=>DX (Bi (.trans (RA ..) ((if_pos h1).trans ((if_neg h2).trans (if_pos h3)))) hS)
   ·exact As [(5,DC h2),(12,DC h3),(24,G9 (min (low+mx.length-1) (lowb+mxb.length-1)) low ((min (low+mx.length-1) (lowb+mxb.length-1))-low)),(25,AD ((min (low+mx.length-1) (lowb+mxb.length-1))-low) mx.length),(36,G9 (min (low+mx.length-1) (lowb+mxb.length-1)) lowb ((min (low+mx.length-1) (lowb+mxb.length-1))-lowb)),(37,AD ((min (low+mx.length-1) (lowb+mxb.length-1))-lowb) mxb.length),(39,AP (Er (mx.getD ((min (low+mx.length-1) (lowb+mxb.length-1))-low) (rz [.sl (.int .u8)])) (mxb.getD ((min (low+mx.length-1) (lowb+mxb.length-1))-lowb) (rz [.sl (.int .u8)]))))] [] 10 hS fun hS=>DX (Bi (.trans (RA ..) ((if_pos h1).trans ((if_neg h2).trans (if_neg h3)))) hS)
end
end
end Go.Sx.Tryz
namespace Go.Sx.Tryz
open Go.Mi Go.RowKit Go.Sx Go.Proofs
noncomputable section
def Lp (n:Nat):List Int:=Ak n++(Ak 0++(Ak 0++Ak 0))
section
variable (mx:List (List Int)) (key:List Int)
def fky:List Int:=AI (Kf key) (mx.getD 0 (rz [.sl (.int .u8)])) [109,101,115,115,97,103,101]
def M8 (n:Nat) (text:List Int):List Int:=Db (fky mx key) (List.replicate 12 (0:Int)) (Lp n) text
def frm (n:Nat) (text:List Int):List Int:=Ak (Lp n).length++(Lp n++(Ak (M8 mx key n text).length++M8 mx key n text))
end
@[simp] theorem xW (mx:List (List Int)) (key:List Int):(fky mx key).length=32:=E6 ..
@[simp] theorem OM (mx:List (List Int)) (key:List Int) (n:Nat) (text:List Int):(M8 mx key n text).length=text.length+32:=IR ..
theorem o5 {n:Nat} (h:n<2^31):(Lp n).length≤40:=by
 have h1:=AH (n:=n) Ac
 have h2:=AH (n:=0) (by decide)
 unfold Lp
 rw[List.length_append,List.length_append,List.length_append];omega
theorem OJ (mx:List (List Int)) (key:List Int) {n:Nat} {text:List Int} (hn:n<2^31) (ht:text.length≤500):0<(frm mx key n text).length∧(frm mx key n text).length≤4000:=by
 have h1:=o5 hn
 have h2:=AH (n:=(Lp n).length) Ac
 have h3:=AH (n:=(M8 mx key n text).length) (by rw[OM];omega)
 unfold frm
 rw[List.length_append,List.length_append,List.length_append,OM]
 rw[OM]at h3
 omega
theorem AcC (fi:Bool):AV fi 0 1 0=0:=by cases fi<;>rfl
theorem kT (id:List Int) (fi:Bool) (ok:List Int) (oi:Nat) (ik:List Int) (ii:Nat) {mx:List (List Int)} (last:Nat) (kl:List KR) (text rand:List Int) (hm:mx.length=1):Yl id fi ok oi ik ii 0 mx last 0 kl text rand=(Oa ok,oi+1,frm mx ok oi text):=by
 rw[kU];unfold Yk
 simp only[hm,AcC,List.nil_append,List.append_nil,Nat.zero_add,Nat.sub_self,List.length_nil]
 unfold frm M8 fky Lp
 simp only[List.append_assoc]
theorem SL {xs:List Int} {m n:Nat} {r:List Int} (h:Iy xs=some ((n:Int),r)) (h1:n≤m) (h2:n≤r.length):Bg xs m=true:=by
 have hB:=IZ h
 have hV:=EJ h
 have hs:Ew xs m=true:=by rw[Hh];unfold IM;rw[if_pos hB,hV,if_neg (by show¬(m:Int)<(n:Int);omega)]
 rw[Fe];unfold Gt
 rw[if_pos hs,hV]
 have hf:Cn r n=true:=by rw[Hs];unfold Hr;rw[if_neg Ac]
 show(if Cn r (n:Int).toNat=true then true else false)=true
 rw[Int.toNat_natCast,if_pos hf]
theorem Sd {xs:List Int} {n:Nat} {r:List Int} (h:Iy xs=some ((n:Int),r)) (h1:n≤2147483648):Eg xs=true:=by
 rw[On];unfold Om
 rw[if_pos (IZ h),EJ h,if_neg (by show¬(2147483648:Int)<(n:Int);omega)]
theorem LK:Fc []=true:=by rw[Oy];rfl
theorem a5:Iy (Ak 0)=some (((0:Nat):Int),[]):=by
 have :=EZ (n:=0) (by decide) []
 rwa [List.append_nil]at this
theorem xM {n:Nat} (hn:n≤2147483648) (ba bb:List Int):Ka (Lp n) ba bb=true∧E9 (Lp n) ba bb=(n,0,0,[]):=by
 have m1:=EZ (n:=n) Ac (Ak 0++(Ak 0++Ak 0))
 have m2:=EZ (n:=0) (by decide) (Ak 0++Ak 0)
 have m3:=EZ (n:=0) (by decide) (Ak 0)
 have v1:Ad (Lp n)=_:=EJ m1
 have v2:=EJ m2
 have v3:=EJ m3
 have v4:=EJ a5
 have hp:Iu (Lp n) ba bb=true:=by
  rw[KL];unfold Qi
  rw[v1];simp only[]
  rw[v2];simp only[]
  rw[v3];simp only[]
  have hs0:Eg (Lp n)=true:=Sd m1 hn
  rw[if_pos hs0,if_pos (Sd m2 (by decide)),if_pos (Sd m3 (by decide)),if_pos (SL a5 (by decide) (by decide))]
 have hm:C7 (Lp n) ba bb=([],n,0,0,[]):=by
  rw[Wx];unfold aV
  rw[v1];simp only[]
  rw[v2];simp only[]
  rw[v3];simp only[]
  rw[v4];simp
 constructor
 ·rw[Qa];unfold P_
  rw[if_pos hp,hm,if_pos LK]
 ·rw[aK];unfold aJ
  rw[hm]
theorem AcT (mx:List (List Int)) (key:List Int) {n:Nat} {text:List Int} (hn:n<2^31) (ht:text.length≤500):CG (frm mx key n text)=true∧Aa (frm mx key n text)=(Lp n,n,0,0,[],M8 mx key n text):=by
 have hl:=o5 hn
 have hb:(M8 mx key n text).length=text.length+32:=OM ..
 have m1:=EZ (n:=(Lp n).length) Ac (Lp n++(Ak (M8 mx key n text).length++M8 mx key n text))
 have m2:=EZ (n:=(M8 mx key n text).length) Ac (M8 mx key n text)
 have v1:Ad (frm mx key n text)=_:=EJ m1
 have v2:=EJ m2
 have hh:=xM (n:=n) Ac (Lp n) (M8 mx key n text)
 have t1:List.take (Lp n).length (Lp n++(Ak (M8 mx key n text).length++M8 mx key n text))=Lp n:=List.take_left
 have t2:List.drop (Lp n).length (Lp n++(Ak (M8 mx key n text).length++M8 mx key n text))=Ak (M8 mx key n text).length++M8 mx key n text:=List.drop_left
 have r1:Bg (frm mx key n text) 4000=true:=SL m1 Ac (by rw[List.length_append];omega)
 have r2:Bg (Ak (M8 mx key n text).length++M8 mx key n text) 4000=true:=SL m2 Ac Ac
 have hp:L4 (frm mx key n text)=true:=by
  rw[Um];unfold Ul
  simp only[v1,Int.toNat_natCast,t2,r1,r2,if_true]
 have hr:LU (frm mx key n text)=true:=by
  rw[T8];unfold T7
  simp only[hp,v1,Int.toNat_natCast,t2,v2,List.drop_length,LK,if_true]
 have e1:((([]++Ak (Lp n).length)++Lp n)++Ak (M8 mx key n text).length)++M8 mx key n text=frm mx key n text:=by
  unfold frm
  simp only[List.nil_append,List.append_assoc]
 constructor
 ·rw[Gg];unfold Ht
  simp only[hr,v1,Int.toNat_natCast,t1,t2,v2,List.take_length,hh.1,e1,if_true]
 ·rw[L6];unfold L5
  simp only[v1,Int.toNat_natCast,t1,t2,v2,List.take_length,hh.2]
theorem SR (key num data:List Int) {text:List Int} (h:By text):Da key num data (Db key num data text)=(text,0):=by
 have hb:∀(k:List Int) (u1:Nat→Int) (r1:List Int) (n1:Int) (u2:Nat→Int) (r2:List Int) (n2:Int),MQ k u1 r1 n1 u2 r2 n2 num data (MP k u1 r1 n1 u2 r2 n2 num data text)=(text,0):=by
  intro k u1 r1 n1 u2 r2 n2
  have hl:(MP k u1 r1 n1 u2 r2 n2 num data text).length=text.length+32:=by
   rw[OX];unfold MO;rw[List.length_append,Fp,Pz]
  rw[OY];unfold Vh
  rw[hl,if_neg Ac,show(((text.length+32:Nat):Int)-32).toNat=(DT k num text).length by rw[Fp];omega,OX]
  unfold MO
  rw[List.take_left,List.drop_left,if_pos rfl,f8 k num h]
 rw[ZY,Ym];unfold TK TT
 rw[hb]
end
end Go.Sx.Tryz
namespace Go.Sx.Tryz
open Go.Mi Go.RowKit Go.Sx Go.Proofs
noncomputable section
theorem Mc (A:List Int) (m:Nat):∀n,AA (AA A m) n=AA A (m+n)
 |0=>rfl
 |n+1=>by
  show Oa (AA (AA A m) n)=Oa (AA A (m+n))
  rw[Mc A m n]
section
variable (mx:List (List Int)) (A:List Int)
def eX (j:Nat):KR:=((j:Int),(0:Int),[fky mx (AA A j)])
def CK (js:List Nat):List KR:=js.map (eX mx A)
end
structure RI (ii:Nat) (js:List Nat):Prop where
 len:js.length≤60
 nd:js.Nodup
 lt:∀j,j∈js→j<ii
def It (ii:Nat) (js:List Nat) (i:Nat):Bool:=if i<ii then decide (i∈js)else decide (i≤ii+40)
def rEr (ii i:Nat):Nat:=if i<ii then 5 else 6
def nI (ii i:Nat):Nat:=if i<ii then ii else i+1
def nJ (ii:Nat) (js:List Nat) (i:Nat):List Nat:=if i<ii then js.filter (· !=i)else(js++List.range' ii (i-ii)).drop ((js++List.range' ii (i-ii)).length-60)
section
variable (mx:List (List Int)) (A:List Int)
theorem I_ {js:List Nat} {p:Nat} (h:p<js.length):(CK mx A js).getD p kz=eX mx A (js[p]):=by
 unfold CK
 rw[List.getD_eq_getElem?_getD,List.getElem?_map,List.getElem?_eq_getElem h];rfl
theorem Ml (js:List Nat):(CK mx A js).length=js.length:=List.length_map ..
theorem aR {js:List Nat} {i:Nat} (h:i∉js):C6 (CK mx A js) (i:Int)= -1:=by
 refine mR fun j hj e=> ?_
 rw[Ml]at hj
 rw[I_ mx A hj]at e
 have e:((js[j]:Nat):Int)=(i:Int):=e
 have :js[j]=i:=by omega
 exact h (this▸List.getElem_mem hj)
theorem Yx {js:List Nat} {i:Nat} (hn:js.Nodup) (h:i∈js):∃p,p<js.length∧C6 (CK mx A js) (i:Int)=((p:Nat):Int)∧(CK mx A js).getD p kz=eX mx A i∧(CK mx A js).take p++(CK mx A js).drop (p+1)=CK mx A (js.filter (· !=i)):=by
 have hp:=List.idxOf_lt_length_iff.2 h
 have he:js[js.idxOf i]=i:=List.getElem_idxOf hp
 refine⟨js.idxOf i,hp,mS (by rw[Ml];exact hp) (fun j hj e=> ?_) ?_,?_,?_⟩
 ·have hj2:j<js.length:=by omega
  rw[I_ mx A hj2]at e
  have e:((js[j]:Nat):Int)=(i:Int):=e
  have e:js[j]=i:=by omega
  have :=List.not_of_lt_findIdx (p:=(· ==i)) (xs:=js) hj
  simp [e]at this
 ·rw[I_ mx A hp,he];rfl
 ·rw[I_ mx A hp,he]
 ·rw[←hn.erase_eq_filter i]
  unfold CK
  rw[List.erase_eq_eraseIdx_of_idxOf rfl,List.eraseIdx_eq_take_drop_succ,List.map_append,List.map_take,List.map_drop]
theorem nX {ii:Nat} {js:List Nat} (h:RI ii js) (hi:ii≤1000000000000):Of (CK mx A js):=by
 refine⟨by rw[Ml];have :=h.len;omega,fun j hj=> ?_⟩
 rw[Ml]at hj
 rw[I_ mx A hj]
 have :=h.lt _ (List.getElem_mem hj)
 refine⟨⟨?_,?_⟩,⟨?_,?_⟩,?_,?_⟩
 ·show(0:Int)≤((js[j]:Nat):Int);omega
 ·show((js[j]:Nat):Int)≤1000000000000;omega
 ·exact Int.le_refl 0
 ·show(0:Int)≤1000000000000;decide
 ·show(1:Nat)≤100000;decide
 ·intro k hk
  have hk:k=fky mx (AA A js[j]):=List.mem_singleton.1 hk
  rw[hk];exact xW ..
end
section
variable (id:List Int) (fi:Bool) (ok:List Int) (oi:Nat) {mx:List (List Int)} {A:List Int} {ii:Nat} {js:List Nat} {i:Nat} (hb hp hx:List Int)
theorem Acp (hm:mx.length=1) (hR:RI ii js):Cf id fi ok oi (AA A ii) ii 0 mx 0 0 (CK mx A js) hb i 0 0 hp hx=It ii js i:=by
 rw[C4];unfold Gv It
 by_cases h:i<ii
 ·rw[if_pos Ac,if_pos h]
  by_cases hj:i∈js
  ·obtain⟨p,h1,h2,h3,_⟩:=Yx mx A hR.nd hj
   have h3':(CK mx A js).getD p (rz [.int .i64,.int .i64,.sl (.sl (.int .u8))])=eX mx A i:=h3
   simp only[h2,Int.toNat_natCast,h3']
   rw[if_neg Ac,if_neg (by show¬(((0:Nat):Int)<(0:Int));omega),if_neg (by show¬(((1:Nat):Int)≤((0:Nat):Int)-0);omega),decide_eq_true hj]
  ·rw[aR mx A hj,if_pos (by decide),decide_eq_false hj]
 ·rw[if_neg Ac,if_neg h]
  by_cases h2:i≤ii+40
  ·rw[if_pos (show cK ii i=true from decide_eq_true ⟨by omega,h2⟩),if_neg Ac,if_neg Ac,decide_eq_true h2]
  ·have :cK ii i=false:=decide_eq_false fun hh=>h2 hh.2
   rw[this,decide_eq_false h2];rfl
theorem Acq (hf:It ii js i=false):GV id fi ok oi (AA A ii) ii 0 mx 0 0 (CK mx A js) hb i 0 0 hp hx=rEr ii i:=by
 unfold It at hf
 rw[L_];unfold H6 rEr
 by_cases h:i<ii
 ·rw[if_pos h]at hf⊢
  rw[if_pos Ac,aR mx A (of_decide_eq_false hf),if_pos (by decide)]
 ·rw[if_neg h]at hf⊢
  have h2:=of_decide_eq_false hf
  have :cK ii i=false:=decide_eq_false fun hh=>h2 hh.2
  rw[if_neg Ac,this]
  exact qT Ac
theorem Aco (hR:RI ii js) (hf:It ii js i=true):CF id fi ok oi (AA A ii) ii 0 mx 0 0 (CK mx A js) hb i 0 0 hp hx=fky mx (AA A i):=by
 unfold It at hf
 rw[Gh];unfold Hv
 by_cases h:i<ii
 ·rw[if_pos h]at hf
  obtain⟨p,h1,h2,h3,_⟩:=Yx mx A hR.nd (of_decide_eq_true hf)
  have h3':(CK mx A js).getD p (rz [.int .i64,.int .i64,.sl (.sl (.int .u8))])=eX mx A i:=h3
  rw[if_pos Ac]
  simp only[h2,Int.toNat_natCast,h3']
  rfl
 ·rw[if_neg Ac,Mc,show ii+(i-ii)=i by omega];rfl
theorem Adk (h:ii≤i) (x:Nat) (hx1:x<i-ii) (o6:List KR):(Ec id fi ok oi (AA A ii) ii 0 mx 0 0 (CK mx A js) hb i 0 0 hp hx x o6 (CS fun j=>Fu id fi ok oi (AA A ii) ii 0 mx 0 0 (CK mx A js) hb i 0 0 hp hx x o6 (Ec id fi ok oi (AA A ii) ii 0 mx 0 0 (CK mx A js) hb i 0 0 hp hx x o6 j))).2=[fky mx (AA A (ii+x))]:=by
 have hl:1=CS fun j=>Fu id fi ok oi (AA A ii) ii 0 mx 0 0 (CK mx A js) hb i 0 0 hp hx x o6 (Ec id fi ok oi (AA A ii) ii 0 mx 0 0 (CK mx A js) hb i 0 0 hp hx x o6 j):=by
  refine BK (P:=fun j=>Fu id fi ok oi (AA A ii) ii 0 mx 0 0 (CK mx A js) hb i 0 0 hp hx x o6 (Ec id fi ok oi (AA A ii) ii 0 mx 0 0 (CK mx A js) hb i 0 0 hp hx x o6 j)) ?_ ?_
  ·show¬(((0+1:Nat):Int)≤((0:Nat):Int));omega
  ·intro j hj
   have :j=0:=by omega
   subst this
   show((0:Nat):Int)≤((0:Nat):Int);omega
 rw[←hl]
 show[AI ((FM (AA A ii) (i-ii)).getD x (rz [.sl (.int .u8)])) (mx.getD (0-0) (rz [.sl (.int .u8)])) [109,101,115,115,97,103,101]]=_
 rw[Z4 _ hx1,Mc];rfl
theorem q9 (h:ii≤i):∀x,x≤i-ii→Cl id fi ok oi (AA A ii) ii 0 mx 0 0 (CK mx A js) hb i 0 0 hp hx x=CK mx A (js++List.range' ii x)
 |0,_=>by
  show CK mx A js=_
  rw[List.range'_zero,List.append_nil]
 |x+1,hx1=>by
  show Cl id fi ok oi (AA A ii) ii 0 mx 0 0 (CK mx A js) hb i 0 0 hp hx x++[(((ii+x:Nat):Int),((0:Nat):Int),_)]=_
  rw[Adk id fi ok oi hb hp hx h x Ac,q9 h x Ac,List.range'_concat,←List.append_assoc]
  show _=(((js++List.range' ii x)++[ii+1*x]).map (eX mx A))
  rw[List.map_append,Nat.one_mul];rfl
theorem y0 (hR:RI ii js) (hf:It ii js i=true):Ip id fi ok oi (AA A ii) ii 0 mx 0 0 (CK mx A js) hb i 0 0 hp hx=(0,CK mx A (nJ ii js i),AA A (nI ii i),nI ii i):=by
 unfold It at hf
 rw[Rm];unfold Rl nJ nI
 by_cases h:i<ii
 ·rw[if_pos h]at hf
  obtain⟨p,h1,h2,h3,h4⟩:=Yx mx A hR.nd (of_decide_eq_true hf)
  rw[if_pos Ac,if_pos h,if_pos h]
  simp only[h2,Int.toNat_natCast,h4]
 ·rw[if_neg Ac,if_neg h,if_neg h,FZ,q9 id fi ok oi hb hp hx Ac _ (Nat.le_refl _),Mc,show ii+(i-ii)=i by omega]
  rw[Ml,show(max (((js++List.range' ii (i-ii)).length:Nat)-60:Int) 0).toNat=(js++List.range' ii (i-ii)).length-60 by omega]
  unfold CK
  rw[List.map_drop];rfl
end
end
end Go.Sx.Tryz
namespace Go.Sx.Tryz
open Go.Mi Go.RowKit Go.Sx Go.Proofs
noncomputable section
section
variable (id:List Int) (fi:Bool) (ok:List Int) (oi:Nat) {mx:List (List Int)} {A:List Int} {ii:Nat} {js:List Nat} {i:Nat} {text:List Int} (rand:List Int)
theorem jY (hm : mx.length = 1) (hR : RI ii js) (hi : i < 2 ^ 31) (ht : text.length ≤ 500) (hy : By text) :
  IK id fi ok oi (AA A ii) ii 0 mx 0 0 (CK mx A js) (frm mx (AA A i) i text) rand=It ii js i
  ∧(It ii js i=false→VJ id fi ok oi (AA A ii) ii 0 mx 0 0 (CK mx A js) (frm mx (AA A i) i text) rand=rEr ii i)
  ∧(It ii js i=true→Bj id fi ok oi (AA A ii) ii 0 mx 0 0 (CK mx A js) (frm mx (AA A i) i text) rand=(0,0,CK mx A (nJ ii js i),AA A (nI ii i),nI ii i,text,i)):=by
 obtain⟨h1,h2⟩:=AcT mx (AA A i) hi ht
 have hk:=Acp id fi ok oi (A:=A) (i:=i) (Lp i) [] (M8 mx (AA A i) i text) hm hR
 have hs:It ii js i=true→Da (CF id fi ok oi (AA A ii) ii 0 mx 0 0 (CK mx A js) (Lp i) i 0 0 [] (M8 mx (AA A i) i text)) (List.replicate 12 (0:Int)) (Lp i) (M8 mx (AA A i) i text)=(text,0):=fun hf=>by
  rw[Aco id fi ok oi (Lp i) [] (M8 mx (AA A i) i text) hR hf]
  exact SR _ _ _ hy
 refine⟨?_,fun hf=> ?_,fun hf=> ?_⟩
 ·rw[Oi];unfold TE
  simp only[h1,h2,hk,if_true]
  cases hf:It ii js i with
  |false=>rfl
  |true=>simp only[hs hf,if_true];rfl
 ·rw[dN];unfold Nf
  simp only[h1,h2,hk,hf,if_true]
  exact Acq id fi ok oi (Lp i) [] (M8 mx (AA A i) i text) hf
 ·rw[jZ];unfold X_
  simp only[h2,hs hf,y0 id fi ok oi (Lp i) [] (M8 mx (AA A i) i text) hR hf]
  rfl
theorem vZ (hm : mx.length = 1) (hR : RI ii js) (hi : i < 2 ^ 31) (ht : text.length ≤ 500) (hy : By text) :
  JH id fi ok oi (AA A ii) ii 0 mx 0 0 (CK mx A js) (frm mx (AA A i) i text) rand=It ii js i
  ∧(It ii js i=true→CC id fi ok oi (AA A ii) ii 0 mx 0 0 (CK mx A js) (frm mx (AA A i) i text) rand=(AA A (nI ii i),nI ii i,0,0,CK mx A (nJ ii js i),text,i)):=by
 obtain⟨h1,_,h3⟩:=jY id fi ok oi (A:=A) (rand.drop 64) hm hR hi ht hy
 constructor
 ·rw[P1];unfold KH
  rw[h1];cases It ii js i<;>rfl
 ·intro hf
  rw[SG];unfold Nm
  rw[h3 hf]
end
theorem nL (ii i:Nat):nI ii i≤max ii (i+1):=by unfold nI;split<;>omega
theorem RI.next {ii:Nat} {js:List Nat} {i:Nat} (h:RI ii js):RI (nI ii i) (nJ ii js i):=by
 unfold nI nJ
 by_cases hi:i<ii
 ·rw[if_pos hi,if_pos hi]
  exact⟨Nat.le_trans (List.length_filter_le ..) h.len,h.nd.filter _,fun j hj=>h.lt j (List.mem_filter.1 hj).1⟩
 ·rw[if_neg hi,if_neg hi]
  refine⟨by rw[List.length_drop];omega,List.Pairwise.drop ?_,fun j hj=> ?_⟩
  ·refine List.nodup_append.2 ⟨h.nd,List.nodup_range' ..,fun a ha b hb e=> ?_⟩
   have :=h.lt a ha
   rw[List.mem_range'_1]at hb
   omega
  ·rcases List.mem_append.1 (List.mem_of_mem_drop hj)with h1|h1
   ·have :=h.lt j h1;omega
   ·rw[List.mem_range'_1]at h1;omega
theorem RI.nil:RI 0 []:=⟨by decide,List.nodup_nil,fun _ h=>by cases h⟩
def ints (l:List Nat):List Int:=l.map fun j=>((j:Nat):Int)
theorem xE (mx:List (List Int)) (A:List Int) (js:List Nat):Vu (CK mx A js)=ints js:=by
 unfold Vu CK ints
 rw[List.map_map];rfl
theorem dY (id:List Int) (fi:Bool) (ok:List Int) (oi:Nat) (ik:List Int) (ii low:Nat) (mx:List (List Int)) (last told:Nat) (kl:List KR):LE id fi ok oi ik ii low mx last told kl=Vu kl:=by
 have key:∀n,n≤kl.length→IP kl n=Vu (kl.take n):=by
  intro n
  induction n with
  |zero=>intro _;rfl
  |succ n ih=>
   intro hn
   show IP kl n++[(kl.getD n kz).1]=_
   rw[ih Ac,List.take_succ_eq_append_getElem Ac,List.getD_eq_getElem?_getD,List.getElem?_eq_getElem Ac]
   unfold Vu
   rw[List.map_append];rfl
 rw[Z3];unfold TR
 rw[key _ (Nat.le_refl _),List.take_length]
theorem fD {js:List Nat} {n:Nat} (h:n<js.length):(ints js).getD n 0=((js[n]:Nat):Int):=by
 unfold ints
 rw[List.getD_eq_getElem?_getD,List.getElem?_map,List.getElem?_eq_getElem h];rfl
theorem AaZ (a ii:Nat) (js:List Nat) (i:Nat):∀n,n≤js.length→HM a ii (ints js) i n=(decide (i∈js.take n),ints ((js.take n).filter (· !=i)))
 |0,_=>by simp [ints];rfl
 |n+1,h=>by
  have hn:n<js.length:=by omega
  show G_ (ints js) i n (HM a ii (ints js) i n)=_
  rw[AaZ a ii js i n Ac,List.take_succ_eq_append_getElem hn,List.filter_append]
  unfold G_
  simp only[fD hn]
  by_cases e:js[n]=i
  ·rw[if_pos Ac]
   simp [e]
  ·rw[if_neg Ac]
   have e2:¬i=js[n]:=fun h=>e h.symm
   simp [e,e2,ints,-List.take_append_getElem]
theorem ZS (a ii:Nat) (js:List Nat) (i:Nat):∀k,BI a ii (ints js) i k=(ii+k,ints (js++List.range' ii k))
 |0=>by
  show(ii,[]++ints js)=_
  simp
 |k+1=>by
  show Jv k (BI a ii (ints js) i k)=_
  rw[ZS a ii js i k,List.range'_concat]
  unfold Jv
  simp [ints,Nat.add_assoc]
theorem uT (a:Nat) {ii:Nat} {js:List Nat} (i:Nat) (hR:RI ii js):X3 a ii (ints js) i=if It ii js i=true then(nI ii i,ints (nJ ii js i),0)else(ii,ints js,rEr ii i):=by
 have hl:(ints js).length=js.length:=List.length_map ..
 rw[M_];unfold X2 It nI nJ rEr
 by_cases h:i<ii
 ·rw[if_pos Ac,hl,AaZ a ii js i _ (Nat.le_refl _),List.take_length]
  simp only[if_pos h]
  by_cases hj:i∈js<;>simp [hj]
 ·rw[if_neg Ac]
  simp only[if_neg h]
  by_cases h2:i≤ii+40
  ·have hlst : i - ii = CS fun j => Cs i (BI a ii (ints js) i j) := by
    refine BK (P:=fun j=>Cs i (BI a ii (ints js) i j)) ?_ ?_
    ·show¬Cs i (BI a ii (ints js) i (i-ii))
     rw[ZS]
     show¬(((ii+(i-ii):Nat):Int)<(i:Int));omega
    ·intro j hj
     show Cs i (BI a ii (ints js) i j)
     rw[ZS]
     show(((ii+j:Nat):Int)<(i:Int));omega
   rw[if_neg Ac,←hlst,ZS]
   have hli:(ints (js++List.range' ii (i-ii))).length=(js++List.range' ii (i-ii)).length:=List.length_map ..
   simp only[hli,decide_eq_true h2,if_true]
   have hd:ints ((js++List.range' ii (i-ii)).drop ((js++List.range' ii (i-ii)).length-60))=(ints (js++List.range' ii (i-ii))).drop ((js++List.range' ii (i-ii)).length-60):=by unfold ints;rw[List.map_drop]
   by_cases h6:(60:Int)<(((js++List.range' ii (i-ii)).length:Nat):Int)
   ·rw[if_pos h6,hd]
   ·rw[if_neg h6,hd,show(js++List.range' ii (i-ii)).length-60=0 by omega,List.drop_zero]
  ·rw[if_pos Ac,decide_eq_false h2];rfl
end
end Go.Sx.Tryz
namespace Go.Sx.Tryz
open Go.Mi Go.RowKit Go.Sx Go.Proofs
noncomputable section
def F9 (x0 x1:Nat) (x2 x3:Nat) (x4:List Int) (x5 x6:Nat) (x7:List Int) (x8:Nat):O:= .ob 39 (chain [.cp x0 0,.cp x1 0,vi ((x2:Nat):Int),vi ((x3:Nat):Int),.ls false [.int .i64] x4,vi ((x5:Nat):Int),vi ((x6:Nat):Int),.ls false [.int .i64] x7,.sk x8])
structure EndH where
 ok:List Int
 oi:Nat
 ik:List Int
 ii:Nat
 low:Nat
 mx:List (List Int)
 last:Nat
 told:Nat
 kl:List KR
 st:Nat
 ep:Nat
 at_:Nat
 sd:List Int
 tx:List Int
 rid:Nat
 rln:Nat
 bx:List (Option (List Int))
def RL (n m l:Nat) (pc:List Int):List Int:=((((([]++Ak n)++Ak m)++Ak l)++Ak pc.length)++pc)
def W6 (ok mix:List Int) (n m l:Nat) (pc text:List Int):List Int:=Db (AI (Kf ok) mix [109,101,115,115,97,103,101]) (List.replicate 12 (0:Int)) (RL n m l pc) text
def iW (ok mix:List Int) (n m l:Nat) (pc text:List Int):List Int:=(([]++Ak (RL n m l pc).length)++RL n m l pc)++Ak (W6 ok mix n m l pc text).length++W6 ok mix n m l pc text
section
variable (e:EndH)
def EndH.num (fi:Bool):Nat:=AV fi e.low e.mx.length e.told
def EndH.pc (rand:List Int):Nat×List Int×List Int×List Int:=A4 e.st e.ep e.at_ e.sd e.tx e.rid e.rln e.bx (rand.take 64)
def EndH.sent (rand:List Int):EndH:={e with ok:=Oa e.ok,oi:=e.oi+1,at_:=(e.pc rand).1,sd:=(e.pc rand).2.1,tx:=(e.pc rand).2.2.1}
def EndH.frame (fi:Bool) (text rand:List Int):List Int:=iW e.ok (e.mx.getD (e.num fi-e.low) (rz [.sl (.int .u8)])) e.oi (e.num fi) (e.low+e.mx.length-1) (e.pc rand).2.2.2 text
end
structure SndOk (fi:Bool) (e:EndH):Prop where
 ok:e.ok.length=32
 ik:e.ik.length=32
 oi:e.oi≤1000000
 ii:e.ii≤1000000
 m1:1≤e.mx.length∧e.mx.length≤80000
 m2:∀j,(e.mx.getD j (rz [.sl (.int .u8)])).length≤32
 low:e.low≤10000000
 mn:e.low≤AV fi e.low e.mx.length e.told
 st:e.st=1∨e.st=2∨e.st=3
 ep:e.ep≤100000000
 at_:e.at_≤100000000
 tx:(e.st=1→e.tx.length=0∨e.tx.length=1184)∧(e.st=3→e.tx.length=1088)
 txl:e.tx.length≤10000
theorem nD (n:Nat):0<(Ak n).length:=by
 rw[Ak]
 split<;>simp
theorem EndH.pc_le {fi:Bool} {e:EndH} (h:SndOk fi e) {rand:List Int} (hr:rand.length=128):(e.pc rand).2.2.2.length≤1040:=
 OC e.st e.ep e.at_ e.sd e.tx e.rid e.rln e.bx (rand.take 64) (by have :=h.ep;omega) h.txl (by rw[List.length_take];omega) (by have :=h.at_;omega)
theorem xV {ok mix:List Int} {n m l:Nat} {pc text:List Int} (h:n<2^62∧m<2^62∧l<2^62) (hp:pc.length≤1040) (ht:text.length≤500):0<(iW ok mix n m l pc text).length∧(iW ok mix n m l pc text).length≤4000:=by
 unfold iW W6 RL
 have w1:=AH (n:=n) Ac
 have w2:=AH (n:=m) Ac
 have w3:=AH (n:=l) Ac
 have w4:=AH (n:=pc.length) Ac
 generalize hH:(((([]++Ak n)++Ak m)++Ak l)++Ak pc.length)++pc=H
 have hl:H.length≤1200:=by rw[←hH];simp only[List.length_append,List.length_nil];omega
 have w5:=AH (n:=H.length) Ac
 have w6:=AH (n:=text.length+32) Ac
 have p5:0<(Ak H.length).length:=nD _
 simp only[List.length_append,List.length_nil,IR]
 omega
theorem EndH.num_le {fi:Bool} {e:EndH} (h:SndOk fi e):e.num fi≤20000000:=by
 have :=H8 fi e.low e.mx.length e.told h.m1.1
 have h2:=h.m1
 have h3:=h.low
 unfold EndH.num
 omega
theorem SndOk.len {fi:Bool} {e:EndH} (h:SndOk fi e) {text rand:List Int} (ht:text.length≤500) (hr:rand.length=128):0<(e.frame fi text rand).length∧(e.frame fi text rand).length≤4000:=by
 have h1:=h.oi
 have h2:=h.m1
 have h3:=h.low
 have h4:=EndH.num_le h
 exact xV ⟨by omega,by omega,by omega⟩ (EndH.pc_le h hr) ht
section
variable (id:List Int) (fi:Bool) (e:EndH) (text rand:List Int)
def Ads:Con:=⟨[.cp 0 0,lb text,lb rand],[(0,Cm id fi true 1 2 3 e.low e.mx e.last e.told e.kl),(1,Aj e.ok e.oi),(2,Aj e.ik e.ii),(3,Bd e.st e.ep e.at_ e.sd e.tx 4),(4,BM e.rid e.rln e.bx)],.tu (chain [lb (e.frame fi text rand),vi ((e.oi:Nat):Int),vi 0]),[(0,Cm id fi true 1 2 3 ((e.sent rand).low) ((e.sent rand).mx) ((e.sent rand).last) ((e.sent rand).told) ((e.sent rand).kl)),(1,Aj ((e.sent rand).ok) ((e.sent rand).oi)),(2,Aj ((e.sent rand).ik) ((e.sent rand).ii)),(3,Bd ((e.sent rand).st) ((e.sent rand).ep) ((e.sent rand).at_) ((e.sent rand).sd) ((e.sent rand).tx) 4),(4,BM ((e.sent rand).rid) ((e.sent rand).rln) ((e.sent rand).bx))]⟩
theorem Z1 (hA:SndOk fi e) (htx:text.length≤500) (hr:rand.length=128):ConOk Tryz.prog 24 (Ads id fi e text rand):=by
 have h:=vD id fi e.ok e.oi e.ik e.ii e.low e.mx e.last e.told e.kl e.st e.ep e.at_ e.sd e.tx e.rid e.rln e.bx text rand hA.ok hA.ik (by have :=hA.oi;omega) (by have :=hA.ii;omega) ⟨hA.m1.1,by have :=hA.m1.2;omega⟩ hA.m2 (by have :=hA.low;omega) hA.mn htx hr hA.st (by have :=hA.ep;omega) (by have :=hA.at_;omega) hA.tx hA.txl
 have hM:Yf fi e.ok e.oi e.low e.mx e.told e.st e.ep e.at_ e.sd e.tx e.rid e.rln e.bx text rand=(Oa e.ok,e.oi+1,(e.pc rand).1,(e.pc rand).2.1,(e.pc rand).2.2.1,e.frame fi text rand):=kP ..
 unfold rR at h
 rw[hM]at h
 exact h
end
structure PS where
 ida:List Int
 idb:List Int
 a:EndH
 b:EndH
 na:Nat
 ia:Nat
 ja:List Nat
 nb:Nat
 ib:Nat
 jb:List Nat
 fl:List (Int×Int×List Int×List Int)
section
variable (p:PS)
def PS.sndA (text rand:List Int):PS:={p with a:=p.a.sent rand,na:=p.na+1,fl:=p.fl++[((0:Int),((p.a.oi:Nat):Int),text,p.a.frame true text rand)]}
def PS.sndB (text rand:List Int):PS:={p with b:=p.b.sent rand,nb:=p.nb+1,fl:=p.fl++[((1:Int),((p.b.oi:Nat):Int),text,p.b.frame false text rand)]}
def AfR (text rand:List Int):Con:=⟨[.cp 0 0,vi 0,lb text,lb rand],[(0,F9 1 6 p.na p.ia (ints p.ja) p.nb p.ib (ints p.jb) 11),(1,Cm p.ida true true 2 3 4 p.a.low p.a.mx p.a.last p.a.told p.a.kl),(2,Aj p.a.ok p.a.oi),(3,Aj p.a.ik p.a.ii),(4,Bd p.a.st p.a.ep p.a.at_ p.a.sd p.a.tx 5),(5,BM p.a.rid p.a.rln p.a.bx),(6,Cm p.idb false true 7 8 9 p.b.low p.b.mx p.b.last p.b.told p.b.kl),(7,Aj p.b.ok p.b.oi),(8,Aj p.b.ik p.b.ii),(9,Bd p.b.st p.b.ep p.b.at_ p.b.sd p.b.tx 10),(10,BM p.b.rid p.b.rln p.b.bx),(11,.sl 48 [.int .i64,.int .i64,.sl (.int .u8),.sl (.int .u8)] p.fl)],.v (.bool true),[(0,F9 1 6 ((p.sndA text rand).na) ((p.sndA text rand).ia) (ints (p.sndA text rand).ja) ((p.sndA text rand).nb) ((p.sndA text rand).ib) (ints (p.sndA text rand).jb) 12),(1,Cm ((p.sndA text rand).ida) true true 2 3 4 ((p.sndA text rand).a.low) ((p.sndA text rand).a.mx) ((p.sndA text rand).a.last) ((p.sndA text rand).a.told) ((p.sndA text rand).a.kl)),(2,Aj ((p.sndA text rand).a.ok) ((p.sndA text rand).a.oi)),(3,Aj ((p.sndA text rand).a.ik) ((p.sndA text rand).a.ii)),(4,Bd ((p.sndA text rand).a.st) ((p.sndA text rand).a.ep) ((p.sndA text rand).a.at_) ((p.sndA text rand).a.sd) ((p.sndA text rand).a.tx) 5),(5,BM ((p.sndA text rand).a.rid) ((p.sndA text rand).a.rln) ((p.sndA text rand).a.bx)),(6,Cm ((p.sndA text rand).idb) false true 7 8 9 ((p.sndA text rand).b.low) ((p.sndA text rand).b.mx) ((p.sndA text rand).b.last) ((p.sndA text rand).b.told) ((p.sndA text rand).b.kl)),(7,Aj ((p.sndA text rand).b.ok) ((p.sndA text rand).b.oi)),(8,Aj ((p.sndA text rand).b.ik) ((p.sndA text rand).b.ii)),(9,Bd ((p.sndA text rand).b.st) ((p.sndA text rand).b.ep) ((p.sndA text rand).b.at_) ((p.sndA text rand).b.sd) ((p.sndA text rand).b.tx) 10),(10,BM ((p.sndA text rand).b.rid) ((p.sndA text rand).b.rln) ((p.sndA text rand).b.bx)),(12,.sl 48 [.int .i64,.int .i64,.sl (.int .u8),.sl (.int .u8)] ((p.sndA text rand).fl))]⟩
theorem Acd (text rand:List Int) (hA:SndOk true p.a) (hna:p.a.oi=p.na) (hfl0:p.fl.length≤1000000) (htx:text.length≤500) (hr:rand.length=128):ConOk Tryz.prog 14 (AfR p text rand):=by
 refine cy 12 Tryz.func14 rfl Tryz.ntmps14 fun hg0 hS=> ?_
 have B2:text.length≤9223372036854775807:=hS.len 2 rfl
 have HE:rand.length≤9223372036854775807:=hS.len 3 rfl
 have Ms:p.fl.length≤9223372036854775807:=hS.lens 11 rfl
 have hx1:¬(500:Int)<((text.length:Nat):Int):=Ac
 refine Ae [] 12 hS fun hS=>Ax [(4,AD 0 2),(8,AM (Z1 p.ida true p.a text rand hA htx hr) [(0,1),(1,2),(2,3),(3,4),(4,5)] [])] [] 12 hS fun hS=>Av (Ax [(2,DC hx1)] [] 12 hS fun hS=>Ai hS (DU (Av ?_)))
 have hfl:=hA.len htx hr
 have hq3:((p.a.oi:Nat):Int)=((p.na:Nat):Int):=(by rw[hna])
 have hq1:¬(4000:Int)<(((p.a.frame true text rand).length:Nat):Int):=Ac
 have hq2:¬(((p.a.frame true text rand).length:Nat):Int)=0:=Ac
 refine As [(8,AD 0 2),(11,GH hq3),(16,DC hq1),(21,DC hq2)] [] 12 hS fun hS=>Ab (Ai hS (DU ?_))
 have hoi:=hA.oi
 refine As [(4,AD 0 2),(7,BH p.na),(10,AD 0 2)] [] 12 hS fun hS=>Ab (Ax [(11,FW p.fl.length 1 64)] [] 13 hS fun hS=>Av ?_)
 have hq4:((((p.a.sent rand).oi):Nat):Int)=((p.na+1:Nat):Int):=(by show((p.a.oi+1:Nat):Int)=_;rw[hna])
 exact As [(4,AD 0 2),(6,AM (R8 p.ida true ((p.a.sent rand).ok) ((p.a.sent rand).oi) ((p.a.sent rand).ik) ((p.a.sent rand).ii) ((p.a.sent rand).low) ((p.a.sent rand).mx) ((p.a.sent rand).last) ((p.a.sent rand).told) ((p.a.sent rand).kl) ((p.a.sent rand).st) ((p.a.sent rand).ep) ((p.a.sent rand).at_) ((p.a.sent rand).sd) ((p.a.sent rand).tx) ((p.a.sent rand).rid) ((p.a.sent rand).rln) ((p.a.sent rand).bx)) [(0,1),(1,2),(2,3),(3,4),(4,5)] []),(11,AD 0 2),(14,GG hq4)] [] 13 hS fun hS=>DX (BW hS)
def AfQ (text rand:List Int):Con:=⟨[.cp 0 0,vi 1,lb text,lb rand],[(0,F9 1 6 p.na p.ia (ints p.ja) p.nb p.ib (ints p.jb) 11),(1,Cm p.ida true true 2 3 4 p.a.low p.a.mx p.a.last p.a.told p.a.kl),(2,Aj p.a.ok p.a.oi),(3,Aj p.a.ik p.a.ii),(4,Bd p.a.st p.a.ep p.a.at_ p.a.sd p.a.tx 5),(5,BM p.a.rid p.a.rln p.a.bx),(6,Cm p.idb false true 7 8 9 p.b.low p.b.mx p.b.last p.b.told p.b.kl),(7,Aj p.b.ok p.b.oi),(8,Aj p.b.ik p.b.ii),(9,Bd p.b.st p.b.ep p.b.at_ p.b.sd p.b.tx 10),(10,BM p.b.rid p.b.rln p.b.bx),(11,.sl 48 [.int .i64,.int .i64,.sl (.int .u8),.sl (.int .u8)] p.fl)],.v (.bool true),[(0,F9 1 6 ((p.sndB text rand).na) ((p.sndB text rand).ia) (ints (p.sndB text rand).ja) ((p.sndB text rand).nb) ((p.sndB text rand).ib) (ints (p.sndB text rand).jb) 12),(1,Cm ((p.sndB text rand).ida) true true 2 3 4 ((p.sndB text rand).a.low) ((p.sndB text rand).a.mx) ((p.sndB text rand).a.last) ((p.sndB text rand).a.told) ((p.sndB text rand).a.kl)),(2,Aj ((p.sndB text rand).a.ok) ((p.sndB text rand).a.oi)),(3,Aj ((p.sndB text rand).a.ik) ((p.sndB text rand).a.ii)),(4,Bd ((p.sndB text rand).a.st) ((p.sndB text rand).a.ep) ((p.sndB text rand).a.at_) ((p.sndB text rand).a.sd) ((p.sndB text rand).a.tx) 5),(5,BM ((p.sndB text rand).a.rid) ((p.sndB text rand).a.rln) ((p.sndB text rand).a.bx)),(6,Cm ((p.sndB text rand).idb) false true 7 8 9 ((p.sndB text rand).b.low) ((p.sndB text rand).b.mx) ((p.sndB text rand).b.last) ((p.sndB text rand).b.told) ((p.sndB text rand).b.kl)),(7,Aj ((p.sndB text rand).b.ok) ((p.sndB text rand).b.oi)),(8,Aj ((p.sndB text rand).b.ik) ((p.sndB text rand).b.ii)),(9,Bd ((p.sndB text rand).b.st) ((p.sndB text rand).b.ep) ((p.sndB text rand).b.at_) ((p.sndB text rand).b.sd) ((p.sndB text rand).b.tx) 10),(10,BM ((p.sndB text rand).b.rid) ((p.sndB text rand).b.rln) ((p.sndB text rand).b.bx)),(12,.sl 48 [.int .i64,.int .i64,.sl (.int .u8),.sl (.int .u8)] ((p.sndB text rand).fl))]⟩
theorem Acc (text rand:List Int) (hA:SndOk false p.b) (hna:p.b.oi=p.nb) (hfl0:p.fl.length≤1000000) (htx:text.length≤500) (hr:rand.length=128):ConOk Tryz.prog 14 (AfQ p text rand):=by
 refine cy 12 Tryz.func14 rfl Tryz.ntmps14 fun hg0 hS=> ?_
 have B2:text.length≤9223372036854775807:=hS.len 2 rfl
 have HE:rand.length≤9223372036854775807:=hS.len 3 rfl
 have Ms:p.fl.length≤9223372036854775807:=hS.lens 11 rfl
 have hx1:¬(500:Int)<((text.length:Nat):Int):=Ac
 refine Ae [] 12 hS fun hS=>Ax [(4,AD 1 2),(8,AM (Z1 p.idb false p.b text rand hA htx hr) [(0,6),(1,7),(2,8),(3,9),(4,10)] [])] [] 12 hS fun hS=>Av (Ax [(2,DC hx1)] [] 12 hS fun hS=>Ai hS (DU (Av ?_)))
 have hfl:=hA.len htx hr
 have hq3:((p.b.oi:Nat):Int)=((p.nb:Nat):Int):=(by rw[hna])
 have hq1:¬(4000:Int)<(((p.b.frame false text rand).length:Nat):Int):=Ac
 have hq2:¬(((p.b.frame false text rand).length:Nat):Int)=0:=Ac
 refine As [(8,AD 1 2),(11,GH hq3),(16,DC hq1),(21,DC hq2)] [] 12 hS fun hS=>Ab (Ai hS (DU ?_))
 have hoi:=hA.oi
 refine As [(4,AD 1 2),(7,BH p.nb),(10,AD 1 2)] [] 12 hS fun hS=>Ab (Ax [(11,FW p.fl.length 1 64)] [] 13 hS fun hS=>Av ?_)
 have hq4:((((p.b.sent rand).oi):Nat):Int)=((p.nb+1:Nat):Int):=(by show((p.b.oi+1:Nat):Int)=_;rw[hna])
 exact As [(4,AD 1 2),(6,AM (R8 p.idb false ((p.b.sent rand).ok) ((p.b.sent rand).oi) ((p.b.sent rand).ik) ((p.b.sent rand).ii) ((p.b.sent rand).low) ((p.b.sent rand).mx) ((p.b.sent rand).last) ((p.b.sent rand).told) ((p.b.sent rand).kl) ((p.b.sent rand).st) ((p.b.sent rand).ep) ((p.b.sent rand).at_) ((p.b.sent rand).sd) ((p.b.sent rand).tx) ((p.b.sent rand).rid) ((p.b.sent rand).rln) ((p.b.sent rand).bx)) [(0,6),(1,7),(2,8),(3,9),(4,10)] []),(11,AD 1 2),(14,GG hq4)] [] 13 hS fun hS=>DX (BW hS)
end
end
end Go.Sx.Tryz
namespace Go.Sx.Tryz
open Go.Mi Go.RowKit Go.Sx Go.Proofs
noncomputable section
section
variable (mx:List (List Int)) (A:List Int)
def Afb (j:Nat) (t:List Int):Int×Int×List Int×List Int:=((0:Int),(j:Int),t,frm mx (AA A j) j t)
def Mv (tx:List (List Int)):List (Int×Int×List Int×List Int):=tx.mapIdx fun j t=>Afb mx A j t
theorem bU (tx:List (List Int)):(Mv mx A tx).length=tx.length:=List.length_mapIdx ..
theorem xU (tx:List (List Int)) (t:List Int):Mv mx A (tx++[t])=Mv mx A tx++[((0:Int),((tx.length:Nat):Int),t,frm mx (AA A tx.length) tx.length t)]:=by
 unfold Mv
 rw[List.mapIdx_append]
 simp [Afb]
theorem AcS {tx:List (List Int)} {k:Nat} (h:k<tx.length):(Mv mx A tx).getD k (rz [.int .i64,.int .i64,.sl (.int .u8),.sl (.int .u8)])=((0:Int),(k:Int),tx.getD k [],frm mx (AA A k) k (tx.getD k [])):=by
 show List.getD (α:=Int×Int×List Int×List Int) (Mv mx A tx) k (0,0,[],[])=_
 unfold Mv
 rw[List.getD_eq_getElem?_getD,List.getElem?_mapIdx,List.getD_eq_getElem?_getD,List.getElem?_eq_getElem h]
 rfl
end
section
variable (id:List Int) (fi:Bool) (ok:List Int) (oi:Nat)
def zV (ik:List Int) (ii:Nat) (mx:List (List Int)) (kl:List KR) (text rand:List Int):Con:=⟨[.cp 0 0,lb text,lb rand],[(0,BU id fi false 1 2 mx kl),(1,Aj ok oi),(2,Aj ik ii)],.tu (chain [lb (frm mx ok oi text),vi (oi:Int),vi 0]),[(0,BU id fi false 1 2 mx kl),(1,Aj (Oa ok) (oi+1)),(2,Aj ik ii)]⟩
theorem PO (ik:List Int) (ii:Nat) (mx:List (List Int)) (kl:List KR) (text rand:List Int) (hok:ok.length=32) (hik:ik.length=32) (hoi:oi≤1000000) (hii:ii≤1000000) (hm:mx.length=1) (hm2:∀j,(mx.getD j (rz [.sl (.int .u8)])).length≤32) (htx:text.length≤500) (hr:rand.length=128):ConOk Tryz.prog 24 (zV id fi ok oi ik ii mx kl text rand):=by
 have h:=vH id fi ok oi ik ii 0 mx 0 0 kl text rand hok hik Ac Ac ⟨by omega,by omega⟩ hm2 Ac (Nat.zero_le _) htx hr
 unfold rY at h
 rw[kT _ _ _ _ _ _ _ _ _ _ hm]at h
 exact h
def AdE (A:List Int) (ii:Nat) (mx:List (List Int)) (js:List Nat) (i:Nat) (t rand:List Int):Con:=⟨[.cp 0 0,lb (frm mx (AA A i) i t),lb rand],[(0,BU id fi false 1 2 mx (CK mx A js)),(1,Aj ok oi),(2,Aj (AA A ii) ii)],.tu (chain [lb t,vi (i:Int),vi 0]),[(0,BU id fi false 7 8 mx (CK mx A (nJ ii js i))),(1,Aj ok oi),(2,Aj (AA A ii) ii),(7,Aj ok oi),(8,Aj (AA A (nI ii i)) (nI ii i))]⟩
theorem T9 (A:List Int) (ii:Nat) (mx:List (List Int)) (js:List Nat) (i:Nat) (t rand:List Int) (hok:ok.length=32) (hA:A.length=32) (hoi:oi≤1000000) (hii:ii≤1000000) (hm:mx.length=1) (hm2:∀j,(mx.getD j (rz [.sl (.int .u8)])).length≤32) (hR:RI ii js) (hi:i≤1000000) (ht:t.length≤500) (hy:By t) (hr:rand.length=128) (hs:It ii js i=true):ConOk Tryz.prog 19 (AdE id fi ok oi A ii mx js i t rand):=by
 have hn:=Du hA
 have hf:=(OJ mx (AA A i) (n:=i) (text:=t) Ac ht).2
 have hh:=vZ id fi ok oi (A:=A) rand hm hR (show i<2^31 by omega) ht hy
 have h:=Yu id fi ok oi (AA A ii) ii 0 mx 0 0 (CK mx A js) (frm mx (AA A i) i t) rand hok (hn ii) Ac Ac ⟨by omega,by omega⟩ hm2 Ac (nX mx A hR Ac) ⟨by omega,by omega⟩ Ac Ac hr (hh.1.trans hs)
 unfold Tw at h
 rw[hh.2 hs]at h
 exact h
end
section
variable (a ii:Nat) (js:List Nat) (i:Nat)
def y7:Con:=⟨[.ag (chain [vi (a:Int),vi (ii:Int),.ls false [.int .i64] (ints js)]),vi (i:Int)],[],.tu (chain [.ag (chain [vi (a:Int),vi ((nI ii i:Nat):Int),.ls false [.int .i64] (ints (nJ ii js i))]),vi 0]),[]⟩
theorem IF (hR:RI ii js) (hii:ii≤1000000) (hi:i≤1000000) (hs:It ii js i=true):ConOk Tryz.prog 35 (y7 a ii js i):=by
 have hl:(ints js).length=js.length:=List.length_map ..
 have h6:=hR.len
 have h:=uQ a ii (ints js) i Ac ⟨by omega,by omega⟩
 unfold rC at h
 rw[uT a i hR,hs]at h
 exact h
end
section
variable (id:List Int) (fi:Bool) (ok:List Int) (oi:Nat)
def XD (ik:List Int) (ii low:Nat) (mx:List (List Int)) (last told:Nat) (kl:List KR):Con:=⟨[.cp 0 0],[(0,HL id fi false 1 2 low mx last told kl),(1,Aj ok oi),(2,Aj ik ii)],.ls false [.int .i64] (LE id fi ok oi ik ii low mx last told kl),[(0,HL id fi false 1 2 low mx last told kl),(1,Aj ok oi),(2,Aj ik ii)]⟩
theorem dX (ik:List Int) (ii low:Nat) (mx:List (List Int)) (last told:Nat) (kl:List KR) (hK:Of kl):ConOk Tryz.prog 21 (XD id fi ok oi ik ii low mx last told kl):=ConOk.frz [(0,HL id fi false 1 2 low mx last told kl),(1,Aj ok oi),(2,Aj ik ii)] 3 3 [.int .i64] (LE id fi ok oi ik ii low mx last told kl) (kR id fi ok oi ik ii low mx last told kl hK) (by kernel_rfl)
def rV (A:List Int) (ii:Nat) (mx:List (List Int)) (js:List Nat):Con:=⟨[.cp 0 0],[(0,BU id fi false 1 2 mx (CK mx A js)),(1,Aj ok oi),(2,Aj (AA A ii) ii)],.ls false [.int .i64] (ints js),[(0,BU id fi false 1 2 mx (CK mx A js)),(1,Aj ok oi),(2,Aj (AA A ii) ii)]⟩
theorem JD (A:List Int) (ii:Nat) (mx:List (List Int)) (js:List Nat) (hR:RI ii js) (hii:ii≤1000000):ConOk Tryz.prog 21 (rV id fi ok oi A ii mx js):=by
 have h:=dX id fi ok oi (AA A ii) ii 0 mx 0 0 (CK mx A js) (nX mx A hR Ac)
 unfold XD at h
 rw[dY,xE]at h
 exact h
end
end
end Go.Sx.Tryz
namespace Go.Sx.Tryz
open Go.Mi Go.RowKit Go.Sx Go.Proofs
noncomputable section
def ZJ (x0 x1:Nat) (x2 x3:Nat) (x4 x5:List Int) (x6:Nat):O:= .ob 39 (chain [.cp x0 0,.cp x1 0,vi ((x2:Nat):Int),vi ((x3:Nat):Int),.ls false [.int .i64] x4,vi 0,vi 0,.ls false [.int .i64] x5,.sk x6])
section
variable (A B:List Int) (mx:List (List Int)) (n ii:Nat) (js:List Nat) (tx:List (List Int)) (ida:List Int) (idb text rand:List Int)
def Aad:Con:=⟨[.cp 0 0,vi 0,lb text,lb rand],[(0,ZJ 1 4 n ii (ints js) [] 7),(1,BU ida true false 2 3 mx []),(2,Aj (AA A n) n),(3,C_ B),(4,BU idb false false 5 6 mx (CK mx A js)),(5,C_ B),(6,Aj (AA A ii) ii),(7,.sl 48 [.int .i64,.int .i64,.sl (.int .u8),.sl (.int .u8)] (Mv mx A tx))],.v (.bool true),[(0,ZJ 1 4 (n+1) ii (ints js) [] 8),(1,BU ida true false 2 3 mx []),(2,Aj (AA A (n+1)) (n+1)),(3,C_ B),(4,BU idb false false 5 6 mx (CK mx A js)),(5,C_ B),(6,Aj (AA A ii) ii),(8,.sl 48 [.int .i64,.int .i64,.sl (.int .u8),.sl (.int .u8)] (Mv mx A (tx++[text])))]⟩
theorem Wq (hA:A.length=32) (hB:B.length=32) (hm:mx.length=1) (hm2:∀j,(mx.getD j (rz [.sl (.int .u8)])).length≤32) (hn:n=tx.length∧n≤100000) (hii:ii≤100000) (htx:text.length≤500) (hr:rand.length=128):ConOk Tryz.prog 14 (Aad A B mx n ii js tx ida idb text rand):=by
 refine cy 8 Tryz.func14 rfl Tryz.ntmps14 fun hg0 hS=> ?_
 have B2:text.length≤9223372036854775807:=hS.len 2 rfl
 have HE:rand.length≤9223372036854775807:=hS.len 3 rfl
 have E4:(Mv mx A tx).length≤9223372036854775807:=hS.lens 7 rfl
 have hx1:¬(500:Int)<((text.length:Nat):Int):=Ac
 refine Ae [] 8 hS fun hS=>Ax [(4,AD 0 2),(8,AM (PO ida true (AA A n) n B 0 mx ([]:List KR) text rand (Du hA _) hB Ac Ac hm hm2 htx hr) [(0,1),(1,2),(2,3)] [])] [] 8 hS fun hS=>Av (Ax [(2,DC hx1)] [] 8 hS fun hS=>Ai hS (DU (Av ?_)))
 have hfl:=OJ mx (AA A n) (n:=n) (text:=text) Ac htx
 have hq3:(n:Int)=(n:Int):=rfl
 have hq1:¬(4000:Int)<(((frm mx (AA A n) n text).length:Nat):Int):=Ac
 have hq2:¬(((frm mx (AA A n) n text).length:Nat):Int)=0:=Ac
 refine As [(8,AD 0 2),(11,GH hq3),(16,DC hq1),(21,DC hq2)] [] 8 hS fun hS=>Ab (Ai hS (BP (Ax [(4,AD 0 2),(7,BH n),(10,AD 0 2)] [] 8 hS fun hS=>Av ?_)))
 have hfs:=bU mx A tx
 refine As [(11,FW ((Mv mx A tx).length) 1 64)] [] 9 hS fun hS=>Ej ?_
 have hS:=hS.ch 8 (.sl 48 [.int .i64,.int .i64,.sl (.int .u8),.sl (.int .u8)] (Mv mx A (tx++[text]))) (.sl 48 [.int .i64,.int .i64,.sl (.int .u8),.sl (.int .u8)] ((Mv mx A tx)++[(0,(n:Int),text,frm mx (AA A n) n text)])) (by rw[xU,←hn.1]<;>rfl)
 exact As [(4,AD 0 2),(6,AM (PC ida true (Oa (AA A n)) (n+1) B 0 0 mx 0 0 ([]:List KR)) [(0,1),(1,2),(2,3)] []),(11,AD 0 2)] [] 9 hS fun hS=>DX (C0 rfl (.inr rfl) hS [.v (.bool (decide ((((n+1):Nat):Int)=((n+1:Nat):Int))))] [(0,some (ZJ 1 4 (n+1) ii (ints js) [] 8)),(1,some (BU ida true false 2 3 mx [])),(2,some (Aj (Oa (AA A n)) (n+1))),(3,some (C_ B)),(4,some (BU idb false false 5 6 mx (CK mx A js))),(5,some (C_ B)),(6,some (Aj (AA A ii) ii)),(8,some (.sl 48 [.int .i64,.int .i64,.sl (.int .u8),.sl (.int .u8)] (Mv mx A (tx++[text]))))] (by show weak (.v (.bool (decide (((n+1:Nat):Int)=((n+1:Nat):Int))))) (.v (.bool true))= .v (.bool true);rw[decide_eq_true rfl];rfl) ⟨rfl,rfl,rfl,rfl,rfl,rfl,rfl,rfl,trivial⟩)
end
end
end Go.Sx.Tryz
namespace Go.Sx.Tryz
open Go.Mi Go.RowKit Go.Sx Go.Proofs
noncomputable section
def uA (x0 x1:Int) (x2 x3:List Int):O:= .ob 48 (chain [vi x0,vi x1,lb x2,lb x3])
section
variable (A B:List Int) (mx:List (List Int)) (n ii:Nat) (js:List Nat) (tx:List (List Int)) (ida idb:List Int)
def sF:Con:=Cq [.cp 0 0,vi 1] [(0,ZJ 1 4 n ii (ints js) [] 7),(1,BU ida true false 2 3 mx []),(2,Aj (AA A n) n),(3,C_ B),(4,BU idb false false 5 6 mx (CK mx A js)),(5,C_ B),(6,Aj (AA A ii) ii),(7,.sl 48 [.int .i64,.int .i64,.sl (.int .u8),.sl (.int .u8)] (Mv mx A tx))] (.v (.bool true))
theorem eN (hA:A.length=32) (hB:B.length=32) (hm:mx.length=1) (hm2:∀j,(mx.getD j (rz [.sl (.int .u8)])).length≤32) (hR:RI ii js) (hii:ii≤100000) (hn:n≤100000):ConOk Tryz.prog 27 (sF A B mx n ii js tx ida idb):=by
 refine cy 8 Tryz.func27 rfl Tryz.ntmps27 fun hg0 hS=> ?_
 have E4:(Mv mx A tx).length≤9223372036854775807:=hS.lens 7 rfl
 refine Ae [] 8 hS fun hS=>Ax [(5,AD 0 2)] [5] 9 hS fun hS=>Av ?_
 have hq1:(ii:Int)=(ii:Int):=rfl
 exact As [(4,AD 1 2),(6,AM (PG idb false B 0 (AA A ii) ii 0 mx 0 0 (CK mx A js)) [(0,4),(1,5),(2,6)] []),(9,GG hq1),(15,AD 1 2),(17,AM (JD idb false B 0 A ii mx js BF Ac) [(0,4),(1,5),(2,6)] []),(20,AP (bN (ints js) (ints js)))] [] 9 hS fun hS=>DX (C0 rfl (.inr rfl) hS [.v (.bool (decide ((ints js)=(ints js))))] [(0,some (ZJ 1 4 n ii (ints js) [] 7)),(1,some (BU ida true false 2 3 mx [])),(2,some (Aj (AA A n) n)),(3,some (C_ B)),(4,some (BU idb false false 5 6 mx (CK mx A js))),(5,some (C_ B)),(6,some (Aj (AA A ii) ii)),(7,some (.sl 48 [.int .i64,.int .i64,.sl (.int .u8),.sl (.int .u8)] (Mv mx A tx)))] (by show weak (.v (.bool (decide (ints js=ints js)))) (.v (.bool true))= .v (.bool true);rw[decide_eq_true rfl];rfl) ⟨rfl,rfl,rfl,rfl,rfl,rfl,rfl,rfl,trivial⟩)
def Aaf (k:Nat) (rand:List Int):Con:=⟨[.cp 0 0,vi (k:Int),lb rand],[(0,ZJ 1 4 n ii (ints js) [] 7),(1,BU ida true false 2 3 mx []),(2,Aj (AA A n) n),(3,C_ B),(4,BU idb false false 5 6 mx (CK mx A js)),(5,C_ B),(6,Aj (AA A ii) ii),(7,.sl 48 [.int .i64,.int .i64,.sl (.int .u8),.sl (.int .u8)] (Mv mx A tx))],.v (.bool true),[(0,ZJ 1 4 n (nI ii k) (ints (nJ ii js k)) [] 7),(1,BU ida true false 2 3 mx []),(2,Aj (AA A n) n),(3,C_ B),(4,BU idb false false 8 9 mx (CK mx A (nJ ii js k))),(5,C_ B),(6,Aj (AA A ii) ii),(7,.sl 48 [.int .i64,.int .i64,.sl (.int .u8),.sl (.int .u8)] (Mv mx A tx)),(8,C_ B),(9,Aj (AA A (nI ii k)) (nI ii k))]⟩
theorem mY (k:Nat) (rand:List Int) (hA:A.length=32) (hB:B.length=32) (hm:mx.length=1) (hm2:∀j,(mx.getD j (rz [.sl (.int .u8)])).length≤32) (hR:RI ii js) (hii:ii≤100000) (hn:n≤100000) (hk:k<tx.length∧k<100000) (htk:(tx.getD k []).length≤500∧By (tx.getD k [])) (hr:rand.length=128) (hs:It ii js k=true):ConOk Tryz.prog 16 (Aaf A B mx n ii js tx ida idb k rand):=by
 refine cy 8 Tryz.func16 rfl Tryz.ntmps16 fun hg0 hS=> ?_
 have B2:rand.length≤9223372036854775807:=hS.len 2 rfl
 have E4:(Mv mx A tx).length≤9223372036854775807:=hS.lens 7 rfl
 have hs1:It ii js k=true:=hs
 refine Ae [] 8 hS fun hS=>Av ?_
 have hfs:=bU mx A tx
 refine As [(5,AD k ((Mv mx A tx).length))] [7] 9 hS fun hS=>Ej ?_
 have hS:=hS.ch 8 (.ob 48 (chain [vi 0,vi (k:Int),lb (tx.getD k []),lb (frm mx (AA A k) k (tx.getD k []))])) (uA (((Mv mx A tx).getD k (rz [.int .i64,.int .i64,.sl (.int .u8),.sl (.int .u8)])).1) ((((Mv mx A tx).getD k (rz [.int .i64,.int .i64,.sl (.int .u8),.sl (.int .u8)])).2).1) (((((Mv mx A tx).getD k (rz [.int .i64,.int .i64,.sl (.int .u8),.sl (.int .u8)])).2).2).1) (((((Mv mx A tx).getD k (rz [.int .i64,.int .i64,.sl (.int .u8),.sl (.int .u8)])).2).2).2)) (by rw[AcS mx A hk.1]<;>rfl)
 refine Dj [] 9 hS fun hS=>Ab (Ax [(5,AD 0 2),(9,AP (IF n ii js k BF Ac Ac hs1))] [9] 10 hS fun hS=>Ax [(4,AD 1 2),(9,AM (T9 idb false B 0 A ii mx js k (tx.getD k []) rand hB hA Ac Ac hm hm2 hR Ac htk.1 htk.2 hr hs) [(0,4),(1,5),(2,6)] [(7,10),(8,11)])] [] 12 hS fun hS=>Av (Ae [] 12 hS fun hS=>Ai hS (DU (Ae [] 12 hS fun hS=>AO hS (Ax [(6,AD 0 2)] [] 12 hS fun hS=>Av ?_)))))
 have hq2:Dw (tx.getD k [])=Dw (tx.getD k []):=rfl
 have hq3:(k:Int)=(k:Int):=rfl
 refine As [(5,iX false [(!((Dw (tx.getD k [])).toList==(Dw (tx.getD k [])).toList))=false] ⟨by rw[beq_self_eq_true _];rfl,trivial⟩),(10,GH hq3)] [] 12 hS fun hS=>Ab (Ai hS (BP (Ax [(2,AM (eN A B mx n (nI ii k) (nJ ii js k) tx ida idb hA hB hm hm2 hR.next (by have :=nL ii k;omega) Ac) [(0,0),(1,1),(2,2),(3,3),(4,4),(5,10),(6,11),(7,7)] [])] [] 12 hS fun hS=>AR ?_)))
 obtain⟨gs,hS⟩:=hS.rx [(0,0),(1,1),(2,2),(3,3),(4,4),(5,5),(6,6),(7,7),(8,10),(9,11)] [6] [0,1,2,3,4,5,6,7,8,9] 10 hg0
 exact BW hS
end
end
end Go.Sx.Tryz
namespace Go.Sx.Tryz
open Go.Mi Go.RowKit Go.Sx Go.Proofs
noncomputable section
def sV (root:List Int):Con:=⟨[lb root,.v (.bool false)],[],.tu (chain [.cp 0 0,.v (.bool true)]),[(0,Aeq 1 4 (ints ([]:List Nat)) [] 7),(1,BU (N_ root) true false 2 3 [pM root] []),(2,C_ (AA (pA root) 0)),(3,C_ (pB root)),(4,BU (N_ root) false false 5 6 [pM root] (CK ([pM root]) (pA root) ([]:List Nat))),(5,C_ (pB root)),(6,C_ (AA (pA root) 0)),(7,.sl 48 [.int .i64,.int .i64,.sl (.int .u8),.sl (.int .u8)] (Mv ([pM root]) (pA root) ([]:List (List Int))))]⟩
theorem fI (root:List Int) (hr:root.length=32):ConOk Tryz.prog 12 (sV root):=by
 have h:=W0 root hr
 unfold Vd at h
 rw[W2]at h
 exact h
theorem mx1 {M:List Int} (h:M.length=32) (j:Nat):([M].getD j (rz [.sl (.int .u8)])).length≤32:=by
 show(List.getD (α:=List Int) [M] j []).length≤32
 match j with
 |0=>exact Nat.le_of_eq h
 |j+1=>simp
def zO:Con:=⟨[.v (.slice none 0 0),.v (.bool true),.v (.bool false)],[],.tu (chain [.v (.pointer none),vi 1]),[]⟩
theorem kM:ConOk Tryz.prog 23 (zO):=by
 exact cy 0 Tryz.func23 rfl Tryz.ntmps23 fun hg0 hS=>Ae [] 0 hS fun hS=>Av (Ae [] 0 hS fun hS=>AO hS (Ae [] 0 hS fun hS=>AR (Af (BW hS))))
section
variable (id ok:List Int) (oi:Nat) (ik:List Int) (ii:Nat) (mx:List (List Int)) (kl:List KR) (okb:List Int) (oib:Nat) (ikb:List Int) (iib:Nat) (klb:List KR)
def tL:Con:=⟨[.cp 0 0,.cp 3 0],[(0,BU id true false 1 2 mx kl),(1,Aj ok oi),(2,Aj ik ii),(3,BU id false false 4 5 mx klb),(4,Aj okb oib),(5,Aj ikb iib)],.v (.bool true),[(0,BU id true false 1 2 mx kl),(1,Aj ok oi),(2,Aj ik ii),(3,BU id false false 4 5 mx klb),(4,Aj okb oib),(5,Aj ikb iib)]⟩
theorem Tx (hm:mx.length=1):ConOk Tryz.prog 17 (tL id ok oi ik ii mx kl okb oib ikb iib klb):=by
 have h:=tX id ok oi ik ii 0 mx 0 0 kl id okb oib ikb iib 0 mx 0 0 klb ⟨by omega,by omega⟩ Ac ⟨by omega,by omega⟩ Ac
 have e:Vm id 0 mx id 0 mx=true:=by
  rw[MX];unfold Vl
  rw[if_pos rfl,if_neg Ac,if_neg Ac]
  exact decide_eq_true rfl
 unfold cT at h
 rw[e]at h
 exact h
end
theorem by1 {b:Int} (h:0≤b∧b<256):By [b]:=fun x hx=>by rw[List.mem_singleton.1 hx];exact h
section
variable (xs ys:List Int)
def Aal:Con:=⟨[.ls false [.int .i64] xs,.ls false [.int .i64] ys],[],.v (.bool true),[]⟩
theorem Ja (h:xs=ys):ConOk Tryz.prog 31 (Aal xs ys):=by
 have h2:=bN xs ys
 unfold sS at h2
 rw[decide_eq_true h]at h2
 exact h2
end
def AaI:Con:=⟨[],[],.v (.bool true),[]⟩
theorem Dz:ConOk Tryz.prog 11 (AaI):=by
 refine cy 0 Tryz.func11 rfl Tryz.ntmps11 fun hg0 hS=>Ae [] 0 hS fun hS=>Ax [(0,Vn .mf [(32:Int)=32,(0:Int)≤32,1*32≤281474976710656,(32:Int)≤9223372036854775807] ⟨rfl,by omega,by omega,by omega,trivial⟩),(1,AM (fI (List.replicate 32 (0:Int)) AE) [] [(0,0),(1,1),(2,2),(3,3),(4,4),(5,5),(6,6),(7,7)])] [] 8 hS fun hS=>Il ?_
 have hm2:=mx1 (YC (List.replicate 32 (0:Int)))
 have hq1:It 0 ([]:List Nat) 1=true:=rfl
 refine As [(4,Row),(5,O1 (0<[97].length) (by decide)),(6,AP (Dr 1)),(7,ID (Wq (pA (List.replicate 32 (0:Int))) (pB (List.replicate 32 (0:Int))) [pM (List.replicate 32 (0:Int))] 0 0 ([]:List Nat) ([]:List (List Int)) (N_ (List.replicate 32 (0:Int))) (N_ (List.replicate 32 (0:Int))) [97] (A1 1) (Qn _) (Qm _) rfl hm2 ⟨rfl,by decide⟩ (by decide) (by decide) (B7 _)) [(0,0),(1,1),(2,2),(3,3),(4,4),(5,5),(6,6),(7,7)] [(8,9)] [.cp 0 0,vi 0,lb ([97]:List Int),lb (A1 1)] [some (Aeq 1 4 (ints ([]:List Nat)) [] 7),some (BU (N_ (List.replicate 32 (0:Int))) true false 2 3 [pM (List.replicate 32 (0:Int))] []),some (C_ (AA (pA (List.replicate 32 (0:Int))) 0)),some (C_ (pB (List.replicate 32 (0:Int)))),some (BU (N_ (List.replicate 32 (0:Int))) false false 5 6 [pM (List.replicate 32 (0:Int))] (CK ([pM (List.replicate 32 (0:Int))]) (pA (List.replicate 32 (0:Int))) ([]:List Nat))),some (C_ (pB (List.replicate 32 (0:Int)))),some (C_ (AA (pA (List.replicate 32 (0:Int))) 0)),some (.sl 48 [.int .i64,.int .i64,.sl (.int .u8),.sl (.int .u8)] (Mv ([pM (List.replicate 32 (0:Int))]) (pA (List.replicate 32 (0:Int))) ([]:List (List Int))))]),(12,Row),(13,O1 (0<[98].length) (by decide)),(14,AP (Dr 2)),(15,ID (Wq (pA (List.replicate 32 (0:Int))) (pB (List.replicate 32 (0:Int))) [pM (List.replicate 32 (0:Int))] (0+1) 0 ([]:List Nat) (([]:List (List Int))++[[97]]) (N_ (List.replicate 32 (0:Int))) (N_ (List.replicate 32 (0:Int))) [98] (A1 2) (Qn _) (Qm _) rfl hm2 ⟨rfl,by decide⟩ (by decide) (by decide) (B7 _)) [(0,0),(1,1),(2,2),(3,3),(4,4),(5,5),(6,6),(7,9)] [(8,11)] [.cp 0 0,vi 0,lb ([98]:List Int),lb (A1 2)] [some (.ob 39 (chain [.cp 1 0,.cp 4 0,vi ((0+1:Nat):Int),vi 0,.ls false [.int .i64] (ints ([]:List Nat)),vi 0,vi 0,.ls false [.int .i64] [],.sk 9])),some (BU (N_ (List.replicate 32 (0:Int))) true false 2 3 [pM (List.replicate 32 (0:Int))] []),some (Aj (AA (pA (List.replicate 32 (0:Int))) (0+1)) (0+1)),some (C_ (pB (List.replicate 32 (0:Int)))),some (BU (N_ (List.replicate 32 (0:Int))) false false 5 6 [pM (List.replicate 32 (0:Int))] (CK [pM (List.replicate 32 (0:Int))] (pA (List.replicate 32 (0:Int))) ([]:List Nat))),some (C_ (pB (List.replicate 32 (0:Int)))),some (C_ (AA (pA (List.replicate 32 (0:Int))) 0)),some (.sl 48 [.int .i64,.int .i64,.sl (.int .u8),.sl (.int .u8)] (Mv [pM (List.replicate 32 (0:Int))] (pA (List.replicate 32 (0:Int))) (([]:List (List Int))++[[97]])))]),(20,AP (Dr 3)),(21,ID (mY (pA (List.replicate 32 (0:Int))) (pB (List.replicate 32 (0:Int))) [pM (List.replicate 32 (0:Int))] ((0+1)+1) 0 ([]:List Nat) ((([]:List (List Int))++[[97]])++[[98]]) (N_ (List.replicate 32 (0:Int))) (N_ (List.replicate 32 (0:Int))) 1 (A1 3) (Qn _) (Qm _) rfl hm2 RI.nil (by decide) (by decide) ⟨by decide,by decide⟩ ⟨by decide,by have :=by1 (b:=98) ⟨by decide,by decide⟩;simpa using this⟩ (B7 _) hq1) [(0,0),(1,1),(2,2),(3,3),(4,4),(5,5),(6,6),(7,11)] [(8,12),(9,13)] [.cp 0 0,vi 1,lb (A1 3)] [some (.ob 39 (chain [.cp 1 0,.cp 4 0,vi (((0+1)+1:Nat):Int),vi 0,.ls false [.int .i64] (ints ([]:List Nat)),vi 0,vi 0,.ls false [.int .i64] [],.sk 11])),some (BU (N_ (List.replicate 32 (0:Int))) true false 2 3 [pM (List.replicate 32 (0:Int))] []),some (Aj (AA (pA (List.replicate 32 (0:Int))) ((0+1)+1)) ((0+1)+1)),some (C_ (pB (List.replicate 32 (0:Int)))),some (BU (N_ (List.replicate 32 (0:Int))) false false 5 6 [pM (List.replicate 32 (0:Int))] (CK [pM (List.replicate 32 (0:Int))] (pA (List.replicate 32 (0:Int))) ([]:List Nat))),some (C_ (pB (List.replicate 32 (0:Int)))),some (C_ (AA (pA (List.replicate 32 (0:Int))) 0)),some (.sl 48 [.int .i64,.int .i64,.sl (.int .u8),.sl (.int .u8)] (Mv [pM (List.replicate 32 (0:Int))] (pA (List.replicate 32 (0:Int))) ((([]:List (List Int))++[[97]])++[[98]])))])] [] 14 hS fun hS=>Ab (Ai hS (BP (Ax [(0,AP (kM))] [] 14 hS fun hS=>Av ?_)))
 have hR5:RI (nI 0 1) (nJ 0 ([]:List Nat) 1):=RI.nil.next
 exact As [(3,AD 1 2),(5,AM (JD (N_ (List.replicate 32 (0:Int))) false (pB (List.replicate 32 (0:Int))) 0 (pA (List.replicate 32 (0:Int))) (nI 0 1) [pM (List.replicate 32 (0:Int))] (nJ 0 ([]:List Nat) 1) hR5 (by decide)) [(0,4),(1,12),(2,13)] []),(7,AP (Ja (ints (nJ 0 ([]:List Nat) 1)) [0] rfl)),(16,AD 0 2),(21,AD 1 2),(23,ID (Tx (N_ (List.replicate 32 (0:Int))) (AA (pA (List.replicate 32 (0:Int))) ((0+1)+1)) ((0+1)+1) (pB (List.replicate 32 (0:Int))) 0 [pM (List.replicate 32 (0:Int))] ([]:List KR) (pB (List.replicate 32 (0:Int))) 0 (AA (pA (List.replicate 32 (0:Int))) (nI 0 1)) (nI 0 1) (CK [pM (List.replicate 32 (0:Int))] (pA (List.replicate 32 (0:Int))) (nJ 0 ([]:List Nat) 1)) (by first |assumption|rfl)) [(0,1),(1,2),(2,3),(3,4),(4,12),(5,13)] [] [.cp 1 0,.cp 4 0] [some (BU (N_ (List.replicate 32 (0:Int))) true false 2 3 [pM (List.replicate 32 (0:Int))] []),some (Aj (AA (pA (List.replicate 32 (0:Int))) ((0+1)+1)) ((0+1)+1)),some (C_ (pB (List.replicate 32 (0:Int)))),some (BU (N_ (List.replicate 32 (0:Int))) false false 12 13 [pM (List.replicate 32 (0:Int))] (CK [pM (List.replicate 32 (0:Int))] (pA (List.replicate 32 (0:Int))) (nJ 0 ([]:List Nat) 1))),some (C_ (pB (List.replicate 32 (0:Int)))),some (Aj (AA (pA (List.replicate 32 (0:Int))) (nI 0 1)) (nI 0 1))])] [] 14 hS fun hS=>DX (BW hS)
end
end Go.Sx.Tryz
namespace Go.Sx.Tryz
open Go.Mi Go.RowKit Go.Sx Go.Proofs
noncomputable section
structure EOk (fi:Bool) (e:EndH):Prop extends SndOk fi e where
 K:Of e.kl
 ll:e.low≤e.last∧e.last≤20000000
 td:e.told≤20000000
 rln:e.rln=(if e.st=1 then 1088 else 1184)
 rid:e.rid=(if e.st=1 then 2*e.ep+1 else 2*e.ep)
 bx:e.bx.length=2
structure XS (id:List Int) (fi:Bool) (e:EndH) (xs rand:List Int) (e2:EndH) (text:List Int) (n:Nat):Prop where
 same:e2.ok=e.ok∧e2.oi=e.oi
 ex:∃pid pa d,XU e.st e.ep e.sd e.tx e.bx ((Aa xs).2.2.2.2.1) pid pa d∧HX id fi e.ok e.oi e.ik e.ii e.low e.mx e.last e.told e.kl e.st e.ep e.at_ e.sd e.tx e.rid e.rln e.bx xs=true∧Ba id fi e.ok e.oi e.ik e.ii e.low e.mx e.last e.told e.kl e.st e.ep e.at_ e.sd e.tx e.rid e.rln e.bx xs rand pid pa d=(e2.ik,e2.ii,e2.st,e2.ep,e2.at_,e2.sd,e2.tx,e2.rid,e2.rln,e2.bx,e2.low,e2.mx,e2.last,e2.told,e2.kl,text,n)
section
variable (id:List Int) (fi:Bool) (e:EndH) (xs rand:List Int) (e2:EndH) (text:List Int) (n:Nat)
def sC:Con:=⟨[.cp 0 0,lb xs,lb rand],[(0,Cm id fi true 1 2 3 e.low e.mx e.last e.told e.kl),(1,Aj e.ok e.oi),(2,Aj e.ik e.ii),(3,Bd e.st e.ep e.at_ e.sd e.tx 4),(4,BM e.rid e.rln e.bx)],.tu (chain [lb text,vi (n:Int),vi 0]),[(0,Cm id fi true 9 10 11 e2.low e2.mx e2.last e2.told e2.kl),(1,Aj e.ok e.oi),(2,Aj e.ik e.ii),(3,Bd e.st e.ep e.at_ e.sd e.tx 4),(4,BM e.rid e.rln e.bx),(9,Aj e2.ok e2.oi),(10,Aj e2.ik e2.ii),(11,Bd e2.st e2.ep e2.at_ e2.sd e2.tx 17),(17,BM e2.rid e2.rln e2.bx)]⟩
theorem aL (hE:EOk fi e) (hG:XS id fi e xs rand e2 text n) (hf:xs.length≤50000) (hr:rand.length=128):ConOk Tryz.prog 19 (sC id fi e xs rand e2 text n):=by
 obtain⟨pid,pa,d,h1,h2,h3⟩:=hG.ex
 have h:=Wc id fi e.ok e.oi e.ik e.ii e.low e.mx e.last e.told e.kl e.st e.ep e.at_ e.sd e.tx e.rid e.rln e.bx xs rand pid pa d hE.ok hE.ik (by have :=hE.oi;omega) (by have :=hE.ii;omega) ⟨hE.m1.1,by have :=hE.m1.2;omega⟩ hE.m2 (by have :=hE.low;omega) hE.K ⟨hE.ll.1,by have :=hE.ll.2;omega⟩ (by have :=hE.td;omega) hE.mn hE.st hE.rln hE.rid hE.bx (by have :=hE.ep;omega) (fun _ _ _=>h1) hf hr h2
 unfold Ro at h
 rw[h3]at h
 unfold sC
 rw[hG.same.1,hG.same.2]
 exact h
end
def NO (e:EndH) (x12:Nat):(List Int)→(List Int):=fun x2=>x2++[((e.kl.getD x12 (rz [.int .i64,.int .i64,.sl (.sl (.int .u8))])).1)]
def Hj (e:EndH):Nat→(List Int)
 |0=>[]
 |x12+1=>NO e x12 (Hj e x12)
section
variable (id:List Int) (fi:Bool) (e:EndH)
def PI (id:List Int) (fi:Bool) (e:EndH):(List Int):=Hj e e.kl.length
def IN:(List Int):=AJ (PI id fi e)
theorem VW:IN id fi e=PI id fi e:=Ag _
def rU (z_:(List Int):=IN id fi e):Con:=⟨[.cp 0 0],[(0,Cm id fi true 1 2 3 e.low e.mx e.last e.told e.kl),(1,Aj e.ok e.oi),(2,Aj e.ik e.ii),(3,Bd e.st e.ep e.at_ e.sd e.tx 4),(4,BM e.rid e.rln e.bx)],.sk 5,[(0,Cm id fi true 1 2 3 e.low e.mx e.last e.told e.kl),(1,Aj e.ok e.oi),(2,Aj e.ik e.ii),(3,Bd e.st e.ep e.at_ e.sd e.tx 4),(4,BM e.rid e.rln e.bx),(5,.sl 3 [.int .i64] z_)]⟩
theorem dW (hK:Of e.kl):ConOk Tryz.prog 21 (rU id fi e):=by
 refine cy 5 Tryz.func21 rfl Tryz.ntmps21 fun hg0 hS=>Ae [] 5 hS fun hS=>Av (Ax [(1,IB (BR) [0,1] [.im (chain [.top,.top,.top,.im (chain []) 0,.top,.top,.top,.top,.top,.top,.top]) 0])] [] 5 hS fun hS=>Ai hS (DU (Ae [10] 5 hS fun hS=>Br ?_)))
 obtain⟨gs,hS⟩:=hS.nilk 2 3 [.int .i64]
 refine Ar (ι:=Nat×(List Int)) hg0 hS (fun(x12,x2)=>(e.kl.length-x12,[(12,vi ((x12:Nat):Int))],[(5,.sl 3 [.int .i64] x2)],(x12≤e.kl.length)∧(x2=Hj e x12)∧(x2.length=x12∧e.kl.length≤1000)∧True)) [2,10,11] [0,1,2,3,4] 6 (0,[]) [(0,0),(1,1),(2,2),(3,3),(4,4),(5,5)] ⟨Ac,rfl,⟨rfl,hK.1⟩,trivial⟩ ?_
 rintro⟨x12,x2⟩ ac gs ws ⟨hx12,hq1,p1,_⟩ hS
 refine Ae [] 6 hS fun hS=>Av (AB ((x12:Int)<((e.kl.length:Nat):Int)) hS (fun h1=> ?_) (fun h1=> ?_))
 ·exact BE (Ax [(0,AD x12 e.kl.length)] [4] 7 hS fun hS=>As [(4,FW x2.length 1 8)] [2] 8 hS fun hS=>BV (As [(0,BH x12)] [12] 8 hS fun hS=>Ab (Al hg0 hS (x12+1,x2++[((e.kl.getD x12 (rz [.int .i64,.int .i64,.sl (.sl (.int .u8))])).1)]) [(0,0),(1,1),(2,2),(3,3),(4,4),(5,7)] ⟨Ac,(A3 (st:=NO _) hq1 rfl rfl),(by rw[List.length_append,List.length_cons,List.length_nil];omega),trivial⟩)))
 ·have hT:=hS
  obtain rfl:e.kl.length=x12:=by omega
  obtain rfl:=hq1.symm
  have hS:=hT
  exact CO (Ae [2] 6 hS fun hS=>AR (Bi (VW ..) hS))
theorem Yi:IN id fi e=Vu e.kl:=by
 have key:∀n,n≤e.kl.length→Hj e n=Vu (e.kl.take n):=by
  intro n
  induction n with
  |zero=>intro _;rfl
  |succ n ih=>
   intro hn
   show Hj e n++[(e.kl.getD n kz).1]=_
   rw[ih Ac,List.take_succ_eq_append_getElem Ac,List.getD_eq_getElem?_getD,List.getElem?_eq_getElem Ac]
   unfold Vu
   rw[List.map_append];rfl
 rw[VW];unfold PI
 rw[key _ (Nat.le_refl _),List.take_length]
def Tv:Con:=⟨[.cp 0 0],[(0,Cm id fi true 1 2 3 e.low e.mx e.last e.told e.kl),(1,Aj e.ok e.oi),(2,Aj e.ik e.ii),(3,Bd e.st e.ep e.at_ e.sd e.tx 4),(4,BM e.rid e.rln e.bx)],.ls false [.int .i64] (IN id fi e),[(0,Cm id fi true 1 2 3 e.low e.mx e.last e.told e.kl),(1,Aj e.ok e.oi),(2,Aj e.ik e.ii),(3,Bd e.st e.ep e.at_ e.sd e.tx 4),(4,BM e.rid e.rln e.bx)]⟩
theorem Yh (hK:Of e.kl):ConOk Tryz.prog 21 (Tv id fi e):=ConOk.frz [(0,Cm id fi true 1 2 3 e.low e.mx e.last e.told e.kl),(1,Aj e.ok e.oi),(2,Aj e.ik e.ii),(3,Bd e.st e.ep e.at_ e.sd e.tx 4),(4,BM e.rid e.rln e.bx)] 5 3 [.int .i64] (IN id fi e) (dW id fi e hK) (by kernel_rfl)
def rW:Con:=⟨[.cp 0 0],[(0,Cm id fi true 1 2 3 e.low e.mx e.last e.told e.kl),(1,Aj e.ok e.oi),(2,Aj e.ik e.ii),(3,Bd e.st e.ep e.at_ e.sd e.tx 4),(4,BM e.rid e.rln e.bx)],.ls false [.int .i64] (Vu e.kl),[(0,Cm id fi true 1 2 3 e.low e.mx e.last e.told e.kl),(1,Aj e.ok e.oi),(2,Aj e.ik e.ii),(3,Bd e.st e.ep e.at_ e.sd e.tx 4),(4,BM e.rid e.rln e.bx)]⟩
theorem Se (hK:Of e.kl):ConOk Tryz.prog 21 (rW id fi e):=by
 have h:=Yh id fi e hK
 unfold Tv at h
 rw[Yi]at h
 exact h
end
section
variable (a b:EndH) (ida idb:List Int) (sa ia:Nat) (ja:List Nat) (sb ib:Nat) (jb:List Nat) (fl:List (Int×Int×List Int×List Int))
def AdJ:Con:=Cq [.cp 0 0,vi 1] [(0,F9 1 6 sa ia (ints ja) sb ib (ints jb) 11),(1,Cm ida true true 2 3 4 a.low a.mx a.last a.told a.kl),(2,Aj a.ok a.oi),(3,Aj a.ik a.ii),(4,Bd a.st a.ep a.at_ a.sd a.tx 5),(5,BM a.rid a.rln a.bx),(6,Cm idb false true 7 8 9 b.low b.mx b.last b.told b.kl),(7,Aj b.ok b.oi),(8,Aj b.ik b.ii),(9,Bd b.st b.ep b.at_ b.sd b.tx 10),(10,BM b.rid b.rln b.bx),(11,.sl 48 [.int .i64,.int .i64,.sl (.int .u8),.sl (.int .u8)] fl)] (.v (.bool true))
theorem v8 (hK:Of b.kl) (hI:b.ii=ia) (hJ:Vu b.kl=ints ja):ConOk Tryz.prog 27 (AdJ a b ida idb sa ia ja sb ib jb fl):=by
 refine cy 12 Tryz.func27 rfl Tryz.ntmps27 fun hg0 hS=> ?_
 have Ms:fl.length≤9223372036854775807:=hS.lens 11 rfl
 refine Ae [] 12 hS fun hS=>Ax [(5,AD 0 2)] [5] 13 hS fun hS=>Av ?_
 have hq1:((b.ii:Nat):Int)=(ia:Int):=(by rw[hI])
 exact As [(4,AD 1 2),(6,AM (Sc idb false b.ok b.oi b.ik b.ii b.low b.mx b.last b.told b.kl b.st b.ep b.at_ b.sd b.tx b.rid b.rln b.bx) [(0,6),(1,7),(2,8),(3,9),(4,10)] []),(9,GG hq1),(15,AD 1 2),(17,AM (Se idb false b BF) [(0,6),(1,7),(2,8),(3,9),(4,10)] []),(20,AP (Ja (Vu b.kl) (ints ja) hJ))] [] 13 hS fun hS=>DX (BW hS)
def AdK:Con:=Cq [.cp 0 0,vi 0] [(0,F9 1 6 sa ia (ints ja) sb ib (ints jb) 11),(1,Cm ida true true 2 3 4 a.low a.mx a.last a.told a.kl),(2,Aj a.ok a.oi),(3,Aj a.ik a.ii),(4,Bd a.st a.ep a.at_ a.sd a.tx 5),(5,BM a.rid a.rln a.bx),(6,Cm idb false true 7 8 9 b.low b.mx b.last b.told b.kl),(7,Aj b.ok b.oi),(8,Aj b.ik b.ii),(9,Bd b.st b.ep b.at_ b.sd b.tx 10),(10,BM b.rid b.rln b.bx),(11,.sl 48 [.int .i64,.int .i64,.sl (.int .u8),.sl (.int .u8)] fl)] (.v (.bool true))
theorem v9 (hK:Of a.kl) (hI:a.ii=ib) (hJ:Vu a.kl=ints jb):ConOk Tryz.prog 27 (AdK a b ida idb sa ia ja sb ib jb fl):=by
 refine cy 12 Tryz.func27 rfl Tryz.ntmps27 fun hg0 hS=> ?_
 have Ms:fl.length≤9223372036854775807:=hS.lens 11 rfl
 refine Ae [] 12 hS fun hS=>Ax [(5,AD 1 2)] [5] 13 hS fun hS=>Av ?_
 have hq1:((a.ii:Nat):Int)=(ib:Int):=(by rw[hI])
 exact As [(4,AD 0 2),(6,AM (Sc ida true a.ok a.oi a.ik a.ii a.low a.mx a.last a.told a.kl a.st a.ep a.at_ a.sd a.tx a.rid a.rln a.bx) [(0,1),(1,2),(2,3),(3,4),(4,5)] []),(9,GG hq1),(15,AD 0 2),(17,AM (Se ida true a BF) [(0,1),(1,2),(2,3),(3,4),(4,5)] []),(20,AP (Ja (Vu a.kl) (ints jb) hJ))] [] 13 hS fun hS=>DX (BW hS)
end
end
end Go.Sx.Tryz
namespace Go.Sx.Tryz
open Go.Mi Go.RowKit Go.Sx Go.Proofs
noncomputable section
section
variable (p:PS)
def PS.dlvA (e2:EndH) (n:Nat):PS:={p with b:=e2,ia:=nI p.ia n,ja:=nJ p.ia p.ja n}
def PS.dlvB (e2:EndH) (n:Nat):PS:={p with a:=e2,ib:=nI p.ib n,jb:=nJ p.ib p.jb n}
def AdN (k:Nat) (rand:List Int) (n:Nat) (text fr:List Int) (e2:EndH):Con:=⟨[.cp 0 0,vi (k:Int),lb rand],[(0,F9 1 6 p.na p.ia (ints p.ja) p.nb p.ib (ints p.jb) 11),(1,Cm p.ida true true 2 3 4 p.a.low p.a.mx p.a.last p.a.told p.a.kl),(2,Aj p.a.ok p.a.oi),(3,Aj p.a.ik p.a.ii),(4,Bd p.a.st p.a.ep p.a.at_ p.a.sd p.a.tx 5),(5,BM p.a.rid p.a.rln p.a.bx),(6,Cm p.idb false true 7 8 9 p.b.low p.b.mx p.b.last p.b.told p.b.kl),(7,Aj p.b.ok p.b.oi),(8,Aj p.b.ik p.b.ii),(9,Bd p.b.st p.b.ep p.b.at_ p.b.sd p.b.tx 10),(10,BM p.b.rid p.b.rln p.b.bx),(11,.sl 48 [.int .i64,.int .i64,.sl (.int .u8),.sl (.int .u8)] p.fl)],.v (.bool true),[(0,F9 1 6 ((p.dlvA e2 n).na) ((p.dlvA e2 n).ia) (ints (p.dlvA e2 n).ja) ((p.dlvA e2 n).nb) ((p.dlvA e2 n).ib) (ints (p.dlvA e2 n).jb) 11),(1,Cm ((p.dlvA e2 n).ida) true true 2 3 4 ((p.dlvA e2 n).a.low) ((p.dlvA e2 n).a.mx) ((p.dlvA e2 n).a.last) ((p.dlvA e2 n).a.told) ((p.dlvA e2 n).a.kl)),(2,Aj ((p.dlvA e2 n).a.ok) ((p.dlvA e2 n).a.oi)),(3,Aj ((p.dlvA e2 n).a.ik) ((p.dlvA e2 n).a.ii)),(4,Bd ((p.dlvA e2 n).a.st) ((p.dlvA e2 n).a.ep) ((p.dlvA e2 n).a.at_) ((p.dlvA e2 n).a.sd) ((p.dlvA e2 n).a.tx) 5),(5,BM ((p.dlvA e2 n).a.rid) ((p.dlvA e2 n).a.rln) ((p.dlvA e2 n).a.bx)),(6,Cm ((p.dlvA e2 n).idb) false true 12 13 14 ((p.dlvA e2 n).b.low) ((p.dlvA e2 n).b.mx) ((p.dlvA e2 n).b.last) ((p.dlvA e2 n).b.told) ((p.dlvA e2 n).b.kl)),(7,Aj p.b.ok p.b.oi),(8,Aj p.b.ik p.b.ii),(9,Bd p.b.st p.b.ep p.b.at_ p.b.sd p.b.tx 10),(10,BM p.b.rid p.b.rln p.b.bx),(11,.sl 48 [.int .i64,.int .i64,.sl (.int .u8),.sl (.int .u8)] ((p.dlvA e2 n).fl)),(12,Aj ((p.dlvA e2 n).b.ok) ((p.dlvA e2 n).b.oi)),(13,Aj ((p.dlvA e2 n).b.ik) ((p.dlvA e2 n).b.ii)),(14,Bd ((p.dlvA e2 n).b.st) ((p.dlvA e2 n).b.ep) ((p.dlvA e2 n).b.at_) ((p.dlvA e2 n).b.sd) ((p.dlvA e2 n).b.tx) 15),(15,BM ((p.dlvA e2 n).b.rid) ((p.dlvA e2 n).b.rln) ((p.dlvA e2 n).b.bx))]⟩
theorem wF (k:Nat) (rand:List Int) (n:Nat) (text fr:List Int) (e2:EndH) (hE:EOk false p.b) (hG:XS p.idb false p.b fr rand e2 text n) (hf:fr.length≤50000) (hr:rand.length=128) (hrow:p.fl.getD k (rz [.int .i64,.int .i64,.sl (.int .u8),.sl (.int .u8)])=((0:Int),(n:Int),text,fr)) (hk:k<p.fl.length∧k<1000000) (hR:RI p.ia p.ja) (hn:n≤1000000∧p.ia≤1000000) (hs:It p.ia p.ja n=true) (hI:e2.ii=nI p.ia n) (hJ:Vu e2.kl=ints (nJ p.ia p.ja n)) (hK2:Of e2.kl):ConOk Tryz.prog 16 (AdN p k rand n text fr e2):=by
 refine cy 12 Tryz.func16 rfl Tryz.ntmps16 fun hg0 hS=> ?_
 have B2:rand.length≤9223372036854775807:=hS.len 2 rfl
 have Ms:p.fl.length≤9223372036854775807:=hS.lens 11 rfl
 have hs1:It p.ia p.ja n=true:=hs
 refine Ae [] 12 hS fun hS=>Ax [(5,AD k p.fl.length)] [7] 13 hS fun hS=>Av ?_
 have hS:=hS.ch 12 (.ob 48 (chain [vi 0,vi (n:Int),lb text,lb fr])) (uA ((p.fl.getD k (rz [.int .i64,.int .i64,.sl (.int .u8),.sl (.int .u8)])).1) (((p.fl.getD k (rz [.int .i64,.int .i64,.sl (.int .u8),.sl (.int .u8)])).2).1) ((((p.fl.getD k (rz [.int .i64,.int .i64,.sl (.int .u8),.sl (.int .u8)])).2).2).1) ((((p.fl.getD k (rz [.int .i64,.int .i64,.sl (.int .u8),.sl (.int .u8)])).2).2).2)) (by rw[hrow]<;>rfl)
 refine Dj [] 13 hS fun hS=>Ab (Ax [(5,AD 0 2),(9,AP (IF p.na p.ia p.ja n BF Ac Ac hs1))] [9] 14 hS fun hS=>Ax [(4,AD 1 2),(9,AM (aL p.idb false p.b fr rand e2 text n hE hG hf hr) [(0,6),(1,7),(2,8),(3,9),(4,10)] [(9,14),(10,15),(11,16),(17,17)])] [] 18 hS fun hS=>Av (Ae [] 18 hS fun hS=>Ai hS (DU (Ae [] 18 hS fun hS=>AO hS (Ax [(6,AD 0 2)] [] 18 hS fun hS=>Av ?_)))))
 have hq2:Dw text=Dw text:=rfl
 have hq3:(n:Int)=(n:Int):=rfl
 refine As [(5,iX false [(!((Dw text).toList==(Dw text).toList))=false] ⟨by rw[beq_self_eq_true _];rfl,trivial⟩),(10,GH hq3)] [] 18 hS fun hS=>Ab (Ai hS (BP (Ax [(2,AM (v8 p.a e2 p.ida p.idb p.na (nI p.ia n) (nJ p.ia p.ja n) p.nb p.ib p.jb p.fl hK2 hI hJ) [(0,0),(1,1),(2,2),(3,3),(4,4),(5,5),(6,6),(7,14),(8,15),(9,16),(10,17),(11,11)] [])] [] 18 hS fun hS=>AR ?_)))
 obtain⟨gs,hS⟩:=hS.rx [(0,0),(1,1),(2,2),(3,3),(4,4),(5,5),(6,6),(7,7),(8,8),(9,9),(10,10),(11,11),(12,14),(13,15),(14,16),(15,17)] [6] [0,1,2,3,4,5,6,7,8,9,10,11,12,13,14,15] 16 hg0
 exact BW hS
def AdM (k:Nat) (rand:List Int) (n:Nat) (text fr:List Int) (e2:EndH):Con:=⟨[.cp 0 0,vi (k:Int),lb rand],[(0,F9 1 6 p.na p.ia (ints p.ja) p.nb p.ib (ints p.jb) 11),(1,Cm p.ida true true 2 3 4 p.a.low p.a.mx p.a.last p.a.told p.a.kl),(2,Aj p.a.ok p.a.oi),(3,Aj p.a.ik p.a.ii),(4,Bd p.a.st p.a.ep p.a.at_ p.a.sd p.a.tx 5),(5,BM p.a.rid p.a.rln p.a.bx),(6,Cm p.idb false true 7 8 9 p.b.low p.b.mx p.b.last p.b.told p.b.kl),(7,Aj p.b.ok p.b.oi),(8,Aj p.b.ik p.b.ii),(9,Bd p.b.st p.b.ep p.b.at_ p.b.sd p.b.tx 10),(10,BM p.b.rid p.b.rln p.b.bx),(11,.sl 48 [.int .i64,.int .i64,.sl (.int .u8),.sl (.int .u8)] p.fl)],.v (.bool true),[(0,F9 1 6 ((p.dlvB e2 n).na) ((p.dlvB e2 n).ia) (ints (p.dlvB e2 n).ja) ((p.dlvB e2 n).nb) ((p.dlvB e2 n).ib) (ints (p.dlvB e2 n).jb) 11),(1,Cm ((p.dlvB e2 n).ida) true true 12 13 14 ((p.dlvB e2 n).a.low) ((p.dlvB e2 n).a.mx) ((p.dlvB e2 n).a.last) ((p.dlvB e2 n).a.told) ((p.dlvB e2 n).a.kl)),(2,Aj p.a.ok p.a.oi),(3,Aj p.a.ik p.a.ii),(4,Bd p.a.st p.a.ep p.a.at_ p.a.sd p.a.tx 5),(5,BM p.a.rid p.a.rln p.a.bx),(6,Cm ((p.dlvB e2 n).idb) false true 7 8 9 ((p.dlvB e2 n).b.low) ((p.dlvB e2 n).b.mx) ((p.dlvB e2 n).b.last) ((p.dlvB e2 n).b.told) ((p.dlvB e2 n).b.kl)),(7,Aj ((p.dlvB e2 n).b.ok) ((p.dlvB e2 n).b.oi)),(8,Aj ((p.dlvB e2 n).b.ik) ((p.dlvB e2 n).b.ii)),(9,Bd ((p.dlvB e2 n).b.st) ((p.dlvB e2 n).b.ep) ((p.dlvB e2 n).b.at_) ((p.dlvB e2 n).b.sd) ((p.dlvB e2 n).b.tx) 10),(10,BM ((p.dlvB e2 n).b.rid) ((p.dlvB e2 n).b.rln) ((p.dlvB e2 n).b.bx)),(11,.sl 48 [.int .i64,.int .i64,.sl (.int .u8),.sl (.int .u8)] ((p.dlvB e2 n).fl)),(12,Aj ((p.dlvB e2 n).a.ok) ((p.dlvB e2 n).a.oi)),(13,Aj ((p.dlvB e2 n).a.ik) ((p.dlvB e2 n).a.ii)),(14,Bd ((p.dlvB e2 n).a.st) ((p.dlvB e2 n).a.ep) ((p.dlvB e2 n).a.at_) ((p.dlvB e2 n).a.sd) ((p.dlvB e2 n).a.tx) 15),(15,BM ((p.dlvB e2 n).a.rid) ((p.dlvB e2 n).a.rln) ((p.dlvB e2 n).a.bx))]⟩
theorem wE (k:Nat) (rand:List Int) (n:Nat) (text fr:List Int) (e2:EndH) (hE:EOk true p.a) (hG:XS p.ida true p.a fr rand e2 text n) (hf:fr.length≤50000) (hr:rand.length=128) (hrow:p.fl.getD k (rz [.int .i64,.int .i64,.sl (.int .u8),.sl (.int .u8)])=((1:Int),(n:Int),text,fr)) (hk:k<p.fl.length∧k<1000000) (hR:RI p.ib p.jb) (hn:n≤1000000∧p.ib≤1000000) (hs:It p.ib p.jb n=true) (hI:e2.ii=nI p.ib n) (hJ:Vu e2.kl=ints (nJ p.ib p.jb n)) (hK2:Of e2.kl):ConOk Tryz.prog 16 (AdM p k rand n text fr e2):=by
 refine cy 12 Tryz.func16 rfl Tryz.ntmps16 fun hg0 hS=> ?_
 have B2:rand.length≤9223372036854775807:=hS.len 2 rfl
 have Ms:p.fl.length≤9223372036854775807:=hS.lens 11 rfl
 have hs1:It p.ib p.jb n=true:=hs
 refine Ae [] 12 hS fun hS=>Ax [(5,AD k p.fl.length)] [7] 13 hS fun hS=>Av ?_
 have hS:=hS.ch 12 (.ob 48 (chain [vi 1,vi (n:Int),lb text,lb fr])) (uA ((p.fl.getD k (rz [.int .i64,.int .i64,.sl (.int .u8),.sl (.int .u8)])).1) (((p.fl.getD k (rz [.int .i64,.int .i64,.sl (.int .u8),.sl (.int .u8)])).2).1) ((((p.fl.getD k (rz [.int .i64,.int .i64,.sl (.int .u8),.sl (.int .u8)])).2).2).1) ((((p.fl.getD k (rz [.int .i64,.int .i64,.sl (.int .u8),.sl (.int .u8)])).2).2).2)) (by rw[hrow]<;>rfl)
 refine Dj [] 13 hS fun hS=>Ab (Ax [(5,AD 1 2),(9,AP (IF p.nb p.ib p.jb n BF Ac Ac hs1))] [9] 14 hS fun hS=>Ax [(4,AD 0 2),(9,AM (aL p.ida true p.a fr rand e2 text n hE hG hf hr) [(0,1),(1,2),(2,3),(3,4),(4,5)] [(9,14),(10,15),(11,16),(17,17)])] [] 18 hS fun hS=>Av (Ae [] 18 hS fun hS=>Ai hS (DU (Ae [] 18 hS fun hS=>AO hS (Ax [(6,AD 1 2)] [] 18 hS fun hS=>Av ?_)))))
 have hq2:Dw text=Dw text:=rfl
 have hq3:(n:Int)=(n:Int):=rfl
 refine As [(5,iX false [(!((Dw text).toList==(Dw text).toList))=false] ⟨by rw[beq_self_eq_true _];rfl,trivial⟩),(10,GH hq3)] [] 18 hS fun hS=>Ab (Ai hS (BP (Ax [(2,AM (v9 e2 p.b p.ida p.idb p.na p.ia p.ja p.nb (nI p.ib n) (nJ p.ib p.jb n) p.fl hK2 hI hJ) [(0,0),(1,1),(2,14),(3,15),(4,16),(5,17),(6,6),(7,7),(8,8),(9,9),(10,10),(11,11)] [])] [] 18 hS fun hS=>AR ?_)))
 obtain⟨gs,hS⟩:=hS.rx [(0,0),(1,1),(2,2),(3,3),(4,4),(5,5),(6,6),(7,7),(8,8),(9,9),(10,10),(11,11),(12,14),(13,15),(14,16),(15,17)] [6] [0,1,2,3,4,5,6,7,8,9,10,11,12,13,14,15] 16 hg0
 exact BW hS
end
end
end Go.Sx.Tryz
namespace Go.Sx.Tryz
open Go.Mi Go.RowKit Go.Sx Go.Proofs
noncomputable section
def GJ (root:List Int):PS where
 ida:=N_ root
 idb:=N_ root
 a:=⟨pA root,0,pB root,0,0,[pM root],0,0,[],1,0,0,[],[],2*0+1,1088,List.replicate (((1088+1000)-1)/1000) none⟩
 b:=⟨pB root,0,pA root,0,0,[pM root],0,0,[],2,0,0,[],[],2*0,1184,List.replicate (((1184+1000)-1)/1000) none⟩
 na:=0
 ia:=0
 ja:=[]
 nb:=0
 ib:=0
 jb:=[]
 fl:=[]
def g8 (root:List Int):Con:=⟨[lb root,.v (.bool true)],[],.tu (chain [.cp 0 0,.v (.bool true)]),[(0,F9 1 6 ((GJ root).na) ((GJ root).ia) (ints (GJ root).ja) ((GJ root).nb) ((GJ root).ib) (ints (GJ root).jb) 11),(1,Cm ((GJ root).ida) true true 2 3 4 ((GJ root).a.low) ((GJ root).a.mx) ((GJ root).a.last) ((GJ root).a.told) ((GJ root).a.kl)),(2,Aj ((GJ root).a.ok) ((GJ root).a.oi)),(3,Aj ((GJ root).a.ik) ((GJ root).a.ii)),(4,Bd ((GJ root).a.st) ((GJ root).a.ep) ((GJ root).a.at_) ((GJ root).a.sd) ((GJ root).a.tx) 5),(5,BM ((GJ root).a.rid) ((GJ root).a.rln) ((GJ root).a.bx)),(6,Cm ((GJ root).idb) false true 7 8 9 ((GJ root).b.low) ((GJ root).b.mx) ((GJ root).b.last) ((GJ root).b.told) ((GJ root).b.kl)),(7,Aj ((GJ root).b.ok) ((GJ root).b.oi)),(8,Aj ((GJ root).b.ik) ((GJ root).b.ii)),(9,Bd ((GJ root).b.st) ((GJ root).b.ep) ((GJ root).b.at_) ((GJ root).b.sd) ((GJ root).b.tx) 10),(10,BM ((GJ root).b.rid) ((GJ root).b.rln) ((GJ root).b.bx)),(11,.sl 48 [.int .i64,.int .i64,.sl (.int .u8),.sl (.int .u8)] ((GJ root).fl))]⟩
theorem YP (root:List Int) (hr:root.length=32):ConOk Tryz.prog 12 (g8 root):=by
 refine cy 0 Tryz.func12 rfl Tryz.ntmps12 fun hg0 hS=> ?_
 have A7:root.length≤9223372036854775807:=hS.len 0 rfl
 refine Ae [] 0 hS fun hS=>Ae [] 1 hS fun hS=>Av (Ae [] 1 hS fun hS=>Br (wp_loop_rounds 3 (Cd (n:=2) (Av (Ae [12] 1 hS fun hS=>AO hS (BE (Ax [(4,AM (kN root AE) [] [(0,1),(1,2),(2,3),(3,4),(4,5),(5,6)])] [16,17,18,19,20,21,22,23] 7 hS fun hS=>Av (Ae [24,25,26,27,28] 7 hS fun hS=>Ai hS (BP (As [(5,AD 0 2)] [30,31,32,33,34,35] 7 hS fun hS=>BV (Dj [7,14,15] 7 hS fun hS=>Ab (Cd (n:=1) (Av (Ae [12] 7 hS fun hS=>AO hS (BE (Ax [(4,AM (kK root AE) [] [(0,7),(1,8),(2,9),(3,10),(4,11),(5,12)])] [16,17,18,19,20,21,22,23] 13 hS fun hS=>Av (Ae [24,25,26,27,28] 13 hS fun hS=>Ai hS (BP (As [(5,AD 1 2)] [30,31,32,33,34,35] 13 hS fun hS=>BV (Dj [7,14,15] 13 hS fun hS=>Ab (Cd (n:=0) (Av (Ae [] 13 hS fun hS=>Ai hS (ML ?_))))))))))))))))))))))))
 have hS:=hS.wko 0 [.top,.top,.top,.top,.ls false [.int .i64] [],.top,.top,.ls false [.int .i64] [],.top]
 obtain⟨gs,hS⟩:=hS.nilob 0 8 48 [.int .i64,.int .i64,.sl (.int .u8),.sl (.int .u8)]
 have hS:=hS.wko 1 [.top,.top,.top,.top,.top,.top,.top,.ls false [.sl (.int .u8)] [],.top,.top,.ls false [.int .i64,.int .i64,.sl (.sl (.int .u8))] []]
 have hS:=hS.wko 7 [.top,.top,.top,.top,.top,.top,.top,.ls false [.sl (.int .u8)] [],.top,.top,.ls false [.int .i64,.int .i64,.sl (.sl (.int .u8))] []]
 have hS:=hS.wko 4 [.top,.top,.top,.top,lb [],lb [],.top,.top]
 have hS:=hS.wko 10 [.top,.top,.top,.top,lb [],lb [],.top,.top]
 obtain⟨gs,hS⟩:=hS.fy 6 22 [.os (.int .u8)] (List.replicate (((1088+1000)-1)/1000) none) ((show true=true→(List.replicate (((1088+1000)-1)/1000) none)≠[]from fun _=>by decide) rfl)
 obtain⟨gs,hS⟩:=hS.fy 12 22 [.os (.int .u8)] (List.replicate (((1184+1000)-1)/1000) none) ((show true=true→(List.replicate (((1184+1000)-1)/1000) none)≠[]from fun _=>by decide) rfl)
 refine Dj [0,1,6,7,8,9,13,14,15,16,17,18,19,20,21,22,23,24,25,26,27,28,29,30,31,32,33,34,35] 14 hS fun hS=>DX ?_
 obtain⟨gs,hS⟩:=hS.rx [(0,0),(1,1),(2,2),(3,3),(4,4),(5,5),(6,7),(7,8),(8,9),(9,10),(10,11),(11,13)] [4,5] [0,1,2,3,4,5,6,7,8,9,10,11] 12 hg0
 exact BW hS
def XN (ida idb:List Int) (a b:EndH):Bool:=ZD ida a.low a.mx idb b.low b.mx
section
variable (ida idb:List Int) (a b:EndH)
def Aef:Con:=⟨[.cp 0 0,.cp 5 0],[(0,Cm ida true true 1 2 3 a.low a.mx a.last a.told a.kl),(1,Aj a.ok a.oi),(2,Aj a.ik a.ii),(3,Bd a.st a.ep a.at_ a.sd a.tx 4),(4,BM a.rid a.rln a.bx),(5,Cm idb false true 6 7 8 b.low b.mx b.last b.told b.kl),(6,Aj b.ok b.oi),(7,Aj b.ik b.ii),(8,Bd b.st b.ep b.at_ b.sd b.tx 9),(9,BM b.rid b.rln b.bx)],.v (.bool (XN ida idb a b)),[(0,Cm ida true true 1 2 3 a.low a.mx a.last a.told a.kl),(1,Aj a.ok a.oi),(2,Aj a.ik a.ii),(3,Bd a.st a.ep a.at_ a.sd a.tx 4),(4,BM a.rid a.rln a.bx),(5,Cm idb false true 6 7 8 b.low b.mx b.last b.told b.kl),(6,Aj b.ok b.oi),(7,Aj b.ik b.ii),(8,Bd b.st b.ep b.at_ b.sd b.tx 9),(9,BM b.rid b.rln b.bx)]⟩
theorem O0 (ha:SndOk true a) (hb:SndOk false b):ConOk Tryz.prog 17 (Aef ida idb a b):=by
 exact AaQ ida a.ok a.oi a.ik a.ii a.low a.mx a.last a.told a.kl a.st a.ep a.at_ a.sd a.tx a.rid a.rln a.bx idb b.ok b.oi b.ik b.ii b.low b.mx b.last b.told b.kl b.st b.ep b.at_ b.sd b.tx b.rid b.rln b.bx ⟨ha.m1.1,by have :=ha.m1.2;omega⟩ (by have :=ha.low;omega) ⟨hb.m1.1,by have :=hb.m1.2;omega⟩ (by have :=hb.low;omega)
end
end
end Go.Sx.Tryz
namespace Go.Sx.Tryz
open Go.Mi Go.RowKit Go.Sx Go.Proofs
noncomputable section
def pc (E:List Int) (sz j:Nat):List Int:=(E.drop (j*sz)).take sz
theorem aU (E:List Int) (sz:Nat):∀k,((List.range k).map (pc E sz)).flatten=E.take (k*sz)
 |0=>by simp
 |k+1=>by
  rw[List.range_succ,List.map_append,List.flatten_append,aU E sz k,Nat.succ_mul,List.take_add]
  simp [pc]
def Good (E:List Int) (sz n:Nat) (bx:List (Option (List Int))):Prop:=bx.length=n∧∀j,j<n→Lm bx j (pc E sz j)
theorem LY {bx:List (Option (List Int))} {pa:Nat} {d:List Int} (h:pa<bx.length) (j:Nat):List.getD (α:=Option (List Int)) (A9 bx pa d) j none=if j=pa then some d else List.getD (α:=Option (List Int)) bx j none:=by
 unfold A9
 rw[List.getD_eq_getElem?_getD,List.getElem?_set]
 by_cases e:j=pa
 ·rw[if_pos e,if_pos e.symm,if_pos h];rfl
 ·rw[if_neg e,if_neg (fun q=>e q.symm),List.getD_eq_getElem?_getD]
theorem Good.put {E:List Int} {sz n pa:Nat} {bx:List (Option (List Int))} (h:Good E sz n bx) (hp:pa<n):Good E sz n (A9 bx pa (pc E sz pa)):=by
 refine⟨by rw[Gu,h.1],fun j hj=> ?_⟩
 unfold Lm
 rw[LY (by rw[h.1];exact hp)]
 by_cases e:j=pa
 ·rw[if_pos e,e];exact .inr rfl
 ·rw[if_neg e];exact h.2 j hj
theorem OI {bx:List (Option (List Int))}:full bx=true↔∀j,j<bx.length→(List.getD (α:=Option (List Int)) bx j none).isSome=true:=by
 unfold full
 rw[List.all_eq_true]
 refine⟨fun h j hj=> ?_,fun h x hx=> ?_⟩
 ·rw[List.getD_eq_getElem?_getD,List.getElem?_eq_getElem hj]
  exact h _ (List.getElem_mem hj)
 ·obtain⟨j,hj,rfl⟩:=List.mem_iff_getElem.1 hx
  have :=h j hj
  rw[List.getD_eq_getElem?_getD,List.getElem?_eq_getElem hj]at this
  exact this
theorem Good.all {E:List Int} {sz n:Nat} {bx:List (Option (List Int))} (h:Good E sz n bx) (hf:full bx=true):G3 bx=(List.range n).map (pc E sz):=by
 refine List.ext_getElem (by rw[List.length_map,List.length_map,List.length_range,h.1]) fun j h1 h2=> ?_
 rw[List.length_map]at h1
 have h3:=OI.1 hf j h1
 have h4:=h.2 j (by rw[←h.1];exact h1)
 unfold Lm at h4
 rw[List.getD_eq_getElem?_getD,List.getElem?_eq_getElem h1]at h3 h4
 rw[List.getElem_map,List.getElem_map,List.getElem_range]
 rcases h4 with h4|h4
 ·have h4:bx[j]=none:=h4
  rw[Option.getD_some,h4]at h3;cases h3
 ·have h4:bx[j]=some (pc E sz j):=h4
  rw[h4];rfl
theorem Adf {len sz:Nat} (hz:1≤sz):len≤(len+sz-1)/sz*sz:=by
 have :=(U5 (len:=len) hz ((len+sz-1)/sz)).2
 rcases Nat.lt_or_ge ((len+sz-1)/sz*sz) len with h|h
 ·exact absurd (this h) (Nat.lt_irrefl _)
 ·exact h
theorem Good.flat {E:List Int} {sz:Nat} {bx:List (Option (List Int))} (hz:1≤sz) (h:Good E sz ((E.length+sz-1)/sz) bx) (hf:full bx=true):(G3 bx).flatten=E:=by
 rw[h.all hf,aU,List.take_of_length_le (Adf hz)]
theorem lX (n j:Nat):List.getD (α:=Option (List Int)) (List.replicate n none) j none=none:=by
 rw[List.getD_eq_getElem?_getD,List.getElem?_replicate]
 split<;>rfl
theorem Good.nil (E:List Int) (sz n:Nat):Good E sz n (List.replicate n none):=⟨List.length_replicate,fun j _=> .inl (lX n j)⟩
theorem oQ {n pa:Nat} {d:List Int} (h:2≤n) (hp:pa<n):full (A9 (List.replicate n none) pa d)=false:=by
 cases hf:full (A9 (List.replicate n none) pa d)with
 |false=>rfl
 |true=>
  have :=OI.1 hf (if pa=0 then 1 else 0) (by rw[Gu,List.length_replicate];split<;>omega)
  rw[LY (by rw[List.length_replicate];exact hp),if_neg (by split<;>omega),lX]at this
  cases this
theorem uZ {n j:Nat} (L:Nat) (h:j<n):∃t,L≤t∧t<L+n∧t%n=j:=by
 have h1:=Nat.div_add_mod (L+n-1-j) n
 have h2:=Nat.mod_lt (L+n-1-j) (show 0<n by omega)
 refine⟨j+n*((L+n-1-j)/n),by omega,by omega,?_⟩
 rw[Nat.add_mul_mod_self_left,Nat.mod_eq_of_lt h]
def Came (n L k:Nat) (bx:List (Option (List Int))):Prop:=∀t,L≤t→t<k→(List.getD (α:=Option (List Int)) bx (t%n) none).isSome=true
theorem Came.put {n L k k' pa:Nat} {bx:List (Option (List Int))} {d:List Int} (h:Came n L k bx) (hp:pa<bx.length) (hk:∀t,L≤t→t<k'→t<k∨t%n=pa):Came n L k' (A9 bx pa d):=fun t h1 h2=>by
 rw[LY hp]
 by_cases e:t%n=pa
 ·rw[if_pos e];rfl
 ·rw[if_neg e]
  rcases hk t h1 h2 with h3|h3
  ·exact h t h1 h3
  ·exact absurd h3 e
theorem Came.full {n L k:Nat} {bx:List (Option (List Int))} (h:Came n L k bx) (hb:bx.length=n) (hk:L+n≤k):full bx=true:=OI.2 fun j hj=>by
 obtain⟨t,h1,h2,h3⟩:=uZ L (hb▸hj:j<n)
 have :=h t h1 Ac
 rw[h3]at this
 exact this
theorem Y5 (ek m:List Int):(Eb ek m).2.length=1088:=by
 rw[NF];unfold JU
 simp only[Xe]
def B0:List (Option (List Int)):=List.replicate 2 none
theorem ZN {pa:Nat} (d:List Int) (h:pa<2):full (A9 B0 pa d)=false:=oQ (by decide) h
structure KI (ea:Nat) (sa ta:List Int) (ba:List (Option (List Int))) (sb eb:Nat) (tb:List Int) (bb:List (Option (List Int))):Prop where
 ek:ta=[]∨(sa.length=64∧ta=(AG (sa.take 32) (sa.drop 32)).1)
 or:(sb=2∧eb=ea∧ba=B0∧tb=[]∧Good ta 1000 2 bb∧(ta=[]→bb=B0))
  ∨(sb=3∧eb=ea∧bb=B0∧tb.length=1088∧ta≠[]∧Good tb 1000 2 ba)
  ∨(sb=3∧eb+1=ea∧bb=B0∧tb.length=1088∧ba=B0)
def StB (ea sb eb at_:Nat) (bb:List (Option (List Int))) (pa:Nat) (s e a:Nat) (b:List (Option (List Int))):Prop:=∃d,(sb=3→eb=ea→s=3∧e=eb∧a=at_)∧(sb=3→eb+1=ea→s=2∧b=A9 B0 pa d)
 ∧(sb=2→full (A9 bb pa d)=true→s=3∧e=eb∧a=0)∧(sb=2→full (A9 bb pa d)=false→s=2∧b=A9 bb pa d)
def StA (ea at_:Nat) (ba:List (Option (List Int))) (sb eb pa:Nat) (e a:Nat) (b:List (Option (List Int))):Prop:=∃d,(sb=2→e=ea∧a=at_∧b=ba)∧(sb=3→eb=ea→full (A9 ba pa d)=true→e=ea+1∧a=0)∧(sb=3→eb=ea→full (A9 ba pa d)=false→e=ea∧a=at_∧b=A9 ba pa d)
def G7 (st ep:Nat):Nat:=if st=3 then ep+1 else ep
theorem Q2 {sa ta:List Int} (h:sa.length=64∧ta=(AG (sa.take 32) (sa.drop 32)).1):chk ta=0∧ta.length=1184:=by
 obtain⟨h1,h2⟩:=h
 rw[h2]
 exact⟨nY ..,(HB _ _ (by rw[List.length_drop];omega)).1⟩
theorem vB (id:Nat) {t:List Int} (h:t.length=1184∨t.length=1088):(An id t 1000).length=2:=by
 rw[GQ]
 rcases h with h|h<;>rw[h]
theorem Ago {ea at_ : Nat} {sa ta : List Int} {ba : List (Option (List Int))} {sb eb : Nat} {tb : List Int} {bb : List (Option (List Int))} (h : KI ea sa ta ba sb eb tb bb) (id ln : Nat) {r : List Int} (hr : r.length = 64) :
  ∃s t,A4 1 ea at_ sa ta id ln ba r=(at_+1,s,t,Dx (2*ea) (at_%2) 2 (pc t 1000 (at_%2)))∧KI ea s t ba sb eb tb bb∧s.length=64∧t=(AG (s.take 32) (s.drop 32)).1:=by
 rcases h.ek with e|⟨e1,e2⟩
 ·subst e
  have hk:=Q2 (sa:=r) (ta:=(AG (r.take 32) (r.drop 32)).1) ⟨hr,rfl⟩
  refine⟨r,(AG (r.take 32) (r.drop 32)).1,?_,⟨.inr ⟨hr,rfl⟩,?_⟩,hr,rfl⟩
  ·rw[H5];unfold Nt
   rw[if_neg (by decide),if_neg (by decide),if_pos (by decide),vB _ (.inl hk.2)]
   rfl
  ·rcases h.or with⟨h1,h2,h3,h4,h5,h6⟩|⟨h1,h2,h3,h4,h5,h6⟩|h
   ·exact .inl ⟨h1,h2,h3,h4,by rw[h6 rfl];exact Good.nil _ _ _,fun e=>by rw[e]at hk;exact absurd hk.2 (by decide)⟩
   ·exact absurd rfl h5
   ·exact .inr (.inr h)
 ·have hk:=Q2 ⟨e1,e2⟩
  refine⟨sa,ta,?_,h,e1,e2⟩
  rw[H5];unfold Nt
  rw[if_neg (by decide),if_neg (by decide),if_neg Ac,vB _ (.inl hk.2)]
  rfl
theorem Agn {ea at_ : Nat} {sa ta : List Int} {ba : List (Option (List Int))} {sb eb : Nat} {tb : List Int} {bb : List (Option (List Int))} (h : KI ea sa ta ba sb eb tb bb) (sd : List Int) (id ln : Nat) (r : List Int) :
  A4 sb eb at_ sd tb id ln bb r=if sb=2 then(at_,sd,tb,[])else(at_+1,sd,tb,Dx (2*eb+1) (at_%2) 2 (pc tb 1000 (at_%2))):=by
 rw[H5];unfold Nt
 rcases h.or with⟨h1,_⟩|⟨h1,_,_,h4,_⟩|⟨h1,_,_,h4,_⟩
 ·rw[if_pos Ac,if_pos h1]
 ·rw[if_neg Ac,if_pos Ac,if_neg Ac,if_neg Ac,vB _ (.inr h4)];rfl
 ·rw[if_neg Ac,if_pos Ac,if_neg Ac,if_neg Ac,vB _ (.inr h4)];rfl
theorem Yz {t:List Int} {n pa:Nat} (h:t.length=n) (h2:n=1184∨n=1088) (hp:pa<2):(pc t 1000 pa).length=min 1000 (n-pa*1000)∧1≤(pc t 1000 pa).length∧(pc t 1000 pa).length≤1000:=by
 unfold pc
 rw[List.length_take,List.length_drop,h]
 omega
theorem inB {ea : Nat} {sa ta : List Int} {ba : List (Option (List Int))} {sb eb : Nat} {tb : List Int} {bb : List (Option (List Int))} (h : KI ea sa ta ba sb eb tb bb) (hk : sa.length = 64 ∧ ta = (AG (sa.take 32) (sa.drop 32)).1) (hea : ea ≤ 400000000) {pa : Nat} (hp : pa < 2) (at_ : Nat) (sd r : List Int) :
  XU sb eb sd tb bb (Dx (2*ea) pa 2 (pc ta 1000 pa)) (2*ea) pa (pc ta 1000 pa)
  ∧∃s e a d t b ks,FI sb eb at_ sd tb (2*eb) 1184 bb (Dx (2*ea) pa 2 (pc ta 1000 pa)) (2*ea) pa (pc ta 1000 pa) r=(s,e,a,d,t,2*e,1184,b,ks)
   ∧KI ea sa ta ba s e t b∧a≤at_∧G7 s e=G7 sb eb+ks.length∧ks.length≤1∧StB ea sb eb at_ bb pa s e a b:=by
 have hc:=Q2 hk
 have hl:=Yz hc.2 (.inl rfl) hp
 have hne:Dx (2*ea) pa 2 (pc ta 1000 pa)≠[]:=fun e=>by have :=Q1 (id:=2*ea) (ai:=pa) (ct:=2) hl.2.1;rw[e]at this;exact Nat.not_succ_le_zero 0 this
 have hta:ta≠[]:=fun e=>by rw[e]at hc;exact absurd hc.2 (by decide)
 have hB0:full (A9 B0 pa (pc ta 1000 pa))≠true:=by rw[ZN _ hp];decide
 rw[WX _ _ _ _ _ _ _ _ hne,HC]
 unfold S4
 rcases h.or with⟨h1,h2,h3,h4,h5,h6⟩|⟨h1,h2,h3,h4,h5,h6⟩|⟨h1,h2,h3,h4,h5⟩
 ·have hf:full (A9 bb pa (pc ta 1000 pa))=true→(G3 (A9 bb pa (pc ta 1000 pa))).flatten=ta:=fun e=>Good.flat (sz:=1000) (by decide) (by rw[hc.2];exact h5.put hp) e
  refine⟨.inr ⟨rfl,hp,hl.2,by omega,by rw[if_neg Ac];exact hl.1,.inr (.inl ⟨by omega,by omega⟩),fun _ _=>h5.2 pa hp,fun e=>by omega,fun _ e=>by rw[hf e];exact⟨hc.1,hc.2⟩,fun e=>by omega⟩,?_⟩
  rw[if_neg Ac,if_neg Ac,if_pos Ac,if_neg Ac]
  by_cases hfl:full (A9 bb pa (pc ta 1000 pa))=true
  ·rw[if_pos hfl]
   refine⟨_,_,_,_,_,_,_,rfl,⟨h.ek,.inr (.inl ⟨rfl,h2,rfl,Y5 _ _,hta,?_⟩)⟩,Nat.zero_le _,?_,by simp,pc ta 1000 pa,by omega,by omega,fun _ _=>⟨rfl,rfl,rfl⟩,fun _ e=>by rw[hfl]at e;cases e⟩
   ·rw[h3];exact Good.nil _ _ _
   ·unfold G7;rw[if_pos rfl,if_neg Ac];rfl
  ·rw[if_neg hfl]
   refine⟨_,_,_,_,_,_,_,rfl,⟨h.ek,.inl ⟨h1,h2,h3,h4,h5.put hp,fun e=>absurd e hta⟩⟩,Nat.le_refl _,rfl,by simp,pc ta 1000 pa,by omega,by omega,fun _ e=>absurd e hfl,fun _ _=>⟨h1,rfl⟩⟩
 ·refine⟨.inr ⟨rfl,hp,hl.2,by omega,by rw[if_neg Ac];exact hl.1,.inr (.inl ⟨by omega,by omega⟩),fun _ e=>absurd h1 e,fun e=>by omega,fun _ e=>by rw[h3]at e;exact absurd e hB0,fun e=>by omega⟩,?_⟩
  rw[if_neg Ac,if_neg Ac,if_pos Ac,if_pos Ac]
  exact⟨_,_,_,_,_,_,_,rfl,h,Nat.le_refl _,rfl,by simp,pc ta 1000 pa,fun _ _=>⟨h1,rfl,rfl⟩,by omega,by omega,by omega⟩
 ·refine⟨.inr ⟨rfl,hp,hl.2,by omega,by rw[if_neg Ac];exact hl.1,.inr (.inr ⟨by omega,by omega⟩),fun _ e=>absurd h1 e,fun e=>by omega,fun _ e=>by rw[h3]at e;exact absurd e hB0,fun e=>by omega⟩,?_⟩
  rw[if_neg Ac,if_neg Ac,if_neg Ac]
  refine⟨_,_,_,_,_,_,_,rfl,⟨h.ek,.inl ⟨rfl,h2,h5,rfl,(Good.nil ta 1000 2).put hp,fun e=>absurd e hta⟩⟩,Nat.zero_le _,?_,by simp,pc ta 1000 pa,by omega,fun _ _=>⟨rfl,rfl⟩,by omega,by omega⟩
  unfold G7;rw[if_neg (by decide),if_pos h1];rfl
theorem inA {ea : Nat} {sa ta : List Int} {ba : List (Option (List Int))} {sb eb : Nat} {tb : List Int} {bb : List (Option (List Int))} (h : KI ea sa ta ba sb eb tb bb) (hea : ea ≤ 400000000) (hsb : sb = 3) {pa : Nat} (hp : pa < 2) (at_ : Nat) (r : List Int) :
  XU 1 ea sa ta ba (Dx (2*eb+1) pa 2 (pc tb 1000 pa)) (2*eb+1) pa (pc tb 1000 pa)
  ∧∃e a d t b ks,FI 1 ea at_ sa ta (2*ea+1) 1088 ba (Dx (2*eb+1) pa 2 (pc tb 1000 pa)) (2*eb+1) pa (pc tb 1000 pa) r=(1,e,a,d,t,2*e+1,1088,b,ks)
   ∧KI e d t b sb eb tb bb∧a≤at_∧e=ea+ks.length∧ks.length≤1∧StA ea at_ ba sb eb pa e a b:=by
 have hl:(pc tb 1000 pa).length=min 1000 (1088-pa*1000)∧1≤(pc tb 1000 pa).length∧(pc tb 1000 pa).length≤1000:=by
  rcases h.or with h|h|h
  ·omega
  ·exact Yz h.2.2.2.1 (.inr rfl) hp
  ·exact Yz h.2.2.2.1 (.inr rfl) hp
 have hne:Dx (2*eb+1) pa 2 (pc tb 1000 pa)≠[]:=fun e=>by have :=Q1 (id:=2*eb+1) (ai:=pa) (ct:=2) hl.2.1;rw[e]at this;exact Nat.not_succ_le_zero 0 this
 have hB0:full (A9 B0 pa (pc tb 1000 pa))≠true:=by rw[ZN _ hp];decide
 rw[WX _ _ _ _ _ _ _ _ hne,HC]
 unfold S4
 rw[if_pos (by decide)]
 rcases h.or with⟨h1,_⟩|⟨h1,h2,h3,h4,h5,h6⟩|⟨h1,h2,h3,h4,h5⟩
 ·omega
 ·have hf:full (A9 ba pa (pc tb 1000 pa))=true→(G3 (A9 ba pa (pc tb 1000 pa))).flatten=tb:=fun e=>Good.flat (sz:=1000) (by decide) (by rw[h4];exact h6.put hp) e
  have hk:=h.ek.resolve_left h5
  have hc:=Q2 hk
  refine⟨.inr ⟨rfl,hp,hl.2,by omega,by rw[if_pos rfl];exact hl.1,.inl ⟨rfl,by omega⟩,fun _ _=>h6.2 pa hp,fun _ _=>⟨by omega,hk.1⟩,fun e=>absurd rfl e,fun _ e=>by rw[hf e];exact h4⟩,?_⟩
  rw[if_neg Ac,if_neg Ac]
  by_cases hfl:full (A9 ba pa (pc tb 1000 pa))=true
  ·rw[if_pos hfl]
   refine⟨_,_,_,_,_,_,rfl,⟨.inl rfl,.inr (.inr ⟨h1,by omega,h3,h4,rfl⟩)⟩,Nat.zero_le _,by simp,by simp,pc tb 1000 pa,by omega,fun _ _ _=>⟨rfl,rfl⟩,fun _ _ e=>by rw[hfl]at e;cases e⟩
  ·rw[if_neg hfl]
   exact⟨_,_,_,_,_,_,rfl,⟨h.ek,.inr (.inl ⟨h1,h2,h3,h4,h5,h6.put hp⟩)⟩,Nat.le_refl _,rfl,by simp,pc tb 1000 pa,by omega,fun _ _ e=>absurd e hfl,fun _ _ _=>⟨rfl,rfl,rfl⟩⟩
 ·refine⟨.inr ⟨rfl,hp,hl.2,by omega,by rw[if_pos rfl];exact hl.1,.inl ⟨rfl,by omega⟩,fun e=>by rw[if_pos rfl]at e;omega,fun _ e=>by omega,fun e=>absurd rfl e,fun _ e=>by rw[h5]at e;exact absurd e hB0⟩,?_⟩
  rw[if_pos Ac]
  exact⟨_,_,_,_,_,_,rfl,h,Nat.le_refl _,rfl,by simp,pc tb 1000 pa,by omega,by omega,by omega⟩
end
end Go.Sx.Tryz
namespace Go.Sx.Tryz
open Go.Mi Go.RowKit Go.Sx Go.Proofs
noncomputable section
theorem Abs (n m l:Nat) (pc:List Int):RL n m l pc=Ak n++(Ak m++(Ak l++(Ak pc.length++pc))):=by
 unfold RL
 simp only[List.nil_append,List.append_assoc]
theorem oJ {n m l:Nat} {pc:List Int} (hn:n≤2147483648) (hm:m≤2147483648) (hl:l≤2147483648) (hp:pc.length≤4000) (ba bb:List Int):Ka (RL n m l pc) ba bb=true∧E9 (RL n m l pc) ba bb=(n,m,l,pc):=by
 rw[Abs]
 have m1:=EZ (n:=n) Ac (Ak m++(Ak l++(Ak pc.length++pc)))
 have m2:=EZ (n:=m) Ac (Ak l++(Ak pc.length++pc))
 have m3:=EZ (n:=l) Ac (Ak pc.length++pc)
 have m4:=EZ (n:=pc.length) Ac pc
 have v1:=EJ m1
 have v2:=EJ m2
 have v3:=EJ m3
 have v4:=EJ m4
 generalize Ak n++(Ak m++(Ak l++(Ak pc.length++pc)))=X at *
 have hp:Iu X ba bb=true:=by
  rw[KL];unfold Qi
  rw[v1];simp only[]
  rw[v2];simp only[]
  rw[v3];simp only[]
  rw[if_pos (Sd m1 hn),if_pos (Sd m2 hm),if_pos (Sd m3 hl),if_pos (SL m4 hp (Nat.le_refl _))]
 have hm:C7 X ba bb=([],n,m,l,pc):=by
  rw[Wx];unfold aV
  rw[v1];simp only[]
  rw[v2];simp only[]
  rw[v3];simp only[]
  rw[v4];simp
 constructor
 ·rw[Qa];unfold P_
  rw[if_pos hp,hm,if_pos LK]
 ·rw[aK];unfold aJ
  rw[hm]
theorem Afc (ok mix:List Int) (n m l:Nat) (pc text:List Int):iW ok mix n m l pc text=Ak (RL n m l pc).length++(RL n m l pc++(Ak (W6 ok mix n m l pc text).length++W6 ok mix n m l pc text)):=by
 unfold iW
 simp only[List.nil_append,List.append_assoc]
theorem AcU (ok mix:List Int) {n m l:Nat} {pc text:List Int} (hn:n≤2147483648) (hm:m≤2147483648) (hl:l≤2147483648) (hp:pc.length≤1040) (ht:text.length≤500):CG (iW ok mix n m l pc text)=true∧Aa (iW ok mix n m l pc text)=(RL n m l pc,n,m,l,pc,W6 ok mix n m l pc text):=by
 have hH:(RL n m l pc).length≤1200:=by
  have w1:=AH (n:=n) Ac
  have w2:=AH (n:=m) Ac
  have w3:=AH (n:=l) Ac
  have w4:=AH (n:=pc.length) Ac
  rw[Abs]
  simp only[List.length_append];omega
 have hb:(W6 ok mix n m l pc text).length=text.length+32:=IR ..
 have hh:=oJ hn hm hl (show pc.length≤4000 by omega) (RL n m l pc) (W6 ok mix n m l pc text)
 have e1:((([]++Ak (RL n m l pc).length)++RL n m l pc)++Ak (W6 ok mix n m l pc text).length)++W6 ok mix n m l pc text=iW ok mix n m l pc text:=rfl
 rw[Afc]at e1⊢
 generalize RL n m l pc=H at *
 generalize W6 ok mix n m l pc text=X at *
 have m1:=EZ (n:=H.length) Ac (H++(Ak X.length++X))
 have m2:=EZ (n:=X.length) Ac X
 have v1:=EJ m1
 have v2:=EJ m2
 have t1:List.take H.length (H++(Ak X.length++X))=H:=List.take_left
 have t2:List.drop H.length (H++(Ak X.length++X))=Ak X.length++X:=List.drop_left
 have r1:Bg (Ak H.length++(H++(Ak X.length++X))) 4000=true:=SL m1 Ac (by rw[List.length_append];omega)
 have r2:Bg (Ak X.length++X) 4000=true:=SL m2 Ac Ac
 generalize Ak H.length++(H++(Ak X.length++X))=F at *
 have hp:L4 F=true:=by
  rw[Um];unfold Ul
  simp only[v1,Int.toNat_natCast,t2,r1,r2,if_true]
 have hr:LU F=true:=by
  rw[T8];unfold T7
  simp only[hp,v1,Int.toNat_natCast,t2,v2,List.drop_length,LK,if_true]
 constructor
 ·rw[Gg];unfold Ht
  simp only[hr,v1,Int.toNat_natCast,t1,t2,v2,List.take_length,hh.1,e1,if_true]
 ·rw[L6];unfold L5
  simp only[v1,Int.toNat_natCast,t1,t2,v2,List.take_length,hh.2]
def KS (mx sec:List (List Int)):List (List Int):=sec.foldl (fun o b=>o++[AI (o.getD (o.length-1) (rz [.sl (.int .u8)])) b [109,105,120]]) mx
def Dm (fi:Bool) (low:Nat) (mx:List (List Int)) (last told:Nat) (sec:List (List Int)):Nat×List (List Int):=(min last (AV fi low (KS mx sec).length told),(KS mx sec).drop (min last (AV fi low (KS mx sec).length told)-low))
theorem xA (id:List Int) (fi:Bool) (ok:List Int) (oi:Nat) (ik:List Int) (ii low:Nat) (mx:List (List Int)) (last told:Nat) (kl:List KR) (st ep at_:Nat) (sd tx:List Int) (rid rln:Nat) (bx:List (Option (List Int))) (sec:List (List Int)):QA id fi ok oi ik ii low mx last told kl st ep at_ sd tx rid rln bx sec=Dm fi low mx last told sec:=by
 have key:∀n,n≤sec.length→Cb id fi ok oi ik ii low mx last told kl st ep at_ sd tx rid rln bx sec n=KS mx (sec.take n):=by
  intro n
  induction n with
  |zero=>intro _;rfl
  |succ n ih=>
   intro hn
   show JL sec n (Cb id fi ok oi ik ii low mx last told kl st ep at_ sd tx rid rln bx sec n)=_
   rw[ih Ac,List.take_succ_eq_append_getElem Ac]
   have hg:List.getD (α:=List Int) sec n []=sec[n]:=by rw[List.getD_eq_getElem?_getD,List.getElem?_eq_getElem (show n<sec.length by omega)];rfl
   unfold KS JL
   rw[List.foldl_append,←hg]
   rfl
 rw[nN];unfold YF Dm
 rw[key _ (Nat.le_refl _),List.take_length]
def EndH.got (r:EndH) (fi:Bool) (m l:Nat) (X:Nat×Nat×Nat×List Int×List Int×Nat×Nat×List (Option (List Int))×List (List Int)):EndH:=
 {r with ik:=Oa r.ik,ii:=r.ii+1,low:=(Dm fi r.low r.mx m (max r.told l) X.2.2.2.2.2.2.2.2).1,mx:=(Dm fi r.low r.mx m (max r.told l) X.2.2.2.2.2.2.2.2).2,last:=m,told:=max r.told l,kl:=[],st:=X.1,ep:=X.2.1,at_:=X.2.2.1,sd:=X.2.2.2.1,tx:=X.2.2.2.2.1,rid:=X.2.2.2.2.2.1,rln:=X.2.2.2.2.2.2.1,bx:=X.2.2.2.2.2.2.2.1}
theorem aM (id : List Int) (fi : Bool) {r : EndH} {n m l pid pa : Nat} {pc text mix d : List Int} (rand : List Int) (hii : r.ii = n) (hkl : r.kl = []) (hlast : r.last ≤ m) (hm : m + 1 ≤ r.low + r.mx.length) (hmix : r.mx.getD (m - r.low) (rz [.sl (.int .u8)]) = mix) (hn : n ≤ 2147483648 ∧ m ≤ 2147483648 ∧ l ≤ 2147483648) (hp : pc.length ≤ 1040) (ht : text.length ≤ 500) (hy : By text)
  (hpk:XU r.st r.ep r.sd r.tx r.bx pc pid pa d):XS id fi r (iW r.ik mix n m l pc text) rand (r.got fi m l (FI r.st r.ep r.at_ r.sd r.tx r.rid r.rln r.bx pc pid pa d (rand.drop 64))) text n:=by
 obtain⟨h1,h2⟩:=AcU r.ik mix hn.1 hn.2.1 hn.2.2 hp ht
 refine⟨⟨rfl,rfl⟩,pid,pa,d,by rw[h2];exact hpk,?_⟩
 have ho:=NV (id:=id) (fi:=fi) (ok:=r.ok) (oi:=r.oi) (ik:=r.ik) (ii:=r.ii) (low:=r.low) (mx:=r.mx) (last:=r.last) (told:=r.told) (kl:=r.kl) (st:=r.st) (ep:=r.ep) (at_:=r.at_) (sd:=r.sd) (tx:=r.tx) (rid:=r.rid) (rln:=r.rln) (bx:=r.bx) (hb:=RL n m l pc) (hi:=n) (hn:=m) (hh:=l) (hp:=pc) (hx:=W6 r.ik mix n m l pc text)
 have hc:=q8 (id:=id) (fi:=fi) (ok:=r.ok) (oi:=r.oi) (ik:=r.ik) (ii:=r.ii) (low:=r.low) (mx:=r.mx) (last:=r.last) (told:=r.told) (kl:=r.kl) (st:=r.st) (ep:=r.ep) (at_:=r.at_) (sd:=r.sd) (tx:=r.tx) (rid:=r.rid) (rln:=r.rln) (bx:=r.bx) (hb:=RL n m l pc) (hi:=n) (hn:=m) (hh:=l) (hp:=pc) (hx:=W6 r.ik mix n m l pc text)
 have ok1:Cf id fi r.ok r.oi r.ik r.ii r.low r.mx r.last r.told r.kl (RL n m l pc) n m l pc (W6 r.ik mix n m l pc text)=true:=by
  rw[C4];unfold Gv
  rw[if_neg Ac,if_pos (show cK r.ii n=true from decide_eq_true ⟨by omega,by omega⟩),if_neg Ac,if_neg Ac]
 have ok2:CF id fi r.ok r.oi r.ik r.ii r.low r.mx r.last r.told r.kl (RL n m l pc) n m l pc (W6 r.ik mix n m l pc text)=AI (Kf r.ik) mix [109,101,115,115,97,103,101]:=by
  rw[Gh];unfold Hv
  rw[if_neg Ac,hmix,hii,Nat.sub_self];rfl
 have cm:Ip id fi r.ok r.oi r.ik r.ii r.low r.mx r.last r.told r.kl (RL n m l pc) n m l pc (W6 r.ik mix n m l pc text)=(m,[],Oa r.ik,r.ii+1):=by
  rw[Rm];unfold Rl
  rw[if_neg Ac,FZ,hii,Nat.sub_self,hkl]
  rfl
 have hop:Da (AI (Kf r.ik) mix [109,101,115,115,97,103,101]) (List.replicate 12 (0:Int)) (RL n m l pc) (W6 r.ik mix n m l pc text)=(text,0):=SR _ _ _ hy
 constructor
 ·rw[NT];unfold IV
  rw[if_pos]
  rw[IJ];unfold Pu
  rw[if_pos h1,h2]
  simp only[]
  rw[ho.1,ok1,ho.2.1,ok2,hop]
  rfl
 ·rw[P0];unfold KG
  rw[TD];unfold TC
  rw[h2]
  simp only[]
  rw[ho.2.1,ok2,hop,hc,cm]
  simp only[xA]
  rfl
end
end Go.Sx.Tryz
namespace Go.Sx.Tryz
open Go.Mi Go.RowKit Go.Sx Go.Proofs
noncomputable section
def mg (l:List (List Int)) (i:Nat):List Int:=List.getD (α:=List Int) l i []
theorem AcD {l:List (List Int)} {x:List Int} {i:Nat}:mg (l++[x]) i=if i<l.length then mg l i else if i=l.length then x else[]:=by
 unfold mg
 rw[List.getD_eq_getElem?_getD]
 by_cases h:i<l.length
 ·rw[if_pos h,List.getElem?_append_left h,List.getD_eq_getElem?_getD]
 ·rw[if_neg h,List.getElem?_append_right Ac]
  by_cases h2:i=l.length
  ·rw[if_pos h2,h2,Nat.sub_self];rfl
  ·rw[if_neg h2,List.getElem?_eq_none (by simp;omega)];rfl
theorem bB (l:List (List Int)) (c i:Nat):mg (l.drop c) i=mg l (c+i):=by
 unfold mg
 rw[List.getD_eq_getElem?_getD,List.getElem?_drop,List.getD_eq_getElem?_getD]
structure MI (M:Nat→List Int) (low:Nat) (mx:List (List Int)):Prop where
 pos:1≤mx.length
 at_:∀i,i<mx.length→mg mx i=M (low+i)
theorem MI.out {M:Nat→List Int} {low:Nat} {mx:List (List Int)} (h:MI M low mx) {j:Nat} (h1:low≤j) (h2:j<low+mx.length):mx.getD (j-low) (rz [.sl (.int .u8)])=M j:=by
 have :=h.at_ (j-low) Ac
 rw[show low+(j-low)=j by omega]at this
 exact this
theorem MI.m2 {M:Nat→List Int} {low:Nat} {mx:List (List Int)} (h:MI M low mx) (h32:∀j,(M j).length≤32) (j:Nat):(mx.getD j (rz [.sl (.int .u8)])).length≤32:=by
 show(mg mx j).length≤32
 by_cases hj:j<mx.length
 ·rw[h.at_ j hj];exact h32 _
 ·unfold mg;rw[List.getD_eq_getElem?_getD,List.getElem?_eq_none Ac];exact Nat.zero_le _
theorem MI.put {M : Nat → List Int} {low : Nat} {mx : List (List Int)} (h : MI M low mx) (h32 : ∀ j, (M j).length ≤ 32) (fi : Bool) (last told : Nat) (ks : List (List Int)) (hk : ks.length ≤ 1) (h1 : low ≤ last) (h2 : last < low + mx.length) (h3 : low ≤ AV fi low (KS mx ks).length told) :
  (KS mx ks).length=mx.length+ks.length∧∃M',(∀j,j<low+mx.length→M' j=M j)∧(∀j,(M' j).length≤32)∧MI M' (Dm fi low mx last told ks).1 (Dm fi low mx last told ks).2
   ∧(Dm fi low mx last told ks).1=min last (AV fi low (KS mx ks).length told)∧(Dm fi low mx last told ks).1+(Dm fi low mx last told ks).2.length=low+mx.length+ks.length:=by
 have hp:=h.pos
 match ks,hk,h3 with
 |[],_,h3=>
  refine⟨rfl,M,fun _ _=>rfl,h32,?_⟩
  unfold Dm
  show MI M (min last (AV fi low mx.length told)) (mx.drop (min last (AV fi low mx.length told)-low))∧_∧_
  have h3:low≤AV fi low mx.length told:=h3
  refine⟨⟨by rw[List.length_drop];omega,fun i hi=> ?_⟩,rfl,?_⟩
  ·rw[List.length_drop]at hi
   rw[bB,h.at_ _ Ac];congr 1;omega
  ·show min last (AV fi low mx.length told)+(mx.drop (min last (AV fi low mx.length told)-low)).length=low+mx.length+0
   rw[List.length_drop];omega
 |[k],_,h3=>
  have hl:(KS mx [k]).length=mx.length+1:=by show(mx++[_]).length=_;rw[List.length_append];rfl
  refine⟨hl,fun j=>if j=low+mx.length then AI (mg mx (mx.length-1)) k [109,105,120]else M j,fun j hj=>if_neg Ac,fun j=> ?_,?_⟩
  ·show(if _ then _ else _:List Int).length≤32
   split
   ·exact Nat.le_of_eq (E6 ..)
   ·exact h32 j
  unfold Dm
  generalize hlo:min last (AV fi low (KS mx [k]).length told)=lo
  refine⟨⟨by rw[List.length_drop];omega,fun i hi=> ?_⟩,rfl,?_⟩
  ·rw[List.length_drop]at hi
   show _=if lo+i=low+mx.length then _ else _
   rw[bB]
   show mg (mx++[AI (mg mx (mx.length-1)) k [109,105,120]]) (lo-low+i)=_
   rw[AcD]
   by_cases hc:lo-low+i<mx.length
   ·rw[if_pos hc,if_neg Ac,h.at_ _ hc];congr 1;omega
   ·rw[if_neg hc,if_pos Ac,if_pos Ac]
  ·show lo+((KS mx [k]).drop (lo-low)).length=low+mx.length+1
   rw[List.length_drop];omega
theorem MI.mono {M M':Nat→List Int} {low:Nat} {mx:List (List Int)} (h:MI M low mx) (hM:∀j,j<low+mx.length→M' j=M j):MI M' low mx:=⟨h.pos,fun i hi=>by rw[hM _ Ac];exact h.at_ i hi⟩
structure IN0 (T:Nat) (p:PS) (M:Nat→List Int):Prop where
 id:p.ida=p.idb
 ka:p.a.ok.length=32
 kb:p.b.ok.length=32
 kab:p.b.ik=p.a.ok
 kba:p.a.ik=p.b.ok
 na:p.a.oi=p.na∧p.b.ii=p.na∧p.ia=p.na
 nb:p.b.oi=p.nb∧p.a.ii=p.nb∧p.ib=p.nb
 j:p.ja=[]∧p.jb=[]
 kl:p.a.kl=[]∧p.b.kl=[]
 t:p.na+p.nb≤T∧p.fl.length≤T
 fr:p.fl.length=p.na+p.nb
 ea:p.a.low+p.a.mx.length=p.a.ep+1
 eb:p.b.low+p.b.mx.length=G7 p.b.st p.b.ep+1
 m32:∀j,(M j).length≤32
 mb:MI M p.b.low p.b.mx
 la:p.a.low≤p.a.last∧p.a.last≤p.b.told
 lb:p.b.low≤p.b.last∧p.b.last≤p.a.ep∧p.b.low≤p.b.told∧p.b.told≤p.a.ep
 ta:p.a.told≤T
 st:p.a.st=1
 ki:KI p.a.ep p.a.sd p.a.tx p.a.bx p.b.st p.b.ep p.b.tx p.b.bx
 rida:p.a.rid=2*p.a.ep+1∧p.a.rln=1088
 ridb:p.b.rid=2*p.b.ep∧p.b.rln=1184
 at_:p.a.at_≤T∧p.b.at_≤T
 ep:p.a.ep≤T
structure INV (T:Nat) (p:PS) (M:Nat→List Int):Prop extends IN0 T p M where
 ma:MI M p.a.low p.a.mx
theorem KI.ne {ea:Nat} {sa ta:List Int} {ba:List (Option (List Int))} {sb eb:Nat} {tb:List Int} {bb:List (Option (List Int))} (h:KI ea sa ta ba sb eb tb bb):(sb=2∨sb=3)∧ea≤G7 sb eb∧G7 sb eb≤ea+1∧eb≤ea∧ba.length=2∧bb.length=2∧(sb=3→tb.length=1088)∧(sb=2→tb=[])∧(ta.length=0∨ta.length=1184):=by
 have ht:ta.length=0∨ta.length=1184:=h.ek.elim (fun e=> .inl (by rw[e];rfl)) (fun e=> .inr (Q2 e).2)
 unfold G7
 rcases h.or with⟨h1,h2,h3,h4,h5,h6⟩|⟨h1,h2,h3,h4,h5,h6⟩|⟨h1,h2,h3,h4,h5⟩
 ·rw[if_neg Ac];exact⟨.inl h1,by omega,by omega,by omega,by rw[h3];rfl,h5.1,by omega,fun _=>h4,ht⟩
 ·rw[if_pos h1];exact⟨.inr h1,by omega,by omega,by omega,h6.1,by rw[h3];rfl,fun _=>h4,by omega,ht⟩
 ·rw[if_pos h1];exact⟨.inr h1,by omega,by omega,by omega,by rw[h5];rfl,by rw[h3];rfl,fun _=>h4,by omega,ht⟩
theorem M4:Of []:=⟨by decide,fun j h=>absurd h (Nat.not_lt_zero j)⟩
theorem INV.ok {T:Nat} {p:PS} {M:Nat→List Int} (h:INV T p M) (hT:T≤10000):EOk true p.a∧EOk false p.b:=by
 obtain⟨k1,k2,k3,k4,k5,k6,k7,k8,k9⟩:=h.ki.ne
 have e1:=h.na;have e2:=h.nb;have e3:=h.t;have e4:=h.ea;have e5:=h.eb;have e6:=h.la;have e7:=h.lb;have e8:=h.ta;have e9:=h.at_;have e10:=h.ep;have e11:=h.st;have e12:=h.rida;have e13:=h.ridb;have p1:=h.ma.pos;have p2:=h.mb.pos
 refine⟨⟨⟨h.ka,by rw[h.kba];exact h.kb,by omega,by omega,⟨p1,by omega⟩,h.ma.m2 h.m32,by omega,?_,.inl e11,by omega,by omega,⟨fun _=>k9,by omega⟩,by omega⟩,by rw[h.kl.1];exact M4,⟨by omega,by omega⟩,by omega,by rw[if_pos e11];exact e12.2,by rw[if_pos e11];exact e12.1,k5⟩,
  ⟨⟨h.kb,by rw[h.kab];exact h.ka,by omega,by omega,⟨p2,by omega⟩,h.mb.m2 h.m32,by omega,?_,by omega,by omega,by omega,⟨by omega,k7⟩,?_⟩,by rw[h.kl.2];exact M4,⟨by omega,by omega⟩,by omega,by rw[if_neg Ac];exact e13.2,by rw[if_neg Ac];exact e13.1,k6⟩⟩
 ·unfold AV;rw[if_pos rfl];omega
 ·unfold AV;rw[if_neg (by decide)];omega
 ·rcases k1 with k|k
  ·rw[k8 k];exact Nat.zero_le _
  ·rw[k7 k];decide
structure AbL (id:List Int) (fi:Bool) (w:Nat) (e:EndH) (fl:List (Int×Int×List Int×List Int)) (i:Nat) (j:List Nat) (k:Nat) (rand:List Int) (n:Nat) (text fr:List Int) (e2:EndH):Prop where
 E:EOk fi e
 G:XS id fi e fr rand e2 text n
 f:fr.length≤50000
 row:fl.getD k (rz [.int .i64,.int .i64,.sl (.int .u8),.sl (.int .u8)])=((w:Int),(n:Int),text,fr)
 k:k<fl.length∧k<1000000
 R:RI i j
 hn:n≤1000000∧i≤1000000
 s:It i j n=true
 I:e2.ii=nI i n
 J:Vu e2.kl=ints (nJ i j n)
 K2:Of e2.kl
theorem PV (l:List (Int×Int×List Int×List Int)) (x:Int×Int×List Int×List Int):(l++[x]).getD l.length (rz [.int .i64,.int .i64,.sl (.int .u8),.sl (.int .u8)])=x:=by
 show List.getD (α:=Int×Int×List Int×List Int) (l++[x]) l.length (0,0,[],[])=x
 rw[List.getD_eq_getElem?_getD,List.getElem?_append_right (Nat.le_refl _),Nat.sub_self];rfl
section
variable (n:Nat)
theorem Nz:nI n n=n+1:=if_neg (Nat.lt_irrefl n)
theorem Ny:nJ n [] n=[]:=by
 unfold nJ
 rw[if_neg (Nat.lt_irrefl n),Nat.sub_self];rfl
theorem OA:It n [] n=true:=by
 unfold It
 rw[if_neg (Nat.lt_irrefl n)];exact decide_eq_true Ac
theorem Jt:RI n []:=⟨by decide,List.nodup_nil,fun _ h=>by cases h⟩
end
end
end Go.Sx.Tryz
namespace Go.Sx.Tryz
open Go.Mi Go.RowKit Go.Sx Go.Proofs
noncomputable section
theorem INV.stepA {T : Nat} {p : PS} {M : Nat → List Int} (h : INV T p M) (hT : T ≤ 9000) {text rand r2 : List Int} (ht : text.length ≤ 500) (hy : By text) (hr : rand.length = 128) (hr2 : r2.length = 128) :
  SndOk true p.a∧∃e2 M2,AbL p.idb false 0 (p.sndA text rand).b (p.sndA text rand).fl (p.sndA text rand).ia (p.sndA text rand).ja p.fl.length r2 p.na text (p.a.frame true text rand) e2
   ∧INV (T+1) ((p.sndA text rand).dlvA e2 p.na) M2∧(p.a.sent rand).at_=p.a.at_+1∧StB p.a.ep p.b.st p.b.ep p.b.at_ p.b.bx (p.a.at_%2) e2.st e2.ep e2.at_ e2.bx:=by
 obtain⟨oa,ob⟩:=h.ok Ac
 obtain⟨k1,k2,k3,k4,k5,k6,k7,k8,k9⟩:=h.ki.ne
 have e1:=h.na;have e2:=h.nb;have e3:=h.t;have e4:=h.ea;have e5:=h.eb;have e6:=h.la;have e7:=h.lb;have e8:=h.ta;have e9:=h.at_;have e10:=h.ep;have e11:=h.st;have e12:=h.rida;have e13:=h.ridb;have p1:=h.ma.pos;have p2:=h.mb.pos;have hfr:=h.fr
 obtain⟨s,t,ho,hk,hs,hst⟩:=Ago (at_:=p.a.at_) h.ki p.a.rid p.a.rln (r:=rand.take 64) (by rw[List.length_take];omega)
 have hpc:p.a.pc rand=(p.a.at_+1,s,t,Dx (2*p.a.ep) (p.a.at_%2) 2 (pc t 1000 (p.a.at_%2))):=by
  unfold EndH.pc;rw[e11];exact ho
 obtain⟨hpk,s2,ep2,a2,d2,t2,b2,ks,hX,hk2,ha2,hn2,hks,hSt⟩:=inB hk ⟨hs,hst⟩ Ac (show p.a.at_%2<2 from Nat.mod_lt _ (by decide)) p.b.at_ p.b.sd (r2.drop 64)
 have hnum:p.a.num true=p.a.ep:=by unfold EndH.num AV;rw[if_pos rfl];omega
 have hmix:p.b.mx.getD (p.a.ep-p.b.low) (rz [.sl (.int .u8)])=p.a.mx.getD (p.a.ep-p.a.low) (rz [.sl (.int .u8)]):=by rw[h.mb.out Ac Ac,h.ma.out Ac Ac]
 have hF:p.a.frame true text rand=iW p.b.ik (p.a.mx.getD (p.a.ep-p.a.low) (rz [.sl (.int .u8)])) p.na p.a.ep p.a.ep (Dx (2*p.a.ep) (p.a.at_%2) 2 (pc t 1000 (p.a.at_%2))) text:=by
  unfold EndH.frame
  rw[hnum,hpc,h.kab,e1.1,show p.a.low+p.a.mx.length-1=p.a.ep by omega]
 have hpl:(Dx (2*p.a.ep) (p.a.at_%2) 2 (pc t 1000 (p.a.at_%2))).length≤1040:=by
  have :=EndH.pc_le oa.toSndOk hr
  rw[hpc]at this;exact this
 have hG:=aM p.idb false (r:=p.b) (n:=p.na) (l:=p.a.ep) r2 e1.2.1 h.kl.2 Ac Ac hmix ⟨by omega,by omega,by omega⟩ hpl ht hy hpk
 rw[e13.1,e13.2,hX]at hG
 have hmn:p.b.low≤AV false p.b.low (KS p.b.mx ks).length (max p.b.told p.a.ep):=by
  have hl:p.b.mx.length≤(KS p.b.mx ks).length:=by
   match ks,hks with
   |[],_=>exact Nat.le_refl _
   |[k],_=>show _≤(p.b.mx++[_]).length;rw[List.length_append];omega
  unfold AV;rw[if_neg (by decide)];omega
 obtain⟨hml,M2,hM,h32,hMI,hlo,hle⟩:=h.mb.put h.m32 false p.a.ep (max p.b.told p.a.ep) ks hks Ac Ac hmn
 have hlo2:(Dm false p.b.low p.b.mx p.a.ep (max p.b.told p.a.ep) ks).1=p.a.ep:=by
  rw[hlo];unfold AV;rw[if_neg (by decide)];omega
 have hfl:=oa.toSndOk.len ht hr
 refine⟨oa.toSndOk,p.b.got false p.a.ep p.a.ep (s2,ep2,a2,d2,t2,2*ep2,1184,b2,ks),M2,⟨ob,by rw[hF];exact hG,by omega,PV _ _|>.trans (by rw[e1.1];rfl),⟨?_,by omega⟩,?_,⟨by omega,?_⟩,?_,?_,?_,M4⟩,?_,by show(p.a.pc rand).1=_;rw[hpc],hSt⟩
 ·show p.fl.length<(p.fl++[_]).length
  rw[List.length_append];exact Nat.lt_succ_self _
 ·show RI p.ia p.ja
  rw[h.j.1];exact Jt _
 ·show p.ia≤1000000;omega
 ·show It p.ia p.ja p.na=true
  rw[h.j.1,e1.2.2];exact OA _
 ·show p.b.ii+1=nI p.ia p.na
  rw[e1.2.2,e1.2.1,Nz]
 ·show Vu []=ints (nJ p.ia p.ja p.na)
  rw[h.j.1,e1.2.2,Ny];rfl
 ·have hkn:=hk2.ne
  refine⟨⟨h.id,Mb _,h.kb,?_,h.kba,⟨?_,?_,?_⟩,h.nb,⟨?_,h.j.2⟩,⟨h.kl.1,rfl⟩,⟨?_,?_⟩,?_,h.ea,?_,h32,hMI,⟨?_,?_⟩,⟨?_,?_,?_,?_⟩,?_,h.st,?_,⟨e12.1,e12.2⟩,⟨rfl,rfl⟩,⟨?_,?_⟩,?_⟩,?_⟩
  ·show Oa p.b.ik=Oa p.a.ok;rw[h.kab]
  ·show p.a.oi+1=p.na+1;omega
  ·show p.b.ii+1=p.na+1;omega
  ·show nI p.ia p.na=p.na+1;rw[e1.2.2,Nz]
  ·show nJ p.ia p.ja p.na=[];rw[h.j.1,e1.2.2,Ny]
  ·show p.na+1+p.nb≤T+1;omega
  ·show(p.fl++[_]).length≤T+1;rw[List.length_append];simp;omega
  ·show(p.fl++[_]).length=p.na+1+p.nb;rw[List.length_append];simp;omega
  ·show(Dm false p.b.low p.b.mx p.a.ep (max p.b.told p.a.ep) ks).1+(Dm false p.b.low p.b.mx p.a.ep (max p.b.told p.a.ep) ks).2.length=G7 s2 ep2+1
   omega
  ·exact e6.1
  ·show p.a.last≤max p.b.told p.a.ep;omega
  ·show(Dm false p.b.low p.b.mx p.a.ep (max p.b.told p.a.ep) ks).1≤p.a.ep;omega
  ·show p.a.ep≤p.a.ep;omega
  ·show(Dm false p.b.low p.b.mx p.a.ep (max p.b.told p.a.ep) ks).1≤max p.b.told p.a.ep;omega
  ·show max p.b.told p.a.ep≤p.a.ep;omega
  ·show p.a.told≤T+1;omega
  ·show KI p.a.ep (p.a.pc rand).2.1 (p.a.pc rand).2.2.1 p.a.bx s2 ep2 t2 b2
   rw[hpc];exact hk2
  ·show(p.a.pc rand).1≤T+1
   rw[hpc];show p.a.at_+1≤T+1;omega
  ·show a2≤T+1;omega
  ·show p.a.ep≤T+1;omega
  ·exact h.ma.mono fun j hj=>hM j Ac
end
end Go.Sx.Tryz
namespace Go.Sx.Tryz
open Go.Mi Go.RowKit Go.Sx Go.Proofs
noncomputable section
theorem Aen {ida idb : List Int} {a b : EndH} (h : XN ida idb a b = true) (h1 : a.low ≤ min (a.low + a.mx.length - 1) (b.low + b.mx.length - 1)) (h2 : b.low ≤ min (a.low + a.mx.length - 1) (b.low + b.mx.length - 1)) :
  a.mx.getD (min (a.low+a.mx.length-1) (b.low+b.mx.length-1)-a.low) (rz [.sl (.int .u8)])=b.mx.getD (min (a.low+a.mx.length-1) (b.low+b.mx.length-1)-b.low) (rz [.sl (.int .u8)]):=by
 unfold XN at h
 rw[RA]at h;unfold ZC at h
 by_cases hi:ida=idb
 ·rw[if_pos hi,if_neg Ac,if_neg Ac]at h
  exact of_decide_eq_true h
 ·rw[if_neg hi]at h;cases h
theorem INV.stepB {T : Nat} {p : PS} {M : Nat → List Int} (h : INV T p M) (hT : T ≤ 9000) {text rand r2 : List Int} (ht : text.length ≤ 500) (hy : By text) (hr : rand.length = 128) (hr2 : r2.length = 128) :
  SndOk false p.b∧∃e2,AbL p.ida true 1 (p.sndB text rand).a (p.sndB text rand).fl (p.sndB text rand).ib (p.sndB text rand).jb p.fl.length r2 p.nb text (p.b.frame false text rand) e2
   ∧EOk true e2∧SndOk false (p.b.sent rand)∧(XN p.ida p.idb e2 (p.b.sent rand)=true→INV (T+1) ((p.sndB text rand).dlvB e2 p.nb) M)∧(p.b.sent rand).at_=(if p.b.st=2 then p.b.at_ else p.b.at_+1)∧StA p.a.ep p.a.at_ p.a.bx p.b.st p.b.ep (p.b.at_%2) e2.ep e2.at_ e2.bx:=by
 obtain⟨oa,ob⟩:=h.ok Ac
 obtain⟨k1,k2,k3,k4,k5,k6,k7,k8,k9⟩:=h.ki.ne
 have e1:=h.na;have e2:=h.nb;have e3:=h.t;have e4:=h.ea;have e5:=h.eb;have e6:=h.la;have e7:=h.lb;have e8:=h.ta;have e9:=h.at_;have e10:=h.ep;have e11:=h.st;have e12:=h.rida;have e13:=h.ridb;have p1:=h.ma.pos;have p2:=h.mb.pos;have hfr:=h.fr
 have ho:=Agn (at_:=p.b.at_) h.ki p.b.sd p.b.rid p.b.rln (rand.take 64)
 have hpc:p.b.pc rand=if p.b.st=2 then(p.b.at_,p.b.sd,p.b.tx,[])else(p.b.at_+1,p.b.sd,p.b.tx,Dx (2*p.b.ep+1) (p.b.at_%2) 2 (pc p.b.tx 1000 (p.b.at_%2))):=ho
 have hpc1:(p.b.pc rand).1≤p.b.at_+1∧(p.b.pc rand).2.1=p.b.sd∧(p.b.pc rand).2.2.1=p.b.tx:=by
  rw[hpc];split
  ·exact⟨Nat.le_succ _,rfl,rfl⟩
  ·exact⟨Nat.le_refl _,rfl,rfl⟩
 obtain ⟨pid, pa, d, hpk, ep2, a2, d2, t2, b2, ks, hX, hk2, ha2, hn2, hks, hSt⟩ : ∃ pid pa d, XU 1 p.a.ep p.a.sd p.a.tx p.a.bx ((p.b.pc rand).2.2.2) pid pa d ∧ ∃ ep2 a2 d2 t2 b2 ks, FI 1 p.a.ep p.a.at_ p.a.sd p.a.tx (2 * p.a.ep + 1) 1088 p.a.bx ((p.b.pc rand).2.2.2) pid pa d (r2.drop 64) = (1, ep2, a2, d2, t2, 2 * ep2 + 1, 1088, b2, ks)
   ∧KI ep2 d2 t2 b2 p.b.st p.b.ep p.b.tx p.b.bx∧a2≤p.a.at_∧ep2=p.a.ep+ks.length∧ks.length≤1∧StA p.a.ep p.a.at_ p.a.bx p.b.st p.b.ep (p.b.at_%2) ep2 a2 b2:=by
  rw[hpc]
  rcases k1 with k|k
  ·rw[if_pos k]
   exact⟨0,0,[],.inl rfl,p.a.ep,p.a.at_,p.a.sd,p.a.tx,p.a.bx,[],bO ..,h.ki,Nat.le_refl _,rfl,Nat.zero_le _,[],fun _=>⟨rfl,rfl,rfl⟩,by omega,by omega⟩
  ·rw[if_neg Ac]
   exact⟨_,_,_,inA h.ki Ac k (Nat.mod_lt _ (by decide)) p.a.at_ (r2.drop 64)⟩
 have hnum:p.b.num false=p.b.told:=by unfold EndH.num AV;rw[if_neg (by decide)];omega
 have hmix:p.a.mx.getD (p.b.told-p.a.low) (rz [.sl (.int .u8)])=p.b.mx.getD (p.b.told-p.b.low) (rz [.sl (.int .u8)]):=by rw[h.mb.out Ac Ac,h.ma.out Ac Ac]
 have hF:p.b.frame false text rand=iW p.a.ik (p.b.mx.getD (p.b.told-p.b.low) (rz [.sl (.int .u8)])) p.nb p.b.told (G7 p.b.st p.b.ep) (p.b.pc rand).2.2.2 text:=by
  unfold EndH.frame
  rw[hnum,h.kba,e2.1,show p.b.low+p.b.mx.length-1=G7 p.b.st p.b.ep by omega]
 have hG:=aM p.ida true (r:=p.a) (n:=p.nb) (l:=G7 p.b.st p.b.ep) r2 e2.2.1 h.kl.1 Ac Ac hmix ⟨by omega,by omega,by omega⟩ (EndH.pc_le ob.toSndOk hr) ht hy (by rw[e11];exact hpk)
 rw[e11,e12.1,e12.2,hX]at hG
 have hmn:p.a.low≤AV true p.a.low (KS p.a.mx ks).length (max p.a.told (G7 p.b.st p.b.ep)):=by
  have hl:p.a.mx.length≤(KS p.a.mx ks).length:=by
   match ks,hks with
   |[],_=>exact Nat.le_refl _
   |[k],_=>show _≤(p.a.mx++[_]).length;rw[List.length_append];omega
  unfold AV;rw[if_pos rfl];omega
 obtain⟨hml,M2,hM,h32,hMI,hlo,hle⟩:=h.ma.put h.m32 true p.b.told (max p.a.told (G7 p.b.st p.b.ep)) ks hks Ac Ac hmn
 have hlo2:(Dm true p.a.low p.a.mx p.b.told (max p.a.told (G7 p.b.st p.b.ep)) ks).1=p.b.told:=by
  rw[hlo];unfold AV;rw[if_pos rfl];omega
 have hfl:=ob.toSndOk.len ht hr
 have hkn:=hk2.ne
 have I0:IN0 (T+1) ((p.sndB text rand).dlvB (p.a.got true p.b.told (G7 p.b.st p.b.ep) (1,ep2,a2,d2,t2,2*ep2+1,1088,b2,ks)) p.nb) M:=by
  refine⟨h.id,h.ka,Mb _,h.kab,?_,h.na,⟨?_,?_,?_⟩,⟨h.j.1,?_⟩,⟨rfl,h.kl.2⟩,⟨?_,?_⟩,?_,?_,h.eb,h.m32,h.mb,⟨?_,?_⟩,⟨?_,?_,?_,?_⟩,?_,rfl,?_,⟨rfl,rfl⟩,⟨e13.1,e13.2⟩,⟨?_,?_⟩,?_⟩
  ·show Oa p.a.ik=Oa p.b.ok;rw[h.kba]
  ·show p.b.oi+1=p.nb+1;omega
  ·show p.a.ii+1=p.nb+1;omega
  ·show nI p.ib p.nb=p.nb+1;rw[e2.2.2,Nz]
  ·show nJ p.ib p.jb p.nb=[];rw[h.j.2,e2.2.2,Ny]
  ·show p.na+(p.nb+1)≤T+1;omega
  ·show(p.fl++[_]).length≤T+1;rw[List.length_append];simp;omega
  ·show(p.fl++[_]).length=p.na+(p.nb+1);rw[List.length_append];simp;omega
  ·show(Dm true p.a.low p.a.mx p.b.told (max p.a.told (G7 p.b.st p.b.ep)) ks).1+(Dm true p.a.low p.a.mx p.b.told (max p.a.told (G7 p.b.st p.b.ep)) ks).2.length=ep2+1
   omega
  ·show(Dm true p.a.low p.a.mx p.b.told (max p.a.told (G7 p.b.st p.b.ep)) ks).1≤p.b.told;omega
  ·show p.b.told≤p.b.told;omega
  ·exact e7.1
  ·show p.b.last≤ep2;omega
  ·exact e7.2.2.1
  ·show p.b.told≤ep2;omega
  ·show max p.a.told (G7 p.b.st p.b.ep)≤T+1;omega
  ·show KI ep2 d2 t2 b2 p.b.st p.b.ep (p.b.pc rand).2.2.1 p.b.bx
   rw[hpc1.2.2];exact hk2
  ·show a2≤T+1;omega
  ·show(p.b.pc rand).1≤T+1;omega
  ·show ep2≤T+1;omega
 refine⟨ob.toSndOk,p.a.got true p.b.told (G7 p.b.st p.b.ep) (1,ep2,a2,d2,t2,2*ep2+1,1088,b2,ks),⟨oa,by rw[hF];exact hG,by omega,PV _ _|>.trans (by rw[e2.1];rfl),⟨?_,by omega⟩,?_,⟨by omega,?_⟩,?_,?_,?_,M4⟩,?_,⟨Mb _,ob.ik,?_,ob.ii,ob.m1,ob.m2,ob.low,ob.mn,ob.st,ob.ep,?_,?_,?_⟩,fun hag=>⟨I0,?_⟩,by show(p.b.pc rand).1=_;rw[hpc];split<;>rfl,hSt⟩
 ·show p.fl.length<(p.fl++[_]).length
  rw[List.length_append];exact Nat.lt_succ_self _
 ·show RI p.ib p.jb
  rw[h.j.2];exact Jt _
 ·show p.ib≤1000000;omega
 ·show It p.ib p.jb p.nb=true
  rw[h.j.2,e2.2.2];exact OA _
 ·show p.a.ii+1=nI p.ib p.nb
  rw[e2.2.2,e2.2.1,Nz]
 ·show Vu []=ints (nJ p.ib p.jb p.nb)
  rw[h.j.2,e2.2.2,Ny];rfl
 ·have hmb:=hMI.pos
  refine⟨⟨h.ka,Mb _,?_,?_,⟨hmb,?_⟩,hMI.m2 h32,?_,?_,.inl rfl,?_,?_,⟨fun _=>hkn.2.2.2.2.2.2.2.2,fun e=>absurd (show(1:Nat)=3 from e) (by decide)⟩,?_⟩,M4,⟨?_,?_⟩,?_,rfl,rfl,hkn.2.2.2.2.1⟩
  ·exact(by omega:p.a.oi≤1000000)
  ·show p.a.ii+1≤1000000;omega
  ·show(Dm true p.a.low p.a.mx p.b.told (max p.a.told (G7 p.b.st p.b.ep)) ks).2.length≤80000;omega
  ·show(Dm true p.a.low p.a.mx p.b.told (max p.a.told (G7 p.b.st p.b.ep)) ks).1≤10000000;omega
  ·show(Dm true p.a.low p.a.mx p.b.told (max p.a.told (G7 p.b.st p.b.ep)) ks).1≤AV true _ (Dm true p.a.low p.a.mx p.b.told (max p.a.told (G7 p.b.st p.b.ep)) ks).2.length _
   unfold AV;rw[if_pos rfl]
   exact Nat.le_sub_one_of_lt (Nat.lt_add_of_pos_right hmb)
  ·show ep2≤100000000;omega
  ·show a2≤100000000;omega
  ·show t2.length≤10000;have :=hkn.2.2.2.2.2.2.2.2;omega
  ·show(Dm true p.a.low p.a.mx p.b.told (max p.a.told (G7 p.b.st p.b.ep)) ks).1≤p.b.told;omega
  ·show p.b.told≤20000000;omega
  ·show max p.a.told (G7 p.b.st p.b.ep)≤20000000;omega
 ·show p.b.oi+1≤1000000;omega
 ·show(p.b.pc rand).1≤100000000;omega
 ·show(p.b.st=1→(p.b.pc rand).2.2.1.length=0∨(p.b.pc rand).2.2.1.length=1184)∧(p.b.st=3→(p.b.pc rand).2.2.1.length=1088)
  rw[hpc1.2.2];exact ob.tx
 ·show(p.b.pc rand).2.2.1.length≤10000
  rw[hpc1.2.2];exact ob.txl
 ·show MI M (Dm true p.a.low p.a.mx p.b.told (max p.a.told (G7 p.b.st p.b.ep)) ks).1 (Dm true p.a.low p.a.mx p.b.told (max p.a.told (G7 p.b.st p.b.ep)) ks).2
  have ha:=Aen hag
  have hag':(Dm true p.a.low p.a.mx p.b.told (max p.a.told (G7 p.b.st p.b.ep)) ks).1≤min ((Dm true p.a.low p.a.mx p.b.told (max p.a.told (G7 p.b.st p.b.ep)) ks).1+(Dm true p.a.low p.a.mx p.b.told (max p.a.told (G7 p.b.st p.b.ep)) ks).2.length-1) (p.b.low+p.b.mx.length-1)→p.b.low≤min ((Dm true p.a.low p.a.mx p.b.told (max p.a.told (G7 p.b.st p.b.ep)) ks).1+(Dm true p.a.low p.a.mx p.b.told (max p.a.told (G7 p.b.st p.b.ep)) ks).2.length-1) (p.b.low+p.b.mx.length-1)→
   (Dm true p.a.low p.a.mx p.b.told (max p.a.told (G7 p.b.st p.b.ep)) ks).2.getD (min ((Dm true p.a.low p.a.mx p.b.told (max p.a.told (G7 p.b.st p.b.ep)) ks).1+(Dm true p.a.low p.a.mx p.b.told (max p.a.told (G7 p.b.st p.b.ep)) ks).2.length-1) (p.b.low+p.b.mx.length-1)-(Dm true p.a.low p.a.mx p.b.told (max p.a.told (G7 p.b.st p.b.ep)) ks).1) (rz [.sl (.int .u8)])=p.b.mx.getD (min ((Dm true p.a.low p.a.mx p.b.told (max p.a.told (G7 p.b.st p.b.ep)) ks).1+(Dm true p.a.low p.a.mx p.b.told (max p.a.told (G7 p.b.st p.b.ep)) ks).2.length-1) (p.b.low+p.b.mx.length-1)-p.b.low) (rz [.sl (.int .u8)]):=ha
  clear ha
  generalize(Dm true p.a.low p.a.mx p.b.told (max p.a.told (G7 p.b.st p.b.ep)) ks).1=lo at *
  generalize(Dm true p.a.low p.a.mx p.b.told (max p.a.told (G7 p.b.st p.b.ep)) ks).2=mx at *
  have hpos:=hMI.pos
  refine hMI.mono fun j hj=> ?_
  rcases Nat.lt_or_ge j (p.a.low+p.a.mx.length)with hj2|hj2
  ·exact(hM j hj2).symm
  ·have hmin:min (lo+mx.length-1) (p.b.low+p.b.mx.length-1)=j:=by omega
   rw[hmin]at hag'
   have :=hag' Ac Ac
   rw[hMI.out Ac Ac,h.mb.out Ac Ac]at this
   exact this.symm
end
end Go.Sx.Tryz
namespace Go.Sx.Tryz
open Go.Mi Go.RowKit Go.Sx Go.Proofs
noncomputable section
theorem Acf (root:List Int):INV 0 (GJ root) (fun _=>pM root):=by
 have hm:∀(e:List (List Int)),e=[pM root]→MI (fun _=>pM root) 0 e:=fun e h=>by
  subst h
  exact⟨Nat.le_refl 1,fun i hi=>by
   have :i=0:=by simp at hi;omega
   subst this;rfl⟩
 refine⟨⟨rfl,Qn _,Qm _,rfl,rfl,⟨rfl,rfl,rfl⟩,⟨rfl,rfl,rfl⟩,⟨rfl,rfl⟩,⟨rfl,rfl⟩,⟨Nat.le_refl _,Nat.le_refl _⟩,rfl,rfl,rfl,fun _=>Nat.le_of_eq (YC _),hm _ rfl,⟨Nat.le_refl _,Nat.le_refl _⟩,⟨Nat.le_refl _,Nat.le_refl _,Nat.le_refl _,Nat.le_refl _⟩,Nat.le_refl _,rfl,⟨.inl rfl,.inl ⟨rfl,rfl,rfl,rfl,Good.nil _ _ _,fun _=>rfl⟩⟩,⟨rfl,rfl⟩,⟨rfl,rfl⟩,⟨Nat.le_refl _,Nat.le_refl _⟩,Nat.le_refl _⟩,hm _ rfl⟩
def sl (b:List (Option (List Int))) (j:Nat):Prop:=(List.getD (α:=Option (List Int)) b j none).isSome=true
theorem kQ {b:List (Option (List Int))} {pa:Nat} {d:List Int} (h:pa<b.length):sl (A9 b pa d) pa:=by
 unfold sl;rw[LY h,if_pos rfl];rfl
theorem AbS {b:List (Option (List Int))} {pa j:Nat} {d:List Int} (h:pa<b.length) (hs:sl b j):sl (A9 b pa d) j:=by
 unfold sl at hs⊢;rw[LY h];split
 ·rfl
 ·exact hs
theorem Afa {b:List (Option (List Int))} (h:b.length=2) (h0:sl b 0) (h1:sl b 1):full b=true:=OI.2 fun j hj=>by
 have :j=0∨j=1:=by omega
 rcases this with e|e<;>rw[e]<;>assumption
structure Pg (i ea aat:Nat) (ba:List (Option (List Int))) (sb eb bat:Nat) (bb:List (Option (List Int))):Prop where
 ep:ea=i/3
 p0:i%3=0→aat=0∧(sb=2→bb=B0)∧(sb=3→eb+1=ea)
 p1:i%3=1→aat=1∧sb=2∧sl bb 0
 p2:i%3=2→aat=2∧sb=3∧eb=ea∧bat=1∧sl ba 0
structure Pm (i ea aat:Nat) (ba:List (Option (List Int))) (sb eb bat:Nat) (bb:List (Option (List Int))):Prop where
 ep:ea=i/3
 p0:i%3=0→aat=1∧sb=2∧sl bb 0
 p1:i%3=1→aat=2∧sb=3∧eb=ea∧bat=0∧ba=B0
 p2:i%3=2→aat=3∧sb=3∧eb=ea∧bat=1∧sl ba 0
theorem Pm.done {i ea aat:Nat} {sa ta:List Int} {ba:List (Option (List Int))} {sb eb bat:Nat} {tb:List Int} {bb:List (Option (List Int))} {e a:Nat} {b:List (Option (List Int))} (h:Pm i ea aat ba sb eb bat bb) (hk:KI ea sa ta ba sb eb tb bb) (hs:StA ea aat ba sb eb (bat%2) e a b):Pg (i+1) e a b sb eb (if sb=2 then bat else bat+1) bb:=by
 obtain⟨d,f1,f2,f3⟩:=hs
 have hn:=hk.ne
 have h3:i%3=0∨i%3=1∨i%3=2:=by omega
 have hep:=h.ep
 rcases h3 with e0|e1|e2
 ·obtain⟨g1,g2,g3⟩:=h.p0 e0
  obtain⟨r1,r2,r3⟩:=f1 g2
  exact⟨by omega,by omega,fun _=>⟨by omega,g2,g3⟩,by omega⟩
 ·obtain⟨g1,g2,g3,g4,g5⟩:=h.p1 e1
  subst g4 g5
  obtain⟨r1,r2,r3⟩:=f3 g2 g3 (ZN d (by decide))
  exact⟨by omega,by omega,by omega,fun _=>⟨by omega,g2,by omega,by rw[if_neg Ac],by rw[r3];exact kQ (by decide)⟩⟩
 ·obtain⟨g1,g2,g3,g4,g5⟩:=h.p2 e2
  subst g4
  have hl:ba.length=2:=hn.2.2.2.2.1
  obtain⟨r1,r2⟩:=f2 g2 g3 (Afa (by rw[Gu];exact hl) (AbS Ac g5) (kQ Ac))
  exact⟨by omega,fun _=>⟨r2,by omega,by omega⟩,by omega,by omega⟩
end
end Go.Sx.Tryz
namespace Go.Sx.Tryz
open Go.Mi Go.RowKit Go.Sx Go.Proofs
noncomputable section
theorem Agp {b:Bool} (h:¬((!b)=true)):b=true:=by
 cases b
 ·exact absurd rfl h
 ·rfl
end
end Go.Sx.Tryz
namespace Go.Sx.Tryz
open Go.Mi Go.RowKit Go.Sx Go.Proofs
noncomputable section
structure PN where
 id:List Int
 A:List Int
 B:List Int
 mx:List (List Int)
 na:Nat
 ia:Nat
 ja:List Nat
 nb:Nat
 ib:Nat
 jb:List Nat
 fl:List (Int×Int×List Int×List Int)
section
variable (p:PN)
def PN.fA (n:Nat) (t:List Int):List Int:=frm p.mx (AA p.A n) n t
def PN.fB (n:Nat) (t:List Int):List Int:=frm p.mx (AA p.B n) n t
def PN.sndA (t:List Int):PN:={p with na:=p.na+1,fl:=p.fl++[((0:Int),((p.na:Nat):Int),t,p.fA p.na t)]}
def PN.sndB (t:List Int):PN:={p with nb:=p.nb+1,fl:=p.fl++[((1:Int),((p.nb:Nat):Int),t,p.fB p.nb t)]}
def PN.dlvA (n:Nat):PN:={p with ia:=nI p.ia n,ja:=nJ p.ia p.ja n}
def PN.dlvB (n:Nat):PN:={p with ib:=nI p.ib n,jb:=nJ p.ib p.jb n}
end
structure ZI (p:PN):Prop where
 A:p.A.length=32
 B:p.B.length=32
 m:p.mx.length=1
 m2:∀j,(p.mx.getD j (rz [.sl (.int .u8)])).length≤32
 ra:RI p.ia p.ja
 rb:RI p.ib p.jb
 le:(p.na≤100000∧p.nb≤100000)∧p.ia≤100000∧p.ib≤100000
 fl:p.fl.length≤100000
section
variable (p:PN) (text rand:List Int)
def AfX:Con:=⟨[.cp 0 0,vi 0,lb text,lb rand],[(0,F9 1 4 p.na p.ia (ints p.ja) p.nb p.ib (ints p.jb) 7),(1,BU p.id true false 2 3 p.mx (CK p.mx p.B p.jb)),(2,Aj (AA p.A p.na) p.na),(3,Aj (AA p.B p.ib) p.ib),(4,BU p.id false false 5 6 p.mx (CK p.mx p.A p.ja)),(5,Aj (AA p.B p.nb) p.nb),(6,Aj (AA p.A p.ia) p.ia),(7,.sl 48 [.int .i64,.int .i64,.sl (.int .u8),.sl (.int .u8)] p.fl)],.v (.bool true),[(0,F9 1 4 ((p.sndA text).na) ((p.sndA text).ia) (ints (p.sndA text).ja) ((p.sndA text).nb) ((p.sndA text).ib) (ints (p.sndA text).jb) 8),(1,BU ((p.sndA text).id) true false 2 3 ((p.sndA text).mx) (CK (p.sndA text).mx (p.sndA text).B (p.sndA text).jb)),(2,Aj (AA (p.sndA text).A (p.sndA text).na) ((p.sndA text).na)),(3,Aj (AA (p.sndA text).B (p.sndA text).ib) ((p.sndA text).ib)),(4,BU ((p.sndA text).id) false false 5 6 ((p.sndA text).mx) (CK (p.sndA text).mx (p.sndA text).A (p.sndA text).ja)),(5,Aj (AA (p.sndA text).B (p.sndA text).nb) ((p.sndA text).nb)),(6,Aj (AA (p.sndA text).A (p.sndA text).ia) ((p.sndA text).ia)),(8,.sl 48 [.int .i64,.int .i64,.sl (.int .u8),.sl (.int .u8)] ((p.sndA text).fl))]⟩
theorem Acx (hp:ZI p) (htx:text.length≤500) (hr:rand.length=128):ConOk Tryz.prog 14 (AfX p text rand):=by
 refine cy 8 Tryz.func14 rfl Tryz.ntmps14 fun hg0 hS=> ?_
 have B2:text.length≤9223372036854775807:=hS.len 2 rfl
 have HE:rand.length≤9223372036854775807:=hS.len 3 rfl
 have E4:p.fl.length≤9223372036854775807:=hS.lens 7 rfl
 have hx1:¬(500:Int)<((text.length:Nat):Int):=Ac
 refine Ae [] 8 hS fun hS=>Ax [(4,AD 0 2),(8,AM (PO p.id true (AA p.A p.na) p.na (AA p.B p.ib) p.ib p.mx (CK p.mx p.B p.jb) text rand (Du hp.A _) (Du hp.B _) (by have :=hp.le;omega) (by have :=hp.le;omega) hp.m hp.m2 htx hr) [(0,1),(1,2),(2,3)] [])] [] 8 hS fun hS=>Av (Ax [(2,DC hx1)] [] 8 hS fun hS=>Ai hS (DU (Av ?_)))
 have hfl:=OJ p.mx (AA p.A p.na) (n:=p.na) (text:=text) (by have :=hp.le;omega) htx
 have hq3:((p.na:Nat):Int)=((p.na:Nat):Int):=rfl
 have hq1:¬(4000:Int)<(((frm p.mx (AA p.A p.na) p.na text).length:Nat):Int):=Ac
 have hq2:¬(((frm p.mx (AA p.A p.na) p.na text).length:Nat):Int)=0:=Ac
 refine As [(8,AD 0 2),(11,GH hq3),(16,DC hq1),(21,DC hq2)] [] 8 hS fun hS=>Ab (Ai hS (DU ?_))
 have hple:=hp.le
 refine As [(4,AD 0 2),(7,BH p.na),(10,AD 0 2)] [] 8 hS fun hS=>Ej ?_
 have hfll:=hp.fl
 refine As [(11,FW p.fl.length 1 64)] [] 9 hS fun hS=>Ej ?_
 have hq4:(((p.na+1):Nat):Int)=((p.na+1:Nat):Int):=rfl
 exact As [(4,AD 0 2),(6,AM (PC p.id true (Oa (AA p.A p.na)) (p.na+1) (AA p.B p.ib) p.ib 0 p.mx 0 0 (CK p.mx p.B p.jb)) [(0,1),(1,2),(2,3)] []),(11,AD 0 2),(14,GG hq4)] [] 9 hS fun hS=>DX (BW hS)
def AfW:Con:=⟨[.cp 0 0,vi 1,lb text,lb rand],[(0,F9 1 4 p.na p.ia (ints p.ja) p.nb p.ib (ints p.jb) 7),(1,BU p.id true false 2 3 p.mx (CK p.mx p.B p.jb)),(2,Aj (AA p.A p.na) p.na),(3,Aj (AA p.B p.ib) p.ib),(4,BU p.id false false 5 6 p.mx (CK p.mx p.A p.ja)),(5,Aj (AA p.B p.nb) p.nb),(6,Aj (AA p.A p.ia) p.ia),(7,.sl 48 [.int .i64,.int .i64,.sl (.int .u8),.sl (.int .u8)] p.fl)],.v (.bool true),[(0,F9 1 4 ((p.sndB text).na) ((p.sndB text).ia) (ints (p.sndB text).ja) ((p.sndB text).nb) ((p.sndB text).ib) (ints (p.sndB text).jb) 8),(1,BU ((p.sndB text).id) true false 2 3 ((p.sndB text).mx) (CK (p.sndB text).mx (p.sndB text).B (p.sndB text).jb)),(2,Aj (AA (p.sndB text).A (p.sndB text).na) ((p.sndB text).na)),(3,Aj (AA (p.sndB text).B (p.sndB text).ib) ((p.sndB text).ib)),(4,BU ((p.sndB text).id) false false 5 6 ((p.sndB text).mx) (CK (p.sndB text).mx (p.sndB text).A (p.sndB text).ja)),(5,Aj (AA (p.sndB text).B (p.sndB text).nb) ((p.sndB text).nb)),(6,Aj (AA (p.sndB text).A (p.sndB text).ia) ((p.sndB text).ia)),(8,.sl 48 [.int .i64,.int .i64,.sl (.int .u8),.sl (.int .u8)] ((p.sndB text).fl))]⟩
theorem Acw (hp:ZI p) (htx:text.length≤500) (hr:rand.length=128):ConOk Tryz.prog 14 (AfW p text rand):=by
 refine cy 8 Tryz.func14 rfl Tryz.ntmps14 fun hg0 hS=> ?_
 have B2:text.length≤9223372036854775807:=hS.len 2 rfl
 have HE:rand.length≤9223372036854775807:=hS.len 3 rfl
 have E4:p.fl.length≤9223372036854775807:=hS.lens 7 rfl
 have hx1:¬(500:Int)<((text.length:Nat):Int):=Ac
 refine Ae [] 8 hS fun hS=>Ax [(4,AD 1 2),(8,AM (PO p.id false (AA p.B p.nb) p.nb (AA p.A p.ia) p.ia p.mx (CK p.mx p.A p.ja) text rand (Du hp.B _) (Du hp.A _) (by have :=hp.le;omega) (by have :=hp.le;omega) hp.m hp.m2 htx hr) [(0,4),(1,5),(2,6)] [])] [] 8 hS fun hS=>Av (Ax [(2,DC hx1)] [] 8 hS fun hS=>Ai hS (DU (Av ?_)))
 have hfl:=OJ p.mx (AA p.B p.nb) (n:=p.nb) (text:=text) (by have :=hp.le;omega) htx
 have hq3:((p.nb:Nat):Int)=((p.nb:Nat):Int):=rfl
 have hq1:¬(4000:Int)<(((frm p.mx (AA p.B p.nb) p.nb text).length:Nat):Int):=Ac
 have hq2:¬(((frm p.mx (AA p.B p.nb) p.nb text).length:Nat):Int)=0:=Ac
 refine As [(8,AD 1 2),(11,GH hq3),(16,DC hq1),(21,DC hq2)] [] 8 hS fun hS=>Ab (Ai hS (DU ?_))
 have hple:=hp.le
 refine As [(4,AD 1 2),(7,BH p.nb),(10,AD 1 2)] [] 8 hS fun hS=>Ej ?_
 have hfll:=hp.fl
 refine As [(11,FW p.fl.length 1 64)] [] 9 hS fun hS=>Ej ?_
 have hq4:(((p.nb+1):Nat):Int)=((p.nb+1:Nat):Int):=rfl
 exact As [(4,AD 1 2),(6,AM (PC p.id false (Oa (AA p.B p.nb)) (p.nb+1) (AA p.A p.ia) p.ia 0 p.mx 0 0 (CK p.mx p.A p.ja)) [(0,4),(1,5),(2,6)] []),(11,AD 1 2),(14,GG hq4)] [] 9 hS fun hS=>DX (BW hS)
end
section
variable (id A B:List Int) (mx:List (List Int)) (na ia:Nat) (ja:List Nat) (nb ib:Nat) (jb:List Nat) (fl:List (Int×Int×List Int×List Int))
def AdR:Con:=Cq [.cp 0 0,vi 1] [(0,F9 1 4 na ia (ints ja) nb ib (ints jb) 7),(1,BU id true false 2 3 mx (CK mx B jb)),(2,Aj (AA A na) na),(3,Aj (AA B ib) ib),(4,BU id false false 5 6 mx (CK mx A ja)),(5,Aj (AA B nb) nb),(6,Aj (AA A ia) ia),(7,.sl 48 [.int .i64,.int .i64,.sl (.int .u8),.sl (.int .u8)] fl)] (.v (.bool true))
theorem wS (hR:RI ia ja) (hi:ia≤1000000):ConOk Tryz.prog 27 (AdR id A B mx na ia ja nb ib jb fl):=by
 refine cy 8 Tryz.func27 rfl Tryz.ntmps27 fun hg0 hS=> ?_
 have E4:fl.length≤9223372036854775807:=hS.lens 7 rfl
 refine Ae [] 8 hS fun hS=>Ax [(5,AD 0 2)] [5] 9 hS fun hS=>Av ?_
 have hq1:(ia:Int)=(ia:Int):=rfl
 exact As [(4,AD 1 2),(6,AM (PG id false (AA B nb) nb (AA A ia) ia 0 mx 0 0 (CK mx A ja)) [(0,4),(1,5),(2,6)] []),(9,GG hq1),(15,AD 1 2),(17,AM (JD id false (AA B nb) nb A ia mx ja hR hi) [(0,4),(1,5),(2,6)] []),(20,AP (Ja (ints ja) (ints ja) rfl))] [] 9 hS fun hS=>DX (BW hS)
def AdS:Con:=Cq [.cp 0 0,vi 0] [(0,F9 1 4 na ia (ints ja) nb ib (ints jb) 7),(1,BU id true false 2 3 mx (CK mx B jb)),(2,Aj (AA A na) na),(3,Aj (AA B ib) ib),(4,BU id false false 5 6 mx (CK mx A ja)),(5,Aj (AA B nb) nb),(6,Aj (AA A ia) ia),(7,.sl 48 [.int .i64,.int .i64,.sl (.int .u8),.sl (.int .u8)] fl)] (.v (.bool true))
theorem wT (hR:RI ib jb) (hi:ib≤1000000):ConOk Tryz.prog 27 (AdS id A B mx na ia ja nb ib jb fl):=by
 refine cy 8 Tryz.func27 rfl Tryz.ntmps27 fun hg0 hS=> ?_
 have E4:fl.length≤9223372036854775807:=hS.lens 7 rfl
 refine Ae [] 8 hS fun hS=>Ax [(5,AD 1 2)] [5] 9 hS fun hS=>Av ?_
 have hq1:(ib:Int)=(ib:Int):=rfl
 exact As [(4,AD 0 2),(6,AM (PG id true (AA A na) na (AA B ib) ib 0 mx 0 0 (CK mx B jb)) [(0,1),(1,2),(2,3)] []),(9,GG hq1),(15,AD 0 2),(17,AM (JD id true (AA A na) na B ib mx jb hR hi) [(0,1),(1,2),(2,3)] []),(20,AP (Ja (ints jb) (ints jb) rfl))] [] 9 hS fun hS=>DX (BW hS)
end
end
end Go.Sx.Tryz
namespace Go.Sx.Tryz
open Go.Mi Go.RowKit Go.Sx Go.Proofs
noncomputable section
section
variable (p:PN) (k:Nat) (rand:List Int) (n:Nat)
def AdW (text:List Int):Con:=⟨[.cp 0 0,vi (k:Int),lb rand],[(0,F9 1 4 p.na p.ia (ints p.ja) p.nb p.ib (ints p.jb) 7),(1,BU p.id true false 2 3 p.mx (CK p.mx p.B p.jb)),(2,Aj (AA p.A p.na) p.na),(3,Aj (AA p.B p.ib) p.ib),(4,BU p.id false false 5 6 p.mx (CK p.mx p.A p.ja)),(5,Aj (AA p.B p.nb) p.nb),(6,Aj (AA p.A p.ia) p.ia),(7,.sl 48 [.int .i64,.int .i64,.sl (.int .u8),.sl (.int .u8)] p.fl)],.v (.bool true),[(0,F9 1 4 ((p.dlvA n).na) ((p.dlvA n).ia) (ints (p.dlvA n).ja) ((p.dlvA n).nb) ((p.dlvA n).ib) (ints (p.dlvA n).jb) 7),(1,BU ((p.dlvA n).id) true false 2 3 ((p.dlvA n).mx) (CK (p.dlvA n).mx (p.dlvA n).B (p.dlvA n).jb)),(2,Aj (AA (p.dlvA n).A (p.dlvA n).na) ((p.dlvA n).na)),(3,Aj (AA (p.dlvA n).B (p.dlvA n).ib) ((p.dlvA n).ib)),(4,BU ((p.dlvA n).id) false false 8 9 ((p.dlvA n).mx) (CK (p.dlvA n).mx (p.dlvA n).A (p.dlvA n).ja)),(5,Aj (AA p.B p.nb) p.nb),(6,Aj (AA p.A p.ia) p.ia),(7,.sl 48 [.int .i64,.int .i64,.sl (.int .u8),.sl (.int .u8)] ((p.dlvA n).fl)),(8,Aj (AA (p.dlvA n).B (p.dlvA n).nb) ((p.dlvA n).nb)),(9,Aj (AA (p.dlvA n).A (p.dlvA n).ia) ((p.dlvA n).ia))]⟩
theorem wZ (text:List Int) (hp:ZI p) (hrow:p.fl.getD k (rz [.int .i64,.int .i64,.sl (.int .u8),.sl (.int .u8)])=((0:Int),(n:Int),text,frm p.mx (AA p.A n) n text)) (hk:k<p.fl.length∧k<1000000) (hn:n<100000) (htx:text.length≤500) (hby:By text) (hr:rand.length=128) (hs:It p.ia p.ja n=true):ConOk Tryz.prog 16 (AdW p k rand n text):=by
 refine cy 8 Tryz.func16 rfl Tryz.ntmps16 fun hg0 hS=> ?_
 have B2:rand.length≤9223372036854775807:=hS.len 2 rfl
 have E4:p.fl.length≤9223372036854775807:=hS.lens 7 rfl
 have hs1:It p.ia p.ja n=true:=hs
 refine Ae [] 8 hS fun hS=>Ax [(5,AD k p.fl.length)] [7] 9 hS fun hS=>Av ?_
 have hple:=hp.le
 have hra:=hp.ra
 have hrb:=hp.rb
 have hS:=hS.ch 8 (.ob 48 (chain [vi 0,vi (n:Int),lb text,lb (frm p.mx (AA p.A n) n text)])) (uA ((p.fl.getD k (rz [.int .i64,.int .i64,.sl (.int .u8),.sl (.int .u8)])).1) (((p.fl.getD k (rz [.int .i64,.int .i64,.sl (.int .u8),.sl (.int .u8)])).2).1) ((((p.fl.getD k (rz [.int .i64,.int .i64,.sl (.int .u8),.sl (.int .u8)])).2).2).1) ((((p.fl.getD k (rz [.int .i64,.int .i64,.sl (.int .u8),.sl (.int .u8)])).2).2).2)) (by rw[hrow]<;>rfl)
 refine Dj [] 9 hS fun hS=>Ab (Ax [(5,AD 0 2),(9,AP (IF p.na p.ia p.ja n hp.ra (by have :=hp.le;omega) Ac hs))] [9] 10 hS fun hS=>Ax [(4,AD 1 2),(9,AM (T9 p.id false (AA p.B p.nb) p.nb p.A p.ia p.mx p.ja n text rand (Du hp.B _) hp.A (by have :=hp.le;omega) (by have :=hp.le;omega) hp.m hp.m2 hp.ra Ac htx hby hr hs) [(0,4),(1,5),(2,6)] [(7,10),(8,11)])] [] 12 hS fun hS=>Av (Ae [] 12 hS fun hS=>Ai hS (DU (Ae [] 12 hS fun hS=>AO hS (Ax [(6,AD 0 2)] [] 12 hS fun hS=>Av ?_)))))
 have hq2:Dw text=Dw text:=rfl
 have hq3:(n:Int)=(n:Int):=rfl
 refine As [(5,iX false [(!((Dw text).toList==(Dw text).toList))=false] ⟨by rw[beq_self_eq_true _];rfl,trivial⟩),(10,GH hq3)] [] 12 hS fun hS=>Ab (Ai hS (BP (Ax [(2,AM (wS p.id p.A p.B p.mx p.na (nI p.ia n) (nJ p.ia p.ja n) p.nb p.ib p.jb p.fl hp.ra.next (by have :=nL p.ia n;omega)) [(0,0),(1,1),(2,2),(3,3),(4,4),(5,10),(6,11),(7,7)] [])] [] 12 hS fun hS=>AR ?_)))
 obtain⟨gs,hS⟩:=hS.rx [(0,0),(1,1),(2,2),(3,3),(4,4),(5,5),(6,6),(7,7),(8,10),(9,11)] [6] [0,1,2,3,4,5,6,7,8,9] 10 hg0
 exact BW hS
def AdV (text:List Int):Con:=⟨[.cp 0 0,vi (k:Int),lb rand],[(0,F9 1 4 p.na p.ia (ints p.ja) p.nb p.ib (ints p.jb) 7),(1,BU p.id true false 2 3 p.mx (CK p.mx p.B p.jb)),(2,Aj (AA p.A p.na) p.na),(3,Aj (AA p.B p.ib) p.ib),(4,BU p.id false false 5 6 p.mx (CK p.mx p.A p.ja)),(5,Aj (AA p.B p.nb) p.nb),(6,Aj (AA p.A p.ia) p.ia),(7,.sl 48 [.int .i64,.int .i64,.sl (.int .u8),.sl (.int .u8)] p.fl)],.v (.bool true),[(0,F9 1 4 ((p.dlvB n).na) ((p.dlvB n).ia) (ints (p.dlvB n).ja) ((p.dlvB n).nb) ((p.dlvB n).ib) (ints (p.dlvB n).jb) 7),(1,BU ((p.dlvB n).id) true false 8 9 ((p.dlvB n).mx) (CK (p.dlvB n).mx (p.dlvB n).B (p.dlvB n).jb)),(2,Aj (AA p.A p.na) p.na),(3,Aj (AA p.B p.ib) p.ib),(4,BU ((p.dlvB n).id) false false 5 6 ((p.dlvB n).mx) (CK (p.dlvB n).mx (p.dlvB n).A (p.dlvB n).ja)),(5,Aj (AA (p.dlvB n).B (p.dlvB n).nb) ((p.dlvB n).nb)),(6,Aj (AA (p.dlvB n).A (p.dlvB n).ia) ((p.dlvB n).ia)),(7,.sl 48 [.int .i64,.int .i64,.sl (.int .u8),.sl (.int .u8)] ((p.dlvB n).fl)),(8,Aj (AA (p.dlvB n).A (p.dlvB n).na) ((p.dlvB n).na)),(9,Aj (AA (p.dlvB n).B (p.dlvB n).ib) ((p.dlvB n).ib))]⟩
theorem wY (text:List Int) (hp:ZI p) (hrow:p.fl.getD k (rz [.int .i64,.int .i64,.sl (.int .u8),.sl (.int .u8)])=((1:Int),(n:Int),text,frm p.mx (AA p.B n) n text)) (hk:k<p.fl.length∧k<1000000) (hn:n<100000) (htx:text.length≤500) (hby:By text) (hr:rand.length=128) (hs:It p.ib p.jb n=true):ConOk Tryz.prog 16 (AdV p k rand n text):=by
 refine cy 8 Tryz.func16 rfl Tryz.ntmps16 fun hg0 hS=> ?_
 have B2:rand.length≤9223372036854775807:=hS.len 2 rfl
 have E4:p.fl.length≤9223372036854775807:=hS.lens 7 rfl
 have hs1:It p.ib p.jb n=true:=hs
 refine Ae [] 8 hS fun hS=>Ax [(5,AD k p.fl.length)] [7] 9 hS fun hS=>Av ?_
 have hple:=hp.le
 have hra:=hp.ra
 have hrb:=hp.rb
 have hS:=hS.ch 8 (.ob 48 (chain [vi 1,vi (n:Int),lb text,lb (frm p.mx (AA p.B n) n text)])) (uA ((p.fl.getD k (rz [.int .i64,.int .i64,.sl (.int .u8),.sl (.int .u8)])).1) (((p.fl.getD k (rz [.int .i64,.int .i64,.sl (.int .u8),.sl (.int .u8)])).2).1) ((((p.fl.getD k (rz [.int .i64,.int .i64,.sl (.int .u8),.sl (.int .u8)])).2).2).1) ((((p.fl.getD k (rz [.int .i64,.int .i64,.sl (.int .u8),.sl (.int .u8)])).2).2).2)) (by rw[hrow]<;>rfl)
 refine Dj [] 9 hS fun hS=>Ab (Ax [(5,AD 1 2),(9,AP (IF p.nb p.ib p.jb n hp.rb (by have :=hp.le;omega) Ac hs))] [9] 10 hS fun hS=>Ax [(4,AD 0 2),(9,AM (T9 p.id true (AA p.A p.na) p.na p.B p.ib p.mx p.jb n text rand (Du hp.A _) hp.B (by have :=hp.le;omega) (by have :=hp.le;omega) hp.m hp.m2 hp.rb Ac htx hby hr hs) [(0,1),(1,2),(2,3)] [(7,10),(8,11)])] [] 12 hS fun hS=>Av (Ae [] 12 hS fun hS=>Ai hS (DU (Ae [] 12 hS fun hS=>AO hS (Ax [(6,AD 1 2)] [] 12 hS fun hS=>Av ?_)))))
 have hq2:Dw text=Dw text:=rfl
 have hq3:(n:Int)=(n:Int):=rfl
 refine As [(5,iX false [(!((Dw text).toList==(Dw text).toList))=false] ⟨by rw[beq_self_eq_true _];rfl,trivial⟩),(10,GH hq3)] [] 12 hS fun hS=>Ab (Ai hS (BP (Ax [(2,AM (wT p.id p.A p.B p.mx p.na p.ia p.ja p.nb (nI p.ib n) (nJ p.ib p.jb n) p.fl hp.rb.next (by have :=nL p.ib n;omega)) [(0,0),(1,1),(2,10),(3,11),(4,4),(5,5),(6,6),(7,7)] [])] [] 12 hS fun hS=>AR ?_)))
 obtain⟨gs,hS⟩:=hS.rx [(0,0),(1,1),(2,2),(3,3),(4,4),(5,5),(6,6),(7,7),(8,10),(9,11)] [6] [0,1,2,3,4,5,6,7,8,9] 10 hg0
 exact BW hS
end
end
end Go.Sx.Tryz
namespace Go.Sx.Tryz
open Go.Mi Go.RowKit Go.Sx Go.Proofs
noncomputable section
section
variable (text rand:List Int)
def zU:Con:=⟨[.im (chain [.top,.top,.top,.im (chain []) 0,.top,.top,.top,.top,.top,.top,.top]) 0,lb text,lb rand],[],.tu (chain [.v (.slice none 0 0),vi 0,vi 11]),[]⟩
theorem V0 (htx:500<text.length) (hr:rand.length=128):ConOk Tryz.prog 24 (zU text rand):=by
 refine cy 0 Tryz.func24 rfl Tryz.ntmps24 fun hg0 hS=> ?_
 have Be:text.length≤9223372036854775807:=hS.len 1 rfl
 have B2:rand.length≤9223372036854775807:=hS.len 2 rfl
 have hx1:(500:Int)<((text.length:Nat):Int):=Ac
 have hx2:((rand.length:Nat):Int)=128:=Ac
 exact Ae [] 0 hS fun hS=>Av (Br (Ax [(1,IB (BR) [] [.im (chain [.top,.top,.top,.im (chain []) 0,.top,.top,.top,.top,.top,.top,.top]) 0]),(5,GH hx2)] [] 0 hS fun hS=>Ai hS (Ax [(2,GG hx1)] [] 0 hS fun hS=>AO hS (Ae [] 0 hS fun hS=>AR (Aw (Af (BW hS)))))))
def AdI:Con:=⟨[.im (chain [.im (chain [.top,.top,.top,.im (chain []) 0,.top,.top,.top,.top,.top,.top,.top]) 0,.top,.top,.top,.top,.top,.top,.top,.top]) 0,vi 0,lb text,lb rand],[],.v (.bool true),[]⟩
theorem aQ (htx:500<text.length) (hr:rand.length=128):ConOk Tryz.prog 14 (AdI text rand):=by
 refine cy 0 Tryz.func14 rfl Tryz.ntmps14 fun hg0 hS=> ?_
 have B2:text.length≤9223372036854775807:=hS.len 2 rfl
 have HE:rand.length≤9223372036854775807:=hS.len 3 rfl
 have hx1:(500:Int)<((text.length:Nat):Int):=Ac
 exact Ae [] 0 hS fun hS=>Ax [(4,AD 0 2),(8,IB (V0 text rand Ac AE) [] [.im (chain [.top,.top,.top,.im (chain []) 0,.top,.top,.top,.top,.top,.top,.top]) 0,lb text,lb rand])] [] 0 hS fun hS=>Av (Ax [(2,GG hx1)] [] 0 hS fun hS=>AO hS (Ae [] 0 hS fun hS=>AR (Af (BW hS))))
def AdH:Con:=⟨[.im (chain [.top,.im (chain [.top,.top,.top,.im (chain []) 0,.top,.top,.top,.top,.top,.top,.top]) 0,.top,.top,.top,.top,.top,.top,.top]) 0,vi 1,lb text,lb rand],[],.v (.bool true),[]⟩
theorem aP (htx:500<text.length) (hr:rand.length=128):ConOk Tryz.prog 14 (AdH text rand):=by
 refine cy 0 Tryz.func14 rfl Tryz.ntmps14 fun hg0 hS=> ?_
 have B2:text.length≤9223372036854775807:=hS.len 2 rfl
 have HE:rand.length≤9223372036854775807:=hS.len 3 rfl
 have hx1:(500:Int)<((text.length:Nat):Int):=Ac
 exact Ae [] 0 hS fun hS=>Ax [(4,AD 1 2),(8,IB (V0 text rand Ac AE) [] [.im (chain [.top,.top,.top,.im (chain []) 0,.top,.top,.top,.top,.top,.top,.top]) 0,lb text,lb rand])] [] 0 hS fun hS=>Av (Ax [(2,GG hx1)] [] 0 hS fun hS=>AO hS (Ae [] 0 hS fun hS=>AR (Af (BW hS))))
end
end
end Go.Sx.Tryz
namespace Go.Sx
open Go.Mi Go.RowKit
variable [Dfr]
section
variable {P:Program} {n:Nat} {L:DL} {H:Hp} {σ:Sg} {S0:Nat→Prop} {g0 g:G} {w0 w:World} {nb:Nat} {a:Act} {Q:Exit→Act→World→Prop}
def Mz {ι:Type} (n:Nat) (S0:Nat→Prop) (g0:G) (w0:World) (σ:Sg) (kL kH:List Nat) (nb:Nat) (F:ι→DL×Hc×Prop):Act→World→Prop:=fun a w=>
 ∃s,(F s).2.2∧∃g',Sp n S0 g0 w0 ((F s).1++A_ σ.1 kL,FS ((F s).2.1++Wu σ.2 kH)) nb a g' w
theorem UE {ι:Type} {x y:Code} (_hS:Sp n S0 g0 w0 σ nb a g w) (F:ι→DL×Hc×Prop) (kL kH:List Nat) (nb':Nat) (h1:x.wp P (Exit.then (Mz n S0 g0 w0 σ kL kH nb' F) Q) a w) (h2:∀s a g w,(F s).2.2→Sp n S0 g0 w0 ((F s).1++A_ σ.1 kL,FS ((F s).2.1++Wu σ.2 kH)) nb' a g w→y.wp P Q a w):(Code.seq x y).wp P Q a w:=by
 refine wp_seq (uS _ h1 ?_)
 rintro a w ⟨s,hp,g,hS⟩
 exact h2 s a g w hp hS
theorem I5 {ι : Type} {σ' : Sg} {ks0 : List Nat} {kL kH : List Nat} {nb' : Nat} {F : ι → DL × Hc × Prop} (hg0 : ∀ k v, g0.N k = some v → k ∈ ks0) (hS : Sp n S0 g0 w0 σ nb a g w) (s' : ι) (ρ : M9) (hP : (F s').2.2)
  (h1:FU ρ ks0 ((F s').1++A_ σ'.1 kL) ((F s').2.1++Wu σ'.2 kH) nb'=true:=by kernel_rfl) (h2:A_ σ.1 (Ao ((F s').1++A_ σ'.1 kL))=(((F s').1++A_ σ'.1 kL).map fun p=>(p.1,p.2.ren (rn ρ))):=by kernel_rfl) (h3:(((F s').2.1++Wu σ'.2 kH).map fun p=>AT σ.2 (rn ρ p.1))=(((F s').2.1++Wu σ'.2 kH).map fun p=>some (p.2.ren (rn ρ))):=by kernel_rfl):Mz n S0 g0 w0 σ' kL kH nb' F a w:=by
 obtain⟨g',hS'⟩:=Sp.ren hg0 hS ρ _ _ nb' h1 h2 h3
 exact⟨s',hP,g',hS'⟩
end
end Go.Sx
namespace Go.Sx.Tryz
open Go.Mi Go.RowKit Go.Sx Go.Proofs
noncomputable section
section
variable (n:Int) (l:Nat)
def Ya:Int:=if(1099511627776-n)<(l:Int)then 1099511627776 else(if(1099511627776-(n+(l:Int)))<1 then 1099511627776 else((n+(l:Int))+1))
def Pw:Int:=AJ (Ya n l)
theorem TF:Pw n l=Ya n l:=Ag _
def Adn (z_:Int:=Pw n l):Con:=⟨[vi n,.ls true [.int .i64] [(l:Int),(1:Int)]],[],vi z_,[]⟩
theorem u3 (hn:0≤n∧n≤3000):ConOk Tryz.prog 41 (Adn n l):=by
 refine cy 0 Tryz.func41 rfl Tryz.ntmps41 fun hg0 hS=> ?_
 have Be:[(l:Int),(1:Int)].length≤9223372036854775807:=hS.len 1 rfl
 have hz1:¬(1099511627776:Int)<n:=Ac
 refine Ae [] 0 hS fun hS=>Av (Ae [] 0 hS fun hS=>Br (wp_loop_rounds 3 (Cd (n:=2) (Av (Ae [6,7,8] 0 hS fun hS=>AO hS (BE (Av (Ax [(1,DC hz1),(5,AD 0 2),(8,ZH 1099511627776 n)] [12,13,14,15,16,17,18,19,20,21] 0 hS fun hS=>AB ((1099511627776-n)<(l:Int)) hS (fun h1=> ?_) (fun h1=> ?_)))))))))
 ·exact Ae [] 0 hS fun hS=>AR (Af (Aw (Af (Af (Aw (Af (Bi (.trans (TF ..) (if_pos h1)) hS)))))))
 ·refine BP (As [(3,AD 0 2),(5,Rja n (l:Int))] [0,23,24,25,26,27,28] 0 hS fun hS=>BV (Dj [5,10,11] 0 hS fun hS=>Ab (Cd (n:=1) (Av (Ae [6,7,8] 0 hS fun hS=>AO hS (BE (Il ?_)))))))
  have hz2:¬(1099511627776:Int)<(n+(l:Int)):=Ac
  refine As [(1,DC hz2),(5,AD 1 2),(8,ZH 1099511627776 (n+(l:Int)))] [12,13,14,15,16,17,18,19,20,21] 0 hS fun hS=>Ab (AB ((1099511627776-(n+(l:Int)))<1) hS (fun h2=> ?_) (fun h2=> ?_))
  ·exact Ae [] 0 hS fun hS=>AR (Af (Aw (Af (Af (Aw (Af (Bi (.trans (TF ..) ((if_neg h1).trans (if_pos h2))) hS)))))))
  ·exact BP (As [(3,AD 1 2),(5,Rja (n+(l:Int)) 1)] [0,23,24,25,26,27,28] 0 hS fun hS=>BV (Dj [5,10,11] 0 hS fun hS=>Ab (Cd (n:=0) (Av (Ae [] 0 hS fun hS=>Ai hS (CO (Ae [] 0 hS fun hS=>AR (Bi (.trans (TF ..) ((if_neg h1).trans (if_neg h2))) hS))))))))
theorem u4 (h:0≤n):0≤Pw n l:=by
 rw[TF];unfold Ya
 repeat' split
 all_goals omega
end
section
variable (l:List (List Int))
def RZ (l:List (List Int)):Nat→Int
 |0=>0
 |i+1=>Pw (RZ l i) (l.getD i (rz [.sl (.int .u8)])).length
def ZB:Int:=RZ l (CS fun i=>((i:Nat):Int)<((l.length:Nat):Int)∧RZ l i≤3000)
def Aed:Con:=⟨[.ls false [.sl (.int .u8)] l,vi 3000],[],vi (ZB l),[]⟩
theorem cY:ConOk Tryz.prog 22 (Aed l):=by
 refine cy 0 Tryz.func22 rfl Tryz.ntmps22 fun hg0 hS=> ?_
 have A7:l.length≤9223372036854775807:=hS.len 0 rfl
 refine Ae [] 0 hS fun hS=>Ae [] 0 hS fun hS=>Av (Ae [] 0 hS fun hS=>Br (Ar (ι:=Nat×Int) hg0 hS (fun(i,n)=>(l.length-i,[(5,vi n),(6,vi ((i:Nat):Int))],[],(n=RZ l i)∧(0≤n)∧(∀j,j<i→((j:Nat):Int)<((l.length:Nat):Int)∧RZ l j≤3000)∧True)) [0,1,4] [] 0 (0,0) [] ⟨rfl,Ac,(fun j h=>absurd h (Nat.not_lt_zero j)),trivial⟩ ?_))
 rintro⟨i,n⟩ ac gs ws ⟨hn,h0,hj,_⟩ hS
 refine Il ?_
 by_cases h1:(i:Int)<((l.length:Nat):Int)
 ·refine As [(3,GG h1)] [] 0 hS fun hS=>Ab (AB (n≤3000) hS (fun h2=> ?_) (fun h2=> ?_))
  ·refine BE ?_
   have hJ9:=A0 (P:=fun i=>((i:Nat):Int)<((l.length:Nat):Int)∧RZ l i≤3000) hj ⟨by assumption,by rw[←hn];assumption⟩
   exact As [(3,AD i l.length),(7,AP (u3 n ((l.getD i (rz [.sl (.int .u8)])).length) Ac))] [5] 0 hS fun hS=>BV (As [(1,BH i)] [6] 0 hS fun hS=>Ab (Al hg0 hS (i+1,(Pw n ((l.getD i (rz [.sl (.int .u8)])).length))) [] ⟨(by rw[hn];rfl),(u4 _ _ h0),hJ9,trivial⟩))
  ·refine ML ?_
   have he:=BK (k:=i) (P:=fun i=>((i:Nat):Int)<((l.length:Nat):Int)∧RZ l i≤3000) (fun h=>by have h1:=h.1;have h2:=h.2;rw[←hn]at h2;omega) hj
   have hr:n=ZB l:=by rw[hn];exact congrArg (RZ l) he
   have hS:=hS.cl 5 (vi (ZB l)) (vi n) (by rw[hr])
   exact Dj [] 0 hS fun hS=>DX (BW hS)
 ·refine As [(3,DC h1)] [] 0 hS fun hS=>Ab (Ai hS (ML ?_))
  have he:=BK (k:=i) (P:=fun i=>((i:Nat):Int)<((l.length:Nat):Int)∧RZ l i≤3000) (fun h=>by have h1:=h.1;have h2:=h.2;rw[←hn]at h2;omega) hj
  have hr:n=ZB l:=by rw[hn];exact congrArg (RZ l) he
  have hS:=hS.cl 5 (vi (ZB l)) (vi n) (by rw[hr])
  exact Dj [] 0 hS fun hS=>DX (BW hS)
end
end
end Go.Sx.Tryz
namespace Go.Sx.Tryz
open Go.Mi Go.RowKit Go.Sx Go.Proofs
noncomputable section
def KJ (root:List Int):PN:=⟨N_ root,pA root,pB root,[pM root],0,0,[],0,0,[],[]⟩
structure TI (i:Nat) (p:PN):Prop where
 A:p.A.length=32
 B:p.B.length=32
 m:p.mx.length=1
 m2:∀j,(p.mx.getD j (rz [.sl (.int .u8)])).length≤32
 a:p.ja=[]∧p.ia=p.na
 b:p.jb=[]∧p.ib=p.nb
 le:p.na≤i∧p.nb≤i∧p.fl.length≤i
theorem TI.ok {i:Nat} {p:PN} (h:TI i p) (hi:i≤1000):ZI p:=by
 have h1:=h.le;have h2:=h.a;have h3:=h.b
 exact⟨h.A,h.B,h.m,h.m2,by rw[h2.1];exact Jt _,by rw[h3.1];exact Jt _,⟨by omega,by omega,by omega⟩,by omega⟩
theorem TI.up {i:Nat} {p:PN} (h:TI i p):TI (i+1) p:=⟨h.A,h.B,h.m,h.m2,h.a,h.b,by have :=h.le;omega⟩
theorem TI.sA {i:Nat} {p:PN} (h:TI i p) (hi:i≤999) (t:List Int):ZI (p.sndA t)∧It p.ia p.ja p.na=true∧TI (i+1) ((p.sndA t).dlvA p.na):=by
 have h1:=h.le;have h2:=h.a;have h3:=h.b
 have hf:(p.sndA t).fl.length=p.fl.length+1:=by show(p.fl++[_]).length=_;rw[List.length_append];rfl
 refine⟨⟨h.A,h.B,h.m,h.m2,by show RI p.ia p.ja;rw[h2.1];exact Jt _,by show RI p.ib p.jb;rw[h3.1];exact Jt _,⟨by show p.na+1≤_∧p.nb≤_;omega,by show p.ia≤_;omega,by show p.ib≤_;omega⟩,by omega⟩,by rw[h2.1,h2.2];exact OA _,h.A,h.B,h.m,h.m2,?_,h.b,?_⟩
 ·show nJ p.ia p.ja p.na=[]∧nI p.ia p.na=p.na+1
  rw[h2.1,h2.2];exact⟨Ny _,Nz _⟩
 ·show p.na+1≤_∧p.nb≤_∧(p.sndA t).fl.length≤_;omega
theorem TI.sB {i:Nat} {p:PN} (h:TI i p) (hi:i≤999) (t:List Int):ZI (p.sndB t)∧It p.ib p.jb p.nb=true∧TI (i+1) ((p.sndB t).dlvB p.nb):=by
 have h1:=h.le;have h2:=h.a;have h3:=h.b
 have hf:(p.sndB t).fl.length=p.fl.length+1:=by show(p.fl++[_]).length=_;rw[List.length_append];rfl
 refine⟨⟨h.A,h.B,h.m,h.m2,by show RI p.ia p.ja;rw[h2.1];exact Jt _,by show RI p.ib p.jb;rw[h3.1];exact Jt _,⟨by show p.na≤_∧p.nb+1≤_;omega,by show p.ia≤_;omega,by show p.ib≤_;omega⟩,by omega⟩,by rw[h3.1,h3.2];exact OA _,h.A,h.B,h.m,h.m2,h.a,?_,?_⟩
 ·show nJ p.ib p.jb p.nb=[]∧nI p.ib p.nb=p.nb+1
  rw[h3.1,h3.2];exact⟨Ny _,Nz _⟩
 ·show p.na≤_∧p.nb+1≤_∧(p.sndB t).fl.length≤_;omega
theorem Acg (root:List Int):TI 0 (KJ root):=⟨Qn _,Qm _,rfl,mx1 (YC root),⟨rfl,rfl⟩,⟨rfl,rfl⟩,Nat.le_refl _,Nat.le_refl _,Nat.le_refl _⟩
theorem oW (l:List (Int×Int×List Int×List Int)) (x:Int×Int×List Int×List Int):(l++[x]).getD l.length (rz [.int .i64,.int .i64,.sl (.int .u8),.sl (.int .u8)])=x:=PV l x
def sU (root:List Int):Con:=⟨[lb root,.v (.bool false)],[],.tu (chain [.cp 0 0,.v (.bool true)]),[(0,F9 1 4 ((KJ root).na) ((KJ root).ia) (ints (KJ root).ja) ((KJ root).nb) ((KJ root).ib) (ints (KJ root).jb) 7),(1,BU ((KJ root).id) true false 2 3 ((KJ root).mx) (CK (KJ root).mx (KJ root).B (KJ root).jb)),(2,Aj (AA (KJ root).A (KJ root).na) ((KJ root).na)),(3,Aj (AA (KJ root).B (KJ root).ib) ((KJ root).ib)),(4,BU ((KJ root).id) false false 5 6 ((KJ root).mx) (CK (KJ root).mx (KJ root).A (KJ root).ja)),(5,Aj (AA (KJ root).B (KJ root).nb) ((KJ root).nb)),(6,Aj (AA (KJ root).A (KJ root).ia) ((KJ root).ia)),(7,.sl 48 [.int .i64,.int .i64,.sl (.int .u8),.sl (.int .u8)] ((KJ root).fl))]⟩
theorem fG (root:List Int) (hr:root.length=32):ConOk Tryz.prog 12 (sU root):=by
 have h:=W0 root hr
 unfold Vd at h
 rw[W2]at h
 exact h
def tK (p:PN):Con:=⟨[.cp 0 0,.cp 3 0],[(0,BU p.id true false 1 2 p.mx (CK p.mx p.B p.jb)),(1,Aj (AA p.A p.na) p.na),(2,Aj (AA p.B p.ib) p.ib),(3,BU p.id false false 4 5 p.mx (CK p.mx p.A p.ja)),(4,Aj (AA p.B p.nb) p.nb),(5,Aj (AA p.A p.ia) p.ia)],.v (.bool true),[(0,BU p.id true false 1 2 p.mx (CK p.mx p.B p.jb)),(1,Aj (AA p.A p.na) p.na),(2,Aj (AA p.B p.ib) p.ib),(3,BU p.id false false 4 5 p.mx (CK p.mx p.A p.ja)),(4,Aj (AA p.B p.nb) p.nb),(5,Aj (AA p.A p.ia) p.ia)]⟩
theorem JZ (p:PN) (hm:p.mx.length=1):ConOk Tryz.prog 17 (tK p):=Tx _ _ _ _ _ _ _ _ _ _ _ _ hm
theorem Mu {l:List (List Int)} {i:Nat} (h:i<l.length):l.getD i (rz [.sl (.int .u8)])∈l:=by
 show List.getD (α:=List Int) l i []∈l
 rw[List.getD_eq_getElem?_getD,List.getElem?_eq_getElem h];exact List.getElem_mem h
section
variable (root:List Int) (who:List Bool)
def rK (texts:List (List Int)):Con:=⟨[lb root,.ls false [.bool] who,.ls false [.sl (.int .u8)] texts,.v (.bool false)],[],.v (.bool true),[]⟩
theorem dQ (texts:List (List Int)) (hB:∀t∈texts,By t):ConOk Tryz.prog 6 (rK root who texts):=by
 refine cy 0 Tryz.func6 rfl Tryz.ntmps6 fun hg0 hS=> ?_
 have A7:root.length≤9223372036854775807:=hS.len 0 rfl
 have Be:who.length≤9223372036854775807:=hS.len 1 rfl
 have B2:texts.length≤9223372036854775807:=hS.len 2 rfl
 refine Ae [] 0 hS fun hS=>Il ?_
 by_cases h1:((root.length:Nat):Int)=32
 ·by_cases h2:(25:Int)<((who.length:Nat):Int)
  ·exact As [(2,GH h1),(6,GG h2)] [] 0 hS fun hS=>Ab (AO hS (Ax [(0,AP (Dz))] [] 0 hS fun hS=>AR (Af (BW hS))))
  ·refine As [(2,GH h1),(6,DC h2),(10,AP (cY texts))] [] 0 hS fun hS=>Ab (AB ((3000:Int)<(ZB texts)) hS (fun h3=> ?_) (fun h3=> ?_))
   ·exact Ax [(0,AP (Dz))] [] 0 hS fun hS=>AR (Af (BW hS))
   ·refine BP (Ax [(2,AM (fG root AE) [] [(0,0),(1,1),(2,2),(3,3),(4,4),(5,5),(6,6),(7,7)])] [] 8 hS fun hS=>Av (Ae [] 8 hS fun hS=>Ai hS (DU (Ae [] 8 hS fun hS=>Br (Ar (ι:=Nat×PN) hg0 hS (fun(i,p)=>(who.length-i,[(11,vi ((i:Nat):Int))],[(0,F9 1 4 p.na p.ia (ints p.ja) p.nb p.ib (ints p.jb) 7),(1,BU p.id true false 2 3 p.mx (CK p.mx p.B p.jb)),(2,Aj (AA p.A p.na) p.na),(3,Aj (AA p.B p.ib) p.ib),(4,BU p.id false false 5 6 p.mx (CK p.mx p.A p.ja)),(5,Aj (AA p.B p.nb) p.nb),(6,Aj (AA p.A p.ia) p.ia),(7,.sl 48 [.int .i64,.int .i64,.sl (.int .u8),.sl (.int .u8)] p.fl)],(i≤who.length)∧(TI i p)∧True)) [1,2,3,9] [] 8 (0,(KJ root)) [(0,0),(1,1),(2,2),(3,3),(4,4),(5,5),(6,6),(7,7)] ⟨Ac,(Acg root),trivial⟩ ?_)))))
    rintro⟨i,p⟩ ac gs ws ⟨hi,hI,_⟩ hS
    refine Av (Ae [] 8 hS fun hS=>AB ((i:Int)<((who.length:Nat):Int)) hS (fun h4=> ?_) (fun h4=> ?_))
    ·refine BE (Ae [] 8 hS fun hS=>Av (Ax [(2,AD i who.length)] [] 8 hS fun hS=>NC (who.getD i (rz [.bool])) hS (fun h5=> ?_) (fun h5=> ?_)))
     ·refine Dj [] 8 hS fun hS=>Ab (Ae [] 8 hS fun hS=>UE (ι:=(List Int)) hS (fun tt=>([(13,lb tt)],[],(By tt)∧True)) [1,2,3,9,11,12] [0,1,2,3,4,5,6,7] 8 ?_ ?_)
      ·refine Ae [] 8 hS fun hS=>AB ((i:Int)<((texts.length:Nat):Int)) hS (fun h6=> ?_) (fun h6=> ?_)
       ·exact As [(2,AD i texts.length)] [] 8 hS fun hS=>Ab (I5 hg0 hS (texts.getD i (rz [.sl (.int .u8)])) [(0,0),(1,1),(2,2),(3,3),(4,4),(5,5),(6,6),(7,7)] ⟨(hB _ (Mu Ac)),trivial⟩)
       ·refine BP ?_
        have hS:=hS.wk 13 (lb [])
        exact I5 hg0 hS [] [(0,0),(1,1),(2,2),(3,3),(4,4),(5,5),(6,6),(7,7)] ⟨(fun x hx=>by cases hx),trivial⟩
      ·rintro tt ac gs ws ⟨hbt,_⟩ hS
       refine Ae [] 8 hS fun hS=>Il ?_
       by_cases h7:(500:Int)<((tt.length:Nat):Int)
       ·have hok:=hI.ok Ac
        refine As [(4,AP (Dr (i:Int))),(5,IB (aP tt (A1 (i:Int)) Ac (B7 _)) [0,4,5] [.im (chain [.top,.im (chain [.top,.top,.top,.im (chain []) 0,.top,.top,.top,.top,.top,.top,.top]) 0,.top,.top,.top,.top,.top,.top,.top]) 0,vi 1,lb tt,lb (A1 (i:Int))])] [] 8 hS fun hS=>Ab (Ai hS (DU (Av ?_)))
        have hz1:¬((p.fl.length:Nat):Int)<((p.fl.length:Nat):Int):=(Int.lt_irrefl _)
        refine As [(6,DC hz1)] [] 8 hS fun hS=>Ab (Ai hS (BP (Ax [(3,AD 0 2),(8,AD 1 2),(10,AM (JZ p hI.m) [(0,1),(1,2),(2,3),(3,4),(4,5),(5,6)] [])] [] 8 hS fun hS=>Ai hS (G8 ?_))))
        have hI9:=hI.up
        exact As [(1,BH i)] [11] 8 hS fun hS=>Ab (Al hg0 hS (i+1,p) [(0,0),(1,1),(2,2),(3,3),(4,4),(5,5),(6,6),(7,7)] ⟨Ac,hI9,trivial⟩)
       ·have hok:=hI.ok Ac
        refine As [(4,AP (Dr (i:Int))),(5,AM (Acw p tt (A1 (i:Int)) hok Ac (B7 _)) [(0,0),(1,1),(2,2),(3,3),(4,4),(5,5),(6,6),(7,7)] [(8,8)])] [] 9 hS fun hS=>Ab (Ai hS (DU (Av ?_)))
        obtain⟨hok2,hr2,hI2⟩:=hI.sB Ac tt
        have hfl2:(p.sndB tt).fl.length=p.fl.length+1:=by show(p.fl++[_]).length=_;rw[List.length_append];rfl
        have hz1:((p.fl.length:Nat):Int)<((((p.sndB tt).fl).length:Nat):Int):=Ac
        have hrow:=oW p.fl ((1:Int),((p.nb:Nat):Int),tt,p.fB p.nb tt)
        have hpl:=hI.le
        refine As [(6,GG hz1),(11,Ek 100 i (100+i)),(12,AP (Dr ((100+i:Nat):Int))),(13,AM (wY (p.sndB tt) p.fl.length (A1 ((100+i:Nat):Int)) p.nb tt hok2 hrow ⟨by omega,by omega⟩ Ac Ac hbt (B7 _) hr2) [(0,0),(1,1),(2,2),(3,3),(4,4),(5,5),(6,6),(7,8)] [(8,9),(9,10)])] [] 11 hS fun hS=>Ab (Ai hS (BP (Ax [(3,AD 0 2),(8,AD 1 2),(10,AM (JZ ((p.sndB tt).dlvB p.nb) hI.m) [(0,1),(1,9),(2,10),(3,4),(4,5),(5,6)] [])] [] 11 hS fun hS=>Ai hS (G8 ?_))))
        have hI9:=hI2
        exact As [(1,BH i)] [11] 11 hS fun hS=>Ab (Al hg0 hS (i+1,((p.sndB tt).dlvB p.nb)) [(0,0),(1,1),(2,9),(3,10),(4,4),(5,5),(6,6),(7,8)] ⟨Ac,hI9,trivial⟩)
     ·refine BP (Ae [] 8 hS fun hS=>UE (ι:=(List Int)) hS (fun tt=>([(13,lb tt)],[],(By tt)∧True)) [1,2,3,9,11,12] [0,1,2,3,4,5,6,7] 8 ?_ ?_)
      ·refine Ae [] 8 hS fun hS=>AB ((i:Int)<((texts.length:Nat):Int)) hS (fun h8=> ?_) (fun h8=> ?_)
       ·exact As [(2,AD i texts.length)] [] 8 hS fun hS=>Ab (I5 hg0 hS (texts.getD i (rz [.sl (.int .u8)])) [(0,0),(1,1),(2,2),(3,3),(4,4),(5,5),(6,6),(7,7)] ⟨(hB _ (Mu Ac)),trivial⟩)
       ·refine BP ?_
        have hS:=hS.wk 13 (lb [])
        exact I5 hg0 hS [] [(0,0),(1,1),(2,2),(3,3),(4,4),(5,5),(6,6),(7,7)] ⟨(fun x hx=>by cases hx),trivial⟩
      ·rintro tt ac gs ws ⟨hbt,_⟩ hS
       refine Ae [] 8 hS fun hS=>Il ?_
       by_cases h9:(500:Int)<((tt.length:Nat):Int)
       ·have hok:=hI.ok Ac
        refine As [(4,AP (Dr (i:Int))),(5,IB (aQ tt (A1 (i:Int)) Ac (B7 _)) [0,1,2] [.im (chain [.im (chain [.top,.top,.top,.im (chain []) 0,.top,.top,.top,.top,.top,.top,.top]) 0,.top,.top,.top,.top,.top,.top,.top,.top]) 0,vi 0,lb tt,lb (A1 (i:Int))])] [] 8 hS fun hS=>Ab (Ai hS (DU (Av ?_)))
        have hz1:¬((p.fl.length:Nat):Int)<((p.fl.length:Nat):Int):=(Int.lt_irrefl _)
        refine As [(6,DC hz1)] [] 8 hS fun hS=>Ab (Ai hS (BP (Ax [(3,AD 0 2),(8,AD 1 2),(10,AM (JZ p hI.m) [(0,1),(1,2),(2,3),(3,4),(4,5),(5,6)] [])] [] 8 hS fun hS=>Ai hS (G8 ?_))))
        have hI9:=hI.up
        exact As [(1,BH i)] [11] 8 hS fun hS=>Ab (Al hg0 hS (i+1,p) [(0,0),(1,1),(2,2),(3,3),(4,4),(5,5),(6,6),(7,7)] ⟨Ac,hI9,trivial⟩)
       ·have hok:=hI.ok Ac
        refine As [(4,AP (Dr (i:Int))),(5,AM (Acx p tt (A1 (i:Int)) hok Ac (B7 _)) [(0,0),(1,1),(2,2),(3,3),(4,4),(5,5),(6,6),(7,7)] [(8,8)])] [] 9 hS fun hS=>Ab (Ai hS (DU (Av ?_)))
        obtain⟨hok2,hr2,hI2⟩:=hI.sA Ac tt
        have hfl2:(p.sndA tt).fl.length=p.fl.length+1:=by show(p.fl++[_]).length=_;rw[List.length_append];rfl
        have hz1:((p.fl.length:Nat):Int)<((((p.sndA tt).fl).length:Nat):Int):=Ac
        have hrow:=oW p.fl ((0:Int),((p.na:Nat):Int),tt,p.fA p.na tt)
        have hpl:=hI.le
        refine As [(6,GG hz1),(11,Ek 100 i (100+i)),(12,AP (Dr ((100+i:Nat):Int))),(13,AM (wZ (p.sndA tt) p.fl.length (A1 ((100+i:Nat):Int)) p.na tt hok2 hrow ⟨by omega,by omega⟩ Ac Ac hbt (B7 _) hr2) [(0,0),(1,1),(2,2),(3,3),(4,4),(5,5),(6,6),(7,8)] [(8,9),(9,10)])] [] 11 hS fun hS=>Ab (Ai hS (BP (Ax [(3,AD 0 2),(8,AD 1 2),(10,AM (JZ ((p.sndA tt).dlvA p.na) hI.m) [(0,1),(1,2),(2,3),(3,4),(4,9),(5,10)] [])] [] 11 hS fun hS=>Ai hS (G8 ?_))))
        have hI9:=hI2
        exact As [(1,BH i)] [11] 11 hS fun hS=>Ab (Al hg0 hS (i+1,((p.sndA tt).dlvA p.na)) [(0,0),(1,1),(2,2),(3,3),(4,4),(5,9),(6,10),(7,8)] ⟨Ac,hI9,trivial⟩)
    ·have hT:=hS
     obtain rfl:who.length=i:=by omega
     have hS:=hT
     exact CO (Ax [(0,AP (Dz))] [] 8 hS fun hS=>AR (BW hS))
 ·exact As [(2,Rnt h1)] [] 0 hS fun hS=>Ab (AO hS (Ax [(0,AP (Dz))] [] 0 hS fun hS=>AR (Af (BW hS))))
end
end
end Go.Sx.Tryz
namespace Go.Sx.Tryz
open Go.Mi Go.RowKit Go.Sx Go.Proofs
noncomputable section
section
variable (root:List Int) (who:List Bool)
def rL (texts:List (List Int)):Con:=⟨[lb root,.ls false [.bool] who,.ls false [.sl (.int .u8)] texts,.v (.bool true)],[],.v (.bool true),[]⟩
theorem dR (texts:List (List Int)) (hB:∀t∈texts,By t):ConOk Tryz.prog 6 (rL root who texts):=by
 refine cy 0 Tryz.func6 rfl Tryz.ntmps6 fun hg0 hS=> ?_
 have A7:root.length≤9223372036854775807:=hS.len 0 rfl
 have Be:who.length≤9223372036854775807:=hS.len 1 rfl
 have B2:texts.length≤9223372036854775807:=hS.len 2 rfl
 refine Ae [] 0 hS fun hS=>Il ?_
 by_cases h1:((root.length:Nat):Int)=32
 ·by_cases h2:(25:Int)<((who.length:Nat):Int)
  ·exact As [(2,GH h1),(6,GG h2)] [] 0 hS fun hS=>Ab (AO hS (Ax [(0,AP (Dz))] [] 0 hS fun hS=>AR (Af (BW hS))))
  ·refine As [(2,GH h1),(6,DC h2),(10,AP (cY texts))] [] 0 hS fun hS=>Ab (AB ((3000:Int)<(ZB texts)) hS (fun h3=> ?_) (fun h3=> ?_))
   ·exact Ax [(0,AP (Dz))] [] 0 hS fun hS=>AR (Af (BW hS))
   ·refine BP (Ax [(2,AM (YP root AE) [] [(0,0),(1,1),(2,2),(3,3),(4,4),(5,5),(6,6),(7,7),(8,8),(9,9),(10,10),(11,11)])] [] 12 hS fun hS=>Av (Ae [] 12 hS fun hS=>Ai hS (DU (Ae [] 12 hS fun hS=>Br (Ar (ι:=Nat×PS) hg0 hS (fun(i,p)=>(who.length-i,[(11,vi ((i:Nat):Int))],[(0,F9 1 6 p.na p.ia (ints p.ja) p.nb p.ib (ints p.jb) 11),(1,Cm p.ida true true 2 3 4 p.a.low p.a.mx p.a.last p.a.told p.a.kl),(2,Aj p.a.ok p.a.oi),(3,Aj p.a.ik p.a.ii),(4,Bd p.a.st p.a.ep p.a.at_ p.a.sd p.a.tx 5),(5,BM p.a.rid p.a.rln p.a.bx),(6,Cm p.idb false true 7 8 9 p.b.low p.b.mx p.b.last p.b.told p.b.kl),(7,Aj p.b.ok p.b.oi),(8,Aj p.b.ik p.b.ii),(9,Bd p.b.st p.b.ep p.b.at_ p.b.sd p.b.tx 10),(10,BM p.b.rid p.b.rln p.b.bx),(11,.sl 48 [.int .i64,.int .i64,.sl (.int .u8),.sl (.int .u8)] p.fl)],(i≤who.length)∧(∃T M,T≤i∧INV T p M)∧True)) [1,2,3,9] [] 12 (0,(GJ root)) [(0,0),(1,1),(2,2),(3,3),(4,4),(5,5),(6,6),(7,7),(8,8),(9,9),(10,10),(11,11)] ⟨Ac,⟨_,_,Nat.le_refl _,Acf root⟩,trivial⟩ ?_)))))
    rintro⟨i,p⟩ ac gs ws ⟨hi,hI,_⟩ hS
    refine Av (Ae [] 12 hS fun hS=>AB ((i:Int)<((who.length:Nat):Int)) hS (fun h4=> ?_) (fun h4=> ?_))
    ·refine BE (Ae [] 12 hS fun hS=>Av (Ax [(2,AD i who.length)] [] 12 hS fun hS=>NC (who.getD i (rz [.bool])) hS (fun h5=> ?_) (fun h5=> ?_)))
     ·refine Dj [] 12 hS fun hS=>Ab (Ae [] 12 hS fun hS=>UE (ι:=(List Int)) hS (fun tt=>([(13,lb tt)],[],(By tt)∧True)) [1,2,3,9,11,12] [0,1,2,3,4,5,6,7,8,9,10,11] 12 ?_ ?_)
      ·refine Ae [] 12 hS fun hS=>AB ((i:Int)<((texts.length:Nat):Int)) hS (fun h6=> ?_) (fun h6=> ?_)
       ·exact As [(2,AD i texts.length)] [] 12 hS fun hS=>Ab (I5 hg0 hS (texts.getD i (rz [.sl (.int .u8)])) [(0,0),(1,1),(2,2),(3,3),(4,4),(5,5),(6,6),(7,7),(8,8),(9,9),(10,10),(11,11)] ⟨(hB _ (Mu Ac)),trivial⟩)
       ·refine BP ?_
        have hS:=hS.wk 13 (lb [])
        exact I5 hg0 hS [] [(0,0),(1,1),(2,2),(3,3),(4,4),(5,5),(6,6),(7,7),(8,8),(9,9),(10,10),(11,11)] ⟨(fun x hx=>by cases hx),trivial⟩
      ·rintro tt ac gs ws ⟨hbt,_⟩ hS
       refine Ae [] 12 hS fun hS=>Il ?_
       by_cases h7:(500:Int)<((tt.length:Nat):Int)
       ·obtain⟨T,M,hT,hIM⟩:=hI
        have hok:=hIM.ok Ac
        have hqf:=hIM.t
        refine As [(4,AP (Dr (i:Int))),(5,IB (aP tt (A1 (i:Int)) Ac (B7 _)) [0,6,7] [.im (chain [.top,.im (chain [.top,.top,.top,.im (chain []) 0,.top,.top,.top,.top,.top,.top,.top]) 0,.top,.top,.top,.top,.top,.top,.top]) 0,vi 1,lb tt,lb (A1 (i:Int))])] [] 12 hS fun hS=>Ab (Ai hS (DU (Av ?_)))
        have hz1:¬((p.fl.length:Nat):Int)<((p.fl.length:Nat):Int):=(Int.lt_irrefl _)
        refine As [(6,DC hz1)] [] 12 hS fun hS=>Ab (Ai hS (BP (Ax [(3,AD 0 2),(8,AD 1 2),(10,AM (O0 p.ida p.idb p.a p.b hok.1.toSndOk hok.2.toSndOk) [(0,1),(1,2),(2,3),(3,4),(4,5),(5,6),(6,7),(7,8),(8,9),(9,10)] [])] [] 12 hS fun hS=>NC (!(XN p.ida p.idb p.a p.b)) hS (fun h8=> ?_) (fun h8=> ?_))))
        ·exact Ax [(2,AP (Dz))] [] 12 hS fun hS=>AR (Aw (Af (Af (Aw (Af (BW hS))))))
        ·refine G8 ?_
         have hI9:=(⟨T,M,by omega,hIM⟩:∃T M,T≤i+1∧INV T p M)
         exact As [(1,BH i)] [11] 12 hS fun hS=>Ab (Al hg0 hS (i+1,p) [(0,0),(1,1),(2,2),(3,3),(4,4),(5,5),(6,6),(7,7),(8,8),(9,9),(10,10),(11,11)] ⟨Ac,hI9,trivial⟩)
       ·obtain⟨T,M,hT,hIM⟩:=hI
        have hok:=hIM.ok Ac
        have hqf:=hIM.t
        refine As [(4,AP (Dr (i:Int))),(5,AM (Acc p tt (A1 (i:Int)) hok.2.toSndOk hIM.nb.1 Ac Ac (B7 _)) [(0,0),(1,1),(2,2),(3,3),(4,4),(5,5),(6,6),(7,7),(8,8),(9,9),(10,10),(11,11)] [(12,12)])] [] 13 hS fun hS=>Ab (Ai hS (DU (Av ?_)))
        have hfl2:(p.sndB tt (A1 (i:Int))).fl.length=p.fl.length+1:=by show(p.fl++[_]).length=_;rw[List.length_append];rfl
        have hz1:((p.fl.length:Nat):Int)<((((p.sndB tt (A1 (i:Int))).fl).length:Nat):Int):=Ac
        obtain⟨hsB,e2,hD,hE3,hE4,hI2,hat3,hSt3⟩:=hIM.stepB Ac (text:=tt) (rand:=(A1 (i:Int))) (r2:=(A1 ((100+i:Nat):Int))) Ac hbt (B7 _) (B7 _)
        refine As [(6,GG hz1),(11,Ek 100 i (100+i)),(12,AP (Dr ((100+i:Nat):Int))),(13,AM (wE (p.sndB tt (A1 (i:Int))) p.fl.length (A1 ((100+i:Nat):Int)) p.nb tt (p.b.frame false tt (A1 (i:Int))) e2 hD.E hD.G hD.f (B7 _) hD.row hD.k hD.R hD.hn hD.s hD.I hD.J hD.K2) [(0,0),(1,1),(2,2),(3,3),(4,4),(5,5),(6,6),(7,7),(8,8),(9,9),(10,10),(11,12)] [(12,13),(13,14),(14,15),(15,16)])] [] 17 hS fun hS=>Ab (Ai hS (BP (Ax [(3,AD 0 2),(8,AD 1 2),(10,AM (O0 (((p.sndB tt (A1 (i:Int))).dlvB e2 p.nb).ida) (((p.sndB tt (A1 (i:Int))).dlvB e2 p.nb).idb) (((p.sndB tt (A1 (i:Int))).dlvB e2 p.nb).a) (((p.sndB tt (A1 (i:Int))).dlvB e2 p.nb).b) hE3.toSndOk hE4) [(0,1),(1,13),(2,14),(3,15),(4,16),(5,6),(6,7),(7,8),(8,9),(9,10)] [])] [] 17 hS fun hS=>NC (!(XN (((p.sndB tt (A1 (i:Int))).dlvB e2 p.nb).ida) (((p.sndB tt (A1 (i:Int))).dlvB e2 p.nb).idb) (((p.sndB tt (A1 (i:Int))).dlvB e2 p.nb).a) (((p.sndB tt (A1 (i:Int))).dlvB e2 p.nb).b))) hS (fun h9=> ?_) (fun h9=> ?_))))
        ·exact Ax [(2,AP (Dz))] [] 17 hS fun hS=>AR (Aw (Af (Af (Aw (Af (BW hS))))))
        ·refine G8 ?_
         have hI9:=(⟨T+1,M,by omega,hI2 (Agp (N7 h9))⟩:∃T M,T≤i+1∧INV T ((p.sndB tt (A1 (i:Int))).dlvB e2 p.nb) M)
         exact As [(1,BH i)] [11] 17 hS fun hS=>Ab (Al hg0 hS (i+1,((p.sndB tt (A1 (i:Int))).dlvB e2 p.nb)) [(0,0),(1,1),(2,13),(3,14),(4,15),(5,16),(6,6),(7,7),(8,8),(9,9),(10,10),(11,12)] ⟨Ac,hI9,trivial⟩)
     ·refine BP (Ae [] 12 hS fun hS=>UE (ι:=(List Int)) hS (fun tt=>([(13,lb tt)],[],(By tt)∧True)) [1,2,3,9,11,12] [0,1,2,3,4,5,6,7,8,9,10,11] 12 ?_ ?_)
      ·refine Ae [] 12 hS fun hS=>AB ((i:Int)<((texts.length:Nat):Int)) hS (fun h10=> ?_) (fun h10=> ?_)
       ·exact As [(2,AD i texts.length)] [] 12 hS fun hS=>Ab (I5 hg0 hS (texts.getD i (rz [.sl (.int .u8)])) [(0,0),(1,1),(2,2),(3,3),(4,4),(5,5),(6,6),(7,7),(8,8),(9,9),(10,10),(11,11)] ⟨(hB _ (Mu Ac)),trivial⟩)
       ·refine BP ?_
        have hS:=hS.wk 13 (lb [])
        exact I5 hg0 hS [] [(0,0),(1,1),(2,2),(3,3),(4,4),(5,5),(6,6),(7,7),(8,8),(9,9),(10,10),(11,11)] ⟨(fun x hx=>by cases hx),trivial⟩
      ·rintro tt ac gs ws ⟨hbt,_⟩ hS
       refine Ae [] 12 hS fun hS=>Il ?_
       by_cases h11:(500:Int)<((tt.length:Nat):Int)
       ·obtain⟨T,M,hT,hIM⟩:=hI
        have hok:=hIM.ok Ac
        have hqf:=hIM.t
        refine As [(4,AP (Dr (i:Int))),(5,IB (aQ tt (A1 (i:Int)) Ac (B7 _)) [0,1,2] [.im (chain [.im (chain [.top,.top,.top,.im (chain []) 0,.top,.top,.top,.top,.top,.top,.top]) 0,.top,.top,.top,.top,.top,.top,.top,.top]) 0,vi 0,lb tt,lb (A1 (i:Int))])] [] 12 hS fun hS=>Ab (Ai hS (DU (Av ?_)))
        have hz1:¬((p.fl.length:Nat):Int)<((p.fl.length:Nat):Int):=(Int.lt_irrefl _)
        refine As [(6,DC hz1)] [] 12 hS fun hS=>Ab (Ai hS (BP (Ax [(3,AD 0 2),(8,AD 1 2),(10,AM (O0 p.ida p.idb p.a p.b hok.1.toSndOk hok.2.toSndOk) [(0,1),(1,2),(2,3),(3,4),(4,5),(5,6),(6,7),(7,8),(8,9),(9,10)] [])] [] 12 hS fun hS=>NC (!(XN p.ida p.idb p.a p.b)) hS (fun h12=> ?_) (fun h12=> ?_))))
        ·exact Ax [(2,AP (Dz))] [] 12 hS fun hS=>AR (Aw (Af (Af (Aw (Af (BW hS))))))
        ·refine G8 ?_
         have hI9:=(⟨T,M,by omega,hIM⟩:∃T M,T≤i+1∧INV T p M)
         exact As [(1,BH i)] [11] 12 hS fun hS=>Ab (Al hg0 hS (i+1,p) [(0,0),(1,1),(2,2),(3,3),(4,4),(5,5),(6,6),(7,7),(8,8),(9,9),(10,10),(11,11)] ⟨Ac,hI9,trivial⟩)
       ·obtain⟨T,M,hT,hIM⟩:=hI
        have hok:=hIM.ok Ac
        have hqf:=hIM.t
        refine As [(4,AP (Dr (i:Int))),(5,AM (Acd p tt (A1 (i:Int)) hok.1.toSndOk hIM.na.1 Ac Ac (B7 _)) [(0,0),(1,1),(2,2),(3,3),(4,4),(5,5),(6,6),(7,7),(8,8),(9,9),(10,10),(11,11)] [(12,12)])] [] 13 hS fun hS=>Ab (Ai hS (DU (Av ?_)))
        have hfl2:(p.sndA tt (A1 (i:Int))).fl.length=p.fl.length+1:=by show(p.fl++[_]).length=_;rw[List.length_append];rfl
        have hz1:((p.fl.length:Nat):Int)<((((p.sndA tt (A1 (i:Int))).fl).length:Nat):Int):=Ac
        obtain⟨hsA,e2,M2,hD,hI2,hat,hSt⟩:=hIM.stepA Ac (text:=tt) (rand:=(A1 (i:Int))) (r2:=(A1 ((100+i:Nat):Int))) Ac hbt (B7 _) (B7 _)
        refine As [(6,GG hz1),(11,Ek 100 i (100+i)),(12,AP (Dr ((100+i:Nat):Int))),(13,AM (wF (p.sndA tt (A1 (i:Int))) p.fl.length (A1 ((100+i:Nat):Int)) p.na tt (p.a.frame true tt (A1 (i:Int))) e2 hD.E hD.G hD.f (B7 _) hD.row hD.k hD.R hD.hn hD.s hD.I hD.J hD.K2) [(0,0),(1,1),(2,2),(3,3),(4,4),(5,5),(6,6),(7,7),(8,8),(9,9),(10,10),(11,12)] [(12,13),(13,14),(14,15),(15,16)])] [] 17 hS fun hS=>Ab (Ai hS (BP (Ax [(3,AD 0 2),(8,AD 1 2),(10,AM (O0 (((p.sndA tt (A1 (i:Int))).dlvA e2 p.na).ida) (((p.sndA tt (A1 (i:Int))).dlvA e2 p.na).idb) (((p.sndA tt (A1 (i:Int))).dlvA e2 p.na).a) (((p.sndA tt (A1 (i:Int))).dlvA e2 p.na).b) (hI2.ok Ac).1.toSndOk (hI2.ok Ac).2.toSndOk) [(0,1),(1,2),(2,3),(3,4),(4,5),(5,6),(6,13),(7,14),(8,15),(9,16)] [])] [] 17 hS fun hS=>NC (!(XN (((p.sndA tt (A1 (i:Int))).dlvA e2 p.na).ida) (((p.sndA tt (A1 (i:Int))).dlvA e2 p.na).idb) (((p.sndA tt (A1 (i:Int))).dlvA e2 p.na).a) (((p.sndA tt (A1 (i:Int))).dlvA e2 p.na).b))) hS (fun h13=> ?_) (fun h13=> ?_))))
        ·exact Ax [(2,AP (Dz))] [] 17 hS fun hS=>AR (Aw (Af (Af (Aw (Af (BW hS))))))
        ·refine G8 ?_
         have hI9:=(⟨T+1,M2,by omega,hI2⟩:∃T M,T≤i+1∧INV T ((p.sndA tt (A1 (i:Int))).dlvA e2 p.na) M)
         exact As [(1,BH i)] [11] 17 hS fun hS=>Ab (Al hg0 hS (i+1,((p.sndA tt (A1 (i:Int))).dlvA e2 p.na)) [(0,0),(1,1),(2,2),(3,3),(4,4),(5,5),(6,6),(7,13),(8,14),(9,15),(10,16),(11,12)] ⟨Ac,hI9,trivial⟩)
    ·have hT:=hS
     obtain rfl:who.length=i:=by omega
     have hS:=hT
     exact CO (Ax [(0,AP (Dz))] [] 12 hS fun hS=>AR (BW hS))
 ·exact As [(2,Rnt h1)] [] 0 hS fun hS=>Ab (AO hS (Ax [(0,AP (Dz))] [] 0 hS fun hS=>AR (Af (BW hS))))
def zG (texts:List (List Int)) (hyb:Bool):Con:=⟨[lb root,.ls false [.bool] who,.ls false [.sl (.int .u8)] texts,.v (.bool hyb)],[],.v (.bool true),[]⟩
theorem stalk_ok (texts:List (List Int)) (hyb:Bool) (hB:∀t∈texts,By t):ConOk Tryz.prog 6 (zG root who texts hyb):=by
 cases hyb
 ·exact dQ root who texts hB
 ·exact dR root who texts hB
end
end
end Go.Sx.Tryz
namespace Go.Sx
open Go.Mi Go.RowKit
variable [Dfr]
theorem Ach {w:World} {x:Addr} {v:Value} (h:w.cell? x=some v):x=⟨x.block,x.off,none⟩:=by
 obtain⟨b,o,s⟩:=x
 cases s with
 |none=>rfl
 |some s=>
  unfold World.cell? at h
  simp at h
  split at h<;>simp at h
def AaV (w:World) (k:IntKind) (ad:Option Addr) (l c:Nat) (zs:List Int):Prop:=l≤c∧c≤maxLen∧zs.length=c∧(ad=none→c=0)∧∀a,ad=some a→∀i,i<c→w.cell? (a.add i)=some (.int k (zs.getD i 0))
theorem o7 {X:Nat→Prop} {N:Nat→Option Value} {w:World} {k:IntKind}:∀l:List Int,Fa2 (fS X N w (.int k)) l (l.map (Value.int k))
 |[]=>trivial
 |_::l=>⟨rfl,o7 l⟩
theorem AeJ {w:World} {k:IntKind} {ad:Option Addr} {l c:Nat} {zs:List Int} (h:AaV w k ad l c zs):fS g00.X g00.N w (.sl (.int k)) (zs.take l:List Int) (.slice ad l c):=by
 obtain⟨h1,h2,h3,h4,h5⟩:=h
 have hl:(zs.take l).length=l:=by rw[List.length_take];omega
 refine⟨(zs.take l).map (Value.int k),⟨by show(zs.take l).length≤_;omega,by rw[List.length_map];exact(Nat.mul_one _).symm,?_⟩,o7 _⟩
 by_cases h0:l=0
 ·refine .inl ⟨by show(zs.take l).length=0;omega,?_⟩
  subst h0
  cases ad with
  |none=>have :=h4 rfl;subst this;exact .inl ⟨rfl,rfl⟩
  |some a=>exact .inr ⟨a,c,rfl⟩
 ·cases ad with
  |none=>have :=h4 rfl;omega
  |some a=>
   have e0:=h5 a rfl 0 (by omega)
   have hp:=Ach (x:=a) (v:= .int k (zs.getD 0 0)) (by simpa[Addr.add]using e0)
   have hb:a.block<w.heap.size:=by have :=World.block_lt_of_cell? w _ e0;simpa[Addr.add]using this
   refine .inr ⟨a.block,a.off,c,by show _=vS a.block a.off (zs.take l).length c;rw[hl,hp],by show(zs.take l).length≤_;omega,h2,id,hb,fun i u hu=> ?_⟩
   rw[List.getElem?_map]at hu
   obtain⟨y,hy,rfl⟩:=Option.map_eq_some_iff.1 hu
   have hi:i<l:=by
    rcases Nat.lt_or_ge i l with h|h
    ·exact h
    ·rw[List.getElem?_eq_none (by rw[hl];exact h)]at hy;cases hy
   rw[List.getElem?_take_of_lt hi]at hy
   have :=h5 a rfl i (by omega)
   rw[List.getD_eq_getElem?_getD,hy,Option.getD_some,hp,Cr]at this
   exact this
def rws (l:Nat) (Z:Nat→List Int) (L:Nat→Nat):List (List Int):=(List.range l).map fun r=>(Z r).take (L r)
theorem bX {w:World} {k:IntKind} {A:Nat→Option Addr} {L C:Nat→Nat} {Z:Nat→List Int}:∀rs:List Nat,(∀r∈rs,AaV w k (A r) (L r) (C r) (Z r))→Fa2 (rS g00.X g00.N w [.sl (.int k)]) (rs.map fun r=>(Z r).take (L r):List (List Int)) (rs.map fun r=>[Value.slice (A r) (L r) (C r)])
 |[],_=>trivial
 |r::rs,h=>⟨⟨_,rfl,AeJ (h r (List.mem_cons_self ..))⟩,bX rs fun q hq=>h q (List.mem_cons_of_mem _ hq)⟩
theorem AbV {w:World} {k:IntKind} {a:Option Addr} {len cap:Nat} {A:Nat→Option Addr} {L C:Nat→Nat} {Z:Nat→List Int} (h:(a=none∧len=0∧cap=0)∨∃x,a=some x∧len≤cap∧cap≤maxLen∧∀r,r<cap→w.cell? (x.add r)=some (.slice (A r) (L r) (C r))∧AaV w k (A r) (L r) (C r) (Z r)) (ho:∀x,a=some x→x.spot=none∧x.block<w.heap.size∧len≤cap):Sm g00 w (.ls false [.sl (.int k)] (rws len Z L)) (.slice a len cap):=by
 have hl:(rws len Z L).length=len:=by unfold rws;rw[List.length_map,List.length_range]
 rcases h with⟨rfl,rfl,rfl⟩|⟨x,rfl,h1,h2,h4⟩
 ·exact⟨_,[],rfl,Lsl.nil,trivial⟩
 ·obtain⟨h5,h6,_⟩:=ho x rfl
  obtain⟨b,o,s⟩:=x
  simp only at h5
  subst h5
  have hF:=bX (w:=w) (k:=k) (A:=A) (L:=L) (C:=C) (Z:=Z) (List.range len) fun r hr=>(h4 r (by have :=List.mem_range.1 hr;omega)).2
  have hfl:((List.range len).map fun r=>[Value.slice (A r) (L r) (C r)]).flatten=(List.range len).map fun r=>Value.slice (A r) (L r) (C r):=by
   generalize List.range len=rs
   induction rs with
   |nil=>rfl
   |cons r rs ih=>rw[List.map_cons,List.flatten_cons,ih];rfl
  have key:Lsl g00.X w false (rws len Z L).length (vS b o len cap) 1 ((List.range len).map fun r=>[Value.slice (A r) (L r) (C r)]).flatten:=by
   refine⟨by rw[hl];omega,?_,.inr ⟨b,o,cap,by rw[hl],by rw[hl];exact h1,h2,id,h6,fun i u hu=> ?_⟩⟩
   ·rw[hfl,List.length_map,List.length_range,hl];exact(Nat.mul_one _).symm
   ·rw[hfl,List.getElem?_map]at hu
    obtain⟨z,hz,rfl⟩:=Option.map_eq_some_iff.1 hu
    have hi:i<len:=by
     rcases Nat.lt_or_ge i len with h|h
     ·exact h
     ·rw[List.getElem?_eq_none (by rw[List.length_range];exact h)]at hz;cases hz
    rw[List.getElem?_range hi]at hz
    cases hz
    have :=(h4 i (by omega)).1
    rw[Cr]at this
    exact this
  exact⟨_,_,rfl,key,hF⟩
end Go.Sx
