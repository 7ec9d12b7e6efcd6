/- General lemmas, walks. -/
import Derived.Shelf.RegionOpenPlain
import Derived.WalkKit
import Derived.Deep.LoopGhost
import Derived.Deep.RegionLaw
import Derived.Lib.Walk
import Derived.Lib.SliceRun
import Derived.Lib.SlicesDelete
import Derived.Deep.MidRow
import Derived.Test.YtmkplecnmklbfaaGreatJ5PSpoilt
set_option maxRecDepth 100000
set_option maxHeartbeats 1000000
set_option linter.unusedSimpArgs false
set_option linter.unusedVariables false
set_option linter.unnecessarySimpa false
set_option linter.unusedSectionVars false
namespace Go.Sx
open Go.Mi Go.RowKit
def Rb (n:Nat) (f:Nat->Int):Prop:=∀j,j<n->0<=f j/\f j<256
theorem cE (x:Int):0<=IntKind.wrap .u8 x/\IntKind.wrap .u8 x<256:=by rw[FQ];omega
theorem Jq (a b:Int):0<=AV .u8 a b/\AV .u8 a b<256:=cE _
theorem Rb.zero (f:Nat->Int):Rb 0 f:=λ_ h=>absurd h (bd _)
theorem Rb.next {n:Nat} {f:Nat->Int} {v:Int} (h:Rb n f) (hv:0<=v/\v<256):Rb (n+1) (upd f n v):=λj hj=>by
 unfold upd;split
 ·exact hv
 ·exact h j (by omega)
theorem Rb.set {n:Nat} {f:Nat->Int} {v:Int} (h:Rb n f) (i:Nat) (hv:0<=v/\v<256):Rb n (upd f i v):=λj hj=>by
 unfold upd;split
 ·exact hv
 ·exact h j hj
theorem nR {b:Int} (h:0<b):(Bi .u8 b 1).toNat<b.toNat:=by have :=Aai (a:=b) (by omega) (n:=1) (by omega);rw[show((1:Nat):Int)=1 from rfl]at this;rw[this,bh,ef];omega
theorem Aab {a b:Int} (ha:0<=a/\a<256) (hb:0<=b/\b<256):AV .u8 a b=((a.toNat^^^b.toNat:Nat):Int):=by have h:a.toNat^^^b.toNat<2^8:=Nat.xor_lt_two_pow (by omega) (by omega);unfold AV;rw[FQ];show(((BitVec.ofInt 8 a^^^BitVec.ofInt 8 b).toNat:Nat):Int)%256=_;rw[BitVec.toNat_xor,fY ha,fY hb];omega
theorem bZ (a b:Int):AV .u8 a b=AV .u8 a (b%256):=by unfold AV;congr 4;show BitVec.ofInt 8 b=BitVec.ofInt 8 (b%256);apply g_;rw[fe,fe];omega
theorem m7 {a:Int} (ha:0<=a/\a<256) (b:Int):AV .u8 (AV .u8 a b) b=a:=by
 have hb:0<=b%256/\b%256<256:=by omega
 rw[bZ _ b,bZ a b,Aab (Jq _ _) hb,Aab ha hb];rw[bh,Nat.xor_assoc,Nat.xor_self,Nat.xor_zero];omega
end Go.Sx
namespace Go.Sx.Tryz
open Go.Mi Go.RowKit Go.Sx Go.Proofs Go.Proofs.Tryz
noncomputable section
open List (replicate)
section
variable (x:Int)
def Wn (k:Nat):Int:=AR ((Ew .u8 (BW .u8 x (BI .u64 (k:Int) 7)) (Bi .u8 x (EO .u64 8 (BI .u64 (k:Int) 7)))))
def yH (k:Nat) (z_:Int:=Wn x k):Con:=⟨[.v (.int .u8 x),vi (k:Int)],[],.v (.int .u8 z_),[]⟩
theorem n9 (k:Nat) (hk:k<=8):AO 212 (yH x k):=by exact cy 0 func212 rfl ntmps212 λY V=>Ak [] 0 V λV=>Ay [(1,Jn k)] [] 0 V λV=>Ay [(2,OZ ((0:Int)<=(BI .u64 (k:Int) 7)) (Ki rfl)),(6,OZ ((0:Int)<=(EO .u64 8 (BI .u64 (k:Int) 7))) (Ki rfl))] [] 0 V λV=>AU (BX (Ab _) V)
def G6:Int:=AR ((AV .u8 (BW .u8 x 1) (BE .u8 (Bi .u8 x 7) 27)))
def rB (z_:Int:=G6 x):Con:=⟨[.v (.int .u8 x)],[],.v (.int .u8 z_),[]⟩
theorem Io:AO 204 (rB x):=by exact cy 0 func204 rfl ntmps204 λY V=>Ak [] 0 V λV=>Ay [(1,If 1),(3,If 7)] [] 0 V λV=>AU (BX (Ab _) V)
end
def Pf (k1:Nat):(Int×Int×Int)->(Int×Int×Int):=λ(x0,x1,x4)=>((G6 x0),(Bi .u8 x1 1),(AV .u8 x4 (BE .u8 x0 (BI .u8 x1 1))))
def Jt (a b:Int):Nat->Int×Int×Int
 |0=>(a,b,0)
 |k1+1=>Pf k1 (Jt a b k1)
def Pg:(Int×Int×Int)->Prop:=λ(x0,x1,x4)=>(0:Int)<x1
section
variable (a b:Int)
def HZ:Int:=AR (((Jt a b (DX λj=>Pg (Jt a b j))).2.2))
def rC (z_:Int:=HZ a b):Con:=⟨[.v (.int .u8 a),.v (.int .u8 b)],[],.v (.int .u8 z_),[]⟩
theorem Um:AO 211 (rC a b):=by
 refine cy 0 func211 rfl ntmps211 λY V=>Ak [] 0 V λV=>Ao (BK (AD (ι:=Nat×Int×Int×Int) Y V (λ(k1,x0,x1,x4)=>(x1.toNat,[(0,.v (.int .u8 x0)),(1,.v (.int .u8 x1)),(4,.v (.int .u8 x4))],[],((x0,x1,x4)=Jt a b k1)/\(∀j,j<k1->Pg (Jt a b j))/\True)) [] [] 0 (0,a,b,0) [] ⟨rfl,(λj h=>absurd h (bd j)),aa⟩ ?_));rintro⟨k1,x0,x1,x4⟩ ac gs ws ⟨hq1,hj1,_⟩ V;refine Ao (Ak [] 0 V λV=>AH ((0:Int)<x1) V (λh1=> ?_) (λh1=> ?_))
 ·exact B6 (Ak [4] 0 V λV=>Aw [(1,AS (Io x0))] [0] 0 V λV=>Cn (Aw [(1,If 1)] [1] 0 V λV=>Ae (Av Y V (k1+1,(G6 x0),(Bi .u8 x1 1),(AV .u8 x4 (BE .u8 x0 (BI .u8 x1 1)))) [] ⟨(Bp (st:=Pf) hq1 rfl rfl),(Bf hj1 (by rw[<-hq1];exact h1)),aa⟩ (show(Bi .u8 x1 1).toNat<x1.toNat from nR A3))))
 ·have hT:=V;obtain rfl:=CB (by rw[<-hq1];first |exact h1|exact cq h1) hj1;obtain⟨rfl,rfl,rfl⟩:=fE hq1;have V:=hT;exact DF (Ak [4] 0 V λV=>AU (BX (Ab _) V))
end
def Nh (b:Int) (k1:Nat):(Int×Int)->(Int×Int):=λ(x3,x4)=>if(0:Int)<x4 then((HZ (HZ x3 x3) b),(x4-1))else((HZ x3 x3),(x4-1))
def E4 (b:Int):Nat->Int×Int
 |0=>(1,7)
 |k1+1=>Nh b k1 (E4 b k1)
def Hg:(Int×Int)->Prop:=λ(x3,x4)=>(0:Int)<=x4
def Ri (b:Int) (k2:Nat):(Int×Nat)->(Int×Nat):=λ(x5,x6)=>((AV .u8 x5 (Wn ((E4 b (DX λj=>Hg (E4 b j))).1) x6)),x6+1)
def Ma (b:Int):Nat->Int×Nat
 |0=>(((E4 b (DX λj=>Hg (E4 b j))).1),1)
 |k2+1=>Ri b k2 (Ma b k2)
def Rj:(Int×Nat)->Prop:=λ(x5,x6)=>(x6:Int)<5
def Ng (b:Int):Int:=AR ((AV .u8 ((Ma b (DX λj=>Rj (Ma b j))).1) 99))
theorem XZ (x:Int):0<=Ng x/\Ng x<256:=by unfold Ng;rw[Ab];exact Jq _ _
def yE (b:Int) (z_:Int:=Ng b):Con:=⟨[.v (.int .u8 b)],[],.v (.int .u8 z_),[]⟩
theorem nU (b:Int):AO 203 (yE b):=by
 refine cy 0 func203 rfl ntmps203 λY V=>Ak [] 0 V λV=>Ak [] 0 V λV=>Ao (Ak [] 0 V λV=>BK (AD (ι:=Nat×Int×Int) Y V (λ(k1,x3,x4)=>((x4+1).toNat,[(3,.v (.int .u8 x3)),(4,vi x4)],[],((x3,x4)=E4 b k1)/\(∀j,j<k1->Hg (E4 b j))/\(-1<=x4/\x4<=7)/\True)) [0,2] [] 0 (0,1,7) [] ⟨rfl,(λj h=>absurd h (bd j)),Ac,aa⟩ ?_));rintro⟨k1,x3,x4⟩ ac gs ws ⟨hq1,hj1,p1,_⟩ V;refine Ao (Ak [] 0 V λV=>AH ((0:Int)<=x4) V (λh1=> ?_) (λh1=> ?_))
 ·refine B6 (Ay [(2,AS (Um x3 x3))] [3] 0 V λV=>Ak [] 0 V λV=>AH ((0:Int)<x4) V (λh2=> ?_) (λh2=> ?_))
  ·exact Aw [(2,AS (Um (HZ x3 x3) b))] [3] 0 V λV=>Cn (Aw [(1,Ub x4 1)] [4] 0 V λV=>Ae (Av Y V (k1+1,(HZ (HZ x3 x3) b),(x4-1)) [] ⟨(Bp (st:=Nh _) hq1 rfl (Eq.symm (ab h2))),(Bf hj1 (by rw[<-hq1];exact h1)),Ac,aa⟩))
  ·exact GT (Aw [(1,Ub x4 1)] [4] 0 V λV=>Ae (Av Y V (k1+1,(HZ x3 x3),(x4-1)) [] ⟨(Bp (st:=Nh _) hq1 rfl (Eq.symm (aj h2))),(Bf hj1 (by rw[<-hq1];exact h1)),Ac,aa⟩))
 ·have hT:=V;obtain rfl:=CB (by rw[<-hq1];first |exact h1|exact cq h1) hj1;obtain⟨rfl,rfl⟩:=SU hq1;have V:=hT;refine DF (Ak [] 0 V λV=>Ao (Ak [] 0 V λV=>BK (AD (ι:=Nat×Int×Nat) Y V (λ(k2,x5,x6)=>(5-x6,[(5,.v (.int .u8 x5)),(6,vi (x6:Int))],[],((x5,x6)=Ma b k2)/\(∀j,j<k2->Rj (Ma b j))/\(1<=x6)/\True)) [2,3] [] 0 (0,((E4 b (DX λj=>Hg (E4 b j))).1),1) [] ⟨rfl,(λj h=>absurd h (bd j)),Ac,aa⟩ ?_)));rintro⟨k2,x5,x6⟩ ac gs ws ⟨hq2,hj2,p2,_⟩ V;refine Ao (Ak [] 0 V λV=>AH ((x6:Int)<5) V (λh3=> ?_) (λh3=> ?_))
  ·exact B6 (Aw [(3,AS (n9 ((E4 b (DX λj=>Hg (E4 b j))).1) x6 Ac))] [5] 0 V λV=>Cn (Aw [(1,CF x6)] [6] 0 V λV=>Ae (Av Y V (k2+1,(AV .u8 x5 (Wn ((E4 b (DX λj=>Hg (E4 b j))).1) x6)),x6+1) [] ⟨(Bp (st:=Ri _) hq2 rfl rfl),(Bf hj2 (by rw[<-hq2];exact h3)),Ac,aa⟩)))
  ·have hT:=V;obtain rfl:=CB (by rw[<-hq2];first |exact h3|exact cq h3) hj2;obtain⟨rfl,rfl⟩:=SU hq2;have V:=hT;exact DF (Ak [] 0 V λV=>AU (BX (Ab _) V))
section
variable (a b:Int) (c d:Int)
def F3:(Nat->Int):=AR (upd (upd (upd (upd (λ_=>0) 0 (AV .u8 (AV .u8 a (AV .u8 (AV .u8 (AV .u8 a b) c) d)) (G6 (AV .u8 a b)))) 1 (AV .u8 (AV .u8 b (AV .u8 (AV .u8 (AV .u8 a b) c) d)) (G6 (AV .u8 b c)))) 2 (AV .u8 (AV .u8 c (AV .u8 (AV .u8 (AV .u8 a b) c) d)) (G6 (AV .u8 c d)))) 3 (AV .u8 (AV .u8 d (AV .u8 (AV .u8 (AV .u8 a b) c) d)) (G6 (AV .u8 d a))))
def rV (z_:(Nat->Int):=F3 a b c d):Con:=⟨[.v (.int .u8 a),.v (.int .u8 b),.v (.int .u8 c),.v (.int .u8 d)],[],.ar .u8 4 z_,[]⟩
theorem Mv:AO 205 (rV a b c d):=by exact cy 0 func205 rfl ntmps205 λY V=>Ak [] 1 V λV=>Ak [] 1 V λV=>Ay [(6,AS (Io (AV .u8 a b))),(14,AS (Io (AV .u8 b c))),(22,AS (Io (AV .u8 c d))),(30,AS (Io (AV .u8 d a)))] [] 1 V λV=>AU (BX (Ab _) V)
end
def V6 (x0 x1:Nat->Int):O:= .ob 258 (Ag [.ar .u8 256 x0,.ar .u8 240 x1])
def bT (x0:Nat->Int):O:= .ob 241 (Ag [.ar .u8 16 x0])
theorem OU {xs:Ad} (h:By xs) (j:Nat):0<=xs.getD j 0/\xs.getD j 0<256:=by
 rw[al];cases hx:xs[j]? with
 |none=>exact⟨Int.le_refl _,by decide⟩
 |some x=>exact h x (ee hx)
theorem vE {key:Ad} (h:By key):Rb 240 (Ek (λ_=>0) 0 (min key.length 240) (λj=>key.getD j 0)):=λj hj=>by
 unfold Ek;cases Nat.ble 0 j&&Nat.blt j (0+min key.length 240)with
 |true=>exact OU h _
 |false=>exact⟨Int.le_refl _,(by decide:(0:Int)<256)⟩
def PI (x11:Nat):(Nat->Int)->(Nat->Int):=λo3_0=>upd o3_0 x11 (Ng (IntKind.wrap .u8 (x11:Int)))
def B1:Nat->(Nat->Int)
 |0=>λ_=>0
 |x11+1=>PI x11 (B1 x11)
def PG (x5:Int) (x6:Nat) (o3_1:Nat->Int) (x111:Nat):(Nat->Int)->(Nat->Int):=λo3_1_3=>upd o3_1_3 (x6+x111) (AV .u8 (o3_1_3 ((x6+x111)-32)) ((upd (upd (upd (upd (λ_=>0) 0 (AV .u8 ((B1 256) (Int.toNat ((λj=>o3_1 ((x6-4)+j)) 1))) x5)) 1 ((B1 256) (Int.toNat ((λj=>o3_1 ((x6-4)+j)) 2)))) 2 ((B1 256) (Int.toNat ((λj=>o3_1 ((x6-4)+j)) 3)))) 3 ((B1 256) (Int.toNat ((λj=>o3_1 ((x6-4)+j)) 0)))) x111))
def Mg (x5:Int) (x6:Nat) (o3_1:Nat->Int):Nat->(Nat->Int)
 |0=>o3_1
 |x111+1=>PG x5 x6 o3_1 x111 (Mg x5 x6 o3_1 x111)
section
variable (x6:Nat) (o3_1:Nat->Int)
def PF (x111:Nat):(Nat->Int)->(Nat->Int):=λo3_1_4=>upd o3_1_4 (x6+x111) (AV .u8 (o3_1_4 ((x6+x111)-32)) ((upd (upd (upd (upd (λ_=>0) 0 ((B1 256) (Int.toNat ((λj=>o3_1 ((x6-4)+j)) 0)))) 1 ((B1 256) (Int.toNat ((λj=>o3_1 ((x6-4)+j)) 1)))) 2 ((B1 256) (Int.toNat ((λj=>o3_1 ((x6-4)+j)) 2)))) 3 ((B1 256) (Int.toNat ((λj=>o3_1 ((x6-4)+j)) 3)))) x111))
def Mf (x6:Nat) (o3_1:Nat->Int):Nat->(Nat->Int)
 |0=>o3_1
 |x111+1=>PF x6 o3_1 x111 (Mf x6 o3_1 x111)
def PE (x111:Nat):(Nat->Int)->(Nat->Int):=λo3_1_5=>upd o3_1_5 (x6+x111) (AV .u8 (o3_1_5 ((x6+x111)-32)) ((λj=>o3_1 ((x6-4)+j)) x111))
end
def Me (x6:Nat) (o3_1:Nat->Int):Nat->(Nat->Int)
 |0=>o3_1
 |x111+1=>PE x6 o3_1 x111 (Me x6 o3_1 x111)
def IW (k2:Nat):(Int×Nat×(Nat->Int))->(Int×Nat×(Nat->Int)):=λ(x5,x6,o3_1)=>if(((x6/4)%8:Nat):Int)=0 then((G6 x5),x6+4,Mg x5 x6 o3_1 4)else(if(((x6/4)%8:Nat):Int)=4 then(x5,x6+4,Mf x6 o3_1 4)else(x5,x6+4,Me x6 o3_1 4))
def JD (key:Ad):Nat->Int×Nat×(Nat->Int)
 |0=>(1,32,Ek (λ_=>0) 0 (min key.length 240) (λj=>key.getD j 0))
 |k2+1=>IW k2 (JD key k2)
def PH:(Int×Nat×(Nat->Int))->Prop:=λ(x5,x6,o3_1)=>(x6:Int)<240
section
variable (key:Ad)
def E6:(Nat->Int)×(Nat->Int):=AR ((B1 256,(JD key (DX λj=>PH (JD key j))).2.2))
theorem eG:Rb 256 (E6 key).1:=by
 have key1:∀n,Rb n (B1 n):=by
  intro n
  induction n with
  |zero=>exact Rb.zero _
  |succ n ih=>exact Rb.next ih (XZ _)
 unfold E6;rw[Ab];exact key1 256
def rN (z_:(Nat->Int)×(Nat->Int):=E6 key):Con:=⟨[lb key],[],.cp 0 0,[(0,V6 (z_.1) (z_.2))]⟩
theorem eI (hk:key.length=32) (hb:By key):AO 182 (rN key):=by
 refine cy 0 func182 rfl ntmps182 λY V=>Ak [] 0 V λV=>Ak [] 1 V λV=>Ao (Ak [] 1 V λV=>BK (AD (ι:=Nat×(Nat->Int)) Y V (λ(x11,o3_0)=>(256-x11,[(11,vi ((x11:Nat):Int))],[(0,V6 o3_0 (λ_=>0))],(x11<=256)/\(o3_0=B1 x11)/\(Rb x11 o3_0)/\True)) [0,2,3] [] 1 (0,λ_=>0) [(0,0)] ⟨Ac,rfl,(Rb.zero _),aa⟩ ?_));rintro⟨x11,o3_0⟩ ac gs ws ⟨hx11,hq1,p1,_⟩ V;refine Ak [] 1 V λV=>Ao (AH ((x11:Int)<256) V (λh1=> ?_) (λh1=> ?_))
 ·exact B6 (Ak [] 1 V λV=>Aw [(4,AS (nU (IntKind.wrap .u8 (x11:Int)))),(7,AN x11 256)] [] 1 V λV=>Cn (Aw [(0,CF x11)] [11] 1 V λV=>Ae (Av Y V (x11+1,upd o3_0 x11 (Ng (IntKind.wrap .u8 (x11:Int)))) [(0,0)] ⟨Ac,(Bp (st:=PI) hq1 rfl rfl),(Rb.next p1 (XZ _)),aa⟩)))
 ·have hT:=V;obtain rfl:256=x11:=by omega
  obtain rfl:=hq1.symm;have V:=hT;refine DF (Ay [(3,mS [FG none none none 240 240,240<=9223372036854775807,bl none 0<bl none 240] ⟨⟨by simp only[Gq]<;>omega,by simp only[Gq]<;>omega,by simp only[Gq]<;>omega,by simp,by simp only[bl]<;>omega,by simp only[bl]<;>omega,by simp only[bl]<;>omega⟩,by omega,by decide,aa⟩)] [] 1 V λV=>Ak [] 1 V λV=>Ao (Ak [] 1 V λV=>BK (AD (ι:=Nat×Int×Nat×(Nat->Int)) Y V (λ(k2,x5,x6,o3_1)=>(240-x6,[(5,.v (.int .u8 x5)),(6,vi (x6:Int))],[(0,V6 (B1 256) o3_1)],((x5,x6,o3_1)=JD key k2)/\(∀j,j<k2->PH (JD key j))/\(x6%4=0/\32<=x6/\x6<=240)/\(Rb 240 o3_1)/\True)) [2,3] [] 1 (0,1,32,Ek (λ_=>0) 0 (min key.length 240) (λj=>key.getD j 0)) [(0,0)] ⟨rfl,(λj h=>absurd h (bd j)),Ac,(vE hb),aa⟩ ?_)));rintro⟨k2,x5,x6,o3_1⟩ ac gs ws ⟨hq2,hj2,p2,p4,_⟩ V;refine Ao (Ak [] 1 V λV=>AH ((x6:Int)<240) V (λh2=> ?_) (λh2=> ?_))
  ·refine B6 (Ay [(4,Ie x6 4 (x6-4)),(6,mS [FG (some ((x6-4:Nat):Int)) (some (x6:Int)) none 240 240,240<=9223372036854775807,bl (some ((x6-4:Nat):Int)) 0<bl none 240] ⟨⟨by simp only[Gq]<;>omega,by simp only[Gq]<;>omega,by simp only[Gq]<;>omega,by simp,by simp only[bl]<;>omega,by simp only[bl]<;>omega,by simp only[bl]<;>omega⟩,by omega,by simp only[bl]<;>omega,aa⟩),(7,QP .frz [4<=x6-(x6-4)] ⟨by omega,aa⟩),(8,QP (.at 1 (x6-4)) [256+(x6-4)=T7 (([.ar .u8 256 (B1 256),.ar .u8 240 o3_1]:List D).take 1)+(x6-4),(x6-4)+4<=240] ⟨rfl,by omega,aa⟩)] [7] 2 V λV=>Ao (Ay [(1,V9 x6 4),(2,M6 (x6/4) 8)] [] 2 V λV=>BK (Ak [] 2 V λV=>AH ((((x6/4)%8:Nat):Int)=0) V (λh3=> ?_) (λh3=> ?_))))
   ·refine Ao ?_;have hr0:0<=(λj=>o3_1 (x6-4+j)) 0/\(λj=>o3_1 (x6-4+j)) 0<256:=p4 (x6-4+0) Ac;have hr1:0<=(λj=>o3_1 (x6-4+j)) 1/\(λj=>o3_1 (x6-4+j)) 1<256:=p4 (x6-4+1) Ac;have hr2:0<=(λj=>o3_1 (x6-4+j)) 2/\(λj=>o3_1 (x6-4+j)) 2<256:=p4 (x6-4+2) Ac;have hr3:0<=(λj=>o3_1 (x6-4+j)) 3/\(λj=>o3_1 (x6-4+j)) 3<256:=p4 (x6-4+3) Ac;refine Aw [(1,AN 1 4),(5,Sk ((λj=>o3_1 ((x6-4)+j)) 1) 256),(10,AN 2 4),(14,Sk ((λj=>o3_1 ((x6-4)+j)) 2) 256),(17,AN 3 4),(21,Sk ((λj=>o3_1 ((x6-4)+j)) 3) 256),(24,AN 0 4),(28,Sk ((λj=>o3_1 ((x6-4)+j)) 0) 256)] [] 2 V λV=>Ae (Aw [(1,AS (Io x5))] [5] 2 V λV=>Cn (Ak [] 2 V λV=>BK (AD (ι:=Nat×(Nat->Int)) Y V (λ(x111,o3_1_3)=>(4-x111,[(111,vi ((x111:Nat):Int))],[(0,V6 (B1 256) o3_1_3)],(x111<=4)/\(o3_1_3=Mg x5 x6 o3_1 x111)/\(Rb 240 o3_1_3)/\True)) [2,3,5,6,7] [1] 2 (0,o3_1) [(0,0),(1,1)] ⟨Ac,rfl,p4,aa⟩ ?_)));rintro⟨x111,o3_1_3⟩ ac gs ws ⟨hx111,hq3,p5,_⟩ V;refine Ak [] 2 V λV=>Ao (AH ((x111:Int)<4) V (λh4=> ?_) (λh4=> ?_))
    ·exact B6 (Ak [] 2 V λV=>Aw [(3,FA x6 x111 (x6+x111)),(7,FA x6 x111 (x6+x111)),(8,Ie (x6+x111) 32 ((x6+x111)-32)),(11,AN ((x6+x111)-32) 240),(14,AN x111 4),(19,AN (x6+x111) 240)] [] 2 V λV=>Cn (Aw [(0,CF x111)] [111] 2 V λV=>Ae (Av Y V (x111+1,upd o3_1_3 (x6+x111) (AV .u8 (o3_1_3 ((x6+x111)-32)) ((upd (upd (upd (upd (λ_=>0) 0 (AV .u8 ((B1 256) (Int.toNat ((λj=>o3_1 ((x6-4)+j)) 1))) x5)) 1 ((B1 256) (Int.toNat ((λj=>o3_1 ((x6-4)+j)) 2)))) 2 ((B1 256) (Int.toNat ((λj=>o3_1 ((x6-4)+j)) 3)))) 3 ((B1 256) (Int.toNat ((λj=>o3_1 ((x6-4)+j)) 0)))) x111))) [(0,0),(1,1)] ⟨Ac,(Bp (st:=PG _ _ _) hq3 rfl rfl),(Rb.set p5 _ (Jq _ _)),aa⟩)))
    ·have hT:=V;obtain rfl:4=x111:=by omega
     obtain rfl:=hq3.symm;have V:=hT;exact V8 (Aw [(1,FA x6 4 (x6+4))] [6] 2 V λV=>Ae (Av Y V (k2+1,(G6 x5),x6+4,Mg x5 x6 o3_1 4) [(0,0)] ⟨(Bp (st:=IW) hq2 rfl (Eq.symm (ab h3))),(Bf hj2 (by rw[<-hq2];exact h2)),Ac,p5,aa⟩))
   ·refine Ak [] 2 V λV=>AH ((((x6/4)%8:Nat):Int)=4) V (λh5=> ?_) (λh5=> ?_)
    ·have hr0:0<=(λj=>o3_1 (x6-4+j)) 0/\(λj=>o3_1 (x6-4+j)) 0<256:=p4 (x6-4+0) Ac;have hr1:0<=(λj=>o3_1 (x6-4+j)) 1/\(λj=>o3_1 (x6-4+j)) 1<256:=p4 (x6-4+1) Ac;have hr2:0<=(λj=>o3_1 (x6-4+j)) 2/\(λj=>o3_1 (x6-4+j)) 2<256:=p4 (x6-4+2) Ac;have hr3:0<=(λj=>o3_1 (x6-4+j)) 3/\(λj=>o3_1 (x6-4+j)) 3<256:=p4 (x6-4+3) Ac;refine Aw [(1,AN 0 4),(5,Sk ((λj=>o3_1 ((x6-4)+j)) 0) 256),(8,AN 1 4),(12,Sk ((λj=>o3_1 ((x6-4)+j)) 1) 256),(15,AN 2 4),(19,Sk ((λj=>o3_1 ((x6-4)+j)) 2) 256),(22,AN 3 4),(26,Sk ((λj=>o3_1 ((x6-4)+j)) 3) 256)] [] 2 V λV=>Cn (Ak [] 2 V λV=>BK (AD (ι:=Nat×(Nat->Int)) Y V (λ(x111,o3_1_4)=>(4-x111,[(111,vi ((x111:Nat):Int))],[(0,V6 (B1 256) o3_1_4)],(x111<=4)/\(o3_1_4=Mf x6 o3_1 x111)/\(Rb 240 o3_1_4)/\True)) [2,3,5,6,7] [1] 2 (0,o3_1) [(0,0),(1,1)] ⟨Ac,rfl,p4,aa⟩ ?_));rintro⟨x111,o3_1_4⟩ ac gs ws ⟨hx111,hq4,p5,_⟩ V;refine Ak [] 2 V λV=>Ao (AH ((x111:Int)<4) V (λh6=> ?_) (λh6=> ?_))
     ·exact B6 (Ak [] 2 V λV=>Aw [(3,FA x6 x111 (x6+x111)),(7,FA x6 x111 (x6+x111)),(8,Ie (x6+x111) 32 ((x6+x111)-32)),(11,AN ((x6+x111)-32) 240),(14,AN x111 4),(19,AN (x6+x111) 240)] [] 2 V λV=>Cn (Aw [(0,CF x111)] [111] 2 V λV=>Ae (Av Y V (x111+1,upd o3_1_4 (x6+x111) (AV .u8 (o3_1_4 ((x6+x111)-32)) ((upd (upd (upd (upd (λ_=>0) 0 ((B1 256) (Int.toNat ((λj=>o3_1 ((x6-4)+j)) 0)))) 1 ((B1 256) (Int.toNat ((λj=>o3_1 ((x6-4)+j)) 1)))) 2 ((B1 256) (Int.toNat ((λj=>o3_1 ((x6-4)+j)) 2)))) 3 ((B1 256) (Int.toNat ((λj=>o3_1 ((x6-4)+j)) 3)))) x111))) [(0,0),(1,1)] ⟨Ac,(Bp (st:=PF _ _) hq4 rfl rfl),(Rb.set p5 _ (Jq _ _)),aa⟩)))
     ·have hT:=V;obtain rfl:4=x111:=by omega
      obtain rfl:=hq4.symm;have V:=hT;exact V8 (Aw [(1,FA x6 4 (x6+4))] [6] 2 V λV=>Ae (Av Y V (k2+1,x5,x6+4,Mf x6 o3_1 4) [(0,0)] ⟨(Bp (st:=IW) hq2 rfl (Eq.symm ((aj h3).trans (ab h5)))),(Bf hj2 (by rw[<-hq2];exact h2)),Ac,p5,aa⟩))
    ·refine GT (Ak [] 2 V λV=>BK (AD (ι:=Nat×(Nat->Int)) Y V (λ(x111,o3_1_5)=>(4-x111,[(111,vi ((x111:Nat):Int))],[(0,V6 (B1 256) o3_1_5)],(x111<=4)/\(o3_1_5=Me x6 o3_1 x111)/\(Rb 240 o3_1_5)/\True)) [2,3,5,6,7] [1] 2 (0,o3_1) [(0,0),(1,1)] ⟨Ac,rfl,p4,aa⟩ ?_));rintro⟨x111,o3_1_5⟩ ac gs ws ⟨hx111,hq5,p5,_⟩ V;refine Ak [] 2 V λV=>Ao (AH ((x111:Int)<4) V (λh7=> ?_) (λh7=> ?_))
     ·exact B6 (Ak [] 2 V λV=>Aw [(3,FA x6 x111 (x6+x111)),(7,FA x6 x111 (x6+x111)),(8,Ie (x6+x111) 32 ((x6+x111)-32)),(11,AN ((x6+x111)-32) 240),(14,AN x111 4),(19,AN (x6+x111) 240)] [] 2 V λV=>Cn (Aw [(0,CF x111)] [111] 2 V λV=>Ae (Av Y V (x111+1,upd o3_1_5 (x6+x111) (AV .u8 (o3_1_5 ((x6+x111)-32)) ((λj=>o3_1 ((x6-4)+j)) x111))) [(0,0),(1,1)] ⟨Ac,(Bp (st:=PE _ _) hq5 rfl rfl),(Rb.set p5 _ (Jq _ _)),aa⟩)))
     ·have hT:=V;obtain rfl:4=x111:=by omega
      obtain rfl:=hq5.symm;have V:=hT;exact V8 (Aw [(1,FA x6 4 (x6+4))] [6] 2 V λV=>Ae (Av Y V (k2+1,x5,x6+4,Me x6 o3_1 4) [(0,0)] ⟨(Bp (st:=IW) hq2 rfl (Eq.symm ((aj h3).trans (aj h5)))),(Bf hj2 (by rw[<-hq2];exact h2)),Ac,p5,aa⟩))
  ·have hT:=V;obtain rfl:=CB (by rw[<-hq2];first |exact h2|exact cq h2) hj2;obtain⟨rfl,rfl,rfl⟩:=fE hq2;have V:=hT;exact DF (Ak [] 1 V λV=>AU (BX (Ab _) V))
end
def Mx (t:Nat->Int):Nat->Nat->Int
 |0=>t
 |i+1=>if i%4=3 then Ek (Mx t i) (i-3) (min ((List.range 4).map (F3 (Mx t i (i-3)) (Mx t i (i-2)) (Mx t i (i-1)) (Mx t i i))).length (16-(i-3))) (λj=>((List.range 4).map (F3 (Mx t i (i-3)) (Mx t i (i-2)) (Mx t i (i-1)) (Mx t i i))).getD j 0)else Mx t i
def QE (g:Nat->Int) (x12:Nat):(Nat->Int)->(Nat->Int):=λo3_0=>upd o3_0 x12 (AV .u8 (o3_0 x12) (g x12))
def MV (g s:Nat->Int):Nat->(Nat->Int)
 |0=>s
 |x12+1=>QE g x12 (MV g s x12)
section
variable (f:Nat->Int)
def QC (o3_0:Nat->Int) (x31:Nat):(Nat->Int)->(Nat->Int):=λo7_0=>upd o7_0 x31 (f (Int.toNat (o3_0 ((x31+((x31%4)*4))%16))))
def Fw (f o3_0:Nat->Int):Nat->(Nat->Int)
 |0=>λ_=>0
 |x31+1=>QC f o3_0 x31 (Fw f o3_0 x31)
def QB (g:Nat->Int) (x6:Nat) (o3_0:Nat->Int) (x78:Nat):(Nat->Int)->(Nat->Int):=λo3_0_5=>upd o3_0_5 x78 (AV .u8 ((Fw f o3_0 16) x78) (g ((x6*16)+x78)))
def MU (f g:Nat->Int) (x6:Nat) (o3_0:Nat->Int):Nat->(Nat->Int)
 |0=>o3_0
 |x78+1=>QB f g x6 o3_0 x78 (MU f g x6 o3_0 x78)
def QA (g:Nat->Int) (x6:Nat) (o3_0:Nat->Int) (x78:Nat):(Nat->Int)->(Nat->Int):=λo3_0_6=>upd o3_0_6 x78 (AV .u8 ((Mx (Fw f o3_0 16) 16) x78) (g ((x6*16)+x78)))
def MS (f g:Nat->Int) (x6:Nat) (o3_0:Nat->Int):Nat->(Nat->Int)
 |0=>o3_0
 |x78+1=>QA f g x6 o3_0 x78 (MS f g x6 o3_0 x78)
def LI (g:Nat->Int) (k2:Nat):(Nat×(Nat->Int))->(Nat×(Nat->Int)):=λ(x6,o3_0)=>if((x6:Nat):Int)<14 then(x6+1,MS f g x6 o3_0 16)else(x6+1,MU f g x6 o3_0 16)
end
def Kb (f g s:Nat->Int):Nat->Nat×(Nat->Int)
 |0=>(1,MV g s 16)
 |k2+1=>LI f g k2 (Kb f g s k2)
def QD:(Nat×(Nat->Int))->Prop:=λ(x6,o3_0)=>((x6:Nat):Int)<=14
section
variable (f g s:Nat->Int)
def OW:(Nat->Int):=AR ((Kb f g s (DX λj=>QD (Kb f g s j))).2)
def sB (z_:(Nat->Int):=OW f g s):Con:=Cq [.cp 0 0,.ar .u8 16 s] [(0,V6 f g)] (.ar .u8 16 z_)
theorem mC (hf:Rb 256 f):AO 183 (sB f g s):=by
 refine cy 1 func183 rfl ntmps183 λY V=>Ak [] 3 V λV=>Ao (Ak [] 3 V λV=>BK (AD (ι:=Nat×(Nat->Int)) Y V (λ(x12,o3_0)=>(16-x12,[(12,vi ((x12:Nat):Int))],[(1,bT o3_0)],(x12<=16)/\(o3_0=MV g s x12)/\(Rb x12 o3_0)/\True)) [0,3,4] [0,2] 3 (0,s) [(0,0),(1,1),(2,2)] ⟨Ac,rfl,(Rb.zero _),aa⟩ ?_));rintro⟨x12,o3_0⟩ ac gs ws ⟨hx12,hq1,p1,_⟩ V;refine Ak [] 3 V λV=>Ao (AH ((x12:Int)<16) V (λh1=> ?_) (λh1=> ?_))
 ·exact B6 (Ak [] 3 V λV=>Aw [(1,AN x12 16),(7,AN x12 240),(10,AN x12 16)] [] 3 V λV=>Cn (Aw [(0,CF x12)] [12] 3 V λV=>Ae (Av Y V (x12+1,upd o3_0 x12 (AV .u8 (o3_0 x12) (g x12))) [(0,0),(1,1),(2,2)] ⟨Ac,(Bp (st:=QE _) hq1 rfl rfl),(Rb.next p1 (Jq _ _)),aa⟩)))
 ·have hT:=V;obtain rfl:16=x12:=by omega
  obtain rfl:=hq1.symm;have V:=hT;refine I8 (Ak [] 3 V λV=>BK (AD (ι:=Nat×Nat×(Nat->Int)) Y V (λ(k2,x6,o3_0)=>(15-x6,[(6,vi (x6:Int))],[(1,bT o3_0)],((x6,o3_0)=Kb f g s k2)/\(∀j,j<k2->QD (Kb f g s j))/\(1<=x6/\x6<=15)/\(Rb 16 o3_0)/\True)) [0,3,4] [0,2] 3 (0,1,MV g s 16) [(0,0),(1,1),(2,2)] ⟨rfl,(λj h=>absurd h (bd j)),Ac,p1,aa⟩ ?_));rintro⟨k2,x6,o3_0⟩ ac gs ws ⟨hq2,hj2,p2,p3,_⟩ V;refine Ao (Ak [] 3 V λV=>AH ((x6:Int)<=14) V (λh2=> ?_) (λh2=> ?_))
  ·refine B6 (Ak [] 4 V λV=>Ao (Ak [] 4 V λV=>BK (AD (ι:=Nat×(Nat->Int)) Y V (λ(x31,o7_0)=>(16-x31,[(31,vi ((x31:Nat):Int))],[(3,bT o7_0)],(x31<=16)/\(o7_0=Fw f o3_0 x31)/\True)) [0,3,4,6,7] [0,1,2] 4 (0,λ_=>0) [(0,0),(1,1),(2,2),(3,3)] ⟨Ac,rfl,aa⟩ ?_)));rintro⟨x31,o7_0⟩ ac gs ws ⟨hx31,hq3,_⟩ V;refine Ak [] 4 V λV=>Ao (AH ((x31:Int)<16) V (λh3=> ?_) (λh3=> ?_))
   ·refine B6 (Ak [] 4 V λV=> ?_);have hq13:=p3 ((x31+x31%4*4)%16) Ac;exact Aw [(4,M6 x31 4),(5,HV (x31%4) 4 ((x31%4)*4)),(6,FA x31 ((x31%4)*4) (x31+((x31%4)*4))),(7,M6 (x31+((x31%4)*4)) 16),(8,AN ((x31+((x31%4)*4))%16) 16),(12,Sk (o3_0 ((x31+((x31%4)*4))%16)) 256),(14,AN x31 16)] [] 4 V λV=>Cn (Aw [(0,CF x31)] [31] 4 V λV=>Ae (Av Y V (x31+1,upd o7_0 x31 (f (Int.toNat (o3_0 ((x31+((x31%4)*4))%16))))) [(0,0),(1,1),(2,2),(3,3)] ⟨Ac,(Bp (st:=QC _ _) hq3 rfl rfl),aa⟩))
   ·have hT:=V;obtain rfl:16=x31:=by omega
    obtain rfl:=hq3.symm;have V:=hT;refine I8 (Ak [] 4 V λV=>BK (AD (ι:=Nat×(Nat->Int)) Y V (λ(x9,tt)=>(16-x9,[(9,vi ((x9:Nat):Int))],[(3,bT tt)],(x9%4=0/\x9<=16)/\(x9=0\/x6<14)/\(tt=Mx (Fw f o3_0 16) x9)/\True)) [0,3,4,6,7] [0,1,2] 4 (0,Fw f o3_0 16) [(0,0),(1,1),(2,2),(3,3)] ⟨Ac,Ac,rfl,aa⟩ ?_));rintro⟨x9,tt⟩ ac gs ws ⟨px,pt,ht,_⟩ V;refine He ?_;have hT:=V;rcases(by omega:x9=0\/x9=4\/x9=8\/x9=12\/x9=16)with rfl|rfl|rfl|rfl|rfl
    ·have V:=hT;refine CW [] 4 V λV=>Ae (AH ((x6:Int)<14) V (λh4=> ?_) (λh4=> ?_))
     ·exact B6 (Ay [(1,AN 0 16),(5,AN 1 16),(9,AN 2 16),(13,AN 3 16),(15,AS (Mv (tt 0) (tt 1) (tt 2) (tt 3)))] [10] 5 V λV=>Aw [(1,mS [FG (some 0) none none 16 16,16<=9223372036854775807,bl (some 0) 0<bl none 16] ⟨⟨by simp only[Gq]<;>omega,by simp only[Gq]<;>omega,by simp only[Gq]<;>omega,by simp,by simp only[bl]<;>omega,by simp only[bl]<;>omega,by simp only[bl]<;>omega⟩,by omega,by decide,aa⟩),(2,QP .frz [] aa)] [] 5 V λV=>Cn (CW [9] 5 V λV=>Ae (Av Y V (4,Ek tt 0 (min ((List.range 4).map (F3 (tt 0) (tt 1) (tt 2) (tt 3))).length 16) (λj=>((List.range 4).map (F3 (tt 0) (tt 1) (tt 2) (tt 3))).getD j 0)) [(0,0),(1,1),(2,2),(3,3)] ⟨Ac,Ac,(by rw[ht];rfl),aa⟩)))
     ·obtain rfl:Fw f o3_0 16=tt:=ht.symm;refine DF (Ak [] 4 V λV=>BK (AD (ι:=Nat×(Nat->Int)) Y V (λ(x78,o3_0_5)=>(16-x78,[(78,vi ((x78:Nat):Int))],[(1,bT o3_0_5)],(x78<=16)/\(o3_0_5=MU f g x6 o3_0 x78)/\(Rb x78 o3_0_5)/\True)) [0,3,4,6,7] [0,2,3] 4 (0,o3_0) [(0,0),(1,1),(2,2),(3,3)] ⟨Ac,rfl,(Rb.zero _),aa⟩ ?_));rintro⟨x78,o3_0_5⟩ ac gs ws ⟨hx78,hq5,p6,_⟩ V;refine Ak [] 4 V λV=>Ao (AH ((x78:Int)<16) V (λh5=> ?_) (λh5=> ?_))
      ·exact B6 (Ak [] 4 V λV=>Aw [(2,AN x78 16),(6,HV x6 16 (x6*16)),(8,FA (x6*16) x78 ((x6*16)+x78)),(11,AN ((x6*16)+x78) 240),(14,AN x78 16)] [] 4 V λV=>Cn (Aw [(0,CF x78)] [78] 4 V λV=>Ae (Av Y V (x78+1,upd o3_0_5 x78 (AV .u8 ((Fw f o3_0 16) x78) (g ((x6*16)+x78)))) [(0,0),(1,1),(2,2),(3,3)] ⟨Ac,(Bp (st:=QB _ _ _ _) hq5 rfl rfl),(Rb.next p6 (Jq _ _)),aa⟩)))
      ·have hT:=V;obtain rfl:16=x78:=by omega
       obtain rfl:=hq5.symm;have V:=hT;exact V8 (Aw [(1,CF x6)] [6] 4 V λV=>Ae (Av Y V (k2+1,x6+1,MU f g x6 o3_0 16) [(0,0),(1,1),(2,2)] ⟨(Bp (st:=LI _ _) hq2 rfl (Eq.symm (aj h4))),(Bf hj2 (by rw[<-hq2];exact h2)),Ac,p6,aa⟩))
    ·have V:=hT;have hturn:(x6:Int)<14:=by omega
     exact Aw [(4,Ga hturn)] [] 4 V λV=>Ae (AE V (B6 (Ay [(1,AN 4 16),(5,AN 5 16),(9,AN 6 16),(13,AN 7 16),(15,AS (Mv (tt 4) (tt 5) (tt 6) (tt 7)))] [10] 5 V λV=>Aw [(1,mS [FG (some 4) none none 16 16,16<=9223372036854775807,bl (some 4) 0<bl none 16] ⟨⟨by simp only[Gq]<;>omega,by simp only[Gq]<;>omega,by simp only[Gq]<;>omega,by simp,by simp only[bl]<;>omega,by simp only[bl]<;>omega,by simp only[bl]<;>omega⟩,by omega,by decide,aa⟩),(2,QP .frz [] aa)] [] 5 V λV=>Cn (CW [9] 5 V λV=>Ae (Av Y V (8,Ek tt 4 (min ((List.range 4).map (F3 (tt 4) (tt 5) (tt 6) (tt 7))).length 12) (λj=>((List.range 4).map (F3 (tt 4) (tt 5) (tt 6) (tt 7))).getD j 0)) [(0,0),(1,1),(2,2),(3,3)] ⟨Ac,Ac,(by rw[ht];rfl),aa⟩)))))
    ·have V:=hT;have hturn:(x6:Int)<14:=by omega
     exact Aw [(4,Ga hturn)] [] 4 V λV=>Ae (AE V (B6 (Ay [(1,AN 8 16),(5,AN 9 16),(9,AN 10 16),(13,AN 11 16),(15,AS (Mv (tt 8) (tt 9) (tt 10) (tt 11)))] [10] 5 V λV=>Aw [(1,mS [FG (some 8) none none 16 16,16<=9223372036854775807,bl (some 8) 0<bl none 16] ⟨⟨by simp only[Gq]<;>omega,by simp only[Gq]<;>omega,by simp only[Gq]<;>omega,by simp,by simp only[bl]<;>omega,by simp only[bl]<;>omega,by simp only[bl]<;>omega⟩,by omega,by decide,aa⟩),(2,QP .frz [] aa)] [] 5 V λV=>Cn (CW [9] 5 V λV=>Ae (Av Y V (12,Ek tt 8 (min ((List.range 4).map (F3 (tt 8) (tt 9) (tt 10) (tt 11))).length 8) (λj=>((List.range 4).map (F3 (tt 8) (tt 9) (tt 10) (tt 11))).getD j 0)) [(0,0),(1,1),(2,2),(3,3)] ⟨Ac,Ac,(by rw[ht];rfl),aa⟩)))))
    ·have V:=hT;have hturn:(x6:Int)<14:=by omega
     exact Aw [(4,Ga hturn)] [] 4 V λV=>Ae (AE V (B6 (Ay [(1,AN 12 16),(5,AN 13 16),(9,AN 14 16),(13,AN 15 16),(15,AS (Mv (tt 12) (tt 13) (tt 14) (tt 15)))] [10] 5 V λV=>Aw [(1,mS [FG (some 12) none none 16 16,16<=9223372036854775807,bl (some 12) 0<bl none 16] ⟨⟨by simp only[Gq]<;>omega,by simp only[Gq]<;>omega,by simp only[Gq]<;>omega,by simp,by simp only[bl]<;>omega,by simp only[bl]<;>omega,by simp only[bl]<;>omega⟩,by omega,by decide,aa⟩),(2,QP .frz [] aa)] [] 5 V λV=>Cn (CW [9] 5 V λV=>Ae (Av Y V (16,Ek tt 12 (min ((List.range 4).map (F3 (tt 12) (tt 13) (tt 14) (tt 15))).length 4) (λj=>((List.range 4).map (F3 (tt 12) (tt 13) (tt 14) (tt 15))).getD j 0)) [(0,0),(1,1),(2,2),(3,3)] ⟨Ac,Ac,(by rw[ht];rfl),aa⟩)))))
    ·have V:=hT;have hturn:(x6:Int)<14:=by omega
     refine CW [] 4 V λV=> ?_;obtain rfl:Mx (Fw f o3_0 16) 16=tt:=ht.symm;refine Ae (Ai V (DF (Ak [] 4 V λV=>BK (AD (ι:=Nat×(Nat->Int)) Y V (λ(x78,o3_0_6)=>(16-x78,[(78,vi ((x78:Nat):Int))],[(1,bT o3_0_6)],(x78<=16)/\(o3_0_6=MS f g x6 o3_0 x78)/\(Rb x78 o3_0_6)/\True)) [0,3,4,6,7] [0,2,3] 4 (0,o3_0) [(0,0),(1,1),(2,2),(3,3)] ⟨Ac,rfl,(Rb.zero _),aa⟩ ?_))));rintro⟨x78,o3_0_6⟩ ac gs ws ⟨hx78,hq6,p6,_⟩ V;refine Ak [] 4 V λV=>Ao (AH ((x78:Int)<16) V (λh6=> ?_) (λh6=> ?_))
     ·exact B6 (Ak [] 4 V λV=>Aw [(2,AN x78 16),(6,HV x6 16 (x6*16)),(8,FA (x6*16) x78 ((x6*16)+x78)),(11,AN ((x6*16)+x78) 240),(14,AN x78 16)] [] 4 V λV=>Cn (Aw [(0,CF x78)] [78] 4 V λV=>Ae (Av Y V (x78+1,upd o3_0_6 x78 (AV .u8 ((Mx (Fw f o3_0 16) 16) x78) (g ((x6*16)+x78)))) [(0,0),(1,1),(2,2),(3,3)] ⟨Ac,(Bp (st:=QA _ _ _ _) hq6 rfl rfl),(Rb.next p6 (Jq _ _)),aa⟩)))
     ·have hT:=V;obtain rfl:16=x78:=by omega
      obtain rfl:=hq6.symm;have V:=hT;exact V8 (Aw [(1,CF x6)] [6] 4 V λV=>Ae (Av Y V (k2+1,x6+1,MS f g x6 o3_0 16) [(0,0),(1,1),(2,2)] ⟨(Bp (st:=LI _ _) hq2 rfl (Eq.symm (ab hturn))),(Bf hj2 (by rw[<-hq2];exact h2)),Ac,p6,aa⟩))
  ·have hT:=V;obtain rfl:=CB (by rw[<-hq2];first |exact h2|exact cq h2) hj2;obtain⟨rfl,rfl⟩:=SU hq2;have V:=hT;exact DF (Ak [] 3 V λV=>AU (BX (Ab _) V))
end
def NO (key num:Ad) (k1:Nat):(Int×Ad)->(Int×Ad):=λ(x10,x9)=>((A6 .u32 x10 1),x9++((List.range 16).map (OW (E6 key).1 (E6 key).2 (λj=>List.getD (α:=Int) ([num,Dz x10].flatten) (0+j) 0))))
def Gk (key num:Ad):Nat->Int×Ad
 |0=>(0,[])
 |k1+1=>NO key num k1 (Gk key num k1)
def Ju (n:Nat):(Int×Ad)->Prop:=λ(x10,x9)=>((x9.length:Nat):Int)<(n:Int)
def Iq (key num:Ad) (n:Nat):Ad:=AR (OL ((Gk key num (DX λj=>Ju n (Gk key num j))).2) n)
@[simp] theorem Z8 (xs:Ad) (n:Nat):(OL xs n).length=n:=by unfold OL;rw[Ab];simp only[ah,ao,au,az];omega
@[simp] theorem Pk (key num:Ad) (n:Nat):(Iq key num n).length=n:=by unfold Iq;rw[Ab];exact Z8 _ _
section
variable (key num:Ad) (n:Nat)
def kY (z_:Ad:=Iq key num n):Con:=⟨[lb key,lb num,vi (n:Int)],[],.tu (Ag [lb z_,vi 0]),[]⟩
theorem Zr (hk:key.length=32) (hb:By key) (hn:num.length=12) (hl:n<=1000000):AO 158 (kY key num n):=by
 refine cy 0 func158 rfl ntmps158 λY V=> ?_;have hk1:((key.length:Nat):Int)=32:=Ac;have hn1:((num.length:Nat):Int)=12:=Ac;have hz1:¬(n:Int)<0:=Ac;have hz2:¬(1048576:Int)<(n:Int):=Ac;refine Ak [] 0 V λV=>Ao (Ay [(2,Gd hk1),(6,Gd hn1),(10,CH hz1),(14,CH hz2)] [] 0 V λV=>Ai V (BR (Ay [(1,AC (eI key Au A3) [] [(0,0)])] [] 1 V λV=>Ak [] 1 V λV=>Ao (Ak [] 1 V λV=>BK ?_))));obtain⟨gs,V⟩:=V.nilk 9 5 Bb;refine AD (ι:=Nat×Int×Ad) Y V (λ(k1,x10,x9)=>(n-x9.length,[(10,.v (.int .u32 x10))],[(1,.sl 5 Bb x9)],((x10,x9)=Gk key num k1)/\(∀j,j<k1->Ju n (Gk key num j))/\(x9.length<=n+16)/\True)) [1,2,6,7,8,9] [0] 2 (0,0,[]) [(0,0),(1,1)] ⟨rfl,(λj h=>absurd h (bd j)),(by simp),aa⟩ ?_;rintro⟨k1,x10,x9⟩ ac gs ws ⟨hq1,hj1,p1,_⟩ V;refine Ao (Ak [] 2 V λV=>AH (((x9.length:Nat):Int)<(n:Int)) V (λh1=> ?_) (λh1=> ?_))
 ·exact B6 (Ay [(3,AS (U0 x10)),(5,AC (Qv [num,Dz x10] (by first |omega|(simp only[bc,cd,ah,aw,av,ao,au,az]<;>omega)|(simp<;>omega))) [] [(0,2)]),(6,QP .frz [16<=([num,Dz x10].flatten).length,0<([num,Dz x10].flatten).length] ⟨by(first |omega|(simp only[ah,cg,d_,av,bc,cd,Gm];omega)),by(first |omega|(simp only[ah,cg,d_,av,bc,cd,Gm];omega)),aa⟩),(7,QP (.at 0 0) [0+16<=([num,Dz x10].flatten).length] ⟨by(first |omega|(simp only[ah,cg,d_,av,bc,cd,Gm];omega)),aa⟩),(8,Jp (mC (E6 key).1 (E6 key).2 (λj=>List.getD (α:=Int) ([num,Dz x10].flatten) (0+j) 0) (eG key)) [(0,0)] [] [.cp 0 0,.ar .u8 16 (λj=>List.getD (α:=Int) ([num,Dz x10].flatten) (0+j) 0)] [some (V6 (E6 key).1 (E6 key).2)])] [11] 4 V λV=>Aw [(1,QP .frz [] aa),(2,GJ x9.length (((List.range 16).map (OW (E6 key).1 (E6 key).2 (λj=>List.getD (α:=Int) ([num,Dz x10].flatten) (0+j) 0))).length) 1 (by(first |omega|(simp only[ah,cg,d_,av,bc,cd,Gm];omega))))] [9] 5 V λV=>Cn (CW [10] 5 V λV=>Ae (Av Y V (k1+1,(A6 .u32 x10 1),x9++((List.range 16).map (OW (E6 key).1 (E6 key).2 (λj=>List.getD (α:=Int) ([num,Dz x10].flatten) (0+j) 0)))) [(0,0),(1,4)] ⟨(Bp (st:=NO _ _) hq1 rfl rfl),(Bf hj1 (by rw[<-hq1];exact h1)),(by rw[ah,cg,d_];omega),aa⟩ (show n-(x9++(List.range 16).map _).length<n-x9.length from by rw[ah,cg,d_];omega))))
 ·have hT:=V;obtain rfl:=CB (by rw[<-hq1];first |exact h1|exact cq h1) hj1;obtain⟨rfl,rfl⟩:=SU hq1;have V:=hT;refine I8 ?_;obtain⟨gs,V⟩:=V.fz 1;refine Aw [(2,AC (iU ((Gk key num (DX λj=>Ju n (Gk key num j))).2) n Ac) [] [(0,2)])] [] 3 V λV=>Fa ?_;obtain⟨gs,V⟩:=V.fz 2;exact BX (Ab _) V
end
theorem b8 (xs ys:Ad):∀k,(La xs ys k).length=min xs.length ys.length/\∀i,i<k->i<min xs.length ys.length->(La xs ys k).getD i 0=AV .u8 (xs.getD i 0) (ys.getD i 0)
 |0=>⟨az,λi h=>absurd h (bd _)⟩
 |k+1=>by
  obtain⟨h1,h2⟩:=b8 xs ys k;have e:La xs ys (k+1)=(La xs ys k).set k (AV .u8 (xs.getD k 0) (ys.getD k 0)):=rfl;refine⟨by rw[e,c_,h1],λi hi hl=> ?_⟩;rw[e,al];by_cases hk:i=k
  ·subst hk;rw[List.getElem?_set_self (by rw[h1];exact hl)];rfl
  ·rw[List.getElem?_set_ne (λh=>hk h.symm),<-al];exact h2 i Ac hl
theorem b9 (xs ys:Ad) {i:Nat} (h:i<min xs.length ys.length):(Jr xs ys).getD i 0=AV .u8 (xs.getD i 0) (ys.getD i 0):=by unfold Jr;rw[Ab];exact(b8 xs ys _).2 i h h
@[simp] theorem Sq (xs ys:Ad):(Jr xs ys).length=min xs.length ys.length:=by unfold Jr;rw[Ab];exact(b8 xs ys _).1
theorem m8 {xs ys:Ad} (hb:By xs) (hl:xs.length<=ys.length):Jr (Jr xs ys) ys=xs:=by
 have h1:(Jr xs ys).length=xs.length:=by rw[Sq];omega
 refine io (by rw[Sq,h1];omega) λi h2 h3=> ?_;have k1:=b9 (Jr xs ys) ys (i:=i) Ac;rw[b9 xs ys (i:=i) Ac,m7 (OU hb i)]at k1;rw[al,am h2,al,am h3]at k1;exact k1
def EM (key num xs:Ad):Ad:=AR (Jr xs (Iq key num xs.length))
@[simp] theorem Hs (key num xs:Ad):(EM key num xs).length=xs.length:=by unfold EM;rw[Ab];rw[Sq,Pk];omega
theorem aN (key num:Ad) {xs:Ad} (h:By xs):EM key num (EM key num xs)=xs:=by have e:∀ys,EM key num ys=Jr ys (Iq key num ys.length):=λys=>Ab _;rw[e (EM key num xs),Hs,e xs];exact m8 h (by rw[Pk];exact an _)
section
variable (key num xs:Ad)
def r6 (z_:Ad:=EM key num xs):Con:=⟨[lb key,lb num,lb xs],[],.tu (Ag [.sk 0,vi 0]),[(0,.sl 5 Bb z_)]⟩
theorem VM (hk:key.length=32) (hb:By key) (hn:num.length=12) (hl:xs.length<=1000000):AO 119 (r6 key num xs):=by exact cy 0 func119 rfl ntmps119 λY V=>Ak [] 0 V λV=>Ay [(4,AS (Zr key num xs.length Au A3 Au Au))] [] 0 V λV=>Ao (Ak [] 0 V λV=>Ai V (BR (Ay [(2,AC (uG xs (Iq key num xs.length) Ac) [] [(0,0)])] [] 1 V λV=>AU (BX (Ab _) V))))
end
theorem By.nil:By []:=λx h=>by cases h
theorem By.app {a b:Ad} (h:By a) (k:By b):By (a++b):=λx hx=>(bn.1 hx).elim (h x) (k x)
theorem By.set {a:Ad} (h:By a) (i:Nat) {v:Int} (hv:0<=v/\v<256):By (a.set i v):=λx hx=>(List.mem_or_eq_of_mem_set hx).elim (h x) λe=>e▸hv
theorem By.take {a:Ad} (h:By a) (n:Nat):By (a.take n):=λx hx=>h x (cv hx)
theorem By.drop {a:Ad} (h:By a) (n:Nat):By (a.drop n):=λx hx=>h x (cw hx)
theorem Vo (x:Int):By (FD x):=by
 have key:∀i,By (FM x i):=by
  intro i
  induction i with
  |zero=>intro y hy;rw[show FM x 0=replicate 8 (0:Int)from rfl]at hy;rw[List.eq_of_mem_replicate hy];exact⟨Int.le_refl _,(by decide:(0:Int)<256)⟩
  |succ i ih=>exact By.set ih _ (cE _)
 unfold FD;rw[Ab];exact key 8
theorem nK {xs:Ad} (h:By xs):By (Nb xs):=by
 have key:∀i,By (G7 xs i).2.2:=by
  intro i
  induction i with
  |zero=>exact h
  |succ i ih=>
   show By (((G7 xs i).2.2.set _ _).set _ _);exact By.set (By.set ih _ (OU ih _)) _ (OU ih _)
 unfold Nb;rw[Ab];exact key _
theorem fC (x:Int):By (FZ x):=by unfold FZ;rw[Ab];exact nK (Vo _)
theorem fD (x:Int):By (Dz x):=by unfold Dz;rw[Ab];exact By.drop (fC _) _
theorem qB (h:Nat->Int) (r:Ad) (n:Int):By (Ff h r n):=by
 have key:∀i,By (KC h r n i):=by
  intro i
  induction i with
  |zero=>exact By.nil
  |succ i ih=>exact By.app ih (fD _)
 unfold Ff;rw[Ab];exact key 8
theorem pP (u1:Nat->Int) (r1:Ad) (n1:Int) (u2:Nat->Int) (r2:Ad) (n2:Int) (l:AZ):By (C9 u1 r1 n1 u2 r2 n2 l):=by unfold C9;rw[Ab];exact qB _ _ _
theorem Vz (key info:Ad):By (Gu key info):=by
 have h:∀k,By (Cg key info k).2.1:=by
  intro k
  induction k with
  |zero=>exact By.nil
  |succ k ih=>exact By.app ih (pP _ _ _ _ _ _ _)
 unfold Gu;rw[Ab];rw[dx];exact By.take (h _) _
theorem QZ (ikm info:Ad):By (BO ikm info):=by unfold BO;rw[Ab];exact Vz _ _
def GX (k:Ad) (u1:Nat->Int) (r1:Ad) (n1:Int) (u2:Nat->Int) (r2:Ad) (n2:Int) (num:Ad) (data tT:Ad):Ad:=AR (C9 u1 r1 n1 u2 r2 n2 [num,FZ ((data.length:Nat):Int),data,tT])
@[simp] theorem Pl (k:Ad) (u1:Nat->Int) (r1:Ad) (n1:Int) (u2:Nat->Int) (r2:Ad) (n2:Int) (num data tT:Ad):(GX k u1 r1 n1 u2 r2 n2 num data tT).length=32:=by unfold GX;rw[Ab];exact CO ..
section
variable (k:Ad) (u1:Nat->Int) (r1:Ad) (n1:Int) (u2:Nat->Int) (r2:Ad) (n2:Int) (num:Ad) (data tT:Ad)
def yA (z_:Ad:=GX k u1 r1 n1 u2 r2 n2 num data tT):Con:=⟨[.im (Ag [lb k,.im (Ag [.im (Ag [.ar .u32 8 u1,lb r1,.v (.int .u64 n1)]) 0,.im (Ag [.ar .u32 8 u2,lb r2,.v (.int .u64 n2)]) 0]) 0]) 0,lb num,lb data,lb tT],[],.sk 0,[(0,.sl 5 Bb z_)]⟩
theorem XR (hr1:r1.length<=64) (hr2:r2.length<=64) (hd:data.length<=60000) (ht:tT.length<=60000) (hn:num.length=12):AO 120 (yA k u1 r1 n1 u2 r2 n2 num data tT):=by exact cy 0 func120 rfl ntmps120 λY V=>Ak [] 0 V λV=>Ay [(7,Jn data.length),(8,AS (PO ((data.length:Nat):Int))),(12,AC (Yx u1 r1 n1 u2 r2 n2 [num,FZ ((data.length:Nat):Int),data,tT] hr1 hr2 (by first |assumption|omega|(simp only[bc,cd,ah,aw,av,Kq]<;>omega)|(simp<;>omega))) [] [(0,0)])] [] 1 V λV=>AU (BX (Ab _) V)
theorem dD (hr1:r1.length<=64) (hr2:r2.length<=64) (hd:data.length<=60000) (ht:tT.length<=60000) (hn:num.length=12):AO 120 ⟨[.im (Ag [lb k,.im (Ag [.im (Ag [.ar .u32 8 u1,lb r1,.v (.int .u64 n1)]) 0,.im (Ag [.ar .u32 8 u2,lb r2,.v (.int .u64 n2)]) 0]) 0]) 0,lb num,lb data,lb tT],[],lb (GX k u1 r1 n1 u2 r2 n2 num data tT),[]⟩:=ConOk.frz [] 0 5 Bb (GX k u1 r1 n1 u2 r2 n2 num data tT) (XR k u1 r1 n1 u2 r2 n2 num data tT hr1 hr2 hd ht hn) (by kernel_rfl)
theorem dC (hr1:r1.length<=64) (hr2:r2.length<=64) (hd:data.length<=60000) (ht:tT.length<=60000) (hn:num.length=12):AO 120 ⟨[.im (Ag [lb k,.im (Ag [.im (Ag [.ar .u32 8 u1,lb r1,.v (.int .u64 n1)]) 0,.im (Ag [.ar .u32 8 u2,lb r2,.v (.int .u64 n2)]) 0]) 0]) 0,lb num,lb data,.sk 1],[(1,.sl 5 Bb tT)],.sk 0,[(1,.sl 5 Bb tT),(0,.sl 5 Bb (GX k u1 r1 n1 u2 r2 n2 num data tT))]⟩:=ConOk.lend (a1:=[.im (Ag [lb k,.im (Ag [.im (Ag [.ar .u32 8 u1,lb r1,.v (.int .u64 n1)]) 0,.im (Ag [.ar .u32 8 u2,lb r2,.v (.int .u64 n2)]) 0]) 0]) 0,lb num,lb data]) (a2:=[]) (nn:=false) (xs:=tT) (H0:=[]) (H1:=[(0,.sl 5 Bb (GX k u1 r1 n1 u2 r2 n2 num data tT))]) (res:=(.sk 0)) 1 5 (XR k u1 r1 n1 u2 r2 n2 num data tT hr1 hr2 hd ht hn) (λh=>by cases h) (by kernel_rfl)
theorem SA (hd:data.length<=60000) (ht:tT.length<=60000) (hn:num.length=12):AO 118 ⟨[.im (Ag [lb k,.im (Ag [.im (Ag [.ar .u32 8 u1,lb r1,.v (.int .u64 n1)]) 0,.im (Ag [.ar .u32 8 u2,lb r2,.v (.int .u64 n2)]) 0]) 0]) 0,lb num,lb data,lb tT,vi 65536],[],vi 0,[]⟩:=by refine cy 0 func118 rfl ntmps118 λY V=> ?_;have hn1:((num.length:Nat):Int)=12:=Ac;have ht1:¬(65536:Int)<((tT.length:Nat):Int):=Ac;have hd1:¬(65536:Int)<((data.length:Nat):Int):=Ac;exact Ak [] 0 V λV=>Ao (BK (Ay [(12,Gd hn1)] [] 0 V λV=>Ai V (Ay [(3,CH ht1),(7,CH hd1)] [] 0 V λV=>Ai V (GT (Ak [] 0 V λV=>AU (BN V))))))
theorem Sz (hd:data.length<=60000) (ht:tT.length<=60000) (hn:num.length=12):AO 118 ⟨[.im (Ag [lb k,.im (Ag [.im (Ag [.ar .u32 8 u1,lb r1,.v (.int .u64 n1)]) 0,.im (Ag [.ar .u32 8 u2,lb r2,.v (.int .u64 n2)]) 0]) 0]) 0,lb num,lb data,lb tT,vi 65568],[],vi 0,[]⟩:=by refine cy 0 func118 rfl ntmps118 λY V=> ?_;have hn1:((num.length:Nat):Int)=12:=Ac;have ht1:¬(65568:Int)<((tT.length:Nat):Int):=Ac;have hd1:¬(65536:Int)<((data.length:Nat):Int):=Ac;exact Ak [] 0 V λV=>Ao (BK (Ay [(12,Gd hn1)] [] 0 V λV=>Ai V (Ay [(3,CH ht1),(7,CH hd1)] [] 0 V λV=>Ai V (GT (Ak [] 0 V λV=>AU (BN V))))))
end
section
variable (key:Ad)
def Ba:Ad×(Nat->Int)×Ad×Int×(Nat->Int)×Ad×Int:=AR (((BO key [115,101,97,108]).take 32,(Am ((BO key [115,101,97,108]).drop 32)).1,(Am ((BO key [115,101,97,108]).drop 32)).2.1,((Am ((BO key [115,101,97,108]).drop 32)).2.2.1),(Am ((BO key [115,101,97,108]).drop 32)).2.2.2.1,(Am ((BO key [115,101,97,108]).drop 32)).2.2.2.2.1,((Am ((BO key [115,101,97,108]).drop 32)).2.2.2.2.2)))
theorem EU:(Ba key).1.length=32/\By (Ba key).1/\(Ba key).2.2.1.length<=64/\(Ba key).2.2.2.2.2.1.length<=64:=by
 unfold Ba;rw[Ab];refine⟨?_,?_,(Dg _).1,(Dg _).2⟩
 ·show((BO _ _).take 32).length=32;rw[ao,J5];rfl
 ·exact By.take (QZ _ _) _
def lM (z_:Ad×(Nat->Int)×Ad×Int×(Nat->Int)×Ad×Int:=Ba key):Con:=⟨[lb key],[],.tu (Ag [.im (Ag [lb (z_.1),.im (Ag [.im (Ag [.ar .u32 8 (z_.2.1),lb (z_.2.2.1),.v (.int .u64 (z_.2.2.2.1))]) 0,.im (Ag [.ar .u32 8 (z_.2.2.2.2.1),lb (z_.2.2.2.2.2.1),.v (.int .u64 (z_.2.2.2.2.2.2))]) 0]) 0]) 0,vi 0]),[]⟩
theorem RS (hk:key.length=32):AO 82 (lM key):=by refine cy 0 func82 rfl ntmps82 λY V=> ?_;have hk1:((key.length:Nat):Int)=32:=Ac;refine Ak [] 0 V λV=>Ao (Ay [(2,Gd hk1)] [] 0 V λV=>Ai V (BR (Ay [(1,QQ),(2,OZ (0<[115,101,97,108].length) (by decide)),(3,AS (QY key [115,101,97,108] Au Au))] [] 1 V λV=>Ao ?_)));have hdl:=J5 key [115,101,97,108];refine Aw [(1,Zi 32 (BO key [115,101,97,108]).length),(3,NJ 32 (BO key [115,101,97,108]).length),(4,AS (ID ((BO key [115,101,97,108]).drop 32) Au))] [] 2 V λV=> ?_;obtain⟨gs,V⟩:=V.im 1;exact Fa (BX (Ab _) V)
end
section
variable (k:Ad) (u1:Nat->Int) (r1:Ad) (n1:Int) (u2:Nat->Int) (r2:Ad) (n2:Int) (num:Ad) (data tT:Ad)
def Jc:Ad:=AR ((EM k num tT)++(GX k u1 r1 n1 u2 r2 n2 num data (EM k num tT)))
def r8 (z_:Ad:=Jc k u1 r1 n1 u2 r2 n2 num data tT):Con:=⟨[.im (Ag [lb k,.im (Ag [.im (Ag [.ar .u32 8 u1,lb r1,.v (.int .u64 n1)]) 0,.im (Ag [.ar .u32 8 u2,lb r2,.v (.int .u64 n2)]) 0]) 0]) 0,lb num,lb data,lb tT],[],.tu (Ag [lb z_,vi 0]),[]⟩
theorem l0 (hkl:k.length=32) (hkb:By k) (hr1:r1.length<=64) (hr2:r2.length<=64) (hd:data.length<=60000) (ht:tT.length<=60000) (hn:num.length=12):AO 83 (r8 k u1 r1 n1 u2 r2 n2 num data tT):=by refine cy 0 func83 rfl ntmps83 λY V=>Ak [] 0 V λV=>Ao (Ay [(4,AS (SA k u1 r1 n1 u2 r2 n2 num data tT Au Au Au))] [] 0 V λV=>Ak [] 0 V λV=>Ai V (BR (Ay [(6,AC (VM k num tT Au A3 Au Au) [] [(0,0)])] [] 1 V λV=>Ay [(5,AC (dC k u1 r1 n1 u2 r2 n2 num data (EM k num tT) hr1 hr2 Au (by rw[Hs];exact ht) Au) [(1,0)] [(0,1)]),(6,GJ ((EM k num tT).length) ((GX k u1 r1 n1 u2 r2 n2 num data (EM k num tT)).length) 1 (by(first |omega|(simp only[Hs,Pl];omega))))] [] 3 V λV=>AU ?_)));obtain⟨gs,V⟩:=V.fz 2;exact BX (Ab _) V
end
section
variable (key num:Ad) (data tT:Ad)
def Ea:Ad:=AR (Jc (Ba key).1 (Ba key).2.1 (Ba key).2.2.1 (Ba key).2.2.2.1 (Ba key).2.2.2.2.1 (Ba key).2.2.2.2.2.1 (Ba key).2.2.2.2.2.2 num data tT)
def yD (z_:Ad:=Ea key num data tT):Con:=⟨[lb key,lb num,lb data,lb tT],[],.tu (Ag [lb z_,vi 0]),[]⟩
theorem XY (hk:key.length=32) (hd:data.length<=60000) (ht:tT.length<=60000) (hn:num.length=12):AO 50 (yD key num data tT):=by exact cy 0 func50 rfl ntmps50 λY V=>Ak [] 0 V λV=>Ay [(1,AS (RS key Au))] [] 0 V λV=>Ao (Ak [] 0 V λV=>Ai V (BR (Ay [(4,AS (l0 (Ba key).1 (Ba key).2.1 (Ba key).2.2.1 (Ba key).2.2.2.1 (Ba key).2.2.2.2.1 (Ba key).2.2.2.2.2.1 (Ba key).2.2.2.2.2.2 num data tT (EU key).1 (EU key).2.1 (EU key).2.2.1 (EU key).2.2.2 Au Au Au))] [] 0 V λV=>AU (BX (Ab _) V))))
end
section
variable (k:Ad) (u1:Nat->Int) (r1:Ad) (n1:Int) (u2:Nat->Int) (r2:Ad) (n2:Int) (num:Ad) (data tT:Ad)
def Ic:Ad×Nat:=AR (if(((tT.length:Nat):Int)-32)<0 then([],2)else(if(GX k u1 r1 n1 u2 r2 n2 num data (tT.take (Int.toNat (((tT.length:Nat):Int)-32))))=(tT.drop (Int.toNat (((tT.length:Nat):Int)-32)))then(EM k num (tT.take (Int.toNat (((tT.length:Nat):Int)-32))),0)else([],2)))
def r9 (z_:Ad×Nat:=Ic k u1 r1 n1 u2 r2 n2 num data tT):Con:=⟨[.im (Ag [lb k,.im (Ag [.im (Ag [.ar .u32 8 u1,lb r1,.v (.int .u64 n1)]) 0,.im (Ag [.ar .u32 8 u2,lb r2,.v (.int .u64 n2)]) 0]) 0]) 0,lb num,lb data,lb tT],[],.tu (Ag [lb (z_.1),vi ((z_.2:Nat):Int)]),[]⟩
theorem l7 (hkl:k.length=32) (hkb:By k) (hr1:r1.length<=64) (hr2:r2.length<=64) (hd:data.length<=60000) (ht:tT.length<=60000) (hn:num.length=12):AO 104 (r9 k u1 r1 n1 u2 r2 n2 num data tT):=by
 refine cy 0 func104 rfl ntmps104 λY V=>Ak [] 0 V λV=>Ao (Ay [(4,AS (Sz k u1 r1 n1 u2 r2 n2 num data tT Au Au Au))] [] 0 V λV=>Ak [] 0 V λV=>Ai V (BR (Ay [(2,Ub ((tT.length:Nat):Int) 32)] [] 0 V λV=>He ?_)));by_cases h1:(((tT.length:Nat):Int)-32)<0
 ·refine Aw [(1,Ga h1)] [] 0 V λV=>Ae (AE V (Ak [] 0 V λV=>AU (Aj ?_)));have V:=V.wk 8 (lb []);exact BX (.trans (Ab _) (ab h1)) V
 ·refine Aw [(1,CH h1),(8,OZ (FG none (some (((tT.length:Nat):Int)-32)) none tT.length tT.length) ⟨by simp only[Gq]<;>omega,by simp only[Gq]<;>omega,by simp only[Gq]<;>omega,by simp,by simp only[bl]<;>omega,by simp only[bl]<;>omega,by simp only[bl]<;>omega⟩),(9,AS (dD k u1 r1 n1 u2 r2 n2 num data (tT.take (Int.toNat (((tT.length:Nat):Int)-32))) hr1 hr2 Au Au Au)),(12,OZ (FG (some (((tT.length:Nat):Int)-32)) none none tT.length tT.length) ⟨by simp only[Gq]<;>omega,by simp only[Gq]<;>omega,by simp only[Gq]<;>omega,by simp,by simp only[bl]<;>omega,by simp only[bl]<;>omega,by simp only[bl]<;>omega⟩),(13,AS (EW (GX k u1 r1 n1 u2 r2 n2 num data (tT.take (Int.toNat (((tT.length:Nat):Int)-32)))) (tT.drop (Int.toNat (((tT.length:Nat):Int)-32)))))] [] 0 V λV=>Ae (Ik ((GX k u1 r1 n1 u2 r2 n2 num data (tT.take (Int.toNat (((tT.length:Nat):Int)-32))))=(tT.drop (Int.toNat (((tT.length:Nat):Int)-32)))) V (λh2=> ?_) (λh2=> ?_))
  ·refine Ak [] 0 V λV=>AU (Aj ?_);have V:=V.wk 8 (lb []);exact BX (.trans (Ab _) ((aj h1).trans (aj h2))) V
  ·refine BR (Ay [(7,OZ (FG none (some (((tT.length:Nat):Int)-32)) none tT.length tT.length) ⟨by simp only[Gq]<;>omega,by simp only[Gq]<;>omega,by simp only[Gq]<;>omega,by simp,by simp only[bl]<;>omega,by simp only[bl]<;>omega,by simp only[bl]<;>omega⟩),(8,AC (VM k num (tT.take (Int.toNat (((tT.length:Nat):Int)-32))) Au A3 Au Au) [] [(0,0)])] [] 1 V λV=>AU ?_);obtain⟨gs,V⟩:=V.fz 0;exact BX (.trans (Ab _) ((aj h1).trans (ab h2))) V
end
section
variable (key num:Ad) (data tT:Ad)
def BA:Ad×Nat:=AR (((Ic (Ba key).1 (Ba key).2.1 (Ba key).2.2.1 (Ba key).2.2.2.1 (Ba key).2.2.2.2.1 (Ba key).2.2.2.2.2.1 (Ba key).2.2.2.2.2.2 num data tT).1,((Ic (Ba key).1 (Ba key).2.1 (Ba key).2.2.1 (Ba key).2.2.2.1 (Ba key).2.2.2.2.1 (Ba key).2.2.2.2.2.1 (Ba key).2.2.2.2.2.2 num data tT).2)))
def rJ (z_:Ad×Nat:=BA key num data tT):Con:=⟨[lb key,lb num,lb data,lb tT],[],.tu (Ag [lb (z_.1),vi ((z_.2:Nat):Int)]),[]⟩
theorem L5 (hk:key.length=32) (hd:data.length<=60000) (ht:tT.length<=60000) (hn:num.length=12):AO 69 (rJ key num data tT):=by exact cy 0 func69 rfl ntmps69 λY V=>Ak [] 0 V λV=>Ay [(1,AS (RS key Au))] [] 0 V λV=>Ao (Ak [] 0 V λV=>Ai V (BR (Ay [(4,AS (l7 (Ba key).1 (Ba key).2.1 (Ba key).2.2.1 (Ba key).2.2.2.1 (Ba key).2.2.2.2.1 (Ba key).2.2.2.2.2.1 (Ba key).2.2.2.2.2.2 num data tT (EU key).1 (EU key).2.1 (EU key).2.2.1 (EU key).2.2.2 Au Au Au))] [] 0 V λV=>AU (BX (Ab _) V))))
end
def Al (x0:Ad) (x1:Nat):O:= .ob 122 (Ag [lb x0,vi ((x1:Nat):Int)])
def QM (x0:Ad):O:= .ob 122 (Ag [lb x0,vi 0])
def V7 (key:Ad):Ad:=C9 (Am key).1 (Am key).2.1 (Am key).2.2.1 (Am key).2.2.2.1 (Am key).2.2.2.2.1 (Am key).2.2.2.2.2 [[2]]
def KQ (key:Ad):Ad:=C9 (Am key).1 (Am key).2.1 (Am key).2.2.1 (Am key).2.2.2.1 (Am key).2.2.2.2.1 (Am key).2.2.2.2.2 [[1]]
@[simp] theorem o4 (key:Ad):(V7 key).length=32:=CO ..
@[simp] theorem pE (key:Ad):(KQ key).length=32:=CO ..
def Bm (key:Ad):Nat->Ad
 |0=>key
 |k+1=>V7 (Bm key k)
def GW (key:Ad):Nat->AZ
 |0=>[]
 |k+1=>GW key k++[KQ (Bm key k)]
theorem F1 {key:Ad} (h:key.length=32):∀k,(Bm key k).length=32
 |0=>h
 |_+1=>o4 _
@[simp] theorem H3 (key:Ad):∀k,(GW key k).length=k
 |0=>rfl
 |k+1=>by rw[GW,ah,H3 key k];rfl
section
variable (key:Ad)
theorem MJ (i:Nat) (hk:key.length=32):AO 84 (Cq [.cp 0 0] [(0,Al key i)] (.v (.bool false))):=by refine cy 1 func84 rfl ntmps84 λY V=> ?_;have hk0:¬((key.length:Nat):Int)=0:=Ac;exact Ak [] 1 V λV=>Ay [(8,CH hk0)] [] 1 V λV=>AU (BN V)
theorem MN (i:Nat) (hk:key.length=32):AO 76 ⟨[lb key,vi (i:Int)],[],.tu (Ag [.cp 0 0,vi 0]),[(0,Al key i)]⟩:=by refine cy 0 func76 rfl ntmps76 λY V=> ?_;have hk32:((key.length:Nat):Int)=32:=Ac;exact Ak [] 0 V λV=>Ao (Ay [(2,Gd hk32),(5,TX false [(decide ((i:Int)<0))=false] ⟨decide_eq_false Ac,aa⟩)] [] 0 V λV=>Ai V (BR (Ay [(1,AS (D1 key Au))] [] 1 V λV=>AU (BN V))))
theorem KG (hk:key.length=32):AO 43 ⟨[lb key],[],.tu (Ag [.cp 0 0,vi 0]),[(0,QM key)]⟩:=by exact cy 0 func43 rfl ntmps43 λY V=>Ak [] 0 V λV=>Ay [(1,AC (MN key 0 Au) [] [(0,0)])] [] 1 V λV=>AU (BN V)
theorem IL (i:Nat) (hk:key.length=32) (hi:i<=1000000000000):AO 52 ⟨[.cp 0 0],[(0,Al key i)],lb (KQ key),[(0,Al (V7 key) (i+1))]⟩:=by exact cy 1 func52 rfl ntmps52 λY V=>Ak [] 1 V λV=>Ao (Ay [(1,AC (MJ key i Au) [(0,0)] [])] [] 1 V λV=>Ai V (BR (Ay [(4,AS (ID key Au))] [] 1 V λV=>Ay [(4,AS (JW (Am key).1 (Am key).2.1 (Am key).2.2.1 (Am key).2.2.2.1 (Am key).2.2.2.2.1 (Am key).2.2.2.2.2 [[2]] (Dg key).1 (Dg key).2 (by simp)))] [] 1 V λV=>Ay [(4,CF i)] [] 1 V λV=>Ay [(3,AS (JW (Am key).1 (Am key).2.1 (Am key).2.2.1 (Am key).2.2.2.1 (Am key).2.2.2.2.1 (Am key).2.2.2.2.2 [[1]] (Dg key).1 (Dg key).2 (by simp)))] [] 1 V λV=>AU (BN V))))
def Di (key:Ad) (i k:Nat):Nat:=AR (if(k:Int)<(i:Int)then 5 else(if((i+40:Nat):Int)<(k:Int)then 6 else 0))
def y8 (i k:Nat) (z_:Nat:=Di key i k):Con:=Cq [.cp 0 0,vi (k:Int)] [(0,Al key i)] (vi (z_:Int))
theorem TL (i k:Nat) (hk:key.length=32) (hi:i<=1000000000000):AO 140 (y8 key i k):=by
 refine cy 1 func140 rfl ntmps140 λY V=>Ak [] 1 V λV=>Ao (BK (Ay [(1,AC (MJ key i Au) [(0,0)] [])] [] 1 V λV=>Ai V (Ak [] 1 V λV=>AH ((k:Int)<(i:Int)) V (λh1=> ?_) (λh1=> ?_))))
 ·exact Ak [] 1 V λV=>AU (As (Aj (BX (.trans (Ab _) (ab h1)) V)))
 ·refine Ay [(5,FA i 40 (i+40))] [] 1 V λV=>AH (((i+40:Nat):Int)<(k:Int)) V (λh2=> ?_) (λh2=> ?_)
  ·exact Ak [] 1 V λV=>AU (As (Aj (BX (.trans (Ab _) ((aj h1).trans (ab h2))) V)))
  ·exact GT (Ak [] 1 V λV=>AU (BX (.trans (Ab _) ((aj h1).trans (aj h2))) V))
theorem J9 (i:Nat) (hk:key.length=32):AO 61 ⟨[.cp 0 0],[(0,Al key i)],.cp 1 0,[(0,Al key i),(1,Al key i)]⟩:=by exact cy 1 func61 rfl ntmps61 λY V=>Ak [] 1 V λV=>Ao (Ay [(1,AC (MJ key i Au) [(0,0)] [])] [] 1 V λV=>Ai V (BR (Ay [(4,AS (D1 key Au))] [] 2 V λV=>AU (BN V))))
theorem Cw (i:Nat):AO 40 (Cq [.cp 0 0] [(0,Al key i)] (vi (i:Int))):=by exact cy 1 func40 rfl ntmps40 λY V=>Ak [] 1 V λV=>Ao (Ak [] 1 V λV=>Ai V (BR (Ak [] 1 V λV=>AU (BN V))))
theorem OP (i:Nat) (hk:key.length=32):AO 55 (Cq [.cp 0 0] [(0,Al key i)] (lb key)):=by exact cy 1 func55 rfl ntmps55 λY V=>Ak [] 1 V λV=>Ao (Ay [(1,AC (MJ key i Au) [(0,0)] [])] [] 1 V λV=>Ai V (BR (Ay [(4,AS (D1 key Au))] [] 1 V λV=>AU (BN V))))
end
theorem kK {key:Ad} {i k:Nat} (h1:i<=k) (h2:k<=i+40):Di key i k=0:=by unfold Di;rw[Ab];rw[aj Ac,aj Ac]
theorem kM {key:Ad} {i k:Nat} (h1:k<i):Di key i k=5:=by unfold Di;rw[Ab];rw[ab Ac]
theorem Xb {key:Ad} {i k:Nat} (h1:i+40<k):Di key i k=6:=by unfold Di;rw[Ab];rw[aj Ac,ab Ac]
section
variable (key:Ad) (i to:Nat)
theorem Qs (hk:key.length=32) (hi:i<=900000000000) (hm:i<=to/\to<=i+40):AO 107 ⟨[.cp 0 0,vi (to:Int)],[(0,Al key i)],.tu (Ag [.sk 1,vi 0]),[(0,Al (Bm key (to-i)) to),(1,.sl 22 A0 (GW key (to-i)))]⟩:=by
 refine cy 1 func107 rfl ntmps107 λY V=> ?_;have hm0:((Di key i to:Nat):Int)=0:=(by rw[kK hm.1 hm.2];rfl);refine Ak [] 1 V λV=>Ao (Ay [(2,AC (TL key i to Au Ac) [(0,0)] [])] [] 1 V λV=>Ay [(1,Gd hm0)] [] 1 V λV=>Ai V (B6 ?_));obtain⟨gs,V⟩:=V.nilk 4 22 A0;refine AD (ι:=Nat) Y V (λk=>(to-(i+k),[],[(0,Al (Bm key k) (i+k)),(1,.sl 22 A0 (GW key k))],(k<=to-i)/\True)) [0,1,4,5] [] 2 0 [(0,0),(1,1)] ⟨Ac,aa⟩ ?_;rintro k ac gs ws ⟨hk2,_⟩ V;refine Ao (Ak [] 2 V λV=>AH (((i+k:Nat):Int)<(to:Int)) V (λh1=> ?_) (λh1=> ?_))
 ·refine BR (BK ?_);have hnl:=F1 hk k;exact Aw [(2,AC (IL (Bm key k) (i+k) Au Ac) [(0,0)] []),(4,GJ ((GW key k).length) 1 24 (by(simp only[H3,aw,av];omega)))] [4] 3 V λV=>Cn (Av Y V (k+1) [(0,0),(1,2)] ⟨Ac,aa⟩ (show to-(i+(k+1))<to-(i+k)from by omega))
 ·have hT:=V;obtain rfl:(to-i)=k:=Eq.symm Ac;have V:=hT;refine I8 (CW [4] 2 V λV=> ?_);have V:=V.rv [(4,.sk 1),(5,vi 0)] [(0,some (Al (Bm key (to-i)) (i+(to-i)))),(1,some (.sl 22 A0 (GW key (to-i))))];rw[show i+(to-i)=to by omega]at V;have V:=V.sp;exact Fa (BN V)
def lX:Con:=Cq [.cp 0 0,vi (to:Int)] [(0,Al key i)] (.tu (Ag [lb (KQ (Bm key (to-i))),vi 0]))
theorem q7 (hk:key.length=32) (hi:i<=900000000000) (hm:i<=to/\to<=i+40):AO 105 (lX key i to):=by refine cy 1 func105 rfl ntmps105 λY V=> ?_;have hm0:((Di key i to:Nat):Int)=0:=(by rw[kK hm.1 hm.2];rfl);refine Ak [] 1 V λV=>Ao (Ay [(2,AC (TL key i to Au Ac) [(0,0)] [])] [] 1 V λV=>Ay [(1,Gd hm0)] [] 1 V λV=>Ai V (BR (Ay [(1,AC (J9 key i Au) [(0,0)] [(1,1)])] [] 2 V λV=>Ay [(2,AC (Qs key i to Au Ac Ac) [(0,1)] [(1,2)])] [] 3 V λV=>Ao ?_)));have hnl:=F1 hk (to-i);exact Aw [(1,AC (IL (Bm key (to-i)) to Au Ac) [(0,1)] [])] [] 3 V λV=>Fa (BN V)
def Zd:Con:=Cq [.cp 0 0,vi (to:Int)] [(0,Al key i)] (.tu (Ag [.v (.slice none 0 0),vi ((Di key i to:Nat):Int)]))
theorem kO (hk:key.length=32) (hi:i<=900000000000) (hm:¬((Di key i to:Nat):Int)=0):AO 105 (Zd key i to):=by refine cy 1 func105 rfl ntmps105 λY V=> ?_;have hm:¬((Di key i to:Nat):Int)=0:=hm;exact Ak [] 1 V λV=>Ao (Ay [(2,AC (TL key i to Au Ac) [(0,0)] [])] [] 1 V λV=>Ay [(1,bN hm)] [] 1 V λV=>AE V (Ak [] 1 V λV=>AU (Aj (BN V))))
end
def C3:O:= .ob 44 (Ag [vi 0])
def XD (x0:Nat):O:= .ob 44 (Ag [vi ((x0:Nat):Int)])
def KI:Con:=⟨[.cp 0 0],[(0,C3)],.tu (Ag []),[(0,C3)]⟩
theorem JC:NL Tryz.prog 88 .returning .returning (KI):=by refine OO rfl (nb:=1) (t0:=4) (t1:=1) func88 rfl rfl ntmps88 rfl rfl rfl rfl rfl rfl λg0 w0 ac gs ws Y V=> ?_;have V:=V.sp;exact Ay [(1,QP .nn [] aa)] [] 1 V λV=>Ai V (xV (bY V))
def Jb (n:Nat):Con:=⟨[.cp 0 0],[(0,C3)],.tu (Ag []),[(0,XD n)]⟩
theorem IA (n:Nat) (hn:0<n):NL Tryz.prog 88 (pnd (.iface 44 (.int .i64 (n:Int)))) (rcd (.iface 44 (.int .i64 (n:Int)))) (Jb n):=by refine OO rfl (nb:=1) (t0:=4) (t1:=1) func88 rfl rfl ntmps88 rfl rfl rfl rfl rfl rfl λg0 w0 ac gs ws Y V=> ?_;have V:=V.sp;have hn0:¬(n:Int)=0:=Ac;exact Ak [] 1 V λV=>AE V (Ay [(1,QP .ta [] aa)] [] 1 V λV=>Ao (Ay [(4,CH hn0)] [] 1 V λV=>Ai V (BR (CW [] 1 V λV=>bY V))))
def XC:O:= .ob 115 (Ag [.v (.slice none 0 0),vi 0,vi 0,vi 0,.v (.slice none 0 0),.v (.slice none 0 0)])
def QL (x0 x1:Ad):O:= .ob 115 (Ag [lb x0,vi 0,vi 0,vi 0,.v (.slice none 0 0),lb x1])
def zY:O:= .ob 44 (Ag [vi 2])
section
variable (xs:Ad)
def DI:Bool:=AR (if F2 xs=true then(if(2147483648:Int)<(Af xs).1 then false else true)else false)
def J_:Con:=⟨[.cp 0 0],[(0,C0 xs)],vi ((((Af xs).1.toNat):Nat):Int),[(0,C0 (Af xs).2)]⟩
theorem E3 (h:xs.length<=100000000000000) (hk:DI xs=true):AO 92 (J_ xs):=by
 refine cy 1 func92 rfl ntmps92 λY V=>Ak [] 1 V λV=>Ao ?_;by_cases h1:F2 xs=true
 ·refine Aw [(1,AC (HG xs Au h1) [(0,0)] [])] [] 1 V λV=>CV (Ak [] 1 V λV=>AH ((2147483648:Int)<(Af xs).1) V (λh2=> ?_) (λh2=> ?_))
  ·have hK:DI xs=false:=(Ab _).trans ((ab h1).trans (ab h2));rw[hK]at hk;cases hk
  ·refine DZ ?_;have hnn:=AP xs;exact Aw [(1,Jo (((Af xs).1.toNat:Nat):Int) [IntKind.wrap .i64 (Af xs).1=(((Af xs).1.toNat:Nat):Int)] ⟨(Er Ac Ac).trans Ac,aa⟩)] [] 1 V λV=>Fa (BN V)
 ·have hK:DI xs=false:=(Ab _).trans (aj h1);rw[hK]at hk;cases hk
def MO:Con:=⟨[.cp 0 0],[(0,C0 xs)],.v (.iface 44 (.int .i64 2)),[]⟩
theorem Nc (h:xs.length<=100000000000000) (hk:DI xs=false):En Tryz.prog 92 (MO xs):=by
 refine CU rfl (nb:=1) func92 rfl rfl ntmps92 rfl rfl rfl λg0 w0 ac gs ws Y V=> ?_;have V:=V.sp;refine Ak [] 1 V λV=>Ao ?_;by_cases h1:F2 xs=true
 ·refine Aw [(1,AC (HG xs Au h1) [(0,0)] [])] [] 1 V λV=>CV (Ak [] 1 V λV=>AH ((2147483648:Int)<(Af xs).1) V (λh2=> ?_) (λh2=> ?_))
  ·exact A7 (E:=E0) mo hZ [] aa none (λr hr=>by cases hr) 1 0 (λ_=>[]) (.v (.iface 44 (.int .i64 2))) (by kernel_rfl) aa V.st λac gs ws pv V hpv=>AA (CC rfl V hpv rfl rfl)
  ·refine DZ ?_;have hnn:=AP xs;refine Aw [(1,Jo (((Af xs).1.toNat:Nat):Int) [IntKind.wrap .i64 (Af xs).1=(((Af xs).1.toNat:Nat):Int)] ⟨(Er Ac Ac).trans Ac,aa⟩)] [] 1 V λV=>Fa ?_;have hK:DI xs=true:=(Ab _).trans ((ab h1).trans (aj h2));rw[hK]at hk;cases hk
 ·exact A7 (E:=E0) mo hZ [] aa (some ⟨126,(KL xs),[(0,0)],[]⟩) (λr hr=>by cases hr;exact JI xs Au (BH h1)) 1 4 (λ_=>[nd [.cp 0 0] [some (C0 xs)]]) (.v (.iface 44 (.int .i64 2))) (by kernel_rfl) ⟨rfl,aa⟩ V.st λac gs ws pv V hpv=>AA (CC rfl V hpv rfl rfl)
theorem Uw (m:Nat):0<D_ xs m:=by
 unfold D_;rw[Ab]
 repeat (first |decide|split)
theorem Ih (m:Nat):0<Bu xs m:=by
 unfold Bu;rw[Ab]
 repeat (first |decide|exact Uw _ _|split)
def JH:Bool:=AR (if Bw xs 4000=true then(if Bw ((Af xs).2.drop ((Af xs).1.toNat)) 4000=true then true else false)else false)
def Ep:Nat:=AR (if Bw xs 4000=true then(Bu ((Af xs).2.drop ((Af xs).1.toNat)) 4000)else(Bu xs 4000))
theorem fT (h:xs.length<=100000000000000) (hk:JH xs=true):AO 101 ⟨[.cp 0 0,.cp 1 0],[(0,C0 xs),(1,XC)],.tu (Ag []),[(0,C0 (((Af ((Af xs).2.drop ((Af xs).1.toNat))).2).drop (((Af ((Af xs).2.drop ((Af xs).1.toNat))).1).toNat))),(1,QL ((Af xs).2.take ((Af xs).1.toNat)) (((Af ((Af xs).2.drop ((Af xs).1.toNat))).2).take (((Af ((Af xs).2.drop ((Af xs).1.toNat))).1).toNat)))]⟩:=by
 refine cy 2 func101 rfl ntmps101 λY V=> ?_;have hnn:=AP xs;by_cases h1:Bw xs 4000=true
 ·have hnn:=AP xs;by_cases h2:Bw ((Af xs).2.drop ((Af xs).1.toNat)) 4000=true
  ·have hnn:=AP xs;exact Aw [(1,AC (D2 xs 4000 Au Ac h1) [(0,0)] []),(3,AC (D2 ((Af xs).2.drop ((Af xs).1.toNat)) 4000 Au Ac h2) [(0,0)] [])] [] 2 V λV=>bY V
  ·have hnn:=AP xs;have hK:JH xs=false:=(Ab _).trans ((ab h1).trans (aj h2));rw[hK]at hk;cases hk
 ·have hnn:=AP xs;have hK:JH xs=false:=(Ab _).trans (aj h1);rw[hK]at hk;cases hk
def Y5:Con:=⟨[.cp 0 0,.cp 1 0],[(0,C0 xs),(1,XC)],.v (.iface 44 (.int .i64 ((Ep xs:Nat):Int))),[]⟩
theorem fR (h:xs.length<=100000000000000) (hk:JH xs=false):En Tryz.prog 101 (Y5 xs):=by
 refine CU rfl (nb:=2) func101 rfl rfl ntmps101 rfl rfl rfl λg0 w0 ac gs ws Y V=> ?_;have V:=V.sp;have hnn:=AP xs;by_cases h1:Bw xs 4000=true
 ·have hnn:=AP xs;by_cases h2:Bw ((Af xs).2.drop ((Af xs).1.toNat)) 4000=true
  ·have hnn:=AP xs;refine Aw [(1,AC (D2 xs 4000 Au Ac h1) [(0,0)] []),(3,AC (D2 ((Af xs).2.drop ((Af xs).1.toNat)) 4000 Au Ac h2) [(0,0)] [])] [] 2 V λV=> ?_;have hK:JH xs=true:=(Ab _).trans ((ab h1).trans (ab h2));rw[hK]at hk;cases hk
  ·have hnn:=AP xs;refine A7 (E:=E0) mo hZ [(1,.call ⟨102,(NE xs 4000),[(0,0)],[]⟩)] ⟨D2 _ _ Au Ac h1,aa⟩ (some ⟨102,(GU ((Af xs).2.drop ((Af xs).1.toNat)) 4000),[(0,0)],[]⟩) (λr hr=>by cases hr;exact G_ ((Af xs).2.drop ((Af xs).1.toNat)) 4000 Au Ac (BH h2)) 3 240 (λC=>[bX C 1,nd [.cp 0 0,vi 4000] [some (C0 ((Af xs).2.drop ((Af xs).1.toNat)))]]) (.v (.iface 44 (.int .i64 ((Bu ((Af xs).2.drop ((Af xs).1.toNat)) 4000:Nat):Int)))) (by kernel_rfl) ⟨rfl,rfl,aa⟩ V.st λac gs ws pv V hpv=> ?_;have hM:Ep xs=(Bu ((Af xs).2.drop ((Af xs).1.toNat)) 4000):=(Ab _).trans (ab h1);exact CC rfl V hpv (by show _=(.v (.iface 44 (.int .i64 ((Ep xs:Nat):Int))):D);rw[hM]<;>rfl) rfl
 ·have hnn:=AP xs;refine A7 (E:=E0) mo hZ [] aa (some ⟨102,(GU xs 4000),[(0,0)],[]⟩) (λr hr=>by cases hr;exact G_ xs 4000 Au Ac (BH h1)) 1 252 (λ_=>[nd [.cp 0 0,vi 4000] [some (C0 xs)]]) (.v (.iface 44 (.int .i64 ((Bu xs 4000:Nat):Int)))) (by kernel_rfl) ⟨rfl,aa⟩ V.st λac gs ws pv V hpv=> ?_;have hM:Ep xs=(Bu xs 4000):=(Ab _).trans (aj h1);exact CC rfl V hpv (by show _=(.v (.iface 44 (.int .i64 ((Ep xs:Nat):Int))):D);rw[hM]<;>rfl) rfl
theorem Gp:0<Ep xs:=by
 unfold Ep;rw[Ab]
 repeat (first |decide|exact Ih _ _|split)
def JF:Bool:=AR (if JH xs=true then(if Ec (((Af ((Af xs).2.drop ((Af xs).1.toNat))).2).drop (((Af ((Af xs).2.drop ((Af xs).1.toNat))).1).toNat))=true then true else false)else false)
def DU:Nat:=AR (if JH xs=true then 2 else(Ep xs))
theorem eU (h:xs.length<=100000000000000) (hk:JF xs=true):AO 59 ⟨[lb xs,.fn 101 (Ag []) (Ag [.cp 0 0])],[(0,XC)],vi 0,[(0,QL ((Af xs).2.take ((Af xs).1.toNat)) (((Af ((Af xs).2.drop ((Af xs).1.toNat))).2).take (((Af ((Af xs).2.drop ((Af xs).1.toNat))).1).toNat)))]⟩:=by
 refine Dh rfl (nb:=1) func59 rfl rfl ntmps59 rfl rfl rfl λg0 w0 ac gs ws Y V=> ?_;have V:=V.sp;refine Ak [] 2 V λV=>Ao ?_;have V:=V.rv [(0,lb xs),(1,.fn 101 (Ag []) (Ag [.cp 0 0])),(4,.cp 1 0)] [(0,some (XC)),(1,some (C3))];refine Fz rfl V (cs:=[.cp 1 0]) rfl rfl rfl λD vds ac hD hcv hB V=> ?_;have V:=V.sp;refine Ae (Ay [(1,AC (GM xs Au) [] [(0,2)])] [] 3 V λV=>Ao (Ak [] 3 V λV=>AE V ?_));have hz:=Gp xs;by_cases h1:JH xs=true
 ·have hz:=Gp xs;refine Aw [(2,AC (fT xs Au h1) [(0,2),(1,0)] [])] [] 3 V λV=>CV ?_;by_cases h2:Ec (((Af ((Af xs).2.drop ((Af xs).1.toNat))).2).drop (((Af ((Af xs).2.drop ((Af xs).1.toNat))).1).toNat))=true
  ·refine Aw [(1,AC (H6 (((Af ((Af xs).2.drop ((Af xs).1.toNat))).2).drop (((Af ((Af xs).2.drop ((Af xs).1.toNat))).1).toNat)) h2) [(0,2)] [])] [] 3 V λV=>Ae (Ak [] 3 V λV=>AU ?_);have V:=V.rv [(4,.cp 1 0)] [(0,some (QL ((Af xs).2.take ((Af xs).1.toNat)) (((Af ((Af xs).2.drop ((Af xs).1.toNat))).2).take (((Af ((Af xs).2.drop ((Af xs).1.toNat))).1).toNat)))),(1,some (C3))];exact Ly (.inr rfl) V hD (Dx ⟨88,(KI),[(0,1)],[]⟩ [(1,some (C3)),(0,some (QL ((Af xs).2.take ((Af xs).1.toNat)) (((Af ((Af xs).2.drop ((Af xs).1.toNat))).2).take (((Af ((Af xs).2.drop ((Af xs).1.toNat))).1).toNat)))),(1,some (C3))] hB V hcv (show FrameMode.returning≠ .run from nofun) rfl rfl rfl (JC) rfl ⟨rfl,aa⟩ rfl (ds:=[vi 0]) (by kernel_rfl) rfl ⟨rfl,aa⟩)
  ·have hK:JF xs=false:=(Ab _).trans ((ab h1).trans (aj h2));rw[hK]at hk;cases hk
 ·have hz:=Gp xs;have hK:JF xs=false:=(Ab _).trans (aj h1);rw[hK]at hk;cases hk
def Y2:Con:=⟨[lb xs,.fn 101 (Ag []) (Ag [.cp 0 0])],[(0,XC)],vi ((DU xs:Nat):Int),[]⟩
theorem eT (h:xs.length<=100000000000000) (hk:JF xs=false):AO 59 (Y2 xs):=by
 refine Dh rfl (nb:=1) func59 rfl rfl ntmps59 rfl rfl rfl λg0 w0 ac gs ws Y V=> ?_;have V:=V.sp;refine Ak [] 2 V λV=>Ao ?_;have V:=V.rv [(0,lb xs),(1,.fn 101 (Ag []) (Ag [.cp 0 0])),(4,.cp 1 0)] [(0,some (XC)),(1,some (C3))];refine Fz rfl V (cs:=[.cp 1 0]) rfl rfl rfl λD vds ac hD hcv hB V=> ?_;have V:=V.sp;refine Ae (Ay [(1,AC (GM xs Au) [] [(0,2)])] [] 3 V λV=>Ao (Ak [] 3 V λV=>AE V ?_));have hz:=Gp xs;by_cases h1:JH xs=true
 ·have hz:=Gp xs;refine Aw [(2,AC (fT xs Au h1) [(0,2),(1,0)] [])] [] 3 V λV=>CV ?_;by_cases h2:Ec (((Af ((Af xs).2.drop ((Af xs).1.toNat))).2).drop (((Af ((Af xs).2.drop ((Af xs).1.toNat))).1).toNat))=true
  ·refine Aw [(1,AC (H6 (((Af ((Af xs).2.drop ((Af xs).1.toNat))).2).drop (((Af ((Af xs).2.drop ((Af xs).1.toNat))).1).toNat)) h2) [(0,2)] [])] [] 3 V λV=>Ae (Ak [] 3 V λV=>AU ?_);have hK:JF xs=true:=(Ab _).trans ((ab h1).trans (ab h2));rw[hK]at hk;cases hk
  ·refine Hj (E:=E0) mo hZ [] aa (some ⟨90,(MP (((Af ((Af xs).2.drop ((Af xs).1.toNat))).2).drop (((Af ((Af xs).2.drop ((Af xs).1.toNat))).1).toNat))),[(0,2)],[]⟩) (λr hr=>by cases hr;exact Nm (((Af ((Af xs).2.drop ((Af xs).1.toNat))).2).drop (((Af ((Af xs).2.drop ((Af xs).1.toNat))).1).toNat)) (BH h2)) 1 0 (λ_=>[nd [.cp 2 0] [some (C0 (((Af ((Af xs).2.drop ((Af xs).1.toNat))).2).drop (((Af ((Af xs).2.drop ((Af xs).1.toNat))).1).toNat)))]]) (.v (.iface 44 (.int .i64 2))) [4] [1] [(4,.cp 1 0)] [(1,some (C3))] (by kernel_rfl) ⟨rfl,aa⟩ (by kernel_rfl) (by kernel_rfl) V.st λac gs ws pv V hpv=>AA ?_;obtain rfl:=hpv.v_of;have hM:DU xs=2:=(Ab _).trans (ab h1);exact J0 V hD (Dx ⟨88,(Jb 2),[(0,1)],[]⟩ [(1,some (zY)),(1,some (C3))] hB V hcv (show FrameMode.panicking _≠ .run from nofun) rfl rfl rfl (IA 2 Ac) rfl ⟨rfl,aa⟩ rfl (ds:=[vi 2]) (by kernel_rfl) (by show weak _ (vi ((DU xs:Nat):Int))=(vi ((DU xs:Nat):Int));first |rfl|(rw[hM];first |(simp only[];rfl)|(simp only[];done)|rfl)) aa)
 ·have hz:=Gp xs;refine Hj (E:=E0) mo hZ [] aa (some ⟨101,(Y5 xs),[(0,2),(1,0)],[]⟩) (λr hr=>by cases hr;exact fR xs Au (BH h1)) 2 0 (λ_=>[nd [.cp 2 0,.cp 0 0] [some (C0 xs),some (XC)]]) (.v (.iface 44 (.int .i64 ((Ep xs:Nat):Int)))) [4] [1] [(4,.cp 1 0)] [(1,some (C3))] (by kernel_rfl) ⟨rfl,aa⟩ (by kernel_rfl) (by kernel_rfl) V.st λac gs ws pv V hpv=>AA ?_;obtain rfl:=hpv.v_of;have hM:DU xs=(Ep xs):=(Ab _).trans (aj h1);exact J0 V hD (Dx ⟨88,(Jb (Ep xs)),[(0,1)],[]⟩ [(1,some (XD (Ep xs))),(1,some (C3))] hB V hcv (show FrameMode.panicking _≠ .run from nofun) rfl rfl rfl (IA (Ep xs) Ac) rfl ⟨rfl,aa⟩ rfl (ds:=[vi (((Ep xs):Nat):Int)]) (by kernel_rfl) (by show weak _ (vi ((DU xs:Nat):Int))=(vi ((DU xs:Nat):Int));first |rfl|(rw[hM];first |(simp only[];rfl)|(simp only[];done)|rfl)) aa)
end
def mV (x0:Ad) (x1:Nat) (x2 x3:Nat) (x4 x5:Ad):O:= .ob 115 (Ag [lb x0,vi ((x1:Nat):Int),vi ((x2:Nat):Int),vi ((x3:Nat):Int),lb x4,lb x5])
section
variable (xs:Ad)
theorem Cz:(Af (Af xs).2).2.length<=xs.length:=b_ (AP _).2 (AP _).2
theorem Cf:(Af (Af (Af xs).2).2).2.length<=xs.length:=b_ (AP _).2 (Cz _)
def HE (ba bb:Ad):Bool:=AR (if DI xs=true then(if DI (Af xs).2=true then(if DI ((Af (Af xs).2).2)=true then(if Bw ((Af ((Af (Af xs).2).2)).2) 4000=true then true else false)else false)else false)else false)
def Do (ba bb:Ad):Nat:=AR (if DI xs=true then(if DI (Af xs).2=true then(if DI ((Af (Af xs).2).2)=true then(Bu ((Af ((Af (Af xs).2).2)).2) 4000)else 2)else 2)else 2)
def Df (ba bb:Ad):Ad×Nat×Nat×Nat×Ad:=AR (((((Af ((Af ((Af (Af xs).2).2)).2)).2).drop (((Af ((Af ((Af (Af xs).2).2)).2)).1).toNat)),((Af xs).1.toNat),(((Af (Af xs).2).1).toNat),(((Af ((Af (Af xs).2).2)).1).toNat),(((Af ((Af ((Af (Af xs).2).2)).2)).2).take (((Af ((Af ((Af (Af xs).2).2)).2)).1).toNat))))
end
theorem Ku (xs ba bb:Ad):(Df xs ba bb).1.length<=xs.length:=by have h3:=Cf xs;have h4:=(AP (Af (Af (Af xs).2).2).2).2;unfold Df;rw[Ab];show(List.drop _ _).length<=_;rw[au];omega
section
variable (xs ba bb:Ad)
def Abz (z_:Ad×Nat×Nat×Nat×Ad:=Df xs ba bb):Con:=⟨[.cp 0 0,.cp 1 0],[(0,C0 xs),(1,QL ba bb)],.tu (Ag []),[(0,C0 (z_.1)),(1,mV ba z_.2.1 z_.2.2.1 z_.2.2.2.1 (z_.2.2.2.2) bb)]⟩
theorem fQ (h:xs.length<=100000000000000) (hk:HE xs ba bb=true):AO 103 (Abz xs ba bb):=by
 refine cy 2 func103 rfl ntmps103 λY V=> ?_;have hnn:=AP xs;have hn2:=Cz xs;have hn3:=Cf xs;by_cases h1:DI xs=true
 ·have hnn:=AP xs;have hn2:=Cz xs;have hn3:=Cf xs;by_cases h2:DI (Af xs).2=true
  ·have hnn:=AP xs;have hn2:=Cz xs;have hn3:=Cf xs;by_cases h3:DI ((Af (Af xs).2).2)=true
   ·have hnn:=AP xs;have hn2:=Cz xs;have hn3:=Cf xs;by_cases h4:Bw ((Af ((Af (Af xs).2).2)).2) 4000=true
    ·have hnn:=AP xs;have hn2:=Cz xs;have hn3:=Cf xs;exact Aw [(1,AC (E3 xs Au h1) [(0,0)] []),(3,AC (E3 (Af xs).2 Au h2) [(0,0)] []),(5,AC (E3 ((Af (Af xs).2).2) Au h3) [(0,0)] []),(7,AC (D2 ((Af ((Af (Af xs).2).2)).2) 4000 Au Ac h4) [(0,0)] [])] [] 2 V λV=>iO (Ab _) V
    ·have hnn:=AP xs;have hn2:=Cz xs;have hn3:=Cf xs;have hK:HE xs ba bb=false:=(Ab _).trans ((ab h1).trans ((ab h2).trans ((ab h3).trans (aj h4))));rw[hK]at hk;cases hk
   ·have hnn:=AP xs;have hn2:=Cz xs;have hn3:=Cf xs;have hK:HE xs ba bb=false:=(Ab _).trans ((ab h1).trans ((ab h2).trans (aj h3)));rw[hK]at hk;cases hk
  ·have hnn:=AP xs;have hn2:=Cz xs;have hn3:=Cf xs;have hK:HE xs ba bb=false:=(Ab _).trans ((ab h1).trans (aj h2));rw[hK]at hk;cases hk
 ·have hnn:=AP xs;have hn2:=Cz xs;have hn3:=Cf xs;have hK:HE xs ba bb=false:=(Ab _).trans (aj h1);rw[hK]at hk;cases hk
def Y4:Con:=⟨[.cp 0 0,.cp 1 0],[(0,C0 xs),(1,QL ba bb)],.v (.iface 44 (.int .i64 ((Do xs ba bb:Nat):Int))),[]⟩
theorem fP (h:xs.length<=100000000000000) (hk:HE xs ba bb=false):En Tryz.prog 103 (Y4 xs ba bb):=by
 refine CU rfl (nb:=2) func103 rfl rfl ntmps103 rfl rfl rfl λg0 w0 ac gs ws Y V=> ?_;have V:=V.sp;have hnn:=AP xs;have hn2:=Cz xs;have hn3:=Cf xs;by_cases h1:DI xs=true
 ·have hnn:=AP xs;have hn2:=Cz xs;have hn3:=Cf xs;by_cases h2:DI (Af xs).2=true
  ·have hnn:=AP xs;have hn2:=Cz xs;have hn3:=Cf xs;by_cases h3:DI ((Af (Af xs).2).2)=true
   ·have hnn:=AP xs;have hn2:=Cz xs;have hn3:=Cf xs;by_cases h4:Bw ((Af ((Af (Af xs).2).2)).2) 4000=true
    ·have hnn:=AP xs;have hn2:=Cz xs;have hn3:=Cf xs;refine Aw [(1,AC (E3 xs Au h1) [(0,0)] []),(3,AC (E3 (Af xs).2 Au h2) [(0,0)] []),(5,AC (E3 ((Af (Af xs).2).2) Au h3) [(0,0)] []),(7,AC (D2 ((Af ((Af (Af xs).2).2)).2) 4000 Au Ac h4) [(0,0)] [])] [] 2 V λV=> ?_;have hK:HE xs ba bb=true:=(Ab _).trans ((ab h1).trans ((ab h2).trans ((ab h3).trans (ab h4))));rw[hK]at hk;cases hk
    ·have hnn:=AP xs;have hn2:=Cz xs;have hn3:=Cf xs;refine A7 (E:=E0) mo hZ [(1,.call ⟨92,(J_ xs),[(0,0)],[]⟩),(3,.call ⟨92,(J_ (Af xs).2),[(0,0)],[]⟩),(5,.call ⟨92,(J_ ((Af (Af xs).2).2)),[(0,0)],[]⟩)] ⟨E3 _ Au h1,E3 _ Au h2,E3 _ Au h3,aa⟩ (some ⟨102,(GU ((Af ((Af (Af xs).2).2)).2) 4000),[(0,0)],[]⟩) (λr hr=>by cases hr;exact G_ ((Af ((Af (Af xs).2).2)).2) 4000 Au Ac (BH h4)) 7 65280 (λC=>[bX C 1,bX C 3,bX C 5,nd [.cp 0 0,vi 4000] [some (C0 ((Af ((Af (Af xs).2).2)).2))]]) (.v (.iface 44 (.int .i64 ((Bu ((Af ((Af (Af xs).2).2)).2) 4000:Nat):Int)))) (by kernel_rfl) ⟨rfl,rfl,rfl,rfl,aa⟩ V.st λac gs ws pv V hpv=> ?_;have hM:Do xs ba bb=(Bu ((Af ((Af (Af xs).2).2)).2) 4000):=(Ab _).trans ((ab h1).trans ((ab h2).trans (ab h3)));exact CC rfl V hpv (by show _=(.v (.iface 44 (.int .i64 ((Do xs ba bb:Nat):Int))):D);rw[hM]<;>rfl) rfl
   ·have hnn:=AP xs;have hn2:=Cz xs;have hn3:=Cf xs;refine A7 (E:=E0) mo hZ [(1,.call ⟨92,(J_ xs),[(0,0)],[]⟩),(3,.call ⟨92,(J_ (Af xs).2),[(0,0)],[]⟩)] ⟨E3 _ Au h1,E3 _ Au h2,aa⟩ (some ⟨92,(MO ((Af (Af xs).2).2)),[(0,0)],[]⟩) (λr hr=>by cases hr;exact Nc ((Af (Af xs).2).2) Au (BH h3)) 5 65472 (λC=>[bX C 1,bX C 3,nd [.cp 0 0] [some (C0 ((Af (Af xs).2).2))]]) (.v (.iface 44 (.int .i64 2))) (by kernel_rfl) ⟨rfl,rfl,rfl,aa⟩ V.st λac gs ws pv V hpv=> ?_;have hM:Do xs ba bb=2:=(Ab _).trans ((ab h1).trans ((ab h2).trans (aj h3)));exact CC rfl V hpv (by show _=(.v (.iface 44 (.int .i64 ((Do xs ba bb:Nat):Int))):D);rw[hM]<;>rfl) rfl
  ·have hnn:=AP xs;have hn2:=Cz xs;have hn3:=Cf xs;refine A7 (E:=E0) mo hZ [(1,.call ⟨92,(J_ xs),[(0,0)],[]⟩)] ⟨E3 _ Au h1,aa⟩ (some ⟨92,(MO (Af xs).2),[(0,0)],[]⟩) (λr hr=>by cases hr;exact Nc (Af xs).2 Au (BH h2)) 3 65520 (λC=>[bX C 1,nd [.cp 0 0] [some (C0 (Af xs).2)]]) (.v (.iface 44 (.int .i64 2))) (by kernel_rfl) ⟨rfl,rfl,aa⟩ V.st λac gs ws pv V hpv=> ?_;have hM:Do xs ba bb=2:=(Ab _).trans ((ab h1).trans (aj h2));exact CC rfl V hpv (by show _=(.v (.iface 44 (.int .i64 ((Do xs ba bb:Nat):Int))):D);rw[hM]<;>rfl) rfl
 ·have hnn:=AP xs;have hn2:=Cz xs;have hn3:=Cf xs;refine A7 (E:=E0) mo hZ [] aa (some ⟨92,(MO xs),[(0,0)],[]⟩) (λr hr=>by cases hr;exact Nc xs Au (BH h1)) 1 65532 (λ_=>[nd [.cp 0 0] [some (C0 xs)]]) (.v (.iface 44 (.int .i64 2))) (by kernel_rfl) ⟨rfl,aa⟩ V.st λac gs ws pv V hpv=> ?_;have hM:Do xs ba bb=2:=(Ab _).trans (aj h1);exact CC rfl V hpv (by show _=(.v (.iface 44 (.int .i64 ((Do xs ba bb:Nat):Int))):D);rw[hM]<;>rfl) rfl
end
theorem Gn (xs ba bb:Ad):0<Do xs ba bb:=by
 unfold Do;rw[Ab]
 repeat (first |decide|exact Ih _ _|split)
section
variable (xs ba bb:Ad)
def IB:Bool:=AR (if HE xs ba bb=true then(if Ec (Df xs ba bb).1=true then true else false)else false)
def DT:Nat:=AR (if HE xs ba bb=true then 2 else(Do xs ba bb))
def Ge:Nat×Nat×Nat×Ad:=AR (((Df xs ba bb).2.1,(Df xs ba bb).2.2.1,(Df xs ba bb).2.2.2.1,(Df xs ba bb).2.2.2.2))
def Aby (z_:Nat×Nat×Nat×Ad:=Ge xs ba bb):Con:=⟨[lb xs,.fn 103 (Ag []) (Ag [.cp 0 0])],[(0,QL ba bb)],vi 0,[(0,mV ba z_.1 z_.2.1 z_.2.2.1 (z_.2.2.2) bb)]⟩
theorem eS (h:xs.length<=100000000000000) (hk:IB xs ba bb=true):AO 59 (Aby xs ba bb):=by
 refine Dh rfl (nb:=1) func59 rfl rfl ntmps59 rfl rfl rfl λg0 w0 ac gs ws Y V=> ?_;have V:=V.sp;refine Ak [] 2 V λV=>Ao ?_;have V:=V.rv [(0,lb xs),(1,.fn 103 (Ag []) (Ag [.cp 0 0])),(4,.cp 1 0)] [(0,some (QL ba bb)),(1,some (C3))];refine Fz rfl V (cs:=[.cp 1 0]) rfl rfl rfl λD vds ac hD hcv hB V=> ?_;have V:=V.sp;refine Ae (Ay [(1,AC (GM xs Au) [] [(0,2)])] [] 3 V λV=>Ao (Ak [] 3 V λV=>AE V ?_));have hz:=Gn xs ba bb;by_cases h1:HE xs ba bb=true
 ·have hz:=Gn xs ba bb;refine Aw [(2,AC (fQ xs ba bb Au h1) [(0,2),(1,0)] [])] [] 3 V λV=>CV ?_;have hpl:=Ku xs ba bb;by_cases h2:Ec (Df xs ba bb).1=true
  ·have hpl:=Ku xs ba bb;refine Aw [(1,AC (H6 (Df xs ba bb).1 h2) [(0,2)] [])] [] 3 V λV=>Ae (Ak [] 3 V λV=>AU ?_);have hM:Ge xs ba bb=((Df xs ba bb).2.1,(Df xs ba bb).2.2.1,(Df xs ba bb).2.2.2.1,(Df xs ba bb).2.2.2.2):=Ab _;have V:=V.rv [(4,.cp 1 0)] [(0,some (mV ba (Df xs ba bb).2.1 (Df xs ba bb).2.2.1 (Df xs ba bb).2.2.2.1 (Df xs ba bb).2.2.2.2 bb)),(1,some (C3))];exact Ly (.inr rfl) V hD (Dx ⟨88,(KI),[(0,1)],[]⟩ [(1,some (C3)),(0,some (mV ba (Df xs ba bb).2.1 (Df xs ba bb).2.2.1 (Df xs ba bb).2.2.2.1 (Df xs ba bb).2.2.2.2 bb)),(1,some (C3))] hB V hcv (show FrameMode.returning≠ .run from nofun) rfl rfl rfl (JC) rfl ⟨rfl,aa⟩ rfl (ds:=[vi 0]) (by kernel_rfl) rfl (by show EP _ [(0,mV ba (Ge xs ba bb).1 (Ge xs ba bb).2.1 (Ge xs ba bb).2.2.1 (Ge xs ba bb).2.2.2 bb)] true;first |exact⟨rfl,aa⟩|(rw[hM];first |(simp only[];exact⟨rfl,aa⟩)|exact⟨rfl,aa⟩)))
  ·have hpl:=Ku xs ba bb;have hK:IB xs ba bb=false:=(Ab _).trans ((ab h1).trans (aj h2));rw[hK]at hk;cases hk
 ·have hz:=Gn xs ba bb;have hK:IB xs ba bb=false:=(Ab _).trans (aj h1);rw[hK]at hk;cases hk
def Y1:Con:=⟨[lb xs,.fn 103 (Ag []) (Ag [.cp 0 0])],[(0,QL ba bb)],vi ((DT xs ba bb:Nat):Int),[]⟩
theorem eR (h:xs.length<=100000000000000) (hk:IB xs ba bb=false):AO 59 (Y1 xs ba bb):=by
 refine Dh rfl (nb:=1) func59 rfl rfl ntmps59 rfl rfl rfl λg0 w0 ac gs ws Y V=> ?_;have V:=V.sp;refine Ak [] 2 V λV=>Ao ?_;have V:=V.rv [(0,lb xs),(1,.fn 103 (Ag []) (Ag [.cp 0 0])),(4,.cp 1 0)] [(0,some (QL ba bb)),(1,some (C3))];refine Fz rfl V (cs:=[.cp 1 0]) rfl rfl rfl λD vds ac hD hcv hB V=> ?_;have V:=V.sp;refine Ae (Ay [(1,AC (GM xs Au) [] [(0,2)])] [] 3 V λV=>Ao (Ak [] 3 V λV=>AE V ?_));have hz:=Gn xs ba bb;by_cases h1:HE xs ba bb=true
 ·have hz:=Gn xs ba bb;refine Aw [(2,AC (fQ xs ba bb Au h1) [(0,2),(1,0)] [])] [] 3 V λV=>CV ?_;have hpl:=Ku xs ba bb;by_cases h2:Ec (Df xs ba bb).1=true
  ·have hpl:=Ku xs ba bb;refine Aw [(1,AC (H6 (Df xs ba bb).1 h2) [(0,2)] [])] [] 3 V λV=>Ae (Ak [] 3 V λV=>AU ?_);have hK:IB xs ba bb=true:=(Ab _).trans ((ab h1).trans (ab h2));rw[hK]at hk;cases hk
  ·have hpl:=Ku xs ba bb;refine Hj (E:=E0) mo hZ [] aa (some ⟨90,(MP (Df xs ba bb).1),[(0,2)],[]⟩) (λr hr=>by cases hr;exact Nm (Df xs ba bb).1 (BH h2)) 1 0 (λ_=>[nd [.cp 2 0] [some (C0 (Df xs ba bb).1)]]) (.v (.iface 44 (.int .i64 2))) [4] [1] [(4,.cp 1 0)] [(1,some (C3))] (by kernel_rfl) ⟨rfl,aa⟩ (by kernel_rfl) (by kernel_rfl) V.st λac gs ws pv V hpv=>AA ?_;obtain rfl:=hpv.v_of;have hM:DT xs ba bb=2:=(Ab _).trans (ab h1);exact J0 V hD (Dx ⟨88,(Jb 2),[(0,1)],[]⟩ [(1,some (zY)),(1,some (C3))] hB V hcv (show FrameMode.panicking _≠ .run from nofun) rfl rfl rfl (IA 2 Ac) rfl ⟨rfl,aa⟩ rfl (ds:=[vi 2]) (by kernel_rfl) (by show weak _ (vi ((DT xs ba bb:Nat):Int))=(vi ((DT xs ba bb:Nat):Int));first |rfl|(rw[hM];first |(simp only[];rfl)|(simp only[];done)|rfl)) aa)
 ·have hz:=Gn xs ba bb;refine Hj (E:=E0) mo hZ [] aa (some ⟨103,(Y4 xs ba bb),[(0,2),(1,0)],[]⟩) (λr hr=>by cases hr;exact fP xs ba bb Au (BH h1)) 2 0 (λ_=>[nd [.cp 2 0,.cp 0 0] [some (C0 xs),some (QL ba bb)]]) (.v (.iface 44 (.int .i64 ((Do xs ba bb:Nat):Int)))) [4] [1] [(4,.cp 1 0)] [(1,some (C3))] (by kernel_rfl) ⟨rfl,aa⟩ (by kernel_rfl) (by kernel_rfl) V.st λac gs ws pv V hpv=>AA ?_;obtain rfl:=hpv.v_of;have hM:DT xs ba bb=(Do xs ba bb):=(Ab _).trans (aj h1);exact J0 V hD (Dx ⟨88,(Jb (Do xs ba bb)),[(0,1)],[]⟩ [(1,some (XD (Do xs ba bb))),(1,some (C3))] hB V hcv (show FrameMode.panicking _≠ .run from nofun) rfl rfl rfl (IA (Do xs ba bb) Ac) rfl ⟨rfl,aa⟩ rfl (ds:=[vi (((Do xs ba bb):Nat):Int)]) (by kernel_rfl) (by show weak _ (vi ((DT xs ba bb:Nat):Int))=(vi ((DT xs ba bb:Nat):Int));first |rfl|(rw[hM];first |(simp only[];rfl)|(simp only[];done)|rfl)) aa)
end
theorem GO:AO 71 ⟨[vi 0],[],.tu (Ag []),[]⟩:=by exact cy 0 func71 rfl ntmps71 λY V=>Ak [] 0 V λV=>Ai V (xV (bY V))
def GI (n:Nat):Con:=⟨[vi (n:Int)],[],.v (.iface 44 (.int .i64 (n:Int))),[]⟩
theorem JR (n:Nat) (hn:0<n):En Tryz.prog 71 (GI n):=by refine CU rfl (nb:=0) func71 rfl rfl ntmps71 rfl rfl rfl λg0 w0 ac gs ws Y V=> ?_;have V:=V.sp;have hn0:¬(n:Int)=0:=Ac;exact Ay [(1,bN hn0)] [] 0 V λV=>AE V (A7 (E:=E0) mo hZ [] aa none (λr hr=>by cases hr) 2 0 (λ_=>[]) (.v (.iface 44 (.int .i64 (n:Int)))) (by kernel_rfl) aa V.st λac gs ws pv V hpv=>CC rfl V hpv rfl rfl)
theorem Hl (xs:Ad):0<DU xs:=by
 unfold DU;rw[Ab]
 repeat (first |decide|exact Gp _|split)
theorem Hk (xs ba bb:Ad):0<DT xs ba bb:=by
 unfold DT;rw[Ab]
 repeat (first |decide|exact Gn _ _ _|split)
section
variable (xs:Ad)
def B9:Bool:=AR (if JF xs=true then(if IB ((Af xs).2.take ((Af xs).1.toNat)) ((Af xs).2.take ((Af xs).1.toNat)) (((Af ((Af xs).2.drop ((Af xs).1.toNat))).2).take (((Af ((Af xs).2.drop ((Af xs).1.toNat))).1).toNat))=true then(if(((([]++Ah ((Af xs).2.take ((Af xs).1.toNat)).length)++((Af xs).2.take ((Af xs).1.toNat)))++Ah (((Af ((Af xs).2.drop ((Af xs).1.toNat))).2).take (((Af ((Af xs).2.drop ((Af xs).1.toNat))).1).toNat)).length)++(((Af ((Af xs).2.drop ((Af xs).1.toNat))).2).take (((Af ((Af xs).2.drop ((Af xs).1.toNat))).1).toNat)))=xs then true else false)else false)else false)
def CG:Nat:=AR (if JF xs=true then(if IB ((Af xs).2.take ((Af xs).1.toNat)) ((Af xs).2.take ((Af xs).1.toNat)) (((Af ((Af xs).2.drop ((Af xs).1.toNat))).2).take (((Af ((Af xs).2.drop ((Af xs).1.toNat))).1).toNat))=true then 2 else(DT ((Af xs).2.take ((Af xs).1.toNat)) ((Af xs).2.take ((Af xs).1.toNat)) (((Af ((Af xs).2.drop ((Af xs).1.toNat))).2).take (((Af ((Af xs).2.drop ((Af xs).1.toNat))).1).toNat))))else(DU xs))
def Aa:Ad×Nat×Nat×Nat×Ad×Ad:=AR ((((Af xs).2.take ((Af xs).1.toNat)),((Ge ((Af xs).2.take ((Af xs).1.toNat)) ((Af xs).2.take ((Af xs).1.toNat)) (((Af ((Af xs).2.drop ((Af xs).1.toNat))).2).take (((Af ((Af xs).2.drop ((Af xs).1.toNat))).1).toNat))).1),((Ge ((Af xs).2.take ((Af xs).1.toNat)) ((Af xs).2.take ((Af xs).1.toNat)) (((Af ((Af xs).2.drop ((Af xs).1.toNat))).2).take (((Af ((Af xs).2.drop ((Af xs).1.toNat))).1).toNat))).2.1),((Ge ((Af xs).2.take ((Af xs).1.toNat)) ((Af xs).2.take ((Af xs).1.toNat)) (((Af ((Af xs).2.drop ((Af xs).1.toNat))).2).take (((Af ((Af xs).2.drop ((Af xs).1.toNat))).1).toNat))).2.2.1),(Ge ((Af xs).2.take ((Af xs).1.toNat)) ((Af xs).2.take ((Af xs).1.toNat)) (((Af ((Af xs).2.drop ((Af xs).1.toNat))).2).take (((Af ((Af xs).2.drop ((Af xs).1.toNat))).1).toNat))).2.2.2,(((Af ((Af xs).2.drop ((Af xs).1.toNat))).2).take (((Af ((Af xs).2.drop ((Af xs).1.toNat))).1).toNat))))
def lJ (z_:Ad×Nat×Nat×Nat×Ad×Ad:=Aa xs):Con:=⟨[lb xs],[],.ag (Ag [lb (z_.1),vi ((z_.2.1:Nat):Int),vi ((z_.2.2.1:Nat):Int),vi ((z_.2.2.2.1:Nat):Int),lb (z_.2.2.2.2.1),lb (z_.2.2.2.2.2)]),[]⟩
theorem Kv (h:xs.length<=1000000000) (hk:B9 xs=true):AO 68 (lJ xs):=by
 refine cy 0 func68 rfl ntmps68 λY V=>Ak [] 1 V λV=>Ao ?_;have hz1:=Hl xs;have hnn:=AP xs;by_cases h1:JF xs=true
 ·have hz1:=Hl xs;have hnn:=AP xs;refine Aw [(2,AC (eU xs Au h1) [(0,0)] []),(3,AS (GO))] [] 1 V λV=>CV ?_;have hz2:=Hk ((Af xs).2.take ((Af xs).1.toNat)) ((Af xs).2.take ((Af xs).1.toNat)) (((Af ((Af xs).2.drop ((Af xs).1.toNat))).2).take (((Af ((Af xs).2.drop ((Af xs).1.toNat))).1).toNat));by_cases h2:IB ((Af xs).2.take ((Af xs).1.toNat)) ((Af xs).2.take ((Af xs).1.toNat)) (((Af ((Af xs).2.drop ((Af xs).1.toNat))).2).take (((Af ((Af xs).2.drop ((Af xs).1.toNat))).1).toNat))=true
  ·have hz2:=Hk ((Af xs).2.take ((Af xs).1.toNat)) ((Af xs).2.take ((Af xs).1.toNat)) (((Af ((Af xs).2.drop ((Af xs).1.toNat))).2).take (((Af ((Af xs).2.drop ((Af xs).1.toNat))).1).toNat));refine Aw [(3,AC (eS ((Af xs).2.take ((Af xs).1.toNat)) ((Af xs).2.take ((Af xs).1.toNat)) (((Af ((Af xs).2.drop ((Af xs).1.toNat))).2).take (((Af ((Af xs).2.drop ((Af xs).1.toNat))).1).toNat)) Au h2) [(0,0)] []),(4,AS (GO))] [] 1 V λV=>Ae (Ak [] 2 V λV=>He ?_);have hnn:=AP xs;have hn2:=AP ((Af xs).2.drop (Af xs).1.toNat);rw[au]at hn2;have w1:=An (n:=min (Af xs).1.toNat (Af xs).2.length) Ac;have w2:=An (n:=min (Af ((Af xs).2.drop (Af xs).1.toNat)).1.toNat (Af ((Af xs).2.drop (Af xs).1.toNat)).2.length) Ac;refine Aw [(3,AC (IP ((Af xs).2.take ((Af xs).1.toNat)) Au) [(0,1)] [(1,2)]),(6,AC (Db (([]++Ah ((Af xs).2.take ((Af xs).1.toNat)).length)++((Af xs).2.take ((Af xs).1.toNat))) (((Af ((Af xs).2.drop ((Af xs).1.toNat))).2).take (((Af ((Af xs).2.drop ((Af xs).1.toNat))).1).toNat)) Au Au) [(0,1),(1,2)] [(2,3)]),(7,AC (FS (((([]++Ah ((Af xs).2.take ((Af xs).1.toNat)).length)++((Af xs).2.take ((Af xs).1.toNat)))++Ah (((Af ((Af xs).2.drop ((Af xs).1.toNat))).2).take (((Af ((Af xs).2.drop ((Af xs).1.toNat))).1).toNat)).length)++(((Af ((Af xs).2.drop ((Af xs).1.toNat))).2).take (((Af ((Af xs).2.drop ((Af xs).1.toNat))).1).toNat))) Au) [(0,1),(1,3)] []),(9,AS (EW (((([]++Ah ((Af xs).2.take ((Af xs).1.toNat)).length)++((Af xs).2.take ((Af xs).1.toNat)))++Ah (((Af ((Af xs).2.drop ((Af xs).1.toNat))).2).take (((Af ((Af xs).2.drop ((Af xs).1.toNat))).1).toNat)).length)++(((Af ((Af xs).2.drop ((Af xs).1.toNat))).2).take (((Af ((Af xs).2.drop ((Af xs).1.toNat))).1).toNat))) xs))] [] 4 V λV=>Ae (Ik ((((([]++Ah ((Af xs).2.take ((Af xs).1.toNat)).length)++((Af xs).2.take ((Af xs).1.toNat)))++Ah (((Af ((Af xs).2.drop ((Af xs).1.toNat))).2).take (((Af ((Af xs).2.drop ((Af xs).1.toNat))).1).toNat)).length)++(((Af ((Af xs).2.drop ((Af xs).1.toNat))).2).take (((Af ((Af xs).2.drop ((Af xs).1.toNat))).1).toNat)))=xs) V (λh3=> ?_) (λh3=> ?_))
   ·have hK:B9 xs=false:=(Ab _).trans ((ab h1).trans ((ab h2).trans (aj h3)));rw[hK]at hk;cases hk
   ·exact BR (Ak [] 4 V λV=>AU (BX (Ab _) V))
  ·have hz2:=Hk ((Af xs).2.take ((Af xs).1.toNat)) ((Af xs).2.take ((Af xs).1.toNat)) (((Af ((Af xs).2.drop ((Af xs).1.toNat))).2).take (((Af ((Af xs).2.drop ((Af xs).1.toNat))).1).toNat));have hK:B9 xs=false:=(Ab _).trans ((ab h1).trans (aj h2));rw[hK]at hk;cases hk
 ·have hz1:=Hl xs;have hnn:=AP xs;have hK:B9 xs=false:=(Ab _).trans (aj h1);rw[hK]at hk;cases hk
def LG:Con:=⟨[lb xs],[],.v (.iface 44 (.int .i64 ((CG xs:Nat):Int))),[]⟩
theorem NW (h:xs.length<=1000000000) (hk:B9 xs=false):En Tryz.prog 68 (LG xs):=by
 refine CU rfl (nb:=0) func68 rfl rfl ntmps68 rfl rfl rfl λg0 w0 ac gs ws Y V=> ?_;have V:=V.sp;refine Ak [] 1 V λV=>Ao ?_;have hz1:=Hl xs;have hnn:=AP xs;by_cases h1:JF xs=true
 ·have hz1:=Hl xs;have hnn:=AP xs;refine Aw [(2,AC (eU xs Au h1) [(0,0)] []),(3,AS (GO))] [] 1 V λV=>CV ?_;have hz2:=Hk ((Af xs).2.take ((Af xs).1.toNat)) ((Af xs).2.take ((Af xs).1.toNat)) (((Af ((Af xs).2.drop ((Af xs).1.toNat))).2).take (((Af ((Af xs).2.drop ((Af xs).1.toNat))).1).toNat));by_cases h2:IB ((Af xs).2.take ((Af xs).1.toNat)) ((Af xs).2.take ((Af xs).1.toNat)) (((Af ((Af xs).2.drop ((Af xs).1.toNat))).2).take (((Af ((Af xs).2.drop ((Af xs).1.toNat))).1).toNat))=true
  ·have hz2:=Hk ((Af xs).2.take ((Af xs).1.toNat)) ((Af xs).2.take ((Af xs).1.toNat)) (((Af ((Af xs).2.drop ((Af xs).1.toNat))).2).take (((Af ((Af xs).2.drop ((Af xs).1.toNat))).1).toNat));refine Aw [(3,AC (eS ((Af xs).2.take ((Af xs).1.toNat)) ((Af xs).2.take ((Af xs).1.toNat)) (((Af ((Af xs).2.drop ((Af xs).1.toNat))).2).take (((Af ((Af xs).2.drop ((Af xs).1.toNat))).1).toNat)) Au h2) [(0,0)] []),(4,AS (GO))] [] 1 V λV=>Ae (Ak [] 2 V λV=>He ?_);have hnn:=AP xs;have hn2:=AP ((Af xs).2.drop (Af xs).1.toNat);rw[au]at hn2;have w1:=An (n:=min (Af xs).1.toNat (Af xs).2.length) Ac;have w2:=An (n:=min (Af ((Af xs).2.drop (Af xs).1.toNat)).1.toNat (Af ((Af xs).2.drop (Af xs).1.toNat)).2.length) Ac;refine Aw [(3,AC (IP ((Af xs).2.take ((Af xs).1.toNat)) Au) [(0,1)] [(1,2)]),(6,AC (Db (([]++Ah ((Af xs).2.take ((Af xs).1.toNat)).length)++((Af xs).2.take ((Af xs).1.toNat))) (((Af ((Af xs).2.drop ((Af xs).1.toNat))).2).take (((Af ((Af xs).2.drop ((Af xs).1.toNat))).1).toNat)) Au Au) [(0,1),(1,2)] [(2,3)]),(7,AC (FS (((([]++Ah ((Af xs).2.take ((Af xs).1.toNat)).length)++((Af xs).2.take ((Af xs).1.toNat)))++Ah (((Af ((Af xs).2.drop ((Af xs).1.toNat))).2).take (((Af ((Af xs).2.drop ((Af xs).1.toNat))).1).toNat)).length)++(((Af ((Af xs).2.drop ((Af xs).1.toNat))).2).take (((Af ((Af xs).2.drop ((Af xs).1.toNat))).1).toNat))) Au) [(0,1),(1,3)] []),(9,AS (EW (((([]++Ah ((Af xs).2.take ((Af xs).1.toNat)).length)++((Af xs).2.take ((Af xs).1.toNat)))++Ah (((Af ((Af xs).2.drop ((Af xs).1.toNat))).2).take (((Af ((Af xs).2.drop ((Af xs).1.toNat))).1).toNat)).length)++(((Af ((Af xs).2.drop ((Af xs).1.toNat))).2).take (((Af ((Af xs).2.drop ((Af xs).1.toNat))).1).toNat))) xs))] [] 4 V λV=>Ae (Ik ((((([]++Ah ((Af xs).2.take ((Af xs).1.toNat)).length)++((Af xs).2.take ((Af xs).1.toNat)))++Ah (((Af ((Af xs).2.drop ((Af xs).1.toNat))).2).take (((Af ((Af xs).2.drop ((Af xs).1.toNat))).1).toNat)).length)++(((Af ((Af xs).2.drop ((Af xs).1.toNat))).2).take (((Af ((Af xs).2.drop ((Af xs).1.toNat))).1).toNat)))=xs) V (λh3=> ?_) (λh3=> ?_))
   ·refine A7 (E:=E0) mo hZ [] aa none (λr hr=>by cases hr) 1 0 (λ_=>[]) (.v (.iface 44 (.int .i64 2))) (by kernel_rfl) aa V.st λac gs ws pv V hpv=>AA ?_;have hM:CG xs=2:=(Ab _).trans ((ab h1).trans (ab h2));exact CC rfl V hpv (by show _=(.v (.iface 44 (.int .i64 ((CG xs:Nat):Int))):D);rw[hM]<;>rfl) rfl
   ·refine BR (Ak [] 4 V λV=>AU ?_);have hK:B9 xs=true:=(Ab _).trans ((ab h1).trans ((ab h2).trans (ab h3)));rw[hK]at hk;cases hk
  ·have hz2:=Hk ((Af xs).2.take ((Af xs).1.toNat)) ((Af xs).2.take ((Af xs).1.toNat)) (((Af ((Af xs).2.drop ((Af xs).1.toNat))).2).take (((Af ((Af xs).2.drop ((Af xs).1.toNat))).1).toNat));refine A7 (E:=E0) mo hZ [(3,.call ⟨59,(Y1 ((Af xs).2.take ((Af xs).1.toNat)) ((Af xs).2.take ((Af xs).1.toNat)) (((Af ((Af xs).2.drop ((Af xs).1.toNat))).2).take (((Af ((Af xs).2.drop ((Af xs).1.toNat))).1).toNat))),[(0,0)],[]⟩)] ⟨eR _ _ _ Au (BH h2),aa⟩ (some ⟨71,(GI (DT ((Af xs).2.take ((Af xs).1.toNat)) ((Af xs).2.take ((Af xs).1.toNat)) (((Af ((Af xs).2.drop ((Af xs).1.toNat))).2).take (((Af ((Af xs).2.drop ((Af xs).1.toNat))).1).toNat)))),[],[]⟩) (λr hr=>by cases hr;exact JR (DT ((Af xs).2.take ((Af xs).1.toNat)) ((Af xs).2.take ((Af xs).1.toNat)) (((Af ((Af xs).2.drop ((Af xs).1.toNat))).2).take (((Af ((Af xs).2.drop ((Af xs).1.toNat))).1).toNat))) Ac) 4 0 (λC=>[bX C 3,nd [vi (((DT ((Af xs).2.take ((Af xs).1.toNat)) ((Af xs).2.take ((Af xs).1.toNat)) (((Af ((Af xs).2.drop ((Af xs).1.toNat))).2).take (((Af ((Af xs).2.drop ((Af xs).1.toNat))).1).toNat))):Nat):Int)] []]) (.v (.iface 44 (.int .i64 (((DT ((Af xs).2.take ((Af xs).1.toNat)) ((Af xs).2.take ((Af xs).1.toNat)) (((Af ((Af xs).2.drop ((Af xs).1.toNat))).2).take (((Af ((Af xs).2.drop ((Af xs).1.toNat))).1).toNat))):Nat):Int)))) (by kernel_rfl) ⟨rfl,rfl,aa⟩ V.st λac gs ws pv V hpv=>AA ?_;have hM:CG xs=(DT ((Af xs).2.take ((Af xs).1.toNat)) ((Af xs).2.take ((Af xs).1.toNat)) (((Af ((Af xs).2.drop ((Af xs).1.toNat))).2).take (((Af ((Af xs).2.drop ((Af xs).1.toNat))).1).toNat))):=(Ab _).trans ((ab h1).trans (aj h2));exact CC rfl V hpv (by show _=(.v (.iface 44 (.int .i64 ((CG xs:Nat):Int))):D);rw[hM]<;>rfl) rfl
 ·have hz1:=Hl xs;have hnn:=AP xs;refine A7 (E:=E0) mo hZ [(2,.call ⟨59,(Y2 xs),[(0,0)],[]⟩)] ⟨eT _ Au (BH h1),aa⟩ (some ⟨71,(GI (DU xs)),[],[]⟩) (λr hr=>by cases hr;exact JR (DU xs) Ac) 3 0 (λC=>[bX C 2,nd [vi (((DU xs):Nat):Int)] []]) (.v (.iface 44 (.int .i64 (((DU xs):Nat):Int)))) (by kernel_rfl) ⟨rfl,rfl,aa⟩ V.st λac gs ws pv V hpv=>AA ?_;have hM:CG xs=(DU xs):=(Ab _).trans (aj h1);exact CC rfl V hpv (by show _=(.v (.iface 44 (.int .i64 ((CG xs:Nat):Int))):D);rw[hM]<;>rfl) rfl
end
end
end Go.Sx.Tryz
namespace Go.Sx
open Go.Mi Go.RowKit
abbrev KR:=Int×Int×AZ
abbrev kz:KR:=rz Ct
def CY (l:List KR) (i:Int):Int:=if l.findIdx (λr=>r.1==i)<l.length then((l.findIdx λr=>r.1==i:Nat):Int)else -1
theorem fF {l:List KR} {i:Int} (h:∀j,j<l.length->¬(l.getD j kz).1=i):CY l i= -1:=by unfold CY;rw[aj];intro hlt;have :=List.findIdx_getElem (w:=hlt) (p:=λr:KR=>r.1==i);refine h _ hlt ?_;rw[al,am hlt];simpa using this
theorem fG {l:List KR} {i:Int} {k:Nat} (hk:k<l.length) (h:∀j,j<k->¬(l.getD j kz).1=i) (h2:(l.getD k kz).1=i):CY l i=(k:Nat):=by
 have e:l.findIdx (λr=>r.1==i)=k:=by
  rw[List.findIdx_eq hk];constructor
  ·rw[al,am hk]at h2;simpa using h2
  ·intro j hj;have :=h j hj;rw[al,am (by omega)]at this;simpa using this
 unfold CY;rw[e,ab hk]
theorem PP {l:List KR} {i:Int} (h:¬CY l i<0):0<=CY l i/\CY l i<(l.length:Nat):=by
 unfold CY at h⊢;split
 ·omega
 ·rename_i h1;rw[aj h1]at h;exact absurd (by decide) h
theorem No {l:List KR} (i:Int): -1<=CY l i/\CY l i<(l.length:Nat):=by unfold CY;split<;>omega
def KOk (l:List KR):Prop:=l.length<=1000/\∀j,j<l.length->(0<=(l.getD j kz).1/\(l.getD j kz).1<=1000000000000)/\(0<=(l.getD j kz).2.1/\(l.getD j kz).2.1<=1000000000000)/\(l.getD j kz).2.2.length<=100000/\∀k∈(l.getD j kz).2.2,k.length=32
end Go.Sx
namespace Go.Sx.Tryz
open Go.Mi Go.RowKit Go.Sx Go.Proofs Go.Proofs.Tryz
noncomputable section
open List (replicate)
section
variable (x0:Ad) (x1 x2:Bool) (x3:Nat) (x4 x5:Nat) (x6:AZ) (x7 x8:Nat)
def D6 (x9:List (Int×Int×AZ)):O:= .ob 80 (Ag [lb x0,.v (.bool x1),.v (.bool x2),.cp x3 0,.cp x4 0,.v (.pointer none),vi ((x5:Nat):Int),.ls false A0 x6,vi ((x7:Nat):Int),vi ((x8:Nat):Int),.ls false Ct x9])
def NK (x9:Nat):O:= .ob 80 (Ag [lb x0,.v (.bool x1),.v (.bool x2),.cp x3 0,.cp x4 0,.v (.pointer none),vi ((x5:Nat):Int),.ls false A0 x6,vi ((x7:Nat):Int),vi ((x8:Nat):Int),.sk x9])
end
def M1 (x0:Nat):O:= .ob 3 (Ag [vi ((x0:Nat):Int)])
theorem Cu:AO 36 ⟨[.im (Ag [.top,.top,.top,.im (Ag []) 0,.top,.top,.top,.top,.top,.top,.top]) 0],[],.v (.bool false),[]⟩:=by exact cy 0 func36 rfl ntmps36 λY V=>Ak [] 0 V λV=>Ak [] 0 V λV=>AU (BN V)
theorem EB (lT:Nat) (mx:AZ) (hm1:1<=mx.length/\mx.length<=100000) (hlow:lT<=100000000000):AO 18 ⟨[.im (Ag [.top,.top,.top,.im (Ag []) 0,.top,.top,vi (lT:Int),.ls false A0 mx,.top,.top,.top]) 0],[],vi ((lT+mx.length-1:Nat):Int),[]⟩:=by exact cy 0 func18 rfl ntmps18 λY V=>Ak [] 0 V λV=>Ao (Ay [(1,Kf (Cu) [] [.im (Ag [.top,.top,.top,.im (Ag []) 0,.top,.top,.top,.top,.top,.top,.top]) 0])] [] 0 V λV=>Ai V (BR (Ay [(9,FA lT mx.length (lT+mx.length)),(10,Ie (lT+mx.length) 1 ((lT+mx.length)-1))] [] 0 V λV=>AU (BN V))))
def A5 (fi:Bool) (lT len tD:Nat):Nat:=if fi=true then lT+len-1 else min (lT+len-1) tD
theorem HJ (fi:Bool) (lT:Nat) (mx:AZ) (tD:Nat) (hm1:1<=mx.length/\mx.length<=100000) (hlow:lT<=100000000000):AO 46 ⟨[.im (Ag [.top,.v (.bool fi),.top,.im (Ag []) 0,.top,.top,vi (lT:Int),.ls false A0 mx,.top,vi (tD:Int),.top]) 0],[],vi ((A5 fi lT mx.length tD:Nat):Int),[]⟩:=by
 refine cy 0 func46 rfl ntmps46 λY V=>Ak [] 0 V λV=>Ao (Ak [] 0 V λV=>Qe fi V (λh1=> ?_) (λh1=> ?_))
 ·exact Ay [(1,Kf (EB lT mx HL Ac) [] [.im (Ag [.top,.top,.top,.im (Ag []) 0,.top,.top,vi (lT:Int),.ls false A0 mx,.top,.top,.top]) 0])] [] 0 V λV=>AU (Aj (Ej rfl (.inr rfl) V [vi ((lT+mx.length-1:Nat):Int)] [] (by show weak _ (vi ((A5 fi lT mx.length tD:Nat):Int))=vi ((A5 fi lT mx.length tD:Nat):Int);unfold A5;first |(rw[ab A3];rfl)|(rw[aj (Ka A3)];rfl)) aa))
 ·exact BR (Ay [(1,Kf (EB lT mx HL Ac) [] [.im (Ag [.top,.top,.top,.im (Ag []) 0,.top,.top,vi (lT:Int),.ls false A0 mx,.top,.top,.top]) 0]),(6,Rmn (lT+mx.length-1) tD)] [] 0 V λV=>AU (Ej rfl (.inr rfl) V [vi ((min (lT+mx.length-1) tD:Nat):Int)] [] (by show weak _ (vi ((A5 fi lT mx.length tD:Nat):Int))=vi ((A5 fi lT mx.length tD:Nat):Int);unfold A5;first |(rw[ab A3];rfl)|(rw[aj (Ka A3)];rfl)) aa))
section
variable (id:Ad) (fi:Bool) (ok:Ad) (oi:Nat) (ik:Ad) (ii lT:Nat) (mx:AZ) (lD tD:Nat) (kl:List KR) (k:Ad) (n:Nat)
theorem nQ (hm1:1<=mx.length/\mx.length<=100000) (hm2:∀j,(mx.getD j AW).length<=32) (hlow:lT<=100000000000) (hk:k.length=32) (hn:lT<=n/\n<lT+mx.length):AO 51 (Cq [.cp 0 0,lb k,vi (n:Int)] [(0,D6 id fi false 1 2 lT mx lD tD kl),(1,Al ok oi),(2,Al ik ii)] (lb (AT k (mx.getD (n-lT) AW) [109,101,115,115,97,103,101]))):=by refine cy 3 func51 rfl ntmps51 λY V=>Ak [] 3 V λV=>Ao ?_;have hmk:=hm2 (n-lT);exact Aw [(10,Ie n lT (n-lT)),(11,AN (n-lT) mx.length),(13,QQ),(14,OZ (0<[109,101,115,115,97,103,101].length) (by decide)),(15,AS (FP k (mx.getD (n-lT) AW) [109,101,115,115,97,103,101] Au Au Au))] [] 4 V λV=>Fa (BN V)
theorem Pq (hm1:1<=mx.length/\mx.length<=100000) (hm2:∀j,(mx.getD j AW).length<=32) (hlow:lT<=100000000000) (hk:k.length=32) (hn:lT<=n/\n<lT+mx.length):AO 51 (Cq [.cp 0 0,lb k,vi (n:Int)] [(0,NK id fi false 1 2 lT mx lD tD 3),(1,Al ok oi),(2,Al ik ii),(3,.sl 86 Ct kl)] (lb (AT k (mx.getD (n-lT) AW) [109,101,115,115,97,103,101]))):=by refine cy 4 func51 rfl ntmps51 λY V=>Ak [] 4 V λV=>Ao ?_;have hmk:=hm2 (n-lT);exact Aw [(10,Ie n lT (n-lT)),(11,AN (n-lT) mx.length),(13,QQ),(14,OZ (0<[109,101,115,115,97,103,101].length) (by decide)),(15,AS (FP k (mx.getD (n-lT) AW) [109,101,115,115,97,103,101] Au Au Au))] [] 5 V λV=>Fa (BN V)
end
theorem ZP (a b:Int) (c:AZ) (i:Nat):AO 131 (Cq [.ag (Ag [vi a,vi b,.ls false A0 c]),.cp 0 0] [(0,M1 i)] (.v (.bool (decide (a=(i:Int)))))):=by exact cy 1 func131 rfl ntmps131 λY V=>Ak [] 2 V λV=>Ak [] 2 V λV=>AU (BN V)
theorem Tm (kl:List KR) (i:Nat):AO 130 (Cq [.sk 0,.fn 131 (Ag []) (Ag [.cp 1 0])] [(0,.sl 86 Ct kl),(1,M1 i)] (vi (CY kl (i:Int)))):=by
 refine cy 2 func130 rfl ntmps130 λY V=> ?_;have Ab5:kl.length<=9223372036854775807:=V.lens 0 rfl;refine Ak [] 2 V λV=>Ao (Ak [] 2 V λV=>BK (AD (ι:=Nat) Y V (λx=>(kl.length-x,[(8,vi ((x:Nat):Int))],[],(x<=kl.length)/\(∀j,j<x->¬(kl.getD j kz).1=(i:Int))/\True)) [0,1,7] [0,1] 2 0 [(0,0),(1,1)] ⟨Ac,(λj h=>absurd h (bd j)),aa⟩ ?_));rintro x ac gs ws ⟨hx,pm,_⟩ V;refine Ak [] 2 V λV=>Ao (AH ((x:Int)<((kl.length:Nat):Int)) V (λh1=> ?_) (λh1=> ?_))
 ·refine B6 (Ak [] 2 V λV=>Ay [(3,AN x kl.length),(5,AC (ZP (kl.getD x Bg).1 (kl.getD x Bg).2.1 (kl.getD x Bg).2.2 i) [(0,1)] [])] [] 2 V λV=>AH ((kl.getD x Bg).1=(i:Int)) V (λh2=> ?_) (λh2=> ?_))
  ·exact Ak [] 2 V λV=>AU (As (Aj (Aj (As (Aj (Ej rfl (.inr rfl) V [vi (x:Int)] [(0,some (.sl 86 Ct kl)),(1,some (M1 i))] (by show weak _ (vi (CY kl (i:Int)))=vi (CY kl (i:Int));rw[fG Ac pm A3];rfl) ⟨rfl,rfl,aa⟩))))))
  ·exact GT (Aw [(0,CF x)] [8] 2 V λV=>Ae (Av Y V (x+1) [(0,0),(1,1)] ⟨Ac,(Bf pm A3),aa⟩))
 ·have hT:=V;obtain rfl:kl.length=x:=by omega
  have V:=hT;exact DF (Ak [] 2 V λV=>AU (Ej rfl (.inr rfl) V [vi (-1)] [(0,some (.sl 86 Ct kl)),(1,some (M1 i))] (by show weak _ (vi (CY kl (i:Int)))=vi (CY kl (i:Int));rw[fF pm];rfl) ⟨rfl,rfl,aa⟩))
end
end Go.Sx.Tryz
namespace Go.Sx.Tryz
open Go.Mi Go.RowKit Go.Sx Go.Proofs Go.Lib Go.Shelf
noncomputable def NF (kl:List KR) (i j:Nat):Con:=⟨[.sk 0,.v (.int .i64 ((i:Nat):Int)),.v (.int .i64 ((j:Nat):Int))],[(0,.sl 86 Ct kl)],.sk 1,[(1,.sl 86 Ct (kl.take i++kl.drop j))]⟩
set_option maxHeartbeats 4000000 in
set_option maxRecDepth 1000000 in
theorem g6 (b cap n i j : Nat) (w : World) (cs : List Value) (hl : cs.length = n * 3) (h1 : ∀ u ∈ cs, u.oneCell' = true) (hc : ∀ t u, cs[t]? = some u -> w.cell? ⟨b, t, none⟩ = some u) (hz : ∀ t, t < n * 3 -> w.frozen? ⟨b, t, none⟩ = false) (hij : i < j) (hj : j <= n) (hcap : n <= cap) (hm : cap <= 9223372036854775807) :
  Calls Tryz.prog 106 #[.slice (some ⟨b,0,none⟩) n cap,.int .i64 i,.int .i64 j] w λe w'=>e= .returned (.slice (some ⟨b,0,none⟩) (n-(j-i)) cap)/\w'=(w.drew.setCells b (0+i*3) (cs.drop (j*3))).setCells b ((i+(n-j))*3) (Builtin.zeroCells #[.int .i64 0,.int .i64 0,.slice none 0 0] (n-(i+(n-j)))).toList:=by
 have hi:(Tryz.prog.info? 86).map (·.size)=some 3:=by kernel_rfl
 obtain⟨i0,hi0,hz1⟩:=ak.1 hi;have t78:Tryz.prog.underlying 78=some (.slice 86):=by kernel_rfl
 obtain⟨news,hnews⟩:∃news,news=cs.drop (j*3):=⟨_,rfl⟩;have hlen:news.length=(n-j)*3:=by rw[hnews,au,hl];omega
 obtain⟨A,hA,hsrc⟩:∃A:Addr,(if cap=j then some (⟨b,0,none⟩:Addr)else some ⟨b,j*3,none⟩)=some A/\Hid (∀t u,news[t]? =some u->w.drew.cell? (A.add t)=some u):=by
  by_cases h:cap=j
  ·refine⟨⟨b,0,none⟩,by simp [h],λt u hu=> ?_⟩;have h0:news.length=0:=by rw[hlen];omega
   rw[List.length_eq_zero_iff.1 h0]at hu;simp at hu
  ·refine⟨⟨b,j*3,none⟩,by simp [h],λt u hu=> ?_⟩;rw[hnews,dh]at hu;rw[Addr.add_lit];exact hc _ _ hu
 have s1:Hid (news.length=(n-j)*3):=hlen;have s2:Hid (∀u∈news,u.oneCell'=true):=by intro u hu;rw[hnews]at hu;exact h1 u (cw hu)
 have s3:Hid (∀t,t<news.length->(w.drew.cell? ⟨b,0+i*3+t,none⟩).isSome=true/\w.drew.frozen? ⟨b,0+i*3+t,none⟩=false):=by
  intro t ht;rw[hlen]at ht;have hlt:0+i*3+t<cs.length:=by rw[hl];omega
  exact⟨by show(w.cell? _).isSome=true;rw[hc _ _ (am hlt)];rfl,hz _ (by omega)⟩
 obtain⟨W1,hW1⟩:∃W1,W1=w.drew.setCells b (0+i*3) news:=⟨_,rfl⟩;have hW:Hid (W1=w.drew.setCells b (0+i*3) news):=hW1;have mixed:=mo;have hic:i<=cap:=by omega
 have hjc:j<=cap:=by omega
 obtain⟨zs,hzs⟩:∃zs:List Value,zs=(Builtin.zeroCells #[.int .i64 0,.int .i64 0,.slice none 0 0] (n-(i+(n-j)))).toList:=⟨_,rfl⟩;have hcl:∀ty,(Builtin.clear_ #[78] ty #[.slice (some ⟨b,(i+(n-j))*3,none⟩) (n-(i+(n-j))) (cap-(i+(n-j)))]).run Tryz.prog W1= .ok (.tuple #[]) (W1.setCells b ((i+(n-j))*3) zs):=λty=>by
  have hzv:∀w,(zeroValue 86).run Tryz.prog w= .ok (.agg #[.int .i64 0,.int .i64 0,.slice none 0 0]) w:=λw=>rfl;have hlz:zs.length=(n-(i+(n-j)))*3:=by rw[hzs];simp [Builtin.zeroCells]
  have hz1:∀u∈zs,u.oneCell'=true:=by
   intro u hu;rw[hzs]at hu;simp only[Builtin.zeroCells,iq,cr]at hu;obtain⟨t,_,rfl⟩:=hu;have :∀r,r<3->(#[Value.int .i64 0,.int .i64 0,.slice none 0 0][r]!).oneCell'=true:=by
    intro r hr
    match r,hr with
    |0,_=>rfl
    |1,_=>rfl
    |2,_=>rfl
   exact this _ (di _ (by decide))
  have hst := run_storeCells_cells (P := Tryz.prog) b ((i + (n - j)) * 3) zs 0 W1 (λt ht => by
    rw[hW1];refine World.isSome_setCells b _ _ _ _ ?_;have hlt:(i+(n-j))*3+0+t<cs.length:=by rw[hl];omega
    show(w.cell? _).isSome=true;rw[hc _ _ (am hlt)];rfl) (λt ht=>by
    rw[hW1,World.frozen?_setCells];exact hz _ (by omega)) hz1
  obtain⟨m,hm'⟩:∃m,n-(i+(n-j))=m+1:=⟨n-(i+(n-j))-1,by omega⟩;rw[hm']at hzs⊢;simp only[ey]at hst;simp only[Builtin.clear_,Sem.run_bind,run_underlying t78,hzv,Result.andThen_ok,<-hzs,hst];simp [hst,hzv,run_underlying t78,Value.cells,<-hzs]
 have X:Aside (W1.setCells b ((i+(n-j))*3) zs=(w.drew.setCells b (0+i*3) (cs.drop (j*3))).setCells b ((i+(n-j))*3) (Builtin.zeroCells #[.int .i64 0,.int .i64 0,.slice none 0 0] (n-(i+(n-j)))).toList):=by subst hzs;subst hW1;subst hnews;rfl
 clear hW1 hnews hlen hi h1 hc hz hzs
 go_enter Tryz.func106,Tryz.ntmps106
 go_wp2_with fail
 go_region_law_o (refine step_append_room rfl (.tmp 22) (.tmp 25) 78 rfl 86 i0 3 t78 hi0 hz1 b 0 i cap (by simp [Act.eval,Act.put]) A (n-j) (cap-j) news (by simp [Act.eval,Act.put]) s1.out hsrc.out s2.out (by omega) s3.out ?_;rw[<-hW.out])
 go_wp2
 go_ret
 exact⟨by rw[show n-(j-i)=i+(n-j) by omega];rfl,X.out⟩
theorem IS {b ty : Nat} {fz : Nat × Nat} : ∀ (vs : List Value) (o : Nat) (w : World) (cur : Array Value), w.heap[b]? = some (.cells cur ty fz) -> o + vs.length <= cur.size ->
  ∃c',(w.setCells b o vs).heap[b]? =some (.cells c' ty fz)/\c'.toList=cur.toList.take o++vs++cur.toList.drop (o+vs.length)
 |[],o,w,cur,h,_=>⟨cur,h,by simp⟩
 |v::vs,o,w,cur,h,hl=>by
  have h1:(w.setCell ⟨b,o,none⟩ v).heap[b]? =some (.cells (cur.setIfInBounds o v) ty fz):=by simp [World.setCell,gz,h]
  obtain⟨c',k1,k2⟩:=IS vs (o+1) _ _ h1 (by simp at hl⊢;omega);refine⟨c',k1,k2.trans ?_⟩;simp only[aw]at hl;have hlt:o<cur.toList.length:=by simp;omega
  rw[Array.toList_setIfInBounds,da (by simpa using hlt),List.getElem_set_self,List.take_set_of_le (an _),List.drop_set_of_lt (by omega)];simp [Nat.add_comm,Nat.add_left_comm]
theorem VH {α:Type} {m:Nat}:∀{ls:List (List α)} (k:Nat),(∀l∈ls,l.length=m)->(ls.drop k).flatten=ls.flatten.drop (k*m)
 |[],k,_=>by simp
 |l::ls,0,_=>by simp
 |l::ls,k+1,h=>by
  have h1:=h l (by simp);have h2:=VH (ls:=ls) k λx hx=>h x (by simp [hx]);have h3:(k+1)*m=m+k*m:=by rw[fb];omega
  rw[iu,h2,bc,fw,h3,h1,show List.drop (m+k*m) l=[]from dm (by omega),dx,Nat.add_sub_cancel_left]
theorem NQ {b:Nat} (vs:List Value) (o:Nat) (w:World):Chp (· =b) w (w.setCells b o vs):=by
 induction vs generalizing o w with
 |nil=>exact Chp.refl _ _
 |cons v vs ih=>
  have h1:Chp (· =b) w (w.setCell ⟨b,o,none⟩ v):=⟨rfl,rfl,rfl,by simp [World.setCell],λx _ hx=>by
   simp only[World.setCell,gz];rw[aj (λe=>hx e.symm)]⟩
  exact h1.trans (ih (o+1) _)
theorem Yy (kl:List KR) (i j:Nat) (hi:i<j/\j<=kl.length):ConOk Tryz.prog 106 (NF kl i j):=by
 refine⟨⟨⟨_,Tryz.func106,rfl,rfl⟩⟩,λvs g w V hN hs=> ?_⟩;obtain⟨l1,l2,rfl,⟨v0,hv0,rfl,_⟩,l3,l4,rfl,hq1,l5,l6,rfl,hq2,hq3⟩:=hs;have hq1:l3=[.int .i64 i]:=hq1;have hq2:l5=[.int .i64 j]:=hq2;have hq3:l6=[]:=hq3;subst hq1;subst hq2;subst hq3;obtain⟨v,ls,k1,k2,k3,k4,k5,k6⟩:=V.os 0 _ rfl;rw[k1]at hv0;cases hv0;rcases k3.2 with⟨rfl,h0⟩|⟨b,cap,cur,rfl,_,hb,hc1,hc2,hcs,hct⟩
 ·have h0:kl.length=0:=h0;omega
 have hc1:kl.length<=cap:=hc1;have hrow:=k5.row;have hlen:ls.length=kl.length:=k5.len.symm;have hl0:ls.flatten.length=kl.length*3:=k3.1;have hcs:cur.size=cap*3:=hcs;have hct:cur.toList.take (kl.length*3)=ls.flatten:=hct;have hR:=g6 b cap kl.length i j w ls.flatten hl0 k6 (λt u hu=>by
  rw[cell_of_row w b t cur _ _ hb,<-gh];rw[<-hct,dc]at hu;split at hu
  ·exact hu
  ·cases hu) (λt ht=>by simp [World.frozen?,hb]) hi.1 hi.2 hc1 hc2
 refine Calls.mono hR ?_;rintro e w' ⟨rfl,rfl⟩;obtain⟨zs,hzs⟩:∃zs:List Value,zs=(Builtin.zeroCells #[.int .i64 0,.int .i64 0,.slice none 0 0] (kl.length-(i+(kl.length-j)))).toList:=⟨_,rfl⟩;have hlz:zs.length=(kl.length-(i+(kl.length-j)))*3:=by rw[hzs];simp [Builtin.zeroCells]
 rw[<-hzs];have hdl:(ls.flatten.drop (j*3)).length=(kl.length-j)*3:=by rw[au,hl0];omega
 obtain⟨c1,a1,a2⟩:=IS (b:=b) (ls.flatten.drop (j*3)) (0+i*3) w.drew cur hb (by rw[hdl,hcs];have :=hi.1;have :=hi.2;omega);have hc1s:c1.size=cap*3:=by rw[<-co,a2];simp only[ah,ao,au,co,hcs,hl0];have :=hi.1;have :=hi.2;omega
 obtain⟨c2,b1,b2⟩:=IS (b:=b) zs ((i+(kl.length-j))*3) _ c1 a1 (by rw[hlz,hc1s];have :=hi.1;have :=hi.2;omega);have hc2s:c2.size=cap*3:=by rw[<-co,b2];simp only[ah,ao,au,co,hc1s,hlz];have :=hi.1;have :=hi.2;omega
 have hch:=(NQ (b:=b) (ls.flatten.drop (j*3)) (0+i*3) w.drew).trans (NQ zs ((i+(kl.length-j))*3) _);have hch0:Chp (· =b) w w.drew:=⟨rfl,rfl,rfl,an _,λ_ _ _=>rfl⟩;have hch:=hch0.trans hch;generalize(w.drew.setCells b (0+i*3) (ls.flatten.drop (j*3))).setCells b ((i+(kl.length-j))*3) zs=w' at b1 hch⊢;have hbX:g.X b:=V.own 0 _ rfl b (by rw[k2];simp [C8])
 let g':G:=⟨λk=>if k=1 then some (.slice (some ⟨b,0,none⟩) (kl.length-(j-i)) cap)else g.N k,λk=>if k=1 then[b]else g.F k,g.X⟩
 have hn1:∀k v,g.N k=some v->k≠1:=λk v h e=>by have :=hN k v h;subst e;simp [NF,Ax]at this
 have hgo:Go (λx=>x=b) g w g' w':=⟨hch,λx hx=>by rw[hx];exact hbX,λx hx=> .inl hx,λx hx _=>hx,λk v h=>by
  show(if k=1 then _ else _)=_;rw[aj (hn1 k v h)];exact h,λk v h=>by
  show(if k=1 then _ else _)=_;rw[aj (hn1 k v h)]⟩
 have hfo:∀x,(NF kl i j).foot g x↔x=b:=λx=>by
  constructor
  ·rintro⟨k,o,h1,h2⟩;have :k=0:=by
    simp only[NF,Ev]at h1;by_cases e:0=k
    ·exact e.symm
    ·rw[BL e]at h1;cases h1
   subst this;rw[k2]at h2;simpa[C8]using h2
  ·rintro rfl;exact⟨0,_,rfl,by rw[k2];simp [C8]⟩
 have hwf:Wf g' w':=λx hx=>ca (V.wf x hx) hch.size;have hcut:c2.toList.take ((kl.length-(j-i))*3)=(ls.take i++ls.drop j).flatten:=by
  have e1:cur.toList.take (i*3)=ls.flatten.take (i*3):=by rw[<-hct,List.take_take,ei (by have :=hi.1;have :=hi.2;omega)]
  have h3:=hi.1;have h4:=hi.2;have hl1:(cur.toList.take (0+i*3)++ls.flatten.drop (j*3)).length=(i+(kl.length-j))*3:=by rw[ah,hdl,ao,co,hcs];omega
  have e2:c1.toList.take ((i+(kl.length-j))*3)=cur.toList.take (0+i*3)++ls.flatten.drop (j*3):=by rw[a2,ck (by omega),bp (by omega)]
  rw[b2,e2,bw,ck (by omega),bp (by omega),de,Pj i hrow,VH j hrow,bu,e1];rfl
 have hcon:(kl.take i++kl.drop j).length=kl.length-(j-i):=by simp;omega
 have hos:OS g' w' 1 (.sl 86 Ct (kl.take i++kl.drop j)):=by
  have key:∀xs:List (RT Ct),xs.length=kl.length-(j-i)->Fa2 (rS g'.X g'.N w' _) xs (ls.take i++ls.drop j)->OS g' w' 1 (.sl 86 _ xs):=by
   intro xs hx hF;refine⟨.slice (some ⟨b,0,none⟩) (kl.length-(j-i)) cap,ls.take i++ls.drop j,rfl,rfl,⟨?_,.inr ⟨b,cap,c2,by rw[hx],br _,b1,by rw[hx];omega,hc2,hc2s,by rw[hx];exact hcut⟩⟩,by rw[hx];omega,hF,?_⟩
   ·rw[hx,Dj (m:=3)]
    ·simp only[ah,ao,au,hlen];have :=hi.1;have :=hi.2;show _=_*3;omega
    ·intro l hl;rcases bn.1 hl with h|h
     ·exact hrow l (cv h)
     ·exact hrow l (cw h)
   ·intro u hu;rw[de]at hu;rcases bn.1 hu with h|h
    ·obtain⟨l,h1,h2⟩:=ir.1 h;exact k6 u (ir.2 ⟨l,cv h1,h2⟩)
    ·obtain⟨l,h1,h2⟩:=ir.1 h;exact k6 u (ir.2 ⟨l,cw h1,h2⟩)
  exact key _ hcon (((k5.take i).append (k5.drop j)).mono (FY hgo.goes _))
 have hone:∀k o,Ev (NF kl i j).H1 k=some o->k=1/\o= .sl 86 Ct (kl.take i++kl.drop j):=λk o h=>by
  simp only[NF,Ev]at h;by_cases e:1=k
  ·subst e;cases h;exact⟨rfl,rfl⟩
  ·rw[BL e]at h;cases h
 refine⟨_,rfl,g',hgo.mono (λx hx=>(hfo x).2 hx) (λx hx=>by rw[(hfo x).1 hx];exact hbX),⟨_,rfl,rfl,rfl⟩,⟨hwf,?_,?_,?_⟩,?_⟩
 ·intro k o h;obtain⟨rfl,rfl⟩:=hone k o h;exact hos
 ·intro k o h x hx;obtain⟨rfl,rfl⟩:=hone k o h;have :x∈[b]:=hx;rw[bo.1 this];exact hbX
 ·intro k o k' o' h h' hne;exact absurd ((hone k o h).1.trans (hone k' o' h').1.symm) hne
 ·intro k o h x hx;obtain⟨rfl,rfl⟩:=hone k o h;have :x∈[b]:=hx;exact .inl ((hfo x).2 (bo.1 this))
end Go.Sx.Tryz
namespace Go.Sx.Tryz
open Go.Mi Go.RowKit Go.Sx Go.Proofs Go.Proofs.Tryz
noncomputable section
open List (replicate)
theorem Mo (id:Ad) (fi:Bool) (ok:Ad) (oi:Nat) (ik:Ad) (ii lT:Nat) (mx:AZ) (lD tD:Nat) (kl:List KR) (i:Nat):AO 94 (Cq [.cp 0 0,vi (i:Int)] [(0,NK id fi false 1 2 lT mx lD tD 3),(1,Al ok oi),(2,Al ik ii),(3,.sl 86 Ct kl)] (vi (CY kl (i:Int)))):=by exact cy 4 func94 rfl ntmps94 λY V=>Ak [] 5 V λV=>Ay [(5,AC (Tm kl i) [(0,3),(1,4)] [])] [] 5 V λV=>AU (BN V)
theorem Hq (kl:List KR) (hkl:kl.length<=100000):AO 64 ⟨[.ls false Ct kl],[],.sk 0,[(0,.sl 86 Ct kl)]⟩:=by
 refine cy 0 func64 rfl ntmps64 λY V=>Ak [] 0 V λV=>He ?_;rcases V.nilor 0 Ct kl with⟨hn1,V⟩|V
 ·subst hn1;refine CW [] 0 V λV=>Ae (AE V (Ak [] 0 V λV=>AU (Aj ?_)));obtain⟨gs,V⟩:=V.nilk 2 86 Ct;exact BN V
 ·refine CW [] 0 V λV=>Ae (Ai V (BR (Ay [(0,QQ),(2,GJ 0 kl.length 40)] [] 2 V λV=>AU ?_)));obtain⟨gs,V⟩:=V.rx [(0,1)] [2] [0] 1 Y;exact BN V
theorem bL (l:AZ) (hl:l.length<=100000):AO 63 ⟨[.ls false A0 l],[],.ls false A0 l,[]⟩:=by
 refine cy 0 func63 rfl ntmps63 λY V=>Ak [] 0 V λV=>He ?_;rcases V.nilor 0 A0 l with⟨hn1,V⟩|V
 ·subst hn1;exact CW [] 0 V λV=>Ae (AE V (Ak [] 0 V λV=>AU (Aj (BN V))))
 ·refine CW [] 0 V λV=>Ae (Ai V (BR (Ay [(0,QQ),(2,GJ 0 l.length 24)] [] 2 V λV=>AU ?_)));obtain⟨gs,V⟩:=V.fz 1;exact BN V
def Xc (i to:Nat):Bool:=decide (i<=to/\to<=i+40)
theorem tY {i to:Nat} (h:Xc i to=true):i<=to/\to<=i+40:=cj h
theorem kN {i to:Nat} (h:Xc i to=false) (key:Ad):0<Di key i to:=by
 have h:=of_decide_eq_false h;by_cases h1:to<i
 ·rw[kM h1];decide
 ·rw[Xb Ac];decide
section
variable (key:Ad) (i to:Nat)
theorem ML (hk:key.length=32) (hi:i<=900000000000) (hs:Xc i to=true):AO 105 (lX key i to):=q7 key i to hk hi (tY hs)
theorem MK (hk:key.length=32) (hi:i<=900000000000) (hs:Xc i to=false):AO 105 (Zd key i to):=kO key i to hk hi (by have :=kN hs key;omega)
end
section
variable (id:Ad) (fi:Bool) (ok:Ad) (oi:Nat) (ik:Ad) (ii lT:Nat) (mx:AZ) (lD tD:Nat) (kl:List KR) (hb:Ad) (hi hn hh:Nat) (hp hx:Ad)
def B4 (id:Ad) (fi:Bool) (ok:Ad) (oi:Nat) (ik:Ad) (ii lT:Nat) (mx:AZ) (lD tD:Nat) (kl:List KR) (hb:Ad) (hi hn hh:Nat) (hp hx:Ad):Bool:=AR (if(hi:Int)<(ii:Int)then(if(CY kl (hi:Int))<0 then false else(if(hn:Int)<(((kl.getD (Int.toNat (CY kl (hi:Int))) Bg).2).1)then false else(if(((((kl.getD (Int.toNat (CY kl (hi:Int))) Bg).2).2).length:Nat):Int)<=((hn:Int)-(((kl.getD (Int.toNat (CY kl (hi:Int))) Bg).2).1))then false else true)))else(if Xc ii hi=true then(if(hn:Int)<(lD:Int)then false else(if((lT+mx.length-1:Nat):Int)<(hn:Int)then false else true))else false))
def Bj (id:Ad) (fi:Bool) (ok:Ad) (oi:Nat) (ik:Ad) (ii lT:Nat) (mx:AZ) (lD tD:Nat) (kl:List KR) (hb:Ad) (hi hn hh:Nat) (hp hx:Ad):Nat:=AR (if(hi:Int)<(ii:Int)then(if(CY kl (hi:Int))<0 then 5 else(if(hn:Int)<(((kl.getD (Int.toNat (CY kl (hi:Int))) Bg).2).1)then 2 else 2))else(if Xc ii hi=true then(if(hn:Int)<(lD:Int)then 2 else 2)else(Di ik ii hi)))
def BU (id:Ad) (fi:Bool) (ok:Ad) (oi:Nat) (ik:Ad) (ii lT:Nat) (mx:AZ) (lD tD:Nat) (kl:List KR) (hb:Ad) (hi hn hh:Nat) (hp hx:Ad):Ad:=AR (if(hi:Int)<(ii:Int)then(((kl.getD (Int.toNat (CY kl (hi:Int))) Bg).2).2).getD (Int.toNat ((hn:Int)-(((kl.getD (Int.toNat (CY kl (hi:Int))) Bg).2).1))) AW else(AT (KQ (Bm ik (hi-ii))) (mx.getD (hn-lT) AW) [109,101,115,115,97,103,101]))
def bB (z_:Ad:=BU id fi ok oi ik ii lT mx lD tD kl hb hi hn hh hp hx):Con:=Cq [.cp 0 0,.ag (Ag [lb hb,vi (hi:Int),vi (hn:Int),vi (hh:Int),lb hp,lb hx])] [(0,NK id fi false 1 2 lT mx lD tD 3),(1,Al ok oi),(2,Al ik ii),(3,.sl 86 Ct kl)] (lb z_)
theorem PV (hok:ok.length=32) (hik:ik.length=32) (hoi:oi<=100000000000) (hii:ii<=100000000000) (hm1:1<=mx.length/\mx.length<=100000) (hm2:∀j,(mx.getD j AW).length<=32) (hlow:lT<=100000000000) (hK:KOk kl) (hll:lT<=lD/\lD<=100000000000) (hhn:hn<=10000000000/\hi<=10000000000) (hk:B4 id fi ok oi ik ii lT mx lD tD kl hb hi hn hh hp hx=true):AO 70 (bB id fi ok oi ik ii lT mx lD tD kl hb hi hn hh hp hx):=by
 refine cy 4 func70 rfl ntmps70 λY V=>Ak [] 5 V λV=>Ao (Ay [(6,AC (Cw ik ii) [(0,2)] [])] [] 5 V λV=>AH ((hi:Int)<(ii:Int)) V (λh1=> ?_) (λh1=> ?_))
 ·refine Ay [(3,AC (Mo id fi ok oi ik ii lT mx lD tD kl hi) [(0,0),(1,1),(2,2),(3,3)] [])] [] 5 V λV=>Ao (Ak [] 5 V λV=>AH ((CY kl (hi:Int))<0) V (λh2=> ?_) (λh2=> ?_))
  ·have hK:B4 id fi ok oi ik ii lT mx lD tD kl hb hi hn hh hp hx=false:=(Ab _).trans ((ab h1).trans (ab h2));rw[hK]at hk;cases hk
  ·refine DZ ?_;have hpl:=PP (l:=kl) (i:=(hi:Int)) A3;have hkr:=hK.2 (CY kl (hi:Int)).toNat Ac;have hkf:0<=(kl.getD (Int.toNat (CY kl (hi:Int))) Bg).2.1/\(kl.getD (Int.toNat (CY kl (hi:Int))) Bg).2.1<=1000000000000:=hkr.2.1;refine Aw [(5,Sk (CY kl (hi:Int)) kl.length)] [6] 6 V λV=>CV (Ao ?_);by_cases h3:(hn:Int)<(((kl.getD (Int.toNat (CY kl (hi:Int))) Bg).2).1)
   ·refine Aw [(4,Ga h3)] [] 6 V λV=>Ae (AE V ?_);have hK:B4 id fi ok oi ik ii lT mx lD tD kl hb hi hn hh hp hx=false:=(Ab _).trans ((ab h1).trans ((aj h2).trans (ab h3)));rw[hK]at hk;cases hk
   ·refine Aw [(4,CH h3),(10,Ub (hn:Int) (((kl.getD (Int.toNat (CY kl (hi:Int))) Bg).2).1))] [] 6 V λV=>Ae (AH ((((((kl.getD (Int.toNat (CY kl (hi:Int))) Bg).2).2).length:Nat):Int)<=((hn:Int)-(((kl.getD (Int.toNat (CY kl (hi:Int))) Bg).2).1))) V (λh4=> ?_) (λh4=> ?_))
    ·have hK:B4 id fi ok oi ik ii lT mx lD tD kl hb hi hn hh hp hx=false:=(Ab _).trans ((ab h1).trans ((aj h2).trans ((aj h3).trans (ab h4))));rw[hK]at hk;cases hk
    ·exact BR (Ay [(6,Ub (hn:Int) (((kl.getD (Int.toNat (CY kl (hi:Int))) Bg).2).1)),(7,Sk ((hn:Int)-(((kl.getD (Int.toNat (CY kl (hi:Int))) Bg).2).1)) ((((kl.getD (Int.toNat (CY kl (hi:Int))) Bg).2).2).length))] [] 6 V λV=>AU (Aj (BX (.trans (Ab _) (ab h1)) V)))
 ·refine DZ ?_;by_cases h5:Xc ii hi=true
  ·refine Aw [(6,AC (ML ik ii hi Au Ac h5) [(0,2)] [])] [] 5 V λV=>Ae (Ay [(1,AS (GO))] [] 5 V λV=>He ?_);by_cases h6:(hn:Int)<(lD:Int)
   ·refine Aw [(6,Ga h6)] [] 5 V λV=>Ae (AE V ?_);have hK:B4 id fi ok oi ik ii lT mx lD tD kl hb hi hn hh hp hx=false:=(Ab _).trans ((aj h1).trans ((ab h5).trans (ab h6)));rw[hK]at hk;cases hk
   ·refine Aw [(6,CH h6),(11,Kf (EB lT mx HL Ac) [0,1] [.im (Ag [.top,.top,.top,.im (Ag []) 0,.top,.top,vi (lT:Int),.ls false A0 mx,.top,.top,.top]) 0])] [] 5 V λV=>Ae (AH (((lT+mx.length-1:Nat):Int)<(hn:Int)) V (λh7=> ?_) (λh7=> ?_))
    ·have hK:B4 id fi ok oi ik ii lT mx lD tD kl hb hi hn hh hp hx=false:=(Ab _).trans ((aj h1).trans ((ab h5).trans ((aj h6).trans (ab h7))));rw[hK]at hk;cases hk
    ·exact BR (Ay [(4,AC (Pq id fi ok oi ik ii lT mx lD tD kl (KQ (Bm ik (hi-ii))) hn HL (by first |assumption|(intro j;simp<;>omega)) Ac Au Ac) [(0,0),(1,1),(2,2),(3,3)] [])] [] 5 V λV=>AU (BX (.trans (Ab _) (aj h1)) V))
  ·refine Aw [(6,AC (MK ik ii hi Au Ac (BH h5)) [(0,2)] [])] [] 5 V λV=>CV ?_;have hK:B4 id fi ok oi ik ii lT mx lD tD kl hb hi hn hh hp hx=false:=(Ab _).trans ((aj h1).trans (aj h5));rw[hK]at hk;cases hk
def N7:Con:=⟨[.cp 0 0,.ag (Ag [lb hb,vi (hi:Int),vi (hn:Int),vi (hh:Int),lb hp,lb hx])],[(0,NK id fi false 1 2 lT mx lD tD 3),(1,Al ok oi),(2,Al ik ii),(3,.sl 86 Ct kl)],.v (.iface 44 (.int .i64 ((Bj id fi ok oi ik ii lT mx lD tD kl hb hi hn hh hp hx:Nat):Int))),[]⟩
theorem S7 (hok:ok.length=32) (hik:ik.length=32) (hoi:oi<=100000000000) (hii:ii<=100000000000) (hm1:1<=mx.length/\mx.length<=100000) (hm2:∀j,(mx.getD j AW).length<=32) (hlow:lT<=100000000000) (hK:KOk kl) (hll:lT<=lD/\lD<=100000000000) (hhn:hn<=10000000000/\hi<=10000000000) (hk:B4 id fi ok oi ik ii lT mx lD tD kl hb hi hn hh hp hx=false):En Tryz.prog 70 (N7 id fi ok oi ik ii lT mx lD tD kl hb hi hn hh hp hx):=by
 refine CU rfl (nb:=4) func70 rfl rfl ntmps70 rfl rfl rfl λg0 w0 ac gs ws Y V=> ?_;have V:=V.sp;refine Ak [] 5 V λV=>Ao (Ay [(6,AC (Cw ik ii) [(0,2)] [])] [] 5 V λV=>AH ((hi:Int)<(ii:Int)) V (λh1=> ?_) (λh1=> ?_))
 ·refine Ay [(3,AC (Mo id fi ok oi ik ii lT mx lD tD kl hi) [(0,0),(1,1),(2,2),(3,3)] [])] [] 5 V λV=>Ao (Ak [] 5 V λV=>AH ((CY kl (hi:Int))<0) V (λh2=> ?_) (λh2=> ?_))
  ·refine A7 (E:=E0) mo hZ [] aa none (λr hr=>by cases hr) 1 0 (λ_=>[]) (.v (.iface 44 (.int .i64 5))) (by kernel_rfl) aa V.st λac gs ws pv V hpv=>AA (AA ?_);have hM:Bj id fi ok oi ik ii lT mx lD tD kl hb hi hn hh hp hx=5:=(Ab _).trans ((ab h1).trans (ab h2));exact CC rfl V hpv (by show _=(.v (.iface 44 (.int .i64 ((Bj id fi ok oi ik ii lT mx lD tD kl hb hi hn hh hp hx:Nat):Int))):D);rw[hM]<;>rfl) rfl
  ·refine DZ ?_;have hpl:=PP (l:=kl) (i:=(hi:Int)) A3;have hkr:=hK.2 (CY kl (hi:Int)).toNat Ac;have hkf:0<=(kl.getD (Int.toNat (CY kl (hi:Int))) Bg).2.1/\(kl.getD (Int.toNat (CY kl (hi:Int))) Bg).2.1<=1000000000000:=hkr.2.1;refine Aw [(5,Sk (CY kl (hi:Int)) kl.length)] [6] 6 V λV=>CV (Ao ?_);by_cases h3:(hn:Int)<(((kl.getD (Int.toNat (CY kl (hi:Int))) Bg).2).1)
   ·refine Aw [(4,Ga h3)] [] 6 V λV=>Ae (AE V (A7 (E:=E0) mo hZ [] aa none (λr hr=>by cases hr) 1 0 (λ_=>[]) (.v (.iface 44 (.int .i64 2))) (by kernel_rfl) aa V.st λac gs ws pv V hpv=>AA (AA ?_)));have hM:Bj id fi ok oi ik ii lT mx lD tD kl hb hi hn hh hp hx=2:=(Ab _).trans ((ab h1).trans ((aj h2).trans (ab h3)));exact CC rfl V hpv (by show _=(.v (.iface 44 (.int .i64 ((Bj id fi ok oi ik ii lT mx lD tD kl hb hi hn hh hp hx:Nat):Int))):D);rw[hM]<;>rfl) rfl
   ·refine Aw [(4,CH h3),(10,Ub (hn:Int) (((kl.getD (Int.toNat (CY kl (hi:Int))) Bg).2).1))] [] 6 V λV=>Ae (AH ((((((kl.getD (Int.toNat (CY kl (hi:Int))) Bg).2).2).length:Nat):Int)<=((hn:Int)-(((kl.getD (Int.toNat (CY kl (hi:Int))) Bg).2).1))) V (λh4=> ?_) (λh4=> ?_))
    ·refine A7 (E:=E0) mo hZ [] aa none (λr hr=>by cases hr) 1 0 (λ_=>[]) (.v (.iface 44 (.int .i64 2))) (by kernel_rfl) aa V.st λac gs ws pv V hpv=>AA (AA ?_);have hM:Bj id fi ok oi ik ii lT mx lD tD kl hb hi hn hh hp hx=2:=(Ab _).trans ((ab h1).trans ((aj h2).trans (aj h3)));exact CC rfl V hpv (by show _=(.v (.iface 44 (.int .i64 ((Bj id fi ok oi ik ii lT mx lD tD kl hb hi hn hh hp hx:Nat):Int))):D);rw[hM]<;>rfl) rfl
    ·refine BR (Ay [(6,Ub (hn:Int) (((kl.getD (Int.toNat (CY kl (hi:Int))) Bg).2).1)),(7,Sk ((hn:Int)-(((kl.getD (Int.toNat (CY kl (hi:Int))) Bg).2).1)) ((((kl.getD (Int.toNat (CY kl (hi:Int))) Bg).2).2).length))] [] 6 V λV=>AU (Aj ?_));have hK:B4 id fi ok oi ik ii lT mx lD tD kl hb hi hn hh hp hx=true:=(Ab _).trans ((ab h1).trans ((aj h2).trans ((aj h3).trans (aj h4))));rw[hK]at hk;cases hk
 ·refine DZ ?_;by_cases h5:Xc ii hi=true
  ·refine Aw [(6,AC (ML ik ii hi Au Ac h5) [(0,2)] [])] [] 5 V λV=>Ae (Ay [(1,AS (GO))] [] 5 V λV=>He ?_);by_cases h6:(hn:Int)<(lD:Int)
   ·refine Aw [(6,Ga h6)] [] 5 V λV=>Ae (AE V (A7 (E:=E0) mo hZ [] aa none (λr hr=>by cases hr) 1 0 (λ_=>[]) (.v (.iface 44 (.int .i64 2))) (by kernel_rfl) aa V.st λac gs ws pv V hpv=>AA ?_));have hM:Bj id fi ok oi ik ii lT mx lD tD kl hb hi hn hh hp hx=2:=(Ab _).trans ((aj h1).trans ((ab h5).trans (ab h6)));exact CC rfl V hpv (by show _=(.v (.iface 44 (.int .i64 ((Bj id fi ok oi ik ii lT mx lD tD kl hb hi hn hh hp hx:Nat):Int))):D);rw[hM]<;>rfl) rfl
   ·refine Aw [(6,CH h6),(11,Kf (EB lT mx HL Ac) [0,1] [.im (Ag [.top,.top,.top,.im (Ag []) 0,.top,.top,vi (lT:Int),.ls false A0 mx,.top,.top,.top]) 0])] [] 5 V λV=>Ae (AH (((lT+mx.length-1:Nat):Int)<(hn:Int)) V (λh7=> ?_) (λh7=> ?_))
    ·refine A7 (E:=E0) mo hZ [] aa none (λr hr=>by cases hr) 1 0 (λ_=>[]) (.v (.iface 44 (.int .i64 2))) (by kernel_rfl) aa V.st λac gs ws pv V hpv=>AA ?_;have hM:Bj id fi ok oi ik ii lT mx lD tD kl hb hi hn hh hp hx=2:=(Ab _).trans ((aj h1).trans ((ab h5).trans (aj h6)));exact CC rfl V hpv (by show _=(.v (.iface 44 (.int .i64 ((Bj id fi ok oi ik ii lT mx lD tD kl hb hi hn hh hp hx:Nat):Int))):D);rw[hM]<;>rfl) rfl
    ·refine BR (Ay [(4,AC (Pq id fi ok oi ik ii lT mx lD tD kl (KQ (Bm ik (hi-ii))) hn HL (by first |assumption|(intro j;simp<;>omega)) Ac Au Ac) [(0,0),(1,1),(2,2),(3,3)] [])] [] 5 V λV=>AU ?_);have hK:B4 id fi ok oi ik ii lT mx lD tD kl hb hi hn hh hp hx=true:=(Ab _).trans ((aj h1).trans ((ab h5).trans ((aj h6).trans (aj h7))));rw[hK]at hk;cases hk
  ·refine Aw [(6,AC (MK ik ii hi Au Ac (BH h5)) [(0,2)] [])] [] 5 V λV=>CV ?_;have hcm:=kN (BH h5) ik;refine A7 (E:=E0) mo hZ [] aa (some ⟨71,(GI (Di ik ii hi)),[],[]⟩) (λr hr=>by cases hr;exact JR (Di ik ii hi) Ac) 1 0 (λ_=>[nd [vi (((Di ik ii hi):Nat):Int)] []]) (.v (.iface 44 (.int .i64 (((Di ik ii hi):Nat):Int)))) (by kernel_rfl) ⟨rfl,aa⟩ V.st λac gs ws pv V hpv=>AA ?_;have hM:Bj id fi ok oi ik ii lT mx lD tD kl hb hi hn hh hp hx=(Di ik ii hi):=(Ab _).trans ((aj h1).trans (aj h5));exact CC rfl V hpv (by show _=(.v (.iface 44 (.int .i64 ((Bj id fi ok oi ik ii lT mx lD tD kl hb hi hn hh hp hx:Nat):Int))):D);rw[hM]<;>rfl) rfl
end
theorem Ux (key z:Ad):∀(n j:Nat),j<n->(GW key n).getD j z=KQ (Bm key j)
 |0,j,h=>absurd h (bd _)
 |n+1,j,h=>by
  rw[GW,al];by_cases e:j<n
  ·rw[dj (by rw[H3];exact e),<-al];exact Ux key z n j e
  ·have :j=n:=by omega
   subst this;rw[df (by rw[H3];exact an _),H3,Nat.sub_self];rfl
theorem XW (key:Ad) {n j:Nat} (h:j<n):(GW key n).getD j AW=KQ (Bm key j):=Ux key _ n j h
theorem Rf {key:Ad} {n j:Nat} (h:j<n):((GW key n).getD j AW).length=32:=(dn List.length (XW key h)).trans (pE _)
def ND (ik:Ad) (ii lT:Nat) (mx:AZ) (hi x53 k2:Nat):(Nat×AZ)->(Nat×AZ):=λ(x11,o8)=>(x11+1,o8++[(AT ((GW ik (hi-ii)).getD x53 AW) (mx.getD (x11-lT) AW) [109,101,115,115,97,103,101])])
section
variable (id:Ad) (fi:Bool) (ok:Ad) (oi:Nat) (ik:Ad) (ii lT:Nat) (mx:AZ) (lD tD:Nat) (kl:List KR) (hb:Ad) (hi hn hh:Nat) (hp hx:Ad)
def EN (id:Ad) (fi:Bool) (ok:Ad) (oi:Nat) (ik:Ad) (ii lT:Nat) (mx:AZ) (lD tD:Nat) (kl:List KR) (hb:Ad) (hi hn hh:Nat) (hp hx:Ad) (x53:Nat) (o6:List (Int×Int×AZ)):Nat->Nat×AZ
 |0=>(lD,[])
 |k2+1=>ND ik ii lT mx hi x53 k2 (EN id fi ok oi ik ii lT mx lD tD kl hb hi hn hh hp hx x53 o6 k2)
def Ht (id:Ad) (fi:Bool) (ok:Ad) (oi:Nat) (ik:Ad) (ii lT:Nat) (mx:AZ) (lD tD:Nat) (kl:List KR) (hb:Ad) (hi hn hh:Nat) (hp hx:Ad) (x53:Nat) (o6:List (Int×Int×AZ)):(Nat×AZ)->Prop:=λ(x11,o8)=>((x11:Nat):Int)<=(hn:Int)
def KH (x53:Nat):(List (Int×Int×AZ))->(List (Int×Int×AZ)):=λo6=>o6++[(((ii+x53:Nat):Int),(lD:Int),(EN id fi ok oi ik ii lT mx lD tD kl hb hi hn hh hp hx x53 o6 (DX λj=>Ht id fi ok oi ik ii lT mx lD tD kl hb hi hn hh hp hx x53 o6 (EN id fi ok oi ik ii lT mx lD tD kl hb hi hn hh hp hx x53 o6 j))).2)]
def Cs (id:Ad) (fi:Bool) (ok:Ad) (oi:Nat) (ik:Ad) (ii lT:Nat) (mx:AZ) (lD tD:Nat) (kl:List KR) (hb:Ad) (hi hn hh:Nat) (hp hx:Ad):Nat->(List (Int×Int×AZ))
 |0=>kl
 |x53+1=>KH id fi ok oi ik ii lT mx lD tD kl hb hi hn hh hp hx x53 (Cs id fi ok oi ik ii lT mx lD tD kl hb hi hn hh hp hx x53)
def Ja:Nat×(List (Int×Int×AZ))×Ad×Nat:=AR (if(hi:Int)<(ii:Int)then(lD,kl.take ((CY kl (hi:Int)).toNat)++kl.drop (((CY kl (hi:Int)).toNat)+1),ik,ii)else(hn,(Cs id fi ok oi ik ii lT mx lD tD kl hb hi hn hh hp hx ((GW ik (hi-ii)).length)).drop (Int.toNat (max ((((Cs id fi ok oi ik ii lT mx lD tD kl hb hi hn hh hp hx ((GW ik (hi-ii)).length)).length:Nat):Int)-60) 0)),V7 (Bm ik (hi-ii)),(hi+1)))
def y9 (z_:Nat×(List (Int×Int×AZ))×Ad×Nat:=Ja id fi ok oi ik ii lT mx lD tD kl hb hi hn hh hp hx):Con:=⟨[.cp 0 0,.ag (Ag [lb hb,vi (hi:Int),vi (hn:Int),vi (hh:Int),lb hp,lb hx])],[(0,NK id fi false 1 2 lT mx lD tD 3),(1,Al ok oi),(2,Al ik ii),(3,.sl 86 Ct kl)],.tu (Ag []),[(0,NK id fi false 1 2 lT mx z_.1 tD 4),(1,Al ok oi),(2,Al (z_.2.2.1) z_.2.2.2),(4,.sl 86 Ct (z_.2.1))]⟩
theorem YY (hok:ok.length=32) (hik:ik.length=32) (hoi:oi<=100000000000) (hii:ii<=100000000000) (hm1:1<=mx.length/\mx.length<=100000) (hm2:∀j,(mx.getD j AW).length<=32) (hlow:lT<=100000000000) (hK:KOk kl) (hll:lT<=lD/\lD<=100000000000) (hhn:hn<=10000000000/\hi<=10000000000) (hc:(hi<ii/\0<=CY kl (hi:Int))\/(ii<=hi/\hi<=ii+40/\lD<=hn/\hn+1<=lT+mx.length)):AO 72 (y9 id fi ok oi ik ii lT mx lD tD kl hb hi hn hh hp hx):=by
 refine cy 4 func72 rfl ntmps72 λY V=>Ak [] 5 V λV=>Ao (Ay [(6,AC (Cw ik ii) [(0,2)] [])] [] 5 V λV=>AH ((hi:Int)<(ii:Int)) V (λh1=> ?_) (λh1=> ?_))
 ·refine Ao ?_;have hpg:=No (l:=kl) (hi:Int);have hkl:=hK.1;refine Aw [(3,AC (Mo id fi ok oi ik ii lT mx lD tD kl hi) [(0,0),(1,1),(2,2),(3,3)] []),(4,Jo ((((CY kl (hi:Int)).toNat):Nat):Int) [(CY kl (hi:Int))=((((CY kl (hi:Int)).toNat):Nat):Int)] ⟨by omega,aa⟩)] [] 5 V λV=>CV ?_;have hpg:=No (l:=kl) (hi:Int);have hkl:=hK.1;obtain⟨gs,V⟩:=V.fz 3;refine Aw [(5,AC (Hq kl Au) [] [(0,5)]),(8,FA ((CY kl (hi:Int)).toNat) 1 (((CY kl (hi:Int)).toNat)+1)),(9,AC (Yy kl ((CY kl (hi:Int)).toNat) (((CY kl (hi:Int)).toNat)+1) Ac) [(0,5)] [(1,6)])] [] 7 V λV=>Fa (Aj ?_);obtain⟨gs,V⟩:=V.rx [(0,0),(1,1),(2,2),(3,3),(4,6)] [] [0,1,2,4] 5 Y;exact BX (.trans (Ab _) (ab h1)) V
 ·refine BR (Ay [(4,AC (Cw ik ii) [(0,2)] [])] [] 5 V λV=>Ay [(6,AC (Qs ik ii hi Au Ac Ac) [(0,2)] [(1,5)])] [] 6 V λV=>He ?_);obtain⟨gs,V⟩:=V.alias 3;have hpg:=No (l:=kl) (hi:Int);have hkl:=hK.1;have hsl:=H3 ik (hi-ii);refine CW [51] 7 V λV=>Ae (BK (AD (ι:=Nat×(List (Int×Int×AZ))) Y V (λ(x53,o6)=>((GW ik (hi-ii)).length-x53,[(53,vi ((x53:Nat):Int))],[(6,.sl 86 Ct o6)],(x53<=(GW ik (hi-ii)).length)/\(o6=Cs id fi ok oi ik ii lT mx lD tD kl hb hi hn hh hp hx x53)/\(o6.length<=kl.length+x53)/\True)) [0,3,5,51,52] [0,1,2,4,5] 7 (0,kl) [(0,0),(1,1),(2,2),(3,3),(4,4),(5,5),(6,6)] ⟨Ac,rfl,Ac,aa⟩ ?_));rintro⟨x53,o6⟩ ac gs ws ⟨hx53,hq1,p1,_⟩ V;refine Ak [] 7 V λV=>Ao (AH ((x53:Int)<(((GW ik (hi-ii)).length:Nat):Int)) V (λh2=> ?_) (λh2=> ?_))
  ·refine B6 (Ay [(1,AN x53 ((GW ik (hi-ii)).length))] [] 7 V λV=>Ay [(2,FA ii x53 (ii+x53))] [10] 8 V λV=>He ?_);obtain⟨gs,V⟩:=V.nilob 7 2 22 A0;refine CW [] 9 V λV=>Ae (BK (AD (ι:=Nat×Nat×AZ) Y V (λ(k2,x11,o8)=>(hn+1-x11,[(11,vi (x11:Int))],[(8,.sl 22 A0 o8)],((x11,o8)=EN id fi ok oi ik ii lT mx lD tD kl hb hi hn hh hp hx x53 o6 k2)/\(∀j,j<k2->Ht id fi ok oi ik ii lT mx lD tD kl hb hi hn hh hp hx x53 o6 (EN id fi ok oi ik ii lT mx lD tD kl hb hi hn hh hp hx x53 o6 j))/\(lD<=x11/\x11<=hn+1)/\(o8.length+lD=x11)/\True)) [0,3,5,9,10,51,52,53] [0,1,2,4,5,6,7] 9 (0,lD,[]) [(0,0),(1,1),(2,2),(3,3),(4,4),(5,5),(6,6),(7,7),(8,8)] ⟨rfl,(λj h=>absurd h (bd j)),Ac,(by simp),aa⟩ ?_));rintro⟨k2,x11,o8⟩ ac gs ws ⟨hq2,hj2,p2,p3,_⟩ V;refine Ao (Ak [] 9 V λV=>AH ((x11:Int)<=(hn:Int)) V (λh3=> ?_) (λh3=> ?_))
   ·refine B6 ?_;have hsk:=Rf (key:=ik) (n:=hi-ii) (j:=x53) Ac;exact Aw [(5,AC (Pq id fi ok oi (Bm ik (hi-ii)) hi lT mx lD tD o6 ((GW ik (hi-ii)).getD x53 AW) x11 HL (by first |assumption|(intro j;simp<;>omega)) Ac Au Ac) [(0,0),(1,1),(2,2),(3,6)] []),(7,GJ o8.length 1 24 (by(first |omega|(simp only[aw,av];omega))))] [] 10 V λV=>Cn (Aw [(1,CF x11)] [11] 10 V λV=>Ae (Av Y V (k2+1,x11+1,o8++[(AT ((GW ik (hi-ii)).getD x53 AW) (mx.getD (x11-lT) AW) [109,101,115,115,97,103,101])]) [(0,0),(1,1),(2,2),(3,3),(4,4),(5,5),(6,6),(7,7),(8,9)] ⟨(Bp (st:=ND _ _ _ _ _ _) hq2 rfl rfl),(Bf hj2 (by rw[<-hq2];exact h3)),Ac,(by rw[ah,aw,av];omega),aa⟩))
   ·have hT:=V;obtain rfl:=CB (by rw[<-hq2];first |exact h3|exact cq h3) hj2;obtain⟨rfl,rfl⟩:=SU hq2;have V:=hT;refine DF ?_;obtain⟨gs,V⟩:=V.fz 8;exact Aw [(7,GJ o6.length 1 40 (by(first |omega|(simp only[aw,av];omega))))] [] 10 V λV=>Cn (Aw [(0,CF x53)] [53] 10 V λV=>Ae (Av Y V (x53+1,o6++[(((ii+x53:Nat):Int),(lD:Int),(EN id fi ok oi ik ii lT mx lD tD kl hb hi hn hh hp hx x53 o6 (DX λj=>Ht id fi ok oi ik ii lT mx lD tD kl hb hi hn hh hp hx x53 o6 (EN id fi ok oi ik ii lT mx lD tD kl hb hi hn hh hp hx x53 o6 j))).2)]) [(0,0),(1,1),(2,2),(3,3),(4,4),(5,5),(6,9)] ⟨Ac,(Bp (st:=KH _ _ _ _ _ _ _ _ _ _ _ _ _ _ _ _ _) hq1 rfl rfl),(by rw[ah,aw,av];omega),aa⟩))
  ·have hT:=V;obtain rfl:(GW ik (hi-ii)).length=x53:=by omega
   obtain rfl:=hq1.symm;have V:=hT;refine I8 ?_;obtain⟨gs,V⟩:=V.fz 6;refine Aw [(10,Ub (((Cs id fi ok oi ik ii lT mx lD tD kl hb hi hn hh hp hx ((GW ik (hi-ii)).length)).length:Nat):Int) 60),(11,Jo (max ((((Cs id fi ok oi ik ii lT mx lD tD kl hb hi hn hh hp hx ((GW ik (hi-ii)).length)).length:Nat):Int)-60) 0) [(if 0>((((Cs id fi ok oi ik ii lT mx lD tD kl hb hi hn hh hp hx ((GW ik (hi-ii)).length)).length:Nat):Int)-60)then 0 else((((Cs id fi ok oi ik ii lT mx lD tD kl hb hi hn hh hp hx ((GW ik (hi-ii)).length)).length:Nat):Int)-60))=(max ((((Cs id fi ok oi ik ii lT mx lD tD kl hb hi hn hh hp hx ((GW ik (hi-ii)).length)).length:Nat):Int)-60) 0)] ⟨by split<;>omega,aa⟩),(12,OZ (FG (some (max ((((Cs id fi ok oi ik ii lT mx lD tD kl hb hi hn hh hp hx ((GW ik (hi-ii)).length)).length:Nat):Int)-60) 0)) none none (Cs id fi ok oi ik ii lT mx lD tD kl hb hi hn hh hp hx ((GW ik (hi-ii)).length)).length (Cs id fi ok oi ik ii lT mx lD tD kl hb hi hn hh hp hx ((GW ik (hi-ii)).length)).length) ⟨by simp only[Gq]<;>omega,by simp only[Gq]<;>omega,by simp only[Gq]<;>omega,by simp,by simp only[bl]<;>omega,by simp only[bl]<;>omega,by simp only[bl]<;>omega⟩),(13,AC (Hq ((Cs id fi ok oi ik ii lT mx lD tD kl hb hi hn hh hp hx ((GW ik (hi-ii)).length)).drop (Int.toNat (max ((((Cs id fi ok oi ik ii lT mx lD tD kl hb hi hn hh hp hx ((GW ik (hi-ii)).length)).length:Nat):Int)-60) 0))) Au) [] [(0,7)])] [] 8 V λV=>CV ?_;have hnl:=F1 hik (hi-ii);refine Aw [(4,AC (IL (Bm ik (hi-ii)) hi Au Ac) [(0,2)] [])] [] 8 V λV=>Ae (CW [] 8 V λV=> ?_);obtain⟨gs,V⟩:=V.rx [(0,0),(1,1),(2,2),(3,3),(4,7)] [] [0,1,2,4] 5 Y;exact iO (.trans (Ab _) (aj h1)) V
end
theorem Sy {xs:Ad} (h:DI xs=true):(Af xs).1.toNat<=2147483648:=by
 unfold DI at h;rw[Ab]at h;split at h
 ·split at h
  ·cases h
  ·omega
 ·cases h
theorem vT {xs ba bb:Ad} (h:HE xs ba bb=true):(Df xs ba bb).2.1<=2147483648/\(Df xs ba bb).2.2.1<=2147483648/\(Df xs ba bb).2.2.2.1<=2147483648/\(Df xs ba bb).2.2.2.2.length<=xs.length:=by
 unfold HE at h;rw[Ab]at h;have h3:=Cf xs;have h4:=(AP (Af (Af (Af xs).2).2).2).2;unfold Df;rw[Ab];split at h
 ·split at h
  ·split at h
   ·refine⟨Sy A3,Sy A3,Sy A3,?_⟩;show(List.take _ _).length<=_;rw[ao];omega
   ·cases h
  ·cases h
 ·cases h
theorem u9 {xs ba bb:Ad} (h:IB xs ba bb=true):(Ge xs ba bb).1<=2147483648/\(Ge xs ba bb).2.1<=2147483648/\(Ge xs ba bb).2.2.1<=2147483648/\(Ge xs ba bb).2.2.2.length<=xs.length:=by
 unfold IB at h;rw[Ab]at h;unfold Ge;rw[Ab];split at h
 ·exact vT A3
 ·cases h
theorem BC {xs:Ad} (h:B9 xs=true):(Aa xs).1.length<=xs.length/\(Aa xs).2.1<=2147483648/\(Aa xs).2.2.1<=2147483648/\(Aa xs).2.2.2.1<=2147483648/\(Aa xs).2.2.2.2.1.length<=xs.length/\(Aa xs).2.2.2.2.2.length<=xs.length:=by
 have h1:=AP xs;have h2:=AP ((Af xs).2.drop (Af xs).1.toNat);rw[au]at h2;unfold B9 at h;rw[Ab]at h;unfold Aa;rw[Ab];split at h
 ·split at h
  ·rename_i _ hr;obtain⟨k1,k2,k3,k4⟩:=u9 hr;rw[ao]at k4;refine⟨?_,k1,k2,k3,?_,?_⟩
   ·show(List.take _ _).length<=_;rw[ao];omega
   ·show(Ge _ _ _).2.2.2.length<=_;omega
   ·show(List.take _ _).length<=_;rw[ao];omega
  ·cases h
 ·cases h
theorem AaH {l:AZ} {i:Nat} {z:Ad} (h:∀k∈l,k.length=32) (hi:i<l.length):(l.getD i z).length=32:=by rw[al,am hi];exact h _ (gr hi)
theorem HF {id:Ad} {fi:Bool} {ok:Ad} {oi:Nat} {ik:Ad} {ii:Nat} {lT:Nat} {mx:AZ} {lD:Nat} {tD:Nat} {kl:List KR} {hb:Ad} {hi:Nat} {hn:Nat} {hh:Nat} {hp:Ad} {hx:Ad} (h:B4 id fi ok oi ik ii lT mx lD tD kl hb hi hn hh hp hx=true) (hm:1<=mx.length) (hK:KOk kl):((hi<ii/\0<=CY kl (hi:Int))\/(ii<=hi/\hi<=ii+40/\lD<=hn/\hn+1<=lT+mx.length))/\(BU id fi ok oi ik ii lT mx lD tD kl hb hi hn hh hp hx).length=32:=by
 unfold B4 at h;rw[Ab]at h;unfold BU;rw[Ab];by_cases h1:(hi:Int)<(ii:Int)
 ·rw[ab h1]at h⊢;by_cases h2:CY kl (hi:Int)<0
  ·rw[ab h2]at h;cases h
  ·rw[aj h2]at h;refine⟨.inl ⟨by omega,by omega⟩,?_⟩;split at h
   ·cases h
   ·split at h
    ·cases h
    ·rename_i h3 h4;have hpl:=PP (l:=kl) h2;have hkr:=hK.2 (CY kl (hi:Int)).toNat Ac;exact AaH hkr.2.2.2 Ac
 ·rw[aj h1]at h⊢;split at h
  ·rename_i h2;have h3:=tY h2;refine⟨.inr ⟨h3.1,h3.2,?_⟩,F9 ..⟩;split at h
   ·cases h
   ·split at h
    ·cases h
    ·omega
  ·cases h
def Y6 (n:Nat):Con:=⟨[vi (n:Int)],[],.tu (Ag []),[]⟩
theorem gD (n:Nat) (hn:n=0):AO 71 (Y6 n):=by refine cy 0 func71 rfl ntmps71 λY V=> ?_;have hn0:(n:Int)=0:=Ac;exact Ay [(1,Gd hn0)] [] 0 V λV=>Ai V (xV (bY V))
def QN (n:Nat):Bool:=Nat.beq n 0
theorem AaF {n:Nat} (h:QN n=true):n=0:=aq h
theorem AaG {n:Nat} (h:QN n=false):0<n:=Nat.pos_of_ne_zero λe=>by subst e;cases h
theorem Fj (n:Nat) (hs:QN n=true):AO 71 (Y6 n):=gD n (AaF hs)
theorem Mu (n:Nat) (hs:QN n=false):En Tryz.prog 71 (GI n):=JR n (AaG hs)
section
variable (id:Ad) (fi:Bool) (ok:Ad) (oi:Nat) (ik:Ad) (ii lT:Nat) (mx:AZ) (lD tD:Nat) (kl:List KR) (xs:Ad)
def Gj (rQ:Ad):Bool:=AR (if B9 xs=true then(if B4 id fi ok oi ik ii lT mx lD tD kl (Aa xs).1 (Aa xs).2.1 (Aa xs).2.2.1 (Aa xs).2.2.2.1 (Aa xs).2.2.2.2.1 (Aa xs).2.2.2.2.2=true then(if QN ((BA (BU id fi ok oi ik ii lT mx lD tD kl (Aa xs).1 (Aa xs).2.1 (Aa xs).2.2.1 (Aa xs).2.2.2.1 (Aa xs).2.2.2.2.1 (Aa xs).2.2.2.2.2) (replicate 12 (0:Int)) (Aa xs).1 (Aa xs).2.2.2.2.2).2)=true then true else false)else false)else false)
def Cx (rQ:Ad):Nat:=AR (if B9 xs=true then(if B4 id fi ok oi ik ii lT mx lD tD kl (Aa xs).1 (Aa xs).2.1 (Aa xs).2.2.1 (Aa xs).2.2.2.1 (Aa xs).2.2.2.2.1 (Aa xs).2.2.2.2.2=true then((BA (BU id fi ok oi ik ii lT mx lD tD kl (Aa xs).1 (Aa xs).2.1 (Aa xs).2.2.1 (Aa xs).2.2.2.1 (Aa xs).2.2.2.2.1 (Aa xs).2.2.2.2.2) (replicate 12 (0:Int)) (Aa xs).1 (Aa xs).2.2.2.2.2).2)else(Bj id fi ok oi ik ii lT mx lD tD kl (Aa xs).1 (Aa xs).2.1 (Aa xs).2.2.1 (Aa xs).2.2.2.1 (Aa xs).2.2.2.2.1 (Aa xs).2.2.2.2.2))else(CG xs))
def BY (rQ:Ad):Nat×Nat×(List (Int×Int×AZ))×Ad×Nat×Ad×Nat:=AR ((((Ja id fi ok oi ik ii lT mx lD tD kl (Aa xs).1 (Aa xs).2.1 (Aa xs).2.2.1 (Aa xs).2.2.2.1 (Aa xs).2.2.2.2.1 (Aa xs).2.2.2.2.2).1),(max tD (Aa xs).2.2.2.1),(Ja id fi ok oi ik ii lT mx lD tD kl (Aa xs).1 (Aa xs).2.1 (Aa xs).2.2.1 (Aa xs).2.2.2.1 (Aa xs).2.2.2.2.1 (Aa xs).2.2.2.2.2).2.1,(Ja id fi ok oi ik ii lT mx lD tD kl (Aa xs).1 (Aa xs).2.1 (Aa xs).2.2.1 (Aa xs).2.2.2.1 (Aa xs).2.2.2.2.1 (Aa xs).2.2.2.2.2).2.2.1,((Ja id fi ok oi ik ii lT mx lD tD kl (Aa xs).1 (Aa xs).2.1 (Aa xs).2.2.1 (Aa xs).2.2.2.1 (Aa xs).2.2.2.2.1 (Aa xs).2.2.2.2.2).2.2.2),(BA (BU id fi ok oi ik ii lT mx lD tD kl (Aa xs).1 (Aa xs).2.1 (Aa xs).2.2.1 (Aa xs).2.2.2.1 (Aa xs).2.2.2.2.1 (Aa xs).2.2.2.2.2) (replicate 12 (0:Int)) (Aa xs).1 (Aa xs).2.2.2.2.2).1,(Aa xs).2.1))
def xZ (rQ:Ad) (z_:Nat×Nat×(List (Int×Int×AZ))×Ad×Nat×Ad×Nat:=BY id fi ok oi ik ii lT mx lD tD kl xs rQ):Con:=⟨[.cp 0 0,lb xs,lb rQ],[(0,NK id fi false 1 2 lT mx lD tD 3),(1,Al ok oi),(2,Al ik ii),(3,.sl 86 Ct kl)],.tu (Ag [lb (z_.2.2.2.2.2.1),vi ((z_.2.2.2.2.2.2:Nat):Int)]),[(0,NK id fi false 1 2 lT mx z_.1 z_.2.1 4),(1,Al ok oi),(2,Al (z_.2.2.2.1) z_.2.2.2.2.1),(4,.sl 86 Ct (z_.2.2.1))]⟩
theorem XQ (rQ:Ad) (hok:ok.length=32) (hik:ik.length=32) (hoi:oi<=100000000000) (hii:ii<=100000000000) (hm1:1<=mx.length/\mx.length<=100000) (hm2:∀j,(mx.getD j AW).length<=32) (hlow:lT<=100000000000) (hK:KOk kl) (hll:lT<=lD/\lD<=100000000000) (htd:tD<=100000000000) (hf:xs.length<=50000) (hk:Gj id fi ok oi ik ii lT mx lD tD kl xs rQ=true):AO 39 (xZ id fi ok oi ik ii lT mx lD tD kl xs rQ):=by
 refine cy 4 func39 rfl ntmps39 λY V=>Ak [] 4 V λV=>Ao ?_;by_cases h1:B9 xs=true
 ·refine Aw [(1,AS (Kv xs Au h1))] [8] 5 V λV=>CV ?_;have hpl:=BC (xs:=xs) A3;by_cases h2:B4 id fi ok oi ik ii lT mx lD tD kl (Aa xs).1 (Aa xs).2.1 (Aa xs).2.2.1 (Aa xs).2.2.2.1 (Aa xs).2.2.2.2.1 (Aa xs).2.2.2.2.2=true
  ·have hpl:=BC (xs:=xs) A3;refine Aw [(2,AC (PV id fi ok oi ik ii lT mx lD tD kl (Aa xs).1 (Aa xs).2.1 (Aa xs).2.2.1 (Aa xs).2.2.2.1 (Aa xs).2.2.2.2.1 (Aa xs).2.2.2.2.2 Au Au Ac Ac HL (by first |assumption|(intro j;simp<;>omega)) Ac A3 Ac Ac h2) [(0,0),(1,1),(2,2),(3,3)] []),(3,QP .mf [(12:Int)=12,(0:Int)<=12,1*12<=281474976710656,(12:Int)<=9223372036854775807] ⟨rfl,by omega,by omega,by omega,aa⟩),(8,AS (L5 (BU id fi ok oi ik ii lT mx lD tD kl (Aa xs).1 (Aa xs).2.1 (Aa xs).2.2.1 (Aa xs).2.2.2.1 (Aa xs).2.2.2.2.1 (Aa xs).2.2.2.2.2) (replicate 12 (0:Int)) (Aa xs).1 (Aa xs).2.2.2.2.2 (HF A3 Ac hK).2 (by have :=BC (xs:=xs) A3;omega) (by have :=BC (xs:=xs) A3;omega) (by simp)))] [] 5 V λV=>CV ?_;by_cases h3:QN ((BA (BU id fi ok oi ik ii lT mx lD tD kl (Aa xs).1 (Aa xs).2.1 (Aa xs).2.2.1 (Aa xs).2.2.2.1 (Aa xs).2.2.2.2.1 (Aa xs).2.2.2.2.2) (replicate 12 (0:Int)) (Aa xs).1 (Aa xs).2.2.2.2.2).2)=true
   ·refine Aw [(1,AS (Fj ((BA (BU id fi ok oi ik ii lT mx lD tD kl (Aa xs).1 (Aa xs).2.1 (Aa xs).2.2.1 (Aa xs).2.2.2.1 (Aa xs).2.2.2.2.1 (Aa xs).2.2.2.2.2) (replicate 12 (0:Int)) (Aa xs).1 (Aa xs).2.2.2.2.2).2) h3))] [] 5 V λV=>CV ?_;have hpl:=BC (xs:=xs) A3;have hof:=(HF A3 Ac hK).1;refine Aw [(2,AC (YY id fi ok oi ik ii lT mx lD tD kl (Aa xs).1 (Aa xs).2.1 (Aa xs).2.2.1 (Aa xs).2.2.2.1 (Aa xs).2.2.2.2.1 (Aa xs).2.2.2.2.2 Au Au Ac Ac HL (by first |assumption|(intro j;simp<;>omega)) Ac A3 Ac Ac A3) [(0,0),(1,1),(2,2),(3,3)] [(4,5)])] [] 6 V λV=>Ae (Ay [(7,Rmx tD (Aa xs).2.2.2.1)] [] 6 V λV=>Ao (Ak [] 6 V λV=>Ai V (BR (Ak [6] 6 V λV=>AU ?_))));obtain⟨gs,V⟩:=V.rx [(0,0),(1,1),(2,2),(3,3),(4,5)] [6,7] [0,1,2,4] 5 Y;exact BX (Ab _) V
   ·have hK:Gj id fi ok oi ik ii lT mx lD tD kl xs rQ=false:=(Ab _).trans ((ab h1).trans ((ab h2).trans (aj h3)));rw[hK]at hk;cases hk
  ·have hpl:=BC (xs:=xs) A3;have hK:Gj id fi ok oi ik ii lT mx lD tD kl xs rQ=false:=(Ab _).trans ((ab h1).trans (aj h2));rw[hK]at hk;cases hk
 ·have hK:Gj id fi ok oi ik ii lT mx lD tD kl xs rQ=false:=(Ab _).trans (aj h1);rw[hK]at hk;cases hk
def VT (rQ:Ad):Con:=⟨[.cp 0 0,lb xs,lb rQ],[(0,NK id fi false 1 2 lT mx lD tD 3),(1,Al ok oi),(2,Al ik ii),(3,.sl 86 Ct kl)],.v (.iface 44 (.int .i64 ((Cx id fi ok oi ik ii lT mx lD tD kl xs rQ:Nat):Int))),[]⟩
theorem Zp (rQ:Ad) (hok:ok.length=32) (hik:ik.length=32) (hoi:oi<=100000000000) (hii:ii<=100000000000) (hm1:1<=mx.length/\mx.length<=100000) (hm2:∀j,(mx.getD j AW).length<=32) (hlow:lT<=100000000000) (hK:KOk kl) (hll:lT<=lD/\lD<=100000000000) (htd:tD<=100000000000) (hf:xs.length<=50000) (hk:Gj id fi ok oi ik ii lT mx lD tD kl xs rQ=false):En Tryz.prog 39 (VT id fi ok oi ik ii lT mx lD tD kl xs rQ):=by
 refine CU rfl (nb:=4) func39 rfl rfl ntmps39 rfl rfl rfl λg0 w0 ac gs ws Y V=> ?_;have V:=V.sp;refine Ak [] 4 V λV=>Ao ?_;by_cases h1:B9 xs=true
 ·refine Aw [(1,AS (Kv xs Au h1))] [8] 5 V λV=>CV ?_;have hpl:=BC (xs:=xs) A3;by_cases h2:B4 id fi ok oi ik ii lT mx lD tD kl (Aa xs).1 (Aa xs).2.1 (Aa xs).2.2.1 (Aa xs).2.2.2.1 (Aa xs).2.2.2.2.1 (Aa xs).2.2.2.2.2=true
  ·have hpl:=BC (xs:=xs) A3;refine Aw [(2,AC (PV id fi ok oi ik ii lT mx lD tD kl (Aa xs).1 (Aa xs).2.1 (Aa xs).2.2.1 (Aa xs).2.2.2.1 (Aa xs).2.2.2.2.1 (Aa xs).2.2.2.2.2 Au Au Ac Ac HL (by first |assumption|(intro j;simp<;>omega)) Ac A3 Ac Ac h2) [(0,0),(1,1),(2,2),(3,3)] []),(3,QP .mf [(12:Int)=12,(0:Int)<=12,1*12<=281474976710656,(12:Int)<=9223372036854775807] ⟨rfl,by omega,by omega,by omega,aa⟩),(8,AS (L5 (BU id fi ok oi ik ii lT mx lD tD kl (Aa xs).1 (Aa xs).2.1 (Aa xs).2.2.1 (Aa xs).2.2.2.1 (Aa xs).2.2.2.2.1 (Aa xs).2.2.2.2.2) (replicate 12 (0:Int)) (Aa xs).1 (Aa xs).2.2.2.2.2 (HF A3 Ac hK).2 (by have :=BC (xs:=xs) A3;omega) (by have :=BC (xs:=xs) A3;omega) (by simp)))] [] 5 V λV=>CV ?_;by_cases h3:QN ((BA (BU id fi ok oi ik ii lT mx lD tD kl (Aa xs).1 (Aa xs).2.1 (Aa xs).2.2.1 (Aa xs).2.2.2.1 (Aa xs).2.2.2.2.1 (Aa xs).2.2.2.2.2) (replicate 12 (0:Int)) (Aa xs).1 (Aa xs).2.2.2.2.2).2)=true
   ·refine Aw [(1,AS (Fj ((BA (BU id fi ok oi ik ii lT mx lD tD kl (Aa xs).1 (Aa xs).2.1 (Aa xs).2.2.1 (Aa xs).2.2.2.1 (Aa xs).2.2.2.2.1 (Aa xs).2.2.2.2.2) (replicate 12 (0:Int)) (Aa xs).1 (Aa xs).2.2.2.2.2).2) h3))] [] 5 V λV=>CV ?_;have hpl:=BC (xs:=xs) A3;have hof:=(HF A3 Ac hK).1;refine Aw [(2,AC (YY id fi ok oi ik ii lT mx lD tD kl (Aa xs).1 (Aa xs).2.1 (Aa xs).2.2.1 (Aa xs).2.2.2.1 (Aa xs).2.2.2.2.1 (Aa xs).2.2.2.2.2 Au Au Ac Ac HL (by first |assumption|(intro j;simp<;>omega)) Ac A3 Ac Ac A3) [(0,0),(1,1),(2,2),(3,3)] [(4,5)])] [] 6 V λV=>Ae (Ay [(7,Rmx tD (Aa xs).2.2.2.1)] [] 6 V λV=>Ao (Ak [] 6 V λV=>Ai V (BR (Ak [6] 6 V λV=>AU ?_))));have hK:Gj id fi ok oi ik ii lT mx lD tD kl xs rQ=true:=(Ab _).trans ((ab h1).trans ((ab h2).trans (ab h3)));rw[hK]at hk;cases hk
   ·refine A7 (E:=E0) mo hZ [] aa (some ⟨71,(GI ((BA (BU id fi ok oi ik ii lT mx lD tD kl (Aa xs).1 (Aa xs).2.1 (Aa xs).2.2.1 (Aa xs).2.2.2.1 (Aa xs).2.2.2.2.1 (Aa xs).2.2.2.2.2) (replicate 12 (0:Int)) (Aa xs).1 (Aa xs).2.2.2.2.2).2)),[],[]⟩) (λr hr=>by cases hr;exact Mu ((BA (BU id fi ok oi ik ii lT mx lD tD kl (Aa xs).1 (Aa xs).2.1 (Aa xs).2.2.1 (Aa xs).2.2.2.1 (Aa xs).2.2.2.2.1 (Aa xs).2.2.2.2.2) (replicate 12 (0:Int)) (Aa xs).1 (Aa xs).2.2.2.2.2).2) (BH h3)) 1 0 (λ_=>[nd [vi ((((BA (BU id fi ok oi ik ii lT mx lD tD kl (Aa xs).1 (Aa xs).2.1 (Aa xs).2.2.1 (Aa xs).2.2.2.1 (Aa xs).2.2.2.2.1 (Aa xs).2.2.2.2.2) (replicate 12 (0:Int)) (Aa xs).1 (Aa xs).2.2.2.2.2).2):Nat):Int)] []]) (.v (.iface 44 (.int .i64 ((((BA (BU id fi ok oi ik ii lT mx lD tD kl (Aa xs).1 (Aa xs).2.1 (Aa xs).2.2.1 (Aa xs).2.2.2.1 (Aa xs).2.2.2.2.1 (Aa xs).2.2.2.2.2) (replicate 12 (0:Int)) (Aa xs).1 (Aa xs).2.2.2.2.2).2):Nat):Int)))) (by kernel_rfl) ⟨rfl,aa⟩ V.st λac gs ws pv V hpv=>AA ?_;have hM:Cx id fi ok oi ik ii lT mx lD tD kl xs rQ=((BA (BU id fi ok oi ik ii lT mx lD tD kl (Aa xs).1 (Aa xs).2.1 (Aa xs).2.2.1 (Aa xs).2.2.2.1 (Aa xs).2.2.2.2.1 (Aa xs).2.2.2.2.2) (replicate 12 (0:Int)) (Aa xs).1 (Aa xs).2.2.2.2.2).2):=(Ab _).trans ((ab h1).trans (ab h2));exact CC rfl V hpv (by show _=(.v (.iface 44 (.int .i64 ((Cx id fi ok oi ik ii lT mx lD tD kl xs rQ:Nat):Int))):D);rw[hM]<;>rfl) rfl
  ·have hpl:=BC (xs:=xs) A3;refine A7 (E:=E0) mo hZ [] aa (some ⟨70,(N7 id fi ok oi ik ii lT mx lD tD kl (Aa xs).1 (Aa xs).2.1 (Aa xs).2.2.1 (Aa xs).2.2.2.1 (Aa xs).2.2.2.2.1 (Aa xs).2.2.2.2.2),[(0,0),(1,1),(2,2),(3,3)],[]⟩) (λr hr=>by cases hr;exact S7 id fi ok oi ik ii lT mx lD tD kl (Aa xs).1 (Aa xs).2.1 (Aa xs).2.2.1 (Aa xs).2.2.2.1 (Aa xs).2.2.2.2.1 (Aa xs).2.2.2.2.2 Au Au Ac Ac HL (by first |assumption|(intro j;simp<;>omega)) Ac A3 Ac Ac (BH h2)) 2 16128 (λ_=>[nd [.cp 0 0,.ag (Ag [lb (Aa xs).1,vi (((Aa xs).2.1:Nat):Int),vi (((Aa xs).2.2.1:Nat):Int),vi (((Aa xs).2.2.2.1:Nat):Int),lb (Aa xs).2.2.2.2.1,lb (Aa xs).2.2.2.2.2])] [some (NK id fi false 1 2 lT mx lD tD 3),some (Al ok oi),some (Al ik ii),some (.sl 86 Ct kl)],(12:Int)=12,(0:Int)<=12,1*12<=281474976710656,(12:Int)<=9223372036854775807]) (.v (.iface 44 (.int .i64 ((Bj id fi ok oi ik ii lT mx lD tD kl (Aa xs).1 (Aa xs).2.1 (Aa xs).2.2.1 (Aa xs).2.2.2.1 (Aa xs).2.2.2.2.1 (Aa xs).2.2.2.2.2:Nat):Int)))) (by kernel_rfl) ⟨rfl,rfl,by omega,by omega,by omega,aa⟩ V.st λac gs ws pv V hpv=>AA ?_;have hM:Cx id fi ok oi ik ii lT mx lD tD kl xs rQ=(Bj id fi ok oi ik ii lT mx lD tD kl (Aa xs).1 (Aa xs).2.1 (Aa xs).2.2.1 (Aa xs).2.2.2.1 (Aa xs).2.2.2.2.1 (Aa xs).2.2.2.2.2):=(Ab _).trans ((ab h1).trans (aj h2));exact CC rfl V hpv (by show _=(.v (.iface 44 (.int .i64 ((Cx id fi ok oi ik ii lT mx lD tD kl xs rQ:Nat):Int))):D);rw[hM]<;>rfl) rfl
 ·refine A7 (E:=E0) mo hZ [] aa (some ⟨68,(LG xs),[],[]⟩) (λr hr=>by cases hr;exact NW xs Au (BH h1)) 1 12 (λ_=>[nd [lb xs] []]) (.v (.iface 44 (.int .i64 ((CG xs:Nat):Int)))) (by kernel_rfl) ⟨rfl,aa⟩ V.st λac gs ws pv V hpv=>AA ?_;have hM:Cx id fi ok oi ik ii lT mx lD tD kl xs rQ=(CG xs):=(Ab _).trans (aj h1);exact CC rfl V hpv (by show _=(.v (.iface 44 (.int .i64 ((Cx id fi ok oi ik ii lT mx lD tD kl xs rQ:Nat):Int))):D);rw[hM]<;>rfl) rfl
end
theorem ZX:AO 62 ⟨[.v (.pointer none)],[],.v (.pointer none),[]⟩:=by exact cy 0 func62 rfl ntmps62 λY V=>Ak [] 0 V λV=>Ao (Ak [] 0 V λV=>AE V (Ak [] 0 V λV=>AU (Aj (BN V))))
theorem UD (id:Ad) (fi:Bool) (ok:Ad) (oi:Nat) (ik:Ad) (ii lT:Nat) (mx:AZ) (lD tD:Nat) (kl:List KR) (hok:ok.length=32) (hik:ik.length=32) (hoi:oi<=100000000000) (hii:ii<=100000000000) (hm1:1<=mx.length/\mx.length<=100000) (hm2:∀j,(mx.getD j AW).length<=32) (hlow:lT<=100000000000) (hK:KOk kl):AO 30 ⟨[.cp 0 0],[(0,D6 id fi false 1 2 lT mx lD tD kl),(1,Al ok oi),(2,Al ik ii)],.cp 3 0,[(0,D6 id fi false 1 2 lT mx lD tD kl),(1,Al ok oi),(2,Al ik ii),(3,NK id fi false 4 5 lT mx lD tD 6),(4,Al ok oi),(5,Al ik ii),(6,.sl 86 Ct kl)]⟩:=by refine cy 3 func30 rfl ntmps30 λY V=>Ak [] 3 V λV=>Ao (Ay [(1,Kf (Cu) [0,1] [.im (Ag [.top,.top,.top,.im (Ag []) 0,.top,.top,.top,.top,.top,.top,.top]) 0])] [] 3 V λV=>Ai V (BR (Ak [3] 4 V λV=>Ay [(4,AC (J9 ok oi Au) [(0,1)] [(1,4)]),(9,AC (J9 ik ii Au) [(0,2)] [(1,5)]),(14,AS (ZX))] [] 6 V λV=>Ao ?_)));have hkl:=hK.1;exact Aw [(4,AS (bL mx Au)),(9,AC (Hq kl Au) [] [(0,6)])] [] 7 V λV=>Ae (Ak [] 7 V λV=>AU (BN V))
def V5 (x0:Ad):O:= .ob 22 (Ag [lb x0])
def Og:O:= .ob 22 (Ag [.v (.slice none 0 0)])
def Of:O:= .ob 3 (Ag [vi 0])
section
variable (t:Ad) (i:Nat)
def TQ:Con:=⟨[.cp 0 0,.cp 1 0,.cp 2 0],[(0,V5 t),(1,M1 i),(2,C3)],.tu (Ag []),[(0,V5 t),(1,M1 i),(2,C3)]⟩
theorem UW:NL Tryz.prog 38 .returning .returning (TQ t i):=by refine OO rfl (nb:=3) (t0:=6) (t1:=3) func38 rfl rfl ntmps38 rfl rfl rfl rfl rfl rfl λg0 w0 ac gs ws Y V=> ?_;have V:=V.sp;exact Ay [(1,QP .nn [] aa)] [] 3 V λV=>Ai V (xV (bY V))
end
def TR (n:Nat):Con:=⟨[.cp 0 0,.cp 1 0,.cp 2 0],[(0,Og),(1,Of),(2,C3)],.tu (Ag []),[(0,Og),(1,Of),(2,XD n)]⟩
theorem UX (n:Nat):NL Tryz.prog 38 (pnd (.iface 44 (.int .i64 (n:Int)))) (rcd (.iface 44 (.int .i64 (n:Int)))) (TR n):=by refine OO rfl (nb:=3) (t0:=6) (t1:=3) func38 rfl rfl ntmps38 rfl rfl rfl rfl rfl rfl λg0 w0 ac gs ws Y V=> ?_;have V:=V.sp;exact Ak [] 3 V λV=>AE V (Ay [(1,QP .ta [] aa)] [] 3 V λV=>Ao (Ak [] 3 V λV=>Ai V (BR (CW [] 3 V λV=>bY V))))
section
variable (id:Ad) (fi:Bool) (ok:Ad) (oi:Nat) (ik:Ad) (ii lT:Nat) (mx:AZ) (lD tD:Nat) (kl:List KR) (xs rQ:Ad)
def Ed:Bool:=AR (if Gj id fi ok oi ik ii lT mx lD tD kl xs (rQ.drop 64)=true then true else false)
def De:Ad×Nat×Nat×Nat×(List (Int×Int×AZ))×Ad×Nat:=AR (((BY id fi ok oi ik ii lT mx lD tD kl xs (rQ.drop 64)).2.2.2.1,((BY id fi ok oi ik ii lT mx lD tD kl xs (rQ.drop 64)).2.2.2.2.1),((BY id fi ok oi ik ii lT mx lD tD kl xs (rQ.drop 64)).1),((BY id fi ok oi ik ii lT mx lD tD kl xs (rQ.drop 64)).2.1),(BY id fi ok oi ik ii lT mx lD tD kl xs (rQ.drop 64)).2.2.1,(BY id fi ok oi ik ii lT mx lD tD kl xs (rQ.drop 64)).2.2.2.2.2.1,((BY id fi ok oi ik ii lT mx lD tD kl xs (rQ.drop 64)).2.2.2.2.2.2)))
def Sj (z_:Ad×Nat×Nat×Nat×(List (Int×Int×AZ))×Ad×Nat:=De id fi ok oi ik ii lT mx lD tD kl xs rQ):Con:=⟨[.cp 0 0,lb xs,lb rQ],[(0,D6 id fi false 1 2 lT mx lD tD kl),(1,Al ok oi),(2,Al ik ii)],.tu (Ag [lb (z_.2.2.2.2.2.1),vi ((z_.2.2.2.2.2.2:Nat):Int),vi 0]),[(0,D6 id fi false 7 8 lT mx z_.2.2.1 z_.2.2.2.1 (z_.2.2.2.2.1)),(1,Al ok oi),(2,Al ik ii),(7,Al ok oi),(8,Al (z_.1) z_.2.1)]⟩
theorem PD (hok:ok.length=32) (hik:ik.length=32) (hoi:oi<=100000000000) (hii:ii<=100000000000) (hm1:1<=mx.length/\mx.length<=100000) (hm2:∀j,(mx.getD j AW).length<=32) (hlow:lT<=100000000000) (hK:KOk kl) (hll:lT<=lD/\lD<=100000000000) (htd:tD<=100000000000) (hf:xs.length<=50000) (hr:rQ.length=128) (hk:Ed id fi ok oi ik ii lT mx lD tD kl xs rQ=true):AO 19 (Sj id fi ok oi ik ii lT mx lD tD kl xs rQ):=by
 refine Dh rfl (nb:=3) func19 rfl rfl ntmps19 rfl rfl rfl λg0 w0 ac gs ws Y V=> ?_;have V:=V.sp;have hr1:((rQ.length:Nat):Int)=128:=Ac;refine Ak [] 6 V λV=>Ao (Ay [(1,Kf (Cu) [0,1] [.im (Ag [.top,.top,.top,.im (Ag []) 0,.top,.top,.top,.top,.top,.top,.top]) 0]),(5,Gd hr1)] [] 6 V λV=>Ai V (DZ ?_));have V:=V.rv [(0,.cp 0 0),(1,lb xs),(2,lb rQ),(6,.cp 3 0),(7,.cp 4 0),(8,.cp 5 0),(16,.v (.bool false))] [(0,some (D6 id fi false 1 2 lT mx lD tD kl)),(1,some (Al ok oi)),(2,some (Al ik ii)),(3,some (Og)),(4,some (Of)),(5,some (C3))];refine Fz rfl V (cs:=[.cp 3 0,.cp 4 0,.cp 5 0]) rfl rfl rfl λD vds ac hD hcv hB V=> ?_;have V:=V.sp;refine Ae (Ay [(1,AC (UD id fi ok oi ik ii lT mx lD tD kl Au Au Ac Ac HL (by first |assumption|(intro j;simp<;>omega)) Ac A3) [(0,0),(1,1),(2,2)] [(3,6),(4,7),(5,8),(6,9)])] [] 10 V λV=>Ao ?_);by_cases h1:Gj id fi ok oi ik ii lT mx lD tD kl xs (rQ.drop 64)=true
 ·refine Aw [(3,NJ 64 rQ.length),(4,AC (XQ id fi ok oi ik ii lT mx lD tD kl xs (rQ.drop 64) Au Au Ac Ac HL (by first |assumption|(intro j;simp<;>omega)) Ac A3 Ac Ac Au h1) [(0,6),(1,7),(2,8),(3,9)] [(4,10)])] [] 11 V λV=>CV (CW [] 11 V λV=> ?_);obtain⟨gs,V⟩:=V.fz 10;refine Ae (Ak [] 11 V λV=>AU ?_);have hM:De id fi ok oi ik ii lT mx lD tD kl xs rQ=((BY id fi ok oi ik ii lT mx lD tD kl xs (rQ.drop 64)).2.2.2.1,((BY id fi ok oi ik ii lT mx lD tD kl xs (rQ.drop 64)).2.2.2.2.1),((BY id fi ok oi ik ii lT mx lD tD kl xs (rQ.drop 64)).1),((BY id fi ok oi ik ii lT mx lD tD kl xs (rQ.drop 64)).2.1),(BY id fi ok oi ik ii lT mx lD tD kl xs (rQ.drop 64)).2.2.1,(BY id fi ok oi ik ii lT mx lD tD kl xs (rQ.drop 64)).2.2.2.2.2.1,((BY id fi ok oi ik ii lT mx lD tD kl xs (rQ.drop 64)).2.2.2.2.2.2)):=Ab _;have V:=V.rv [(6,.cp 3 0),(7,.cp 4 0),(8,.cp 5 0)] [(0,some (D6 id fi false 7 8 lT mx ((BY id fi ok oi ik ii lT mx lD tD kl xs (rQ.drop 64)).1) ((BY id fi ok oi ik ii lT mx lD tD kl xs (rQ.drop 64)).2.1) ((BY id fi ok oi ik ii lT mx lD tD kl xs (rQ.drop 64)).2.2.1))),(1,some (Al ok oi)),(2,some (Al ik ii)),(3,some (V5 ((BY id fi ok oi ik ii lT mx lD tD kl xs (rQ.drop 64)).2.2.2.2.2.1))),(4,some (M1 ((BY id fi ok oi ik ii lT mx lD tD kl xs (rQ.drop 64)).2.2.2.2.2.2))),(5,some (C3)),(7,some (Al ok oi)),(8,some (Al ((BY id fi ok oi ik ii lT mx lD tD kl xs (rQ.drop 64)).2.2.2.1) ((BY id fi ok oi ik ii lT mx lD tD kl xs (rQ.drop 64)).2.2.2.2.1)))];exact Ly (.inr rfl) V hD (Dx ⟨38,(TQ ((BY id fi ok oi ik ii lT mx lD tD kl xs (rQ.drop 64)).2.2.2.2.2.1) ((BY id fi ok oi ik ii lT mx lD tD kl xs (rQ.drop 64)).2.2.2.2.2.2)),[(0,3),(1,4),(2,5)],[]⟩ [(3,some (V5 ((BY id fi ok oi ik ii lT mx lD tD kl xs (rQ.drop 64)).2.2.2.2.2.1))),(4,some (M1 ((BY id fi ok oi ik ii lT mx lD tD kl xs (rQ.drop 64)).2.2.2.2.2.2))),(5,some (C3)),(0,some (D6 id fi false 7 8 lT mx ((BY id fi ok oi ik ii lT mx lD tD kl xs (rQ.drop 64)).1) ((BY id fi ok oi ik ii lT mx lD tD kl xs (rQ.drop 64)).2.1) ((BY id fi ok oi ik ii lT mx lD tD kl xs (rQ.drop 64)).2.2.1))),(1,some (Al ok oi)),(2,some (Al ik ii)),(3,some (V5 ((BY id fi ok oi ik ii lT mx lD tD kl xs (rQ.drop 64)).2.2.2.2.2.1))),(4,some (M1 ((BY id fi ok oi ik ii lT mx lD tD kl xs (rQ.drop 64)).2.2.2.2.2.2))),(5,some (C3)),(7,some (Al ok oi)),(8,some (Al ((BY id fi ok oi ik ii lT mx lD tD kl xs (rQ.drop 64)).2.2.2.1) ((BY id fi ok oi ik ii lT mx lD tD kl xs (rQ.drop 64)).2.2.2.2.1)))] hB V hcv (show FrameMode.returning≠ .run from nofun) rfl rfl rfl (UW ((BY id fi ok oi ik ii lT mx lD tD kl xs (rQ.drop 64)).2.2.2.2.2.1) ((BY id fi ok oi ik ii lT mx lD tD kl xs (rQ.drop 64)).2.2.2.2.2.2)) rfl ⟨rfl,rfl,rfl,aa⟩ rfl (ds:=[lb ((BY id fi ok oi ik ii lT mx lD tD kl xs (rQ.drop 64)).2.2.2.2.2.1),vi ((((BY id fi ok oi ik ii lT mx lD tD kl xs (rQ.drop 64)).2.2.2.2.2.2):Nat):Int),vi 0]) (by kernel_rfl) (by show weak _ (.tu (Ag [lb (De id fi ok oi ik ii lT mx lD tD kl xs rQ).2.2.2.2.2.1,vi (((De id fi ok oi ik ii lT mx lD tD kl xs rQ).2.2.2.2.2.2:Nat):Int),vi 0]))=(.tu (Ag [lb (De id fi ok oi ik ii lT mx lD tD kl xs rQ).2.2.2.2.2.1,vi (((De id fi ok oi ik ii lT mx lD tD kl xs rQ).2.2.2.2.2.2:Nat):Int),vi 0]));first |rfl|(rw[hM];first |(simp only[];rfl)|(simp only[];done)|rfl)) (by show EP _ [(0,D6 id fi false 7 8 lT mx (De id fi ok oi ik ii lT mx lD tD kl xs rQ).2.2.1 (De id fi ok oi ik ii lT mx lD tD kl xs rQ).2.2.2.1 (De id fi ok oi ik ii lT mx lD tD kl xs rQ).2.2.2.2.1),(1,Al ok oi),(2,Al ik ii),(7,Al ok oi),(8,Al (De id fi ok oi ik ii lT mx lD tD kl xs rQ).1 (De id fi ok oi ik ii lT mx lD tD kl xs rQ).2.1)] true;first |exact⟨rfl,rfl,rfl,rfl,rfl,aa⟩|(rw[hM];first |(simp only[];exact⟨rfl,rfl,rfl,rfl,rfl,aa⟩)|exact⟨rfl,rfl,rfl,rfl,rfl,aa⟩)))
 ·have hK:Ed id fi ok oi ik ii lT mx lD tD kl xs rQ=false:=(Ab _).trans (aj h1);rw[hK]at hk;cases hk
def N6:Con:=Cq [.cp 0 0,lb xs,lb rQ] [(0,D6 id fi false 1 2 lT mx lD tD kl),(1,Al ok oi),(2,Al ik ii)] (.tu (Ag [.v (.slice none 0 0),vi 0,vi ((Cx id fi ok oi ik ii lT mx lD tD kl xs (rQ.drop 64):Nat):Int)]))
theorem Md (hok:ok.length=32) (hik:ik.length=32) (hoi:oi<=100000000000) (hii:ii<=100000000000) (hm1:1<=mx.length/\mx.length<=100000) (hm2:∀j,(mx.getD j AW).length<=32) (hlow:lT<=100000000000) (hK:KOk kl) (hll:lT<=lD/\lD<=100000000000) (htd:tD<=100000000000) (hf:xs.length<=50000) (hr:rQ.length=128) (hk:Ed id fi ok oi ik ii lT mx lD tD kl xs rQ=false):AO 19 (N6 id fi ok oi ik ii lT mx lD tD kl xs rQ):=by
 refine Dh rfl (nb:=3) func19 rfl rfl ntmps19 rfl rfl rfl λg0 w0 ac gs ws Y V=> ?_;have V:=V.sp;have hr1:((rQ.length:Nat):Int)=128:=Ac;refine Ak [] 6 V λV=>Ao (Ay [(1,Kf (Cu) [0,1] [.im (Ag [.top,.top,.top,.im (Ag []) 0,.top,.top,.top,.top,.top,.top,.top]) 0]),(5,Gd hr1)] [] 6 V λV=>Ai V (DZ ?_));have V:=V.rv [(0,.cp 0 0),(1,lb xs),(2,lb rQ),(6,.cp 3 0),(7,.cp 4 0),(8,.cp 5 0),(16,.v (.bool false))] [(0,some (D6 id fi false 1 2 lT mx lD tD kl)),(1,some (Al ok oi)),(2,some (Al ik ii)),(3,some (Og)),(4,some (Of)),(5,some (C3))];refine Fz rfl V (cs:=[.cp 3 0,.cp 4 0,.cp 5 0]) rfl rfl rfl λD vds ac hD hcv hB V=> ?_;have V:=V.sp;refine Ae (Ay [(1,AC (UD id fi ok oi ik ii lT mx lD tD kl Au Au Ac Ac HL (by first |assumption|(intro j;simp<;>omega)) Ac A3) [(0,0),(1,1),(2,2)] [(3,6),(4,7),(5,8),(6,9)])] [] 10 V λV=>Ao ?_);by_cases h1:Gj id fi ok oi ik ii lT mx lD tD kl xs (rQ.drop 64)=true
 ·refine Aw [(3,NJ 64 rQ.length),(4,AC (XQ id fi ok oi ik ii lT mx lD tD kl xs (rQ.drop 64) Au Au Ac Ac HL (by first |assumption|(intro j;simp<;>omega)) Ac A3 Ac Ac Au h1) [(0,6),(1,7),(2,8),(3,9)] [(4,10)])] [] 11 V λV=>CV (CW [] 11 V λV=> ?_);obtain⟨gs,V⟩:=V.fz 10;refine Ae (Ak [] 11 V λV=>AU ?_);have hK:Ed id fi ok oi ik ii lT mx lD tD kl xs rQ=true:=(Ab _).trans (ab h1);rw[hK]at hk;cases hk
 ·refine Hj (E:=E0) mo hZ [] aa (some ⟨39,(VT id fi ok oi ik ii lT mx lD tD kl xs (rQ.drop 64)),[(0,6),(1,7),(2,8),(3,9)],[]⟩) (λr hr=>by cases hr;exact Zp id fi ok oi ik ii lT mx lD tD kl xs (rQ.drop 64) Au Au Ac Ac HL (by first |assumption|(intro j;simp<;>omega)) Ac A3 Ac Ac Au (BH h1)) 4 992 (λ_=>[FG (some 64) none none rQ.length rQ.length,nd [.cp 6 0,lb xs,lb (rQ.drop 64)] [some (NK id fi false 7 8 lT mx lD tD 9),some (Al ok oi),some (Al ik ii),some (.sl 86 Ct kl)]]) (.v (.iface 44 (.int .i64 ((Cx id fi ok oi ik ii lT mx lD tD kl xs (rQ.drop 64):Nat):Int)))) [6,7,8] [0,1,2,3,4,5] [(6,.cp 3 0),(7,.cp 4 0),(8,.cp 5 0)] [(0,some (D6 id fi false 1 2 lT mx lD tD kl)),(1,some (Al ok oi)),(2,some (Al ik ii)),(3,some (Og)),(4,some (Of)),(5,some (C3))] (by kernel_rfl) ⟨⟨by simp only[Gq]<;>omega,by simp only[Gq]<;>omega,by simp only[Gq]<;>omega,by simp,by simp only[bl]<;>omega,by simp only[bl]<;>omega,by simp only[bl]<;>omega⟩,rfl,aa⟩ (by kernel_rfl) (by kernel_rfl) V.st λac gs ws pv V hpv=>AA ?_;obtain rfl:=hpv.v_of;exact J0 V hD (Dx ⟨38,(TR (Cx id fi ok oi ik ii lT mx lD tD kl xs (rQ.drop 64))),[(0,3),(1,4),(2,5)],[]⟩ [(3,some (Og)),(4,some (Of)),(5,some (XD (Cx id fi ok oi ik ii lT mx lD tD kl xs (rQ.drop 64)))),(0,some (D6 id fi false 1 2 lT mx lD tD kl)),(1,some (Al ok oi)),(2,some (Al ik ii)),(3,some (Og)),(4,some (Of)),(5,some (C3))] hB V hcv (show FrameMode.panicking _≠ .run from nofun) rfl rfl rfl (UX (Cx id fi ok oi ik ii lT mx lD tD kl xs (rQ.drop 64))) rfl ⟨rfl,rfl,rfl,aa⟩ rfl (ds:=[.v (.slice none 0 0),vi 0,vi (((Cx id fi ok oi ik ii lT mx lD tD kl xs (rQ.drop 64)):Nat):Int)]) (by kernel_rfl) (by show weak _ (.tu (Ag [.v (.slice none 0 0),vi 0,vi ((Cx id fi ok oi ik ii lT mx lD tD kl xs (rQ.drop 64):Nat):Int)]))=(.tu (Ag [.v (.slice none 0 0),vi 0,vi ((Cx id fi ok oi ik ii lT mx lD tD kl xs (rQ.drop 64):Nat):Int)]));first |rfl|(rw[hM];first |(simp only[];rfl)|(simp only[];done)|rfl)) ⟨rfl,rfl,rfl,aa⟩)
end
theorem IZ (fi:Bool) (lT len tD:Nat) (h:1<=len):A5 fi lT len tD<lT+len:=by unfold A5;split<;>omega
@[simp] theorem L_ (key num data tT:Ad):(Ea key num data tT).length=tT.length+32:=by unfold Ea;rw[Ab];unfold Jc;rw[Ab];rw[ah,Hs,Pl]
def dP (fi:Bool) (ok:Ad) (oi lT:Nat) (mx:AZ) (tD:Nat) (tT:Ad):Ad×Nat×Ad:=AR ((V7 ok,(oi+1),((((([]:Ad)++Ah (((((([]:Ad)++Ah oi)++Ah (A5 fi lT mx.length tD))++Ah (lT+mx.length-1))++Ah ([]:Ad).length)++([]:Ad)).length)++(((((([]:Ad)++Ah oi)++Ah (A5 fi lT mx.length tD))++Ah (lT+mx.length-1))++Ah ([]:Ad).length)++([]:Ad)))++Ah (Ea (AT (KQ ok) (mx.getD ((A5 fi lT mx.length tD)-lT) AW) [109,101,115,115,97,103,101]) (replicate 12 (0:Int)) (((((([]:Ad)++Ah oi)++Ah (A5 fi lT mx.length tD))++Ah (lT+mx.length-1))++Ah ([]:Ad).length)++([]:Ad)) tT).length)++(Ea (AT (KQ ok) (mx.getD ((A5 fi lT mx.length tD)-lT) AW) [109,101,115,115,97,103,101]) (replicate 12 (0:Int)) (((((([]:Ad)++Ah oi)++Ah (A5 fi lT mx.length tD))++Ah (lT+mx.length-1))++Ah ([]:Ad).length)++([]:Ad)) tT))))
section
variable (id:Ad) (fi:Bool) (ok:Ad) (oi:Nat) (ik:Ad) (ii lT:Nat) (mx:AZ) (lD tD:Nat) (kl:List KR) (tT rQ:Ad)
def lF (z_:Ad×Nat×Ad:=dP fi ok oi lT mx tD tT):Con:=⟨[.cp 0 0,lb tT,lb rQ],[(0,D6 id fi false 1 2 lT mx lD tD kl),(1,Al ok oi),(2,Al ik ii)],.tu (Ag [lb (z_.2.2),vi (oi:Int),vi 0]),[(0,D6 id fi false 1 2 lT mx lD tD kl),(1,Al (z_.1) z_.2.1),(2,Al ik ii)]⟩
theorem nS (hok:ok.length=32) (hik:ik.length=32) (hoi:oi<=100000000000) (hii:ii<=100000000000) (hm1:1<=mx.length/\mx.length<=100000) (hm2:∀j,(mx.getD j AW).length<=32) (hlow:lT<=100000000000) (hmn:lT<=A5 fi lT mx.length tD) (htx:tT.length<=500) (hr:rQ.length=128):AO 24 (lF id fi ok oi ik ii lT mx lD tD kl tT rQ):=by
 refine cy 3 func24 rfl ntmps24 λY V=> ?_;have hr1:((rQ.length:Nat):Int)=128:=Ac;have hx1:¬(500:Int)<((tT.length:Nat):Int):=Ac;refine Ak [] 3 V λV=>Ao (BK (Ay [(1,Kf (Cu) [0,1] [.im (Ag [.top,.top,.top,.im (Ag []) 0,.top,.top,.top,.top,.top,.top,.top]) 0]),(5,Gd hr1)] [] 3 V λV=>Ai V (Ay [(2,CH hx1)] [] 3 V λV=>Ai V (GT (Ak [] 3 V λV=>Ao (Ak [] 3 V λV=>Ai V (BR (Ay [(4,AC (Cw ok oi) [(0,1)] [])] [] 3 V λV=>Ay [(1,Kf (HJ fi lT mx tD HL Ac) [0,1] [.im (Ag [.top,.v (.bool fi),.top,.im (Ag []) 0,.top,.top,vi (lT:Int),.ls false A0 mx,.top,vi (tD:Int),.top]) 0])] [] 3 V λV=>Ak [] 4 V λV=>Ao ?_))))))));have hmx:=IZ fi lT mx.length tD Ac;have hw1:=An (n:=oi) Ac;have hw2:=An (n:=A5 fi lT mx.length tD) Ac;have hw3:=An (n:=lT+mx.length-1) Ac;have hw4:=An (n:=([]:Ad).length) (by decide);have hw4b:=An (n:=0) (by decide);refine Aw [(2,Jn oi),(3,AC (LS oi Ac) [(0,3)] [(1,4)]),(5,Jn (A5 fi lT mx.length tD)),(6,AC (BF (([]:Ad)++Ah oi) (A5 fi lT mx.length tD) Au Ac) [(0,3),(1,4)] [(2,5)]),(8,Kf (EB lT mx HL Ac) [0,1] [.im (Ag [.top,.top,.top,.im (Ag []) 0,.top,.top,vi (lT:Int),.ls false A0 mx,.top,.top,.top]) 0]),(9,Jn (lT+mx.length-1)),(10,AC (BF ((([]:Ad)++Ah oi)++Ah (A5 fi lT mx.length tD)) (lT+mx.length-1) Au Ac) [(0,3),(1,5)] [(2,6)]),(12,AC (Db (((([]:Ad)++Ah oi)++Ah (A5 fi lT mx.length tD))++Ah (lT+mx.length-1)) ([]:Ad) Au Au) [(0,3),(1,6)] [(2,7)]),(13,AC (FS (((((([]:Ad)++Ah oi)++Ah (A5 fi lT mx.length tD))++Ah (lT+mx.length-1))++Ah ([]:Ad).length)++([]:Ad)) Au) [(0,3),(1,7)] [])] [] 8 V λV=>CV ?_;have hmx:=IZ fi lT mx.length tD Ac;have hw1:=An (n:=oi) Ac;have hw2:=An (n:=A5 fi lT mx.length tD) Ac;have hw3:=An (n:=lT+mx.length-1) Ac;have hw4:=An (n:=([]:Ad).length) (by decide);have hw4b:=An (n:=0) (by decide);have hhd:(((((([]:Ad)++Ah oi)++Ah (A5 fi lT mx.length tD))++Ah (lT+mx.length-1))++Ah ([]:Ad).length)++([]:Ad)).length<=50:=by simp only[ah,av];omega
 refine Aw [(5,AC (IL ok oi Au Ac) [(0,1)] []),(7,AC (nQ id fi (V7 ok) (oi+1) ik ii lT mx lD tD kl (KQ ok) (A5 fi lT mx.length tD) HL (by first |assumption|(intro j;simp<;>omega)) Ac Au Ac) [(0,0),(1,1),(2,2)] []),(8,QP .mf [(12:Int)=12,(0:Int)<=12,1*12<=281474976710656,(12:Int)<=9223372036854775807] ⟨rfl,by omega,by omega,by omega,aa⟩),(11,AS (XY (AT (KQ ok) (mx.getD ((A5 fi lT mx.length tD)-lT) AW) [109,101,115,115,97,103,101]) (replicate 12 (0:Int)) (((((([]:Ad)++Ah oi)++Ah (A5 fi lT mx.length tD))++Ah (lT+mx.length-1))++Ah ([]:Ad).length)++([]:Ad)) tT Au Au Au Au))] [] 8 V λV=>CV ?_;have hmx:=IZ fi lT mx.length tD Ac;have hw1:=An (n:=oi) Ac;have hw2:=An (n:=A5 fi lT mx.length tD) Ac;have hw3:=An (n:=lT+mx.length-1) Ac;have hw4:=An (n:=([]:Ad).length) (by decide);have hw4b:=An (n:=0) (by decide);have hhd:(((((([]:Ad)++Ah oi)++Ah (A5 fi lT mx.length tD))++Ah (lT+mx.length-1))++Ah ([]:Ad).length)++([]:Ad)).length<=50:=by simp only[ah,av];omega
 have hw5:=An (n:=(((((([]:Ad)++Ah oi)++Ah (A5 fi lT mx.length tD))++Ah (lT+mx.length-1))++Ah ([]:Ad).length)++([]:Ad)).length) Ac;have hw5s:=hw5;simp only[ah,av]at hw5s;have hsl:(Ea (AT (KQ ok) (mx.getD ((A5 fi lT mx.length tD)-lT) AW) [109,101,115,115,97,103,101]) (replicate 12 (0:Int)) (((((([]:Ad)++Ah oi)++Ah (A5 fi lT mx.length tD))++Ah (lT+mx.length-1))++Ah ([]:Ad).length)++([]:Ad)) tT).length=tT.length+32:=L_ ..;have hw6:=An (n:=(Ea (AT (KQ ok) (mx.getD ((A5 fi lT mx.length tD)-lT) AW) [109,101,115,115,97,103,101]) (replicate 12 (0:Int)) (((((([]:Ad)++Ah oi)++Ah (A5 fi lT mx.length tD))++Ah (lT+mx.length-1))++Ah ([]:Ad).length)++([]:Ad)) tT).length) Ac;have hw5t:=hw5;simp at hw5t;have hw6t:=hw6;simp at hw6t;exact Aw [(2,AC (IP (((((([]:Ad)++Ah oi)++Ah (A5 fi lT mx.length tD))++Ah (lT+mx.length-1))++Ah ([]:Ad).length)++([]:Ad)) Au) [(0,8)] [(1,9)]),(4,AC (Db ((([]:Ad)++Ah (((((([]:Ad)++Ah oi)++Ah (A5 fi lT mx.length tD))++Ah (lT+mx.length-1))++Ah ([]:Ad).length)++([]:Ad)).length)++(((((([]:Ad)++Ah oi)++Ah (A5 fi lT mx.length tD))++Ah (lT+mx.length-1))++Ah ([]:Ad).length)++([]:Ad))) (Ea (AT (KQ ok) (mx.getD ((A5 fi lT mx.length tD)-lT) AW) [109,101,115,115,97,103,101]) (replicate 12 (0:Int)) (((((([]:Ad)++Ah oi)++Ah (A5 fi lT mx.length tD))++Ah (lT+mx.length-1))++Ah ([]:Ad).length)++([]:Ad)) tT) Au Au) [(0,8),(1,9)] [(2,10)]),(5,AC (FS ((((([]:Ad)++Ah (((((([]:Ad)++Ah oi)++Ah (A5 fi lT mx.length tD))++Ah (lT+mx.length-1))++Ah ([]:Ad).length)++([]:Ad)).length)++(((((([]:Ad)++Ah oi)++Ah (A5 fi lT mx.length tD))++Ah (lT+mx.length-1))++Ah ([]:Ad).length)++([]:Ad)))++Ah (Ea (AT (KQ ok) (mx.getD ((A5 fi lT mx.length tD)-lT) AW) [109,101,115,115,97,103,101]) (replicate 12 (0:Int)) (((((([]:Ad)++Ah oi)++Ah (A5 fi lT mx.length tD))++Ah (lT+mx.length-1))++Ah ([]:Ad).length)++([]:Ad)) tT).length)++(Ea (AT (KQ ok) (mx.getD ((A5 fi lT mx.length tD)-lT) AW) [109,101,115,115,97,103,101]) (replicate 12 (0:Int)) (((((([]:Ad)++Ah oi)++Ah (A5 fi lT mx.length tD))++Ah (lT+mx.length-1))++Ah ([]:Ad).length)++([]:Ad)) tT)) Au) [(0,8),(1,10)] [])] [7] 11 V λV=>Fa (BX (Ab _) V)
end
theorem Ur (s:ByteArray):(GC s).length=s.size:=by unfold GC;rw[cg,co];rfl
def CM (rX:Ad) (nm:ByteArray):Ad:=AR (AT ([]:Ad) rX (GC nm))
@[simp] theorem Mq (rX:Ad) (nm:ByteArray):(CM rX nm).length=32:=by unfold CM;rw[Ab];exact F9 ..
section
variable (rX:Ad)
def yR (nm:ByteArray) (z_:Ad:=CM rX nm):Con:=⟨[lb rX,.v (.string nm)],[],lb z_,[]⟩
theorem Fx (nm:ByteArray) (hr:rX.length=32) (hn:nm.size<=1000):AO 42 (yR rX nm):=by refine cy 0 func42 rfl ntmps42 λY V=>Ak [] 0 V λV=>Ao ?_;have hsn:=Ur nm;exact Aw [(2,NI (nm.size<=140737488355328)),(3,AS (FP ([]:Ad) rX (GC nm) Au Au Au))] [] 0 V λV=>Fa (BX (Ab _) V)
def Gl (fi:Bool):Ad×Ad×Ad×AZ:=AR (if(!fi)=true then(CM rX (ByteArray.mk #[112,97,105,114]),CM rX (ByteArray.mk #[111,116,104,101,114]),CM rX (ByteArray.mk #[102,105,114,115,116]),[CM rX (ByteArray.mk #[109,105,120])])else(CM rX (ByteArray.mk #[112,97,105,114]),CM rX (ByteArray.mk #[102,105,114,115,116]),CM rX (ByteArray.mk #[111,116,104,101,114]),[CM rX (ByteArray.mk #[109,105,120])]))
def yC (fi:Bool) (z_:Ad×Ad×Ad×AZ:=Gl rX fi):Con:=⟨[lb rX,.v (.bool fi),.v (.bool false)],[],.tu (Ag [.cp 0 0,vi 0]),[(0,.ob 80 (Ag [lb (z_.1),.v (.bool fi),.v (.bool false),.cp 1 0,.cp 2 0,.v (.pointer none),vi 0,.ls true A0 (z_.2.2.2),vi 0,vi 0,.v (.slice none 0 0)])),(1,QM (z_.2.1)),(2,QM (z_.2.2.1))]⟩
theorem XU (fi:Bool) (hr:rX.length=32):AO 23 (yC rX fi):=by
 refine cy 0 func23 rfl ntmps23 λY V=> ?_;have hr1:((rX.length:Nat):Int)=32:=Ac;refine Ak [] 0 V λV=>Ao (Ay [(2,Gd hr1)] [] 0 V λV=>Ai V (BR (Ay [(1,AS (Fx rX (ByteArray.mk #[112,97,105,114]) Au (by decide))),(5,AS (Fx rX (ByteArray.mk #[109,105,120]) Au (by decide)))] [] 1 V λV=>Ay [(2,AS (Fx rX (ByteArray.mk #[102,105,114,115,116]) Au (by decide))),(3,AC (KG (CM rX (ByteArray.mk #[102,105,114,115,116])) Au) [] [(0,1)])] [] 2 V λV=>Ay [(2,AS (Fx rX (ByteArray.mk #[111,116,104,101,114]) Au (by decide))),(3,AC (KG (CM rX (ByteArray.mk #[111,116,104,101,114])) Au) [] [(0,2)])] [] 3 V λV=>Ao (Ak [] 3 V λV=>Qe (!fi) V (λh1=> ?_) (λh1=> ?_)))))
 ·refine CW [] 3 V λV=>CV (Ak [] 3 V λV=>Ai V (BR (Ak [] 3 V λV=>AU ?_)));obtain⟨gs,V⟩:=V.rx [(0,0),(1,2),(2,1)] [6,7] [0,1,2] 3 Y;exact BX (.trans (Ab _) (ab h1)) V
 ·exact DZ (Ak [] 3 V λV=>Ai V (BR (Ak [] 3 V λV=>AU (BX (.trans (Ab _) (aj (Ka h1))) V))))
end
def QO (l:List KR):Ad:=l.map (·.1)
theorem iH {α:Type} {l:List α} {j:Nat} {z:α} (h:j<l.length):l.getD j z∈l:=by rw[al,am h];exact gr h
theorem Tx {α:Type} {p:α->Prop} {a:α} {l:List α} (h1:p a) (h2:∀x∈l,p x):∀x∈a::l,p x:=List.forall_mem_cons.2 ⟨h1,h2⟩
theorem WQ:∀x∈([]:AZ),x.length<=3000:=λ_ h=>nomatch h
theorem Tw {l:AZ} (h:∀x∈l,x.length<=3000) (j:Nat):(l.getD j AW).length<=3000:=by
 show(List.getD (α:=Ad) l j []).length<=3000;by_cases hj:j<l.length
 ·exact h _ (iH hj)
 ·rw[al,bf Ac];decide
section
variable (x:Int) (n:Nat)
def C4:Int:=AR ((Ew .u32 (Bi .u32 x (n:Int)) (BW .u32 x (32-(n:Int)))))
def yG (z_:Int:=C4 x n):Con:=⟨[.v (.int .u32 x),vi (n:Int)],[],.v (.int .u32 z_),[]⟩
theorem GG (hn:n<=32):AO 138 (yG x n):=by exact cy 0 func138 rfl ntmps138 λY V=>Ak [] 0 V λV=>Ay [(2,If n),(5,Ub 32 (n:Int)),(6,NI ((0:Int)<=(32-(n:Int))))] [] 0 V λV=>AU (BX (Ab _) V)
end
section
variable (v:Int) (n:Nat)
def RF (x6:Nat):Ad->Ad:=λx5=>x5.set (Int.toNat (((n:Int)-1)-(x6:Int))) (IntKind.wrap .u8 (Bi .u64 v ((8*x6:Nat):Int)))
def Oy (v:Int) (n:Nat):Nat->Ad
 |0=>replicate n (0:Int)
 |x6+1=>RF v n x6 (Oy v n x6)
def D3:Ad:=AR (Oy v n n)
def yM (z_:Ad:=D3 v n):Con:=⟨[.v (.int .u64 v),vi (n:Int)],[],.sk 0,[(0,.sl 5 Bb z_)]⟩
theorem SN (hn:n<=1000):AO 34 (yM v n):=by
 refine cy 0 func34 rfl ntmps34 λY V=>Ak [] 0 V λV=>Ay [(1,mT n 1)] [] 1 V λV=>Ao (Ak [] 1 V λV=>BK (AD (ι:=Nat×Ad) Y V (λ(x6,x5)=>(n-x6,[(6,vi ((x6:Nat):Int))],[(0,.sl 5 Bb x5)],(x6<=n)/\(x5=Oy v n x6)/\(x5.length=n)/\True)) [0,1,4,5] [] 1 (0,replicate n (0:Int)) [(0,0)] ⟨Ac,rfl,(by simp),aa⟩ ?_));rintro⟨x6,x5⟩ ac gs ws ⟨hx6,hq1,p1,_⟩ V;refine Ao (Ak [] 1 V λV=>AH ((x6:Int)<(n:Int)) V (λh1=> ?_) (λh1=> ?_))
 ·exact B6 (Aw [(2,Ub (n:Int) 1),(4,Ub ((n:Int)-1) (x6:Int)),(7,HV 8 x6 (8*x6)),(8,If (8*x6)),(10,Sk (((n:Int)-1)-(x6:Int)) x5.length)] [] 1 V λV=>Cn (Aw [(1,CF x6)] [6] 1 V λV=>Ae (Av Y V (x6+1,x5.set (Int.toNat (((n:Int)-1)-(x6:Int))) (IntKind.wrap .u8 (Bi .u64 v ((8*x6:Nat):Int)))) [(0,0)] ⟨Ac,(Bp (st:=RF _ _) hq1 rfl rfl),(by rw[c_];exact p1),aa⟩)))
 ·have hT:=V;obtain rfl:n=x6:=by omega
  obtain rfl:=hq1.symm;have V:=hT;exact DF (Ak [] 1 V λV=>AU (BX (Ab _) V))
end
section
variable (xs:Ad)
def IU (x6:Nat):Int->Int:=λx5=>if(x6:Int)<((xs.length:Nat):Int)then(Ew .u64 (BW .u64 x5 8) (IntKind.wrap .u64 (xs.getD x6 0)))else(BW .u64 x5 8)
def Lh (xs:Ad):Nat->Int
 |0=>0
 |x6+1=>IU xs x6 (Lh xs x6)
def Nk (n:Nat):Int:=AR (Lh xs n)
def bA (n:Nat) (z_:Int:=Nk xs n):Con:=⟨[lb xs,vi (n:Int)],[],.v (.int .u64 z_),[]⟩
theorem Wq (n:Nat) (hn:n<=1000):AO 137 (bA xs n):=by
 refine cy 0 func137 rfl ntmps137 λY V=>Ak [] 0 V λV=>Ak [] 0 V λV=>Ao (Ak [] 0 V λV=>BK (AD (ι:=Nat×Int) Y V (λ(x6,x5)=>(n-x6,[(5,.v (.int .u64 x5)),(6,vi ((x6:Nat):Int))],[],(x6<=n)/\(x5=Lh xs x6)/\True)) [0,1,4] [] 0 (0,0) [] ⟨Ac,rfl,aa⟩ ?_));rintro⟨x6,x5⟩ ac gs ws ⟨hx6,hq1,_⟩ V;refine Ao (Ak [] 0 V λV=>AH ((x6:Int)<(n:Int)) V (λh1=> ?_) (λh1=> ?_))
 ·refine B6 (Ay [(1,If 8)] [5] 0 V λV=>Ak [] 0 V λV=>AH ((x6:Int)<((xs.length:Nat):Int)) V (λh2=> ?_) (λh2=> ?_))
  ·exact Aw [(3,AN x6 xs.length)] [5] 0 V λV=>Cn (Aw [(1,CF x6)] [6] 0 V λV=>Ae (Av Y V (x6+1,(Ew .u64 (BW .u64 x5 8) (IntKind.wrap .u64 (xs.getD x6 0)))) [] ⟨Ac,(Bp (st:=IU _) hq1 rfl (Eq.symm (ab h2))),aa⟩))
  ·exact GT (Aw [(1,CF x6)] [6] 0 V λV=>Ae (Av Y V (x6+1,(BW .u64 x5 8)) [] ⟨Ac,(Bp (st:=IU _) hq1 rfl (Eq.symm (aj h2))),aa⟩))
 ·have hT:=V;obtain rfl:n=x6:=by omega
  obtain rfl:=hq1.symm;have V:=hT;exact DF (Ak [] 0 V λV=>AU (BX (Ab _) V))
def G9 (n:Nat):Ad:=AR (xs.take (replicate n (0:Int)).length++(replicate n (0:Int)).drop xs.length)
def rM (n:Nat) (z_:Ad:=G9 xs n):Con:=⟨[lb xs,vi (n:Int)],[],.sk 0,[(0,.sl 5 Bb z_)]⟩
theorem eB (n:Nat) (hn:n<=1000):AO 100 (rM xs n):=by exact cy 0 func100 rfl ntmps100 λY V=>Ak [] 0 V λV=>Ay [(1,mT n 1)] [] 1 V λV=>Ak [] 1 V λV=>Ak [] 1 V λV=>AU (BX (Ab _) V)
end
section
variable (l:AZ)
def RD (x4:Nat):Ad->Ad:=λx3=>x3++(l.getD x4 AW)
def Mk (l:AZ):Nat->Ad
 |0=>[]
 |x4+1=>RD l x4 (Mk l x4)
def EG:Ad:=AR (Mk l l.length)
def yL (z_:Ad:=EG l):Con:=⟨[.ls false A0 l],[],.sk 0,[(0,.sl 5 Bb z_)]⟩
theorem oF (hn:l.length<=1000) (hm:∀j,(l.getD j AW).length<=3000):AO 98 (yL l):=by
 refine cy 0 func98 rfl ntmps98 λY V=>Ak [] 0 V λV=>Ak [] 0 V λV=>Ao (Ak [] 0 V λV=>BK ?_);obtain⟨gs,V⟩:=V.nilk 3 5 Bb;refine AD (ι:=Nat×Ad) Y V (λ(x4,x3)=>(l.length-x4,[(4,vi ((x4:Nat):Int))],[(0,.sl 5 Bb x3)],(x4<=l.length)/\(x3=Mk l x4)/\(x3.length<=3000*x4)/\True)) [0,2,3] [] 1 (0,[]) [(0,0)] ⟨Ac,rfl,(by simp),aa⟩ ?_;rintro⟨x4,x3⟩ ac gs ws ⟨hx4,hq1,p1,_⟩ V;refine Ao (Ak [] 1 V λV=>AH ((x4:Int)<((l.length:Nat):Int)) V (λh1=> ?_) (λh1=> ?_))
 ·refine B6 ?_;have hmx:=hm x4;exact Aw [(3,AN x4 l.length),(5,GJ x3.length ((l.getD x4 AW).length) 1 Ac)] [3] 2 V λV=>Cn (Aw [(1,CF x4)] [4] 2 V λV=>Ae (Av Y V (x4+1,x3++(l.getD x4 AW)) [(0,1)] ⟨Ac,(Bp (st:=RD _) hq1 rfl rfl),(by rw[ah];have :=hm x4;omega),aa⟩))
 ·have hT:=V;obtain rfl:l.length=x4:=by omega
  obtain rfl:=hq1.symm;have V:=hT;exact DF (Ak [] 1 V λV=>AU (BX (Ab _) V))
theorem ZJ:EG l=l.flatten:=by
 have key:∀i,i<=l.length->Mk l i=(l.take i).flatten:=by
  intro i
  induction i with
  |zero=>intro _;rfl
  |succ i ih=>
   intro hi;show Mk l i++List.getD (α:=Ad) l i []=_;rw[ih Ac,da Ac,de,al,am Ac];simp
 unfold EG;rw[Ab];exact(key _ (an _)).trans (by rw[e_])
end
@[simp] theorem Aar (l:AZ):(EG l).length=l.flatten.length:=by rw[ZJ]
def Iw:(Nat->Int):=AR (upd (upd (upd (upd (upd (upd (upd (upd (upd (upd (upd (upd (upd (upd (upd (upd (upd (upd (upd (upd (upd (upd (upd (upd (upd (upd (upd (upd (upd (upd (upd (upd (upd (upd (upd (upd (upd (upd (upd (upd (upd (upd (upd (upd (upd (upd (upd (upd (upd (upd (upd (upd (upd (upd (upd (upd (upd (upd (upd (upd (upd (upd (upd (upd (upd (upd (upd (upd (upd (upd (upd (upd (upd (upd (upd (upd (upd (upd (upd (upd (λ_=>0) 0 4794697086780616226) 1 8158064640168781261) 2 13096744586834688815) 3 16840607885511220156) 4 4131703408338449720) 5 6480981068601479193) 6 10538285296894168987) 7 12329834152419229976) 8 15566598209576043074) 9 1334009975649890238) 10 2608012711638119052) 11 6128411473006802146) 12 8268148722764581231) 13 9286055187155687089) 14 11230858885718282805) 15 13951009754708518548) 16 16472876342353939154) 17 17275323862435702243) 18 1135362057144423861) 19 2597628984639134821) 20 3308224258029322869) 21 5365058923640841347) 22 6679025012923562964) 23 8573033837759648693) 24 10970295158949994411) 25 12119686244451234320) 26 12683024718118986047) 27 13788192230050041572) 28 14330467153632333762) 29 15395433587784984357) 30 489312712824947311) 31 1452737877330783856) 32 2861767655752347644) 33 3322285676063803686) 34 5560940570517711597) 35 5996557281743188959) 36 7280758554555802590) 37 8532644243296465576) 38 9350256976987008742) 39 10552545826968843579) 40 11727347734174303076) 41 12113106623233404929) 42 14000437183269869457) 43 14369950271660146224) 44 15101387698204529176) 45 15463397548674623760) 46 17586052441742319658) 47 1182934255886127544) 48 1847814050463011016) 49 2177327727835720531) 50 2830643537854262169) 51 3796741975233480872) 52 4115178125766777443) 53 5681478168544905931) 54 6601373596472566643) 55 7507060721942968483) 56 8399075790359081724) 57 8693463985226723168) 58 9568029438360202098) 59 10144078919501101548) 60 10430055236837252648) 61 11840083180663258601) 62 13761210420658862357) 63 14299343276471374635) 64 14566680578165727644) 65 15097957966210449927) 66 16922976911328602910) 67 17689382322260857208) 68 500013540394364858) 69 748580250866718886) 70 1242879168328830382) 71 1977374033974150939) 72 2944078676154940804) 73 3659926193048069267) 74 4368137639120453308) 75 4836135668995329356) 76 5532061633213252278) 77 6448918945643986474) 78 6902733635092675308) 79 7801388544844847127)
def aZ (z_:(Nat->Int):=Iw):Con:=⟨[],[],.ar .u64 80 z_,[]⟩
theorem Wm:AO 135 (aZ):=by exact cy 0 func135 rfl ntmps135 λY V=>Ak [] 1 V λV=>Ak [] 1 V λV=>AU (BX (Ab _) V)
def Pu:(Nat->Int):=AR (upd (upd (upd (upd (upd (upd (upd (upd (λ_=>0) 0 7640891576956012808) 1 13503953896175478587) 2 4354685564936845355) 3 11912009170470909681) 4 5840696475078001361) 5 11170449401992604703) 6 2270897969802886507) 7 6620516959819538809)
def lG (z_:(Nat->Int):=Pu):Con:=⟨[],[],.ar .u64 8 z_,[]⟩
theorem ZC:AO 136 (lG):=by exact cy 0 func136 rfl ntmps136 λY V=>Ak [] 1 V λV=>Ak [] 1 V λV=>AU (BX (Ab _) V)
@[simp] theorem PL (v:Int) (n:Nat):(D3 v n).length=n:=by
 have key:∀i,(Oy v n i).length=n:=by
  intro i
  induction i with
  |zero=>exact az
  |succ i ih=>exact(c_ ..).trans ih
 unfold D3;rw[Ab];exact key n
def Ru (x6:Nat):(Nat->Int)->(Nat->Int):=λo5_0=>upd o5_0 x6 (IntKind.wrap .u32 (Bi .u64 (Pu x6) 32))
def Ov:Nat->(Nat->Int)
 |0=>λ_=>0
 |x6+1=>Ru x6 (Ov x6)
def Rt (k2:Nat):Ad->Ad:=λx7=>x7++([0]:Ad)
def CL (xs:Ad):Nat->Ad
 |0=>([]++xs)++([128]:Ad)
 |k2+1=>Rt k2 (CL xs k2)
def Eb:Ad->Prop:=λx7=>¬(((x7.length%64:Nat):Int)=56)
def Rq (xs:Ad) (x8 x10:Nat):(Nat->Int)->(Nat->Int):=λo9_0=>upd o9_0 x10 (IntKind.wrap .u32 (Nk ((((CL xs (DX λj=>Eb (CL xs j)))++(D3 (BE .u64 ((xs.length:Nat):Int) 8) 8)).take ((x8+(4*x10))+4)).drop (x8+(4*x10))) 4))
def Ou (xs:Ad) (x8:Nat):Nat->(Nat->Int)
 |0=>λ_=>0
 |x10+1=>Rq xs x8 x10 (Ou xs x8 x10)
def Ro (k5:Nat):(Nat×(Nat->Int))->(Nat×(Nat->Int)):=λ(x11,o9_0)=>(x11+1,upd o9_0 x11 (A6 .u32 (A6 .u32 (A6 .u32 (o9_0 (x11-16)) (AV .u32 (AV .u32 (C4 (o9_0 (x11-15)) 7) (C4 (o9_0 (x11-15)) 18)) (Bi .u32 (o9_0 (x11-15)) 3))) (o9_0 (x11-7))) (AV .u32 (AV .u32 (C4 (o9_0 (x11-2)) 17) (C4 (o9_0 (x11-2)) 19)) (Bi .u32 (o9_0 (x11-2)) 10))))
def FV (xs:Ad) (x8:Nat):Nat->Nat×(Nat->Int)
 |0=>(16,Ou xs x8 16)
 |k5+1=>Ro k5 (FV xs x8 k5)
def Iu:(Nat×(Nat->Int))->Prop:=λ(x11,o9_0)=>((x11:Nat):Int)<64
section
variable (xs:Ad)
def Rn (x8 x15:Nat):(Nat->Int)->(Nat->Int):=λo14_0=>upd (upd (upd (upd (upd (upd (upd (upd (λ_=>0) 0 (A6 .u32 (A6 .u32 (A6 .u32 (A6 .u32 (A6 .u32 (o14_0 7) (AV .u32 (AV .u32 (C4 (o14_0 4) 6) (C4 (o14_0 4) 11)) (C4 (o14_0 4) 25))) (AV .u32 (BI .u32 (o14_0 4) (o14_0 5)) (BI .u32 (Lm .u32 (o14_0 4)) (o14_0 6)))) (IntKind.wrap .u32 (Bi .u64 (Iw x15) 32))) (((FV xs x8 (DX λj=>Iu (FV xs x8 j))).2) x15)) (A6 .u32 (AV .u32 (AV .u32 (C4 (o14_0 0) 2) (C4 (o14_0 0) 13)) (C4 (o14_0 0) 22)) (AV .u32 (AV .u32 (BI .u32 (o14_0 0) (o14_0 1)) (BI .u32 (o14_0 0) (o14_0 2))) (BI .u32 (o14_0 1) (o14_0 2)))))) 1 (o14_0 0)) 2 (o14_0 1)) 3 (o14_0 2)) 4 (A6 .u32 (o14_0 3) (A6 .u32 (A6 .u32 (A6 .u32 (A6 .u32 (o14_0 7) (AV .u32 (AV .u32 (C4 (o14_0 4) 6) (C4 (o14_0 4) 11)) (C4 (o14_0 4) 25))) (AV .u32 (BI .u32 (o14_0 4) (o14_0 5)) (BI .u32 (Lm .u32 (o14_0 4)) (o14_0 6)))) (IntKind.wrap .u32 (Bi .u64 (Iw x15) 32))) (((FV xs x8 (DX λj=>Iu (FV xs x8 j))).2) x15)))) 5 (o14_0 4)) 6 (o14_0 5)) 7 (o14_0 6)
def Ot (xs:Ad) (x8:Nat) (o5_0:Nat->Int):Nat->(Nat->Int)
 |0=>o5_0
 |x15+1=>Rn xs x8 x15 (Ot xs x8 o5_0 x15)
def Rm (x8:Nat) (o5_0:Nat->Int) (x20:Nat):(Nat->Int)->(Nat->Int):=λo5_0_7=>upd o5_0_7 x20 (A6 .u32 (o5_0_7 x20) ((Ot xs x8 o5_0 64) x20))
def Oq (xs:Ad) (x8:Nat) (o5_0:Nat->Int):Nat->(Nat->Int)
 |0=>o5_0
 |x20+1=>Rm xs x8 o5_0 x20 (Oq xs x8 o5_0 x20)
def Rr (k3:Nat):(Nat×(Nat->Int))->(Nat×(Nat->Int)):=λ(x8,o5_0)=>(x8+64,Oq xs x8 o5_0 8)
def FW (xs:Ad):Nat->Nat×(Nat->Int)
 |0=>(0,Ov 8)
 |k3+1=>Rr xs k3 (FW xs k3)
def Iv:(Nat×(Nat->Int))->Prop:=λ(x8,o5_0)=>((x8:Nat):Int)<((((CL xs (DX λj=>Eb (CL xs j)))++(D3 (BE .u64 ((xs.length:Nat):Int) 8) 8)).length:Nat):Int)
def Rl (x22:Nat):Ad->Ad:=λx21=>x21++(D3 (IntKind.wrap .u64 (((FW xs (DX λj=>Iv xs (FW xs j))).2) x22)) 4)
def Oo (xs:Ad):Nat->Ad
 |0=>[]
 |x22+1=>Rl xs x22 (Oo xs x22)
def IT:Ad:=AR (Oo xs 8)
def yF (z_:Ad:=IT xs):Con:=⟨[lb xs],[],.sk 0,[(0,.sl 5 Bb z_)]⟩
theorem nW (hx:xs.length<=1000000):AO 99 (yF xs):=by
 refine cy 0 func99 rfl ntmps99 λY V=>Ak [] 0 V λV=>Ay [(0,AS (Wm))] [3] 1 V λV=>Ay [(0,AS (ZC))] [4] 2 V λV=>Ak [] 3 V λV=>Ao (Ak [] 3 V λV=>BK (AD (ι:=Nat×(Nat->Int)) Y V (λ(x6,o5_0)=>(8-x6,[(6,vi ((x6:Nat):Int))],[(2,sN o5_0)],(x6<=8)/\(o5_0=Ov x6)/\True)) [0,2,3,4,5] [0,1] 3 (0,λ_=>0) [(0,0),(1,1),(2,2)] ⟨Ac,rfl,aa⟩ ?_));rintro⟨x6,o5_0⟩ ac gs ws ⟨hx6,hq1,_⟩ V;refine Ao (Ak [] 3 V λV=>AH ((x6:Int)<8) V (λh1=> ?_) (λh1=> ?_))
 ·exact B6 (Aw [(2,AN x6 8),(4,If 32),(6,AN x6 8)] [] 3 V λV=>Cn (Aw [(1,CF x6)] [6] 3 V λV=>Ae (Av Y V (x6+1,upd o5_0 x6 (IntKind.wrap .u32 (Bi .u64 (Pu x6) 32))) [(0,0),(1,1),(2,2)] ⟨Ac,(Bp (st:=Ru) hq1 rfl rfl),aa⟩)))
 ·have hT:=V;obtain rfl:8=x6:=by omega
  obtain rfl:=hq1.symm;have V:=hT;refine DF (Ay [(0,QQ),(2,GJ 0 xs.length 1),(4,GJ (([]++xs).length) 1 1)] [] 6 V λV=>Ao (BK (AD (ι:=Nat×Ad) Y V (λ(k2,x7)=>((120-x7.length%64)%64,[],[(5,.sl 5 Bb x7)],(x7=CL xs k2)/\(∀j,j<k2->Eb (CL xs j))/\(x7.length+(120-x7.length%64)%64<=xs.length+65)/\True)) [0,2,3,5,7] [0,2] 6 (0,([]++xs)++([128]:Ad)) [(0,0),(2,2),(5,5)] ⟨rfl,(λj h=>absurd h (bd j)),(by rw[ah,ah,aw,av];omega),aa⟩ ?_)));rintro⟨k2,x7⟩ ac gs ws ⟨hq2,hj2,p1,_⟩ V;refine Ao (Ay [(2,M6 x7.length 64)] [] 6 V λV=>Ik (((x7.length%64:Nat):Int)=56) V (λh2=> ?_) (λh2=> ?_))
  ·exact BR (BK (Aw [(2,GJ x7.length 1 1)] [7] 7 V λV=>Cn (Av Y V (k2+1,x7++([0]:Ad)) [(0,0),(2,2),(5,6)] ⟨(Bp (st:=Rt) hq2 rfl rfl),(Bf hj2 (by rw[<-hq2];exact h2)),(by rw[ah,aw,av];omega),aa⟩ (by show(120-(x7++[0]).length%64)%64<(120-x7.length%64)%64;rw[ah,aw,av];omega))))
  ·have hT:=V;obtain rfl:=CB (by rw[<-hq2];first |exact h2|exact cq h2) hj2;obtain rfl:=hq2.symm;have V:=hT;refine DF (Ay [(3,Jn xs.length),(5,AC (SN (BE .u64 ((xs.length:Nat):Int) 8) 8 Ac) [] [(0,6)]),(6,GJ ((CL xs (DX λj=>Eb (CL xs j))).length) ((D3 (BE .u64 ((xs.length:Nat):Int) 8) 8).length) 1)] [7] 8 V λV=>He ?_);obtain⟨gs,V⟩:=V.fz 7;have hml:((CL xs (DX λj=>Eb (CL xs j)))++(D3 (BE .u64 ((xs.length:Nat):Int) 8) 8)).length%64=0/\((CL xs (DX λj=>Eb (CL xs j)))++(D3 (BE .u64 ((xs.length:Nat):Int) 8) 8)).length<=2000000:=by rw[ah,PL];omega
   refine CW [] 8 V λV=>Ae (BK (AD (ι:=Nat×Nat×(Nat->Int)) Y V (λ(k3,x8,o5_0)=>(((CL xs (DX λj=>Eb (CL xs j)))++(D3 (BE .u64 ((xs.length:Nat):Int) 8) 8)).length-x8,[(8,vi (x8:Int))],[(2,sN o5_0)],((x8,o5_0)=FW xs k3)/\(∀j,j<k3->Iv xs (FW xs j))/\(x8%64=0)/\True)) [2,3,5,7] [0] 3 (0,0,Ov 8) [(0,0),(2,2)] ⟨rfl,(λj h=>absurd h (bd j)),(by simp),aa⟩ ?_));rintro⟨k3,x8,o5_0⟩ ac gs ws ⟨hq3,hj3,p2,_⟩ V;refine Ao (Ak [] 3 V λV=>AH ((x8:Int)<((((CL xs (DX λj=>Eb (CL xs j)))++(D3 (BE .u64 ((xs.length:Nat):Int) 8) 8)).length:Nat):Int)) V (λh3=> ?_) (λh3=> ?_))
   ·refine B6 (Ak [] 4 V λV=>Ao (Ak [] 4 V λV=>BK (AD (ι:=Nat×(Nat->Int)) Y V (λ(x10,o9_0)=>(16-x10,[(10,vi ((x10:Nat):Int))],[(3,zZ o9_0)],(x10<=16)/\(o9_0=Ou xs x8 x10)/\True)) [2,3,5,7,8,9] [0,2] 4 (0,λ_=>0) [(0,0),(2,2),(3,3)] ⟨Ac,rfl,aa⟩ ?_)));rintro⟨x10,o9_0⟩ ac gs ws ⟨hx10,hq4,_⟩ V;refine Ao (Ak [] 4 V λV=>AH ((x10:Int)<16) V (λh4=> ?_) (λh4=> ?_))
    ·exact B6 (Aw [(4,HV 4 x10 (4*x10)),(5,FA x8 (4*x10) (x8+(4*x10))),(8,HV 4 x10 (4*x10)),(9,FA x8 (4*x10) (x8+(4*x10))),(10,FA (x8+(4*x10)) 4 ((x8+(4*x10))+4)),(11,zN (x8+(4*x10)) ((x8+(4*x10))+4) ((CL xs (DX λj=>Eb (CL xs j)))++(D3 (BE .u64 ((xs.length:Nat):Int) 8) 8)).length),(12,AS (Wq ((((CL xs (DX λj=>Eb (CL xs j)))++(D3 (BE .u64 ((xs.length:Nat):Int) 8) 8)).take ((x8+(4*x10))+4)).drop (x8+(4*x10))) 4 Ac)),(14,AN x10 64)] [] 4 V λV=>Cn (Aw [(1,CF x10)] [10] 4 V λV=>Ae (Av Y V (x10+1,upd o9_0 x10 (IntKind.wrap .u32 (Nk ((((CL xs (DX λj=>Eb (CL xs j)))++(D3 (BE .u64 ((xs.length:Nat):Int) 8) 8)).take ((x8+(4*x10))+4)).drop (x8+(4*x10))) 4))) [(0,0),(2,2),(3,3)] ⟨Ac,(Bp (st:=Rq _ _) hq4 rfl rfl),aa⟩)))
    ·have hT:=V;obtain rfl:16=x10:=by omega
     obtain rfl:=hq4.symm;have V:=hT;refine I8 (Ak [] 4 V λV=>BK (AD (ι:=Nat×Nat×(Nat->Int)) Y V (λ(k5,x11,o9_0)=>(64-x11,[(11,vi (x11:Int))],[(3,zZ o9_0)],((x11,o9_0)=FV xs x8 k5)/\(∀j,j<k5->Iu (FV xs x8 j))/\(16<=x11/\x11<=64)/\True)) [2,3,5,7,8,9] [0,2] 4 (0,16,Ou xs x8 16) [(0,0),(2,2),(3,3)] ⟨rfl,(λj h=>absurd h (bd j)),Ac,aa⟩ ?_));rintro⟨k5,x11,o9_0⟩ ac gs ws ⟨hq5,hj5,p3,_⟩ V;refine Ao (Ak [] 4 V λV=>AH ((x11:Int)<64) V (λh5=> ?_) (λh5=> ?_))
     ·exact B6 (Ay [(1,Ie x11 15 (x11-15)),(2,AN (x11-15) 64),(4,AS (GG (o9_0 (x11-15)) 7 Ac)),(6,Ie x11 15 (x11-15)),(7,AN (x11-15) 64),(9,AS (GG (o9_0 (x11-15)) 18 Ac)),(12,Ie x11 15 (x11-15)),(13,AN (x11-15) 64),(15,If 3)] [] 4 V λV=>Ay [(1,Ie x11 2 (x11-2)),(2,AN (x11-2) 64),(4,AS (GG (o9_0 (x11-2)) 17 Ac)),(6,Ie x11 2 (x11-2)),(7,AN (x11-2) 64),(9,AS (GG (o9_0 (x11-2)) 19 Ac)),(12,Ie x11 2 (x11-2)),(13,AN (x11-2) 64),(15,If 10)] [] 4 V λV=>Aw [(2,Ie x11 16 (x11-16)),(3,AN (x11-16) 64),(8,Ie x11 7 (x11-7)),(9,AN (x11-7) 64),(14,AN x11 64)] [] 4 V λV=>Cn (Aw [(1,CF x11)] [11] 4 V λV=>Ae (Av Y V (k5+1,x11+1,upd o9_0 x11 (A6 .u32 (A6 .u32 (A6 .u32 (o9_0 (x11-16)) (AV .u32 (AV .u32 (C4 (o9_0 (x11-15)) 7) (C4 (o9_0 (x11-15)) 18)) (Bi .u32 (o9_0 (x11-15)) 3))) (o9_0 (x11-7))) (AV .u32 (AV .u32 (C4 (o9_0 (x11-2)) 17) (C4 (o9_0 (x11-2)) 19)) (Bi .u32 (o9_0 (x11-2)) 10)))) [(0,0),(2,2),(3,3)] ⟨(Bp (st:=Ro) hq5 rfl rfl),(Bf hj5 (by rw[<-hq5];exact h5)),Ac,aa⟩)))
     ·have hT:=V;obtain rfl:=CB (by rw[<-hq5];first |exact h5|exact cq h5) hj5;obtain⟨rfl,rfl⟩:=SU hq5;have V:=hT;refine DF (Ak [14] 5 V λV=>Ao (Ak [] 5 V λV=>BK (AD (ι:=Nat×(Nat->Int)) Y V (λ(x15,o14_0)=>(64-x15,[(15,vi ((x15:Nat):Int))],[(4,sN o14_0)],(x15<=64)/\(o14_0=Ot xs x8 o5_0 x15)/\True)) [2,3,5,7,8,9,14] [0,2,3] 5 (0,o5_0) [(0,0),(2,2),(3,3),(4,4)] ⟨Ac,rfl,aa⟩ ?_)));rintro⟨x15,o14_0⟩ ac gs ws ⟨hx15,hq6,_⟩ V;refine Ao (Ak [] 5 V λV=>AH ((x15:Int)<64) V (λh6=> ?_) (λh6=> ?_))
      ·exact B6 (Ay [(0,AN 4 8)] [] 5 V λV=>Ay [(0,AN 0 8)] [] 5 V λV=>Ay [(0,AN 7 8),(3,AS (GG (o14_0 4) 6 Ac)),(5,AS (GG (o14_0 4) 11 Ac)),(8,AS (GG (o14_0 4) 25 Ac)),(12,AN 5 8),(17,AN 6 8),(23,AN x15 80),(25,If 32),(29,AN x15 64)] [] 5 V λV=>Ay [(1,AS (GG (o14_0 0) 2 Ac)),(3,AS (GG (o14_0 0) 13 Ac)),(6,AS (GG (o14_0 0) 22 Ac)),(9,AN 1 8),(13,AN 2 8),(17,AN 1 8),(19,AN 2 8)] [] 5 V λV=>Aw [(3,AN 0 8),(5,AN 1 8),(7,AN 2 8),(9,AN 3 8),(13,AN 4 8),(15,AN 5 8),(17,AN 6 8)] [] 5 V λV=>Cn (Aw [(1,CF x15)] [15] 5 V λV=>Ae (Av Y V (x15+1,upd (upd (upd (upd (upd (upd (upd (upd (λ_=>0) 0 (A6 .u32 (A6 .u32 (A6 .u32 (A6 .u32 (A6 .u32 (o14_0 7) (AV .u32 (AV .u32 (C4 (o14_0 4) 6) (C4 (o14_0 4) 11)) (C4 (o14_0 4) 25))) (AV .u32 (BI .u32 (o14_0 4) (o14_0 5)) (BI .u32 (Lm .u32 (o14_0 4)) (o14_0 6)))) (IntKind.wrap .u32 (Bi .u64 (Iw x15) 32))) (((FV xs x8 (DX λj=>Iu (FV xs x8 j))).2) x15)) (A6 .u32 (AV .u32 (AV .u32 (C4 (o14_0 0) 2) (C4 (o14_0 0) 13)) (C4 (o14_0 0) 22)) (AV .u32 (AV .u32 (BI .u32 (o14_0 0) (o14_0 1)) (BI .u32 (o14_0 0) (o14_0 2))) (BI .u32 (o14_0 1) (o14_0 2)))))) 1 (o14_0 0)) 2 (o14_0 1)) 3 (o14_0 2)) 4 (A6 .u32 (o14_0 3) (A6 .u32 (A6 .u32 (A6 .u32 (A6 .u32 (o14_0 7) (AV .u32 (AV .u32 (C4 (o14_0 4) 6) (C4 (o14_0 4) 11)) (C4 (o14_0 4) 25))) (AV .u32 (BI .u32 (o14_0 4) (o14_0 5)) (BI .u32 (Lm .u32 (o14_0 4)) (o14_0 6)))) (IntKind.wrap .u32 (Bi .u64 (Iw x15) 32))) (((FV xs x8 (DX λj=>Iu (FV xs x8 j))).2) x15)))) 5 (o14_0 4)) 6 (o14_0 5)) 7 (o14_0 6)) [(0,0),(2,2),(3,3),(4,4)] ⟨Ac,(Bp (st:=Rn _ _) hq6 rfl rfl),aa⟩)))
      ·have hT:=V;obtain rfl:64=x15:=by omega
       obtain rfl:=hq6.symm;have V:=hT;refine DF (Ak [] 5 V λV=>BK (AD (ι:=Nat×(Nat->Int)) Y V (λ(x20,o5_0_7)=>(8-x20,[(20,vi ((x20:Nat):Int))],[(2,sN o5_0_7)],(x20<=8)/\(o5_0_7=Oq xs x8 o5_0 x20)/\True)) [2,3,5,7,8,14] [0,4] 5 (0,o5_0) [(0,0),(2,2),(4,4)] ⟨Ac,rfl,aa⟩ ?_));rintro⟨x20,o5_0_7⟩ ac gs ws ⟨hx20,hq7,_⟩ V;refine Ao (Ak [] 5 V λV=>AH ((x20:Int)<8) V (λh7=> ?_) (λh7=> ?_))
       ·exact B6 (Aw [(2,AN x20 8),(5,AN x20 8),(8,AN x20 8)] [] 5 V λV=>Cn (Aw [(1,CF x20)] [20] 5 V λV=>Ae (Av Y V (x20+1,upd o5_0_7 x20 (A6 .u32 (o5_0_7 x20) ((Ot xs x8 o5_0 64) x20))) [(0,0),(2,2),(4,4)] ⟨Ac,(Bp (st:=Rm _ _ _) hq7 rfl rfl),aa⟩)))
       ·have hT:=V;obtain rfl:8=x20:=by omega
        obtain rfl:=hq7.symm;have V:=hT;exact V8 (Aw [(1,FA x8 64 (x8+64))] [8] 5 V λV=>Ae (Av Y V (k3+1,x8+64,Oq xs x8 o5_0 8) [(0,0),(2,2)] ⟨(Bp (st:=Rr _) hq3 rfl rfl),(Bf hj3 (by rw[<-hq3];exact h3)),Ac,aa⟩))
   ·have hT:=V;obtain rfl:=CB (by rw[<-hq3];first |exact h3|exact cq h3) hj3;obtain⟨rfl,rfl⟩:=SU hq3;have V:=hT;refine DF (Ak [] 3 V λV=>Ao (Ak [] 3 V λV=>BK ?_));obtain⟨gs,V⟩:=V.nilk 21 5 Bb;refine AD (ι:=Nat×Ad) Y V (λ(x22,x21)=>(8-x22,[(22,vi ((x22:Nat):Int))],[(3,.sl 5 Bb x21)],(x22<=8)/\(x21=Oo xs x22)/\(x21.length=4*x22)/\True)) [2,5,21] [2] 4 (0,[]) [(2,2),(3,3)] ⟨Ac,rfl,rfl,aa⟩ ?_;rintro⟨x22,x21⟩ ac gs ws ⟨hx22,hq8,p4,_⟩ V;refine Ao (Ak [] 4 V λV=>AH ((x22:Int)<8) V (λh8=> ?_) (λh8=> ?_))
    ·exact B6 (Aw [(2,AN x22 8),(5,AC (SN (IntKind.wrap .u64 (((FW xs (DX λj=>Iv xs (FW xs j))).2) x22)) 4 Ac) [] [(0,4)]),(6,GJ x21.length ((D3 (IntKind.wrap .u64 (((FW xs (DX λj=>Iv xs (FW xs j))).2) x22)) 4).length) 1)] [21] 6 V λV=>Cn (Aw [(1,CF x22)] [22] 6 V λV=>Ae (Av Y V (x22+1,x21++(D3 (IntKind.wrap .u64 (((FW xs (DX λj=>Iv xs (FW xs j))).2) x22)) 4)) [(2,2),(3,5)] ⟨Ac,(Bp (st:=Rl _) hq8 rfl rfl),(by rw[ah,PL];omega),aa⟩)))
    ·have hT:=V;obtain rfl:8=x22:=by omega
     obtain rfl:=hq8.symm;have V:=hT;refine DF (Ak [] 4 V λV=>AU ?_);obtain⟨gs,V⟩:=V.rx [(0,3)] [2] [0] 1 Y;exact BX (Ab _) V
end
@[simp] theorem dW (xs:Ad):(IT xs).length=32:=by
 have key:∀i,(Oo xs i).length=4*i:=by
  intro i
  induction i with
  |zero=>rfl
  |succ i ih=>
   show(_++D3 _ _).length=_;rw[ah,PL,ih];omega
 unfold IT;rw[Ab];exact key 8
@[simp] theorem RA (xs:Ad) (n:Nat) (h:xs.length<=n):(G9 xs n).length=n:=by unfold G9;rw[Ab];rw[ah,ao,au,az];omega
theorem PK (l:AZ) (hn:l.length<=1000) (hm:∀j,(l.getD j AW).length<=3000):AO 98 ⟨[.ls false A0 l],[],lb (EG l),[]⟩:=ConOk.frz [] 0 5 Bb (EG l) (oF l hn hm) (by kernel_rfl)
theorem UF (xs:Ad) (hx:xs.length<=1000000):AO 99 ⟨[lb xs],[],lb (IT xs),[]⟩:=ConOk.frz [] 0 5 Bb (IT xs) (nW xs hx) (by kernel_rfl)
def Rv (k:Ad) (x8:Nat):(Ad×Ad)->(Ad×Ad):=λ(x6,x7)=>(x6.set x8 (AV .u8 ((G9 k 64).getD x8 0) 54),x7.set x8 (AV .u8 ((G9 k 64).getD x8 0) 92))
def GH (k:Ad):Nat->Ad×Ad
 |0=>(replicate 64 (0:Int),replicate 64 (0:Int))
 |x8+1=>Rv k x8 (GH k x8)
def HB (k xs:Ad):Ad:=AR (IT (EG [(GH k 64).2,IT (EG [(GH k 64).1,xs])]))
@[simp] theorem Pz (k xs:Ad):(HB k xs).length=32:=by unfold HB;rw[Ab];exact dW ..
section
variable (k xs:Ad)
def yI (z_:Ad:=HB k xs):Con:=⟨[lb k,lb xs],[],lb z_,[]⟩
theorem X5 (hk:k.length<=64) (hx:xs.length<=900):AO 66 (yI k xs):=by
 refine cy 0 func66 rfl ntmps66 λY V=> ?_;have hk1:¬(64:Int)<((k.length:Nat):Int):=Ac;refine Ak [] 0 V λV=>Ao (Ay [(2,CH hk1)] [] 0 V λV=>Ai V (BR (Ay [(1,AC (eB k 64 Ac) [] [(0,0)])] [] 1 V λV=>Ay [(0,mT 64 1)] [] 2 V λV=>Ay [(0,mT 64 1)] [] 3 V λV=>Ao (Ak [] 3 V λV=>BK (AD (ι:=Nat×Ad×Ad) Y V (λ(x8,x6,x7)=>(64-x8,[(8,vi ((x8:Nat):Int))],[(1,.sl 5 Bb x6),(2,.sl 5 Bb x7)],(x8<=64)/\((x6,x7)=GH k x8)/\(x6.length=64/\x7.length=64)/\True)) [1,4,5,6,7] [0] 3 (0,replicate 64 (0:Int),replicate 64 (0:Int)) [(0,0),(1,1),(2,2)] ⟨Ac,rfl,(by simp),aa⟩ ?_)))));rintro⟨x8,x6,x7⟩ ac gs ws ⟨hx8,hq1,p1,_⟩ V;refine Ao (Ak [] 3 V λV=>AH ((x8:Int)<64) V (λh1=> ?_) (λh1=> ?_))
 ·refine B6 (Ao ?_);have hfl:=RA k 64 hk;refine Aw [(4,AN x8 ((G9 k 64).length)),(7,AN x8 x6.length)] [] 3 V λV=>Ae ?_;have hfl:=RA k 64 hk;exact Aw [(4,AN x8 ((G9 k 64).length)),(7,AN x8 x7.length)] [] 3 V λV=>Cn (Aw [(1,CF x8)] [8] 3 V λV=>Ae (Av Y V (x8+1,x6.set x8 (AV .u8 ((G9 k 64).getD x8 0) 54),x7.set x8 (AV .u8 ((G9 k 64).getD x8 0) 92)) [(0,0),(1,1),(2,2)] ⟨Ac,(Bp (st:=Rv _) hq1 rfl rfl),(by rw[c_,c_];exact p1),aa⟩))
 ·have hT:=V;obtain rfl:64=x8:=by omega
  obtain⟨rfl,rfl⟩:=SU hq1;have V:=hT;refine I8 ?_;obtain⟨gs,V⟩:=V.fz 1;obtain⟨gs,V⟩:=V.fz 2;exact Aw [(4,AS (PK [(GH k 64).1,xs] Au (Tw (by repeat (first |exact WQ|(apply Tx;focus (first |omega|(simp<;>omega)))))))),(5,AS (UF (EG [(GH k 64).1,xs]) Au)),(7,AS (PK [(GH k 64).2,IT (EG [(GH k 64).1,xs])] Au (Tw (by repeat (first |exact WQ|(apply Tx;focus (first |omega|(simp<;>omega)))))))),(8,AS (UF (EG [(GH k 64).2,IT (EG [(GH k 64).1,xs])]) Au))] [] 3 V λV=>Fa (BX (Ab _) V)
def Nl (k1:Nat):(Nat×Ad×Ad)->(Nat×Ad×Ad):=λ(x9,x7,x8)=>(x9+1,x7++(HB k (EG [x8,xs,[(IntKind.wrap .u8 ((x9:Nat):Int))]])),HB k (EG [x8,xs,[(IntKind.wrap .u8 ((x9:Nat):Int))]]))
end
def EI (k xs:Ad):Nat->Nat×Ad×Ad
 |0=>(1,[],[])
 |k1+1=>Nl k xs k1 (EI k xs k1)
def Hh:(Nat×Ad×Ad)->Prop:=λ(x9,x7,x8)=>((x7.length:Nat):Int)<128
section
variable (k xs:Ad)
def SJ:Ad:=AR (((EI k xs (DX λj=>Hh (EI k xs j))).2.1).take 128)
def yJ (z_:Ad:=SJ k xs):Con:=⟨[lb k,lb xs,vi 128],[],lb z_,[]⟩
theorem oD (hk:k.length<=64) (hx:xs.length<=100):AO 65 (yJ k xs):=by
 refine cy 0 func65 rfl ntmps65 λY V=>Ak [] 0 V λV=>Ao (Ak [] 0 V λV=>Ai V (BR (Ak [] 0 V λV=>Ao (Ak [] 0 V λV=>BK ?_))));obtain⟨gs,V⟩:=V.nilk 7 5 Bb;have V:=V.wk 8 (lb []);refine AD (ι:=Nat×Nat×Ad×Ad) Y V (λ(k1,x9,x7,x8)=>(128-x7.length,[(8,lb x8),(9,vi (x9:Int))],[(0,.sl 5 Bb x7)],((x9,x7,x8)=EI k xs k1)/\(∀j,j<k1->Hh (EI k xs j))/\(x7.length<=160/\x8.length<=32/\x9<=1+x7.length)/\True)) [0,1,2,6,7] [] 1 (0,1,[],[]) [(0,0)] ⟨rfl,(λj h=>absurd h (bd j)),(by simp),aa⟩ ?_;rintro⟨k1,x9,x7,x8⟩ ac gs ws ⟨hq1,hj1,p5,_⟩ V;refine Ao (Ak [] 1 V λV=>AH (((x7.length:Nat):Int)<128) V (λh1=> ?_) (λh1=> ?_))
 ·exact B6 (Ay [(7,AS (PK [x8,xs,[(IntKind.wrap .u8 ((x9:Nat):Int))]] Au (Tw (by repeat (first |exact WQ|(apply Tx;focus (first |omega|(simp<;>omega)))))))),(8,AS (X5 k (EG [x8,xs,[(IntKind.wrap .u8 ((x9:Nat):Int))]]) Au Au))] [8] 1 V λV=>Aw [(2,GJ x7.length ((HB k (EG [x8,xs,[(IntKind.wrap .u8 (x9:Int))]])).length) 1)] [7] 2 V λV=>Cn (Aw [(1,CF x9)] [9] 2 V λV=>Ae (Av Y V (k1+1,x9+1,x7++(HB k (EG [x8,xs,[(IntKind.wrap .u8 (x9:Int))]])),HB k (EG [x8,xs,[(IntKind.wrap .u8 (x9:Int))]])) [(0,1)] ⟨(Bp (st:=Nl _ _) hq1 rfl rfl),(Bf hj1 (by rw[<-hq1];exact h1)),(by rw[ah,Pz];omega),aa⟩ (by show 128-(x7++_).length<128-x7.length;rw[ah,Pz];omega))))
 ·have hT:=V;obtain rfl:=CB (by rw[<-hq1];first |exact h1|exact cq h1) hj1;obtain⟨rfl,rfl,rfl⟩:=fE hq1;have V:=hT;refine I8 ?_;obtain⟨gs,V⟩:=V.fz 0;exact Aw [(2,Zi 128 ((EI k xs (DX λj=>Hh (EI k xs j))).2.1).length)] [] 1 V λV=>Fa (BX (Ab _) V)
def SK:Ad:=AR (SJ (HB ([]:Ad) k) xs)
def yK (z_:Ad:=SK k xs):Con:=⟨[.v (.slice none 0 0),lb k,lb xs,vi 128],[],lb z_,[]⟩
theorem oE (hk:k.length<=900) (hx:xs.length<=100):AO 33 (yK k xs):=by exact cy 0 func33 rfl ntmps33 λY V=>Ak [] 0 V λV=>Ay [(2,AS (X5 ([]:Ad) k Au Au)),(5,AS (oD (HB ([]:Ad) k) xs Au Au))] [] 0 V λV=>AU (BX (Ab _) V)
end
def Q4 (x0 x1:Nat) (x2 x3:Nat):O:= .ob 187 (Ag [vi ((x0:Nat):Int),vi ((x1:Nat):Int),vi ((x2:Nat):Int),.sk x3])
def wB (n lo hi:Int):Bool:=decide (lo<=n/\n<=hi)
theorem uJ {n lo hi:Int} (h:wB n lo hi=true):lo<=n/\n<=hi:=cj h
theorem O8 {n lo hi:Int} (h:lo<=n/\n<=hi):wB n lo hi=true:=decide_eq_true h
def O6 (n lo hi:Int):Bool:=AR (if lo<=n then decide (n<=hi)else false)
theorem Uh (n lo hi:Int):O6 n lo hi=wB n lo hi:=by
 unfold O6;rw[Ab];unfold wB;by_cases h:lo<=n
 ·rw[ab h];simp only[h,true_and]
 ·rw[aj h];simp only[h,false_and];rfl
section
variable (n lo hi:Int)
def Qx (z_:Bool:=O6 n lo hi):Con:=⟨[vi n,vi lo,vi hi],[],.v (.bool z_),[]⟩
theorem Q7:AO 116 (Qx n lo hi):=by
 refine cy 0 func116 rfl ntmps116 λY V=>Ak [] 0 V λV=>Ao ?_;by_cases h1:lo<=n
 ·exact Aw [(2,Ga h1)] [] 0 V λV=>Fa (BX (.trans (Ab _) (ab h1)) V)
 ·exact Aw [(2,CH h1)] [] 0 V λV=>Fa (BX (.trans (Ab _) (aj h1)) V)
theorem Du (hs:wB n lo hi=true):AO 116 ⟨[vi n,vi lo,vi hi],[],.v (.bool true),[]⟩:=by have h:=Q7 n lo hi;unfold Qx at h;rw[Uh,hs]at h;exact h
theorem LU (hs:wB n lo hi=false):AO 116 ⟨[vi n,vi lo,vi hi],[],.v (.bool false),[]⟩:=by have h:=Q7 n lo hi;unfold Qx at h;rw[Uh,hs]at h;exact h
end
theorem Jd (id ct:Nat) (sz ln:Nat) (hb:id<=1073741824/\1<=ct/\ct<=10000/\1<=sz/\sz<=10000/\1<=ln/\ln<=10000) (hc:ct=(ln+sz-1)/sz):AO 146 ⟨[vi (id:Int),vi (ct:Int),vi (sz:Int),vi (ln:Int)],[],.tu (Ag [.cp 0 0,vi 0]),[(0,Q4 id sz ln 1),(1,.sl 22 A8 (replicate ct none))]⟩:=by refine cy 0 func146 rfl ntmps146 λY V=> ?_;have w1:wB (id:Int) 0 1073741824=true:=(O8 ⟨by omega,by omega⟩);have w2:wB (ct:Int) 1 10000=true:=(O8 ⟨by omega,by omega⟩);have w3:wB (sz:Int) 1 10000=true:=(O8 ⟨by omega,by omega⟩);have w4:wB (ln:Int) 1 10000=true:=(O8 ⟨by omega,by omega⟩);have w5:(ct:Int)=((((ln+sz)-1)/sz:Nat):Int):=(by rw[<-hc]);refine CK [] 0 V λV=>Ao (DG [(1,AS (Du (id:Int) 0 1073741824 w1)),(5,AS (Du (ct:Int) 1 10000 w2)),(10,AS (Du (sz:Int) 1 10000 w3)),(15,AS (Du (ln:Int) 1 10000 w4)),(22,FA ln sz (ln+sz)),(23,Ie (ln+sz) 1 ((ln+sz)-1)),(25,V9 ((ln+sz)-1) sz),(26,Gd w5)] [] 0 V λV=>Ai V (BR (DG [(4,mT ct 24)] [] 2 V λV=>AU ?_)));obtain⟨gs,V⟩:=V.rx [(0,1),(1,0)] [8,9] [0,1] 2 Y;exact BN V
theorem aS (xs:Ad) (sz:Nat) (hz:1<=sz/\sz<=1000000):AO 117 ⟨[lb xs,vi (sz:Int)],[],.fn 157 (Ag []) (Ag [.im (Ag [lb xs]) 0,.im (Ag [vi (sz:Int)]) 0]),[]⟩:=by refine cy 0 func117 rfl ntmps117 λY V=> ?_;have w1:¬(sz:Int)<1:=Ac;refine Ak [] 2 V λV=>Ao (Ay [(1,CH w1)] [] 2 V λV=>Ai V (BR (Ak [] 2 V λV=>AU ?_)));obtain⟨gs,V⟩:=V.im 0;obtain⟨gs,V⟩:=V.im 1;exact BN V
abbrev zP:=Int×Int×Int×Ad
section
variable (id:Nat) (xs:Ad) (sz:Nat) (pre:List Nat)
def OB:List zP:=pre.mapIdx λj z=>((id:Int),((j:Nat):Int),(0:Int),(xs.drop (z*sz)).take sz)
theorem Mp:(OB id xs sz pre).length=pre.length:=List.length_mapIdx
theorem oQ (z:Nat):OB id xs sz (pre++[z])=OB id xs sz pre++[((id:Int),(((OB id xs sz pre).length:Nat):Int),(0:Int),(xs.drop (z*sz)).take sz)]:=by rw[Mp];unfold OB;rw[List.mapIdx_append];simp
end
theorem TK {len sz:Nat} (h:1<=sz) (k:Nat):k<(len+sz-1)/sz↔k*sz<len:=by rw[Nat.lt_div_iff_mul_lt Ac];omega
theorem Xa {len sz:Nat} (h:1<=sz):(len+sz-1)/sz<=len:=by
 rcases ci len ((len+sz-1)/sz)with h1|h1
 ·have h2:=(TK h len).1 h1;have h3:=Nat.le_mul_of_pos_right len h;omega
 ·exact h1
def Po (x39:Nat):(List (Int×Int×Int×Ad))->(List (Int×Int×Int×Ad)):=λo1=>o1.set x39 ((o1.getD x39 Hw).1,(o1.getD x39 Hw).2.1,((o1.length:Nat):Int),(o1.getD x39 Hw).2.2.2)
section
variable (id:Nat) (xs:Ad) (sz:Nat)
def Et (id:Nat) (xs:Ad) (sz:Nat):Nat->(List (Int×Int×Int×Ad))
 |0=>OB id xs sz (List.range ((xs.length+sz-1)/sz))
 |x39+1=>Po x39 (Et id xs sz x39)
def Ar:(List (Int×Int×Int×Ad)):=AR (Et id xs sz ((OB id xs sz (List.range ((xs.length+sz-1)/sz))).length))
def rG (z_:(List (Int×Int×Int×Ad)):=Ar id xs sz):Con:=⟨[vi (id:Int),lb xs,vi (sz:Int)],[],.tu (Ag [.sk 0,vi 0]),[(0,.sl 133 Oa z_)]⟩
theorem L4 (hi:id<=1073741824) (hx:1<=xs.length/\xs.length<=10000) (hz:1<=sz/\sz<=1000):AO 79 (rG id xs sz):=by
 refine aO rfl 1 (nb:=0) func79 rfl rfl ntmps79 rfl rfl rfl λg0 w0 ac gs ws Y V=> ?_;have V:=V.sp;have w1:wB (id:Int) 0 1073741824=true:=(O8 ⟨by omega,by omega⟩);have w2:wB (sz:Int) 1 1000=true:=(O8 ⟨by omega,by omega⟩);have w3:wB ((xs.length:Nat):Int) 1 10000=true:=(O8 ⟨by omega,by omega⟩);refine Ak [] 2 V λV=>Ao (Ay [(1,AS (Du (id:Int) 0 1073741824 w1)),(5,AS (Du (sz:Int) 1 1000 w2)),(11,AS (Du ((xs.length:Nat):Int) 1 10000 w3))] [] 2 V λV=>Ai V (DZ (Ay [(1,AS (D1 xs Au)),(3,AS (aS xs sz Ac))] [] 2 V λV=>BK ?_)));obtain⟨gs,V⟩:=V.nilob 1 0 133 Oa;obtain⟨gs,V⟩:=V.rn [(0,1),(1,2),(2,0)] [(3,.cp 2 0),(6,.cp 0 0),(7,vi 0),(27,.fn 157 (Ag []) (Ag [.im (Ag [lb xs]) 0,.im (Ag [vi (sz:Int)]) 0]))] [(0,.ob 129 (Ag [.sk 1])),(1,.sl 133 Oa (OB id xs sz [])),(2,M1 id)] 3 Y;refine UY (m:=1) xs sz Ac Ac Ac (λk=>TK Ac k) rfl Y (λpre=>[(0,.ob 129 (Ag [.sk 1])),(1,.sl 133 Oa (OB id xs sz pre)),(2,M1 id)]) V.st rfl rfl rfl rfl (λe=>by subst e;simp at hx) (λr pre z g1 W a1 hlt V=> ?_) (λDd Dk ac gs ws hD hDk hk hH hB V=> ?_) (by decide)
 ·have V:=SS.sp V;have hpl:=Mp id xs sz pre;have hcl:(xs.length+sz-1)/sz<=xs.length:=Xa Ac;refine rI [] aa (λ_=>[(OB id xs sz pre).length+[((id:Int),(((OB id xs sz pre).length:Nat):Int),0,(xs.drop (z*sz)).take sz)].length<=9223372036854775807,((OB id xs sz pre).length+[((id:Int),(((OB id xs sz pre).length:Nat):Int),0,(xs.drop (z*sz)).take sz)].length)*48<=140737488355328]) [] [0,2,3] 4 ⟨by simp<;>omega,by simp<;>omega,aa⟩ V uY (λac gs ws V=> ?_);simp only[oQ];exact AbX V [(0,0),(1,3),(2,2)]
 ·have hgo:=Y;have Y:=λk v h=>el.2 (SS.nm V k v h);have V:=SS.sp V;refine Cn (He ?_);have hpl:=Mp id xs sz (List.range ((xs.length+sz-1)/sz));have hcl:(xs.length+sz-1)/sz<=xs.length:=Xa Ac;rw[d_]at hpl;refine CW [] 3 V λV=>Ae (BK (AD (ι:=Nat×(List (Int×Int×Int×Ad))) Y V (λ(x39,o1)=>((OB id xs sz (List.range ((xs.length+sz-1)/sz))).length-x39,[(39,vi ((x39:Nat):Int))],[(1,.sl 133 Oa o1)],(x39<=(OB id xs sz (List.range ((xs.length+sz-1)/sz))).length)/\(o1=Et id xs sz x39)/\(o1.length=(OB id xs sz (List.range ((xs.length+sz-1)/sz))).length)/\True)) [6,7,38] [0] 3 (0,OB id xs sz (List.range ((xs.length+sz-1)/sz))) [(0,0),(1,1),(2,2)] ⟨Ac,rfl,rfl,aa⟩ ?_));rintro⟨x39,o1⟩ ac gs ws ⟨hx39,hq1,p1,_⟩ V;refine Ak [] 3 V λV=>Ao (AH ((x39:Int)<(((OB id xs sz (List.range ((xs.length+sz-1)/sz))).length:Nat):Int)) V (λh1=> ?_) (λh1=> ?_))
  ·exact B6 (Ak [] 3 V λV=>Aw [(4,AN x39 o1.length)] [] 3 V λV=>Cn (Aw [(0,CF x39)] [39] 3 V λV=>Ae (Av Y V (x39+1,o1.set x39 ((o1.getD x39 Hw).1,(o1.getD x39 Hw).2.1,((o1.length:Nat):Int),(o1.getD x39 Hw).2.2.2)) [(0,0),(1,1),(2,2)] ⟨Ac,(Bp (st:=Po) hq1 rfl rfl),(by rw[c_];exact p1),aa⟩)))
  ·have hT:=V;obtain rfl:(OB id xs sz (List.range ((xs.length+sz-1)/sz))).length=x39:=by omega
   obtain rfl:=hq1.symm;have V:=hT;refine DF (Ak [] 3 V λV=>AU ?_);have hM:Ar id xs sz=Et id xs sz ((OB id xs sz (List.range ((xs.length+sz-1)/sz))).length):=Ab _;obtain⟨V,hk⟩:=unb hk hH hB V;have Y:=hgo;obtain⟨gs,V⟩:=V.rx [(0,1),(1,0)] [6,7] [0,1] 2 Y;exact AaZ hD hDk hk (.inr rfl) V [.sk 0,vi 0] [(0,some (.sl 133 Oa (Et id xs sz ((OB id xs sz (List.range ((xs.length+sz-1)/sz))).length))))] rfl (by show EP _ [(0,.sl 133 Oa (Ar id xs sz))] true;rw[hM];first |(simp only[];exact⟨rfl,aa⟩)|exact⟨rfl,aa⟩)
end
section
variable (id ai ct:Nat) (d:Ad)
def F8:Ad×Nat:=AR (if wB (id:Int) 0 1073741824=true then(if wB (ct:Int) 0 1073741824=true then(if wB (ai:Int) 0 ((ct:Int)-1)=true then(if((d.length:Nat):Int)=0 then([],1)else(if(1000:Int)<((d.length:Nat):Int)then([],11)else(((((([]++Ah id)++Ah ai)++Ah ct)++Ah d.length)++d),0)))else([],1))else([],1))else([],1))
def VW (z_:Ad×Nat:=F8 id ai ct d):Con:=⟨[.ag (Ag [vi (id:Int),vi (ai:Int),vi (ct:Int),lb d])],[],.tu (Ag [lb (z_.1),vi ((z_.2:Nat):Int)]),[]⟩
theorem NA (hb:id<=100000000000/\ai<=100000000000/\ct<=100000000000) (hd:d.length<=100000):AO 80 (VW id ai ct d):=by
 refine cy 0 func80 rfl ntmps80 λY V=>Ak [] 1 V λV=>Ao (BK (Ao ?_));by_cases h1:wB (id:Int) 0 1073741824=true
 ·by_cases h2:wB (ct:Int) 0 1073741824=true
  ·by_cases h3:wB (ai:Int) 0 ((ct:Int)-1)=true
   ·refine Aw [(2,AS (Du (id:Int) 0 1073741824 h1)),(7,AS (Du (ct:Int) 0 1073741824 h2)),(15,Jo ((ct:Int)-1) [EO .i64 (ct:Int) 1=(ct:Int)-1] ⟨Nz Ac Ac,aa⟩),(16,AS (Du (ai:Int) 0 ((ct:Int)-1) h3))] [] 1 V λV=>Ae (AH (((d.length:Nat):Int)=0) V (λh4=> ?_) (λh4=> ?_))
    ·refine Ak [] 1 V λV=>AU (As (Aj ?_));have V:=V.wk 2 (lb []);exact BX (.trans (Ab _) ((ab h1).trans ((ab h2).trans ((ab h3).trans (ab h4))))) V
    ·refine Ak [] 1 V λV=>AH ((1000:Int)<((d.length:Nat):Int)) V (λh5=> ?_) (λh5=> ?_)
     ·refine Ak [] 1 V λV=>AU (As (Aj ?_));have V:=V.wk 2 (lb []);exact BX (.trans (Ab _) ((ab h1).trans ((ab h2).trans ((ab h3).trans ((aj h4).trans (ab h5)))))) V
     ·refine GT (Ak [] 2 V λV=>Ao ?_);have hw1:=An (n:=id) Ac;have hw2:=An (n:=ai) Ac;have hw3:=An (n:=ct) Ac;have hw4:=An (n:=d.length) Ac;exact Aw [(3,Jn id),(4,AC (LS id Ac) [(0,1)] [(1,2)]),(7,Jn ai),(8,AC (BF ([]++Ah id) ai Au Ac) [(0,1),(1,2)] [(2,3)]),(11,Jn ct),(12,AC (BF (([]++Ah id)++Ah ai) ct Au Ac) [(0,1),(1,3)] [(2,4)]),(15,AC (Db ((([]++Ah id)++Ah ai)++Ah ct) d Au Au) [(0,1),(1,4)] [(2,5)]),(16,AC (FS ((((([]++Ah id)++Ah ai)++Ah ct)++Ah d.length)++d) Au) [(0,1),(1,5)] [])] [] 6 V λV=>Fa (BX (.trans (Ab _) ((ab h1).trans ((ab h2).trans ((ab h3).trans ((aj h4).trans (aj h5)))))) V)
   ·refine Aw [(2,AS (Du (id:Int) 0 1073741824 h1)),(7,AS (Du (ct:Int) 0 1073741824 h2)),(15,Jo ((ct:Int)-1) [EO .i64 (ct:Int) 1=(ct:Int)-1] ⟨Nz Ac Ac,aa⟩),(16,AS (LU (ai:Int) 0 ((ct:Int)-1) (BH h3)))] [] 1 V λV=>Ae (AE V (Ak [] 1 V λV=>AU (As (Aj ?_))));have V:=V.wk 2 (lb []);exact BX (.trans (Ab _) ((ab h1).trans ((ab h2).trans (aj h3)))) V
  ·refine Aw [(2,AS (Du (id:Int) 0 1073741824 h1)),(7,AS (LU (ct:Int) 0 1073741824 (BH h2)))] [] 1 V λV=>Ae (AE V (Ak [] 1 V λV=>AU (As (Aj ?_))));have V:=V.wk 2 (lb []);exact BX (.trans (Ab _) ((ab h1).trans (aj h2))) V
 ·refine Aw [(2,AS (LU (id:Int) 0 1073741824 (BH h1)))] [] 1 V λV=>Ae (AE V (Ak [] 1 V λV=>AU (As (Aj ?_))));have V:=V.wk 2 (lb []);exact BX (.trans (Ab _) (aj h1)) V
end
end
end Go.Sx.Tryz
namespace Go.Sx
open Go.Mi Go.RowKit
variable [Dfr]
def V3 (P:Program) (n:Nat) (o:Oper) (L:DL) (H:Nat->Option O) (e:Eff) (d:D):Prop:=
 ∀ξ g w,HS (Cj (e.rd++Ax e.wr) H) g w->Hold L ξ g w->Pn1 P o n (LN L ξ) w λv w'=>∃g',Post H ⟨e.rd,e.wr,e.nw,d⟩ g w v g' w'
theorem Z9 {P:Program} {n:Nat} {q:Option CR} (hc:∀r,q=some r->En P r.f r.c) {L:DL} {H:Hp} {o:Oper} {e:Eff} {d:D} {ps:List Prop} (h:Qn q L H o=some (e,d,ps)) (hp:AllP ps):e.nw=[]/\V3 P n o L (A4 H) e d:=by
 obtain⟨ds,op,ty,pos,af,gu⟩:=o;unfold Qn at h;split at h
 ·rename_i q c hop;simp only at hop;subst hop;have hc:=hc q rfl;obtain⟨cl,xs,ts⟩:=c;split at h
  ·rename_i f hf;simp only at hf;subst hf;split at h
   ·rename_i f' ays hfn;cases hb:Nat.beq f' q.f&&q.chk&&ays.all D.one&&q.σ.isEmpty with
    |false=>rw[hb]at h;cases h
    |true=>
     rw[hb]at h;simp only[ap,ax,List.isEmpty_iff]at hb;obtain⟨⟨⟨b1,b2⟩,b3⟩,b4⟩:=hb;have b1:=aq b1;subst b1;cases h;have hq':=CRok.of b2;obtain⟨n1,n2⟩:=CR.need_of hp.1;have hnw:q.eff.nw=[]:=by simp only[CR.eff,b4,List.filterMap_nil]
     refine⟨hnw,λξ g w V hH=> ?_⟩;have fin:∀{vs:List Value},CS g.X g.N w (Ag ays) true vs->Calls P q.f vs.toArray w (λe w'=>∃v,e=pn v/\∃g',Post (A4 H) q.eff g w v g' w'):=λhv=>by have :=LV (es:=q.c.args.map (D.ren q.r)) hv b3;rw[n1]at this;refine(LE hq' hc n2 V (λp hp=>by rw[hnw]at hp;cases hp) this).mono λe w' ⟨v,he,g',hpo⟩=>⟨v,he,g',hpo⟩
     unfold WU at hfn;split at hfn
     ·rename_i f0 first captured as' hx has;cases he:first.isEmpty&&captured.isEmpty with
      |false=>rw[he]at hfn;cases hfn
      |true=>
       rw[he]at hfn;simp only[cond_true,Option.some.injEq,Prod.mk.injEq]at hfn;obtain⟨rfl,rfl⟩:=hfn;rw[ap,fk,fk]at he;obtain⟨rfl,rfl⟩:=he;obtain⟨vs,k1,k2,_⟩:=EJ hH has;refine Mm (first := #[]) (captured:= #[]) (B2 hH hx) hc.1 k1 ?_;simpa[CR.eff]using fin k2
     ·rename_i f0 a b as' hx has;split at hfn
      ·rename_i a' b' ha hb';simp only[Option.some.injEq,Prod.mk.injEq]at hfn;obtain⟨rfl,rfl⟩:=hfn;obtain⟨v,hv,va,vb,h1,h2,h3⟩:=Bh hH hx;cases(List.cons.inj h3).1;obtain⟨vs,k1,k2,_⟩:=EJ hH has;refine Mm hv hc.1 k1 ?_;have :=fin (EF (EF (HX ha h1) k2) (HX hb' h2));simpa[CR.eff]using this
      ·cases hfn
     ·cases hfn
   ·cases h
  ·cases h
 ·rename_i x hop;simp only at hop;subst hop;split at h
  ·rename_i t v hx;cases h;refine⟨rfl,λξ g w V hH=>U1 (B2 hH hx) ⟨g,Post.pure (rd:=[]) V.wf rfl⟩⟩
  ·cases h
 ·cases h
theorem ZN {P : Program} {n : Nat} {ops : List Oper} {ex : Ex} {q : Option CR} {p dd : Nat} (hex : M4 P n ex) (hc : ∀ r, q = some r -> En P r.f r.c) : ∀ {os : List Oper} {i : Nat} {L : DL} {H : Hp} {nb : Nat} {rows : List Rw} {ps : List Prop} {d : D} {nb' : Nat}, G5 ops ex q p dd i os L H nb = some (rows, ps, d, nb') -> AllP ps ->
  ∀(j:Nat) (b:Oper×Rw),(os.zip rows)[j]? =some b->dd.testBit (i+j)=false->
   if i+j=p then ∃e,b.2=some e/\gW ops (((os.zip rows).take j).foldl GV L) b.1=some true/\V3 P n b.1 (Bo (((os.zip rows).take j).foldl GV L) (LL ops b.1)) (A4 (((os.zip rows).take j).foldl Il H)) e d
   else M0 P n ops (((os.zip rows).take j).foldl GV L) (((os.zip rows).take j).foldl Il H) b:=by
 intro os
 induction os with
 |nil=>intro i L H nb rows ps d nb' _ _ j b hb;simp at hb
 |cons o os ih=>
  intro i L H nb rows ps d nb' h hp j b hb hdd;have tail : ∀ {r1 : Rw} {rows' : List Rw} {L' : DL} {H' : Hp} {nb2 : Nat} {ps' : List Prop} {d' : D}, rows = r1 :: rows' -> G5 ops ex q p dd (i + 1) os L' H' nb2 = some (rows', ps', d', nb') -> AllP ps' -> GV L (o, r1) = L' -> Il H (o, r1) = H' -> (∀ j', j = j' + 1 -> i + j = p -> d' = d) -> (j = 0 -> b = (o, r1) -> if i + 0 = p then ∃ e, b.2 = some e /\ gW ops L b.1 = some true /\ V3 P n b.1 (Bo L (LL ops b.1)) (A4 H) e d else M0 P n ops L H b) ->
    if i+j=p then ∃e,b.2=some e/\gW ops ((((o::os).zip rows).take j).foldl GV L) b.1=some true/\V3 P n b.1 (Bo ((((o::os).zip rows).take j).foldl GV L) (LL ops b.1)) (A4 ((((o::os).zip rows).take j).foldl Il H)) e d
    else M0 P n ops ((((o::os).zip rows).take j).foldl GV L) ((((o::os).zip rows).take j).foldl Il H) b:=by
   intro r1 rows' L' H' nb2 ps' d' hr hpl hp' hL hH hdt h0;subst hr;cases j with
   |zero=>
    have hb':(o,r1)=b:=by simpa using hb
    have :=h0 rfl hb'.symm;simpa using this
   |succ j'=>
    have hb':(os.zip rows')[j']? =some b:=by simpa using hb
    have :=ih hpl hp' j' b hb' (by rw[show i+1+j'=i+(j'+1) by omega];exact hdd);rw[show i+1+j'=i+(j'+1) by omega]at this;have e1:(((o::os).zip (r1::rows')).take (j'+1)).foldl GV L=((os.zip rows').take j').foldl GV L':=by rw[<-hL];rfl
    have e2:(((o::os).zip (r1::rows')).take (j'+1)).foldl Il H=((os.zip rows').take j').foldl Il H':=by rw[<-hH];rfl
    rw[e1,e2];by_cases hip:i+(j'+1)=p
    ·rw[ab hip]at this⊢;rw[hdt j' rfl hip]at this;exact this
    ·rw[aj hip]at this⊢;exact this
  simp only[G5]at h;cases hdi:dd.testBit i with
  |true=>
   rw[hdi]at h;simp only[cond_true]at h;obtain⟨⟨r1,r2,r3,r4⟩,h1,h2⟩:=ak.1 h;simp only[Prod.mk.injEq]at h2;obtain⟨h2a,rfl,rfl,rfl⟩:=h2;refine tail h2a.symm h1 hp rfl rfl (λ_ _ _=>rfl) λhj _=> ?_;subst hj;rw[ey,hdi]at hdd;cases hdd
  |false=>
   rw[hdi]at h;simp only[cond_false]at h;cases hg:gW ops L o with
   |none=>rw[hg]at h;cases h
   |some c=>
    rw[hg]at h;cases c with
    |false=>
     simp only at h;cases hip:Nat.beq i p with
     |true=>rw[hip]at h;cases h
     |false=>
      rw[hip]at h;simp only[cond_false]at h;obtain⟨⟨r1,r2,r3,r4⟩,h1,h2⟩:=ak.1 h;simp only[Prod.mk.injEq]at h2;obtain⟨h2a,rfl,rfl,rfl⟩:=h2;refine tail h2a.symm h1 hp rfl rfl (λ_ _ _=>rfl) λhj hb0=> ?_;subst hb0;rw[aj (λe=>by rw[ey]at e;rw[e,et]at hip;cases hip)];exact hg
    |true=>
     simp only at h;cases hip:Nat.beq i p with
     |true=>
      have hip':=aq hip;rw[hip]at h;simp only[cond_true]at h;cases he:Qn q (Bo L (LL ops o)) H o with
      |none=>rw[he]at h;cases h
      |some x=>
       obtain⟨e,d1,qs⟩:=x;rw[he]at h;simp only at h;obtain⟨⟨r1,r2,r3,r4⟩,h1,h2⟩:=ak.1 h;simp only[Prod.mk.injEq]at h2;obtain⟨h2a,rfl,rfl,rfl⟩:=h2;rw[AllP.append]at hp;refine tail h2a.symm h1 hp.2 rfl rfl (λj' hj hp2=>by omega) λhj hb0=> ?_;subst hb0;rw[ab (by omega)];exact⟨e,rfl,hg,(Z9 hc he hp.1).2⟩
     |false=>
      rw[hip]at h;simp only[cond_false]at h;cases he:ex i (Bo L (LL ops o)) H nb o with
      |none=>rw[he]at h;cases h
      |some x=>
       obtain⟨e,qs⟩:=x;rw[he]at h;simp only at h;obtain⟨⟨r1,r2,r3,r4⟩,h1,h2⟩:=ak.1 h;simp only[Prod.mk.injEq]at h2;obtain⟨h2a,rfl,rfl,rfl⟩:=h2;rw[AllP.append]at hp;refine tail h2a.symm h1 hp.2 rfl rfl (λ_ _ _=>rfl) λhj hb0=> ?_;subst hb0;rw[aj (λe=>by rw[ey]at e;rw[e,et]at hip;cases hip)];exact⟨hg,hex _ _ _ _ _ _ _ he hp.1⟩
section
variable {P:Program} {n nb nb':Nat} {l:List Oper} {rows:List Rw} {L0:DL} {H0:Hp} {S0:Nat->Prop} {g0:G} {w0:World} {Q:Exit->Act->World->Prop} {a:Act} {w:World}
theorem oB (hc : ChkR n nb nb' l rows) {i : Nat} {o : Oper} {e : Eff} {dv : D} (hz : (l.zip rows)[i]? = some (o, some e)) (hdi : Nat.blt i i = false) (hcl : ∀ i' j, C7 l i' j -> Nat.blt i' i = true -> Nat.blt j i = true) (hah : ∀ j, C7 l i j -> Nat.blt j i = true)
  (hg:gW l (((l.zip rows).take i).foldl GV L0) o=some true) (hp:V3 P n o (Bo (((l.zip rows).take i).foldl GV L0) (LL l o)) (A4 (((l.zip rows).take i).foldl Il H0)) e dv)
  (hend:∀a g w v,St n S0 g0 w0 (((l.zip rows).take i).foldl GV L0) (((l.zip rows).take (i+1)).foldl Il H0) nb' a g w->Sm g w dv v->Q (.panic [{v,recovered:=false}]) a w) (hle:nb<=nb') {K:Act->World->Prop} (h:RI n S0 g0 w0 l rows L0 H0 nb (λj=>Nat.blt j i) a w):wpOp P l.toArray Q i K a w:=by
 obtain⟨g,V,hfr,hHS,hfoot,hw⟩:=Wo (d:=λj=>Nat.blt j i) hc hz hdi hcl hah h;have ho:l[i]? =some o:=(dw.1 hz).1;unfold wpOp;simp only[db,ho];rw[ab (hw true hg)];refine .inl (hp _ g w hHS hfr.get a K Q hfr.frm ?_);rintro v w' ⟨g',hpo⟩;have eL:∀t,lw (λj=>Nat.blt j i) fL 0 (l.zip rows) (D4 L0) t=D4 (((l.zip rows).take i).foldl GV L0) t:=λt=>by have :=JU (f:=fL) (bs:=l.zip rows) (i:=0) (j:=i) (H:=D4 L0) (k:=t);rw[bu]at this;rw[this,Qi]
 have eH:∀k,lw (λj=>Nat.blt j i) fH 0 (l.zip rows) (A4 H0) k=A4 (((l.zip rows).take i).foldl Il H0) k:=λk=>by have :=JU (f:=fH) (bs:=l.zip rows) (i:=0) (j:=i) (H:=A4 H0) (k:=k);rw[bu]at this;rw[this,Qj]
 have hS1:SS n S0 g0 w0 (D4 (((l.zip rows).take i).foldl GV L0)) (A4 (((l.zip rows).take i).foldl Il H0)) (· <nb') a g w:=V.weak (λt d ht=>by rw[eL];exact ht) (λk o hk=>by rw[eH];exact hk) λk hk=>by
  rcases hk with hk|⟨j,b,hb,_,hk⟩
  ·exact ca hk hle
  ·obtain⟨_,hz'⟩:=dw.1 hb;exact(hc.name b.2 (ee hz') k hk).2
 have htake:((l.zip rows).take (i+1)).foldl Il H0=GK (some e)++((l.zip rows).take i).foldl Il H0:=by rw[List.take_add_one,hz,List.foldl_append];rfl
 have hS2:=SS.step hS1 (dst:=none) (λt h=>by cases h) hpo (L':=D4 (((l.zip rows).take i).foldl GV L0)) (H':=A4 (((l.zip rows).take (i+1)).foldl Il H0)) (nm':=(· <nb')) (λt d h=> .inr ⟨(by simp),h⟩) (λk o h=>by
  rw[htake]at h;have h:=BS.1 h;rw[Kx]at h;cases hb:Fe (GK (some e)) k with
  |none=>
   rw[hb]at h;exact .inr ⟨λhk=>HM.1 hk hb,BS.2 h⟩
  |some x=>
   rw[hb]at h;simp only[Option.some.injEq]at h;subst h;exact .inl (BS.2 hb)) (λk h=>by
  rcases h with h|h
  ·exact h
  ·obtain⟨_,hz'⟩:=dw.1 hz;exact(hc.name _ (ee hz') k h).2)
 exact hend a g' w' v hS2 hpo.r
end
def vO (n:Nat) (ops:List Oper) (ex:Ex) (q:Option CR) (p dd:Nat) (L:DL) (H:Hp) (nb:Nat):Option (List Prop×D×DL×Hp×Nat):=match G5 ops ex q p dd 0 ops L H nb with
 |some (rows,ps,d,nb')=>bif Q0 n nb nb' ops rows&&aM false ops p dd&&Nat.blt p ops.length&& !(dd.testBit p)&&Nat.ble nb nb' then some (ps,d,((ops.zip rows).take p).foldl GV L,((ops.zip rows).take (p+1)).foldl Il H,nb')else none
 |none=>none
section
variable {P:Program} {n:Nat} {ops:List Oper} {ex:Ex} {L:DL} {H:Hp} {nb:Nat} {S0:Nat->Prop} {g0 g:G} {w0 w:World} {Q:Exit->Act->World->Prop} {a:Act}
theorem UO {id : Nat} (hex : M4 P n ex) {q : Option CR} (hc : ∀ r, q = some r -> En P r.f r.c) (p dd : Nat) {ps : List Prop} {d : D} {L1 : DL} {H1 : Hp} {nb1 : Nat} (h : vO n ops ex q p dd L H nb = some (ps, d, L1, H1, nb1)) (hp : AllP ps) (V : St n S0 g0 w0 L H nb a g w)
  (hend:∀a g w v,St n S0 g0 w0 L1 H1 nb1 a g w->Sm g w d v->Q (.panic [{v,recovered:=false}]) a w):(Code.region id ops.toArray false).wp P Q a w:=by
 unfold vO at h;cases hx:G5 ops ex q p dd 0 ops L H nb with
 |none=>rw[hx]at h;cases h
 |some x=>
  obtain⟨rows,qs,d1,nb'⟩:=x;rw[hx]at h;simp only at h;cases hb:Q0 n nb nb' ops rows&&aM false ops p dd&&Nat.blt p ops.length&& !(dd.testBit p)&&Nat.ble nb nb' with
  |false=>rw[hb]at h;cases h
  |true=>
   rw[hb]at h;cases h;simp only[ap,fh,ay]at hb;obtain⟨⟨⟨⟨b1,b2⟩,b3⟩,b4⟩,b5⟩:=hb;have hck:=ChkR.of b1;have rowAt:=λj b (hz:(ops.zip rows)[j]? =some b) (hd:dd.testBit j=false)=>by have :=ZN hex hc hx hp j b hz (by rw[bu];exact hd);rw[bu]at this;exact this
   have ini:∀w,St n S0 g0 w0 L H nb a g w->RI n S0 g0 w0 ops rows L H nb (λ_=>false) a w:=λw hs=>⟨g,hs.weak (λt d ht=>by rw[KY]at ht;exact ht) (λk o hk=>by rw[KY]at hk;exact hk) λk hk=> .inl hk⟩;obtain⟨op,rp,ho,hrp,hzp⟩:=Sn hck b3;obtain⟨e,he1,he2,he3⟩:∃e,rp=some e/\_/\_:=by have :=rowAt p (op,rp) hzp b4;rw[ab rfl]at this;exact this
   subst he1;have dead:∀i,i<ops.length->dd.testBit i=true->Nat.blt p i=true:=λi hi hd=>by have :=ax.1 b2 i (el.2 hi);rw[hd]at this;simpa using this
   refine IV (λd a w=>RI n S0 g0 w0 ops rows L H nb d a w/\d p=false) ⟨ini _ V,rfl⟩ (λd d' a w hd hI=>⟨NR hck.len hd hI.1,by rw[<-hd p b3];exact hI.2⟩) (λi a w hi hI=> ?_) λa w hI=>by have :=hI.2;cases this
   have ahead_lt:∀i j,C7 ops i j->j<i:=λi j ha=>by
    induction ha with
    |edge h1 h2 h3=>exact hck.back _ _ h1 _ h2 h3
    |trans _ _ ih1 ih2=>omega
   have k1:Nat.blt i i=false:=by
    cases hb:Nat.blt i i with
    |false=>rfl
    |true=>rw[ay]at hb;omega
   have k2:∀i' j,C7 ops i' j->Nat.blt i' i=true->Nat.blt j i=true:=λi' j ha hi'=>by rw[ay]at hi'⊢;have :=ahead_lt _ _ ha;omega
   have k3:∀j,C7 ops i j->Nat.blt j i=true:=λj ha=>by rw[ay];exact ahead_lt _ _ ha
   have hpi:¬p<i:=λhlt=>by
    have :Nat.blt p i=true:=by rw[ay];exact hlt
    have h2:Nat.blt p i=false:=hI.2;rw[this]at h2;cases h2
   by_cases hip:i=p
   ·subst hip;exact oB hck hzp k1 k2 k3 he2 he3 hend (bq b5) hI.1
   ·have hnd : dd.testBit i = false := by
     cases hd:dd.testBit i with
     |false=>rfl
     |true=>
      have h1:=dead i hi hd;simp only[ay]at h1;exact absurd h1 hpi
    refine wpOp_mono (λa' w' hri=>⟨hri,?_⟩) (H5 (d:=λj=>Nat.blt j i) hck (λb hb=>by have :=rowAt i b hb hnd;rwa [aj hip]at this) hi k1 k2 k3 hI.1);show(bif Nat.beq p i then true else Nat.blt p i)=false;rw[BL (λe=>hip e.symm)];exact hI.2
end
def s7 (n:Nat) (ops:List Oper) (ex:Ex) (q:Option CR) (p dd:Nat) (L:DL) (H:Hp) (nb:Nat) (kL kH:List Nat):Option (List Prop×D×DL×Hp×Nat):=(vO n ops ex q p dd L H nb).map λx=>(x.1,x.2.1,Bo x.2.2.1 kL,FJ x.2.2.2.1 kH,x.2.2.2.2)
section
variable {n nb:Nat} {g0:G} {S0:Nat->Prop} {w0:World} {L:DL} {H:Hp} {a:Act} {g:G} {w:World} {Q:Exit->Act->World->Prop}
theorem E5 {E : bU} (hZ : XA E.P E.Z) (C : List (Nat × Rx)) (hC : CsOk E.P C) (q : Option CR) (hq : ∀ r, q = some r -> En E.P r.f r.c) (p dd : Nat) (ps : List (Nat × Rx) -> List Prop) (d : D) (kL kH : List Nat) (Lo : DL) (Ho : Hp) (nb1 : Nat) {id : Nat} {ops : List Oper}
  (h:s7 n ops (WY E C) q p dd L H nb kL kH=some (ps C,d,Lo,Ho,nb1)) (hp:AllP (ps C)) (V:St n S0 g0 w0 L H nb a g w) (hend:∀a g w v,St n S0 g0 w0 Lo Ho nb1 a g w->Sm g w d v->Q (.panic [{v,recovered:=false}]) a w):(Code.region id ops.toArray false).wp E.P Q a w:=by
 unfold s7 at h;obtain⟨⟨x1,x2,x3,x4,x5⟩,h1,h2⟩:=ak.1 h;simp only[Prod.mk.injEq]at h2;obtain⟨rfl,rfl,rfl,rfl,rfl⟩:=h2;exact UO (HP hZ hC) hq p dd h1 hp V λa g w v hS' hv=>hend a g w v (SS.weak hS' (λt d ht=>(Fl ht).2) (λk o hk=>JV hk) λ_ h=>h) hv
theorem Lx {P:Program} (hD:Dfr.ds=([]:List Deferred)) {fn:Func} {c:Con} {v:Value} (V:St n (c.foot g0) g0 w0 L H nb a g w) {d:D} (hv:Sm g w d v) (hd:d=c.res) (h1:EP H c.H1 true):bodyPost P fn (λe w'=>∃v,e=pn v/\∃g',D7 c g0 w0 v g' w') (.panic [{v,recovered:=false}]) a w:=by
 have key:∀k o,Ev c.H1 k=some o->A4 H k=some o:=by
  have :∀(r:Hc),EP H r true->∀k o,Ev r k=some o->A4 H k=some o:=by
   intro r
   induction r with
   |nil=>intro _ k o h;cases h
   |cons p r ih=>
    obtain⟨s,u⟩:=p;intro hh k o h;simp only[Ev]at h;by_cases e:s=k
    ·subst e;simp at h;subst h;exact hh.1
    ·rw[BL e]at h;exact ih hh.2 k o h
  exact this c.H1 h1
 exact⟨V.defers.trans hD,v,rfl,g,V.go,hd▸hv,V.hs.sub key,λk o hk b hb=>V.fp k o (key k o hk) b hb⟩
end
end Go.Sx
