/- General lemmas, walks. -/
import Derived.Shelf.RegionOpenPlain
import Derived.WalkKit
import Derived.Deep.LoopGhost
import Derived.Deep.RegionLaw
import Derived.Lib.Walk
import Derived.Lib.SliceRun
import Derived.Lib.SlicesDelete
import Derived.Deep.MidRow
import Derived.Test.YtmkplecnmklbfaaGreatJ5PPlays
set_option maxRecDepth 100000
set_option maxHeartbeats 1000000
set_option linter.unusedSimpArgs false
set_option linter.unusedVariables false
set_option linter.unnecessarySimpa false
set_option linter.unusedSectionVars false
namespace Go.Sx
open Go.Mi Go.RowKit
def Rb (n:Nat) (f:Nat->Int):Prop:=∀j,j<n->0<=f j/\f j<256
theorem f5 (x:Int):0<=IntKind.wrap .u8 x/\IntKind.wrap .u8 x<256:=by rw[Gb];omega
theorem J1 (a b:Int):0<=A0 .u8 a b/\A0 .u8 a b<256:=f5 _
theorem Rb.zero (f:Nat->Int):Rb 0 f:=λ_ h=>absurd h (be _)
theorem Rb.next {n:Nat} {f:Nat->Int} {v:Int} (h:Rb n f) (hv:0<=v/\v<256):Rb (n+1) (upd f n v):=λj hj=>by
 unfold upd
 split
 ·exact hv
 ·exact h j (by omega)
theorem Rb.set {n:Nat} {f:Nat->Int} {v:Int} (h:Rb n f) (i:Nat) (hv:0<=v/\v<256):Rb n (upd f i v):=λj hj=>by
 unfold upd
 split
 ·exact hv
 ·exact h j hj
theorem Abg {b:Int} (h:0<b):(Bh .u8 b 1).toNat<b.toNat:=by
 have :=AbA (a:=b) (by omega) (n:=1) (by omega)
 rw[show((1:Nat):Int)=1 from rfl]at this
 rw[this,bc,ef]
 omega
theorem Abs {a b:Int} (ha:0<=a/\a<256) (hb:0<=b/\b<256):A0 .u8 a b=((a.toNat^^^b.toNat:Nat):Int):=by
 have h:a.toNat^^^b.toNat<2^8:=Nat.xor_lt_two_pow (by omega) (by omega)
 unfold A0
 rw[Gb]
 show(((BitVec.ofInt 8 a^^^BitVec.ofInt 8 b).toNat:Nat):Int)%256=_
 rw[BitVec.toNat_xor,j7 ha,j7 hb]
 omega
theorem fT (a b:Int):A0 .u8 a b=A0 .u8 a (b%256):=by
 unfold A0
 congr 4
 show BitVec.ofInt 8 b=BitVec.ofInt 8 (b%256)
 apply gt
 rw[eS,eS]
 omega
theorem qQ {a:Int} (ha:0<=a/\a<256) (b:Int):A0 .u8 (A0 .u8 a b) b=a:=by
 have hb:0<=b%256/\b%256<256:=by omega
 rw[fT _ b,fT a b,Abs (J1 _ _) hb,Abs ha hb]
 rw[bc,Nat.xor_assoc,Nat.xor_self,Nat.xor_zero]
 omega
end Go.Sx
namespace Go.Sx.Tryz
open Go.Mi Go.RowKit Go.Sx Go.Proofs Go.Proofs.Tryz
noncomputable section
open List (replicate)
section
variable (x:Int)
def XI (k:Nat):Int:=AV ((Em .u8 (BX .u8 x (Bz .u64 (k:Int) 7)) (Bh .u8 x (FC .u64 8 (Bz .u64 (k:Int) 7)))))
def AaM (k:Nat) (z_:Int:=XI x k):Con:=⟨[.v (.int .u8 x),vi (k:Int)],[],.v (.int .u8 z_),[]⟩
theorem rO (k:Nat) (hk:k<=8):AP 212 (AaM x k):=by
 exact cy 0 func212 rfl ntmps212 λY V=>Aj [] 0 V λV=>Ay [(1,JZ k)] [] 0 V λV=>Ay [(2,P8 ((0:Int)<=(Bz .u64 (k:Int) 7)) (KZ rfl)),(6,P8 ((0:Int)<=(FC .u64 8 (Bz .u64 (k:Int) 7))) (KZ rfl))] [] 0 V λV=>AY (BV (Ab _) V)
def Hk:Int:=AV ((A0 .u8 (BX .u8 x 1) (BN .u8 (Bh .u8 x 7) 27)))
def uT (z_:Int:=Hk x):Con:=⟨[.v (.int .u8 x)],[],.v (.int .u8 z_),[]⟩
theorem IP:AP 204 (uT x):=by
 exact cy 0 func204 rfl ntmps204 λY V=>Aj [] 0 V λV=>Ay [(1,F_ 1),(3,F_ 7)] [] 0 V λV=>AY (BV (Ab _) V)
end
def Qn (k1:Nat):(Int×Int×Int)->(Int×Int×Int):=λ(x0,x1,x4)=>((Hk x0),(Bh .u8 x1 1),(A0 .u8 x4 (BN .u8 x0 (Bz .u8 x1 1))))
def J6 (a b:Int):Nat->Int×Int×Int
 |0=>(a,b,0)
 |k1+1=>Qn k1 (J6 a b k1)
def Qo:(Int×Int×Int)->Prop:=λ(x0,x1,x4)=>(0:Int)<x1
section
variable (a b:Int)
def Ip:Int:=AV (((J6 a b (D3 λj=>Qo (J6 a b j))).2.2))
def uU (z_:Int:=Ip a b):Con:=⟨[.v (.int .u8 a),.v (.int .u8 b)],[],.v (.int .u8 z_),[]⟩
theorem Vu:AP 211 (uU a b):=by
 refine cy 0 func211 rfl ntmps211 λY V=>Aj [] 0 V λV=>Ar (BC (AC (ι:=Nat×Int×Int×Int) Y V (λ(k1,x0,x1,x4)=>(x1.toNat,[(0,.v (.int .u8 x0)),(1,.v (.int .u8 x1)),(4,.v (.int .u8 x4))],[],((x0,x1,x4)=J6 a b k1)/\(∀j,j<k1->Qo (J6 a b j))/\True)) [] [] 0 (0,a,b,0) [] ⟨rfl,(λj h=>absurd h (be j)),aa⟩ ?_))
 rintro⟨k1,x0,x1,x4⟩ ac gs ws ⟨hq1,hj1,_⟩ V
 refine Ar (Aj [] 0 V λV=>AJ ((0:Int)<x1) V (λh1=> ?_) (λh1=> ?_))
 ·exact B3 (Aj [4] 0 V λV=>Aw [(1,AS (IP x0))] [0] 0 V λV=>Ck (Aw [(1,F_ 1)] [1] 0 V λV=>Ae (As Y V (k1+1,(Hk x0),(Bh .u8 x1 1),(A0 .u8 x4 (BN .u8 x0 (Bz .u8 x1 1)))) [] ⟨(Bm (st:=Qn) hq1 rfl rfl),(Br hj1 (by rw[<-hq1];exact h1)),aa⟩ (show(Bh .u8 x1 1).toNat<x1.toNat from Abg A_))))
 ·have hT:=V
  obtain rfl:=CE (by rw[<-hq1];first |exact h1|exact cq h1) hj1
  obtain⟨rfl,rfl,rfl⟩:=jL hq1
  have V:=hT
  exact Dw (Aj [4] 0 V λV=>AY (BV (Ab _) V))
end
def Oh (b:Int) (k1:Nat):(Int×Int)->(Int×Int):=λ(x3,x4)=>if(0:Int)<x4 then((Ip (Ip x3 x3) b),(x4-1))else((Ip x3 x3),(x4-1))
def Fj (b:Int):Nat->Int×Int
 |0=>(1,7)
 |k1+1=>Oh b k1 (Fj b k1)
def HD:(Int×Int)->Prop:=λ(x3,x4)=>(0:Int)<=x4
def SH (b:Int) (k2:Nat):(Int×Nat)->(Int×Nat):=λ(x5,x6)=>((A0 .u8 x5 (XI ((Fj b (D3 λj=>HD (Fj b j))).1) x6)),x6+1)
def M3 (b:Int):Nat->Int×Nat
 |0=>(((Fj b (D3 λj=>HD (Fj b j))).1),1)
 |k2+1=>SH b k2 (M3 b k2)
def SI:(Int×Nat)->Prop:=λ(x5,x6)=>(x6:Int)<5
def Og (b:Int):Int:=AV ((A0 .u8 ((M3 b (D3 λj=>SI (M3 b j))).1) 99))
theorem Zn (x:Int):0<=Og x/\Og x<256:=by unfold Og;rw[Ab];exact J1 _ _
def AaJ (b:Int) (z_:Int:=Og b):Con:=⟨[.v (.int .u8 b)],[],.v (.int .u8 z_),[]⟩
theorem rG (b:Int):AP 203 (AaJ b):=by
 refine cy 0 func203 rfl ntmps203 λY V=>Aj [] 0 V λV=>Aj [] 0 V λV=>Ar (Aj [] 0 V λV=>BC (AC (ι:=Nat×Int×Int) Y V (λ(k1,x3,x4)=>((x4+1).toNat,[(3,.v (.int .u8 x3)),(4,vi x4)],[],((x3,x4)=Fj b k1)/\(∀j,j<k1->HD (Fj b j))/\(-1<=x4/\x4<=7)/\True)) [0,2] [] 0 (0,1,7) [] ⟨rfl,(λj h=>absurd h (be j)),Ac,aa⟩ ?_))
 rintro⟨k1,x3,x4⟩ ac gs ws ⟨hq1,hj1,p1,_⟩ V
 refine Ar (Aj [] 0 V λV=>AJ ((0:Int)<=x4) V (λh1=> ?_) (λh1=> ?_))
 ·refine B3 (Ay [(2,AS (Vu x3 x3))] [3] 0 V λV=>Aj [] 0 V λV=>AJ ((0:Int)<x4) V (λh2=> ?_) (λh2=> ?_))
  ·exact Aw [(2,AS (Vu (Ip x3 x3) b))] [3] 0 V λV=>Ck (Aw [(1,Xl x4 1)] [4] 0 V λV=>Ae (As Y V (k1+1,(Ip (Ip x3 x3) b),(x4-1)) [] ⟨(Bm (st:=Oh _) hq1 rfl (Eq.symm (ah h2))),(Br hj1 (by rw[<-hq1];exact h1)),Ac,aa⟩))
  ·exact FN (Aw [(1,Xl x4 1)] [4] 0 V λV=>Ae (As Y V (k1+1,(Ip x3 x3),(x4-1)) [] ⟨(Bm (st:=Oh _) hq1 rfl (Eq.symm (aj h2))),(Br hj1 (by rw[<-hq1];exact h1)),Ac,aa⟩))
 ·have hT:=V
  obtain rfl:=CE (by rw[<-hq1];first |exact h1|exact cq h1) hj1
  obtain⟨rfl,rfl⟩:=T1 hq1
  have V:=hT
  refine Dw (Aj [] 0 V λV=>Ar (Aj [] 0 V λV=>BC (AC (ι:=Nat×Int×Nat) Y V (λ(k2,x5,x6)=>(5-x6,[(5,.v (.int .u8 x5)),(6,vi (x6:Int))],[],((x5,x6)=M3 b k2)/\(∀j,j<k2->SI (M3 b j))/\(1<=x6)/\True)) [2,3] [] 0 (0,((Fj b (D3 λj=>HD (Fj b j))).1),1) [] ⟨rfl,(λj h=>absurd h (be j)),Ac,aa⟩ ?_)))
  rintro⟨k2,x5,x6⟩ ac gs ws ⟨hq2,hj2,p2,_⟩ V
  refine Ar (Aj [] 0 V λV=>AJ ((x6:Int)<5) V (λh3=> ?_) (λh3=> ?_))
  ·exact B3 (Aw [(3,AS (rO ((Fj b (D3 λj=>HD (Fj b j))).1) x6 Ac))] [5] 0 V λV=>Ck (Aw [(1,Cu x6)] [6] 0 V λV=>Ae (As Y V (k2+1,(A0 .u8 x5 (XI ((Fj b (D3 λj=>HD (Fj b j))).1) x6)),x6+1) [] ⟨(Bm (st:=SH _) hq2 rfl rfl),(Br hj2 (by rw[<-hq2];exact h3)),Ac,aa⟩)))
  ·have hT:=V
   obtain rfl:=CE (by rw[<-hq2];first |exact h3|exact cq h3) hj2
   obtain⟨rfl,rfl⟩:=T1 hq2
   have V:=hT
   exact Dw (Aj [] 0 V λV=>AY (BV (Ab _) V))
section
variable (a b:Int) (c d:Int)
def Gp:(Nat->Int):=AV (upd (upd (upd (upd (λ_=>0) 0 (A0 .u8 (A0 .u8 a (A0 .u8 (A0 .u8 (A0 .u8 a b) c) d)) (Hk (A0 .u8 a b)))) 1 (A0 .u8 (A0 .u8 b (A0 .u8 (A0 .u8 (A0 .u8 a b) c) d)) (Hk (A0 .u8 b c)))) 2 (A0 .u8 (A0 .u8 c (A0 .u8 (A0 .u8 (A0 .u8 a b) c) d)) (Hk (A0 .u8 c d)))) 3 (A0 .u8 (A0 .u8 d (A0 .u8 (A0 .u8 (A0 .u8 a b) c) d)) (Hk (A0 .u8 d a))))
def vA (z_:(Nat->Int):=Gp a b c d):Con:=⟨[.v (.int .u8 a),.v (.int .u8 b),.v (.int .u8 c),.v (.int .u8 d)],[],.ar .u8 4 z_,[]⟩
theorem Nl:AP 205 (vA a b c d):=by
 exact cy 0 func205 rfl ntmps205 λY V=>Aj [] 1 V λV=>Aj [] 1 V λV=>Ay [(6,AS (IP (A0 .u8 a b))),(14,AS (IP (A0 .u8 b c))),(22,AS (IP (A0 .u8 c d))),(30,AS (IP (A0 .u8 d a)))] [] 1 V λV=>AY (BV (Ab _) V)
end
def Xp (x0 x1:Nat->Int):O:= .ob 258 (Jg [.ar .u8 256 x0,.ar .u8 240 x1])
def fJ (x0:Nat->Int):O:= .ob 241 (Jg [.ar .u8 16 x0])
theorem P3 {xs:Ad} (h:By xs) (j:Nat):0<=xs.getD j 0/\xs.getD j 0<256:=by
 rw[al]
 cases hx:xs[j]? with
 |none=>exact⟨Int.le_refl _,by decide⟩
 |some x=>exact h x (ee hx)
theorem yV {key:Ad} (h:By key):Rb 240 (Ey (λ_=>0) 0 (min key.length 240) (λj=>key.getD j 0)):=λj hj=>by
 unfold Ey
 cases Nat.ble 0 j&&Nat.blt j (0+min key.length 240)with
 |true=>exact P3 h _
 |false=>exact⟨Int.le_refl _,(by decide:(0:Int)<256)⟩
def QQ (x11:Nat):(Nat->Int)->(Nat->Int):=λo3_0=>upd o3_0 x11 (Og (IntKind.wrap .u8 (x11:Int)))
def B9:Nat->(Nat->Int)
 |0=>λ_=>0
 |x11+1=>QQ x11 (B9 x11)
def QO (x5:Int) (x6:Nat) (o3_1:Nat->Int) (x111:Nat):(Nat->Int)->(Nat->Int):=λo3_1_3=>upd o3_1_3 (x6+x111) (A0 .u8 (o3_1_3 ((x6+x111)-32)) ((upd (upd (upd (upd (λ_=>0) 0 (A0 .u8 ((B9 256) (Int.toNat ((λj=>o3_1 ((x6-4)+j)) 1))) x5)) 1 ((B9 256) (Int.toNat ((λj=>o3_1 ((x6-4)+j)) 2)))) 2 ((B9 256) (Int.toNat ((λj=>o3_1 ((x6-4)+j)) 3)))) 3 ((B9 256) (Int.toNat ((λj=>o3_1 ((x6-4)+j)) 0)))) x111))
def M9 (x5:Int) (x6:Nat) (o3_1:Nat->Int):Nat->(Nat->Int)
 |0=>o3_1
 |x111+1=>QO x5 x6 o3_1 x111 (M9 x5 x6 o3_1 x111)
section
variable (x6:Nat) (o3_1:Nat->Int)
def QN (x111:Nat):(Nat->Int)->(Nat->Int):=λo3_1_4=>upd o3_1_4 (x6+x111) (A0 .u8 (o3_1_4 ((x6+x111)-32)) ((upd (upd (upd (upd (λ_=>0) 0 ((B9 256) (Int.toNat ((λj=>o3_1 ((x6-4)+j)) 0)))) 1 ((B9 256) (Int.toNat ((λj=>o3_1 ((x6-4)+j)) 1)))) 2 ((B9 256) (Int.toNat ((λj=>o3_1 ((x6-4)+j)) 2)))) 3 ((B9 256) (Int.toNat ((λj=>o3_1 ((x6-4)+j)) 3)))) x111))
def M8 (x6:Nat) (o3_1:Nat->Int):Nat->(Nat->Int)
 |0=>o3_1
 |x111+1=>QN x6 o3_1 x111 (M8 x6 o3_1 x111)
def QM (x111:Nat):(Nat->Int)->(Nat->Int):=λo3_1_5=>upd o3_1_5 (x6+x111) (A0 .u8 (o3_1_5 ((x6+x111)-32)) ((λj=>o3_1 ((x6-4)+j)) x111))
end
def M7 (x6:Nat) (o3_1:Nat->Int):Nat->(Nat->Int)
 |0=>o3_1
 |x111+1=>QM x6 o3_1 x111 (M7 x6 o3_1 x111)
def Js (k2:Nat):(Int×Nat×(Nat->Int))->(Int×Nat×(Nat->Int)):=λ(x5,x6,o3_1)=>if(((x6/4)%8:Nat):Int)=0 then((Hk x5),x6+4,M9 x5 x6 o3_1 4)else(if(((x6/4)%8:Nat):Int)=4 then(x5,x6+4,M8 x6 o3_1 4)else(x5,x6+4,M7 x6 o3_1 4))
def Ki (key:Ad):Nat->Int×Nat×(Nat->Int)
 |0=>(1,32,Ey (λ_=>0) 0 (min key.length 240) (λj=>key.getD j 0))
 |k2+1=>Js k2 (Ki key k2)
def QP:(Int×Nat×(Nat->Int))->Prop:=λ(x5,x6,o3_1)=>(x6:Int)<240
section
variable (key:Ad)
def Fo:(Nat->Int)×(Nat->Int):=AV ((B9 256,(Ki key (D3 λj=>QP (Ki key j))).2.2))
theorem iW:Rb 256 (Fo key).1:=by
 have key1:∀n,Rb n (B9 n):=by
  intro n
  induction n with
  |zero=>exact Rb.zero _
  |succ n ih=>exact Rb.next ih (Zn _)
 unfold Fo;rw[Ab]
 exact key1 256
def u5 (z_:(Nat->Int)×(Nat->Int):=Fo key):Con:=⟨[lb key],[],.cp 0 0,[(0,Xp (z_.1) (z_.2))]⟩
theorem iX (hk:key.length=32) (hb:By key):AP 182 (u5 key):=by
 refine cy 0 func182 rfl ntmps182 λY V=>Aj [] 0 V λV=>Aj [] 1 V λV=>Ar (Aj [] 1 V λV=>BC (AC (ι:=Nat×(Nat->Int)) Y V (λ(x11,o3_0)=>(256-x11,[(11,vi ((x11:Nat):Int))],[(0,Xp o3_0 (λ_=>0))],(x11<=256)/\(o3_0=B9 x11)/\(Rb x11 o3_0)/\True)) [0,2,3] [] 1 (0,λ_=>0) [(0,0)] ⟨Ac,rfl,(Rb.zero _),aa⟩ ?_))
 rintro⟨x11,o3_0⟩ ac gs ws ⟨hx11,hq1,p1,_⟩ V
 refine Aj [] 1 V λV=>Ar (AJ ((x11:Int)<256) V (λh1=> ?_) (λh1=> ?_))
 ·exact B3 (Aj [] 1 V λV=>Aw [(4,AS (rG (IntKind.wrap .u8 (x11:Int)))),(7,AH x11 256)] [] 1 V λV=>Ck (Aw [(0,Cu x11)] [11] 1 V λV=>Ae (As Y V (x11+1,upd o3_0 x11 (Og (IntKind.wrap .u8 (x11:Int)))) [(0,0)] ⟨Ac,(Bm (st:=QQ) hq1 rfl rfl),(Rb.next p1 (Zn _)),aa⟩)))
 ·have hT:=V
  obtain rfl:256=x11:=by omega
  obtain rfl:=hq1.symm
  have V:=hT
  refine Dw (Ay [(3,qD [FU none none none 240 240,240<=9223372036854775807,bl none 0<bl none 240] ⟨⟨by simp only[GE]<;>omega,by simp only[GE]<;>omega,by simp only[GE]<;>omega,by simp,by simp only[bl]<;>omega,by simp only[bl]<;>omega,by simp only[bl]<;>omega⟩,by omega,by decide,aa⟩)] [] 1 V λV=>Aj [] 1 V λV=>Ar (Aj [] 1 V λV=>BC (AC (ι:=Nat×Int×Nat×(Nat->Int)) Y V (λ(k2,x5,x6,o3_1)=>(240-x6,[(5,.v (.int .u8 x5)),(6,vi (x6:Int))],[(0,Xp (B9 256) o3_1)],((x5,x6,o3_1)=Ki key k2)/\(∀j,j<k2->QP (Ki key j))/\(x6%4=0/\32<=x6/\x6<=240)/\(Rb 240 o3_1)/\True)) [2,3] [] 1 (0,1,32,Ey (λ_=>0) 0 (min key.length 240) (λj=>key.getD j 0)) [(0,0)] ⟨rfl,(λj h=>absurd h (be j)),Ac,(yV hb),aa⟩ ?_)))
  rintro⟨k2,x5,x6,o3_1⟩ ac gs ws ⟨hq2,hj2,p2,p4,_⟩ V
  refine Ar (Aj [] 1 V λV=>AJ ((x6:Int)<240) V (λh2=> ?_) (λh2=> ?_))
  ·refine B3 (Ay [(4,IM x6 4 (x6-4)),(6,qD [FU (some ((x6-4:Nat):Int)) (some (x6:Int)) none 240 240,240<=9223372036854775807,bl (some ((x6-4:Nat):Int)) 0<bl none 240] ⟨⟨by simp only[GE]<;>omega,by simp only[GE]<;>omega,by simp only[GE]<;>omega,by simp,by simp only[bl]<;>omega,by simp only[bl]<;>omega,by simp only[bl]<;>omega⟩,by omega,by simp only[bl]<;>omega,aa⟩),(7,R8 .frz [4<=x6-(x6-4)] ⟨by omega,aa⟩),(8,R8 (.at 1 (x6-4)) [256+(x6-4)=Vd (([.ar .u8 256 (B9 256),.ar .u8 240 o3_1]:List D).take 1)+(x6-4),(x6-4)+4<=240] ⟨rfl,by omega,aa⟩)] [7] 2 V λV=>Ar (Ay [(1,Vk x6 4),(2,MA (x6/4) 8)] [] 2 V λV=>BC (Aj [] 2 V λV=>AJ ((((x6/4)%8:Nat):Int)=0) V (λh3=> ?_) (λh3=> ?_))))
   ·refine Ar ?_
    have hr0:0<=(λj=>o3_1 (x6-4+j)) 0/\(λj=>o3_1 (x6-4+j)) 0<256:=p4 (x6-4+0) Ac
    have hr1:0<=(λj=>o3_1 (x6-4+j)) 1/\(λj=>o3_1 (x6-4+j)) 1<256:=p4 (x6-4+1) Ac
    have hr2:0<=(λj=>o3_1 (x6-4+j)) 2/\(λj=>o3_1 (x6-4+j)) 2<256:=p4 (x6-4+2) Ac
    have hr3:0<=(λj=>o3_1 (x6-4+j)) 3/\(λj=>o3_1 (x6-4+j)) 3<256:=p4 (x6-4+3) Ac
    refine Aw [(1,AH 1 4),(5,Ty ((λj=>o3_1 ((x6-4)+j)) 1) 256),(10,AH 2 4),(14,Ty ((λj=>o3_1 ((x6-4)+j)) 2) 256),(17,AH 3 4),(21,Ty ((λj=>o3_1 ((x6-4)+j)) 3) 256),(24,AH 0 4),(28,Ty ((λj=>o3_1 ((x6-4)+j)) 0) 256)] [] 2 V λV=>Ae (Aw [(1,AS (IP x5))] [5] 2 V λV=>Ck (Aj [] 2 V λV=>BC (AC (ι:=Nat×(Nat->Int)) Y V (λ(x111,o3_1_3)=>(4-x111,[(111,vi ((x111:Nat):Int))],[(0,Xp (B9 256) o3_1_3)],(x111<=4)/\(o3_1_3=M9 x5 x6 o3_1 x111)/\(Rb 240 o3_1_3)/\True)) [2,3,5,6,7] [1] 2 (0,o3_1) [(0,0),(1,1)] ⟨Ac,rfl,p4,aa⟩ ?_)))
    rintro⟨x111,o3_1_3⟩ ac gs ws ⟨hx111,hq3,p5,_⟩ V
    refine Aj [] 2 V λV=>Ar (AJ ((x111:Int)<4) V (λh4=> ?_) (λh4=> ?_))
    ·exact B3 (Aj [] 2 V λV=>Aw [(3,FW x6 x111 (x6+x111)),(7,FW x6 x111 (x6+x111)),(8,IM (x6+x111) 32 ((x6+x111)-32)),(11,AH ((x6+x111)-32) 240),(14,AH x111 4),(19,AH (x6+x111) 240)] [] 2 V λV=>Ck (Aw [(0,Cu x111)] [111] 2 V λV=>Ae (As Y V (x111+1,upd o3_1_3 (x6+x111) (A0 .u8 (o3_1_3 ((x6+x111)-32)) ((upd (upd (upd (upd (λ_=>0) 0 (A0 .u8 ((B9 256) (Int.toNat ((λj=>o3_1 ((x6-4)+j)) 1))) x5)) 1 ((B9 256) (Int.toNat ((λj=>o3_1 ((x6-4)+j)) 2)))) 2 ((B9 256) (Int.toNat ((λj=>o3_1 ((x6-4)+j)) 3)))) 3 ((B9 256) (Int.toNat ((λj=>o3_1 ((x6-4)+j)) 0)))) x111))) [(0,0),(1,1)] ⟨Ac,(Bm (st:=QO _ _ _) hq3 rfl rfl),(Rb.set p5 _ (J1 _ _)),aa⟩)))
    ·have hT:=V
     obtain rfl:4=x111:=by omega
     obtain rfl:=hq3.symm
     have V:=hT
     exact Vh (Aw [(1,FW x6 4 (x6+4))] [6] 2 V λV=>Ae (As Y V (k2+1,(Hk x5),x6+4,M9 x5 x6 o3_1 4) [(0,0)] ⟨(Bm (st:=Js) hq2 rfl (Eq.symm (ah h3))),(Br hj2 (by rw[<-hq2];exact h2)),Ac,p5,aa⟩))
   ·refine Aj [] 2 V λV=>AJ ((((x6/4)%8:Nat):Int)=4) V (λh5=> ?_) (λh5=> ?_)
    ·have hr0:0<=(λj=>o3_1 (x6-4+j)) 0/\(λj=>o3_1 (x6-4+j)) 0<256:=p4 (x6-4+0) Ac
     have hr1:0<=(λj=>o3_1 (x6-4+j)) 1/\(λj=>o3_1 (x6-4+j)) 1<256:=p4 (x6-4+1) Ac
     have hr2:0<=(λj=>o3_1 (x6-4+j)) 2/\(λj=>o3_1 (x6-4+j)) 2<256:=p4 (x6-4+2) Ac
     have hr3:0<=(λj=>o3_1 (x6-4+j)) 3/\(λj=>o3_1 (x6-4+j)) 3<256:=p4 (x6-4+3) Ac
     refine Aw [(1,AH 0 4),(5,Ty ((λj=>o3_1 ((x6-4)+j)) 0) 256),(8,AH 1 4),(12,Ty ((λj=>o3_1 ((x6-4)+j)) 1) 256),(15,AH 2 4),(19,Ty ((λj=>o3_1 ((x6-4)+j)) 2) 256),(22,AH 3 4),(26,Ty ((λj=>o3_1 ((x6-4)+j)) 3) 256)] [] 2 V λV=>Ck (Aj [] 2 V λV=>BC (AC (ι:=Nat×(Nat->Int)) Y V (λ(x111,o3_1_4)=>(4-x111,[(111,vi ((x111:Nat):Int))],[(0,Xp (B9 256) o3_1_4)],(x111<=4)/\(o3_1_4=M8 x6 o3_1 x111)/\(Rb 240 o3_1_4)/\True)) [2,3,5,6,7] [1] 2 (0,o3_1) [(0,0),(1,1)] ⟨Ac,rfl,p4,aa⟩ ?_))
     rintro⟨x111,o3_1_4⟩ ac gs ws ⟨hx111,hq4,p5,_⟩ V
     refine Aj [] 2 V λV=>Ar (AJ ((x111:Int)<4) V (λh6=> ?_) (λh6=> ?_))
     ·exact B3 (Aj [] 2 V λV=>Aw [(3,FW x6 x111 (x6+x111)),(7,FW x6 x111 (x6+x111)),(8,IM (x6+x111) 32 ((x6+x111)-32)),(11,AH ((x6+x111)-32) 240),(14,AH x111 4),(19,AH (x6+x111) 240)] [] 2 V λV=>Ck (Aw [(0,Cu x111)] [111] 2 V λV=>Ae (As Y V (x111+1,upd o3_1_4 (x6+x111) (A0 .u8 (o3_1_4 ((x6+x111)-32)) ((upd (upd (upd (upd (λ_=>0) 0 ((B9 256) (Int.toNat ((λj=>o3_1 ((x6-4)+j)) 0)))) 1 ((B9 256) (Int.toNat ((λj=>o3_1 ((x6-4)+j)) 1)))) 2 ((B9 256) (Int.toNat ((λj=>o3_1 ((x6-4)+j)) 2)))) 3 ((B9 256) (Int.toNat ((λj=>o3_1 ((x6-4)+j)) 3)))) x111))) [(0,0),(1,1)] ⟨Ac,(Bm (st:=QN _ _) hq4 rfl rfl),(Rb.set p5 _ (J1 _ _)),aa⟩)))
     ·have hT:=V
      obtain rfl:4=x111:=by omega
      obtain rfl:=hq4.symm
      have V:=hT
      exact Vh (Aw [(1,FW x6 4 (x6+4))] [6] 2 V λV=>Ae (As Y V (k2+1,x5,x6+4,M8 x6 o3_1 4) [(0,0)] ⟨(Bm (st:=Js) hq2 rfl (Eq.symm ((aj h3).trans (ah h5)))),(Br hj2 (by rw[<-hq2];exact h2)),Ac,p5,aa⟩))
    ·refine FN (Aj [] 2 V λV=>BC (AC (ι:=Nat×(Nat->Int)) Y V (λ(x111,o3_1_5)=>(4-x111,[(111,vi ((x111:Nat):Int))],[(0,Xp (B9 256) o3_1_5)],(x111<=4)/\(o3_1_5=M7 x6 o3_1 x111)/\(Rb 240 o3_1_5)/\True)) [2,3,5,6,7] [1] 2 (0,o3_1) [(0,0),(1,1)] ⟨Ac,rfl,p4,aa⟩ ?_))
     rintro⟨x111,o3_1_5⟩ ac gs ws ⟨hx111,hq5,p5,_⟩ V
     refine Aj [] 2 V λV=>Ar (AJ ((x111:Int)<4) V (λh7=> ?_) (λh7=> ?_))
     ·exact B3 (Aj [] 2 V λV=>Aw [(3,FW x6 x111 (x6+x111)),(7,FW x6 x111 (x6+x111)),(8,IM (x6+x111) 32 ((x6+x111)-32)),(11,AH ((x6+x111)-32) 240),(14,AH x111 4),(19,AH (x6+x111) 240)] [] 2 V λV=>Ck (Aw [(0,Cu x111)] [111] 2 V λV=>Ae (As Y V (x111+1,upd o3_1_5 (x6+x111) (A0 .u8 (o3_1_5 ((x6+x111)-32)) ((λj=>o3_1 ((x6-4)+j)) x111))) [(0,0),(1,1)] ⟨Ac,(Bm (st:=QM _ _) hq5 rfl rfl),(Rb.set p5 _ (J1 _ _)),aa⟩)))
     ·have hT:=V
      obtain rfl:4=x111:=by omega
      obtain rfl:=hq5.symm
      have V:=hT
      exact Vh (Aw [(1,FW x6 4 (x6+4))] [6] 2 V λV=>Ae (As Y V (k2+1,x5,x6+4,M7 x6 o3_1 4) [(0,0)] ⟨(Bm (st:=Js) hq2 rfl (Eq.symm ((aj h3).trans (aj h5)))),(Br hj2 (by rw[<-hq2];exact h2)),Ac,p5,aa⟩))
  ·have hT:=V
   obtain rfl:=CE (by rw[<-hq2];first |exact h2|exact cq h2) hj2
   obtain⟨rfl,rfl,rfl⟩:=jL hq2
   have V:=hT
   exact Dw (Aj [] 1 V λV=>AY (BV (Ab _) V))
end
def Nn (t:Nat->Int):Nat->Nat->Int
 |0=>t
 |i+1=>if i%4=3 then Ey (Nn t i) (i-3) (min ((List.range 4).map (Gp (Nn t i (i-3)) (Nn t i (i-2)) (Nn t i (i-1)) (Nn t i i))).length (16-(i-3))) (λj=>((List.range 4).map (Gp (Nn t i (i-3)) (Nn t i (i-2)) (Nn t i (i-1)) (Nn t i i))).getD j 0)else Nn t i
def RX (g:Nat->Int) (x12:Nat):(Nat->Int)->(Nat->Int):=λo3_0=>upd o3_0 x12 (A0 .u8 (o3_0 x12) (g x12))
def NW (g s:Nat->Int):Nat->(Nat->Int)
 |0=>s
 |x12+1=>RX g x12 (NW g s x12)
section
variable (f:Nat->Int)
def RS (o3_0:Nat->Int) (x31:Nat):(Nat->Int)->(Nat->Int):=λo7_0=>upd o7_0 x31 (f (Int.toNat (o3_0 ((x31+((x31%4)*4))%16))))
def FH (f o3_0:Nat->Int):Nat->(Nat->Int)
 |0=>λ_=>0
 |x31+1=>RS f o3_0 x31 (FH f o3_0 x31)
def RR (g:Nat->Int) (x6:Nat) (o3_0:Nat->Int) (x78:Nat):(Nat->Int)->(Nat->Int):=λo3_0_5=>upd o3_0_5 x78 (A0 .u8 ((FH f o3_0 16) x78) (g ((x6*16)+x78)))
def NV (f g:Nat->Int) (x6:Nat) (o3_0:Nat->Int):Nat->(Nat->Int)
 |0=>o3_0
 |x78+1=>RR f g x6 o3_0 x78 (NV f g x6 o3_0 x78)
def RQ (g:Nat->Int) (x6:Nat) (o3_0:Nat->Int) (x78:Nat):(Nat->Int)->(Nat->Int):=λo3_0_6=>upd o3_0_6 x78 (A0 .u8 ((Nn (FH f o3_0 16) 16) x78) (g ((x6*16)+x78)))
def NU (f g:Nat->Int) (x6:Nat) (o3_0:Nat->Int):Nat->(Nat->Int)
 |0=>o3_0
 |x78+1=>RQ f g x6 o3_0 x78 (NU f g x6 o3_0 x78)
def My (g:Nat->Int) (k2:Nat):(Nat×(Nat->Int))->(Nat×(Nat->Int)):=λ(x6,o3_0)=>if((x6:Nat):Int)<14 then(x6+1,NU f g x6 o3_0 16)else(x6+1,NV f g x6 o3_0 16)
end
def KV (f g s:Nat->Int):Nat->Nat×(Nat->Int)
 |0=>(1,NW g s 16)
 |k2+1=>My f g k2 (KV f g s k2)
def RU:(Nat×(Nat->Int))->Prop:=λ(x6,o3_0)=>((x6:Nat):Int)<=14
section
variable (f g s:Nat->Int)
def P5:(Nat->Int):=AV ((KV f g s (D3 λj=>RU (KV f g s j))).2)
def vJ (z_:(Nat->Int):=P5 f g s):Con:=Cq [.cp 0 0,.ar .u8 16 s] [(0,Xp f g)] (.ar .u8 16 z_)
theorem pR (hf:Rb 256 f):AP 183 (vJ f g s):=by
 refine cy 1 func183 rfl ntmps183 λY V=>Aj [] 3 V λV=>Ar (Aj [] 3 V λV=>BC (AC (ι:=Nat×(Nat->Int)) Y V (λ(x12,o3_0)=>(16-x12,[(12,vi ((x12:Nat):Int))],[(1,fJ o3_0)],(x12<=16)/\(o3_0=NW g s x12)/\(Rb x12 o3_0)/\True)) [0,3,4] [0,2] 3 (0,s) [(0,0),(1,1),(2,2)] ⟨Ac,rfl,(Rb.zero _),aa⟩ ?_))
 rintro⟨x12,o3_0⟩ ac gs ws ⟨hx12,hq1,p1,_⟩ V
 refine Aj [] 3 V λV=>Ar (AJ ((x12:Int)<16) V (λh1=> ?_) (λh1=> ?_))
 ·exact B3 (Aj [] 3 V λV=>Aw [(1,AH x12 16),(7,AH x12 240),(10,AH x12 16)] [] 3 V λV=>Ck (Aw [(0,Cu x12)] [12] 3 V λV=>Ae (As Y V (x12+1,upd o3_0 x12 (A0 .u8 (o3_0 x12) (g x12))) [(0,0),(1,1),(2,2)] ⟨Ac,(Bm (st:=RX _) hq1 rfl rfl),(Rb.next p1 (J1 _ _)),aa⟩)))
 ·have hT:=V
  obtain rfl:16=x12:=by omega
  obtain rfl:=hq1.symm
  have V:=hT
  refine JH (Aj [] 3 V λV=>BC (AC (ι:=Nat×Nat×(Nat->Int)) Y V (λ(k2,x6,o3_0)=>(15-x6,[(6,vi (x6:Int))],[(1,fJ o3_0)],((x6,o3_0)=KV f g s k2)/\(∀j,j<k2->RU (KV f g s j))/\(1<=x6/\x6<=15)/\(Rb 16 o3_0)/\True)) [0,3,4] [0,2] 3 (0,1,NW g s 16) [(0,0),(1,1),(2,2)] ⟨rfl,(λj h=>absurd h (be j)),Ac,p1,aa⟩ ?_))
  rintro⟨k2,x6,o3_0⟩ ac gs ws ⟨hq2,hj2,p2,p3,_⟩ V
  refine Ar (Aj [] 3 V λV=>AJ ((x6:Int)<=14) V (λh2=> ?_) (λh2=> ?_))
  ·refine B3 (Aj [] 4 V λV=>Ar (Aj [] 4 V λV=>BC (AC (ι:=Nat×(Nat->Int)) Y V (λ(x31,o7_0)=>(16-x31,[(31,vi ((x31:Nat):Int))],[(3,fJ o7_0)],(x31<=16)/\(o7_0=FH f o3_0 x31)/\True)) [0,3,4,6,7] [0,1,2] 4 (0,λ_=>0) [(0,0),(1,1),(2,2),(3,3)] ⟨Ac,rfl,aa⟩ ?_)))
   rintro⟨x31,o7_0⟩ ac gs ws ⟨hx31,hq3,_⟩ V
   refine Aj [] 4 V λV=>Ar (AJ ((x31:Int)<16) V (λh3=> ?_) (λh3=> ?_))
   ·refine B3 (Aj [] 4 V λV=> ?_)
    have hq13:=p3 ((x31+x31%4*4)%16) Ac
    exact Aw [(4,MA x31 4),(5,IC (x31%4) 4 ((x31%4)*4)),(6,FW x31 ((x31%4)*4) (x31+((x31%4)*4))),(7,MA (x31+((x31%4)*4)) 16),(8,AH ((x31+((x31%4)*4))%16) 16),(12,Ty (o3_0 ((x31+((x31%4)*4))%16)) 256),(14,AH x31 16)] [] 4 V λV=>Ck (Aw [(0,Cu x31)] [31] 4 V λV=>Ae (As Y V (x31+1,upd o7_0 x31 (f (Int.toNat (o3_0 ((x31+((x31%4)*4))%16))))) [(0,0),(1,1),(2,2),(3,3)] ⟨Ac,(Bm (st:=RS _ _) hq3 rfl rfl),aa⟩))
   ·have hT:=V
    obtain rfl:16=x31:=by omega
    obtain rfl:=hq3.symm
    have V:=hT
    refine JH (Aj [] 4 V λV=>BC (AC (ι:=Nat×(Nat->Int)) Y V (λ(x9,tt)=>(16-x9,[(9,vi ((x9:Nat):Int))],[(3,fJ tt)],(x9%4=0/\x9<=16)/\(x9=0\/x6<14)/\(tt=Nn (FH f o3_0 16) x9)/\True)) [0,3,4,6,7] [0,1,2] 4 (0,FH f o3_0 16) [(0,0),(1,1),(2,2),(3,3)] ⟨Ac,Ac,rfl,aa⟩ ?_))
    rintro⟨x9,tt⟩ ac gs ws ⟨px,pt,ht,_⟩ V
    refine Ii ?_
    have hT:=V
    rcases(by omega:x9=0\/x9=4\/x9=8\/x9=12\/x9=16)with rfl|rfl|rfl|rfl|rfl
    ·have V:=hT
     refine Dl [] 4 V λV=>Ae (AJ ((x6:Int)<14) V (λh4=> ?_) (λh4=> ?_))
     ·exact B3 (Ay [(1,AH 0 16),(5,AH 1 16),(9,AH 2 16),(13,AH 3 16),(15,AS (Nl (tt 0) (tt 1) (tt 2) (tt 3)))] [10] 5 V λV=>Aw [(1,qD [FU (some 0) none none 16 16,16<=9223372036854775807,bl (some 0) 0<bl none 16] ⟨⟨by simp only[GE]<;>omega,by simp only[GE]<;>omega,by simp only[GE]<;>omega,by simp,by simp only[bl]<;>omega,by simp only[bl]<;>omega,by simp only[bl]<;>omega⟩,by omega,by decide,aa⟩),(2,R8 .frz [] aa)] [] 5 V λV=>Ck (Dl [9] 5 V λV=>Ae (As Y V (4,Ey tt 0 (min ((List.range 4).map (Gp (tt 0) (tt 1) (tt 2) (tt 3))).length 16) (λj=>((List.range 4).map (Gp (tt 0) (tt 1) (tt 2) (tt 3))).getD j 0)) [(0,0),(1,1),(2,2),(3,3)] ⟨Ac,Ac,(by rw[ht];rfl),aa⟩)))
     ·obtain rfl:FH f o3_0 16=tt:=ht.symm
      refine Dw (Aj [] 4 V λV=>BC (AC (ι:=Nat×(Nat->Int)) Y V (λ(x78,o3_0_5)=>(16-x78,[(78,vi ((x78:Nat):Int))],[(1,fJ o3_0_5)],(x78<=16)/\(o3_0_5=NV f g x6 o3_0 x78)/\(Rb x78 o3_0_5)/\True)) [0,3,4,6,7] [0,2,3] 4 (0,o3_0) [(0,0),(1,1),(2,2),(3,3)] ⟨Ac,rfl,(Rb.zero _),aa⟩ ?_))
      rintro⟨x78,o3_0_5⟩ ac gs ws ⟨hx78,hq5,p6,_⟩ V
      refine Aj [] 4 V λV=>Ar (AJ ((x78:Int)<16) V (λh5=> ?_) (λh5=> ?_))
      ·exact B3 (Aj [] 4 V λV=>Aw [(2,AH x78 16),(6,IC x6 16 (x6*16)),(8,FW (x6*16) x78 ((x6*16)+x78)),(11,AH ((x6*16)+x78) 240),(14,AH x78 16)] [] 4 V λV=>Ck (Aw [(0,Cu x78)] [78] 4 V λV=>Ae (As Y V (x78+1,upd o3_0_5 x78 (A0 .u8 ((FH f o3_0 16) x78) (g ((x6*16)+x78)))) [(0,0),(1,1),(2,2),(3,3)] ⟨Ac,(Bm (st:=RR _ _ _ _) hq5 rfl rfl),(Rb.next p6 (J1 _ _)),aa⟩)))
      ·have hT:=V
       obtain rfl:16=x78:=by omega
       obtain rfl:=hq5.symm
       have V:=hT
       exact Vh (Aw [(1,Cu x6)] [6] 4 V λV=>Ae (As Y V (k2+1,x6+1,NV f g x6 o3_0 16) [(0,0),(1,1),(2,2)] ⟨(Bm (st:=My _ _) hq2 rfl (Eq.symm (aj h4))),(Br hj2 (by rw[<-hq2];exact h2)),Ac,p6,aa⟩))
    ·have V:=hT
     have hturn:(x6:Int)<14:=by omega
     exact Aw [(4,Gv hturn)] [] 4 V λV=>Ae (AG V (B3 (Ay [(1,AH 4 16),(5,AH 5 16),(9,AH 6 16),(13,AH 7 16),(15,AS (Nl (tt 4) (tt 5) (tt 6) (tt 7)))] [10] 5 V λV=>Aw [(1,qD [FU (some 4) none none 16 16,16<=9223372036854775807,bl (some 4) 0<bl none 16] ⟨⟨by simp only[GE]<;>omega,by simp only[GE]<;>omega,by simp only[GE]<;>omega,by simp,by simp only[bl]<;>omega,by simp only[bl]<;>omega,by simp only[bl]<;>omega⟩,by omega,by decide,aa⟩),(2,R8 .frz [] aa)] [] 5 V λV=>Ck (Dl [9] 5 V λV=>Ae (As Y V (8,Ey tt 4 (min ((List.range 4).map (Gp (tt 4) (tt 5) (tt 6) (tt 7))).length 12) (λj=>((List.range 4).map (Gp (tt 4) (tt 5) (tt 6) (tt 7))).getD j 0)) [(0,0),(1,1),(2,2),(3,3)] ⟨Ac,Ac,(by rw[ht];rfl),aa⟩)))))
    ·have V:=hT
     have hturn:(x6:Int)<14:=by omega
     exact Aw [(4,Gv hturn)] [] 4 V λV=>Ae (AG V (B3 (Ay [(1,AH 8 16),(5,AH 9 16),(9,AH 10 16),(13,AH 11 16),(15,AS (Nl (tt 8) (tt 9) (tt 10) (tt 11)))] [10] 5 V λV=>Aw [(1,qD [FU (some 8) none none 16 16,16<=9223372036854775807,bl (some 8) 0<bl none 16] ⟨⟨by simp only[GE]<;>omega,by simp only[GE]<;>omega,by simp only[GE]<;>omega,by simp,by simp only[bl]<;>omega,by simp only[bl]<;>omega,by simp only[bl]<;>omega⟩,by omega,by decide,aa⟩),(2,R8 .frz [] aa)] [] 5 V λV=>Ck (Dl [9] 5 V λV=>Ae (As Y V (12,Ey tt 8 (min ((List.range 4).map (Gp (tt 8) (tt 9) (tt 10) (tt 11))).length 8) (λj=>((List.range 4).map (Gp (tt 8) (tt 9) (tt 10) (tt 11))).getD j 0)) [(0,0),(1,1),(2,2),(3,3)] ⟨Ac,Ac,(by rw[ht];rfl),aa⟩)))))
    ·have V:=hT
     have hturn:(x6:Int)<14:=by omega
     exact Aw [(4,Gv hturn)] [] 4 V λV=>Ae (AG V (B3 (Ay [(1,AH 12 16),(5,AH 13 16),(9,AH 14 16),(13,AH 15 16),(15,AS (Nl (tt 12) (tt 13) (tt 14) (tt 15)))] [10] 5 V λV=>Aw [(1,qD [FU (some 12) none none 16 16,16<=9223372036854775807,bl (some 12) 0<bl none 16] ⟨⟨by simp only[GE]<;>omega,by simp only[GE]<;>omega,by simp only[GE]<;>omega,by simp,by simp only[bl]<;>omega,by simp only[bl]<;>omega,by simp only[bl]<;>omega⟩,by omega,by decide,aa⟩),(2,R8 .frz [] aa)] [] 5 V λV=>Ck (Dl [9] 5 V λV=>Ae (As Y V (16,Ey tt 12 (min ((List.range 4).map (Gp (tt 12) (tt 13) (tt 14) (tt 15))).length 4) (λj=>((List.range 4).map (Gp (tt 12) (tt 13) (tt 14) (tt 15))).getD j 0)) [(0,0),(1,1),(2,2),(3,3)] ⟨Ac,Ac,(by rw[ht];rfl),aa⟩)))))
    ·have V:=hT
     have hturn:(x6:Int)<14:=by omega
     refine Dl [] 4 V λV=> ?_
     obtain rfl:Nn (FH f o3_0 16) 16=tt:=ht.symm
     refine Ae (Ai V (Dw (Aj [] 4 V λV=>BC (AC (ι:=Nat×(Nat->Int)) Y V (λ(x78,o3_0_6)=>(16-x78,[(78,vi ((x78:Nat):Int))],[(1,fJ o3_0_6)],(x78<=16)/\(o3_0_6=NU f g x6 o3_0 x78)/\(Rb x78 o3_0_6)/\True)) [0,3,4,6,7] [0,2,3] 4 (0,o3_0) [(0,0),(1,1),(2,2),(3,3)] ⟨Ac,rfl,(Rb.zero _),aa⟩ ?_))))
     rintro⟨x78,o3_0_6⟩ ac gs ws ⟨hx78,hq6,p6,_⟩ V
     refine Aj [] 4 V λV=>Ar (AJ ((x78:Int)<16) V (λh6=> ?_) (λh6=> ?_))
     ·exact B3 (Aj [] 4 V λV=>Aw [(2,AH x78 16),(6,IC x6 16 (x6*16)),(8,FW (x6*16) x78 ((x6*16)+x78)),(11,AH ((x6*16)+x78) 240),(14,AH x78 16)] [] 4 V λV=>Ck (Aw [(0,Cu x78)] [78] 4 V λV=>Ae (As Y V (x78+1,upd o3_0_6 x78 (A0 .u8 ((Nn (FH f o3_0 16) 16) x78) (g ((x6*16)+x78)))) [(0,0),(1,1),(2,2),(3,3)] ⟨Ac,(Bm (st:=RQ _ _ _ _) hq6 rfl rfl),(Rb.next p6 (J1 _ _)),aa⟩)))
     ·have hT:=V
      obtain rfl:16=x78:=by omega
      obtain rfl:=hq6.symm
      have V:=hT
      exact Vh (Aw [(1,Cu x6)] [6] 4 V λV=>Ae (As Y V (k2+1,x6+1,NU f g x6 o3_0 16) [(0,0),(1,1),(2,2)] ⟨(Bm (st:=My _ _) hq2 rfl (Eq.symm (ah hturn))),(Br hj2 (by rw[<-hq2];exact h2)),Ac,p6,aa⟩))
  ·have hT:=V
   obtain rfl:=CE (by rw[<-hq2];first |exact h2|exact cq h2) hj2
   obtain⟨rfl,rfl⟩:=T1 hq2
   have V:=hT
   exact Dw (Aj [] 3 V λV=>AY (BV (Ab _) V))
end
def OT (key num:Ad) (k1:Nat):(Int×Ad)->(Int×Ad):=λ(x10,x9)=>((A9 .u32 x10 1),x9++((List.range 16).map (P5 (Fo key).1 (Fo key).2 (λj=>List.getD (α:=Int) ([num,DV x10].flatten) (0+j) 0))))
def Gz (key num:Ad):Nat->Int×Ad
 |0=>(0,[])
 |k1+1=>OT key num k1 (Gz key num k1)
def J7 (n:Nat):(Int×Ad)->Prop:=λ(x10,x9)=>((x9.length:Nat):Int)<(n:Int)
def IR (key num:Ad) (n:Nat):Ad:=AV (PU ((Gz key num (D3 λj=>J7 n (Gz key num j))).2) n)
@[simp] theorem dL (xs:Ad) (n:Nat):(PU xs n).length=n:=by
 unfold PU;rw[Ab]
 simp only[ab,ap,av,az]
 omega
@[simp] theorem L4 (key num:Ad) (n:Nat):(IR key num n).length=n:=by unfold IR;rw[Ab];exact dL _ _
section
variable (key num:Ad) (n:Nat)
def oP (z_:Ad:=IR key num n):Con:=⟨[lb key,lb num,vi (n:Int)],[],.tu (Jg [lb z_,vi 0]),[]⟩
theorem bR (hk:key.length=32) (hb:By key) (hn:num.length=12) (hl:n<=1000000):AP 158 (oP key num n):=by
 refine cy 0 func158 rfl ntmps158 λY V=> ?_
 have hk1:((key.length:Nat):Int)=32:=Ac
 have hn1:((num.length:Nat):Int)=12:=Ac
 have hz1:¬(n:Int)<0:=Ac
 have hz2:¬(1048576:Int)<(n:Int):=Ac
 refine Aj [] 0 V λV=>Ar (Ay [(2,Ha hk1),(6,Ha hn1),(10,Do hz1),(14,Do hz2)] [] 0 V λV=>Ai V (Cb (Ay [(1,AA (iX key Ax A_) [] [(0,0)])] [] 1 V λV=>Aj [] 1 V λV=>Ar (Aj [] 1 V λV=>BC ?_))))
 obtain⟨gs,V⟩:=V.nilk 9 5 Bg
 refine AC (ι:=Nat×Int×Ad) Y V (λ(k1,x10,x9)=>(n-x9.length,[(10,.v (.int .u32 x10))],[(1,.sl 5 Bg x9)],((x10,x9)=Gz key num k1)/\(∀j,j<k1->J7 n (Gz key num j))/\(x9.length<=n+16)/\True)) [1,2,6,7,8,9] [0] 2 (0,0,[]) [(0,0),(1,1)] ⟨rfl,(λj h=>absurd h (be j)),(by simp),aa⟩ ?_
 rintro⟨k1,x10,x9⟩ ac gs ws ⟨hq1,hj1,p1,_⟩ V
 refine Ar (Aj [] 2 V λV=>AJ (((x9.length:Nat):Int)<(n:Int)) V (λh1=> ?_) (λh1=> ?_))
 ·exact B3 (Ay [(3,AS (V6 x10)),(5,AA (RJ [num,DV x10] (by first |omega|(simp only[bd,ce,ab,aw,au,ap,av,az]<;>omega)|(simp<;>omega))) [] [(0,2)]),(6,R8 .frz [16<=([num,DV x10].flatten).length,0<([num,DV x10].flatten).length] ⟨by(first |omega|(simp only[ab,cg,d_,au,bd,ce,GB];omega)),by(first |omega|(simp only[ab,cg,d_,au,bd,ce,GB];omega)),aa⟩),(7,R8 (.at 0 0) [0+16<=([num,DV x10].flatten).length] ⟨by(first |omega|(simp only[ab,cg,d_,au,bd,ce,GB];omega)),aa⟩),(8,J0 (pR (Fo key).1 (Fo key).2 (λj=>List.getD (α:=Int) ([num,DV x10].flatten) (0+j) 0) (iW key)) [(0,0)] [] [.cp 0 0,.ar .u8 16 (λj=>List.getD (α:=Int) ([num,DV x10].flatten) (0+j) 0)] [some (Xp (Fo key).1 (Fo key).2)])] [11] 4 V λV=>Aw [(1,R8 .frz [] aa),(2,Gt x9.length (((List.range 16).map (P5 (Fo key).1 (Fo key).2 (λj=>List.getD (α:=Int) ([num,DV x10].flatten) (0+j) 0))).length) 1 (by(first |omega|(simp only[ab,cg,d_,au,bd,ce,GB];omega))))] [9] 5 V λV=>Ck (Dl [10] 5 V λV=>Ae (As Y V (k1+1,(A9 .u32 x10 1),x9++((List.range 16).map (P5 (Fo key).1 (Fo key).2 (λj=>List.getD (α:=Int) ([num,DV x10].flatten) (0+j) 0)))) [(0,0),(1,4)] ⟨(Bm (st:=OT _ _) hq1 rfl rfl),(Br hj1 (by rw[<-hq1];exact h1)),(by rw[ab,cg,d_];omega),aa⟩ (show n-(x9++(List.range 16).map _).length<n-x9.length from by rw[ab,cg,d_];omega))))
 ·have hT:=V
  obtain rfl:=CE (by rw[<-hq1];first |exact h1|exact cq h1) hj1
  obtain⟨rfl,rfl⟩:=T1 hq1
  have V:=hT
  refine JH ?_
  obtain⟨gs,V⟩:=V.fz 1
  refine Aw [(2,AA (mG ((Gz key num (D3 λj=>J7 n (Gz key num j))).2) n Ac) [] [(0,2)])] [] 3 V λV=>EY ?_
  obtain⟨gs,V⟩:=V.fz 2
  exact BV (Ab _) V
end
theorem fU (xs ys:Ad):∀k,(LU xs ys k).length=min xs.length ys.length/\∀i,i<k->i<min xs.length ys.length->(LU xs ys k).getD i 0=A0 .u8 (xs.getD i 0) (ys.getD i 0)
 |0=>⟨az,λi h=>absurd h (be _)⟩
 |k+1=>by
  obtain⟨h1,h2⟩:=fU xs ys k
  have e:LU xs ys (k+1)=(LU xs ys k).set k (A0 .u8 (xs.getD k 0) (ys.getD k 0)):=rfl
  refine⟨by rw[e,da,h1],λi hi hl=> ?_⟩
  rw[e,al]
  by_cases hk:i=k
  ·subst hk
   rw[List.getElem?_set_self (by rw[h1];exact hl)];rfl
  ·rw[List.getElem?_set_ne (λh=>hk h.symm),<-al]
   exact h2 i Ac hl
theorem fV (xs ys:Ad) {i:Nat} (h:i<min xs.length ys.length):(J2 xs ys).getD i 0=A0 .u8 (xs.getD i 0) (ys.getD i 0):=by
 unfold J2;rw[Ab];exact(fU xs ys _).2 i h h
@[simp] theorem TB (xs ys:Ad):(J2 xs ys).length=min xs.length ys.length:=by
 unfold J2;rw[Ab];exact(fU xs ys _).1
theorem qR {xs ys:Ad} (hb:By xs) (hl:xs.length<=ys.length):J2 (J2 xs ys) ys=xs:=by
 have h1:(J2 xs ys).length=xs.length:=by rw[TB];omega
 refine g_ (by rw[TB,h1];omega) λi h2 h3=> ?_
 have k1:=fV (J2 xs ys) ys (i:=i) Ac
 rw[fV xs ys (i:=i) Ac,qQ (P3 hb i)]at k1
 rw[al,am h2,al,am h3]at k1
 exact k1
def E5 (key num xs:Ad):Ad:=AV (J2 xs (IR key num xs.length))
@[simp] theorem GP (key num xs:Ad):(E5 key num xs).length=xs.length:=by
 unfold E5;rw[Ab];rw[TB,L4];omega
theorem d3 (key num:Ad) {xs:Ad} (h:By xs):E5 key num (E5 key num xs)=xs:=by
 have e:∀ys,E5 key num ys=J2 ys (IR key num ys.length):=λys=>Ab _
 rw[e (E5 key num xs),GP,e xs]
 exact qR h (by rw[L4];exact an _)
section
variable (key num xs:Ad)
def vE (z_:Ad:=E5 key num xs):Con:=⟨[lb key,lb num,lb xs],[],.tu (Jg [.sk 0,vi 0]),[(0,.sl 5 Bg z_)]⟩
theorem WZ (hk:key.length=32) (hb:By key) (hn:num.length=12) (hl:xs.length<=1000000):AP 119 (vE key num xs):=by
 exact cy 0 func119 rfl ntmps119 λY V=>Aj [] 0 V λV=>Ay [(4,AS (bR key num xs.length Ax A_ Ax Ax))] [] 0 V λV=>Ar (Aj [] 0 V λV=>Ai V (Cb (Ay [(2,AA (xV xs (IR key num xs.length) Ac) [] [(0,0)])] [] 1 V λV=>AY (BV (Ab _) V))))
end
theorem By.nil:By []:=λx h=>by cases h
theorem By.app {a b:Ad} (h:By a) (k:By b):By (a++b):=λx hx=>(bo.1 hx).elim (h x) (k x)
theorem By.set {a:Ad} (h:By a) (i:Nat) {v:Int} (hv:0<=v/\v<256):By (a.set i v):=λx hx=>(List.mem_or_eq_of_mem_set hx).elim (h x) λe=>e▸hv
theorem By.take {a:Ad} (h:By a) (n:Nat):By (a.take n):=λx hx=>h x (cv hx)
theorem By.drop {a:Ad} (h:By a) (n:Nat):By (a.drop n):=λx hx=>h x (cx hx)
theorem Wu (x:Int):By (FQ x):=by
 have key:∀i,By (F4 x i):=by
  intro i
  induction i with
  |zero=>intro y hy;rw[show F4 x 0=replicate 8 (0:Int)from rfl]at hy;rw[List.eq_of_mem_replicate hy];exact⟨Int.le_refl _,(by decide:(0:Int)<256)⟩
  |succ i ih=>exact By.set ih _ (f5 _)
 unfold FQ;rw[Ab]
 exact key 8
theorem q8 {xs:Ad} (h:By xs):By (Od xs):=by
 have key:∀i,By (Hl xs i).2.2:=by
  intro i
  induction i with
  |zero=>exact h
  |succ i ih=>
   show By (((Hl xs i).2.2.set _ _).set _ _)
   exact By.set (By.set ih _ (P3 ih _)) _ (P3 ih _)
 unfold Od;rw[Ab]
 exact key _
theorem jJ (x:Int):By (Gk x):=by unfold Gk;rw[Ab];exact q8 (Wu _)
theorem jK (x:Int):By (DV x):=by unfold DV;rw[Ab];exact By.drop (jJ _) _
theorem tG (h:Nat->Int) (r:Ad) (n:Int):By (Fy h r n):=by
 have key:∀i,By (Lj h r n i):=by
  intro i
  induction i with
  |zero=>exact By.nil
  |succ i ih=>exact By.app ih (jK _)
 unfold Fy;rw[Ab]
 exact key 8
theorem s7 (u1:Nat->Int) (r1:Ad) (n1:Int) (u2:Nat->Int) (r2:Ad) (n2:Int) (l:AZ):By (Dn u1 r1 n1 u2 r2 n2 l):=by unfold Dn;rw[Ab];exact tG _ _ _
theorem WJ (key info:Ad):By (GH key info):=by
 have h:∀k,By (Ct key info k).2.1:=by
  intro k
  induction k with
  |zero=>exact By.nil
  |succ k ih=>exact By.app ih (s7 _ _ _ _ _ _ _)
 unfold GH;rw[Ab]
 rw[dw]
 exact By.take (h _) _
theorem Sf (ikm info:Ad):By (BY ikm info):=by unfold BY;rw[Ab];exact WJ _ _
def Hd (k:Ad) (u1:Nat->Int) (r1:Ad) (n1:Int) (u2:Nat->Int) (r2:Ad) (n2:Int) (num:Ad) (data tT:Ad):Ad:=AV (Dn u1 r1 n1 u2 r2 n2 [num,Gk ((data.length:Nat):Int),data,tT])
@[simp] theorem Qr (k:Ad) (u1:Nat->Int) (r1:Ad) (n1:Int) (u2:Nat->Int) (r2:Ad) (n2:Int) (num data tT:Ad):(Hd k u1 r1 n1 u2 r2 n2 num data tT).length=32:=by unfold Hd;rw[Ab];exact CY ..
section
variable (k:Ad) (u1:Nat->Int) (r1:Ad) (n1:Int) (u2:Nat->Int) (r2:Ad) (n2:Int) (num:Ad) (data tT:Ad)
def AaF (z_:Ad:=Hd k u1 r1 n1 u2 r2 n2 num data tT):Con:=⟨[.im (Jg [lb k,.im (Jg [.im (Jg [.ar .u32 8 u1,lb r1,.v (.int .u64 n1)]) 0,.im (Jg [.ar .u32 8 u2,lb r2,.v (.int .u64 n2)]) 0]) 0]) 0,lb num,lb data,lb tT],[],.sk 0,[(0,.sl 5 Bg z_)]⟩
theorem Ze (hr1:r1.length<=64) (hr2:r2.length<=64) (hd:data.length<=60000) (ht:tT.length<=60000) (hn:num.length=12):AP 120 (AaF k u1 r1 n1 u2 r2 n2 num data tT):=by
 exact cy 0 func120 rfl ntmps120 λY V=>Aj [] 0 V λV=>Ay [(7,JZ data.length),(8,AS (QU ((data.length:Nat):Int))),(12,AA (ZZ u1 r1 n1 u2 r2 n2 [num,Gk ((data.length:Nat):Int),data,tT] hr1 hr2 (by first |assumption|omega|(simp only[bd,ce,ab,aw,au,K_]<;>omega)|(simp<;>omega))) [] [(0,0)])] [] 1 V λV=>AY (BV (Ab _) V)
theorem gZ (hr1:r1.length<=64) (hr2:r2.length<=64) (hd:data.length<=60000) (ht:tT.length<=60000) (hn:num.length=12):AP 120 ⟨[.im (Jg [lb k,.im (Jg [.im (Jg [.ar .u32 8 u1,lb r1,.v (.int .u64 n1)]) 0,.im (Jg [.ar .u32 8 u2,lb r2,.v (.int .u64 n2)]) 0]) 0]) 0,lb num,lb data,lb tT],[],lb (Hd k u1 r1 n1 u2 r2 n2 num data tT),[]⟩:=ConOk.frz [] 0 5 Bg (Hd k u1 r1 n1 u2 r2 n2 num data tT) (Ze k u1 r1 n1 u2 r2 n2 num data tT hr1 hr2 hd ht hn) (by kernel_rfl)
theorem gY (hr1:r1.length<=64) (hr2:r2.length<=64) (hd:data.length<=60000) (ht:tT.length<=60000) (hn:num.length=12):AP 120 ⟨[.im (Jg [lb k,.im (Jg [.im (Jg [.ar .u32 8 u1,lb r1,.v (.int .u64 n1)]) 0,.im (Jg [.ar .u32 8 u2,lb r2,.v (.int .u64 n2)]) 0]) 0]) 0,lb num,lb data,.sk 1],[(1,.sl 5 Bg tT)],.sk 0,[(1,.sl 5 Bg tT),(0,.sl 5 Bg (Hd k u1 r1 n1 u2 r2 n2 num data tT))]⟩:=ConOk.lend (a1:=[.im (Jg [lb k,.im (Jg [.im (Jg [.ar .u32 8 u1,lb r1,.v (.int .u64 n1)]) 0,.im (Jg [.ar .u32 8 u2,lb r2,.v (.int .u64 n2)]) 0]) 0]) 0,lb num,lb data]) (a2:=[]) (nn:=false) (xs:=tT) (H0:=[]) (H1:=[(0,.sl 5 Bg (Hd k u1 r1 n1 u2 r2 n2 num data tT))]) (res:=(.sk 0)) 1 5 (Ze k u1 r1 n1 u2 r2 n2 num data tT hr1 hr2 hd ht hn) (λh=>by cases h) (by kernel_rfl)
theorem TJ (hd:data.length<=60000) (ht:tT.length<=60000) (hn:num.length=12):AP 118 ⟨[.im (Jg [lb k,.im (Jg [.im (Jg [.ar .u32 8 u1,lb r1,.v (.int .u64 n1)]) 0,.im (Jg [.ar .u32 8 u2,lb r2,.v (.int .u64 n2)]) 0]) 0]) 0,lb num,lb data,lb tT,vi 65536],[],vi 0,[]⟩:=by
 refine cy 0 func118 rfl ntmps118 λY V=> ?_
 have hn1:((num.length:Nat):Int)=12:=Ac
 have ht1:¬(65536:Int)<((tT.length:Nat):Int):=Ac
 have hd1:¬(65536:Int)<((data.length:Nat):Int):=Ac
 exact Aj [] 0 V λV=>Ar (BC (Ay [(12,Ha hn1)] [] 0 V λV=>Ai V (Ay [(3,Do ht1),(7,Do hd1)] [] 0 V λV=>Ai V (FN (Aj [] 0 V λV=>AY (BW V))))))
theorem TH (hd:data.length<=60000) (ht:tT.length<=60000) (hn:num.length=12):AP 118 ⟨[.im (Jg [lb k,.im (Jg [.im (Jg [.ar .u32 8 u1,lb r1,.v (.int .u64 n1)]) 0,.im (Jg [.ar .u32 8 u2,lb r2,.v (.int .u64 n2)]) 0]) 0]) 0,lb num,lb data,lb tT,vi 65568],[],vi 0,[]⟩:=by
 refine cy 0 func118 rfl ntmps118 λY V=> ?_
 have hn1:((num.length:Nat):Int)=12:=Ac
 have ht1:¬(65568:Int)<((tT.length:Nat):Int):=Ac
 have hd1:¬(65536:Int)<((data.length:Nat):Int):=Ac
 exact Aj [] 0 V λV=>Ar (BC (Ay [(12,Ha hn1)] [] 0 V λV=>Ai V (Ay [(3,Do ht1),(7,Do hd1)] [] 0 V λV=>Ai V (FN (Aj [] 0 V λV=>AY (BW V))))))
end
section
variable (key:Ad)
def Be:Ad×(Nat->Int)×Ad×Int×(Nat->Int)×Ad×Int:=AV (((BY key [115,101,97,108]).take 32,(An ((BY key [115,101,97,108]).drop 32)).1,(An ((BY key [115,101,97,108]).drop 32)).2.1,((An ((BY key [115,101,97,108]).drop 32)).2.2.1),(An ((BY key [115,101,97,108]).drop 32)).2.2.2.1,(An ((BY key [115,101,97,108]).drop 32)).2.2.2.2.1,((An ((BY key [115,101,97,108]).drop 32)).2.2.2.2.2)))
theorem Fa:(Be key).1.length=32/\By (Be key).1/\(Be key).2.2.1.length<=64/\(Be key).2.2.2.2.2.1.length<=64:=by
 unfold Be;rw[Ab]
 refine⟨?_,?_,(Dt _).1,(Dt _).2⟩
 ·show((BY _ _).take 32).length=32
  rw[ap,KM];rfl
 ·exact By.take (Sf _ _) _
def o7 (z_:Ad×(Nat->Int)×Ad×Int×(Nat->Int)×Ad×Int:=Be key):Con:=⟨[lb key],[],.tu (Jg [.im (Jg [lb (z_.1),.im (Jg [.im (Jg [.ar .u32 8 (z_.2.1),lb (z_.2.2.1),.v (.int .u64 (z_.2.2.2.1))]) 0,.im (Jg [.ar .u32 8 (z_.2.2.2.2.1),lb (z_.2.2.2.2.2.1),.v (.int .u64 (z_.2.2.2.2.2.2))]) 0]) 0]) 0,vi 0]),[]⟩
theorem S9 (hk:key.length=32):AP 82 (o7 key):=by
 refine cy 0 func82 rfl ntmps82 λY V=> ?_
 have hk1:((key.length:Nat):Int)=32:=Ac
 refine Aj [] 0 V λV=>Ar (Ay [(2,Ha hk1)] [] 0 V λV=>Ai V (Cb (Ay [(1,Np),(2,P8 (0<[115,101,97,108].length) (by decide)),(3,AS (Se key [115,101,97,108] Ax Ax))] [] 1 V λV=>Ar ?_)))
 have hdl:=KM key [115,101,97,108]
 refine Aw [(1,fE 32 (BY key [115,101,97,108]).length),(3,ON 32 (BY key [115,101,97,108]).length),(4,AS (I7 ((BY key [115,101,97,108]).drop 32) Ax))] [] 2 V λV=> ?_
 obtain⟨gs,V⟩:=V.im 1
 exact EY (BV (Ab _) V)
end
section
variable (k:Ad) (u1:Nat->Int) (r1:Ad) (n1:Int) (u2:Nat->Int) (r2:Ad) (n2:Int) (num:Ad) (data tT:Ad)
def JL:Ad:=AV ((E5 k num tT)++(Hd k u1 r1 n1 u2 r2 n2 num data (E5 k num tT)))
def vG (z_:Ad:=JL k u1 r1 n1 u2 r2 n2 num data tT):Con:=⟨[.im (Jg [lb k,.im (Jg [.im (Jg [.ar .u32 8 u1,lb r1,.v (.int .u64 n1)]) 0,.im (Jg [.ar .u32 8 u2,lb r2,.v (.int .u64 n2)]) 0]) 0]) 0,lb num,lb data,lb tT],[],.tu (Jg [lb z_,vi 0]),[]⟩
theorem pN (hkl:k.length=32) (hkb:By k) (hr1:r1.length<=64) (hr2:r2.length<=64) (hd:data.length<=60000) (ht:tT.length<=60000) (hn:num.length=12):AP 83 (vG k u1 r1 n1 u2 r2 n2 num data tT):=by
 refine cy 0 func83 rfl ntmps83 λY V=>Aj [] 0 V λV=>Ar (Ay [(4,AS (TJ k u1 r1 n1 u2 r2 n2 num data tT Ax Ax Ax))] [] 0 V λV=>Aj [] 0 V λV=>Ai V (Cb (Ay [(6,AA (WZ k num tT Ax A_ Ax Ax) [] [(0,0)])] [] 1 V λV=>Ay [(5,AA (gY k u1 r1 n1 u2 r2 n2 num data (E5 k num tT) hr1 hr2 Ax (by rw[GP];exact ht) Ax) [(1,0)] [(0,1)]),(6,Gt ((E5 k num tT).length) ((Hd k u1 r1 n1 u2 r2 n2 num data (E5 k num tT)).length) 1 (by(first |omega|(simp only[GP,Qr];omega))))] [] 3 V λV=>AY ?_)))
 obtain⟨gs,V⟩:=V.fz 2
 exact BV (Ab _) V
end
section
variable (key num:Ad) (data tT:Ad)
def Ef:Ad:=AV (JL (Be key).1 (Be key).2.1 (Be key).2.2.1 (Be key).2.2.2.1 (Be key).2.2.2.2.1 (Be key).2.2.2.2.2.1 (Be key).2.2.2.2.2.2 num data tT)
def AaI (z_:Ad:=Ef key num data tT):Con:=⟨[lb key,lb num,lb data,lb tT],[],.tu (Jg [lb z_,vi 0]),[]⟩
theorem Zm (hk:key.length=32) (hd:data.length<=60000) (ht:tT.length<=60000) (hn:num.length=12):AP 50 (AaI key num data tT):=by
 exact cy 0 func50 rfl ntmps50 λY V=>Aj [] 0 V λV=>Ay [(1,AS (S9 key Ax))] [] 0 V λV=>Ar (Aj [] 0 V λV=>Ai V (Cb (Ay [(4,AS (pN (Be key).1 (Be key).2.1 (Be key).2.2.1 (Be key).2.2.2.1 (Be key).2.2.2.2.1 (Be key).2.2.2.2.2.1 (Be key).2.2.2.2.2.2 num data tT (Fa key).1 (Fa key).2.1 (Fa key).2.2.1 (Fa key).2.2.2 Ax Ax Ax))] [] 0 V λV=>AY (BV (Ab _) V))))
end
section
variable (k:Ad) (u1:Nat->Int) (r1:Ad) (n1:Int) (u2:Nat->Int) (r2:Ad) (n2:Int) (num:Ad) (data tT:Ad)
def NT:Ad×Nat:=AV (if(((tT.length:Nat):Int)-32)<0 then([],2)else(if(Hd k u1 r1 n1 u2 r2 n2 num data (tT.take (Int.toNat (((tT.length:Nat):Int)-32))))=(tT.drop (Int.toNat (((tT.length:Nat):Int)-32)))then(E5 k num (tT.take (Int.toNat (((tT.length:Nat):Int)-32))),0)else([],2)))
def vH (z_:Ad×Nat:=NT k u1 r1 n1 u2 r2 n2 num data tT):Con:=⟨[.im (Jg [lb k,.im (Jg [.im (Jg [.ar .u32 8 u1,lb r1,.v (.int .u64 n1)]) 0,.im (Jg [.ar .u32 8 u2,lb r2,.v (.int .u64 n2)]) 0]) 0]) 0,lb num,lb data,lb tT],[],.tu (Jg [lb (z_.1),vi ((z_.2:Nat):Int)]),[]⟩
theorem pO (hkl:k.length=32) (hkb:By k) (hr1:r1.length<=64) (hr2:r2.length<=64) (hd:data.length<=60000) (ht:tT.length<=60000) (hn:num.length=12):AP 104 (vH k u1 r1 n1 u2 r2 n2 num data tT):=by
 refine cy 0 func104 rfl ntmps104 λY V=>Aj [] 0 V λV=>Ar (Ay [(4,AS (TH k u1 r1 n1 u2 r2 n2 num data tT Ax Ax Ax))] [] 0 V λV=>Aj [] 0 V λV=>Ai V (Cb (Ay [(2,Xl ((tT.length:Nat):Int) 32)] [] 0 V λV=>Ii ?_)))
 by_cases h1:(((tT.length:Nat):Int)-32)<0
 ·refine Aw [(1,Gv h1)] [] 0 V λV=>Ae (AG V (Aj [] 0 V λV=>AY (Ao ?_)))
  have V:=V.wk 8 (lb [])
  exact BV (.trans (Ab _) (ah h1)) V
 ·refine Aw [(1,Do h1),(8,P8 (FU none (some (((tT.length:Nat):Int)-32)) none tT.length tT.length) ⟨by simp only[GE]<;>omega,by simp only[GE]<;>omega,by simp only[GE]<;>omega,by simp,by simp only[bl]<;>omega,by simp only[bl]<;>omega,by simp only[bl]<;>omega⟩),(9,AS (gZ k u1 r1 n1 u2 r2 n2 num data (tT.take (Int.toNat (((tT.length:Nat):Int)-32))) hr1 hr2 Ax Ax Ax)),(12,P8 (FU (some (((tT.length:Nat):Int)-32)) none none tT.length tT.length) ⟨by simp only[GE]<;>omega,by simp only[GE]<;>omega,by simp only[GE]<;>omega,by simp,by simp only[bl]<;>omega,by simp only[bl]<;>omega,by simp only[bl]<;>omega⟩),(13,AS (Ew (Hd k u1 r1 n1 u2 r2 n2 num data (tT.take (Int.toNat (((tT.length:Nat):Int)-32)))) (tT.drop (Int.toNat (((tT.length:Nat):Int)-32)))))] [] 0 V λV=>Ae (IH ((Hd k u1 r1 n1 u2 r2 n2 num data (tT.take (Int.toNat (((tT.length:Nat):Int)-32))))=(tT.drop (Int.toNat (((tT.length:Nat):Int)-32)))) V (λh2=> ?_) (λh2=> ?_))
  ·refine Aj [] 0 V λV=>AY (Ao ?_)
   have V:=V.wk 8 (lb [])
   exact BV (.trans (Ab _) ((aj h1).trans (aj h2))) V
  ·refine Cb (Ay [(7,P8 (FU none (some (((tT.length:Nat):Int)-32)) none tT.length tT.length) ⟨by simp only[GE]<;>omega,by simp only[GE]<;>omega,by simp only[GE]<;>omega,by simp,by simp only[bl]<;>omega,by simp only[bl]<;>omega,by simp only[bl]<;>omega⟩),(8,AA (WZ k num (tT.take (Int.toNat (((tT.length:Nat):Int)-32))) Ax A_ Ax Ax) [] [(0,0)])] [] 1 V λV=>AY ?_)
   obtain⟨gs,V⟩:=V.fz 0
   exact BV (.trans (Ab _) ((aj h1).trans (ah h2))) V
end
section
variable (key num:Ad) (data tT:Ad)
def BS:Ad×Nat:=AV (((NT (Be key).1 (Be key).2.1 (Be key).2.2.1 (Be key).2.2.2.1 (Be key).2.2.2.2.1 (Be key).2.2.2.2.2.1 (Be key).2.2.2.2.2.2 num data tT).1,((NT (Be key).1 (Be key).2.1 (Be key).2.2.1 (Be key).2.2.2.1 (Be key).2.2.2.2.1 (Be key).2.2.2.2.2.1 (Be key).2.2.2.2.2.2 num data tT).2)))
def uY (z_:Ad×Nat:=BS key num data tT):Con:=⟨[lb key,lb num,lb data,lb tT],[],.tu (Jg [lb (z_.1),vi ((z_.2:Nat):Int)]),[]⟩
theorem MX (hk:key.length=32) (hd:data.length<=60000) (ht:tT.length<=60000) (hn:num.length=12):AP 69 (uY key num data tT):=by
 exact cy 0 func69 rfl ntmps69 λY V=>Aj [] 0 V λV=>Ay [(1,AS (S9 key Ax))] [] 0 V λV=>Ar (Aj [] 0 V λV=>Ai V (Cb (Ay [(4,AS (pO (Be key).1 (Be key).2.1 (Be key).2.2.1 (Be key).2.2.2.1 (Be key).2.2.2.2.1 (Be key).2.2.2.2.2.1 (Be key).2.2.2.2.2.2 num data tT (Fa key).1 (Fa key).2.1 (Fa key).2.2.1 (Fa key).2.2.2 Ax Ax Ax))] [] 0 V λV=>AY (BV (Ab _) V))))
end
def Ag (x0:Ad) (x1:Nat):O:= .ob 122 (Jg [lb x0,vi ((x1:Nat):Int)])
def En (x0:Ad):O:= .ob 122 (Jg [lb x0,vi 0])
def Sb (key:Ad):Ad:=Dn (An key).1 (An key).2.1 (An key).2.2.1 (An key).2.2.2.1 (An key).2.2.2.2.1 (An key).2.2.2.2.2 [[2]]
def Lw (key:Ad):Ad:=Dn (An key).1 (An key).2.1 (An key).2.2.1 (An key).2.2.2.1 (An key).2.2.2.2.1 (An key).2.2.2.2.2 [[1]]
@[simp] theorem sL (key:Ad):(Sb key).length=32:=CY ..
@[simp] theorem sU (key:Ad):(Lw key).length=32:=CY ..
def Am (key:Ad):Nat->Ad
 |0=>key
 |k+1=>Sb (Am key k)
def G1 (key:Ad):Nat->AZ
 |0=>[]
 |k+1=>G1 key k++[Lw (Am key k)]
theorem Cf {key:Ad} (h:key.length=32):∀k,(Am key k).length=32
 |0=>h
 |_+1=>sL _
@[simp] theorem Hm (key:Ad):∀k,(G1 key k).length=k
 |0=>rfl
 |k+1=>by rw[G1,ab,Hm key k];rfl
section
variable (key:Ad)
theorem NK (i:Nat) (hk:key.length=32):AP 84 (Cq [.cp 0 0] [(0,Ag key i)] (.v (.bool false))):=by
 refine cy 1 func84 rfl ntmps84 λY V=> ?_
 have hk0:¬((key.length:Nat):Int)=0:=Ac
 exact Aj [] 1 V λV=>Ay [(8,Do hk0)] [] 1 V λV=>AY (BW V)
theorem NO (i:Nat) (hk:key.length=32):AP 76 ⟨[lb key,vi (i:Int)],[],.tu (Jg [.cp 0 0,vi 0]),[(0,Ag key i)]⟩:=by
 refine cy 0 func76 rfl ntmps76 λY V=> ?_
 have hk32:((key.length:Nat):Int)=32:=Ac
 exact Aj [] 0 V λV=>Ar (Ay [(2,Ha hk32),(5,Vj false [(decide ((i:Int)<0))=false] ⟨decide_eq_false Ac,aa⟩)] [] 0 V λV=>Ai V (Cb (Ay [(1,AS (Ee key Ax))] [] 1 V λV=>AY (BW V))))
theorem Lp (hk:key.length=32):AP 43 ⟨[lb key],[],.tu (Jg [.cp 0 0,vi 0]),[(0,En key)]⟩:=by
 exact cy 0 func43 rfl ntmps43 λY V=>Aj [] 0 V λV=>Ay [(1,AA (NO key 0 Ax) [] [(0,0)])] [] 1 V λV=>AY (BW V)
theorem Jf (i:Nat) (hk:key.length=32) (hi:i<=1000000000000):AP 52 ⟨[.cp 0 0],[(0,Ag key i)],lb (Lw key),[(0,Ag (Sb key) (i+1))]⟩:=by
 exact cy 1 func52 rfl ntmps52 λY V=>Aj [] 1 V λV=>Ar (Ay [(1,AA (NK key i Ax) [(0,0)] [])] [] 1 V λV=>Ai V (Cb (Ay [(4,AS (I7 key Ax))] [] 1 V λV=>Ay [(4,AS (Kx (An key).1 (An key).2.1 (An key).2.2.1 (An key).2.2.2.1 (An key).2.2.2.2.1 (An key).2.2.2.2.2 [[2]] (Dt key).1 (Dt key).2 (by simp)))] [] 1 V λV=>Ay [(4,Cu i)] [] 1 V λV=>Ay [(3,AS (Kx (An key).1 (An key).2.1 (An key).2.2.1 (An key).2.2.2.1 (An key).2.2.2.2.1 (An key).2.2.2.2.2 [[1]] (Dt key).1 (Dt key).2 (by simp)))] [] 1 V λV=>AY (BW V))))
def Dv (key:Ad) (i k:Nat):Nat:=AV (if(k:Int)<(i:Int)then 5 else(if((i+40:Nat):Int)<(k:Int)then 6 else 0))
def Aa2 (i k:Nat) (z_:Nat:=Dv key i k):Con:=Cq [.cp 0 0,vi (k:Int)] [(0,Ag key i)] (vi (z_:Int))
theorem UP (i k:Nat) (hk:key.length=32) (hi:i<=1000000000000):AP 140 (Aa2 key i k):=by
 refine cy 1 func140 rfl ntmps140 λY V=>Aj [] 1 V λV=>Ar (BC (Ay [(1,AA (NK key i Ax) [(0,0)] [])] [] 1 V λV=>Ai V (Aj [] 1 V λV=>AJ ((k:Int)<(i:Int)) V (λh1=> ?_) (λh1=> ?_))))
 ·exact Aj [] 1 V λV=>AY (AN (Ao (BV (.trans (Ab _) (ah h1)) V)))
 ·refine Ay [(5,FW i 40 (i+40))] [] 1 V λV=>AJ (((i+40:Nat):Int)<(k:Int)) V (λh2=> ?_) (λh2=> ?_)
  ·exact Aj [] 1 V λV=>AY (AN (Ao (BV (.trans (Ab _) ((aj h1).trans (ah h2))) V)))
  ·exact FN (Aj [] 1 V λV=>AY (BV (.trans (Ab _) ((aj h1).trans (aj h2))) V))
theorem KT (i:Nat) (hk:key.length=32):AP 61 ⟨[.cp 0 0],[(0,Ag key i)],.cp 1 0,[(0,Ag key i),(1,Ag key i)]⟩:=by
 exact cy 1 func61 rfl ntmps61 λY V=>Aj [] 1 V λV=>Ar (Ay [(1,AA (NK key i Ax) [(0,0)] [])] [] 1 V λV=>Ai V (Cb (Ay [(4,AS (Ee key Ax))] [] 2 V λV=>AY (BW V))))
theorem Cn (i:Nat):AP 40 (Cq [.cp 0 0] [(0,Ag key i)] (vi (i:Int))):=by
 exact cy 1 func40 rfl ntmps40 λY V=>Aj [] 1 V λV=>Ar (Aj [] 1 V λV=>Ai V (Cb (Aj [] 1 V λV=>AY (BW V))))
theorem P0 (i:Nat) (hk:key.length=32):AP 55 (Cq [.cp 0 0] [(0,Ag key i)] (lb key)):=by
 exact cy 1 func55 rfl ntmps55 λY V=>Aj [] 1 V λV=>Ar (Ay [(1,AA (NK key i Ax) [(0,0)] [])] [] 1 V λV=>Ai V (Cb (Ay [(4,AS (Ee key Ax))] [] 1 V λV=>AY (BW V))))
end
theorem oD {key:Ad} {i k:Nat} (h1:i<=k) (h2:k<=i+40):Dv key i k=0:=by
 unfold Dv;rw[Ab]
 rw[aj Ac,aj Ac]
theorem Aaz {key:Ad} {i k:Nat} (h1:k<i):Dv key i k=5:=by
 unfold Dv;rw[Ab]
 rw[ah Ac]
theorem Yw {key:Ad} {i k:Nat} (h1:i+40<k):Dv key i k=6:=by
 unfold Dv;rw[Ab]
 rw[aj Ac,ah Ac]
section
variable (key:Ad) (i to:Nat)
theorem RF (hk:key.length=32) (hi:i<=900000000000) (hm:i<=to/\to<=i+40):AP 107 ⟨[.cp 0 0,vi (to:Int)],[(0,Ag key i)],.tu (Jg [.sk 1,vi 0]),[(0,Ag (Am key (to-i)) to),(1,.sl 22 A8 (G1 key (to-i)))]⟩:=by
 refine cy 1 func107 rfl ntmps107 λY V=> ?_
 have hm0:((Dv key i to:Nat):Int)=0:=(by rw[oD hm.1 hm.2];rfl)
 refine Aj [] 1 V λV=>Ar (Ay [(2,AA (UP key i to Ax Ac) [(0,0)] [])] [] 1 V λV=>Ay [(1,Ha hm0)] [] 1 V λV=>Ai V (B3 ?_))
 obtain⟨gs,V⟩:=V.nilk 4 22 A8
 refine AC (ι:=Nat) Y V (λk=>(to-(i+k),[],[(0,Ag (Am key k) (i+k)),(1,.sl 22 A8 (G1 key k))],(k<=to-i)/\True)) [0,1,4,5] [] 2 0 [(0,0),(1,1)] ⟨Ac,aa⟩ ?_
 rintro k ac gs ws ⟨hk2,_⟩ V
 refine Ar (Aj [] 2 V λV=>AJ (((i+k:Nat):Int)<(to:Int)) V (λh1=> ?_) (λh1=> ?_))
 ·refine Cb (BC ?_)
  have hnl:=Cf hk k
  exact Aw [(2,AA (Jf (Am key k) (i+k) Ax Ac) [(0,0)] []),(4,Gt ((G1 key k).length) 1 24 (by(simp only[Hm,aw,au];omega)))] [4] 3 V λV=>Ck (As Y V (k+1) [(0,0),(1,2)] ⟨Ac,aa⟩ (show to-(i+(k+1))<to-(i+k)from by omega))
 ·have hT:=V
  obtain rfl:(to-i)=k:=Eq.symm Ac
  have V:=hT
  refine JH (Dl [4] 2 V λV=> ?_)
  have V:=V.rv [(4,.sk 1),(5,vi 0)] [(0,some (Ag (Am key (to-i)) (i+(to-i)))),(1,some (.sl 22 A8 (G1 key (to-i))))]
  rw[show i+(to-i)=to by omega]at V
  have V:=V.sp
  exact EY (BW V)
def pJ:Con:=Cq [.cp 0 0,vi (to:Int)] [(0,Ag key i)] (.tu (Jg [lb (Lw (Am key (to-i))),vi 0]))
theorem uN (hk:key.length=32) (hi:i<=900000000000) (hm:i<=to/\to<=i+40):AP 105 (pJ key i to):=by
 refine cy 1 func105 rfl ntmps105 λY V=> ?_
 have hm0:((Dv key i to:Nat):Int)=0:=(by rw[oD hm.1 hm.2];rfl)
 refine Aj [] 1 V λV=>Ar (Ay [(2,AA (UP key i to Ax Ac) [(0,0)] [])] [] 1 V λV=>Ay [(1,Ha hm0)] [] 1 V λV=>Ai V (Cb (Ay [(1,AA (KT key i Ax) [(0,0)] [(1,1)])] [] 2 V λV=>Ay [(2,AA (RF key i to Ax Ac Ac) [(0,1)] [(1,2)])] [] 3 V λV=>Ar ?_)))
 have hnl:=Cf hk (to-i)
 exact Aw [(1,AA (Jf (Am key (to-i)) to Ax Ac) [(0,1)] [])] [] 3 V λV=>EY (BW V)
def bD:Con:=Cq [.cp 0 0,vi (to:Int)] [(0,Ag key i)] (.tu (Jg [.v (.slice none 0 0),vi ((Dv key i to:Nat):Int)]))
theorem oE (hk:key.length=32) (hi:i<=900000000000) (hm:¬((Dv key i to:Nat):Int)=0):AP 105 (bD key i to):=by
 refine cy 1 func105 rfl ntmps105 λY V=> ?_
 have hm:¬((Dv key i to:Nat):Int)=0:=hm
 exact Aj [] 1 V λV=>Ar (Ay [(2,AA (UP key i to Ax Ac) [(0,0)] [])] [] 1 V λV=>Ay [(1,sT hm)] [] 1 V λV=>AG V (Aj [] 1 V λV=>AY (Ao (BW V))))
end
def Da:O:= .ob 44 (Jg [vi 0])
def Y1 (x0:Nat):O:= .ob 44 (Jg [vi ((x0:Nat):Int)])
def Lr:Con:=⟨[.cp 0 0],[(0,Da)],.tu (Jg []),[(0,Da)]⟩
theorem Kh:OP Tryz.prog 88 .returning .returning (Lr):=by
 refine PZ rfl (nb:=1) (t0:=4) (t1:=1) func88 rfl rfl ntmps88 rfl rfl rfl rfl rfl rfl λg0 w0 ac gs ws Y V=> ?_
 have V:=V.sp
 exact Ay [(1,R8 .nn [] aa)] [] 1 V λV=>Ai V (sR (fQ V))
def JK (n:Nat):Con:=⟨[.cp 0 0],[(0,Da)],.tu (Jg []),[(0,Y1 n)]⟩
theorem I3 (n:Nat) (hn:0<n):OP Tryz.prog 88 (mE (.iface 44 (.int .i64 (n:Int)))) (TI (.iface 44 (.int .i64 (n:Int)))) (JK n):=by
 refine PZ rfl (nb:=1) (t0:=4) (t1:=1) func88 rfl rfl ntmps88 rfl rfl rfl rfl rfl rfl λg0 w0 ac gs ws Y V=> ?_
 have V:=V.sp
 have hn0:¬(n:Int)=0:=Ac
 exact Aj [] 1 V λV=>AG V (Ay [(1,R8 .ta [] aa)] [] 1 V λV=>Ar (Ay [(4,Do hn0)] [] 1 V λV=>Ai V (Cb (Dl [] 1 V λV=>fQ V))))
def Y0:O:= .ob 115 (Jg [.v (.slice none 0 0),vi 0,vi 0,vi 0,.v (.slice none 0 0),.v (.slice none 0 0)])
def R5 (x0 x1:Ad):O:= .ob 115 (Jg [lb x0,vi 0,vi 0,vi 0,.v (.slice none 0 0),lb x1])
def Abp:O:= .ob 44 (Jg [vi 2])
section
variable (xs:Ad)
def DO:Bool:=AV (if Gn xs=true then(if(2147483648:Int)<(Af xs).1 then false else true)else false)
def KU:Con:=⟨[.cp 0 0],[(0,C8 xs)],vi ((((Af xs).1.toNat):Nat):Int),[(0,C8 (Af xs).2)]⟩
theorem Fi (h:xs.length<=100000000000000) (hk:DO xs=true):AP 92 (KU xs):=by
 refine cy 1 func92 rfl ntmps92 λY V=>Aj [] 1 V λV=>Ar ?_
 by_cases h1:Gn xs=true
 ·refine Aw [(1,AA (HZ xs Ax h1) [(0,0)] [])] [] 1 V λV=>CQ (Aj [] 1 V λV=>AJ ((2147483648:Int)<(Af xs).1) V (λh2=> ?_) (λh2=> ?_))
  ·have hK:DO xs=false:=(Ab _).trans ((ah h1).trans (ah h2))
   rw[hK]at hk
   cases hk
  ·refine DG ?_
   have hnn:=AU xs
   exact Aw [(1,Ly (((Af xs).1.toNat:Nat):Int) [IntKind.wrap .i64 (Af xs).1=(((Af xs).1.toNat:Nat):Int)] ⟨(EI Ac Ac).trans Ac,aa⟩)] [] 1 V λV=>EY (BW V)
 ·have hK:DO xs=false:=(Ab _).trans (aj h1)
  rw[hK]at hk
  cases hk
def NP:Con:=⟨[.cp 0 0],[(0,C8 xs)],.v (.iface 44 (.int .i64 2)),[]⟩
theorem Oe (h:xs.length<=100000000000000) (hk:DO xs=false):EB Tryz.prog 92 (NP xs):=by
 refine C4 rfl (nb:=1) func92 rfl rfl ntmps92 rfl rfl rfl λg0 w0 ac gs ws Y V=> ?_
 have V:=V.sp
 refine Aj [] 1 V λV=>Ar ?_
 by_cases h1:Gn xs=true
 ·refine Aw [(1,AA (HZ xs Ax h1) [(0,0)] [])] [] 1 V λV=>CQ (Aj [] 1 V λV=>AJ ((2147483648:Int)<(Af xs).1) V (λh2=> ?_) (λh2=> ?_))
  ·exact Bd (E:=E0) mo hZ [] aa none (λr hr=>by cases hr) 1 0 (λ_=>[]) (.v (.iface 44 (.int .i64 2))) (by kernel_rfl) aa V.st λac gs ws pv V hpv=>AE (CN rfl V hpv rfl rfl)
  ·refine DG ?_
   have hnn:=AU xs
   refine Aw [(1,Ly (((Af xs).1.toNat:Nat):Int) [IntKind.wrap .i64 (Af xs).1=(((Af xs).1.toNat:Nat):Int)] ⟨(EI Ac Ac).trans Ac,aa⟩)] [] 1 V λV=>EY ?_
   have hK:DO xs=true:=(Ab _).trans ((ah h1).trans (aj h2))
   rw[hK]at hk
   cases hk
 ·exact Bd (E:=E0) mo hZ [] aa (some ⟨126,(Ls xs),[(0,0)],[]⟩) (λr hr=>by cases hr;exact Km xs Ax (Cj h1)) 1 4 (λ_=>[nd [.cp 0 0] [some (C8 xs)]]) (.v (.iface 44 (.int .i64 2))) (by kernel_rfl) ⟨rfl,aa⟩ V.st λac gs ws pv V hpv=>AE (CN rfl V hpv rfl rfl)
theorem VD (m:Nat):0<ER xs m:=by
 unfold ER;rw[Ab]
 repeat (first |decide|split)
theorem IE (m:Nat):0<BQ xs m:=by
 unfold BQ;rw[Ab]
 repeat (first |decide|exact VD _ _|split)
def I5:Bool:=AV (if BA xs 4000=true then(if BA ((Af xs).2.drop ((Af xs).1.toNat)) 4000=true then true else false)else false)
def E2:Nat:=AV (if BA xs 4000=true then(BQ ((Af xs).2.drop ((Af xs).1.toNat)) 4000)else(BQ xs 4000))
theorem jX (h:xs.length<=100000000000000) (hk:I5 xs=true):AP 101 ⟨[.cp 0 0,.cp 1 0],[(0,C8 xs),(1,Y0)],.tu (Jg []),[(0,C8 (((Af ((Af xs).2.drop ((Af xs).1.toNat))).2).drop (((Af ((Af xs).2.drop ((Af xs).1.toNat))).1).toNat))),(1,R5 ((Af xs).2.take ((Af xs).1.toNat)) (((Af ((Af xs).2.drop ((Af xs).1.toNat))).2).take (((Af ((Af xs).2.drop ((Af xs).1.toNat))).1).toNat)))]⟩:=by
 refine cy 2 func101 rfl ntmps101 λY V=> ?_
 have hnn:=AU xs
 by_cases h1:BA xs 4000=true
 ·have hnn:=AU xs
  by_cases h2:BA ((Af xs).2.drop ((Af xs).1.toNat)) 4000=true
  ·have hnn:=AU xs
   exact Aw [(1,AA (Eg xs 4000 Ax Ac h1) [(0,0)] []),(3,AA (Eg ((Af xs).2.drop ((Af xs).1.toNat)) 4000 Ax Ac h2) [(0,0)] [])] [] 2 V λV=>fQ V
  ·have hnn:=AU xs
   have hK:I5 xs=false:=(Ab _).trans ((ah h1).trans (aj h2))
   rw[hK]at hk
   cases hk
 ·have hnn:=AU xs
  have hK:I5 xs=false:=(Ab _).trans (aj h1)
  rw[hK]at hk
  cases hk
def aW:Con:=⟨[.cp 0 0,.cp 1 0],[(0,C8 xs),(1,Y0)],.v (.iface 44 (.int .i64 ((E2 xs:Nat):Int))),[]⟩
theorem jW (h:xs.length<=100000000000000) (hk:I5 xs=false):EB Tryz.prog 101 (aW xs):=by
 refine C4 rfl (nb:=2) func101 rfl rfl ntmps101 rfl rfl rfl λg0 w0 ac gs ws Y V=> ?_
 have V:=V.sp
 have hnn:=AU xs
 by_cases h1:BA xs 4000=true
 ·have hnn:=AU xs
  by_cases h2:BA ((Af xs).2.drop ((Af xs).1.toNat)) 4000=true
  ·have hnn:=AU xs
   refine Aw [(1,AA (Eg xs 4000 Ax Ac h1) [(0,0)] []),(3,AA (Eg ((Af xs).2.drop ((Af xs).1.toNat)) 4000 Ax Ac h2) [(0,0)] [])] [] 2 V λV=> ?_
   have hK:I5 xs=true:=(Ab _).trans ((ah h1).trans (ah h2))
   rw[hK]at hk
   cases hk
  ·have hnn:=AU xs
   refine Bd (E:=E0) mo hZ [(1,.call ⟨102,(OI xs 4000),[(0,0)],[]⟩)] ⟨Eg _ _ Ax Ac h1,aa⟩ (some ⟨102,(G_ ((Af xs).2.drop ((Af xs).1.toNat)) 4000),[(0,0)],[]⟩) (λr hr=>by cases hr;exact Hs ((Af xs).2.drop ((Af xs).1.toNat)) 4000 Ax Ac (Cj h2)) 3 240 (λC=>[kF C 1,nd [.cp 0 0,vi 4000] [some (C8 ((Af xs).2.drop ((Af xs).1.toNat)))]]) (.v (.iface 44 (.int .i64 ((BQ ((Af xs).2.drop ((Af xs).1.toNat)) 4000:Nat):Int)))) (by kernel_rfl) ⟨rfl,rfl,aa⟩ V.st λac gs ws pv V hpv=> ?_
   have hM:E2 xs=(BQ ((Af xs).2.drop ((Af xs).1.toNat)) 4000):=(Ab _).trans (ah h1)
   exact CN rfl V hpv (by show _=(.v (.iface 44 (.int .i64 ((E2 xs:Nat):Int))):D);rw[hM]<;>rfl) rfl
 ·have hnn:=AU xs
  refine Bd (E:=E0) mo hZ [] aa (some ⟨102,(G_ xs 4000),[(0,0)],[]⟩) (λr hr=>by cases hr;exact Hs xs 4000 Ax Ac (Cj h1)) 1 252 (λ_=>[nd [.cp 0 0,vi 4000] [some (C8 xs)]]) (.v (.iface 44 (.int .i64 ((BQ xs 4000:Nat):Int)))) (by kernel_rfl) ⟨rfl,aa⟩ V.st λac gs ws pv V hpv=> ?_
  have hM:E2 xs=(BQ xs 4000):=(Ab _).trans (aj h1)
  exact CN rfl V hpv (by show _=(.v (.iface 44 (.int .i64 ((E2 xs:Nat):Int))):D);rw[hM]<;>rfl) rfl
theorem GD:0<E2 xs:=by
 unfold E2;rw[Ab]
 repeat (first |decide|exact IE _ _|split)
def I4:Bool:=AV (if I5 xs=true then(if Er (((Af ((Af xs).2.drop ((Af xs).1.toNat))).2).drop (((Af ((Af xs).2.drop ((Af xs).1.toNat))).1).toNat))=true then true else false)else false)
def EE:Nat:=AV (if I5 xs=true then 2 else(E2 xs))
theorem jG (h:xs.length<=100000000000000) (hk:I4 xs=true):AP 59 ⟨[lb xs,.fn 101 (Jg []) (Jg [.cp 0 0])],[(0,Y0)],vi 0,[(0,R5 ((Af xs).2.take ((Af xs).1.toNat)) (((Af ((Af xs).2.drop ((Af xs).1.toNat))).2).take (((Af ((Af xs).2.drop ((Af xs).1.toNat))).1).toNat)))]⟩:=by
 refine Du rfl (nb:=1) func59 rfl rfl ntmps59 rfl rfl rfl λg0 w0 ac gs ws Y V=> ?_
 have V:=V.sp
 refine Aj [] 2 V λV=>Ar ?_
 have V:=V.rv [(0,lb xs),(1,.fn 101 (Jg []) (Jg [.cp 0 0])),(4,.cp 1 0)] [(0,some (Y0)),(1,some (Da))]
 refine FM rfl V (cs:=[.cp 1 0]) rfl rfl rfl λD vds ac hD hcv hB V=> ?_
 have V:=V.sp
 refine Ae (Ay [(1,AA (G5 xs Ax) [] [(0,2)])] [] 3 V λV=>Ar (Aj [] 3 V λV=>AG V ?_))
 have hz:=GD xs
 by_cases h1:I5 xs=true
 ·have hz:=GD xs
  refine Aw [(2,AA (jX xs Ax h1) [(0,2),(1,0)] [])] [] 3 V λV=>CQ ?_
  by_cases h2:Er (((Af ((Af xs).2.drop ((Af xs).1.toNat))).2).drop (((Af ((Af xs).2.drop ((Af xs).1.toNat))).1).toNat))=true
  ·refine Aw [(1,AA (It (((Af ((Af xs).2.drop ((Af xs).1.toNat))).2).drop (((Af ((Af xs).2.drop ((Af xs).1.toNat))).1).toNat)) h2) [(0,2)] [])] [] 3 V λV=>Ae (Aj [] 3 V λV=>AY ?_)
   have V:=V.rv [(4,.cp 1 0)] [(0,some (R5 ((Af xs).2.take ((Af xs).1.toNat)) (((Af ((Af xs).2.drop ((Af xs).1.toNat))).2).take (((Af ((Af xs).2.drop ((Af xs).1.toNat))).1).toNat)))),(1,some (Da))]
   exact Mm (.inr rfl) V hD (DT ⟨88,(Lr),[(0,1)],[]⟩ [(1,some (Da)),(0,some (R5 ((Af xs).2.take ((Af xs).1.toNat)) (((Af ((Af xs).2.drop ((Af xs).1.toNat))).2).take (((Af ((Af xs).2.drop ((Af xs).1.toNat))).1).toNat)))),(1,some (Da))] hB V hcv (show FrameMode.returning≠ .run from nofun) rfl rfl rfl (Kh) rfl ⟨rfl,aa⟩ rfl (ds:=[vi 0]) (by kernel_rfl) rfl ⟨rfl,aa⟩)
  ·have hK:I4 xs=false:=(Ab _).trans ((ah h1).trans (aj h2))
   rw[hK]at hk
   cases hk
 ·have hz:=GD xs
  have hK:I4 xs=false:=(Ab _).trans (aj h1)
  rw[hK]at hk
  cases hk
def aU:Con:=⟨[lb xs,.fn 101 (Jg []) (Jg [.cp 0 0])],[(0,Y0)],vi ((EE xs:Nat):Int),[]⟩
theorem jF (h:xs.length<=100000000000000) (hk:I4 xs=false):AP 59 (aU xs):=by
 refine Du rfl (nb:=1) func59 rfl rfl ntmps59 rfl rfl rfl λg0 w0 ac gs ws Y V=> ?_
 have V:=V.sp
 refine Aj [] 2 V λV=>Ar ?_
 have V:=V.rv [(0,lb xs),(1,.fn 101 (Jg []) (Jg [.cp 0 0])),(4,.cp 1 0)] [(0,some (Y0)),(1,some (Da))]
 refine FM rfl V (cs:=[.cp 1 0]) rfl rfl rfl λD vds ac hD hcv hB V=> ?_
 have V:=V.sp
 refine Ae (Ay [(1,AA (G5 xs Ax) [] [(0,2)])] [] 3 V λV=>Ar (Aj [] 3 V λV=>AG V ?_))
 have hz:=GD xs
 by_cases h1:I5 xs=true
 ·have hz:=GD xs
  refine Aw [(2,AA (jX xs Ax h1) [(0,2),(1,0)] [])] [] 3 V λV=>CQ ?_
  by_cases h2:Er (((Af ((Af xs).2.drop ((Af xs).1.toNat))).2).drop (((Af ((Af xs).2.drop ((Af xs).1.toNat))).1).toNat))=true
  ·refine Aw [(1,AA (It (((Af ((Af xs).2.drop ((Af xs).1.toNat))).2).drop (((Af ((Af xs).2.drop ((Af xs).1.toNat))).1).toNat)) h2) [(0,2)] [])] [] 3 V λV=>Ae (Aj [] 3 V λV=>AY ?_)
   have hK:I4 xs=true:=(Ab _).trans ((ah h1).trans (ah h2))
   rw[hK]at hk
   cases hk
  ·refine HF (E:=E0) mo hZ [] aa (some ⟨90,(NQ (((Af ((Af xs).2.drop ((Af xs).1.toNat))).2).drop (((Af ((Af xs).2.drop ((Af xs).1.toNat))).1).toNat))),[(0,2)],[]⟩) (λr hr=>by cases hr;exact Oo (((Af ((Af xs).2.drop ((Af xs).1.toNat))).2).drop (((Af ((Af xs).2.drop ((Af xs).1.toNat))).1).toNat)) (Cj h2)) 1 0 (λ_=>[nd [.cp 2 0] [some (C8 (((Af ((Af xs).2.drop ((Af xs).1.toNat))).2).drop (((Af ((Af xs).2.drop ((Af xs).1.toNat))).1).toNat)))]]) (.v (.iface 44 (.int .i64 2))) [4] [1] [(4,.cp 1 0)] [(1,some (Da))] (by kernel_rfl) ⟨rfl,aa⟩ (by kernel_rfl) (by kernel_rfl) V.st λac gs ws pv V hpv=>AE ?_
   obtain rfl:=hpv.v_of
   have hM:EE xs=2:=(Ab _).trans (ah h1)
   exact KB V hD (DT ⟨88,(JK 2),[(0,1)],[]⟩ [(1,some (Abp)),(1,some (Da))] hB V hcv (show FrameMode.panicking _≠ .run from nofun) rfl rfl rfl (I3 2 Ac) rfl ⟨rfl,aa⟩ rfl (ds:=[vi 2]) (by kernel_rfl) (by show weak _ (vi ((EE xs:Nat):Int))=(vi ((EE xs:Nat):Int));first |rfl|(rw[hM];first |(simp only[];rfl)|(simp only[];done)|rfl)) aa)
 ·have hz:=GD xs
  refine HF (E:=E0) mo hZ [] aa (some ⟨101,(aW xs),[(0,2),(1,0)],[]⟩) (λr hr=>by cases hr;exact jW xs Ax (Cj h1)) 2 0 (λ_=>[nd [.cp 2 0,.cp 0 0] [some (C8 xs),some (Y0)]]) (.v (.iface 44 (.int .i64 ((E2 xs:Nat):Int)))) [4] [1] [(4,.cp 1 0)] [(1,some (Da))] (by kernel_rfl) ⟨rfl,aa⟩ (by kernel_rfl) (by kernel_rfl) V.st λac gs ws pv V hpv=>AE ?_
  obtain rfl:=hpv.v_of
  have hM:EE xs=(E2 xs):=(Ab _).trans (aj h1)
  exact KB V hD (DT ⟨88,(JK (E2 xs)),[(0,1)],[]⟩ [(1,some (Y1 (E2 xs))),(1,some (Da))] hB V hcv (show FrameMode.panicking _≠ .run from nofun) rfl rfl rfl (I3 (E2 xs) Ac) rfl ⟨rfl,aa⟩ rfl (ds:=[vi (((E2 xs):Nat):Int)]) (by kernel_rfl) (by show weak _ (vi ((EE xs:Nat):Int))=(vi ((EE xs:Nat):Int));first |rfl|(rw[hM];first |(simp only[];rfl)|(simp only[];done)|rfl)) aa)
end
def qF (x0:Ad) (x1:Nat) (x2 x3:Nat) (x4 x5:Ad):O:= .ob 115 (Jg [lb x0,vi ((x1:Nat):Int),vi ((x2:Nat):Int),vi ((x3:Nat):Int),lb x4,lb x5])
section
variable (xs:Ad)
theorem CK:(Af (Af xs).2).2.length<=xs.length:=ca (AU _).2 (AU _).2
theorem Cs:(Af (Af (Af xs).2).2).2.length<=xs.length:=ca (AU _).2 (CK _)
def G2 (ba bb:Ad):Bool:=AV (if DO xs=true then(if DO (Af xs).2=true then(if DO ((Af (Af xs).2).2)=true then(if BA ((Af ((Af (Af xs).2).2)).2) 4000=true then true else false)else false)else false)else false)
def DW (ba bb:Ad):Nat:=AV (if DO xs=true then(if DO (Af xs).2=true then(if DO ((Af (Af xs).2).2)=true then(BQ ((Af ((Af (Af xs).2).2)).2) 4000)else 2)else 2)else 2)
def Di (ba bb:Ad):Ad×Nat×Nat×Nat×Ad:=AV (((((Af ((Af ((Af (Af xs).2).2)).2)).2).drop (((Af ((Af ((Af (Af xs).2).2)).2)).1).toNat)),((Af xs).1.toNat),(((Af (Af xs).2).1).toNat),(((Af ((Af (Af xs).2).2)).1).toNat),(((Af ((Af ((Af (Af xs).2).2)).2)).2).take (((Af ((Af ((Af (Af xs).2).2)).2)).1).toNat))))
end
theorem La (xs ba bb:Ad):(Di xs ba bb).1.length<=xs.length:=by
 have h3:=Cs xs
 have h4:=(AU (Af (Af (Af xs).2).2).2).2
 unfold Di;rw[Ab]
 show(List.drop _ _).length<=_
 rw[av]
 omega
section
variable (xs ba bb:Ad)
def AcR (z_:Ad×Nat×Nat×Nat×Ad:=Di xs ba bb):Con:=⟨[.cp 0 0,.cp 1 0],[(0,C8 xs),(1,R5 ba bb)],.tu (Jg []),[(0,C8 (z_.1)),(1,qF ba z_.2.1 z_.2.2.1 z_.2.2.2.1 (z_.2.2.2.2) bb)]⟩
theorem jV (h:xs.length<=100000000000000) (hk:G2 xs ba bb=true):AP 103 (AcR xs ba bb):=by
 refine cy 2 func103 rfl ntmps103 λY V=> ?_
 have hnn:=AU xs
 have hn2:=CK xs
 have hn3:=Cs xs
 by_cases h1:DO xs=true
 ·have hnn:=AU xs
  have hn2:=CK xs
  have hn3:=Cs xs
  by_cases h2:DO (Af xs).2=true
  ·have hnn:=AU xs
   have hn2:=CK xs
   have hn3:=Cs xs
   by_cases h3:DO ((Af (Af xs).2).2)=true
   ·have hnn:=AU xs
    have hn2:=CK xs
    have hn3:=Cs xs
    by_cases h4:BA ((Af ((Af (Af xs).2).2)).2) 4000=true
    ·have hnn:=AU xs
     have hn2:=CK xs
     have hn3:=Cs xs
     exact Aw [(1,AA (Fi xs Ax h1) [(0,0)] []),(3,AA (Fi (Af xs).2 Ax h2) [(0,0)] []),(5,AA (Fi ((Af (Af xs).2).2) Ax h3) [(0,0)] []),(7,AA (Eg ((Af ((Af (Af xs).2).2)).2) 4000 Ax Ac h4) [(0,0)] [])] [] 2 V λV=>l8 (Ab _) V
    ·have hnn:=AU xs
     have hn2:=CK xs
     have hn3:=Cs xs
     have hK:G2 xs ba bb=false:=(Ab _).trans ((ah h1).trans ((ah h2).trans ((ah h3).trans (aj h4))))
     rw[hK]at hk
     cases hk
   ·have hnn:=AU xs
    have hn2:=CK xs
    have hn3:=Cs xs
    have hK:G2 xs ba bb=false:=(Ab _).trans ((ah h1).trans ((ah h2).trans (aj h3)))
    rw[hK]at hk
    cases hk
  ·have hnn:=AU xs
   have hn2:=CK xs
   have hn3:=Cs xs
   have hK:G2 xs ba bb=false:=(Ab _).trans ((ah h1).trans (aj h2))
   rw[hK]at hk
   cases hk
 ·have hnn:=AU xs
  have hn2:=CK xs
  have hn3:=Cs xs
  have hK:G2 xs ba bb=false:=(Ab _).trans (aj h1)
  rw[hK]at hk
  cases hk
def aV:Con:=⟨[.cp 0 0,.cp 1 0],[(0,C8 xs),(1,R5 ba bb)],.v (.iface 44 (.int .i64 ((DW xs ba bb:Nat):Int))),[]⟩
theorem jU (h:xs.length<=100000000000000) (hk:G2 xs ba bb=false):EB Tryz.prog 103 (aV xs ba bb):=by
 refine C4 rfl (nb:=2) func103 rfl rfl ntmps103 rfl rfl rfl λg0 w0 ac gs ws Y V=> ?_
 have V:=V.sp
 have hnn:=AU xs
 have hn2:=CK xs
 have hn3:=Cs xs
 by_cases h1:DO xs=true
 ·have hnn:=AU xs
  have hn2:=CK xs
  have hn3:=Cs xs
  by_cases h2:DO (Af xs).2=true
  ·have hnn:=AU xs
   have hn2:=CK xs
   have hn3:=Cs xs
   by_cases h3:DO ((Af (Af xs).2).2)=true
   ·have hnn:=AU xs
    have hn2:=CK xs
    have hn3:=Cs xs
    by_cases h4:BA ((Af ((Af (Af xs).2).2)).2) 4000=true
    ·have hnn:=AU xs
     have hn2:=CK xs
     have hn3:=Cs xs
     refine Aw [(1,AA (Fi xs Ax h1) [(0,0)] []),(3,AA (Fi (Af xs).2 Ax h2) [(0,0)] []),(5,AA (Fi ((Af (Af xs).2).2) Ax h3) [(0,0)] []),(7,AA (Eg ((Af ((Af (Af xs).2).2)).2) 4000 Ax Ac h4) [(0,0)] [])] [] 2 V λV=> ?_
     have hK:G2 xs ba bb=true:=(Ab _).trans ((ah h1).trans ((ah h2).trans ((ah h3).trans (ah h4))))
     rw[hK]at hk
     cases hk
    ·have hnn:=AU xs
     have hn2:=CK xs
     have hn3:=Cs xs
     refine Bd (E:=E0) mo hZ [(1,.call ⟨92,(KU xs),[(0,0)],[]⟩),(3,.call ⟨92,(KU (Af xs).2),[(0,0)],[]⟩),(5,.call ⟨92,(KU ((Af (Af xs).2).2)),[(0,0)],[]⟩)] ⟨Fi _ Ax h1,Fi _ Ax h2,Fi _ Ax h3,aa⟩ (some ⟨102,(G_ ((Af ((Af (Af xs).2).2)).2) 4000),[(0,0)],[]⟩) (λr hr=>by cases hr;exact Hs ((Af ((Af (Af xs).2).2)).2) 4000 Ax Ac (Cj h4)) 7 65280 (λC=>[kF C 1,kF C 3,kF C 5,nd [.cp 0 0,vi 4000] [some (C8 ((Af ((Af (Af xs).2).2)).2))]]) (.v (.iface 44 (.int .i64 ((BQ ((Af ((Af (Af xs).2).2)).2) 4000:Nat):Int)))) (by kernel_rfl) ⟨rfl,rfl,rfl,rfl,aa⟩ V.st λac gs ws pv V hpv=> ?_
     have hM:DW xs ba bb=(BQ ((Af ((Af (Af xs).2).2)).2) 4000):=(Ab _).trans ((ah h1).trans ((ah h2).trans (ah h3)))
     exact CN rfl V hpv (by show _=(.v (.iface 44 (.int .i64 ((DW xs ba bb:Nat):Int))):D);rw[hM]<;>rfl) rfl
   ·have hnn:=AU xs
    have hn2:=CK xs
    have hn3:=Cs xs
    refine Bd (E:=E0) mo hZ [(1,.call ⟨92,(KU xs),[(0,0)],[]⟩),(3,.call ⟨92,(KU (Af xs).2),[(0,0)],[]⟩)] ⟨Fi _ Ax h1,Fi _ Ax h2,aa⟩ (some ⟨92,(NP ((Af (Af xs).2).2)),[(0,0)],[]⟩) (λr hr=>by cases hr;exact Oe ((Af (Af xs).2).2) Ax (Cj h3)) 5 65472 (λC=>[kF C 1,kF C 3,nd [.cp 0 0] [some (C8 ((Af (Af xs).2).2))]]) (.v (.iface 44 (.int .i64 2))) (by kernel_rfl) ⟨rfl,rfl,rfl,aa⟩ V.st λac gs ws pv V hpv=> ?_
    have hM:DW xs ba bb=2:=(Ab _).trans ((ah h1).trans ((ah h2).trans (aj h3)))
    exact CN rfl V hpv (by show _=(.v (.iface 44 (.int .i64 ((DW xs ba bb:Nat):Int))):D);rw[hM]<;>rfl) rfl
  ·have hnn:=AU xs
   have hn2:=CK xs
   have hn3:=Cs xs
   refine Bd (E:=E0) mo hZ [(1,.call ⟨92,(KU xs),[(0,0)],[]⟩)] ⟨Fi _ Ax h1,aa⟩ (some ⟨92,(NP (Af xs).2),[(0,0)],[]⟩) (λr hr=>by cases hr;exact Oe (Af xs).2 Ax (Cj h2)) 3 65520 (λC=>[kF C 1,nd [.cp 0 0] [some (C8 (Af xs).2)]]) (.v (.iface 44 (.int .i64 2))) (by kernel_rfl) ⟨rfl,rfl,aa⟩ V.st λac gs ws pv V hpv=> ?_
   have hM:DW xs ba bb=2:=(Ab _).trans ((ah h1).trans (aj h2))
   exact CN rfl V hpv (by show _=(.v (.iface 44 (.int .i64 ((DW xs ba bb:Nat):Int))):D);rw[hM]<;>rfl) rfl
 ·have hnn:=AU xs
  have hn2:=CK xs
  have hn3:=Cs xs
  refine Bd (E:=E0) mo hZ [] aa (some ⟨92,(NP xs),[(0,0)],[]⟩) (λr hr=>by cases hr;exact Oe xs Ax (Cj h1)) 1 65532 (λ_=>[nd [.cp 0 0] [some (C8 xs)]]) (.v (.iface 44 (.int .i64 2))) (by kernel_rfl) ⟨rfl,aa⟩ V.st λac gs ws pv V hpv=> ?_
  have hM:DW xs ba bb=2:=(Ab _).trans (aj h1)
  exact CN rfl V hpv (by show _=(.v (.iface 44 (.int .i64 ((DW xs ba bb:Nat):Int))):D);rw[hM]<;>rfl) rfl
end
theorem GC (xs ba bb:Ad):0<DW xs ba bb:=by
 unfold DW;rw[Ab]
 repeat (first |decide|exact IE _ _|split)
section
variable (xs ba bb:Ad)
def HU:Bool:=AV (if G2 xs ba bb=true then(if Er (Di xs ba bb).1=true then true else false)else false)
def ED:Nat:=AV (if G2 xs ba bb=true then 2 else(DW xs ba bb))
def FZ:Nat×Nat×Nat×Ad:=AV (((Di xs ba bb).2.1,(Di xs ba bb).2.2.1,(Di xs ba bb).2.2.2.1,(Di xs ba bb).2.2.2.2))
def AcQ (z_:Nat×Nat×Nat×Ad:=FZ xs ba bb):Con:=⟨[lb xs,.fn 103 (Jg []) (Jg [.cp 0 0])],[(0,R5 ba bb)],vi 0,[(0,qF ba z_.1 z_.2.1 z_.2.2.1 (z_.2.2.2) bb)]⟩
theorem jE (h:xs.length<=100000000000000) (hk:HU xs ba bb=true):AP 59 (AcQ xs ba bb):=by
 refine Du rfl (nb:=1) func59 rfl rfl ntmps59 rfl rfl rfl λg0 w0 ac gs ws Y V=> ?_
 have V:=V.sp
 refine Aj [] 2 V λV=>Ar ?_
 have V:=V.rv [(0,lb xs),(1,.fn 103 (Jg []) (Jg [.cp 0 0])),(4,.cp 1 0)] [(0,some (R5 ba bb)),(1,some (Da))]
 refine FM rfl V (cs:=[.cp 1 0]) rfl rfl rfl λD vds ac hD hcv hB V=> ?_
 have V:=V.sp
 refine Ae (Ay [(1,AA (G5 xs Ax) [] [(0,2)])] [] 3 V λV=>Ar (Aj [] 3 V λV=>AG V ?_))
 have hz:=GC xs ba bb
 by_cases h1:G2 xs ba bb=true
 ·have hz:=GC xs ba bb
  refine Aw [(2,AA (jV xs ba bb Ax h1) [(0,2),(1,0)] [])] [] 3 V λV=>CQ ?_
  have hpl:=La xs ba bb
  by_cases h2:Er (Di xs ba bb).1=true
  ·have hpl:=La xs ba bb
   refine Aw [(1,AA (It (Di xs ba bb).1 h2) [(0,2)] [])] [] 3 V λV=>Ae (Aj [] 3 V λV=>AY ?_)
   have hM:FZ xs ba bb=((Di xs ba bb).2.1,(Di xs ba bb).2.2.1,(Di xs ba bb).2.2.2.1,(Di xs ba bb).2.2.2.2):=Ab _
   have V:=V.rv [(4,.cp 1 0)] [(0,some (qF ba (Di xs ba bb).2.1 (Di xs ba bb).2.2.1 (Di xs ba bb).2.2.2.1 (Di xs ba bb).2.2.2.2 bb)),(1,some (Da))]
   exact Mm (.inr rfl) V hD (DT ⟨88,(Lr),[(0,1)],[]⟩ [(1,some (Da)),(0,some (qF ba (Di xs ba bb).2.1 (Di xs ba bb).2.2.1 (Di xs ba bb).2.2.2.1 (Di xs ba bb).2.2.2.2 bb)),(1,some (Da))] hB V hcv (show FrameMode.returning≠ .run from nofun) rfl rfl rfl (Kh) rfl ⟨rfl,aa⟩ rfl (ds:=[vi 0]) (by kernel_rfl) rfl (by show E6 _ [(0,qF ba (FZ xs ba bb).1 (FZ xs ba bb).2.1 (FZ xs ba bb).2.2.1 (FZ xs ba bb).2.2.2 bb)] true;first |exact⟨rfl,aa⟩|(rw[hM];first |(simp only[];exact⟨rfl,aa⟩)|exact⟨rfl,aa⟩)))
  ·have hpl:=La xs ba bb
   have hK:HU xs ba bb=false:=(Ab _).trans ((ah h1).trans (aj h2))
   rw[hK]at hk
   cases hk
 ·have hz:=GC xs ba bb
  have hK:HU xs ba bb=false:=(Ab _).trans (aj h1)
  rw[hK]at hk
  cases hk
def aT:Con:=⟨[lb xs,.fn 103 (Jg []) (Jg [.cp 0 0])],[(0,R5 ba bb)],vi ((ED xs ba bb:Nat):Int),[]⟩
theorem jD (h:xs.length<=100000000000000) (hk:HU xs ba bb=false):AP 59 (aT xs ba bb):=by
 refine Du rfl (nb:=1) func59 rfl rfl ntmps59 rfl rfl rfl λg0 w0 ac gs ws Y V=> ?_
 have V:=V.sp
 refine Aj [] 2 V λV=>Ar ?_
 have V:=V.rv [(0,lb xs),(1,.fn 103 (Jg []) (Jg [.cp 0 0])),(4,.cp 1 0)] [(0,some (R5 ba bb)),(1,some (Da))]
 refine FM rfl V (cs:=[.cp 1 0]) rfl rfl rfl λD vds ac hD hcv hB V=> ?_
 have V:=V.sp
 refine Ae (Ay [(1,AA (G5 xs Ax) [] [(0,2)])] [] 3 V λV=>Ar (Aj [] 3 V λV=>AG V ?_))
 have hz:=GC xs ba bb
 by_cases h1:G2 xs ba bb=true
 ·have hz:=GC xs ba bb
  refine Aw [(2,AA (jV xs ba bb Ax h1) [(0,2),(1,0)] [])] [] 3 V λV=>CQ ?_
  have hpl:=La xs ba bb
  by_cases h2:Er (Di xs ba bb).1=true
  ·have hpl:=La xs ba bb
   refine Aw [(1,AA (It (Di xs ba bb).1 h2) [(0,2)] [])] [] 3 V λV=>Ae (Aj [] 3 V λV=>AY ?_)
   have hK:HU xs ba bb=true:=(Ab _).trans ((ah h1).trans (ah h2))
   rw[hK]at hk
   cases hk
  ·have hpl:=La xs ba bb
   refine HF (E:=E0) mo hZ [] aa (some ⟨90,(NQ (Di xs ba bb).1),[(0,2)],[]⟩) (λr hr=>by cases hr;exact Oo (Di xs ba bb).1 (Cj h2)) 1 0 (λ_=>[nd [.cp 2 0] [some (C8 (Di xs ba bb).1)]]) (.v (.iface 44 (.int .i64 2))) [4] [1] [(4,.cp 1 0)] [(1,some (Da))] (by kernel_rfl) ⟨rfl,aa⟩ (by kernel_rfl) (by kernel_rfl) V.st λac gs ws pv V hpv=>AE ?_
   obtain rfl:=hpv.v_of
   have hM:ED xs ba bb=2:=(Ab _).trans (ah h1)
   exact KB V hD (DT ⟨88,(JK 2),[(0,1)],[]⟩ [(1,some (Abp)),(1,some (Da))] hB V hcv (show FrameMode.panicking _≠ .run from nofun) rfl rfl rfl (I3 2 Ac) rfl ⟨rfl,aa⟩ rfl (ds:=[vi 2]) (by kernel_rfl) (by show weak _ (vi ((ED xs ba bb:Nat):Int))=(vi ((ED xs ba bb:Nat):Int));first |rfl|(rw[hM];first |(simp only[];rfl)|(simp only[];done)|rfl)) aa)
 ·have hz:=GC xs ba bb
  refine HF (E:=E0) mo hZ [] aa (some ⟨103,(aV xs ba bb),[(0,2),(1,0)],[]⟩) (λr hr=>by cases hr;exact jU xs ba bb Ax (Cj h1)) 2 0 (λ_=>[nd [.cp 2 0,.cp 0 0] [some (C8 xs),some (R5 ba bb)]]) (.v (.iface 44 (.int .i64 ((DW xs ba bb:Nat):Int)))) [4] [1] [(4,.cp 1 0)] [(1,some (Da))] (by kernel_rfl) ⟨rfl,aa⟩ (by kernel_rfl) (by kernel_rfl) V.st λac gs ws pv V hpv=>AE ?_
  obtain rfl:=hpv.v_of
  have hM:ED xs ba bb=(DW xs ba bb):=(Ab _).trans (aj h1)
  exact KB V hD (DT ⟨88,(JK (DW xs ba bb)),[(0,1)],[]⟩ [(1,some (Y1 (DW xs ba bb))),(1,some (Da))] hB V hcv (show FrameMode.panicking _≠ .run from nofun) rfl rfl rfl (I3 (DW xs ba bb) Ac) rfl ⟨rfl,aa⟩ rfl (ds:=[vi (((DW xs ba bb):Nat):Int)]) (by kernel_rfl) (by show weak _ (vi ((ED xs ba bb:Nat):Int))=(vi ((ED xs ba bb:Nat):Int));first |rfl|(rw[hM];first |(simp only[];rfl)|(simp only[];done)|rfl)) aa)
end
theorem G6:AP 71 ⟨[vi 0],[],.tu (Jg []),[]⟩:=by
 exact cy 0 func71 rfl ntmps71 λY V=>Aj [] 0 V λV=>Ai V (sR (fQ V))
def HC (n:Nat):Con:=⟨[vi (n:Int)],[],.v (.iface 44 (.int .i64 (n:Int))),[]⟩
theorem Ks (n:Nat) (hn:0<n):EB Tryz.prog 71 (HC n):=by
 refine C4 rfl (nb:=0) func71 rfl rfl ntmps71 rfl rfl rfl λg0 w0 ac gs ws Y V=> ?_
 have V:=V.sp
 have hn0:¬(n:Int)=0:=Ac
 exact Ay [(1,sT hn0)] [] 0 V λV=>AG V (Bd (E:=E0) mo hZ [] aa none (λr hr=>by cases hr) 2 0 (λ_=>[]) (.v (.iface 44 (.int .i64 (n:Int)))) (by kernel_rfl) aa V.st λac gs ws pv V hpv=>CN rfl V hpv rfl rfl)
theorem HI (xs:Ad):0<EE xs:=by
 unfold EE;rw[Ab]
 repeat (first |decide|exact GD _|split)
theorem HH (xs ba bb:Ad):0<ED xs ba bb:=by
 unfold ED;rw[Ab]
 repeat (first |decide|exact GC _ _ _|split)
section
variable (xs:Ad)
def B_:Bool:=AV (if I4 xs=true then(if HU ((Af xs).2.take ((Af xs).1.toNat)) ((Af xs).2.take ((Af xs).1.toNat)) (((Af ((Af xs).2.drop ((Af xs).1.toNat))).2).take (((Af ((Af xs).2.drop ((Af xs).1.toNat))).1).toNat))=true then(if(((([]++Ah ((Af xs).2.take ((Af xs).1.toNat)).length)++((Af xs).2.take ((Af xs).1.toNat)))++Ah (((Af ((Af xs).2.drop ((Af xs).1.toNat))).2).take (((Af ((Af xs).2.drop ((Af xs).1.toNat))).1).toNat)).length)++(((Af ((Af xs).2.drop ((Af xs).1.toNat))).2).take (((Af ((Af xs).2.drop ((Af xs).1.toNat))).1).toNat)))=xs then true else false)else false)else false)
def De:Nat:=AV (if I4 xs=true then(if HU ((Af xs).2.take ((Af xs).1.toNat)) ((Af xs).2.take ((Af xs).1.toNat)) (((Af ((Af xs).2.drop ((Af xs).1.toNat))).2).take (((Af ((Af xs).2.drop ((Af xs).1.toNat))).1).toNat))=true then 2 else(ED ((Af xs).2.take ((Af xs).1.toNat)) ((Af xs).2.take ((Af xs).1.toNat)) (((Af ((Af xs).2.drop ((Af xs).1.toNat))).2).take (((Af ((Af xs).2.drop ((Af xs).1.toNat))).1).toNat))))else(EE xs))
def Aa:Ad×Nat×Nat×Nat×Ad×Ad:=AV ((((Af xs).2.take ((Af xs).1.toNat)),((FZ ((Af xs).2.take ((Af xs).1.toNat)) ((Af xs).2.take ((Af xs).1.toNat)) (((Af ((Af xs).2.drop ((Af xs).1.toNat))).2).take (((Af ((Af xs).2.drop ((Af xs).1.toNat))).1).toNat))).1),((FZ ((Af xs).2.take ((Af xs).1.toNat)) ((Af xs).2.take ((Af xs).1.toNat)) (((Af ((Af xs).2.drop ((Af xs).1.toNat))).2).take (((Af ((Af xs).2.drop ((Af xs).1.toNat))).1).toNat))).2.1),((FZ ((Af xs).2.take ((Af xs).1.toNat)) ((Af xs).2.take ((Af xs).1.toNat)) (((Af ((Af xs).2.drop ((Af xs).1.toNat))).2).take (((Af ((Af xs).2.drop ((Af xs).1.toNat))).1).toNat))).2.2.1),(FZ ((Af xs).2.take ((Af xs).1.toNat)) ((Af xs).2.take ((Af xs).1.toNat)) (((Af ((Af xs).2.drop ((Af xs).1.toNat))).2).take (((Af ((Af xs).2.drop ((Af xs).1.toNat))).1).toNat))).2.2.2,(((Af ((Af xs).2.drop ((Af xs).1.toNat))).2).take (((Af ((Af xs).2.drop ((Af xs).1.toNat))).1).toNat))))
def oZ (z_:Ad×Nat×Nat×Nat×Ad×Ad:=Aa xs):Con:=⟨[lb xs],[],.ag (Jg [lb (z_.1),vi ((z_.2.1:Nat):Int),vi ((z_.2.2.1:Nat):Int),vi ((z_.2.2.2.1:Nat):Int),lb (z_.2.2.2.2.1),lb (z_.2.2.2.2.2)]),[]⟩
theorem Lb (h:xs.length<=1000000000) (hk:B_ xs=true):AP 68 (oZ xs):=by
 refine cy 0 func68 rfl ntmps68 λY V=>Aj [] 1 V λV=>Ar ?_
 have hz1:=HI xs
 have hnn:=AU xs
 by_cases h1:I4 xs=true
 ·have hz1:=HI xs
  have hnn:=AU xs
  refine Aw [(2,AA (jG xs Ax h1) [(0,0)] []),(3,AS (G6))] [] 1 V λV=>CQ ?_
  have hz2:=HH ((Af xs).2.take ((Af xs).1.toNat)) ((Af xs).2.take ((Af xs).1.toNat)) (((Af ((Af xs).2.drop ((Af xs).1.toNat))).2).take (((Af ((Af xs).2.drop ((Af xs).1.toNat))).1).toNat))
  by_cases h2:HU ((Af xs).2.take ((Af xs).1.toNat)) ((Af xs).2.take ((Af xs).1.toNat)) (((Af ((Af xs).2.drop ((Af xs).1.toNat))).2).take (((Af ((Af xs).2.drop ((Af xs).1.toNat))).1).toNat))=true
  ·have hz2:=HH ((Af xs).2.take ((Af xs).1.toNat)) ((Af xs).2.take ((Af xs).1.toNat)) (((Af ((Af xs).2.drop ((Af xs).1.toNat))).2).take (((Af ((Af xs).2.drop ((Af xs).1.toNat))).1).toNat))
   refine Aw [(3,AA (jE ((Af xs).2.take ((Af xs).1.toNat)) ((Af xs).2.take ((Af xs).1.toNat)) (((Af ((Af xs).2.drop ((Af xs).1.toNat))).2).take (((Af ((Af xs).2.drop ((Af xs).1.toNat))).1).toNat)) Ax h2) [(0,0)] []),(4,AS (G6))] [] 1 V λV=>Ae (Aj [] 2 V λV=>Ii ?_)
   have hnn:=AU xs
   have hn2:=AU ((Af xs).2.drop (Af xs).1.toNat)
   rw[av]at hn2
   have w1:=Aq (n:=min (Af xs).1.toNat (Af xs).2.length) Ac
   have w2:=Aq (n:=min (Af ((Af xs).2.drop (Af xs).1.toNat)).1.toNat (Af ((Af xs).2.drop (Af xs).1.toNat)).2.length) Ac
   refine Aw [(3,AA (Jj ((Af xs).2.take ((Af xs).1.toNat)) Ax) [(0,1)] [(1,2)]),(6,AA (Dq (([]++Ah ((Af xs).2.take ((Af xs).1.toNat)).length)++((Af xs).2.take ((Af xs).1.toNat))) (((Af ((Af xs).2.drop ((Af xs).1.toNat))).2).take (((Af ((Af xs).2.drop ((Af xs).1.toNat))).1).toNat)) Ax Ax) [(0,1),(1,2)] [(2,3)]),(7,AA (Gd (((([]++Ah ((Af xs).2.take ((Af xs).1.toNat)).length)++((Af xs).2.take ((Af xs).1.toNat)))++Ah (((Af ((Af xs).2.drop ((Af xs).1.toNat))).2).take (((Af ((Af xs).2.drop ((Af xs).1.toNat))).1).toNat)).length)++(((Af ((Af xs).2.drop ((Af xs).1.toNat))).2).take (((Af ((Af xs).2.drop ((Af xs).1.toNat))).1).toNat))) Ax) [(0,1),(1,3)] []),(9,AS (Ew (((([]++Ah ((Af xs).2.take ((Af xs).1.toNat)).length)++((Af xs).2.take ((Af xs).1.toNat)))++Ah (((Af ((Af xs).2.drop ((Af xs).1.toNat))).2).take (((Af ((Af xs).2.drop ((Af xs).1.toNat))).1).toNat)).length)++(((Af ((Af xs).2.drop ((Af xs).1.toNat))).2).take (((Af ((Af xs).2.drop ((Af xs).1.toNat))).1).toNat))) xs))] [] 4 V λV=>Ae (IH ((((([]++Ah ((Af xs).2.take ((Af xs).1.toNat)).length)++((Af xs).2.take ((Af xs).1.toNat)))++Ah (((Af ((Af xs).2.drop ((Af xs).1.toNat))).2).take (((Af ((Af xs).2.drop ((Af xs).1.toNat))).1).toNat)).length)++(((Af ((Af xs).2.drop ((Af xs).1.toNat))).2).take (((Af ((Af xs).2.drop ((Af xs).1.toNat))).1).toNat)))=xs) V (λh3=> ?_) (λh3=> ?_))
   ·have hK:B_ xs=false:=(Ab _).trans ((ah h1).trans ((ah h2).trans (aj h3)))
    rw[hK]at hk
    cases hk
   ·exact Cb (Aj [] 4 V λV=>AY (BV (Ab _) V))
  ·have hz2:=HH ((Af xs).2.take ((Af xs).1.toNat)) ((Af xs).2.take ((Af xs).1.toNat)) (((Af ((Af xs).2.drop ((Af xs).1.toNat))).2).take (((Af ((Af xs).2.drop ((Af xs).1.toNat))).1).toNat))
   have hK:B_ xs=false:=(Ab _).trans ((ah h1).trans (aj h2))
   rw[hK]at hk
   cases hk
 ·have hz1:=HI xs
  have hnn:=AU xs
  have hK:B_ xs=false:=(Ab _).trans (aj h1)
  rw[hK]at hk
  cases hk
def Mw:Con:=⟨[lb xs],[],.v (.iface 44 (.int .i64 ((De xs:Nat):Int))),[]⟩
theorem O0 (h:xs.length<=1000000000) (hk:B_ xs=false):EB Tryz.prog 68 (Mw xs):=by
 refine C4 rfl (nb:=0) func68 rfl rfl ntmps68 rfl rfl rfl λg0 w0 ac gs ws Y V=> ?_
 have V:=V.sp
 refine Aj [] 1 V λV=>Ar ?_
 have hz1:=HI xs
 have hnn:=AU xs
 by_cases h1:I4 xs=true
 ·have hz1:=HI xs
  have hnn:=AU xs
  refine Aw [(2,AA (jG xs Ax h1) [(0,0)] []),(3,AS (G6))] [] 1 V λV=>CQ ?_
  have hz2:=HH ((Af xs).2.take ((Af xs).1.toNat)) ((Af xs).2.take ((Af xs).1.toNat)) (((Af ((Af xs).2.drop ((Af xs).1.toNat))).2).take (((Af ((Af xs).2.drop ((Af xs).1.toNat))).1).toNat))
  by_cases h2:HU ((Af xs).2.take ((Af xs).1.toNat)) ((Af xs).2.take ((Af xs).1.toNat)) (((Af ((Af xs).2.drop ((Af xs).1.toNat))).2).take (((Af ((Af xs).2.drop ((Af xs).1.toNat))).1).toNat))=true
  ·have hz2:=HH ((Af xs).2.take ((Af xs).1.toNat)) ((Af xs).2.take ((Af xs).1.toNat)) (((Af ((Af xs).2.drop ((Af xs).1.toNat))).2).take (((Af ((Af xs).2.drop ((Af xs).1.toNat))).1).toNat))
   refine Aw [(3,AA (jE ((Af xs).2.take ((Af xs).1.toNat)) ((Af xs).2.take ((Af xs).1.toNat)) (((Af ((Af xs).2.drop ((Af xs).1.toNat))).2).take (((Af ((Af xs).2.drop ((Af xs).1.toNat))).1).toNat)) Ax h2) [(0,0)] []),(4,AS (G6))] [] 1 V λV=>Ae (Aj [] 2 V λV=>Ii ?_)
   have hnn:=AU xs
   have hn2:=AU ((Af xs).2.drop (Af xs).1.toNat)
   rw[av]at hn2
   have w1:=Aq (n:=min (Af xs).1.toNat (Af xs).2.length) Ac
   have w2:=Aq (n:=min (Af ((Af xs).2.drop (Af xs).1.toNat)).1.toNat (Af ((Af xs).2.drop (Af xs).1.toNat)).2.length) Ac
   refine Aw [(3,AA (Jj ((Af xs).2.take ((Af xs).1.toNat)) Ax) [(0,1)] [(1,2)]),(6,AA (Dq (([]++Ah ((Af xs).2.take ((Af xs).1.toNat)).length)++((Af xs).2.take ((Af xs).1.toNat))) (((Af ((Af xs).2.drop ((Af xs).1.toNat))).2).take (((Af ((Af xs).2.drop ((Af xs).1.toNat))).1).toNat)) Ax Ax) [(0,1),(1,2)] [(2,3)]),(7,AA (Gd (((([]++Ah ((Af xs).2.take ((Af xs).1.toNat)).length)++((Af xs).2.take ((Af xs).1.toNat)))++Ah (((Af ((Af xs).2.drop ((Af xs).1.toNat))).2).take (((Af ((Af xs).2.drop ((Af xs).1.toNat))).1).toNat)).length)++(((Af ((Af xs).2.drop ((Af xs).1.toNat))).2).take (((Af ((Af xs).2.drop ((Af xs).1.toNat))).1).toNat))) Ax) [(0,1),(1,3)] []),(9,AS (Ew (((([]++Ah ((Af xs).2.take ((Af xs).1.toNat)).length)++((Af xs).2.take ((Af xs).1.toNat)))++Ah (((Af ((Af xs).2.drop ((Af xs).1.toNat))).2).take (((Af ((Af xs).2.drop ((Af xs).1.toNat))).1).toNat)).length)++(((Af ((Af xs).2.drop ((Af xs).1.toNat))).2).take (((Af ((Af xs).2.drop ((Af xs).1.toNat))).1).toNat))) xs))] [] 4 V λV=>Ae (IH ((((([]++Ah ((Af xs).2.take ((Af xs).1.toNat)).length)++((Af xs).2.take ((Af xs).1.toNat)))++Ah (((Af ((Af xs).2.drop ((Af xs).1.toNat))).2).take (((Af ((Af xs).2.drop ((Af xs).1.toNat))).1).toNat)).length)++(((Af ((Af xs).2.drop ((Af xs).1.toNat))).2).take (((Af ((Af xs).2.drop ((Af xs).1.toNat))).1).toNat)))=xs) V (λh3=> ?_) (λh3=> ?_))
   ·refine Bd (E:=E0) mo hZ [] aa none (λr hr=>by cases hr) 1 0 (λ_=>[]) (.v (.iface 44 (.int .i64 2))) (by kernel_rfl) aa V.st λac gs ws pv V hpv=>AE ?_
    have hM:De xs=2:=(Ab _).trans ((ah h1).trans (ah h2))
    exact CN rfl V hpv (by show _=(.v (.iface 44 (.int .i64 ((De xs:Nat):Int))):D);rw[hM]<;>rfl) rfl
   ·refine Cb (Aj [] 4 V λV=>AY ?_)
    have hK:B_ xs=true:=(Ab _).trans ((ah h1).trans ((ah h2).trans (ah h3)))
    rw[hK]at hk
    cases hk
  ·have hz2:=HH ((Af xs).2.take ((Af xs).1.toNat)) ((Af xs).2.take ((Af xs).1.toNat)) (((Af ((Af xs).2.drop ((Af xs).1.toNat))).2).take (((Af ((Af xs).2.drop ((Af xs).1.toNat))).1).toNat))
   refine Bd (E:=E0) mo hZ [(3,.call ⟨59,(aT ((Af xs).2.take ((Af xs).1.toNat)) ((Af xs).2.take ((Af xs).1.toNat)) (((Af ((Af xs).2.drop ((Af xs).1.toNat))).2).take (((Af ((Af xs).2.drop ((Af xs).1.toNat))).1).toNat))),[(0,0)],[]⟩)] ⟨jD _ _ _ Ax (Cj h2),aa⟩ (some ⟨71,(HC (ED ((Af xs).2.take ((Af xs).1.toNat)) ((Af xs).2.take ((Af xs).1.toNat)) (((Af ((Af xs).2.drop ((Af xs).1.toNat))).2).take (((Af ((Af xs).2.drop ((Af xs).1.toNat))).1).toNat)))),[],[]⟩) (λr hr=>by cases hr;exact Ks (ED ((Af xs).2.take ((Af xs).1.toNat)) ((Af xs).2.take ((Af xs).1.toNat)) (((Af ((Af xs).2.drop ((Af xs).1.toNat))).2).take (((Af ((Af xs).2.drop ((Af xs).1.toNat))).1).toNat))) Ac) 4 0 (λC=>[kF C 3,nd [vi (((ED ((Af xs).2.take ((Af xs).1.toNat)) ((Af xs).2.take ((Af xs).1.toNat)) (((Af ((Af xs).2.drop ((Af xs).1.toNat))).2).take (((Af ((Af xs).2.drop ((Af xs).1.toNat))).1).toNat))):Nat):Int)] []]) (.v (.iface 44 (.int .i64 (((ED ((Af xs).2.take ((Af xs).1.toNat)) ((Af xs).2.take ((Af xs).1.toNat)) (((Af ((Af xs).2.drop ((Af xs).1.toNat))).2).take (((Af ((Af xs).2.drop ((Af xs).1.toNat))).1).toNat))):Nat):Int)))) (by kernel_rfl) ⟨rfl,rfl,aa⟩ V.st λac gs ws pv V hpv=>AE ?_
   have hM:De xs=(ED ((Af xs).2.take ((Af xs).1.toNat)) ((Af xs).2.take ((Af xs).1.toNat)) (((Af ((Af xs).2.drop ((Af xs).1.toNat))).2).take (((Af ((Af xs).2.drop ((Af xs).1.toNat))).1).toNat))):=(Ab _).trans ((ah h1).trans (aj h2))
   exact CN rfl V hpv (by show _=(.v (.iface 44 (.int .i64 ((De xs:Nat):Int))):D);rw[hM]<;>rfl) rfl
 ·have hz1:=HI xs
  have hnn:=AU xs
  refine Bd (E:=E0) mo hZ [(2,.call ⟨59,(aU xs),[(0,0)],[]⟩)] ⟨jF _ Ax (Cj h1),aa⟩ (some ⟨71,(HC (EE xs)),[],[]⟩) (λr hr=>by cases hr;exact Ks (EE xs) Ac) 3 0 (λC=>[kF C 2,nd [vi (((EE xs):Nat):Int)] []]) (.v (.iface 44 (.int .i64 (((EE xs):Nat):Int)))) (by kernel_rfl) ⟨rfl,rfl,aa⟩ V.st λac gs ws pv V hpv=>AE ?_
  have hM:De xs=(EE xs):=(Ab _).trans (aj h1)
  exact CN rfl V hpv (by show _=(.v (.iface 44 (.int .i64 ((De xs:Nat):Int))):D);rw[hM]<;>rfl) rfl
end
end
end Go.Sx.Tryz
namespace Go.Sx
open Go.Mi Go.RowKit
abbrev KR:=Int×Int×AZ
abbrev kz:KR:=rz CM
def CV (l:List KR) (i:Int):Int:=if l.findIdx (λr=>r.1==i)<l.length then((l.findIdx λr=>r.1==i:Nat):Int)else -1
theorem XR {l:List KR} {i:Int} (h:∀j,j<l.length->¬(l.getD j kz).1=i):CV l i= -1:=by
 unfold CV
 rw[aj]
 intro hlt
 have :=List.findIdx_getElem (w:=hlt) (p:=λr:KR=>r.1==i)
 refine h _ hlt ?_
 rw[al,am hlt]
 simpa using this
theorem XT {l:List KR} {i:Int} {k:Nat} (hk:k<l.length) (h:∀j,j<k->¬(l.getD j kz).1=i) (h2:(l.getD k kz).1=i):CV l i=(k:Nat):=by
 have e:l.findIdx (λr=>r.1==i)=k:=by
  rw[List.findIdx_eq hk]
  constructor
  ·rw[al,am hk]at h2
   simpa using h2
  ·intro j hj
   have :=h j hj
   rw[al,am (by omega)]at this
   simpa using this
 unfold CV
 rw[e,ah hk]
theorem QV {l:List KR} {i:Int} (h:¬CV l i<0):0<=CV l i/\CV l i<(l.length:Nat):=by
 unfold CV at h⊢
 split
 ·omega
 ·rename_i h1;rw[aj h1]at h;exact absurd (by decide) h
theorem Ot {l:List KR} (i:Int): -1<=CV l i/\CV l i<(l.length:Nat):=by
 unfold CV
 split<;>omega
def KOk (l:List KR):Prop:=l.length<=1000/\∀j,j<l.length->(0<=(l.getD j kz).1/\(l.getD j kz).1<=1000000000000)/\(0<=(l.getD j kz).2.1/\(l.getD j kz).2.1<=1000000000000)/\(l.getD j kz).2.2.length<=100000/\∀k∈(l.getD j kz).2.2,k.length=32
end Go.Sx
namespace Go.Sx.Tryz
open Go.Mi Go.RowKit Go.Sx Go.Proofs Go.Proofs.Tryz
noncomputable section
open List (replicate)
section
variable (x0:Ad) (x1 x2:Bool) (x3:Nat) (x4 x5:Nat) (x6:AZ) (x7 x8:Nat)
def Ga (x9:List (Int×Int×AZ)):O:= .ob 80 (Jg [lb x0,.v (.bool x1),.v (.bool x2),.cp x3 0,.cp x4 0,.v (.pointer none),vi ((x5:Nat):Int),.ls false A8 x6,vi ((x7:Nat):Int),vi ((x8:Nat):Int),.ls false CM x9])
def OO (x9:Nat):O:= .ob 80 (Jg [lb x0,.v (.bool x1),.v (.bool x2),.cp x3 0,.cp x4 0,.v (.pointer none),vi ((x5:Nat):Int),.ls false A8 x6,vi ((x7:Nat):Int),vi ((x8:Nat):Int),.sk x9])
end
def N2 (x0:Nat):O:= .ob 3 (Jg [vi ((x0:Nat):Int)])
theorem B4:AP 36 ⟨[.im (Jg [.top,.top,.top,.im (Jg []) 0,.top,.top,.top,.top,.top,.top,.top]) 0],[],.v (.bool false),[]⟩:=by
 exact cy 0 func36 rfl ntmps36 λY V=>Aj [] 0 V λV=>Aj [] 0 V λV=>AY (BW V)
theorem Ds (lT:Nat) (mx:AZ) (hm1:1<=mx.length/\mx.length<=100000) (hlow:lT<=100000000000):AP 18 ⟨[.im (Jg [.top,.top,.top,.im (Jg []) 0,.top,.top,vi (lT:Int),.ls false A8 mx,.top,.top,.top]) 0],[],vi ((lT+mx.length-1:Nat):Int),[]⟩:=by
 exact cy 0 func18 rfl ntmps18 λY V=>Aj [] 0 V λV=>Ar (Ay [(1,Ig (B4) [] [.im (Jg [.top,.top,.top,.im (Jg []) 0,.top,.top,.top,.top,.top,.top,.top]) 0])] [] 0 V λV=>Ai V (Cb (Ay [(9,FW lT mx.length (lT+mx.length)),(10,IM (lT+mx.length) 1 ((lT+mx.length)-1))] [] 0 V λV=>AY (BW V))))
def A6 (fi:Bool) (lT len tD:Nat):Nat:=if fi=true then lT+len-1 else min (lT+len-1) tD
theorem H4 (fi:Bool) (lT:Nat) (mx:AZ) (tD:Nat) (hm1:1<=mx.length/\mx.length<=100000) (hlow:lT<=100000000000):AP 46 ⟨[.im (Jg [.top,.v (.bool fi),.top,.im (Jg []) 0,.top,.top,vi (lT:Int),.ls false A8 mx,.top,vi (tD:Int),.top]) 0],[],vi ((A6 fi lT mx.length tD:Nat):Int),[]⟩:=by
 refine cy 0 func46 rfl ntmps46 λY V=>Aj [] 0 V λV=>Ar (Aj [] 0 V λV=>Sd fi V (λh1=> ?_) (λh1=> ?_))
 ·exact Ay [(1,Ig (Ds lT mx GG Ac) [] [.im (Jg [.top,.top,.top,.im (Jg []) 0,.top,.top,vi (lT:Int),.ls false A8 mx,.top,.top,.top]) 0])] [] 0 V λV=>AY (Ao (Ec rfl (.inr rfl) V [vi ((lT+mx.length-1:Nat):Int)] [] (by show weak _ (vi ((A6 fi lT mx.length tD:Nat):Int))=vi ((A6 fi lT mx.length tD:Nat):Int);unfold A6;first |(rw[ah A_];rfl)|(rw[aj (LQ A_)];rfl)) aa))
 ·exact Cb (Ay [(1,Ig (Ds lT mx GG Ac) [] [.im (Jg [.top,.top,.top,.im (Jg []) 0,.top,.top,vi (lT:Int),.ls false A8 mx,.top,.top,.top]) 0]),(6,Q2 (lT+mx.length-1) tD)] [] 0 V λV=>AY (Ec rfl (.inr rfl) V [vi ((min (lT+mx.length-1) tD:Nat):Int)] [] (by show weak _ (vi ((A6 fi lT mx.length tD:Nat):Int))=vi ((A6 fi lT mx.length tD:Nat):Int);unfold A6;first |(rw[ah A_];rfl)|(rw[aj (LQ A_)];rfl)) aa))
section
variable (id:Ad) (fi:Bool) (ok:Ad) (oi:Nat) (ik:Ad) (ii lT:Nat) (mx:AZ) (lD tD:Nat) (kl:List KR) (k:Ad) (n:Nat)
theorem rC (hm1:1<=mx.length/\mx.length<=100000) (hm2:∀j,(mx.getD j AW).length<=32) (hlow:lT<=100000000000) (hk:k.length=32) (hn:lT<=n/\n<lT+mx.length):AP 51 (Cq [.cp 0 0,lb k,vi (n:Int)] [(0,Ga id fi false 1 2 lT mx lD tD kl),(1,Ag ok oi),(2,Ag ik ii)] (lb (AX k (mx.getD (n-lT) AW) [109,101,115,115,97,103,101]))):=by
 refine cy 3 func51 rfl ntmps51 λY V=>Aj [] 3 V λV=>Ar ?_
 have hmk:=hm2 (n-lT)
 exact Aw [(10,IM n lT (n-lT)),(11,AH (n-lT) mx.length),(13,Np),(14,P8 (0<[109,101,115,115,97,103,101].length) (by decide)),(15,AS (F9 k (mx.getD (n-lT) AW) [109,101,115,115,97,103,101] Ax Ax Ax))] [] 4 V λV=>EY (BW V)
theorem Qz (hm1:1<=mx.length/\mx.length<=100000) (hm2:∀j,(mx.getD j AW).length<=32) (hlow:lT<=100000000000) (hk:k.length=32) (hn:lT<=n/\n<lT+mx.length):AP 51 (Cq [.cp 0 0,lb k,vi (n:Int)] [(0,OO id fi false 1 2 lT mx lD tD 3),(1,Ag ok oi),(2,Ag ik ii),(3,.sl 86 CM kl)] (lb (AX k (mx.getD (n-lT) AW) [109,101,115,115,97,103,101]))):=by
 refine cy 4 func51 rfl ntmps51 λY V=>Aj [] 4 V λV=>Ar ?_
 have hmk:=hm2 (n-lT)
 exact Aw [(10,IM n lT (n-lT)),(11,AH (n-lT) mx.length),(13,Np),(14,P8 (0<[109,101,115,115,97,103,101].length) (by decide)),(15,AS (F9 k (mx.getD (n-lT) AW) [109,101,115,115,97,103,101] Ax Ax Ax))] [] 5 V λV=>EY (BW V)
end
theorem cR (a b:Int) (c:AZ) (i:Nat):AP 131 (Cq [.ag (Jg [vi a,vi b,.ls false A8 c]),.cp 0 0] [(0,N2 i)] (.v (.bool (decide (a=(i:Int)))))):=by
 exact cy 1 func131 rfl ntmps131 λY V=>Aj [] 2 V λV=>Aj [] 2 V λV=>AY (BW V)
theorem Uq (kl:List KR) (i:Nat):AP 130 (Cq [.sk 0,.fn 131 (Jg []) (Jg [.cp 1 0])] [(0,.sl 86 CM kl),(1,N2 i)] (vi (CV kl (i:Int)))):=by
 refine cy 2 func130 rfl ntmps130 λY V=> ?_
 have JU:kl.length<=9223372036854775807:=V.lens 0 rfl
 refine Aj [] 2 V λV=>Ar (Aj [] 2 V λV=>BC (AC (ι:=Nat) Y V (λx=>(kl.length-x,[(8,vi ((x:Nat):Int))],[],(x<=kl.length)/\(∀j,j<x->¬(kl.getD j kz).1=(i:Int))/\True)) [0,1,7] [0,1] 2 0 [(0,0),(1,1)] ⟨Ac,(λj h=>absurd h (be j)),aa⟩ ?_))
 rintro x ac gs ws ⟨hx,pm,_⟩ V
 refine Aj [] 2 V λV=>Ar (AJ ((x:Int)<((kl.length:Nat):Int)) V (λh1=> ?_) (λh1=> ?_))
 ·refine B3 (Aj [] 2 V λV=>Ay [(3,AH x kl.length),(5,AA (cR (kl.getD x Bi).1 (kl.getD x Bi).2.1 (kl.getD x Bi).2.2 i) [(0,1)] [])] [] 2 V λV=>AJ ((kl.getD x Bi).1=(i:Int)) V (λh2=> ?_) (λh2=> ?_))
  ·exact Aj [] 2 V λV=>AY (AN (Ao (Ao (AN (Ao (Ec rfl (.inr rfl) V [vi (x:Int)] [(0,some (.sl 86 CM kl)),(1,some (N2 i))] (by show weak _ (vi (CV kl (i:Int)))=vi (CV kl (i:Int));rw[XT Ac pm A_];rfl) ⟨rfl,rfl,aa⟩))))))
  ·exact FN (Aw [(0,Cu x)] [8] 2 V λV=>Ae (As Y V (x+1) [(0,0),(1,1)] ⟨Ac,(Br pm A_),aa⟩))
 ·have hT:=V
  obtain rfl:kl.length=x:=by omega
  have V:=hT
  exact Dw (Aj [] 2 V λV=>AY (Ec rfl (.inr rfl) V [vi (-1)] [(0,some (.sl 86 CM kl)),(1,some (N2 i))] (by show weak _ (vi (CV kl (i:Int)))=vi (CV kl (i:Int));rw[XR pm];rfl) ⟨rfl,rfl,aa⟩))
end
end Go.Sx.Tryz
namespace Go.Sx.Tryz
open Go.Mi Go.RowKit Go.Sx Go.Proofs Go.Lib Go.Shelf
noncomputable def OJ (kl:List KR) (i j:Nat):Con:=⟨[.sk 0,.v (.int .i64 ((i:Nat):Int)),.v (.int .i64 ((j:Nat):Int))],[(0,.sl 86 CM kl)],.sk 1,[(1,.sl 86 CM (kl.take i++kl.drop j))]⟩
set_option maxHeartbeats 4000000 in
set_option maxRecDepth 1000000 in
theorem lE (b cap n i j : Nat) (w : World) (cs : List Value) (hl : cs.length = n * 3) (h1 : ∀ u ∈ cs, u.oneCell' = true) (hc : ∀ t u, cs[t]? = some u -> w.cell? ⟨b, t, none⟩ = some u) (hz : ∀ t, t < n * 3 -> w.frozen? ⟨b, t, none⟩ = false) (hij : i < j) (hj : j <= n) (hcap : n <= cap) (hm : cap <= 9223372036854775807) :
  Calls Tryz.prog 106 #[.slice (some ⟨b,0,none⟩) n cap,.int .i64 i,.int .i64 j] w λe w'=>e= .returned (.slice (some ⟨b,0,none⟩) (n-(j-i)) cap)/\w'=(w.drew.setCells b (0+i*3) (cs.drop (j*3))).setCells b ((i+(n-j))*3) (Builtin.zeroCells #[.int .i64 0,.int .i64 0,.slice none 0 0] (n-(i+(n-j)))).toList:=by
 have hi:(Tryz.prog.info? 86).map (·.size)=some 3:=by kernel_rfl
 obtain⟨i0,hi0,hz1⟩:=ak.1 hi
 have t78:Tryz.prog.underlying 78=some (.slice 86):=by kernel_rfl
 obtain⟨news,hnews⟩:∃news,news=cs.drop (j*3):=⟨_,rfl⟩
 have hlen:news.length=(n-j)*3:=by rw[hnews,av,hl];omega
 obtain⟨A,hA,hsrc⟩:∃A:Addr,(if cap=j then some (⟨b,0,none⟩:Addr)else some ⟨b,j*3,none⟩)=some A/\Hid (∀t u,news[t]? =some u->w.drew.cell? (A.add t)=some u):=by
  by_cases h:cap=j
  ·refine⟨⟨b,0,none⟩,by simp [h],λt u hu=> ?_⟩
   have h0:news.length=0:=by rw[hlen];omega
   rw[List.length_eq_zero_iff.1 h0]at hu
   simp at hu
  ·refine⟨⟨b,j*3,none⟩,by simp [h],λt u hu=> ?_⟩
   rw[hnews,dh]at hu
   rw[Addr.add_lit]
   exact hc _ _ hu
 have s1:Hid (news.length=(n-j)*3):=hlen
 have s2:Hid (∀u∈news,u.oneCell'=true):=by
  intro u hu
  rw[hnews]at hu
  exact h1 u (cx hu)
 have s3:Hid (∀t,t<news.length->(w.drew.cell? ⟨b,0+i*3+t,none⟩).isSome=true/\w.drew.frozen? ⟨b,0+i*3+t,none⟩=false):=by
  intro t ht
  rw[hlen]at ht
  have hlt:0+i*3+t<cs.length:=by rw[hl];omega
  exact⟨by show(w.cell? _).isSome=true;rw[hc _ _ (am hlt)];rfl,hz _ (by omega)⟩
 obtain⟨W1,hW1⟩:∃W1,W1=w.drew.setCells b (0+i*3) news:=⟨_,rfl⟩
 have hW:Hid (W1=w.drew.setCells b (0+i*3) news):=hW1
 have mixed:=mo
 have hic:i<=cap:=by omega
 have hjc:j<=cap:=by omega
 obtain⟨zs,hzs⟩:∃zs:List Value,zs=(Builtin.zeroCells #[.int .i64 0,.int .i64 0,.slice none 0 0] (n-(i+(n-j)))).toList:=⟨_,rfl⟩
 have hcl:∀ty,(Builtin.clear_ #[78] ty #[.slice (some ⟨b,(i+(n-j))*3,none⟩) (n-(i+(n-j))) (cap-(i+(n-j)))]).run Tryz.prog W1= .ok (.tuple #[]) (W1.setCells b ((i+(n-j))*3) zs):=λty=>by
  have hzv:∀w,(zeroValue 86).run Tryz.prog w= .ok (.agg #[.int .i64 0,.int .i64 0,.slice none 0 0]) w:=λw=>rfl
  have hlz:zs.length=(n-(i+(n-j)))*3:=by rw[hzs];simp [Builtin.zeroCells]
  have hz1:∀u∈zs,u.oneCell'=true:=by
   intro u hu
   rw[hzs]at hu
   simp only[Builtin.zeroCells,h_,cr]at hu
   obtain⟨t,_,rfl⟩:=hu
   have :∀r,r<3->(#[Value.int .i64 0,.int .i64 0,.slice none 0 0][r]!).oneCell'=true:=by
    intro r hr
    match r,hr with
    |0,_=>rfl
    |1,_=>rfl
    |2,_=>rfl
   exact this _ (di _ (by decide))
  have hst := run_storeCells_cells (P := Tryz.prog) b ((i + (n - j)) * 3) zs 0 W1 (λt ht => by
    rw[hW1]
    refine World.isSome_setCells b _ _ _ _ ?_
    have hlt:(i+(n-j))*3+0+t<cs.length:=by rw[hl];omega
    show(w.cell? _).isSome=true
    rw[hc _ _ (am hlt)];rfl) (λt ht=>by
    rw[hW1,World.frozen?_setCells]
    exact hz _ (by omega)) hz1
  obtain⟨m,hm'⟩:∃m,n-(i+(n-j))=m+1:=⟨n-(i+(n-j))-1,by omega⟩
  rw[hm']at hzs⊢
  simp only[eC]at hst
  simp only[Builtin.clear_,Sem.run_bind,run_underlying t78,hzv,Result.andThen_ok,<-hzs,hst]
  simp [hst,hzv,run_underlying t78,Value.cells,<-hzs]
 have X:Aside (W1.setCells b ((i+(n-j))*3) zs=(w.drew.setCells b (0+i*3) (cs.drop (j*3))).setCells b ((i+(n-j))*3) (Builtin.zeroCells #[.int .i64 0,.int .i64 0,.slice none 0 0] (n-(i+(n-j)))).toList):=by subst hzs;subst hW1;subst hnews;rfl
 clear hW1 hnews hlen hi h1 hc hz hzs
 go_enter Tryz.func106,Tryz.ntmps106
 go_wp2_with fail
 go_region_law_o (refine step_append_room rfl (.tmp 22) (.tmp 25) 78 rfl 86 i0 3 t78 hi0 hz1 b 0 i cap (by simp [Act.eval,Act.put]) A (n-j) (cap-j) news (by simp [Act.eval,Act.put]) s1.out hsrc.out s2.out (by omega) s3.out ?_;rw[<-hW.out])
 go_wp2
 go_ret
 exact⟨by rw[show n-(j-i)=i+(n-j) by omega];rfl,X.out⟩
theorem Jo {b ty : Nat} {fz : Nat × Nat} : ∀ (vs : List Value) (o : Nat) (w : World) (cur : Array Value), w.heap[b]? = some (.cells cur ty fz) -> o + vs.length <= cur.size ->
  ∃c',(w.setCells b o vs).heap[b]? =some (.cells c' ty fz)/\c'.toList=cur.toList.take o++vs++cur.toList.drop (o+vs.length)
 |[],o,w,cur,h,_=>⟨cur,h,by simp⟩
 |v::vs,o,w,cur,h,hl=>by
  have h1:(w.setCell ⟨b,o,none⟩ v).heap[b]? =some (.cells (cur.setIfInBounds o v) ty fz):=by
   simp [World.setCell,gr,h]
  obtain⟨c',k1,k2⟩:=Jo vs (o+1) _ _ h1 (by simp at hl⊢;omega)
  refine⟨c',k1,k2.trans ?_⟩
  simp only[aw]at hl
  have hlt:o<cur.toList.length:=by simp;omega
  rw[Array.toList_setIfInBounds,cw (by simpa using hlt),List.getElem_set_self,List.take_set_of_le (an _),List.drop_set_of_lt (by omega)]
  simp [Nat.add_comm,Nat.add_left_comm]
theorem WU {α:Type} {m:Nat}:∀{ls:List (List α)} (k:Nat),(∀l∈ls,l.length=m)->(ls.drop k).flatten=ls.flatten.drop (k*m)
 |[],k,_=>by simp
 |l::ls,0,_=>by simp
 |l::ls,k+1,h=>by
  have h1:=h l (by simp)
  have h2:=WU (ls:=ls) k λx hx=>h x (by simp [hx])
  have h3:(k+1)*m=m+k*m:=by rw[eP];omega
  rw[ij,h2,bd,fg,h3,h1,show List.drop (m+k*m) l=[]from dm (by omega),dw,Nat.add_sub_cancel_left]
theorem OW {b:Nat} (vs:List Value) (o:Nat) (w:World):Chp (· =b) w (w.setCells b o vs):=by
 induction vs generalizing o w with
 |nil=>exact Chp.refl _ _
 |cons v vs ih=>
  have h1:Chp (· =b) w (w.setCell ⟨b,o,none⟩ v):=⟨rfl,rfl,rfl,by simp [World.setCell],λx _ hx=>by
   simp only[World.setCell,gr]
   rw[aj (λe=>hx e.symm)]⟩
  exact h1.trans (ih (o+1) _)
theorem Z1 (kl:List KR) (i j:Nat) (hi:i<j/\j<=kl.length):ConOk Tryz.prog 106 (OJ kl i j):=by
 refine⟨⟨⟨_,Tryz.func106,rfl,rfl⟩⟩,λvs g w V hN hs=> ?_⟩
 obtain⟨l1,l2,rfl,⟨v0,hv0,rfl,_⟩,l3,l4,rfl,hq1,l5,l6,rfl,hq2,hq3⟩:=hs
 have hq1:l3=[.int .i64 i]:=hq1
 have hq2:l5=[.int .i64 j]:=hq2
 have hq3:l6=[]:=hq3
 subst hq1;subst hq2;subst hq3
 obtain⟨v,ls,k1,k2,k3,k4,k5,k6⟩:=V.os 0 _ rfl
 rw[k1]at hv0;cases hv0
 rcases k3.2 with⟨rfl,h0⟩|⟨b,cap,cur,rfl,_,hb,hc1,hc2,hcs,hct⟩
 ·have h0:kl.length=0:=h0
  omega
 have hc1:kl.length<=cap:=hc1
 have hrow:=k5.row
 have hlen:ls.length=kl.length:=k5.len.symm
 have hl0:ls.flatten.length=kl.length*3:=k3.1
 have hcs:cur.size=cap*3:=hcs
 have hct:cur.toList.take (kl.length*3)=ls.flatten:=hct
 have hR:=lE b cap kl.length i j w ls.flatten hl0 k6 (λt u hu=>by
  rw[cell_of_row w b t cur _ _ hb,<-f_]
  rw[<-hct,dc]at hu
  split at hu
  ·exact hu
  ·cases hu) (λt ht=>by simp [World.frozen?,hb]) hi.1 hi.2 hc1 hc2
 refine Calls.mono hR ?_
 rintro e w' ⟨rfl,rfl⟩
 obtain⟨zs,hzs⟩:∃zs:List Value,zs=(Builtin.zeroCells #[.int .i64 0,.int .i64 0,.slice none 0 0] (kl.length-(i+(kl.length-j)))).toList:=⟨_,rfl⟩
 have hlz:zs.length=(kl.length-(i+(kl.length-j)))*3:=by rw[hzs];simp [Builtin.zeroCells]
 rw[<-hzs]
 have hdl:(ls.flatten.drop (j*3)).length=(kl.length-j)*3:=by rw[av,hl0];omega
 obtain⟨c1,a1,a2⟩:=Jo (b:=b) (ls.flatten.drop (j*3)) (0+i*3) w.drew cur hb (by rw[hdl,hcs];have :=hi.1;have :=hi.2;omega)
 have hc1s:c1.size=cap*3:=by rw[<-co,a2];simp only[ab,ap,av,co,hcs,hl0];have :=hi.1;have :=hi.2;omega
 obtain⟨c2,b1,b2⟩:=Jo (b:=b) zs ((i+(kl.length-j))*3) _ c1 a1 (by rw[hlz,hc1s];have :=hi.1;have :=hi.2;omega)
 have hc2s:c2.size=cap*3:=by rw[<-co,b2];simp only[ab,ap,av,co,hc1s,hlz];have :=hi.1;have :=hi.2;omega
 have hch:=(OW (b:=b) (ls.flatten.drop (j*3)) (0+i*3) w.drew).trans (OW zs ((i+(kl.length-j))*3) _)
 have hch0:Chp (· =b) w w.drew:=⟨rfl,rfl,rfl,an _,λ_ _ _=>rfl⟩
 have hch:=hch0.trans hch
 generalize(w.drew.setCells b (0+i*3) (ls.flatten.drop (j*3))).setCells b ((i+(kl.length-j))*3) zs=w' at b1 hch⊢
 have hbX:g.X b:=V.own 0 _ rfl b (by rw[k2];simp [Df])
 let g':G:=⟨λk=>if k=1 then some (.slice (some ⟨b,0,none⟩) (kl.length-(j-i)) cap)else g.N k,λk=>if k=1 then[b]else g.F k,g.X⟩
 have hn1:∀k v,g.N k=some v->k≠1:=λk v h e=>by
  have :=hN k v h;subst e;simp [OJ,AB]at this
 have hgo:Go (λx=>x=b) g w g' w':=⟨hch,λx hx=>by rw[hx];exact hbX,λx hx=> .inl hx,λx hx _=>hx,λk v h=>by
  show(if k=1 then _ else _)=_
  rw[aj (hn1 k v h)];exact h,λk v h=>by
  show(if k=1 then _ else _)=_
  rw[aj (hn1 k v h)]⟩
 have hfo:∀x,(OJ kl i j).foot g x↔x=b:=λx=>by
  constructor
  ·rintro⟨k,o,h1,h2⟩
   have :k=0:=by
    simp only[OJ,E4]at h1
    by_cases e:0=k
    ·exact e.symm
    ·rw[BF e]at h1;cases h1
   subst this
   rw[k2]at h2;simpa[Df]using h2
  ·rintro rfl
   exact⟨0,_,rfl,by rw[k2];simp [Df]⟩
 have hwf:Wf g' w':=λx hx=>b_ (V.wf x hx) hch.size
 have hcut:c2.toList.take ((kl.length-(j-i))*3)=(ls.take i++ls.drop j).flatten:=by
  have e1:cur.toList.take (i*3)=ls.flatten.take (i*3):=by
   rw[<-hct,List.take_take,ej (by have :=hi.1;have :=hi.2;omega)]
  have h3:=hi.1
  have h4:=hi.2
  have hl1:(cur.toList.take (0+i*3)++ls.flatten.drop (j*3)).length=(i+(kl.length-j))*3:=by
   rw[ab,hdl,ap,co,hcs];omega
  have e2:c1.toList.take ((i+(kl.length-j))*3)=cur.toList.take (0+i*3)++ls.flatten.drop (j*3):=by
   rw[a2,ck (by omega),bp (by omega)]
  rw[b2,e2,bu,ck (by omega),bp (by omega),de,Qq i hrow,WU j hrow,br,e1]
  rfl
 have hcon:(kl.take i++kl.drop j).length=kl.length-(j-i):=by simp;omega
 have hos:OS g' w' 1 (.sl 86 CM (kl.take i++kl.drop j)):=by
  have key:∀xs:List (RT CM),xs.length=kl.length-(j-i)->Fa2 (rS g'.X g'.N w' _) xs (ls.take i++ls.drop j)->OS g' w' 1 (.sl 86 _ xs):=by
   intro xs hx hF
   refine⟨.slice (some ⟨b,0,none⟩) (kl.length-(j-i)) cap,ls.take i++ls.drop j,rfl,rfl,⟨?_,.inr ⟨b,cap,c2,by rw[hx],bw _,b1,by rw[hx];omega,hc2,hc2s,by rw[hx];exact hcut⟩⟩,by rw[hx];omega,hF,?_⟩
   ·rw[hx,Dx (m:=3)]
    ·simp only[ab,ap,av,hlen]
     have :=hi.1;have :=hi.2
     show _=_*3
     omega
    ·intro l hl
     rcases bo.1 hl with h|h
     ·exact hrow l (cv h)
     ·exact hrow l (cx h)
   ·intro u hu
    rw[de]at hu
    rcases bo.1 hu with h|h
    ·obtain⟨l,h1,h2⟩:=ic.1 h
     exact k6 u (ic.2 ⟨l,cv h1,h2⟩)
    ·obtain⟨l,h1,h2⟩:=ic.1 h
     exact k6 u (ic.2 ⟨l,cx h1,h2⟩)
  exact key _ hcon (((k5.take i).append (k5.drop j)).mono (Gj hgo.goes _))
 have hone:∀k o,E4 (OJ kl i j).H1 k=some o->k=1/\o= .sl 86 CM (kl.take i++kl.drop j):=λk o h=>by
  simp only[OJ,E4]at h
  by_cases e:1=k
  ·subst e;cases h;exact⟨rfl,rfl⟩
  ·rw[BF e]at h;cases h
 refine⟨_,rfl,g',hgo.mono (λx hx=>(hfo x).2 hx) (λx hx=>by rw[(hfo x).1 hx];exact hbX),⟨_,rfl,rfl,rfl⟩,⟨hwf,?_,?_,?_⟩,?_⟩
 ·intro k o h
  obtain⟨rfl,rfl⟩:=hone k o h
  exact hos
 ·intro k o h x hx
  obtain⟨rfl,rfl⟩:=hone k o h
  have :x∈[b]:=hx
  rw[bn.1 this]
  exact hbX
 ·intro k o k' o' h h' hne
  exact absurd ((hone k o h).1.trans (hone k' o' h').1.symm) hne
 ·intro k o h x hx
  obtain⟨rfl,rfl⟩:=hone k o h
  have :x∈[b]:=hx
  exact .inl ((hfo x).2 (bn.1 this))
end Go.Sx.Tryz
namespace Go.Sx.Tryz
open Go.Mi Go.RowKit Go.Sx Go.Proofs Go.Proofs.Tryz
noncomputable section
open List (replicate)
theorem Nh (id:Ad) (fi:Bool) (ok:Ad) (oi:Nat) (ik:Ad) (ii lT:Nat) (mx:AZ) (lD tD:Nat) (kl:List KR) (i:Nat):AP 94 (Cq [.cp 0 0,vi (i:Int)] [(0,OO id fi false 1 2 lT mx lD tD 3),(1,Ag ok oi),(2,Ag ik ii),(3,.sl 86 CM kl)] (vi (CV kl (i:Int)))):=by
 exact cy 4 func94 rfl ntmps94 λY V=>Aj [] 5 V λV=>Ay [(5,AA (Uq kl i) [(0,3),(1,4)] [])] [] 5 V λV=>AY (BW V)
theorem HJ (kl:List KR) (hkl:kl.length<=100000):AP 64 ⟨[.ls false CM kl],[],.sk 0,[(0,.sl 86 CM kl)]⟩:=by
 refine cy 0 func64 rfl ntmps64 λY V=>Aj [] 0 V λV=>Ii ?_
 rcases V.nilor 0 CM kl with⟨hn1,V⟩|V
 ·subst hn1
  refine Dl [] 0 V λV=>Ae (AG V (Aj [] 0 V λV=>AY (Ao ?_)))
  obtain⟨gs,V⟩:=V.nilk 2 86 CM
  exact BW V
 ·refine Dl [] 0 V λV=>Ae (Ai V (Cb (Ay [(0,Np),(2,Gt 0 kl.length 40)] [] 2 V λV=>AY ?_)))
  obtain⟨gs,V⟩:=V.rx [(0,1)] [2] [0] 1 Y
  exact BW V
theorem eZ (l:AZ) (hl:l.length<=100000):AP 63 ⟨[.ls false A8 l],[],.ls false A8 l,[]⟩:=by
 refine cy 0 func63 rfl ntmps63 λY V=>Aj [] 0 V λV=>Ii ?_
 rcases V.nilor 0 A8 l with⟨hn1,V⟩|V
 ·subst hn1
  exact Dl [] 0 V λV=>Ae (AG V (Aj [] 0 V λV=>AY (Ao (BW V))))
 ·refine Dl [] 0 V λV=>Ae (Ai V (Cb (Ay [(0,Np),(2,Gt 0 l.length 24)] [] 2 V λV=>AY ?_)))
  obtain⟨gs,V⟩:=V.fz 1
  exact BW V
def Vi (i to:Nat):Bool:=decide (i<=to/\to<=i+40)
theorem xF {i to:Nat} (h:Vi i to=true):i<=to/\to<=i+40:=cj h
theorem W0 {i to:Nat} (h:Vi i to=false) (key:Ad):0<Dv key i to:=by
 have h:=of_decide_eq_false h
 by_cases h1:to<i
 ·rw[Aaz h1];decide
 ·rw[Yw Ac];decide
section
variable (key:Ad) (i to:Nat)
theorem NN (hk:key.length=32) (hi:i<=900000000000) (hs:Vi i to=true):AP 105 (pJ key i to):=uN key i to hk hi (xF hs)
theorem NM (hk:key.length=32) (hi:i<=900000000000) (hs:Vi i to=false):AP 105 (bD key i to):=oE key i to hk hi (by have :=W0 hs key;omega)
end
section
variable (id:Ad) (fi:Bool) (ok:Ad) (oi:Nat) (ik:Ad) (ii lT:Nat) (mx:AZ) (lD tD:Nat) (kl:List KR) (hb:Ad) (hi hn hh:Nat) (hp hx:Ad)
def BZ (id:Ad) (fi:Bool) (ok:Ad) (oi:Nat) (ik:Ad) (ii lT:Nat) (mx:AZ) (lD tD:Nat) (kl:List KR) (hb:Ad) (hi hn hh:Nat) (hp hx:Ad):Bool:=AV (if(hi:Int)<(ii:Int)then(if(CV kl (hi:Int))<0 then false else(if(hn:Int)<(((kl.getD (Int.toNat (CV kl (hi:Int))) Bi).2).1)then false else(if(((((kl.getD (Int.toNat (CV kl (hi:Int))) Bi).2).2).length:Nat):Int)<=((hn:Int)-(((kl.getD (Int.toNat (CV kl (hi:Int))) Bi).2).1))then false else true)))else(if Vi ii hi=true then(if(hn:Int)<(lD:Int)then false else(if((lT+mx.length-1:Nat):Int)<(hn:Int)then false else true))else false))
def Bw (id:Ad) (fi:Bool) (ok:Ad) (oi:Nat) (ik:Ad) (ii lT:Nat) (mx:AZ) (lD tD:Nat) (kl:List KR) (hb:Ad) (hi hn hh:Nat) (hp hx:Ad):Nat:=AV (if(hi:Int)<(ii:Int)then(if(CV kl (hi:Int))<0 then 5 else(if(hn:Int)<(((kl.getD (Int.toNat (CV kl (hi:Int))) Bi).2).1)then 2 else 2))else(if Vi ii hi=true then(if(hn:Int)<(lD:Int)then 2 else 2)else(Dv ik ii hi)))
def BU (id:Ad) (fi:Bool) (ok:Ad) (oi:Nat) (ik:Ad) (ii lT:Nat) (mx:AZ) (lD tD:Nat) (kl:List KR) (hb:Ad) (hi hn hh:Nat) (hp hx:Ad):Ad:=AV (if(hi:Int)<(ii:Int)then(((kl.getD (Int.toNat (CV kl (hi:Int))) Bi).2).2).getD (Int.toNat ((hn:Int)-(((kl.getD (Int.toNat (CV kl (hi:Int))) Bi).2).1))) AW else(AX (Lw (Am ik (hi-ii))) (mx.getD (hn-lT) AW) [109,101,115,115,97,103,101]))
def eK (z_:Ad:=BU id fi ok oi ik ii lT mx lD tD kl hb hi hn hh hp hx):Con:=Cq [.cp 0 0,.ag (Jg [lb hb,vi (hi:Int),vi (hn:Int),vi (hh:Int),lb hp,lb hx])] [(0,OO id fi false 1 2 lT mx lD tD 3),(1,Ag ok oi),(2,Ag ik ii),(3,.sl 86 CM kl)] (lb z_)
theorem Q3 (hok:ok.length=32) (hik:ik.length=32) (hoi:oi<=100000000000) (hii:ii<=100000000000) (hm1:1<=mx.length/\mx.length<=100000) (hm2:∀j,(mx.getD j AW).length<=32) (hlow:lT<=100000000000) (hK:KOk kl) (hll:lT<=lD/\lD<=100000000000) (hhn:hn<=10000000000/\hi<=10000000000) (hk:BZ id fi ok oi ik ii lT mx lD tD kl hb hi hn hh hp hx=true):AP 70 (eK id fi ok oi ik ii lT mx lD tD kl hb hi hn hh hp hx):=by
 refine cy 4 func70 rfl ntmps70 λY V=>Aj [] 5 V λV=>Ar (Ay [(6,AA (Cn ik ii) [(0,2)] [])] [] 5 V λV=>AJ ((hi:Int)<(ii:Int)) V (λh1=> ?_) (λh1=> ?_))
 ·refine Ay [(3,AA (Nh id fi ok oi ik ii lT mx lD tD kl hi) [(0,0),(1,1),(2,2),(3,3)] [])] [] 5 V λV=>Ar (Aj [] 5 V λV=>AJ ((CV kl (hi:Int))<0) V (λh2=> ?_) (λh2=> ?_))
  ·have hK:BZ id fi ok oi ik ii lT mx lD tD kl hb hi hn hh hp hx=false:=(Ab _).trans ((ah h1).trans (ah h2))
   rw[hK]at hk
   cases hk
  ·refine DG ?_
   have hpl:=QV (l:=kl) (i:=(hi:Int)) A_
   have hkr:=hK.2 (CV kl (hi:Int)).toNat Ac
   have hkf:0<=(kl.getD (Int.toNat (CV kl (hi:Int))) Bi).2.1/\(kl.getD (Int.toNat (CV kl (hi:Int))) Bi).2.1<=1000000000000:=hkr.2.1
   refine Aw [(5,Ty (CV kl (hi:Int)) kl.length)] [6] 6 V λV=>CQ (Ar ?_)
   by_cases h3:(hn:Int)<(((kl.getD (Int.toNat (CV kl (hi:Int))) Bi).2).1)
   ·refine Aw [(4,Gv h3)] [] 6 V λV=>Ae (AG V ?_)
    have hK:BZ id fi ok oi ik ii lT mx lD tD kl hb hi hn hh hp hx=false:=(Ab _).trans ((ah h1).trans ((aj h2).trans (ah h3)))
    rw[hK]at hk
    cases hk
   ·refine Aw [(4,Do h3),(10,Xl (hn:Int) (((kl.getD (Int.toNat (CV kl (hi:Int))) Bi).2).1))] [] 6 V λV=>Ae (AJ ((((((kl.getD (Int.toNat (CV kl (hi:Int))) Bi).2).2).length:Nat):Int)<=((hn:Int)-(((kl.getD (Int.toNat (CV kl (hi:Int))) Bi).2).1))) V (λh4=> ?_) (λh4=> ?_))
    ·have hK:BZ id fi ok oi ik ii lT mx lD tD kl hb hi hn hh hp hx=false:=(Ab _).trans ((ah h1).trans ((aj h2).trans ((aj h3).trans (ah h4))))
     rw[hK]at hk
     cases hk
    ·exact Cb (Ay [(6,Xl (hn:Int) (((kl.getD (Int.toNat (CV kl (hi:Int))) Bi).2).1)),(7,Ty ((hn:Int)-(((kl.getD (Int.toNat (CV kl (hi:Int))) Bi).2).1)) ((((kl.getD (Int.toNat (CV kl (hi:Int))) Bi).2).2).length))] [] 6 V λV=>AY (Ao (BV (.trans (Ab _) (ah h1)) V)))
 ·refine DG ?_
  by_cases h5:Vi ii hi=true
  ·refine Aw [(6,AA (NN ik ii hi Ax Ac h5) [(0,2)] [])] [] 5 V λV=>Ae (Ay [(1,AS (G6))] [] 5 V λV=>Ii ?_)
   by_cases h6:(hn:Int)<(lD:Int)
   ·refine Aw [(6,Gv h6)] [] 5 V λV=>Ae (AG V ?_)
    have hK:BZ id fi ok oi ik ii lT mx lD tD kl hb hi hn hh hp hx=false:=(Ab _).trans ((aj h1).trans ((ah h5).trans (ah h6)))
    rw[hK]at hk
    cases hk
   ·refine Aw [(6,Do h6),(11,Ig (Ds lT mx GG Ac) [0,1] [.im (Jg [.top,.top,.top,.im (Jg []) 0,.top,.top,vi (lT:Int),.ls false A8 mx,.top,.top,.top]) 0])] [] 5 V λV=>Ae (AJ (((lT+mx.length-1:Nat):Int)<(hn:Int)) V (λh7=> ?_) (λh7=> ?_))
    ·have hK:BZ id fi ok oi ik ii lT mx lD tD kl hb hi hn hh hp hx=false:=(Ab _).trans ((aj h1).trans ((ah h5).trans ((aj h6).trans (ah h7))))
     rw[hK]at hk
     cases hk
    ·exact Cb (Ay [(4,AA (Qz id fi ok oi ik ii lT mx lD tD kl (Lw (Am ik (hi-ii))) hn GG (by first |assumption|(intro j;simp<;>omega)) Ac Ax Ac) [(0,0),(1,1),(2,2),(3,3)] [])] [] 5 V λV=>AY (BV (.trans (Ab _) (aj h1)) V))
  ·refine Aw [(6,AA (NM ik ii hi Ax Ac (Cj h5)) [(0,2)] [])] [] 5 V λV=>CQ ?_
   have hK:BZ id fi ok oi ik ii lT mx lD tD kl hb hi hn hh hp hx=false:=(Ab _).trans ((aj h1).trans (aj h5))
   rw[hK]at hk
   cases hk
def Pd:Con:=⟨[.cp 0 0,.ag (Jg [lb hb,vi (hi:Int),vi (hn:Int),vi (hh:Int),lb hp,lb hx])],[(0,OO id fi false 1 2 lT mx lD tD 3),(1,Ag ok oi),(2,Ag ik ii),(3,.sl 86 CM kl)],.v (.iface 44 (.int .i64 ((Bw id fi ok oi ik ii lT mx lD tD kl hb hi hn hh hp hx:Nat):Int))),[]⟩
theorem T8 (hok:ok.length=32) (hik:ik.length=32) (hoi:oi<=100000000000) (hii:ii<=100000000000) (hm1:1<=mx.length/\mx.length<=100000) (hm2:∀j,(mx.getD j AW).length<=32) (hlow:lT<=100000000000) (hK:KOk kl) (hll:lT<=lD/\lD<=100000000000) (hhn:hn<=10000000000/\hi<=10000000000) (hk:BZ id fi ok oi ik ii lT mx lD tD kl hb hi hn hh hp hx=false):EB Tryz.prog 70 (Pd id fi ok oi ik ii lT mx lD tD kl hb hi hn hh hp hx):=by
 refine C4 rfl (nb:=4) func70 rfl rfl ntmps70 rfl rfl rfl λg0 w0 ac gs ws Y V=> ?_
 have V:=V.sp
 refine Aj [] 5 V λV=>Ar (Ay [(6,AA (Cn ik ii) [(0,2)] [])] [] 5 V λV=>AJ ((hi:Int)<(ii:Int)) V (λh1=> ?_) (λh1=> ?_))
 ·refine Ay [(3,AA (Nh id fi ok oi ik ii lT mx lD tD kl hi) [(0,0),(1,1),(2,2),(3,3)] [])] [] 5 V λV=>Ar (Aj [] 5 V λV=>AJ ((CV kl (hi:Int))<0) V (λh2=> ?_) (λh2=> ?_))
  ·refine Bd (E:=E0) mo hZ [] aa none (λr hr=>by cases hr) 1 0 (λ_=>[]) (.v (.iface 44 (.int .i64 5))) (by kernel_rfl) aa V.st λac gs ws pv V hpv=>AE (AE ?_)
   have hM:Bw id fi ok oi ik ii lT mx lD tD kl hb hi hn hh hp hx=5:=(Ab _).trans ((ah h1).trans (ah h2))
   exact CN rfl V hpv (by show _=(.v (.iface 44 (.int .i64 ((Bw id fi ok oi ik ii lT mx lD tD kl hb hi hn hh hp hx:Nat):Int))):D);rw[hM]<;>rfl) rfl
  ·refine DG ?_
   have hpl:=QV (l:=kl) (i:=(hi:Int)) A_
   have hkr:=hK.2 (CV kl (hi:Int)).toNat Ac
   have hkf:0<=(kl.getD (Int.toNat (CV kl (hi:Int))) Bi).2.1/\(kl.getD (Int.toNat (CV kl (hi:Int))) Bi).2.1<=1000000000000:=hkr.2.1
   refine Aw [(5,Ty (CV kl (hi:Int)) kl.length)] [6] 6 V λV=>CQ (Ar ?_)
   by_cases h3:(hn:Int)<(((kl.getD (Int.toNat (CV kl (hi:Int))) Bi).2).1)
   ·refine Aw [(4,Gv h3)] [] 6 V λV=>Ae (AG V (Bd (E:=E0) mo hZ [] aa none (λr hr=>by cases hr) 1 0 (λ_=>[]) (.v (.iface 44 (.int .i64 2))) (by kernel_rfl) aa V.st λac gs ws pv V hpv=>AE (AE ?_)))
    have hM:Bw id fi ok oi ik ii lT mx lD tD kl hb hi hn hh hp hx=2:=(Ab _).trans ((ah h1).trans ((aj h2).trans (ah h3)))
    exact CN rfl V hpv (by show _=(.v (.iface 44 (.int .i64 ((Bw id fi ok oi ik ii lT mx lD tD kl hb hi hn hh hp hx:Nat):Int))):D);rw[hM]<;>rfl) rfl
   ·refine Aw [(4,Do h3),(10,Xl (hn:Int) (((kl.getD (Int.toNat (CV kl (hi:Int))) Bi).2).1))] [] 6 V λV=>Ae (AJ ((((((kl.getD (Int.toNat (CV kl (hi:Int))) Bi).2).2).length:Nat):Int)<=((hn:Int)-(((kl.getD (Int.toNat (CV kl (hi:Int))) Bi).2).1))) V (λh4=> ?_) (λh4=> ?_))
    ·refine Bd (E:=E0) mo hZ [] aa none (λr hr=>by cases hr) 1 0 (λ_=>[]) (.v (.iface 44 (.int .i64 2))) (by kernel_rfl) aa V.st λac gs ws pv V hpv=>AE (AE ?_)
     have hM:Bw id fi ok oi ik ii lT mx lD tD kl hb hi hn hh hp hx=2:=(Ab _).trans ((ah h1).trans ((aj h2).trans (aj h3)))
     exact CN rfl V hpv (by show _=(.v (.iface 44 (.int .i64 ((Bw id fi ok oi ik ii lT mx lD tD kl hb hi hn hh hp hx:Nat):Int))):D);rw[hM]<;>rfl) rfl
    ·refine Cb (Ay [(6,Xl (hn:Int) (((kl.getD (Int.toNat (CV kl (hi:Int))) Bi).2).1)),(7,Ty ((hn:Int)-(((kl.getD (Int.toNat (CV kl (hi:Int))) Bi).2).1)) ((((kl.getD (Int.toNat (CV kl (hi:Int))) Bi).2).2).length))] [] 6 V λV=>AY (Ao ?_))
     have hK:BZ id fi ok oi ik ii lT mx lD tD kl hb hi hn hh hp hx=true:=(Ab _).trans ((ah h1).trans ((aj h2).trans ((aj h3).trans (aj h4))))
     rw[hK]at hk
     cases hk
 ·refine DG ?_
  by_cases h5:Vi ii hi=true
  ·refine Aw [(6,AA (NN ik ii hi Ax Ac h5) [(0,2)] [])] [] 5 V λV=>Ae (Ay [(1,AS (G6))] [] 5 V λV=>Ii ?_)
   by_cases h6:(hn:Int)<(lD:Int)
   ·refine Aw [(6,Gv h6)] [] 5 V λV=>Ae (AG V (Bd (E:=E0) mo hZ [] aa none (λr hr=>by cases hr) 1 0 (λ_=>[]) (.v (.iface 44 (.int .i64 2))) (by kernel_rfl) aa V.st λac gs ws pv V hpv=>AE ?_))
    have hM:Bw id fi ok oi ik ii lT mx lD tD kl hb hi hn hh hp hx=2:=(Ab _).trans ((aj h1).trans ((ah h5).trans (ah h6)))
    exact CN rfl V hpv (by show _=(.v (.iface 44 (.int .i64 ((Bw id fi ok oi ik ii lT mx lD tD kl hb hi hn hh hp hx:Nat):Int))):D);rw[hM]<;>rfl) rfl
   ·refine Aw [(6,Do h6),(11,Ig (Ds lT mx GG Ac) [0,1] [.im (Jg [.top,.top,.top,.im (Jg []) 0,.top,.top,vi (lT:Int),.ls false A8 mx,.top,.top,.top]) 0])] [] 5 V λV=>Ae (AJ (((lT+mx.length-1:Nat):Int)<(hn:Int)) V (λh7=> ?_) (λh7=> ?_))
    ·refine Bd (E:=E0) mo hZ [] aa none (λr hr=>by cases hr) 1 0 (λ_=>[]) (.v (.iface 44 (.int .i64 2))) (by kernel_rfl) aa V.st λac gs ws pv V hpv=>AE ?_
     have hM:Bw id fi ok oi ik ii lT mx lD tD kl hb hi hn hh hp hx=2:=(Ab _).trans ((aj h1).trans ((ah h5).trans (aj h6)))
     exact CN rfl V hpv (by show _=(.v (.iface 44 (.int .i64 ((Bw id fi ok oi ik ii lT mx lD tD kl hb hi hn hh hp hx:Nat):Int))):D);rw[hM]<;>rfl) rfl
    ·refine Cb (Ay [(4,AA (Qz id fi ok oi ik ii lT mx lD tD kl (Lw (Am ik (hi-ii))) hn GG (by first |assumption|(intro j;simp<;>omega)) Ac Ax Ac) [(0,0),(1,1),(2,2),(3,3)] [])] [] 5 V λV=>AY ?_)
     have hK:BZ id fi ok oi ik ii lT mx lD tD kl hb hi hn hh hp hx=true:=(Ab _).trans ((aj h1).trans ((ah h5).trans ((aj h6).trans (aj h7))))
     rw[hK]at hk
     cases hk
  ·refine Aw [(6,AA (NM ik ii hi Ax Ac (Cj h5)) [(0,2)] [])] [] 5 V λV=>CQ ?_
   have hcm:=W0 (Cj h5) ik
   refine Bd (E:=E0) mo hZ [] aa (some ⟨71,(HC (Dv ik ii hi)),[],[]⟩) (λr hr=>by cases hr;exact Ks (Dv ik ii hi) Ac) 1 0 (λ_=>[nd [vi (((Dv ik ii hi):Nat):Int)] []]) (.v (.iface 44 (.int .i64 (((Dv ik ii hi):Nat):Int)))) (by kernel_rfl) ⟨rfl,aa⟩ V.st λac gs ws pv V hpv=>AE ?_
   have hM:Bw id fi ok oi ik ii lT mx lD tD kl hb hi hn hh hp hx=(Dv ik ii hi):=(Ab _).trans ((aj h1).trans (aj h5))
   exact CN rfl V hpv (by show _=(.v (.iface 44 (.int .i64 ((Bw id fi ok oi ik ii lT mx lD tD kl hb hi hn hh hp hx:Nat):Int))):D);rw[hM]<;>rfl) rfl
end
theorem VE (key z:Ad):∀(n j:Nat),j<n->(G1 key n).getD j z=Lw (Am key j)
 |0,j,h=>absurd h (be _)
 |n+1,j,h=>by
  rw[G1,al]
  by_cases e:j<n
  ·rw[dj (by rw[Hm];exact e),<-al];exact VE key z n j e
  ·have :j=n:=by omega
   subst this
   rw[df (by rw[Hm];exact an _),Hm,Nat.sub_self];rfl
theorem TK (key:Ad) {n j:Nat} (h:j<n):(G1 key n).getD j AW=Lw (Am key j):=VE key _ n j h
theorem SF {key:Ad} {n j:Nat} (h:j<n):((G1 key n).getD j AW).length=32:=(dp List.length (TK key h)).trans (sU _)
def OH (ik:Ad) (ii lT:Nat) (mx:AZ) (hi x53 k2:Nat):(Nat×AZ)->(Nat×AZ):=λ(x11,o8)=>(x11+1,o8++[(AX ((G1 ik (hi-ii)).getD x53 AW) (mx.getD (x11-lT) AW) [109,101,115,115,97,103,101])])
section
variable (id:Ad) (fi:Bool) (ok:Ad) (oi:Nat) (ik:Ad) (ii lT:Nat) (mx:AZ) (lD tD:Nat) (kl:List KR) (hb:Ad) (hi hn hh:Nat) (hp hx:Ad)
def DY (id:Ad) (fi:Bool) (ok:Ad) (oi:Nat) (ik:Ad) (ii lT:Nat) (mx:AZ) (lD tD:Nat) (kl:List KR) (hb:Ad) (hi hn hh:Nat) (hp hx:Ad) (x53:Nat) (o6:List (Int×Int×AZ)):Nat->Nat×AZ
 |0=>(lD,[])
 |k2+1=>OH ik ii lT mx hi x53 k2 (DY id fi ok oi ik ii lT mx lD tD kl hb hi hn hh hp hx x53 o6 k2)
def Fs (id:Ad) (fi:Bool) (ok:Ad) (oi:Nat) (ik:Ad) (ii lT:Nat) (mx:AZ) (lD tD:Nat) (kl:List KR) (hb:Ad) (hi hn hh:Nat) (hp hx:Ad) (x53:Nat) (o6:List (Int×Int×AZ)):(Nat×AZ)->Prop:=λ(x11,o8)=>((x11:Nat):Int)<=(hn:Int)
def Lq (x53:Nat):(List (Int×Int×AZ))->(List (Int×Int×AZ)):=λo6=>o6++[(((ii+x53:Nat):Int),(lD:Int),(DY id fi ok oi ik ii lT mx lD tD kl hb hi hn hh hp hx x53 o6 (D3 λj=>Fs id fi ok oi ik ii lT mx lD tD kl hb hi hn hh hp hx x53 o6 (DY id fi ok oi ik ii lT mx lD tD kl hb hi hn hh hp hx x53 o6 j))).2)]
def Cr (id:Ad) (fi:Bool) (ok:Ad) (oi:Nat) (ik:Ad) (ii lT:Nat) (mx:AZ) (lD tD:Nat) (kl:List KR) (hb:Ad) (hi hn hh:Nat) (hp hx:Ad):Nat->(List (Int×Int×AZ))
 |0=>kl
 |x53+1=>Lq id fi ok oi ik ii lT mx lD tD kl hb hi hn hh hp hx x53 (Cr id fi ok oi ik ii lT mx lD tD kl hb hi hn hh hp hx x53)
def Ic:Nat×(List (Int×Int×AZ))×Ad×Nat:=AV (if(hi:Int)<(ii:Int)then(lD,kl.take ((CV kl (hi:Int)).toNat)++kl.drop (((CV kl (hi:Int)).toNat)+1),ik,ii)else(hn,(Cr id fi ok oi ik ii lT mx lD tD kl hb hi hn hh hp hx ((G1 ik (hi-ii)).length)).drop (Int.toNat (max ((((Cr id fi ok oi ik ii lT mx lD tD kl hb hi hn hh hp hx ((G1 ik (hi-ii)).length)).length:Nat):Int)-60) 0)),Sb (Am ik (hi-ii)),(hi+1)))
def Aa3 (z_:Nat×(List (Int×Int×AZ))×Ad×Nat:=Ic id fi ok oi ik ii lT mx lD tD kl hb hi hn hh hp hx):Con:=⟨[.cp 0 0,.ag (Jg [lb hb,vi (hi:Int),vi (hn:Int),vi (hh:Int),lb hp,lb hx])],[(0,OO id fi false 1 2 lT mx lD tD 3),(1,Ag ok oi),(2,Ag ik ii),(3,.sl 86 CM kl)],.tu (Jg []),[(0,OO id fi false 1 2 lT mx z_.1 tD 4),(1,Ag ok oi),(2,Ag (z_.2.2.1) z_.2.2.2),(4,.sl 86 CM (z_.2.1))]⟩
theorem aQ (hok:ok.length=32) (hik:ik.length=32) (hoi:oi<=100000000000) (hii:ii<=100000000000) (hm1:1<=mx.length/\mx.length<=100000) (hm2:∀j,(mx.getD j AW).length<=32) (hlow:lT<=100000000000) (hK:KOk kl) (hll:lT<=lD/\lD<=100000000000) (hhn:hn<=10000000000/\hi<=10000000000) (hc:(hi<ii/\0<=CV kl (hi:Int))\/(ii<=hi/\hi<=ii+40/\lD<=hn/\hn+1<=lT+mx.length)):AP 72 (Aa3 id fi ok oi ik ii lT mx lD tD kl hb hi hn hh hp hx):=by
 refine cy 4 func72 rfl ntmps72 λY V=>Aj [] 5 V λV=>Ar (Ay [(6,AA (Cn ik ii) [(0,2)] [])] [] 5 V λV=>AJ ((hi:Int)<(ii:Int)) V (λh1=> ?_) (λh1=> ?_))
 ·refine Ar ?_
  have hpg:=Ot (l:=kl) (hi:Int)
  have hkl:=hK.1
  refine Aw [(3,AA (Nh id fi ok oi ik ii lT mx lD tD kl hi) [(0,0),(1,1),(2,2),(3,3)] []),(4,Ly ((((CV kl (hi:Int)).toNat):Nat):Int) [(CV kl (hi:Int))=((((CV kl (hi:Int)).toNat):Nat):Int)] ⟨by omega,aa⟩)] [] 5 V λV=>CQ ?_
  have hpg:=Ot (l:=kl) (hi:Int)
  have hkl:=hK.1
  obtain⟨gs,V⟩:=V.fz 3
  refine Aw [(5,AA (HJ kl Ax) [] [(0,5)]),(8,FW ((CV kl (hi:Int)).toNat) 1 (((CV kl (hi:Int)).toNat)+1)),(9,AA (Z1 kl ((CV kl (hi:Int)).toNat) (((CV kl (hi:Int)).toNat)+1) Ac) [(0,5)] [(1,6)])] [] 7 V λV=>EY (Ao ?_)
  obtain⟨gs,V⟩:=V.rx [(0,0),(1,1),(2,2),(3,3),(4,6)] [] [0,1,2,4] 5 Y
  exact BV (.trans (Ab _) (ah h1)) V
 ·refine Cb (Ay [(4,AA (Cn ik ii) [(0,2)] [])] [] 5 V λV=>Ay [(6,AA (RF ik ii hi Ax Ac Ac) [(0,2)] [(1,5)])] [] 6 V λV=>Ii ?_)
  obtain⟨gs,V⟩:=V.alias 3
  have hpg:=Ot (l:=kl) (hi:Int)
  have hkl:=hK.1
  have hsl:=Hm ik (hi-ii)
  refine Dl [51] 7 V λV=>Ae (BC (AC (ι:=Nat×(List (Int×Int×AZ))) Y V (λ(x53,o6)=>((G1 ik (hi-ii)).length-x53,[(53,vi ((x53:Nat):Int))],[(6,.sl 86 CM o6)],(x53<=(G1 ik (hi-ii)).length)/\(o6=Cr id fi ok oi ik ii lT mx lD tD kl hb hi hn hh hp hx x53)/\(o6.length<=kl.length+x53)/\True)) [0,3,5,51,52] [0,1,2,4,5] 7 (0,kl) [(0,0),(1,1),(2,2),(3,3),(4,4),(5,5),(6,6)] ⟨Ac,rfl,Ac,aa⟩ ?_))
  rintro⟨x53,o6⟩ ac gs ws ⟨hx53,hq1,p1,_⟩ V
  refine Aj [] 7 V λV=>Ar (AJ ((x53:Int)<(((G1 ik (hi-ii)).length:Nat):Int)) V (λh2=> ?_) (λh2=> ?_))
  ·refine B3 (Ay [(1,AH x53 ((G1 ik (hi-ii)).length))] [] 7 V λV=>Ay [(2,FW ii x53 (ii+x53))] [10] 8 V λV=>Ii ?_)
   obtain⟨gs,V⟩:=V.nilob 7 2 22 A8
   refine Dl [] 9 V λV=>Ae (BC (AC (ι:=Nat×Nat×AZ) Y V (λ(k2,x11,o8)=>(hn+1-x11,[(11,vi (x11:Int))],[(8,.sl 22 A8 o8)],((x11,o8)=DY id fi ok oi ik ii lT mx lD tD kl hb hi hn hh hp hx x53 o6 k2)/\(∀j,j<k2->Fs id fi ok oi ik ii lT mx lD tD kl hb hi hn hh hp hx x53 o6 (DY id fi ok oi ik ii lT mx lD tD kl hb hi hn hh hp hx x53 o6 j))/\(lD<=x11/\x11<=hn+1)/\(o8.length+lD=x11)/\True)) [0,3,5,9,10,51,52,53] [0,1,2,4,5,6,7] 9 (0,lD,[]) [(0,0),(1,1),(2,2),(3,3),(4,4),(5,5),(6,6),(7,7),(8,8)] ⟨rfl,(λj h=>absurd h (be j)),Ac,(by simp),aa⟩ ?_))
   rintro⟨k2,x11,o8⟩ ac gs ws ⟨hq2,hj2,p2,p3,_⟩ V
   refine Ar (Aj [] 9 V λV=>AJ ((x11:Int)<=(hn:Int)) V (λh3=> ?_) (λh3=> ?_))
   ·refine B3 ?_
    have hsk:=SF (key:=ik) (n:=hi-ii) (j:=x53) Ac
    exact Aw [(5,AA (Qz id fi ok oi (Am ik (hi-ii)) hi lT mx lD tD o6 ((G1 ik (hi-ii)).getD x53 AW) x11 GG (by first |assumption|(intro j;simp<;>omega)) Ac Ax Ac) [(0,0),(1,1),(2,2),(3,6)] []),(7,Gt o8.length 1 24 (by(first |omega|(simp only[aw,au];omega))))] [] 10 V λV=>Ck (Aw [(1,Cu x11)] [11] 10 V λV=>Ae (As Y V (k2+1,x11+1,o8++[(AX ((G1 ik (hi-ii)).getD x53 AW) (mx.getD (x11-lT) AW) [109,101,115,115,97,103,101])]) [(0,0),(1,1),(2,2),(3,3),(4,4),(5,5),(6,6),(7,7),(8,9)] ⟨(Bm (st:=OH _ _ _ _ _ _) hq2 rfl rfl),(Br hj2 (by rw[<-hq2];exact h3)),Ac,(by rw[ab,aw,au];omega),aa⟩))
   ·have hT:=V
    obtain rfl:=CE (by rw[<-hq2];first |exact h3|exact cq h3) hj2
    obtain⟨rfl,rfl⟩:=T1 hq2
    have V:=hT
    refine Dw ?_
    obtain⟨gs,V⟩:=V.fz 8
    exact Aw [(7,Gt o6.length 1 40 (by(first |omega|(simp only[aw,au];omega))))] [] 10 V λV=>Ck (Aw [(0,Cu x53)] [53] 10 V λV=>Ae (As Y V (x53+1,o6++[(((ii+x53:Nat):Int),(lD:Int),(DY id fi ok oi ik ii lT mx lD tD kl hb hi hn hh hp hx x53 o6 (D3 λj=>Fs id fi ok oi ik ii lT mx lD tD kl hb hi hn hh hp hx x53 o6 (DY id fi ok oi ik ii lT mx lD tD kl hb hi hn hh hp hx x53 o6 j))).2)]) [(0,0),(1,1),(2,2),(3,3),(4,4),(5,5),(6,9)] ⟨Ac,(Bm (st:=Lq _ _ _ _ _ _ _ _ _ _ _ _ _ _ _ _ _) hq1 rfl rfl),(by rw[ab,aw,au];omega),aa⟩))
  ·have hT:=V
   obtain rfl:(G1 ik (hi-ii)).length=x53:=by omega
   obtain rfl:=hq1.symm
   have V:=hT
   refine JH ?_
   obtain⟨gs,V⟩:=V.fz 6
   refine Aw [(10,Xl (((Cr id fi ok oi ik ii lT mx lD tD kl hb hi hn hh hp hx ((G1 ik (hi-ii)).length)).length:Nat):Int) 60),(11,Ly (max ((((Cr id fi ok oi ik ii lT mx lD tD kl hb hi hn hh hp hx ((G1 ik (hi-ii)).length)).length:Nat):Int)-60) 0) [(if 0>((((Cr id fi ok oi ik ii lT mx lD tD kl hb hi hn hh hp hx ((G1 ik (hi-ii)).length)).length:Nat):Int)-60)then 0 else((((Cr id fi ok oi ik ii lT mx lD tD kl hb hi hn hh hp hx ((G1 ik (hi-ii)).length)).length:Nat):Int)-60))=(max ((((Cr id fi ok oi ik ii lT mx lD tD kl hb hi hn hh hp hx ((G1 ik (hi-ii)).length)).length:Nat):Int)-60) 0)] ⟨by split<;>omega,aa⟩),(12,P8 (FU (some (max ((((Cr id fi ok oi ik ii lT mx lD tD kl hb hi hn hh hp hx ((G1 ik (hi-ii)).length)).length:Nat):Int)-60) 0)) none none (Cr id fi ok oi ik ii lT mx lD tD kl hb hi hn hh hp hx ((G1 ik (hi-ii)).length)).length (Cr id fi ok oi ik ii lT mx lD tD kl hb hi hn hh hp hx ((G1 ik (hi-ii)).length)).length) ⟨by simp only[GE]<;>omega,by simp only[GE]<;>omega,by simp only[GE]<;>omega,by simp,by simp only[bl]<;>omega,by simp only[bl]<;>omega,by simp only[bl]<;>omega⟩),(13,AA (HJ ((Cr id fi ok oi ik ii lT mx lD tD kl hb hi hn hh hp hx ((G1 ik (hi-ii)).length)).drop (Int.toNat (max ((((Cr id fi ok oi ik ii lT mx lD tD kl hb hi hn hh hp hx ((G1 ik (hi-ii)).length)).length:Nat):Int)-60) 0))) Ax) [] [(0,7)])] [] 8 V λV=>CQ ?_
   have hnl:=Cf hik (hi-ii)
   refine Aw [(4,AA (Jf (Am ik (hi-ii)) hi Ax Ac) [(0,2)] [])] [] 8 V λV=>Ae (Dl [] 8 V λV=> ?_)
   obtain⟨gs,V⟩:=V.rx [(0,0),(1,1),(2,2),(3,3),(4,7)] [] [0,1,2,4] 5 Y
   exact l8 (.trans (Ab _) (aj h1)) V
end
theorem TG {xs:Ad} (h:DO xs=true):(Af xs).1.toNat<=2147483648:=by
 unfold DO at h;rw[Ab]at h
 split at h
 ·split at h
  ·cases h
  ·omega
 ·cases h
theorem zA {xs ba bb:Ad} (h:G2 xs ba bb=true):(Di xs ba bb).2.1<=2147483648/\(Di xs ba bb).2.2.1<=2147483648/\(Di xs ba bb).2.2.2.1<=2147483648/\(Di xs ba bb).2.2.2.2.length<=xs.length:=by
 unfold G2 at h;rw[Ab]at h
 have h3:=Cs xs
 have h4:=(AU (Af (Af (Af xs).2).2).2).2
 unfold Di;rw[Ab]
 split at h
 ·split at h
  ·split at h
   ·refine⟨TG A_,TG A_,TG A_,?_⟩
    show(List.take _ _).length<=_
    rw[ap]
    omega
   ·cases h
  ·cases h
 ·cases h
theorem yT {xs ba bb:Ad} (h:HU xs ba bb=true):(FZ xs ba bb).1<=2147483648/\(FZ xs ba bb).2.1<=2147483648/\(FZ xs ba bb).2.2.1<=2147483648/\(FZ xs ba bb).2.2.2.length<=xs.length:=by
 unfold HU at h;rw[Ab]at h
 unfold FZ;rw[Ab]
 split at h
 ·exact zA A_
 ·cases h
theorem BL {xs:Ad} (h:B_ xs=true):(Aa xs).1.length<=xs.length/\(Aa xs).2.1<=2147483648/\(Aa xs).2.2.1<=2147483648/\(Aa xs).2.2.2.1<=2147483648/\(Aa xs).2.2.2.2.1.length<=xs.length/\(Aa xs).2.2.2.2.2.length<=xs.length:=by
 have h1:=AU xs
 have h2:=AU ((Af xs).2.drop (Af xs).1.toNat)
 rw[av]at h2
 unfold B_ at h;rw[Ab]at h
 unfold Aa;rw[Ab]
 split at h
 ·split at h
  ·rename_i _ hr
   obtain⟨k1,k2,k3,k4⟩:=yT hr
   rw[ap]at k4
   refine⟨?_,k1,k2,k3,?_,?_⟩
   ·show(List.take _ _).length<=_;rw[ap];omega
   ·show(FZ _ _ _).2.2.2.length<=_;omega
   ·show(List.take _ _).length<=_;rw[ap];omega
  ·cases h
 ·cases h
theorem AbY {l:AZ} {i:Nat} {z:Ad} (h:∀k∈l,k.length=32) (hi:i<l.length):(l.getD i z).length=32:=by
 rw[al,am hi]
 exact h _ (fv hi)
theorem HW {id:Ad} {fi:Bool} {ok:Ad} {oi:Nat} {ik:Ad} {ii:Nat} {lT:Nat} {mx:AZ} {lD:Nat} {tD:Nat} {kl:List KR} {hb:Ad} {hi:Nat} {hn:Nat} {hh:Nat} {hp:Ad} {hx:Ad} (h:BZ id fi ok oi ik ii lT mx lD tD kl hb hi hn hh hp hx=true) (hm:1<=mx.length) (hK:KOk kl):((hi<ii/\0<=CV kl (hi:Int))\/(ii<=hi/\hi<=ii+40/\lD<=hn/\hn+1<=lT+mx.length))/\(BU id fi ok oi ik ii lT mx lD tD kl hb hi hn hh hp hx).length=32:=by
 unfold BZ at h;rw[Ab]at h
 unfold BU;rw[Ab]
 by_cases h1:(hi:Int)<(ii:Int)
 ·rw[ah h1]at h⊢
  by_cases h2:CV kl (hi:Int)<0
  ·rw[ah h2]at h;cases h
  ·rw[aj h2]at h
   refine⟨.inl ⟨by omega,by omega⟩,?_⟩
   split at h
   ·cases h
   ·split at h
    ·cases h
    ·rename_i h3 h4
     have hpl:=QV (l:=kl) h2
     have hkr:=hK.2 (CV kl (hi:Int)).toNat Ac
     exact AbY hkr.2.2.2 Ac
 ·rw[aj h1]at h⊢
  split at h
  ·rename_i h2
   have h3:=xF h2
   refine⟨.inr ⟨h3.1,h3.2,?_⟩,Fq ..⟩
   split at h
   ·cases h
   ·split at h
    ·cases h
    ·omega
  ·cases h
def aX (n:Nat):Con:=⟨[vi (n:Int)],[],.tu (Jg []),[]⟩
theorem kI (n:Nat) (hn:n=0):AP 71 (aX n):=by
 refine cy 0 func71 rfl ntmps71 λY V=> ?_
 have hn0:(n:Int)=0:=Ac
 exact Ay [(1,Ha hn0)] [] 0 V λV=>Ai V (sR (fQ V))
def S_ (n:Nat):Bool:=Nat.beq n 0
theorem AbW {n:Nat} (h:S_ n=true):n=0:=aq h
theorem AbX {n:Nat} (h:S_ n=false):0<n:=Nat.pos_of_ne_zero λe=>by subst e;cases h
theorem FB (n:Nat) (hs:S_ n=true):AP 71 (aX n):=kI n (AbW hs)
theorem Ra (n:Nat) (hs:S_ n=false):EB Tryz.prog 71 (HC n):=Ks n (AbX hs)
section
variable (id:Ad) (fi:Bool) (ok:Ad) (oi:Nat) (ik:Ad) (ii lT:Nat) (mx:AZ) (lD tD:Nat) (kl:List KR) (xs:Ad)
def HN (rQ:Ad):Bool:=AV (if B_ xs=true then(if BZ id fi ok oi ik ii lT mx lD tD kl (Aa xs).1 (Aa xs).2.1 (Aa xs).2.2.1 (Aa xs).2.2.2.1 (Aa xs).2.2.2.2.1 (Aa xs).2.2.2.2.2=true then(if S_ ((BS (BU id fi ok oi ik ii lT mx lD tD kl (Aa xs).1 (Aa xs).2.1 (Aa xs).2.2.1 (Aa xs).2.2.2.1 (Aa xs).2.2.2.2.1 (Aa xs).2.2.2.2.2) (replicate 12 (0:Int)) (Aa xs).1 (Aa xs).2.2.2.2.2).2)=true then true else false)else false)else false)
def Dm (rQ:Ad):Nat:=AV (if B_ xs=true then(if BZ id fi ok oi ik ii lT mx lD tD kl (Aa xs).1 (Aa xs).2.1 (Aa xs).2.2.1 (Aa xs).2.2.2.1 (Aa xs).2.2.2.2.1 (Aa xs).2.2.2.2.2=true then((BS (BU id fi ok oi ik ii lT mx lD tD kl (Aa xs).1 (Aa xs).2.1 (Aa xs).2.2.1 (Aa xs).2.2.2.1 (Aa xs).2.2.2.2.1 (Aa xs).2.2.2.2.2) (replicate 12 (0:Int)) (Aa xs).1 (Aa xs).2.2.2.2.2).2)else(Bw id fi ok oi ik ii lT mx lD tD kl (Aa xs).1 (Aa xs).2.1 (Aa xs).2.2.1 (Aa xs).2.2.2.1 (Aa xs).2.2.2.2.1 (Aa xs).2.2.2.2.2))else(De xs))
def B5 (rQ:Ad):Nat×Nat×(List (Int×Int×AZ))×Ad×Nat×Ad×Nat:=AV ((((Ic id fi ok oi ik ii lT mx lD tD kl (Aa xs).1 (Aa xs).2.1 (Aa xs).2.2.1 (Aa xs).2.2.2.1 (Aa xs).2.2.2.2.1 (Aa xs).2.2.2.2.2).1),(max tD (Aa xs).2.2.2.1),(Ic id fi ok oi ik ii lT mx lD tD kl (Aa xs).1 (Aa xs).2.1 (Aa xs).2.2.1 (Aa xs).2.2.2.1 (Aa xs).2.2.2.2.1 (Aa xs).2.2.2.2.2).2.1,(Ic id fi ok oi ik ii lT mx lD tD kl (Aa xs).1 (Aa xs).2.1 (Aa xs).2.2.1 (Aa xs).2.2.2.1 (Aa xs).2.2.2.2.1 (Aa xs).2.2.2.2.2).2.2.1,((Ic id fi ok oi ik ii lT mx lD tD kl (Aa xs).1 (Aa xs).2.1 (Aa xs).2.2.1 (Aa xs).2.2.2.1 (Aa xs).2.2.2.2.1 (Aa xs).2.2.2.2.2).2.2.2),(BS (BU id fi ok oi ik ii lT mx lD tD kl (Aa xs).1 (Aa xs).2.1 (Aa xs).2.2.1 (Aa xs).2.2.2.1 (Aa xs).2.2.2.2.1 (Aa xs).2.2.2.2.2) (replicate 12 (0:Int)) (Aa xs).1 (Aa xs).2.2.2.2.2).1,(Aa xs).2.1))
def AaE (rQ:Ad) (z_:Nat×Nat×(List (Int×Int×AZ))×Ad×Nat×Ad×Nat:=B5 id fi ok oi ik ii lT mx lD tD kl xs rQ):Con:=⟨[.cp 0 0,lb xs,lb rQ],[(0,OO id fi false 1 2 lT mx lD tD 3),(1,Ag ok oi),(2,Ag ik ii),(3,.sl 86 CM kl)],.tu (Jg [lb (z_.2.2.2.2.2.1),vi ((z_.2.2.2.2.2.2:Nat):Int)]),[(0,OO id fi false 1 2 lT mx z_.1 z_.2.1 4),(1,Ag ok oi),(2,Ag (z_.2.2.2.1) z_.2.2.2.2.1),(4,.sl 86 CM (z_.2.2.1))]⟩
theorem Zd (rQ:Ad) (hok:ok.length=32) (hik:ik.length=32) (hoi:oi<=100000000000) (hii:ii<=100000000000) (hm1:1<=mx.length/\mx.length<=100000) (hm2:∀j,(mx.getD j AW).length<=32) (hlow:lT<=100000000000) (hK:KOk kl) (hll:lT<=lD/\lD<=100000000000) (htd:tD<=100000000000) (hf:xs.length<=50000) (hk:HN id fi ok oi ik ii lT mx lD tD kl xs rQ=true):AP 39 (AaE id fi ok oi ik ii lT mx lD tD kl xs rQ):=by
 refine cy 4 func39 rfl ntmps39 λY V=>Aj [] 4 V λV=>Ar ?_
 by_cases h1:B_ xs=true
 ·refine Aw [(1,AS (Lb xs Ax h1))] [8] 5 V λV=>CQ ?_
  have hpl:=BL (xs:=xs) A_
  by_cases h2:BZ id fi ok oi ik ii lT mx lD tD kl (Aa xs).1 (Aa xs).2.1 (Aa xs).2.2.1 (Aa xs).2.2.2.1 (Aa xs).2.2.2.2.1 (Aa xs).2.2.2.2.2=true
  ·have hpl:=BL (xs:=xs) A_
   refine Aw [(2,AA (Q3 id fi ok oi ik ii lT mx lD tD kl (Aa xs).1 (Aa xs).2.1 (Aa xs).2.2.1 (Aa xs).2.2.2.1 (Aa xs).2.2.2.2.1 (Aa xs).2.2.2.2.2 Ax Ax Ac Ac GG (by first |assumption|(intro j;simp<;>omega)) Ac A_ Ac Ac h2) [(0,0),(1,1),(2,2),(3,3)] []),(3,R8 .mf [(12:Int)=12,(0:Int)<=12,1*12<=281474976710656,(12:Int)<=9223372036854775807] ⟨rfl,by omega,by omega,by omega,aa⟩),(8,AS (MX (BU id fi ok oi ik ii lT mx lD tD kl (Aa xs).1 (Aa xs).2.1 (Aa xs).2.2.1 (Aa xs).2.2.2.1 (Aa xs).2.2.2.2.1 (Aa xs).2.2.2.2.2) (replicate 12 (0:Int)) (Aa xs).1 (Aa xs).2.2.2.2.2 (HW A_ Ac hK).2 (by have :=BL (xs:=xs) A_;omega) (by have :=BL (xs:=xs) A_;omega) (by simp)))] [] 5 V λV=>CQ ?_
   by_cases h3:S_ ((BS (BU id fi ok oi ik ii lT mx lD tD kl (Aa xs).1 (Aa xs).2.1 (Aa xs).2.2.1 (Aa xs).2.2.2.1 (Aa xs).2.2.2.2.1 (Aa xs).2.2.2.2.2) (replicate 12 (0:Int)) (Aa xs).1 (Aa xs).2.2.2.2.2).2)=true
   ·refine Aw [(1,AS (FB ((BS (BU id fi ok oi ik ii lT mx lD tD kl (Aa xs).1 (Aa xs).2.1 (Aa xs).2.2.1 (Aa xs).2.2.2.1 (Aa xs).2.2.2.2.1 (Aa xs).2.2.2.2.2) (replicate 12 (0:Int)) (Aa xs).1 (Aa xs).2.2.2.2.2).2) h3))] [] 5 V λV=>CQ ?_
    have hpl:=BL (xs:=xs) A_
    have hof:=(HW A_ Ac hK).1
    refine Aw [(2,AA (aQ id fi ok oi ik ii lT mx lD tD kl (Aa xs).1 (Aa xs).2.1 (Aa xs).2.2.1 (Aa xs).2.2.2.1 (Aa xs).2.2.2.2.1 (Aa xs).2.2.2.2.2 Ax Ax Ac Ac GG (by first |assumption|(intro j;simp<;>omega)) Ac A_ Ac Ac A_) [(0,0),(1,1),(2,2),(3,3)] [(4,5)])] [] 6 V λV=>Ae (Ay [(7,Q1 tD (Aa xs).2.2.2.1)] [] 6 V λV=>Ar (Aj [] 6 V λV=>Ai V (Cb (Aj [6] 6 V λV=>AY ?_))))
    obtain⟨gs,V⟩:=V.rx [(0,0),(1,1),(2,2),(3,3),(4,5)] [6,7] [0,1,2,4] 5 Y
    exact BV (Ab _) V
   ·have hK:HN id fi ok oi ik ii lT mx lD tD kl xs rQ=false:=(Ab _).trans ((ah h1).trans ((ah h2).trans (aj h3)))
    rw[hK]at hk
    cases hk
  ·have hpl:=BL (xs:=xs) A_
   have hK:HN id fi ok oi ik ii lT mx lD tD kl xs rQ=false:=(Ab _).trans ((ah h1).trans (aj h2))
   rw[hK]at hk
   cases hk
 ·have hK:HN id fi ok oi ik ii lT mx lD tD kl xs rQ=false:=(Ab _).trans (aj h1)
  rw[hK]at hk
  cases hk
def W9 (rQ:Ad):Con:=⟨[.cp 0 0,lb xs,lb rQ],[(0,OO id fi false 1 2 lT mx lD tD 3),(1,Ag ok oi),(2,Ag ik ii),(3,.sl 86 CM kl)],.v (.iface 44 (.int .i64 ((Dm id fi ok oi ik ii lT mx lD tD kl xs rQ:Nat):Int))),[]⟩
theorem bP (rQ:Ad) (hok:ok.length=32) (hik:ik.length=32) (hoi:oi<=100000000000) (hii:ii<=100000000000) (hm1:1<=mx.length/\mx.length<=100000) (hm2:∀j,(mx.getD j AW).length<=32) (hlow:lT<=100000000000) (hK:KOk kl) (hll:lT<=lD/\lD<=100000000000) (htd:tD<=100000000000) (hf:xs.length<=50000) (hk:HN id fi ok oi ik ii lT mx lD tD kl xs rQ=false):EB Tryz.prog 39 (W9 id fi ok oi ik ii lT mx lD tD kl xs rQ):=by
 refine C4 rfl (nb:=4) func39 rfl rfl ntmps39 rfl rfl rfl λg0 w0 ac gs ws Y V=> ?_
 have V:=V.sp
 refine Aj [] 4 V λV=>Ar ?_
 by_cases h1:B_ xs=true
 ·refine Aw [(1,AS (Lb xs Ax h1))] [8] 5 V λV=>CQ ?_
  have hpl:=BL (xs:=xs) A_
  by_cases h2:BZ id fi ok oi ik ii lT mx lD tD kl (Aa xs).1 (Aa xs).2.1 (Aa xs).2.2.1 (Aa xs).2.2.2.1 (Aa xs).2.2.2.2.1 (Aa xs).2.2.2.2.2=true
  ·have hpl:=BL (xs:=xs) A_
   refine Aw [(2,AA (Q3 id fi ok oi ik ii lT mx lD tD kl (Aa xs).1 (Aa xs).2.1 (Aa xs).2.2.1 (Aa xs).2.2.2.1 (Aa xs).2.2.2.2.1 (Aa xs).2.2.2.2.2 Ax Ax Ac Ac GG (by first |assumption|(intro j;simp<;>omega)) Ac A_ Ac Ac h2) [(0,0),(1,1),(2,2),(3,3)] []),(3,R8 .mf [(12:Int)=12,(0:Int)<=12,1*12<=281474976710656,(12:Int)<=9223372036854775807] ⟨rfl,by omega,by omega,by omega,aa⟩),(8,AS (MX (BU id fi ok oi ik ii lT mx lD tD kl (Aa xs).1 (Aa xs).2.1 (Aa xs).2.2.1 (Aa xs).2.2.2.1 (Aa xs).2.2.2.2.1 (Aa xs).2.2.2.2.2) (replicate 12 (0:Int)) (Aa xs).1 (Aa xs).2.2.2.2.2 (HW A_ Ac hK).2 (by have :=BL (xs:=xs) A_;omega) (by have :=BL (xs:=xs) A_;omega) (by simp)))] [] 5 V λV=>CQ ?_
   by_cases h3:S_ ((BS (BU id fi ok oi ik ii lT mx lD tD kl (Aa xs).1 (Aa xs).2.1 (Aa xs).2.2.1 (Aa xs).2.2.2.1 (Aa xs).2.2.2.2.1 (Aa xs).2.2.2.2.2) (replicate 12 (0:Int)) (Aa xs).1 (Aa xs).2.2.2.2.2).2)=true
   ·refine Aw [(1,AS (FB ((BS (BU id fi ok oi ik ii lT mx lD tD kl (Aa xs).1 (Aa xs).2.1 (Aa xs).2.2.1 (Aa xs).2.2.2.1 (Aa xs).2.2.2.2.1 (Aa xs).2.2.2.2.2) (replicate 12 (0:Int)) (Aa xs).1 (Aa xs).2.2.2.2.2).2) h3))] [] 5 V λV=>CQ ?_
    have hpl:=BL (xs:=xs) A_
    have hof:=(HW A_ Ac hK).1
    refine Aw [(2,AA (aQ id fi ok oi ik ii lT mx lD tD kl (Aa xs).1 (Aa xs).2.1 (Aa xs).2.2.1 (Aa xs).2.2.2.1 (Aa xs).2.2.2.2.1 (Aa xs).2.2.2.2.2 Ax Ax Ac Ac GG (by first |assumption|(intro j;simp<;>omega)) Ac A_ Ac Ac A_) [(0,0),(1,1),(2,2),(3,3)] [(4,5)])] [] 6 V λV=>Ae (Ay [(7,Q1 tD (Aa xs).2.2.2.1)] [] 6 V λV=>Ar (Aj [] 6 V λV=>Ai V (Cb (Aj [6] 6 V λV=>AY ?_))))
    have hK:HN id fi ok oi ik ii lT mx lD tD kl xs rQ=true:=(Ab _).trans ((ah h1).trans ((ah h2).trans (ah h3)))
    rw[hK]at hk
    cases hk
   ·refine Bd (E:=E0) mo hZ [] aa (some ⟨71,(HC ((BS (BU id fi ok oi ik ii lT mx lD tD kl (Aa xs).1 (Aa xs).2.1 (Aa xs).2.2.1 (Aa xs).2.2.2.1 (Aa xs).2.2.2.2.1 (Aa xs).2.2.2.2.2) (replicate 12 (0:Int)) (Aa xs).1 (Aa xs).2.2.2.2.2).2)),[],[]⟩) (λr hr=>by cases hr;exact Ra ((BS (BU id fi ok oi ik ii lT mx lD tD kl (Aa xs).1 (Aa xs).2.1 (Aa xs).2.2.1 (Aa xs).2.2.2.1 (Aa xs).2.2.2.2.1 (Aa xs).2.2.2.2.2) (replicate 12 (0:Int)) (Aa xs).1 (Aa xs).2.2.2.2.2).2) (Cj h3)) 1 0 (λ_=>[nd [vi ((((BS (BU id fi ok oi ik ii lT mx lD tD kl (Aa xs).1 (Aa xs).2.1 (Aa xs).2.2.1 (Aa xs).2.2.2.1 (Aa xs).2.2.2.2.1 (Aa xs).2.2.2.2.2) (replicate 12 (0:Int)) (Aa xs).1 (Aa xs).2.2.2.2.2).2):Nat):Int)] []]) (.v (.iface 44 (.int .i64 ((((BS (BU id fi ok oi ik ii lT mx lD tD kl (Aa xs).1 (Aa xs).2.1 (Aa xs).2.2.1 (Aa xs).2.2.2.1 (Aa xs).2.2.2.2.1 (Aa xs).2.2.2.2.2) (replicate 12 (0:Int)) (Aa xs).1 (Aa xs).2.2.2.2.2).2):Nat):Int)))) (by kernel_rfl) ⟨rfl,aa⟩ V.st λac gs ws pv V hpv=>AE ?_
    have hM:Dm id fi ok oi ik ii lT mx lD tD kl xs rQ=((BS (BU id fi ok oi ik ii lT mx lD tD kl (Aa xs).1 (Aa xs).2.1 (Aa xs).2.2.1 (Aa xs).2.2.2.1 (Aa xs).2.2.2.2.1 (Aa xs).2.2.2.2.2) (replicate 12 (0:Int)) (Aa xs).1 (Aa xs).2.2.2.2.2).2):=(Ab _).trans ((ah h1).trans (ah h2))
    exact CN rfl V hpv (by show _=(.v (.iface 44 (.int .i64 ((Dm id fi ok oi ik ii lT mx lD tD kl xs rQ:Nat):Int))):D);rw[hM]<;>rfl) rfl
  ·have hpl:=BL (xs:=xs) A_
   refine Bd (E:=E0) mo hZ [] aa (some ⟨70,(Pd id fi ok oi ik ii lT mx lD tD kl (Aa xs).1 (Aa xs).2.1 (Aa xs).2.2.1 (Aa xs).2.2.2.1 (Aa xs).2.2.2.2.1 (Aa xs).2.2.2.2.2),[(0,0),(1,1),(2,2),(3,3)],[]⟩) (λr hr=>by cases hr;exact T8 id fi ok oi ik ii lT mx lD tD kl (Aa xs).1 (Aa xs).2.1 (Aa xs).2.2.1 (Aa xs).2.2.2.1 (Aa xs).2.2.2.2.1 (Aa xs).2.2.2.2.2 Ax Ax Ac Ac GG (by first |assumption|(intro j;simp<;>omega)) Ac A_ Ac Ac (Cj h2)) 2 16128 (λ_=>[nd [.cp 0 0,.ag (Jg [lb (Aa xs).1,vi (((Aa xs).2.1:Nat):Int),vi (((Aa xs).2.2.1:Nat):Int),vi (((Aa xs).2.2.2.1:Nat):Int),lb (Aa xs).2.2.2.2.1,lb (Aa xs).2.2.2.2.2])] [some (OO id fi false 1 2 lT mx lD tD 3),some (Ag ok oi),some (Ag ik ii),some (.sl 86 CM kl)],(12:Int)=12,(0:Int)<=12,1*12<=281474976710656,(12:Int)<=9223372036854775807]) (.v (.iface 44 (.int .i64 ((Bw id fi ok oi ik ii lT mx lD tD kl (Aa xs).1 (Aa xs).2.1 (Aa xs).2.2.1 (Aa xs).2.2.2.1 (Aa xs).2.2.2.2.1 (Aa xs).2.2.2.2.2:Nat):Int)))) (by kernel_rfl) ⟨rfl,rfl,by omega,by omega,by omega,aa⟩ V.st λac gs ws pv V hpv=>AE ?_
   have hM:Dm id fi ok oi ik ii lT mx lD tD kl xs rQ=(Bw id fi ok oi ik ii lT mx lD tD kl (Aa xs).1 (Aa xs).2.1 (Aa xs).2.2.1 (Aa xs).2.2.2.1 (Aa xs).2.2.2.2.1 (Aa xs).2.2.2.2.2):=(Ab _).trans ((ah h1).trans (aj h2))
   exact CN rfl V hpv (by show _=(.v (.iface 44 (.int .i64 ((Dm id fi ok oi ik ii lT mx lD tD kl xs rQ:Nat):Int))):D);rw[hM]<;>rfl) rfl
 ·refine Bd (E:=E0) mo hZ [] aa (some ⟨68,(Mw xs),[],[]⟩) (λr hr=>by cases hr;exact O0 xs Ax (Cj h1)) 1 12 (λ_=>[nd [lb xs] []]) (.v (.iface 44 (.int .i64 ((De xs:Nat):Int)))) (by kernel_rfl) ⟨rfl,aa⟩ V.st λac gs ws pv V hpv=>AE ?_
  have hM:Dm id fi ok oi ik ii lT mx lD tD kl xs rQ=(De xs):=(Ab _).trans (aj h1)
  exact CN rfl V hpv (by show _=(.v (.iface 44 (.int .i64 ((Dm id fi ok oi ik ii lT mx lD tD kl xs rQ:Nat):Int))):D);rw[hM]<;>rfl) rfl
end
theorem cZ:AP 62 ⟨[.v (.pointer none)],[],.v (.pointer none),[]⟩:=by
 exact cy 0 func62 rfl ntmps62 λY V=>Aj [] 0 V λV=>Ar (Aj [] 0 V λV=>AG V (Aj [] 0 V λV=>AY (Ao (BW V))))
theorem VJ (id:Ad) (fi:Bool) (ok:Ad) (oi:Nat) (ik:Ad) (ii lT:Nat) (mx:AZ) (lD tD:Nat) (kl:List KR) (hok:ok.length=32) (hik:ik.length=32) (hoi:oi<=100000000000) (hii:ii<=100000000000) (hm1:1<=mx.length/\mx.length<=100000) (hm2:∀j,(mx.getD j AW).length<=32) (hlow:lT<=100000000000) (hK:KOk kl):AP 30 ⟨[.cp 0 0],[(0,Ga id fi false 1 2 lT mx lD tD kl),(1,Ag ok oi),(2,Ag ik ii)],.cp 3 0,[(0,Ga id fi false 1 2 lT mx lD tD kl),(1,Ag ok oi),(2,Ag ik ii),(3,OO id fi false 4 5 lT mx lD tD 6),(4,Ag ok oi),(5,Ag ik ii),(6,.sl 86 CM kl)]⟩:=by
 refine cy 3 func30 rfl ntmps30 λY V=>Aj [] 3 V λV=>Ar (Ay [(1,Ig (B4) [0,1] [.im (Jg [.top,.top,.top,.im (Jg []) 0,.top,.top,.top,.top,.top,.top,.top]) 0])] [] 3 V λV=>Ai V (Cb (Aj [3] 4 V λV=>Ay [(4,AA (KT ok oi Ax) [(0,1)] [(1,4)]),(9,AA (KT ik ii Ax) [(0,2)] [(1,5)]),(14,AS (cZ))] [] 6 V λV=>Ar ?_)))
 have hkl:=hK.1
 exact Aw [(4,AS (eZ mx Ax)),(9,AA (HJ kl Ax) [] [(0,6)])] [] 7 V λV=>Ae (Aj [] 7 V λV=>AY (BW V))
def Xo (x0:Ad):O:= .ob 22 (Jg [lb x0])
def Pr:O:= .ob 22 (Jg [.v (.slice none 0 0)])
def Pq:O:= .ob 3 (Jg [vi 0])
section
variable (t:Ad) (i:Nat)
def UV:Con:=⟨[.cp 0 0,.cp 1 0,.cp 2 0],[(0,Xo t),(1,N2 i),(2,Da)],.tu (Jg []),[(0,Xo t),(1,N2 i),(2,Da)]⟩
theorem V2:OP Tryz.prog 38 .returning .returning (UV t i):=by
 refine PZ rfl (nb:=3) (t0:=6) (t1:=3) func38 rfl rfl ntmps38 rfl rfl rfl rfl rfl rfl λg0 w0 ac gs ws Y V=> ?_
 have V:=V.sp
 exact Ay [(1,R8 .nn [] aa)] [] 3 V λV=>Ai V (sR (fQ V))
end
def UW (n:Nat):Con:=⟨[.cp 0 0,.cp 1 0,.cp 2 0],[(0,Pr),(1,Pq),(2,Da)],.tu (Jg []),[(0,Pr),(1,Pq),(2,Y1 n)]⟩
theorem V3 (n:Nat):OP Tryz.prog 38 (mE (.iface 44 (.int .i64 (n:Int)))) (TI (.iface 44 (.int .i64 (n:Int)))) (UW n):=by
 refine PZ rfl (nb:=3) (t0:=6) (t1:=3) func38 rfl rfl ntmps38 rfl rfl rfl rfl rfl rfl λg0 w0 ac gs ws Y V=> ?_
 have V:=V.sp
 exact Aj [] 3 V λV=>AG V (Ay [(1,R8 .ta [] aa)] [] 3 V λV=>Ar (Aj [] 3 V λV=>Ai V (Cb (Dl [] 3 V λV=>fQ V))))
section
variable (id:Ad) (fi:Bool) (ok:Ad) (oi:Nat) (ik:Ad) (ii lT:Nat) (mx:AZ) (lD tD:Nat) (kl:List KR) (xs rQ:Ad)
def HG:Bool:=AV (if HN id fi ok oi ik ii lT mx lD tD kl xs (rQ.drop 64)=true then true else false)
def DK:Ad×Nat×Nat×Nat×(List (Int×Int×AZ))×Ad×Nat:=AV (((B5 id fi ok oi ik ii lT mx lD tD kl xs (rQ.drop 64)).2.2.2.1,((B5 id fi ok oi ik ii lT mx lD tD kl xs (rQ.drop 64)).2.2.2.2.1),((B5 id fi ok oi ik ii lT mx lD tD kl xs (rQ.drop 64)).1),((B5 id fi ok oi ik ii lT mx lD tD kl xs (rQ.drop 64)).2.1),(B5 id fi ok oi ik ii lT mx lD tD kl xs (rQ.drop 64)).2.2.1,(B5 id fi ok oi ik ii lT mx lD tD kl xs (rQ.drop 64)).2.2.2.2.2.1,((B5 id fi ok oi ik ii lT mx lD tD kl xs (rQ.drop 64)).2.2.2.2.2.2)))
def Tw (z_:Ad×Nat×Nat×Nat×(List (Int×Int×AZ))×Ad×Nat:=DK id fi ok oi ik ii lT mx lD tD kl xs rQ):Con:=⟨[.cp 0 0,lb xs,lb rQ],[(0,Ga id fi false 1 2 lT mx lD tD kl),(1,Ag ok oi),(2,Ag ik ii)],.tu (Jg [lb (z_.2.2.2.2.2.1),vi ((z_.2.2.2.2.2.2:Nat):Int),vi 0]),[(0,Ga id fi false 7 8 lT mx z_.2.2.1 z_.2.2.2.1 (z_.2.2.2.2.1)),(1,Ag ok oi),(2,Ag ik ii),(7,Ag ok oi),(8,Ag (z_.1) z_.2.1)]⟩
theorem XP (hok:ok.length=32) (hik:ik.length=32) (hoi:oi<=100000000000) (hii:ii<=100000000000) (hm1:1<=mx.length/\mx.length<=100000) (hm2:∀j,(mx.getD j AW).length<=32) (hlow:lT<=100000000000) (hK:KOk kl) (hll:lT<=lD/\lD<=100000000000) (htd:tD<=100000000000) (hf:xs.length<=50000) (hr:rQ.length=128) (hk:HG id fi ok oi ik ii lT mx lD tD kl xs rQ=true):AP 19 (Tw id fi ok oi ik ii lT mx lD tD kl xs rQ):=by
 refine Du rfl (nb:=3) func19 rfl rfl ntmps19 rfl rfl rfl λg0 w0 ac gs ws Y V=> ?_
 have V:=V.sp
 have hr1:((rQ.length:Nat):Int)=128:=Ac
 refine Aj [] 6 V λV=>Ar (Ay [(1,Ig (B4) [0,1] [.im (Jg [.top,.top,.top,.im (Jg []) 0,.top,.top,.top,.top,.top,.top,.top]) 0]),(5,Ha hr1)] [] 6 V λV=>Ai V (DG ?_))
 have V:=V.rv [(0,.cp 0 0),(1,lb xs),(2,lb rQ),(6,.cp 3 0),(7,.cp 4 0),(8,.cp 5 0),(16,.v (.bool false))] [(0,some (Ga id fi false 1 2 lT mx lD tD kl)),(1,some (Ag ok oi)),(2,some (Ag ik ii)),(3,some (Pr)),(4,some (Pq)),(5,some (Da))]
 refine FM rfl V (cs:=[.cp 3 0,.cp 4 0,.cp 5 0]) rfl rfl rfl λD vds ac hD hcv hB V=> ?_
 have V:=V.sp
 refine Ae (Ay [(1,AA (VJ id fi ok oi ik ii lT mx lD tD kl Ax Ax Ac Ac GG (by first |assumption|(intro j;simp<;>omega)) Ac A_) [(0,0),(1,1),(2,2)] [(3,6),(4,7),(5,8),(6,9)])] [] 10 V λV=>Ar ?_)
 by_cases h1:HN id fi ok oi ik ii lT mx lD tD kl xs (rQ.drop 64)=true
 ·refine Aw [(3,ON 64 rQ.length),(4,AA (Zd id fi ok oi ik ii lT mx lD tD kl xs (rQ.drop 64) Ax Ax Ac Ac GG (by first |assumption|(intro j;simp<;>omega)) Ac A_ Ac Ac Ax h1) [(0,6),(1,7),(2,8),(3,9)] [(4,10)])] [] 11 V λV=>CQ (Dl [] 11 V λV=> ?_)
  obtain⟨gs,V⟩:=V.fz 10
  refine Ae (Aj [] 11 V λV=>AY ?_)
  have hM:DK id fi ok oi ik ii lT mx lD tD kl xs rQ=((B5 id fi ok oi ik ii lT mx lD tD kl xs (rQ.drop 64)).2.2.2.1,((B5 id fi ok oi ik ii lT mx lD tD kl xs (rQ.drop 64)).2.2.2.2.1),((B5 id fi ok oi ik ii lT mx lD tD kl xs (rQ.drop 64)).1),((B5 id fi ok oi ik ii lT mx lD tD kl xs (rQ.drop 64)).2.1),(B5 id fi ok oi ik ii lT mx lD tD kl xs (rQ.drop 64)).2.2.1,(B5 id fi ok oi ik ii lT mx lD tD kl xs (rQ.drop 64)).2.2.2.2.2.1,((B5 id fi ok oi ik ii lT mx lD tD kl xs (rQ.drop 64)).2.2.2.2.2.2)):=Ab _
  have V:=V.rv [(6,.cp 3 0),(7,.cp 4 0),(8,.cp 5 0)] [(0,some (Ga id fi false 7 8 lT mx ((B5 id fi ok oi ik ii lT mx lD tD kl xs (rQ.drop 64)).1) ((B5 id fi ok oi ik ii lT mx lD tD kl xs (rQ.drop 64)).2.1) ((B5 id fi ok oi ik ii lT mx lD tD kl xs (rQ.drop 64)).2.2.1))),(1,some (Ag ok oi)),(2,some (Ag ik ii)),(3,some (Xo ((B5 id fi ok oi ik ii lT mx lD tD kl xs (rQ.drop 64)).2.2.2.2.2.1))),(4,some (N2 ((B5 id fi ok oi ik ii lT mx lD tD kl xs (rQ.drop 64)).2.2.2.2.2.2))),(5,some (Da)),(7,some (Ag ok oi)),(8,some (Ag ((B5 id fi ok oi ik ii lT mx lD tD kl xs (rQ.drop 64)).2.2.2.1) ((B5 id fi ok oi ik ii lT mx lD tD kl xs (rQ.drop 64)).2.2.2.2.1)))]
  exact Mm (.inr rfl) V hD (DT ⟨38,(UV ((B5 id fi ok oi ik ii lT mx lD tD kl xs (rQ.drop 64)).2.2.2.2.2.1) ((B5 id fi ok oi ik ii lT mx lD tD kl xs (rQ.drop 64)).2.2.2.2.2.2)),[(0,3),(1,4),(2,5)],[]⟩ [(3,some (Xo ((B5 id fi ok oi ik ii lT mx lD tD kl xs (rQ.drop 64)).2.2.2.2.2.1))),(4,some (N2 ((B5 id fi ok oi ik ii lT mx lD tD kl xs (rQ.drop 64)).2.2.2.2.2.2))),(5,some (Da)),(0,some (Ga id fi false 7 8 lT mx ((B5 id fi ok oi ik ii lT mx lD tD kl xs (rQ.drop 64)).1) ((B5 id fi ok oi ik ii lT mx lD tD kl xs (rQ.drop 64)).2.1) ((B5 id fi ok oi ik ii lT mx lD tD kl xs (rQ.drop 64)).2.2.1))),(1,some (Ag ok oi)),(2,some (Ag ik ii)),(3,some (Xo ((B5 id fi ok oi ik ii lT mx lD tD kl xs (rQ.drop 64)).2.2.2.2.2.1))),(4,some (N2 ((B5 id fi ok oi ik ii lT mx lD tD kl xs (rQ.drop 64)).2.2.2.2.2.2))),(5,some (Da)),(7,some (Ag ok oi)),(8,some (Ag ((B5 id fi ok oi ik ii lT mx lD tD kl xs (rQ.drop 64)).2.2.2.1) ((B5 id fi ok oi ik ii lT mx lD tD kl xs (rQ.drop 64)).2.2.2.2.1)))] hB V hcv (show FrameMode.returning≠ .run from nofun) rfl rfl rfl (V2 ((B5 id fi ok oi ik ii lT mx lD tD kl xs (rQ.drop 64)).2.2.2.2.2.1) ((B5 id fi ok oi ik ii lT mx lD tD kl xs (rQ.drop 64)).2.2.2.2.2.2)) rfl ⟨rfl,rfl,rfl,aa⟩ rfl (ds:=[lb ((B5 id fi ok oi ik ii lT mx lD tD kl xs (rQ.drop 64)).2.2.2.2.2.1),vi ((((B5 id fi ok oi ik ii lT mx lD tD kl xs (rQ.drop 64)).2.2.2.2.2.2):Nat):Int),vi 0]) (by kernel_rfl) (by show weak _ (.tu (Jg [lb (DK id fi ok oi ik ii lT mx lD tD kl xs rQ).2.2.2.2.2.1,vi (((DK id fi ok oi ik ii lT mx lD tD kl xs rQ).2.2.2.2.2.2:Nat):Int),vi 0]))=(.tu (Jg [lb (DK id fi ok oi ik ii lT mx lD tD kl xs rQ).2.2.2.2.2.1,vi (((DK id fi ok oi ik ii lT mx lD tD kl xs rQ).2.2.2.2.2.2:Nat):Int),vi 0]));first |rfl|(rw[hM];first |(simp only[];rfl)|(simp only[];done)|rfl)) (by show E6 _ [(0,Ga id fi false 7 8 lT mx (DK id fi ok oi ik ii lT mx lD tD kl xs rQ).2.2.1 (DK id fi ok oi ik ii lT mx lD tD kl xs rQ).2.2.2.1 (DK id fi ok oi ik ii lT mx lD tD kl xs rQ).2.2.2.2.1),(1,Ag ok oi),(2,Ag ik ii),(7,Ag ok oi),(8,Ag (DK id fi ok oi ik ii lT mx lD tD kl xs rQ).1 (DK id fi ok oi ik ii lT mx lD tD kl xs rQ).2.1)] true;first |exact⟨rfl,rfl,rfl,rfl,rfl,aa⟩|(rw[hM];first |(simp only[];exact⟨rfl,rfl,rfl,rfl,rfl,aa⟩)|exact⟨rfl,rfl,rfl,rfl,rfl,aa⟩)))
 ·have hK:HG id fi ok oi ik ii lT mx lD tD kl xs rQ=false:=(Ab _).trans (aj h1)
  rw[hK]at hk
  cases hk
def Pb:Con:=Cq [.cp 0 0,lb xs,lb rQ] [(0,Ga id fi false 1 2 lT mx lD tD kl),(1,Ag ok oi),(2,Ag ik ii)] (.tu (Jg [.v (.slice none 0 0),vi 0,vi ((Dm id fi ok oi ik ii lT mx lD tD kl xs (rQ.drop 64):Nat):Int)]))
theorem TT (hok:ok.length=32) (hik:ik.length=32) (hoi:oi<=100000000000) (hii:ii<=100000000000) (hm1:1<=mx.length/\mx.length<=100000) (hm2:∀j,(mx.getD j AW).length<=32) (hlow:lT<=100000000000) (hK:KOk kl) (hll:lT<=lD/\lD<=100000000000) (htd:tD<=100000000000) (hf:xs.length<=50000) (hr:rQ.length=128) (hk:HG id fi ok oi ik ii lT mx lD tD kl xs rQ=false):AP 19 (Pb id fi ok oi ik ii lT mx lD tD kl xs rQ):=by
 refine Du rfl (nb:=3) func19 rfl rfl ntmps19 rfl rfl rfl λg0 w0 ac gs ws Y V=> ?_
 have V:=V.sp
 have hr1:((rQ.length:Nat):Int)=128:=Ac
 refine Aj [] 6 V λV=>Ar (Ay [(1,Ig (B4) [0,1] [.im (Jg [.top,.top,.top,.im (Jg []) 0,.top,.top,.top,.top,.top,.top,.top]) 0]),(5,Ha hr1)] [] 6 V λV=>Ai V (DG ?_))
 have V:=V.rv [(0,.cp 0 0),(1,lb xs),(2,lb rQ),(6,.cp 3 0),(7,.cp 4 0),(8,.cp 5 0),(16,.v (.bool false))] [(0,some (Ga id fi false 1 2 lT mx lD tD kl)),(1,some (Ag ok oi)),(2,some (Ag ik ii)),(3,some (Pr)),(4,some (Pq)),(5,some (Da))]
 refine FM rfl V (cs:=[.cp 3 0,.cp 4 0,.cp 5 0]) rfl rfl rfl λD vds ac hD hcv hB V=> ?_
 have V:=V.sp
 refine Ae (Ay [(1,AA (VJ id fi ok oi ik ii lT mx lD tD kl Ax Ax Ac Ac GG (by first |assumption|(intro j;simp<;>omega)) Ac A_) [(0,0),(1,1),(2,2)] [(3,6),(4,7),(5,8),(6,9)])] [] 10 V λV=>Ar ?_)
 by_cases h1:HN id fi ok oi ik ii lT mx lD tD kl xs (rQ.drop 64)=true
 ·refine Aw [(3,ON 64 rQ.length),(4,AA (Zd id fi ok oi ik ii lT mx lD tD kl xs (rQ.drop 64) Ax Ax Ac Ac GG (by first |assumption|(intro j;simp<;>omega)) Ac A_ Ac Ac Ax h1) [(0,6),(1,7),(2,8),(3,9)] [(4,10)])] [] 11 V λV=>CQ (Dl [] 11 V λV=> ?_)
  obtain⟨gs,V⟩:=V.fz 10
  refine Ae (Aj [] 11 V λV=>AY ?_)
  have hK:HG id fi ok oi ik ii lT mx lD tD kl xs rQ=true:=(Ab _).trans (ah h1)
  rw[hK]at hk
  cases hk
 ·refine HF (E:=E0) mo hZ [] aa (some ⟨39,(W9 id fi ok oi ik ii lT mx lD tD kl xs (rQ.drop 64)),[(0,6),(1,7),(2,8),(3,9)],[]⟩) (λr hr=>by cases hr;exact bP id fi ok oi ik ii lT mx lD tD kl xs (rQ.drop 64) Ax Ax Ac Ac GG (by first |assumption|(intro j;simp<;>omega)) Ac A_ Ac Ac Ax (Cj h1)) 4 992 (λ_=>[FU (some 64) none none rQ.length rQ.length,nd [.cp 6 0,lb xs,lb (rQ.drop 64)] [some (OO id fi false 7 8 lT mx lD tD 9),some (Ag ok oi),some (Ag ik ii),some (.sl 86 CM kl)]]) (.v (.iface 44 (.int .i64 ((Dm id fi ok oi ik ii lT mx lD tD kl xs (rQ.drop 64):Nat):Int)))) [6,7,8] [0,1,2,3,4,5] [(6,.cp 3 0),(7,.cp 4 0),(8,.cp 5 0)] [(0,some (Ga id fi false 1 2 lT mx lD tD kl)),(1,some (Ag ok oi)),(2,some (Ag ik ii)),(3,some (Pr)),(4,some (Pq)),(5,some (Da))] (by kernel_rfl) ⟨⟨by simp only[GE]<;>omega,by simp only[GE]<;>omega,by simp only[GE]<;>omega,by simp,by simp only[bl]<;>omega,by simp only[bl]<;>omega,by simp only[bl]<;>omega⟩,rfl,aa⟩ (by kernel_rfl) (by kernel_rfl) V.st λac gs ws pv V hpv=>AE ?_
  obtain rfl:=hpv.v_of
  exact KB V hD (DT ⟨38,(UW (Dm id fi ok oi ik ii lT mx lD tD kl xs (rQ.drop 64))),[(0,3),(1,4),(2,5)],[]⟩ [(3,some (Pr)),(4,some (Pq)),(5,some (Y1 (Dm id fi ok oi ik ii lT mx lD tD kl xs (rQ.drop 64)))),(0,some (Ga id fi false 1 2 lT mx lD tD kl)),(1,some (Ag ok oi)),(2,some (Ag ik ii)),(3,some (Pr)),(4,some (Pq)),(5,some (Da))] hB V hcv (show FrameMode.panicking _≠ .run from nofun) rfl rfl rfl (V3 (Dm id fi ok oi ik ii lT mx lD tD kl xs (rQ.drop 64))) rfl ⟨rfl,rfl,rfl,aa⟩ rfl (ds:=[.v (.slice none 0 0),vi 0,vi (((Dm id fi ok oi ik ii lT mx lD tD kl xs (rQ.drop 64)):Nat):Int)]) (by kernel_rfl) (by show weak _ (.tu (Jg [.v (.slice none 0 0),vi 0,vi ((Dm id fi ok oi ik ii lT mx lD tD kl xs (rQ.drop 64):Nat):Int)]))=(.tu (Jg [.v (.slice none 0 0),vi 0,vi ((Dm id fi ok oi ik ii lT mx lD tD kl xs (rQ.drop 64):Nat):Int)]));first |rfl|(rw[hM];first |(simp only[];rfl)|(simp only[];done)|rfl)) ⟨rfl,rfl,rfl,aa⟩)
end
theorem Jv (fi:Bool) (lT len tD:Nat) (h:1<=len):A6 fi lT len tD<lT+len:=by
 unfold A6;split<;>omega
@[simp] theorem Ka (key num data tT:Ad):(Ef key num data tT).length=tT.length+32:=by
 unfold Ef;rw[Ab];unfold JL;rw[Ab];rw[ab,GP,Qr]
section
variable (id:Ad) (fi:Bool) (ok:Ad) (oi:Nat) (ik:Ad) (ii lT:Nat) (mx:AZ) (lD tD:Nat) (kl:List KR) (tT rQ:Ad)
def XG (id:Ad) (fi:Bool) (ok:Ad) (oi:Nat) (ik:Ad) (ii lT:Nat) (mx:AZ) (lD tD:Nat) (kl:List KR) (tT rQ:Ad):Ad×Nat×Ad:=AV ((Sb ok,(oi+1),((((([]:Ad)++Ah (((((([]:Ad)++Ah oi)++Ah (A6 fi lT mx.length tD))++Ah (lT+mx.length-1))++Ah ([]:Ad).length)++([]:Ad)).length)++(((((([]:Ad)++Ah oi)++Ah (A6 fi lT mx.length tD))++Ah (lT+mx.length-1))++Ah ([]:Ad).length)++([]:Ad)))++Ah (Ef (AX (Lw ok) (mx.getD ((A6 fi lT mx.length tD)-lT) AW) [109,101,115,115,97,103,101]) (replicate 12 (0:Int)) (((((([]:Ad)++Ah oi)++Ah (A6 fi lT mx.length tD))++Ah (lT+mx.length-1))++Ah ([]:Ad).length)++([]:Ad)) tT).length)++(Ef (AX (Lw ok) (mx.getD ((A6 fi lT mx.length tD)-lT) AW) [109,101,115,115,97,103,101]) (replicate 12 (0:Int)) (((((([]:Ad)++Ah oi)++Ah (A6 fi lT mx.length tD))++Ah (lT+mx.length-1))++Ah ([]:Ad).length)++([]:Ad)) tT))))
def oU (z_:Ad×Nat×Ad:=XG id fi ok oi ik ii lT mx lD tD kl tT rQ):Con:=⟨[.cp 0 0,lb tT,lb rQ],[(0,Ga id fi false 1 2 lT mx lD tD kl),(1,Ag ok oi),(2,Ag ik ii)],.tu (Jg [lb (z_.2.2),vi (oi:Int),vi 0]),[(0,Ga id fi false 1 2 lT mx lD tD kl),(1,Ag (z_.1) z_.2.1),(2,Ag ik ii)]⟩
theorem rE (hok:ok.length=32) (hik:ik.length=32) (hoi:oi<=100000000000) (hii:ii<=100000000000) (hm1:1<=mx.length/\mx.length<=100000) (hm2:∀j,(mx.getD j AW).length<=32) (hlow:lT<=100000000000) (hmn:lT<=A6 fi lT mx.length tD) (htx:tT.length<=500) (hr:rQ.length=128):AP 24 (oU id fi ok oi ik ii lT mx lD tD kl tT rQ):=by
 refine cy 3 func24 rfl ntmps24 λY V=> ?_
 have hr1:((rQ.length:Nat):Int)=128:=Ac
 have hx1:¬(500:Int)<((tT.length:Nat):Int):=Ac
 refine Aj [] 3 V λV=>Ar (BC (Ay [(1,Ig (B4) [0,1] [.im (Jg [.top,.top,.top,.im (Jg []) 0,.top,.top,.top,.top,.top,.top,.top]) 0]),(5,Ha hr1)] [] 3 V λV=>Ai V (Ay [(2,Do hx1)] [] 3 V λV=>Ai V (FN (Aj [] 3 V λV=>Ar (Aj [] 3 V λV=>Ai V (Cb (Ay [(4,AA (Cn ok oi) [(0,1)] [])] [] 3 V λV=>Ay [(1,Ig (H4 fi lT mx tD GG Ac) [0,1] [.im (Jg [.top,.v (.bool fi),.top,.im (Jg []) 0,.top,.top,vi (lT:Int),.ls false A8 mx,.top,vi (tD:Int),.top]) 0])] [] 3 V λV=>Aj [] 4 V λV=>Ar ?_))))))))
 have hmx:=Jv fi lT mx.length tD Ac
 have hw1:=Aq (n:=oi) Ac
 have hw2:=Aq (n:=A6 fi lT mx.length tD) Ac
 have hw3:=Aq (n:=lT+mx.length-1) Ac
 have hw4:=Aq (n:=([]:Ad).length) (by decide)
 have hw4b:=Aq (n:=0) (by decide)
 refine Aw [(2,JZ oi),(3,AA (MK oi Ac) [(0,3)] [(1,4)]),(5,JZ (A6 fi lT mx.length tD)),(6,AA (BP (([]:Ad)++Ah oi) (A6 fi lT mx.length tD) Ax Ac) [(0,3),(1,4)] [(2,5)]),(8,Ig (Ds lT mx GG Ac) [0,1] [.im (Jg [.top,.top,.top,.im (Jg []) 0,.top,.top,vi (lT:Int),.ls false A8 mx,.top,.top,.top]) 0]),(9,JZ (lT+mx.length-1)),(10,AA (BP ((([]:Ad)++Ah oi)++Ah (A6 fi lT mx.length tD)) (lT+mx.length-1) Ax Ac) [(0,3),(1,5)] [(2,6)]),(12,AA (Dq (((([]:Ad)++Ah oi)++Ah (A6 fi lT mx.length tD))++Ah (lT+mx.length-1)) ([]:Ad) Ax Ax) [(0,3),(1,6)] [(2,7)]),(13,AA (Gd (((((([]:Ad)++Ah oi)++Ah (A6 fi lT mx.length tD))++Ah (lT+mx.length-1))++Ah ([]:Ad).length)++([]:Ad)) Ax) [(0,3),(1,7)] [])] [] 8 V λV=>CQ ?_
 have hmx:=Jv fi lT mx.length tD Ac
 have hw1:=Aq (n:=oi) Ac
 have hw2:=Aq (n:=A6 fi lT mx.length tD) Ac
 have hw3:=Aq (n:=lT+mx.length-1) Ac
 have hw4:=Aq (n:=([]:Ad).length) (by decide)
 have hw4b:=Aq (n:=0) (by decide)
 have hhd:(((((([]:Ad)++Ah oi)++Ah (A6 fi lT mx.length tD))++Ah (lT+mx.length-1))++Ah ([]:Ad).length)++([]:Ad)).length<=50:=by simp only[ab,au];omega
 refine Aw [(5,AA (Jf ok oi Ax Ac) [(0,1)] []),(7,AA (rC id fi (Sb ok) (oi+1) ik ii lT mx lD tD kl (Lw ok) (A6 fi lT mx.length tD) GG (by first |assumption|(intro j;simp<;>omega)) Ac Ax Ac) [(0,0),(1,1),(2,2)] []),(8,R8 .mf [(12:Int)=12,(0:Int)<=12,1*12<=281474976710656,(12:Int)<=9223372036854775807] ⟨rfl,by omega,by omega,by omega,aa⟩),(11,AS (Zm (AX (Lw ok) (mx.getD ((A6 fi lT mx.length tD)-lT) AW) [109,101,115,115,97,103,101]) (replicate 12 (0:Int)) (((((([]:Ad)++Ah oi)++Ah (A6 fi lT mx.length tD))++Ah (lT+mx.length-1))++Ah ([]:Ad).length)++([]:Ad)) tT Ax Ax Ax Ax))] [] 8 V λV=>CQ ?_
 have hmx:=Jv fi lT mx.length tD Ac
 have hw1:=Aq (n:=oi) Ac
 have hw2:=Aq (n:=A6 fi lT mx.length tD) Ac
 have hw3:=Aq (n:=lT+mx.length-1) Ac
 have hw4:=Aq (n:=([]:Ad).length) (by decide)
 have hw4b:=Aq (n:=0) (by decide)
 have hhd:(((((([]:Ad)++Ah oi)++Ah (A6 fi lT mx.length tD))++Ah (lT+mx.length-1))++Ah ([]:Ad).length)++([]:Ad)).length<=50:=by simp only[ab,au];omega
 have hw5:=Aq (n:=(((((([]:Ad)++Ah oi)++Ah (A6 fi lT mx.length tD))++Ah (lT+mx.length-1))++Ah ([]:Ad).length)++([]:Ad)).length) Ac
 have hw5s:=hw5
 simp only[ab,au]at hw5s
 have hsl:(Ef (AX (Lw ok) (mx.getD ((A6 fi lT mx.length tD)-lT) AW) [109,101,115,115,97,103,101]) (replicate 12 (0:Int)) (((((([]:Ad)++Ah oi)++Ah (A6 fi lT mx.length tD))++Ah (lT+mx.length-1))++Ah ([]:Ad).length)++([]:Ad)) tT).length=tT.length+32:=Ka ..
 have hw6:=Aq (n:=(Ef (AX (Lw ok) (mx.getD ((A6 fi lT mx.length tD)-lT) AW) [109,101,115,115,97,103,101]) (replicate 12 (0:Int)) (((((([]:Ad)++Ah oi)++Ah (A6 fi lT mx.length tD))++Ah (lT+mx.length-1))++Ah ([]:Ad).length)++([]:Ad)) tT).length) Ac
 have hw5t:=hw5
 simp at hw5t
 have hw6t:=hw6
 simp at hw6t
 exact Aw [(2,AA (Jj (((((([]:Ad)++Ah oi)++Ah (A6 fi lT mx.length tD))++Ah (lT+mx.length-1))++Ah ([]:Ad).length)++([]:Ad)) Ax) [(0,8)] [(1,9)]),(4,AA (Dq ((([]:Ad)++Ah (((((([]:Ad)++Ah oi)++Ah (A6 fi lT mx.length tD))++Ah (lT+mx.length-1))++Ah ([]:Ad).length)++([]:Ad)).length)++(((((([]:Ad)++Ah oi)++Ah (A6 fi lT mx.length tD))++Ah (lT+mx.length-1))++Ah ([]:Ad).length)++([]:Ad))) (Ef (AX (Lw ok) (mx.getD ((A6 fi lT mx.length tD)-lT) AW) [109,101,115,115,97,103,101]) (replicate 12 (0:Int)) (((((([]:Ad)++Ah oi)++Ah (A6 fi lT mx.length tD))++Ah (lT+mx.length-1))++Ah ([]:Ad).length)++([]:Ad)) tT) Ax Ax) [(0,8),(1,9)] [(2,10)]),(5,AA (Gd ((((([]:Ad)++Ah (((((([]:Ad)++Ah oi)++Ah (A6 fi lT mx.length tD))++Ah (lT+mx.length-1))++Ah ([]:Ad).length)++([]:Ad)).length)++(((((([]:Ad)++Ah oi)++Ah (A6 fi lT mx.length tD))++Ah (lT+mx.length-1))++Ah ([]:Ad).length)++([]:Ad)))++Ah (Ef (AX (Lw ok) (mx.getD ((A6 fi lT mx.length tD)-lT) AW) [109,101,115,115,97,103,101]) (replicate 12 (0:Int)) (((((([]:Ad)++Ah oi)++Ah (A6 fi lT mx.length tD))++Ah (lT+mx.length-1))++Ah ([]:Ad).length)++([]:Ad)) tT).length)++(Ef (AX (Lw ok) (mx.getD ((A6 fi lT mx.length tD)-lT) AW) [109,101,115,115,97,103,101]) (replicate 12 (0:Int)) (((((([]:Ad)++Ah oi)++Ah (A6 fi lT mx.length tD))++Ah (lT+mx.length-1))++Ah ([]:Ad).length)++([]:Ad)) tT)) Ax) [(0,8),(1,10)] [])] [7] 11 V λV=>EY (BV (Ab _) V)
end
theorem VA (s:ByteArray):(GU s).length=s.size:=by unfold GU;rw[cg,co];rfl
def CX (rX:Ad) (nm:ByteArray):Ad:=AV (AX ([]:Ad) rX (GU nm))
@[simp] theorem Kk (rX:Ad) (nm:ByteArray):(CX rX nm).length=32:=by unfold CX;rw[Ab];exact Fq ..
section
variable (rX:Ad)
def AaS (nm:ByteArray) (z_:Ad:=CX rX nm):Con:=⟨[lb rX,.v (.string nm)],[],lb z_,[]⟩
theorem FK (nm:ByteArray) (hr:rX.length=32) (hn:nm.size<=1000):AP 42 (AaS rX nm):=by
 refine cy 0 func42 rfl ntmps42 λY V=>Aj [] 0 V λV=>Ar ?_
 have hsn:=VA nm
 exact Aw [(2,Pe (nm.size<=140737488355328)),(3,AS (F9 ([]:Ad) rX (GU nm) Ax Ax Ax))] [] 0 V λV=>EY (BV (Ab _) V)
def GA (fi:Bool):Ad×Ad×Ad×AZ:=AV (if(!fi)=true then(CX rX (ByteArray.mk #[112,97,105,114]),CX rX (ByteArray.mk #[111,116,104,101,114]),CX rX (ByteArray.mk #[102,105,114,115,116]),[CX rX (ByteArray.mk #[109,105,120])])else(CX rX (ByteArray.mk #[112,97,105,114]),CX rX (ByteArray.mk #[102,105,114,115,116]),CX rX (ByteArray.mk #[111,116,104,101,114]),[CX rX (ByteArray.mk #[109,105,120])]))
def AaH (fi:Bool) (z_:Ad×Ad×Ad×AZ:=GA rX fi):Con:=⟨[lb rX,.v (.bool fi),.v (.bool false)],[],.tu (Jg [.cp 0 0,vi 0]),[(0,.ob 80 (Jg [lb (z_.1),.v (.bool fi),.v (.bool false),.cp 1 0,.cp 2 0,.v (.pointer none),vi 0,.ls true A8 (z_.2.2.2),vi 0,vi 0,.v (.slice none 0 0)])),(1,En (z_.2.1)),(2,En (z_.2.2.1))]⟩
theorem Zh (fi:Bool) (hr:rX.length=32):AP 23 (AaH rX fi):=by
 refine cy 0 func23 rfl ntmps23 λY V=> ?_
 have hr1:((rX.length:Nat):Int)=32:=Ac
 refine Aj [] 0 V λV=>Ar (Ay [(2,Ha hr1)] [] 0 V λV=>Ai V (Cb (Ay [(1,AS (FK rX (ByteArray.mk #[112,97,105,114]) Ax (by decide))),(5,AS (FK rX (ByteArray.mk #[109,105,120]) Ax (by decide)))] [] 1 V λV=>Ay [(2,AS (FK rX (ByteArray.mk #[102,105,114,115,116]) Ax (by decide))),(3,AA (Lp (CX rX (ByteArray.mk #[102,105,114,115,116])) Ax) [] [(0,1)])] [] 2 V λV=>Ay [(2,AS (FK rX (ByteArray.mk #[111,116,104,101,114]) Ax (by decide))),(3,AA (Lp (CX rX (ByteArray.mk #[111,116,104,101,114])) Ax) [] [(0,2)])] [] 3 V λV=>Ar (Aj [] 3 V λV=>Sd (!fi) V (λh1=> ?_) (λh1=> ?_)))))
 ·refine Dl [] 3 V λV=>CQ (Aj [] 3 V λV=>Ai V (Cb (Aj [] 3 V λV=>AY ?_)))
  obtain⟨gs,V⟩:=V.rx [(0,0),(1,2),(2,1)] [6,7] [0,1,2] 3 Y
  exact BV (.trans (Ab _) (ah h1)) V
 ·exact DG (Aj [] 3 V λV=>Ai V (Cb (Aj [] 3 V λV=>AY (BV (.trans (Ab _) (aj (LQ h1))) V))))
end
section
variable (id:Ad) (fi:Bool) (ok:Ad) (oi:Nat) (ik:Ad) (ii lT:Nat) (mx:AZ) (lD tD:Nat) (kl:List KR)
theorem Qt:AP 32 (Cq [.cp 0 0] [(0,Ga id fi false 1 2 lT mx lD tD kl),(1,Ag ok oi),(2,Ag ik ii)] (vi (oi:Int))):=by
 exact cy 3 func32 rfl ntmps32 λY V=>Aj [] 3 V λV=>Ar (Ay [(1,Ig (B4) [0,1] [.im (Jg [.top,.top,.top,.im (Jg []) 0,.top,.top,.top,.top,.top,.top,.top]) 0])] [] 3 V λV=>Ai V (Cb (Ay [(4,AA (Cn ok oi) [(0,1)] [])] [] 3 V λV=>AY (BW V))))
theorem Qy:AP 20 (Cq [.cp 0 0] [(0,Ga id fi false 1 2 lT mx lD tD kl),(1,Ag ok oi),(2,Ag ik ii)] (vi (ii:Int))):=by
 exact cy 3 func20 rfl ntmps20 λY V=>Aj [] 3 V λV=>Ar (Ay [(1,Ig (B4) [0,1] [.im (Jg [.top,.top,.top,.im (Jg []) 0,.top,.top,.top,.top,.top,.top,.top]) 0])] [] 3 V λV=>Ai V (Cb (Ay [(4,AA (Cn ik ii) [(0,2)] [])] [] 3 V λV=>AY (BW V))))
end
def O5 (l:List KR):Ad:=l.map (·.1)
def QB (kl:List KR) (x12:Nat):Ad->Ad:=λx2=>x2++[(kl.getD x12 Bi).1]
def J9 (kl:List KR):Nat->Ad
 |0=>[]
 |x12+1=>QB kl x12 (J9 kl x12)
section
variable (id:Ad) (fi:Bool) (ok:Ad) (oi:Nat) (ik:Ad) (ii lT:Nat) (mx:AZ) (lD tD:Nat) (kl:List KR)
def MZ (id:Ad) (fi:Bool) (ok:Ad) (oi:Nat) (ik:Ad) (ii lT:Nat) (mx:AZ) (lD tD:Nat) (kl:List KR):Ad:=AV (J9 kl kl.length)
def uZ (z_:Ad:=MZ id fi ok oi ik ii lT mx lD tD kl):Con:=⟨[.cp 0 0],[(0,Ga id fi false 1 2 lT mx lD tD kl),(1,Ag ok oi),(2,Ag ik ii)],.sk 3,[(0,Ga id fi false 1 2 lT mx lD tD kl),(1,Ag ok oi),(2,Ag ik ii),(3,.sl 3 El z_)]⟩
theorem iA (hK:KOk kl):AP 21 (uZ id fi ok oi ik ii lT mx lD tD kl):=by
 refine cy 3 func21 rfl ntmps21 λY V=>Aj [] 3 V λV=>Ar (Ay [(1,Ig (B4) [0,1] [.im (Jg [.top,.top,.top,.im (Jg []) 0,.top,.top,.top,.top,.top,.top,.top]) 0])] [] 3 V λV=>Ai V (DG (Aj [10] 3 V λV=>BC ?_)))
 obtain⟨gs,V⟩:=V.nilk 2 3 El
 refine AC (ι:=Nat×Ad) Y V (λ(x12,x2)=>(kl.length-x12,[(12,vi ((x12:Nat):Int))],[(3,.sl 3 El x2)],(x12<=kl.length)/\(x2=J9 kl x12)/\(x2.length=x12/\kl.length<=1000)/\True)) [2,10,11] [0,1,2] 4 (0,[]) [(0,0),(1,1),(2,2),(3,3)] ⟨Ac,rfl,⟨rfl,hK.1⟩,aa⟩ ?_
 rintro⟨x12,x2⟩ ac gs ws ⟨hx12,hq1,p1,_⟩ V
 refine Aj [] 4 V λV=>Ar (AJ ((x12:Int)<((kl.length:Nat):Int)) V (λh1=> ?_) (λh1=> ?_))
 ·exact B3 (Ay [(0,AH x12 kl.length)] [4] 5 V λV=>Aw [(4,Gt x2.length 1 8)] [2] 6 V λV=>Ck (Aw [(0,Cu x12)] [12] 6 V λV=>Ae (As Y V (x12+1,x2++[(kl.getD x12 Bi).1]) [(0,0),(1,1),(2,2),(3,5)] ⟨Ac,(Bm (st:=QB _) hq1 rfl rfl),(by rw[ab,aw,au];omega),aa⟩)))
 ·have hT:=V
  obtain rfl:kl.length=x12:=by omega
  obtain rfl:=hq1.symm
  have V:=hT
  exact Dw (Aj [2] 4 V λV=>AY (BV (Ab _) V))
end
section
variable (id:Ad)
def U4 (lT:Nat) (mx:AZ) (idb:Ad) (lowb:Nat) (mxb:AZ):Bool:=AV (if id=idb then(if((min (lT+mx.length-1) (lowb+mxb.length-1):Nat):Int)<(lT:Int)then true else(if((min (lT+mx.length-1) (lowb+mxb.length-1):Nat):Int)<(lowb:Int)then true else decide ((mx.getD ((min (lT+mx.length-1) (lowb+mxb.length-1))-lT) AW)=(mxb.getD ((min (lT+mx.length-1) (lowb+mxb.length-1))-lowb) AW))))else false)
def bE (ok:Ad) (oi:Nat) (ik:Ad) (ii lT:Nat) (mx:AZ) (lD tD:Nat) (kl:List KR) (idb okb:Ad) (oib:Nat) (ikb:Ad) (iib lowb:Nat) (mxb:AZ) (lastb toldb:Nat) (klb:List KR) (z_:Bool:=U4 id lT mx idb lowb mxb):Con:=Cq [.cp 0 0,.cp 3 0] [(0,Ga id true false 1 2 lT mx lD tD kl),(1,Ag ok oi),(2,Ag ik ii),(3,Ga idb false false 4 5 lowb mxb lastb toldb klb),(4,Ag okb oib),(5,Ag ikb iib)] (.v (.bool z_))
theorem pZ (ok:Ad) (oi:Nat) (ik:Ad) (ii lT:Nat) (mx:AZ) (lD tD:Nat) (kl:List KR) (idb okb:Ad) (oib:Nat) (ikb:Ad) (iib lowb:Nat) (mxb:AZ) (lastb toldb:Nat) (klb:List KR) (hm1:1<=mx.length/\mx.length<=100000) (hlow:lT<=100000000000) (hm1b:1<=mxb.length/\mxb.length<=100000) (hlowb:lowb<=100000000000):AP 17 (bE id ok oi ik ii lT mx lD tD kl idb okb oib ikb iib lowb mxb lastb toldb klb):=by
 refine cy 6 func17 rfl ntmps17 λY V=>Aj [] 6 V λV=>Ar (Ay [(1,Ig (B4) [0,1] [.im (Jg [.top,.top,.top,.im (Jg []) 0,.top,.top,.top,.top,.top,.top,.top]) 0]),(4,Ig (B4) [3,4] [.im (Jg [.top,.top,.top,.im (Jg []) 0,.top,.top,.top,.top,.top,.top,.top]) 0]),(37,AS (Ew id idb))] [] 6 V λV=>IH (id=idb) V (λh1=> ?_) (λh1=> ?_))
 ·exact Aj [] 6 V λV=>AY (Ao (BV (.trans (Ab _) (aj h1)) V))
 ·refine Cb (Ay [(1,Ig (Ds lT mx GG Ac) [0,1] [.im (Jg [.top,.top,.top,.im (Jg []) 0,.top,.top,vi (lT:Int),.ls false A8 mx,.top,.top,.top]) 0]),(3,Ig (Ds lowb mxb GG Ac) [3,4] [.im (Jg [.top,.top,.top,.im (Jg []) 0,.top,.top,vi (lowb:Int),.ls false A8 mxb,.top,.top,.top]) 0]),(4,Q2 (lT+mx.length-1) (lowb+mxb.length-1))] [] 6 V λV=>Ar ?_)
  by_cases h2:((min (lT+mx.length-1) (lowb+mxb.length-1):Nat):Int)<(lT:Int)
  ·exact Aw [(5,Gv h2)] [] 6 V λV=>EY (BV (.trans (Ab _) ((ah h1).trans (ah h2))) V)
  ·by_cases h3:((min (lT+mx.length-1) (lowb+mxb.length-1):Nat):Int)<(lowb:Int)
   ·exact Aw [(5,Do h2),(12,Gv h3)] [] 6 V λV=>EY (BV (.trans (Ab _) ((ah h1).trans ((aj h2).trans (ah h3)))) V)
   ·exact Aw [(5,Do h2),(12,Do h3),(24,IM (min (lT+mx.length-1) (lowb+mxb.length-1)) lT ((min (lT+mx.length-1) (lowb+mxb.length-1))-lT)),(25,AH ((min (lT+mx.length-1) (lowb+mxb.length-1))-lT) mx.length),(36,IM (min (lT+mx.length-1) (lowb+mxb.length-1)) lowb ((min (lT+mx.length-1) (lowb+mxb.length-1))-lowb)),(37,AH ((min (lT+mx.length-1) (lowb+mxb.length-1))-lowb) mxb.length),(39,AS (Ew (mx.getD ((min (lT+mx.length-1) (lowb+mxb.length-1))-lT) AW) (mxb.getD ((min (lT+mx.length-1) (lowb+mxb.length-1))-lowb) AW)))] [] 6 V λV=>EY (BV (.trans (Ab _) ((ah h1).trans ((aj h2).trans (aj h3)))) V)
end
theorem lW {α:Type} {l:List α} {j:Nat} {z:α} (h:j<l.length):l.getD j z∈l:=by
 rw[al,am h];exact fv h
theorem UA {α:Type} {p:α->Prop} {a:α} {l:List α} (h1:p a) (h2:∀x∈l,p x):∀x∈a::l,p x:=List.forall_mem_cons.2 ⟨h1,h2⟩
theorem X9:∀x∈([]:AZ),x.length<=3000:=λ_ h=>nomatch h
theorem Uz {l:AZ} (h:∀x∈l,x.length<=3000) (j:Nat):(l.getD j AW).length<=3000:=by
 show(List.getD (α:=Ad) l j []).length<=3000
 by_cases hj:j<l.length
 ·exact h _ (lW hj)
 ·rw[al,bg Ac];decide
section
variable (x:Int) (n:Nat)
def Db:Int:=AV ((Em .u32 (Bh .u32 x (n:Int)) (BX .u32 x (32-(n:Int)))))
def AaL (z_:Int:=Db x n):Con:=⟨[.v (.int .u32 x),vi (n:Int)],[],.v (.int .u32 z_),[]⟩
theorem GX (hn:n<=32):AP 138 (AaL x n):=by
 exact cy 0 func138 rfl ntmps138 λY V=>Aj [] 0 V λV=>Ay [(2,F_ n),(5,Xl 32 (n:Int)),(6,Pe ((0:Int)<=(32-(n:Int))))] [] 0 V λV=>AY (BV (Ab _) V)
end
section
variable (v:Int) (n:Nat)
def S4 (x6:Nat):Ad->Ad:=λx5=>x5.set (Int.toNat (((n:Int)-1)-(x6:Int))) (IntKind.wrap .u8 (Bh .u64 v ((8*x6:Nat):Int)))
def PF (v:Int) (n:Nat):Nat->Ad
 |0=>replicate n (0:Int)
 |x6+1=>S4 v n x6 (PF v n x6)
def Eh:Ad:=AV (PF v n n)
def AaR (z_:Ad:=Eh v n):Con:=⟨[.v (.int .u64 v),vi (n:Int)],[],.sk 0,[(0,.sl 5 Bg z_)]⟩
theorem TX (hn:n<=1000):AP 34 (AaR v n):=by
 refine cy 0 func34 rfl ntmps34 λY V=>Aj [] 0 V λV=>Ay [(1,fD n 1)] [] 1 V λV=>Ar (Aj [] 1 V λV=>BC (AC (ι:=Nat×Ad) Y V (λ(x6,x5)=>(n-x6,[(6,vi ((x6:Nat):Int))],[(0,.sl 5 Bg x5)],(x6<=n)/\(x5=PF v n x6)/\(x5.length=n)/\True)) [0,1,4,5] [] 1 (0,replicate n (0:Int)) [(0,0)] ⟨Ac,rfl,(by simp),aa⟩ ?_))
 rintro⟨x6,x5⟩ ac gs ws ⟨hx6,hq1,p1,_⟩ V
 refine Ar (Aj [] 1 V λV=>AJ ((x6:Int)<(n:Int)) V (λh1=> ?_) (λh1=> ?_))
 ·exact B3 (Aw [(2,Xl (n:Int) 1),(4,Xl ((n:Int)-1) (x6:Int)),(7,IC 8 x6 (8*x6)),(8,F_ (8*x6)),(10,Ty (((n:Int)-1)-(x6:Int)) x5.length)] [] 1 V λV=>Ck (Aw [(1,Cu x6)] [6] 1 V λV=>Ae (As Y V (x6+1,x5.set (Int.toNat (((n:Int)-1)-(x6:Int))) (IntKind.wrap .u8 (Bh .u64 v ((8*x6:Nat):Int)))) [(0,0)] ⟨Ac,(Bm (st:=S4 _ _) hq1 rfl rfl),(by rw[da];exact p1),aa⟩)))
 ·have hT:=V
  obtain rfl:n=x6:=by omega
  obtain rfl:=hq1.symm
  have V:=hT
  exact Dw (Aj [] 1 V λV=>AY (BV (Ab _) V))
end
section
variable (xs:Ad)
def Jq (x6:Nat):Int->Int:=λx5=>if(x6:Int)<((xs.length:Nat):Int)then(Em .u64 (BX .u64 x5 8) (IntKind.wrap .u64 (xs.getD x6 0)))else(BX .u64 x5 8)
def L8 (xs:Ad):Nat->Int
 |0=>0
 |x6+1=>Jq xs x6 (L8 xs x6)
def Om (n:Nat):Int:=AV (L8 xs n)
def eJ (n:Nat) (z_:Int:=Om xs n):Con:=⟨[lb xs,vi (n:Int)],[],.v (.int .u64 z_),[]⟩
theorem XL (n:Nat) (hn:n<=1000):AP 137 (eJ xs n):=by
 refine cy 0 func137 rfl ntmps137 λY V=>Aj [] 0 V λV=>Aj [] 0 V λV=>Ar (Aj [] 0 V λV=>BC (AC (ι:=Nat×Int) Y V (λ(x6,x5)=>(n-x6,[(5,.v (.int .u64 x5)),(6,vi ((x6:Nat):Int))],[],(x6<=n)/\(x5=L8 xs x6)/\True)) [0,1,4] [] 0 (0,0) [] ⟨Ac,rfl,aa⟩ ?_))
 rintro⟨x6,x5⟩ ac gs ws ⟨hx6,hq1,_⟩ V
 refine Ar (Aj [] 0 V λV=>AJ ((x6:Int)<(n:Int)) V (λh1=> ?_) (λh1=> ?_))
 ·refine B3 (Ay [(1,F_ 8)] [5] 0 V λV=>Aj [] 0 V λV=>AJ ((x6:Int)<((xs.length:Nat):Int)) V (λh2=> ?_) (λh2=> ?_))
  ·exact Aw [(3,AH x6 xs.length)] [5] 0 V λV=>Ck (Aw [(1,Cu x6)] [6] 0 V λV=>Ae (As Y V (x6+1,(Em .u64 (BX .u64 x5 8) (IntKind.wrap .u64 (xs.getD x6 0)))) [] ⟨Ac,(Bm (st:=Jq _) hq1 rfl (Eq.symm (ah h2))),aa⟩))
  ·exact FN (Aw [(1,Cu x6)] [6] 0 V λV=>Ae (As Y V (x6+1,(BX .u64 x5 8)) [] ⟨Ac,(Bm (st:=Jq _) hq1 rfl (Eq.symm (aj h2))),aa⟩))
 ·have hT:=V
  obtain rfl:n=x6:=by omega
  obtain rfl:=hq1.symm
  have V:=hT
  exact Dw (Aj [] 0 V λV=>AY (BV (Ab _) V))
def Hr (n:Nat):Ad:=AV (xs.take (replicate n (0:Int)).length++(replicate n (0:Int)).drop xs.length)
def u4 (n:Nat) (z_:Ad:=Hr xs n):Con:=⟨[lb xs,vi (n:Int)],[],.sk 0,[(0,.sl 5 Bg z_)]⟩
theorem iR (n:Nat) (hn:n<=1000):AP 100 (u4 xs n):=by
 exact cy 0 func100 rfl ntmps100 λY V=>Aj [] 0 V λV=>Ay [(1,fD n 1)] [] 1 V λV=>Aj [] 1 V λV=>Aj [] 1 V λV=>AY (BV (Ab _) V)
end
section
variable (l:AZ)
def S2 (x4:Nat):Ad->Ad:=λx3=>x3++(l.getD x4 AW)
def Nb (l:AZ):Nat->Ad
 |0=>[]
 |x4+1=>S2 l x4 (Nb l x4)
def EX:Ad:=AV (Nb l l.length)
def AaQ (z_:Ad:=EX l):Con:=⟨[.ls false A8 l],[],.sk 0,[(0,.sl 5 Bg z_)]⟩
theorem rV (hn:l.length<=1000) (hm:∀j,(l.getD j AW).length<=3000):AP 98 (AaQ l):=by
 refine cy 0 func98 rfl ntmps98 λY V=>Aj [] 0 V λV=>Aj [] 0 V λV=>Ar (Aj [] 0 V λV=>BC ?_)
 obtain⟨gs,V⟩:=V.nilk 3 5 Bg
 refine AC (ι:=Nat×Ad) Y V (λ(x4,x3)=>(l.length-x4,[(4,vi ((x4:Nat):Int))],[(0,.sl 5 Bg x3)],(x4<=l.length)/\(x3=Nb l x4)/\(x3.length<=3000*x4)/\True)) [0,2,3] [] 1 (0,[]) [(0,0)] ⟨Ac,rfl,(by simp),aa⟩ ?_
 rintro⟨x4,x3⟩ ac gs ws ⟨hx4,hq1,p1,_⟩ V
 refine Ar (Aj [] 1 V λV=>AJ ((x4:Int)<((l.length:Nat):Int)) V (λh1=> ?_) (λh1=> ?_))
 ·refine B3 ?_
  have hmx:=hm x4
  exact Aw [(3,AH x4 l.length),(5,Gt x3.length ((l.getD x4 AW).length) 1 Ac)] [3] 2 V λV=>Ck (Aw [(1,Cu x4)] [4] 2 V λV=>Ae (As Y V (x4+1,x3++(l.getD x4 AW)) [(0,1)] ⟨Ac,(Bm (st:=S2 _) hq1 rfl rfl),(by rw[ab];have :=hm x4;omega),aa⟩))
 ·have hT:=V
  obtain rfl:l.length=x4:=by omega
  obtain rfl:=hq1.symm
  have V:=hT
  exact Dw (Aj [] 1 V λV=>AY (BV (Ab _) V))
theorem cK:EX l=l.flatten:=by
 have key:∀i,i<=l.length->Nb l i=(l.take i).flatten:=by
  intro i
  induction i with
  |zero=>intro _;rfl
  |succ i ih=>
   intro hi
   show Nb l i++List.getD (α:=Ad) l i []=_
   rw[ih Ac,cw Ac,de,al,am Ac]
   simp
 unfold EX;rw[Ab]
 exact(key _ (an _)).trans (by rw[eh])
end
@[simp] theorem AbJ (l:AZ):(EX l).length=l.flatten.length:=by rw[cK]
def IY:(Nat->Int):=AV (upd (upd (upd (upd (upd (upd (upd (upd (upd (upd (upd (upd (upd (upd (upd (upd (upd (upd (upd (upd (upd (upd (upd (upd (upd (upd (upd (upd (upd (upd (upd (upd (upd (upd (upd (upd (upd (upd (upd (upd (upd (upd (upd (upd (upd (upd (upd (upd (upd (upd (upd (upd (upd (upd (upd (upd (upd (upd (upd (upd (upd (upd (upd (upd (upd (upd (upd (upd (upd (upd (upd (upd (upd (upd (upd (upd (upd (upd (upd (upd (λ_=>0) 0 4794697086780616226) 1 8158064640168781261) 2 13096744586834688815) 3 16840607885511220156) 4 4131703408338449720) 5 6480981068601479193) 6 10538285296894168987) 7 12329834152419229976) 8 15566598209576043074) 9 1334009975649890238) 10 2608012711638119052) 11 6128411473006802146) 12 8268148722764581231) 13 9286055187155687089) 14 11230858885718282805) 15 13951009754708518548) 16 16472876342353939154) 17 17275323862435702243) 18 1135362057144423861) 19 2597628984639134821) 20 3308224258029322869) 21 5365058923640841347) 22 6679025012923562964) 23 8573033837759648693) 24 10970295158949994411) 25 12119686244451234320) 26 12683024718118986047) 27 13788192230050041572) 28 14330467153632333762) 29 15395433587784984357) 30 489312712824947311) 31 1452737877330783856) 32 2861767655752347644) 33 3322285676063803686) 34 5560940570517711597) 35 5996557281743188959) 36 7280758554555802590) 37 8532644243296465576) 38 9350256976987008742) 39 10552545826968843579) 40 11727347734174303076) 41 12113106623233404929) 42 14000437183269869457) 43 14369950271660146224) 44 15101387698204529176) 45 15463397548674623760) 46 17586052441742319658) 47 1182934255886127544) 48 1847814050463011016) 49 2177327727835720531) 50 2830643537854262169) 51 3796741975233480872) 52 4115178125766777443) 53 5681478168544905931) 54 6601373596472566643) 55 7507060721942968483) 56 8399075790359081724) 57 8693463985226723168) 58 9568029438360202098) 59 10144078919501101548) 60 10430055236837252648) 61 11840083180663258601) 62 13761210420658862357) 63 14299343276471374635) 64 14566680578165727644) 65 15097957966210449927) 66 16922976911328602910) 67 17689382322260857208) 68 500013540394364858) 69 748580250866718886) 70 1242879168328830382) 71 1977374033974150939) 72 2944078676154940804) 73 3659926193048069267) 74 4368137639120453308) 75 4836135668995329356) 76 5532061633213252278) 77 6448918945643986474) 78 6902733635092675308) 79 7801388544844847127)
def eI (z_:(Nat->Int):=IY):Con:=⟨[],[],.ar .u64 80 z_,[]⟩
theorem XH:AP 135 (eI):=by
 exact cy 0 func135 rfl ntmps135 λY V=>Aj [] 1 V λV=>Aj [] 1 V λV=>AY (BV (Ab _) V)
def QF:(Nat->Int):=AV (upd (upd (upd (upd (upd (upd (upd (upd (λ_=>0) 0 7640891576956012808) 1 13503953896175478587) 2 4354685564936845355) 3 11912009170470909681) 4 5840696475078001361) 5 11170449401992604703) 6 2270897969802886507) 7 6620516959819538809)
def oV (z_:(Nat->Int):=QF):Con:=⟨[],[],.ar .u64 8 z_,[]⟩
theorem cD:AP 136 (oV):=by
 exact cy 0 func136 rfl ntmps136 λY V=>Aj [] 1 V λV=>Aj [] 1 V λV=>AY (BV (Ab _) V)
@[simp] theorem QS (v:Int) (n:Nat):(Eh v n).length=n:=by
 have key:∀i,(PF v n i).length=n:=by
  intro i
  induction i with
  |zero=>exact az
  |succ i ih=>exact(da ..).trans ih
 unfold Eh;rw[Ab]
 exact key n
def SR (x6:Nat):(Nat->Int)->(Nat->Int):=λo5_0=>upd o5_0 x6 (IntKind.wrap .u32 (Bh .u64 (QF x6) 32))
def PE:Nat->(Nat->Int)
 |0=>λ_=>0
 |x6+1=>SR x6 (PE x6)
def SQ (k2:Nat):Ad->Ad:=λx7=>x7++([0]:Ad)
def CW (xs:Ad):Nat->Ad
 |0=>([]++xs)++([128]:Ad)
 |k2+1=>SQ k2 (CW xs k2)
def Ep:Ad->Prop:=λx7=>¬(((x7.length%64:Nat):Int)=56)
def SO (xs:Ad) (x8 x10:Nat):(Nat->Int)->(Nat->Int):=λo9_0=>upd o9_0 x10 (IntKind.wrap .u32 (Om ((((CW xs (D3 λj=>Ep (CW xs j)))++(Eh (BN .u64 ((xs.length:Nat):Int) 8) 8)).take ((x8+(4*x10))+4)).drop (x8+(4*x10))) 4))
def PD (xs:Ad) (x8:Nat):Nat->(Nat->Int)
 |0=>λ_=>0
 |x10+1=>SO xs x8 x10 (PD xs x8 x10)
def SN (k5:Nat):(Nat×(Nat->Int))->(Nat×(Nat->Int)):=λ(x11,o9_0)=>(x11+1,upd o9_0 x11 (A9 .u32 (A9 .u32 (A9 .u32 (o9_0 (x11-16)) (A0 .u32 (A0 .u32 (Db (o9_0 (x11-15)) 7) (Db (o9_0 (x11-15)) 18)) (Bh .u32 (o9_0 (x11-15)) 3))) (o9_0 (x11-7))) (A0 .u32 (A0 .u32 (Db (o9_0 (x11-2)) 17) (Db (o9_0 (x11-2)) 19)) (Bh .u32 (o9_0 (x11-2)) 10))))
def Gg (xs:Ad) (x8:Nat):Nat->Nat×(Nat->Int)
 |0=>(16,PD xs x8 16)
 |k5+1=>SN k5 (Gg xs x8 k5)
def IW:(Nat×(Nat->Int))->Prop:=λ(x11,o9_0)=>((x11:Nat):Int)<64
section
variable (xs:Ad)
def SL (x8 x15:Nat):(Nat->Int)->(Nat->Int):=λo14_0=>upd (upd (upd (upd (upd (upd (upd (upd (λ_=>0) 0 (A9 .u32 (A9 .u32 (A9 .u32 (A9 .u32 (A9 .u32 (o14_0 7) (A0 .u32 (A0 .u32 (Db (o14_0 4) 6) (Db (o14_0 4) 11)) (Db (o14_0 4) 25))) (A0 .u32 (Bz .u32 (o14_0 4) (o14_0 5)) (Bz .u32 (Mc .u32 (o14_0 4)) (o14_0 6)))) (IntKind.wrap .u32 (Bh .u64 (IY x15) 32))) (((Gg xs x8 (D3 λj=>IW (Gg xs x8 j))).2) x15)) (A9 .u32 (A0 .u32 (A0 .u32 (Db (o14_0 0) 2) (Db (o14_0 0) 13)) (Db (o14_0 0) 22)) (A0 .u32 (A0 .u32 (Bz .u32 (o14_0 0) (o14_0 1)) (Bz .u32 (o14_0 0) (o14_0 2))) (Bz .u32 (o14_0 1) (o14_0 2)))))) 1 (o14_0 0)) 2 (o14_0 1)) 3 (o14_0 2)) 4 (A9 .u32 (o14_0 3) (A9 .u32 (A9 .u32 (A9 .u32 (A9 .u32 (o14_0 7) (A0 .u32 (A0 .u32 (Db (o14_0 4) 6) (Db (o14_0 4) 11)) (Db (o14_0 4) 25))) (A0 .u32 (Bz .u32 (o14_0 4) (o14_0 5)) (Bz .u32 (Mc .u32 (o14_0 4)) (o14_0 6)))) (IntKind.wrap .u32 (Bh .u64 (IY x15) 32))) (((Gg xs x8 (D3 λj=>IW (Gg xs x8 j))).2) x15)))) 5 (o14_0 4)) 6 (o14_0 5)) 7 (o14_0 6)
def PC (xs:Ad) (x8:Nat) (o5_0:Nat->Int):Nat->(Nat->Int)
 |0=>o5_0
 |x15+1=>SL xs x8 x15 (PC xs x8 o5_0 x15)
def SK (x8:Nat) (o5_0:Nat->Int) (x20:Nat):(Nat->Int)->(Nat->Int):=λo5_0_7=>upd o5_0_7 x20 (A9 .u32 (o5_0_7 x20) ((PC xs x8 o5_0 64) x20))
def Pz (xs:Ad) (x8:Nat) (o5_0:Nat->Int):Nat->(Nat->Int)
 |0=>o5_0
 |x20+1=>SK xs x8 o5_0 x20 (Pz xs x8 o5_0 x20)
def SP (k3:Nat):(Nat×(Nat->Int))->(Nat×(Nat->Int)):=λ(x8,o5_0)=>(x8+64,Pz xs x8 o5_0 8)
def Gh (xs:Ad):Nat->Nat×(Nat->Int)
 |0=>(0,PE 8)
 |k3+1=>SP xs k3 (Gh xs k3)
def IX:(Nat×(Nat->Int))->Prop:=λ(x8,o5_0)=>((x8:Nat):Int)<((((CW xs (D3 λj=>Ep (CW xs j)))++(Eh (BN .u64 ((xs.length:Nat):Int) 8) 8)).length:Nat):Int)
def SJ (x22:Nat):Ad->Ad:=λx21=>x21++(Eh (IntKind.wrap .u64 (((Gh xs (D3 λj=>IX xs (Gh xs j))).2) x22)) 4)
def Py (xs:Ad):Nat->Ad
 |0=>[]
 |x22+1=>SJ xs x22 (Py xs x22)
def Jp:Ad:=AV (Py xs 8)
def AaK (z_:Ad:=Jp xs):Con:=⟨[lb xs],[],.sk 0,[(0,.sl 5 Bg z_)]⟩
theorem rJ (hx:xs.length<=1000000):AP 99 (AaK xs):=by
 refine cy 0 func99 rfl ntmps99 λY V=>Aj [] 0 V λV=>Ay [(0,AS (XH))] [3] 1 V λV=>Ay [(0,AS (cD))] [4] 2 V λV=>Aj [] 3 V λV=>Ar (Aj [] 3 V λV=>BC (AC (ι:=Nat×(Nat->Int)) Y V (λ(x6,o5_0)=>(8-x6,[(6,vi ((x6:Nat):Int))],[(2,vX o5_0)],(x6<=8)/\(o5_0=PE x6)/\True)) [0,2,3,4,5] [0,1] 3 (0,λ_=>0) [(0,0),(1,1),(2,2)] ⟨Ac,rfl,aa⟩ ?_))
 rintro⟨x6,o5_0⟩ ac gs ws ⟨hx6,hq1,_⟩ V
 refine Ar (Aj [] 3 V λV=>AJ ((x6:Int)<8) V (λh1=> ?_) (λh1=> ?_))
 ·exact B3 (Aw [(2,AH x6 8),(4,F_ 32),(6,AH x6 8)] [] 3 V λV=>Ck (Aw [(1,Cu x6)] [6] 3 V λV=>Ae (As Y V (x6+1,upd o5_0 x6 (IntKind.wrap .u32 (Bh .u64 (QF x6) 32))) [(0,0),(1,1),(2,2)] ⟨Ac,(Bm (st:=SR) hq1 rfl rfl),aa⟩)))
 ·have hT:=V
  obtain rfl:8=x6:=by omega
  obtain rfl:=hq1.symm
  have V:=hT
  refine Dw (Ay [(0,Np),(2,Gt 0 xs.length 1),(4,Gt (([]++xs).length) 1 1)] [] 6 V λV=>Ar (BC (AC (ι:=Nat×Ad) Y V (λ(k2,x7)=>((120-x7.length%64)%64,[],[(5,.sl 5 Bg x7)],(x7=CW xs k2)/\(∀j,j<k2->Ep (CW xs j))/\(x7.length+(120-x7.length%64)%64<=xs.length+65)/\True)) [0,2,3,5,7] [0,2] 6 (0,([]++xs)++([128]:Ad)) [(0,0),(2,2),(5,5)] ⟨rfl,(λj h=>absurd h (be j)),(by rw[ab,ab,aw,au];omega),aa⟩ ?_)))
  rintro⟨k2,x7⟩ ac gs ws ⟨hq2,hj2,p1,_⟩ V
  refine Ar (Ay [(2,MA x7.length 64)] [] 6 V λV=>IH (((x7.length%64:Nat):Int)=56) V (λh2=> ?_) (λh2=> ?_))
  ·exact Cb (BC (Aw [(2,Gt x7.length 1 1)] [7] 7 V λV=>Ck (As Y V (k2+1,x7++([0]:Ad)) [(0,0),(2,2),(5,6)] ⟨(Bm (st:=SQ) hq2 rfl rfl),(Br hj2 (by rw[<-hq2];exact h2)),(by rw[ab,aw,au];omega),aa⟩ (by show(120-(x7++[0]).length%64)%64<(120-x7.length%64)%64;rw[ab,aw,au];omega))))
  ·have hT:=V
   obtain rfl:=CE (by rw[<-hq2];first |exact h2|exact cq h2) hj2
   obtain rfl:=hq2.symm
   have V:=hT
   refine Dw (Ay [(3,JZ xs.length),(5,AA (TX (BN .u64 ((xs.length:Nat):Int) 8) 8 Ac) [] [(0,6)]),(6,Gt ((CW xs (D3 λj=>Ep (CW xs j))).length) ((Eh (BN .u64 ((xs.length:Nat):Int) 8) 8).length) 1)] [7] 8 V λV=>Ii ?_)
   obtain⟨gs,V⟩:=V.fz 7
   have hml:((CW xs (D3 λj=>Ep (CW xs j)))++(Eh (BN .u64 ((xs.length:Nat):Int) 8) 8)).length%64=0/\((CW xs (D3 λj=>Ep (CW xs j)))++(Eh (BN .u64 ((xs.length:Nat):Int) 8) 8)).length<=2000000:=by rw[ab,QS];omega
   refine Dl [] 8 V λV=>Ae (BC (AC (ι:=Nat×Nat×(Nat->Int)) Y V (λ(k3,x8,o5_0)=>(((CW xs (D3 λj=>Ep (CW xs j)))++(Eh (BN .u64 ((xs.length:Nat):Int) 8) 8)).length-x8,[(8,vi (x8:Int))],[(2,vX o5_0)],((x8,o5_0)=Gh xs k3)/\(∀j,j<k3->IX xs (Gh xs j))/\(x8%64=0)/\True)) [2,3,5,7] [0] 3 (0,0,PE 8) [(0,0),(2,2)] ⟨rfl,(λj h=>absurd h (be j)),(by simp),aa⟩ ?_))
   rintro⟨k3,x8,o5_0⟩ ac gs ws ⟨hq3,hj3,p2,_⟩ V
   refine Ar (Aj [] 3 V λV=>AJ ((x8:Int)<((((CW xs (D3 λj=>Ep (CW xs j)))++(Eh (BN .u64 ((xs.length:Nat):Int) 8) 8)).length:Nat):Int)) V (λh3=> ?_) (λh3=> ?_))
   ·refine B3 (Aj [] 4 V λV=>Ar (Aj [] 4 V λV=>BC (AC (ι:=Nat×(Nat->Int)) Y V (λ(x10,o9_0)=>(16-x10,[(10,vi ((x10:Nat):Int))],[(3,Abq o9_0)],(x10<=16)/\(o9_0=PD xs x8 x10)/\True)) [2,3,5,7,8,9] [0,2] 4 (0,λ_=>0) [(0,0),(2,2),(3,3)] ⟨Ac,rfl,aa⟩ ?_)))
    rintro⟨x10,o9_0⟩ ac gs ws ⟨hx10,hq4,_⟩ V
    refine Ar (Aj [] 4 V λV=>AJ ((x10:Int)<16) V (λh4=> ?_) (λh4=> ?_))
    ·exact B3 (Aw [(4,IC 4 x10 (4*x10)),(5,FW x8 (4*x10) (x8+(4*x10))),(8,IC 4 x10 (4*x10)),(9,FW x8 (4*x10) (x8+(4*x10))),(10,FW (x8+(4*x10)) 4 ((x8+(4*x10))+4)),(11,tH (x8+(4*x10)) ((x8+(4*x10))+4) ((CW xs (D3 λj=>Ep (CW xs j)))++(Eh (BN .u64 ((xs.length:Nat):Int) 8) 8)).length),(12,AS (XL ((((CW xs (D3 λj=>Ep (CW xs j)))++(Eh (BN .u64 ((xs.length:Nat):Int) 8) 8)).take ((x8+(4*x10))+4)).drop (x8+(4*x10))) 4 Ac)),(14,AH x10 64)] [] 4 V λV=>Ck (Aw [(1,Cu x10)] [10] 4 V λV=>Ae (As Y V (x10+1,upd o9_0 x10 (IntKind.wrap .u32 (Om ((((CW xs (D3 λj=>Ep (CW xs j)))++(Eh (BN .u64 ((xs.length:Nat):Int) 8) 8)).take ((x8+(4*x10))+4)).drop (x8+(4*x10))) 4))) [(0,0),(2,2),(3,3)] ⟨Ac,(Bm (st:=SO _ _) hq4 rfl rfl),aa⟩)))
    ·have hT:=V
     obtain rfl:16=x10:=by omega
     obtain rfl:=hq4.symm
     have V:=hT
     refine JH (Aj [] 4 V λV=>BC (AC (ι:=Nat×Nat×(Nat->Int)) Y V (λ(k5,x11,o9_0)=>(64-x11,[(11,vi (x11:Int))],[(3,Abq o9_0)],((x11,o9_0)=Gg xs x8 k5)/\(∀j,j<k5->IW (Gg xs x8 j))/\(16<=x11/\x11<=64)/\True)) [2,3,5,7,8,9] [0,2] 4 (0,16,PD xs x8 16) [(0,0),(2,2),(3,3)] ⟨rfl,(λj h=>absurd h (be j)),Ac,aa⟩ ?_))
     rintro⟨k5,x11,o9_0⟩ ac gs ws ⟨hq5,hj5,p3,_⟩ V
     refine Ar (Aj [] 4 V λV=>AJ ((x11:Int)<64) V (λh5=> ?_) (λh5=> ?_))
     ·exact B3 (Ay [(1,IM x11 15 (x11-15)),(2,AH (x11-15) 64),(4,AS (GX (o9_0 (x11-15)) 7 Ac)),(6,IM x11 15 (x11-15)),(7,AH (x11-15) 64),(9,AS (GX (o9_0 (x11-15)) 18 Ac)),(12,IM x11 15 (x11-15)),(13,AH (x11-15) 64),(15,F_ 3)] [] 4 V λV=>Ay [(1,IM x11 2 (x11-2)),(2,AH (x11-2) 64),(4,AS (GX (o9_0 (x11-2)) 17 Ac)),(6,IM x11 2 (x11-2)),(7,AH (x11-2) 64),(9,AS (GX (o9_0 (x11-2)) 19 Ac)),(12,IM x11 2 (x11-2)),(13,AH (x11-2) 64),(15,F_ 10)] [] 4 V λV=>Aw [(2,IM x11 16 (x11-16)),(3,AH (x11-16) 64),(8,IM x11 7 (x11-7)),(9,AH (x11-7) 64),(14,AH x11 64)] [] 4 V λV=>Ck (Aw [(1,Cu x11)] [11] 4 V λV=>Ae (As Y V (k5+1,x11+1,upd o9_0 x11 (A9 .u32 (A9 .u32 (A9 .u32 (o9_0 (x11-16)) (A0 .u32 (A0 .u32 (Db (o9_0 (x11-15)) 7) (Db (o9_0 (x11-15)) 18)) (Bh .u32 (o9_0 (x11-15)) 3))) (o9_0 (x11-7))) (A0 .u32 (A0 .u32 (Db (o9_0 (x11-2)) 17) (Db (o9_0 (x11-2)) 19)) (Bh .u32 (o9_0 (x11-2)) 10)))) [(0,0),(2,2),(3,3)] ⟨(Bm (st:=SN) hq5 rfl rfl),(Br hj5 (by rw[<-hq5];exact h5)),Ac,aa⟩)))
     ·have hT:=V
      obtain rfl:=CE (by rw[<-hq5];first |exact h5|exact cq h5) hj5
      obtain⟨rfl,rfl⟩:=T1 hq5
      have V:=hT
      refine Dw (Aj [14] 5 V λV=>Ar (Aj [] 5 V λV=>BC (AC (ι:=Nat×(Nat->Int)) Y V (λ(x15,o14_0)=>(64-x15,[(15,vi ((x15:Nat):Int))],[(4,vX o14_0)],(x15<=64)/\(o14_0=PC xs x8 o5_0 x15)/\True)) [2,3,5,7,8,9,14] [0,2,3] 5 (0,o5_0) [(0,0),(2,2),(3,3),(4,4)] ⟨Ac,rfl,aa⟩ ?_)))
      rintro⟨x15,o14_0⟩ ac gs ws ⟨hx15,hq6,_⟩ V
      refine Ar (Aj [] 5 V λV=>AJ ((x15:Int)<64) V (λh6=> ?_) (λh6=> ?_))
      ·exact B3 (Ay [(0,AH 4 8)] [] 5 V λV=>Ay [(0,AH 0 8)] [] 5 V λV=>Ay [(0,AH 7 8),(3,AS (GX (o14_0 4) 6 Ac)),(5,AS (GX (o14_0 4) 11 Ac)),(8,AS (GX (o14_0 4) 25 Ac)),(12,AH 5 8),(17,AH 6 8),(23,AH x15 80),(25,F_ 32),(29,AH x15 64)] [] 5 V λV=>Ay [(1,AS (GX (o14_0 0) 2 Ac)),(3,AS (GX (o14_0 0) 13 Ac)),(6,AS (GX (o14_0 0) 22 Ac)),(9,AH 1 8),(13,AH 2 8),(17,AH 1 8),(19,AH 2 8)] [] 5 V λV=>Aw [(3,AH 0 8),(5,AH 1 8),(7,AH 2 8),(9,AH 3 8),(13,AH 4 8),(15,AH 5 8),(17,AH 6 8)] [] 5 V λV=>Ck (Aw [(1,Cu x15)] [15] 5 V λV=>Ae (As Y V (x15+1,upd (upd (upd (upd (upd (upd (upd (upd (λ_=>0) 0 (A9 .u32 (A9 .u32 (A9 .u32 (A9 .u32 (A9 .u32 (o14_0 7) (A0 .u32 (A0 .u32 (Db (o14_0 4) 6) (Db (o14_0 4) 11)) (Db (o14_0 4) 25))) (A0 .u32 (Bz .u32 (o14_0 4) (o14_0 5)) (Bz .u32 (Mc .u32 (o14_0 4)) (o14_0 6)))) (IntKind.wrap .u32 (Bh .u64 (IY x15) 32))) (((Gg xs x8 (D3 λj=>IW (Gg xs x8 j))).2) x15)) (A9 .u32 (A0 .u32 (A0 .u32 (Db (o14_0 0) 2) (Db (o14_0 0) 13)) (Db (o14_0 0) 22)) (A0 .u32 (A0 .u32 (Bz .u32 (o14_0 0) (o14_0 1)) (Bz .u32 (o14_0 0) (o14_0 2))) (Bz .u32 (o14_0 1) (o14_0 2)))))) 1 (o14_0 0)) 2 (o14_0 1)) 3 (o14_0 2)) 4 (A9 .u32 (o14_0 3) (A9 .u32 (A9 .u32 (A9 .u32 (A9 .u32 (o14_0 7) (A0 .u32 (A0 .u32 (Db (o14_0 4) 6) (Db (o14_0 4) 11)) (Db (o14_0 4) 25))) (A0 .u32 (Bz .u32 (o14_0 4) (o14_0 5)) (Bz .u32 (Mc .u32 (o14_0 4)) (o14_0 6)))) (IntKind.wrap .u32 (Bh .u64 (IY x15) 32))) (((Gg xs x8 (D3 λj=>IW (Gg xs x8 j))).2) x15)))) 5 (o14_0 4)) 6 (o14_0 5)) 7 (o14_0 6)) [(0,0),(2,2),(3,3),(4,4)] ⟨Ac,(Bm (st:=SL _ _) hq6 rfl rfl),aa⟩)))
      ·have hT:=V
       obtain rfl:64=x15:=by omega
       obtain rfl:=hq6.symm
       have V:=hT
       refine Dw (Aj [] 5 V λV=>BC (AC (ι:=Nat×(Nat->Int)) Y V (λ(x20,o5_0_7)=>(8-x20,[(20,vi ((x20:Nat):Int))],[(2,vX o5_0_7)],(x20<=8)/\(o5_0_7=Pz xs x8 o5_0 x20)/\True)) [2,3,5,7,8,14] [0,4] 5 (0,o5_0) [(0,0),(2,2),(4,4)] ⟨Ac,rfl,aa⟩ ?_))
       rintro⟨x20,o5_0_7⟩ ac gs ws ⟨hx20,hq7,_⟩ V
       refine Ar (Aj [] 5 V λV=>AJ ((x20:Int)<8) V (λh7=> ?_) (λh7=> ?_))
       ·exact B3 (Aw [(2,AH x20 8),(5,AH x20 8),(8,AH x20 8)] [] 5 V λV=>Ck (Aw [(1,Cu x20)] [20] 5 V λV=>Ae (As Y V (x20+1,upd o5_0_7 x20 (A9 .u32 (o5_0_7 x20) ((PC xs x8 o5_0 64) x20))) [(0,0),(2,2),(4,4)] ⟨Ac,(Bm (st:=SK _ _ _) hq7 rfl rfl),aa⟩)))
       ·have hT:=V
        obtain rfl:8=x20:=by omega
        obtain rfl:=hq7.symm
        have V:=hT
        exact Vh (Aw [(1,FW x8 64 (x8+64))] [8] 5 V λV=>Ae (As Y V (k3+1,x8+64,Pz xs x8 o5_0 8) [(0,0),(2,2)] ⟨(Bm (st:=SP _) hq3 rfl rfl),(Br hj3 (by rw[<-hq3];exact h3)),Ac,aa⟩))
   ·have hT:=V
    obtain rfl:=CE (by rw[<-hq3];first |exact h3|exact cq h3) hj3
    obtain⟨rfl,rfl⟩:=T1 hq3
    have V:=hT
    refine Dw (Aj [] 3 V λV=>Ar (Aj [] 3 V λV=>BC ?_))
    obtain⟨gs,V⟩:=V.nilk 21 5 Bg
    refine AC (ι:=Nat×Ad) Y V (λ(x22,x21)=>(8-x22,[(22,vi ((x22:Nat):Int))],[(3,.sl 5 Bg x21)],(x22<=8)/\(x21=Py xs x22)/\(x21.length=4*x22)/\True)) [2,5,21] [2] 4 (0,[]) [(2,2),(3,3)] ⟨Ac,rfl,rfl,aa⟩ ?_
    rintro⟨x22,x21⟩ ac gs ws ⟨hx22,hq8,p4,_⟩ V
    refine Ar (Aj [] 4 V λV=>AJ ((x22:Int)<8) V (λh8=> ?_) (λh8=> ?_))
    ·exact B3 (Aw [(2,AH x22 8),(5,AA (TX (IntKind.wrap .u64 (((Gh xs (D3 λj=>IX xs (Gh xs j))).2) x22)) 4 Ac) [] [(0,4)]),(6,Gt x21.length ((Eh (IntKind.wrap .u64 (((Gh xs (D3 λj=>IX xs (Gh xs j))).2) x22)) 4).length) 1)] [21] 6 V λV=>Ck (Aw [(1,Cu x22)] [22] 6 V λV=>Ae (As Y V (x22+1,x21++(Eh (IntKind.wrap .u64 (((Gh xs (D3 λj=>IX xs (Gh xs j))).2) x22)) 4)) [(2,2),(3,5)] ⟨Ac,(Bm (st:=SJ _) hq8 rfl rfl),(by rw[ab,QS];omega),aa⟩)))
    ·have hT:=V
     obtain rfl:8=x22:=by omega
     obtain rfl:=hq8.symm
     have V:=hT
     refine Dw (Aj [] 4 V λV=>AY ?_)
     obtain⟨gs,V⟩:=V.rx [(0,3)] [2] [0] 1 Y
     exact BV (Ab _) V
end
@[simp] theorem iI (xs:Ad):(Jp xs).length=32:=by
 have key:∀i,(Py xs i).length=4*i:=by
  intro i
  induction i with
  |zero=>rfl
  |succ i ih=>
   show(_++Eh _ _).length=_
   rw[ab,QS,ih];omega
 unfold Jp;rw[Ab]
 exact key 8
@[simp] theorem SY (xs:Ad) (n:Nat) (h:xs.length<=n):(Hr xs n).length=n:=by
 unfold Hr;rw[Ab]
 rw[ab,ap,av,az];omega
theorem QR (l:AZ) (hn:l.length<=1000) (hm:∀j,(l.getD j AW).length<=3000):AP 98 ⟨[.ls false A8 l],[],lb (EX l),[]⟩:=ConOk.frz [] 0 5 Bg (EX l) (rV l hn hm) (by kernel_rfl)
theorem VL (xs:Ad) (hx:xs.length<=1000000):AP 99 ⟨[lb xs],[],lb (Jp xs),[]⟩:=ConOk.frz [] 0 5 Bg (Jp xs) (rJ xs hx) (by kernel_rfl)
def SU (k:Ad) (x8:Nat):(Ad×Ad)->(Ad×Ad):=λ(x6,x7)=>(x6.set x8 (A0 .u8 ((Hr k 64).getD x8 0) 54),x7.set x8 (A0 .u8 ((Hr k 64).getD x8 0) 92))
def GY (k:Ad):Nat->Ad×Ad
 |0=>(replicate 64 (0:Int),replicate 64 (0:Int))
 |x8+1=>SU k x8 (GY k x8)
def HT (k xs:Ad):Ad:=AV (Jp (EX [(GY k 64).2,Jp (EX [(GY k 64).1,xs])]))
@[simp] theorem QK (k xs:Ad):(HT k xs).length=32:=by unfold HT;rw[Ab];exact iI ..
section
variable (k xs:Ad)
def AaN (z_:Ad:=HT k xs):Con:=⟨[lb k,lb xs],[],lb z_,[]⟩
theorem Zs (hk:k.length<=64) (hx:xs.length<=900):AP 66 (AaN k xs):=by
 refine cy 0 func66 rfl ntmps66 λY V=> ?_
 have hk1:¬(64:Int)<((k.length:Nat):Int):=Ac
 refine Aj [] 0 V λV=>Ar (Ay [(2,Do hk1)] [] 0 V λV=>Ai V (Cb (Ay [(1,AA (iR k 64 Ac) [] [(0,0)])] [] 1 V λV=>Ay [(0,fD 64 1)] [] 2 V λV=>Ay [(0,fD 64 1)] [] 3 V λV=>Ar (Aj [] 3 V λV=>BC (AC (ι:=Nat×Ad×Ad) Y V (λ(x8,x6,x7)=>(64-x8,[(8,vi ((x8:Nat):Int))],[(1,.sl 5 Bg x6),(2,.sl 5 Bg x7)],(x8<=64)/\((x6,x7)=GY k x8)/\(x6.length=64/\x7.length=64)/\True)) [1,4,5,6,7] [0] 3 (0,replicate 64 (0:Int),replicate 64 (0:Int)) [(0,0),(1,1),(2,2)] ⟨Ac,rfl,(by simp),aa⟩ ?_)))))
 rintro⟨x8,x6,x7⟩ ac gs ws ⟨hx8,hq1,p1,_⟩ V
 refine Ar (Aj [] 3 V λV=>AJ ((x8:Int)<64) V (λh1=> ?_) (λh1=> ?_))
 ·refine B3 (Ar ?_)
  have hfl:=SY k 64 hk
  refine Aw [(4,AH x8 ((Hr k 64).length)),(7,AH x8 x6.length)] [] 3 V λV=>Ae ?_
  have hfl:=SY k 64 hk
  exact Aw [(4,AH x8 ((Hr k 64).length)),(7,AH x8 x7.length)] [] 3 V λV=>Ck (Aw [(1,Cu x8)] [8] 3 V λV=>Ae (As Y V (x8+1,x6.set x8 (A0 .u8 ((Hr k 64).getD x8 0) 54),x7.set x8 (A0 .u8 ((Hr k 64).getD x8 0) 92)) [(0,0),(1,1),(2,2)] ⟨Ac,(Bm (st:=SU _) hq1 rfl rfl),(by rw[da,da];exact p1),aa⟩))
 ·have hT:=V
  obtain rfl:64=x8:=by omega
  obtain⟨rfl,rfl⟩:=T1 hq1
  have V:=hT
  refine JH ?_
  obtain⟨gs,V⟩:=V.fz 1
  obtain⟨gs,V⟩:=V.fz 2
  exact Aw [(4,AS (QR [(GY k 64).1,xs] Ax (Uz (by repeat (first |exact X9|(apply UA;focus (first |omega|(simp<;>omega)))))))),(5,AS (VL (EX [(GY k 64).1,xs]) Ax)),(7,AS (QR [(GY k 64).2,Jp (EX [(GY k 64).1,xs])] Ax (Uz (by repeat (first |exact X9|(apply UA;focus (first |omega|(simp<;>omega)))))))),(8,AS (VL (EX [(GY k 64).2,Jp (EX [(GY k 64).1,xs])]) Ax))] [] 3 V λV=>EY (BV (Ab _) V)
def On (k1:Nat):(Nat×Ad×Ad)->(Nat×Ad×Ad):=λ(x9,x7,x8)=>(x9+1,x7++(HT k (EX [x8,xs,[(IntKind.wrap .u8 ((x9:Nat):Int))]])),HT k (EX [x8,xs,[(IntKind.wrap .u8 ((x9:Nat):Int))]]))
end
def EZ (k xs:Ad):Nat->Nat×Ad×Ad
 |0=>(1,[],[])
 |k1+1=>On k xs k1 (EZ k xs k1)
def HE:(Nat×Ad×Ad)->Prop:=λ(x9,x7,x8)=>((x7.length:Nat):Int)<128
section
variable (k xs:Ad)
def TS:Ad:=AV (((EZ k xs (D3 λj=>HE (EZ k xs j))).2.1).take 128)
def AaO (z_:Ad:=TS k xs):Con:=⟨[lb k,lb xs,vi 128],[],lb z_,[]⟩
theorem Abw (hk:k.length<=64) (hx:xs.length<=100):AP 65 (AaO k xs):=by
 refine cy 0 func65 rfl ntmps65 λY V=>Aj [] 0 V λV=>Ar (Aj [] 0 V λV=>Ai V (Cb (Aj [] 0 V λV=>Ar (Aj [] 0 V λV=>BC ?_))))
 obtain⟨gs,V⟩:=V.nilk 7 5 Bg
 have V:=V.wk 8 (lb [])
 refine AC (ι:=Nat×Nat×Ad×Ad) Y V (λ(k1,x9,x7,x8)=>(128-x7.length,[(8,lb x8),(9,vi (x9:Int))],[(0,.sl 5 Bg x7)],((x9,x7,x8)=EZ k xs k1)/\(∀j,j<k1->HE (EZ k xs j))/\(x7.length<=160/\x8.length<=32/\x9<=1+x7.length)/\True)) [0,1,2,6,7] [] 1 (0,1,[],[]) [(0,0)] ⟨rfl,(λj h=>absurd h (be j)),(by simp),aa⟩ ?_
 rintro⟨k1,x9,x7,x8⟩ ac gs ws ⟨hq1,hj1,p5,_⟩ V
 refine Ar (Aj [] 1 V λV=>AJ (((x7.length:Nat):Int)<128) V (λh1=> ?_) (λh1=> ?_))
 ·exact B3 (Ay [(7,AS (QR [x8,xs,[(IntKind.wrap .u8 ((x9:Nat):Int))]] Ax (Uz (by repeat (first |exact X9|(apply UA;focus (first |omega|(simp<;>omega)))))))),(8,AS (Zs k (EX [x8,xs,[(IntKind.wrap .u8 ((x9:Nat):Int))]]) Ax Ax))] [8] 1 V λV=>Aw [(2,Gt x7.length ((HT k (EX [x8,xs,[(IntKind.wrap .u8 (x9:Int))]])).length) 1)] [7] 2 V λV=>Ck (Aw [(1,Cu x9)] [9] 2 V λV=>Ae (As Y V (k1+1,x9+1,x7++(HT k (EX [x8,xs,[(IntKind.wrap .u8 (x9:Int))]])),HT k (EX [x8,xs,[(IntKind.wrap .u8 (x9:Int))]])) [(0,1)] ⟨(Bm (st:=On _ _) hq1 rfl rfl),(Br hj1 (by rw[<-hq1];exact h1)),(by rw[ab,QK];omega),aa⟩ (by show 128-(x7++_).length<128-x7.length;rw[ab,QK];omega))))
 ·have hT:=V
  obtain rfl:=CE (by rw[<-hq1];first |exact h1|exact cq h1) hj1
  obtain⟨rfl,rfl,rfl⟩:=jL hq1
  have V:=hT
  refine JH ?_
  obtain⟨gs,V⟩:=V.fz 0
  exact Aw [(2,fE 128 ((EZ k xs (D3 λj=>HE (EZ k xs j))).2.1).length)] [] 1 V λV=>EY (BV (Ab _) V)
def TU:Ad:=AV (TS (HT ([]:Ad) k) xs)
def AaP (z_:Ad:=TU k xs):Con:=⟨[.v (.slice none 0 0),lb k,lb xs,vi 128],[],lb z_,[]⟩
theorem rU (hk:k.length<=900) (hx:xs.length<=100):AP 33 (AaP k xs):=by
 exact cy 0 func33 rfl ntmps33 λY V=>Aj [] 0 V λV=>Ay [(2,AS (Zs ([]:Ad) k Ax Ax)),(5,AS (Abw (HT ([]:Ad) k) xs Ax Ax))] [] 0 V λV=>AY (BV (Ab _) V)
end
def Sq (x0 x1:Nat) (x2 x3:Nat):O:= .ob 187 (Jg [vi ((x0:Nat):Int),vi ((x1:Nat):Int),vi ((x2:Nat):Int),.sk x3])
def wB (n lo hi:Int):Bool:=decide (lo<=n/\n<=hi)
theorem Qh {n lo hi:Int} (h:lo<=n/\n<=hi):wB n lo hi=true:=decide_eq_true h
def Qf (n lo hi:Int):Bool:=AV (if lo<=n then decide (n<=hi)else false)
theorem Vo (n lo hi:Int):Qf n lo hi=wB n lo hi:=by
 unfold Qf;rw[Ab];unfold wB
 by_cases h:lo<=n
 ·rw[ah h];simp only[h,true_and]
 ·rw[aj h];simp only[h,false_and];rfl
section
variable (n lo hi:Int)
def RN (z_:Bool:=Qf n lo hi):Con:=⟨[vi n,vi lo,vi hi],[],.v (.bool z_),[]⟩
theorem Su:AP 116 (RN n lo hi):=by
 refine cy 0 func116 rfl ntmps116 λY V=>Aj [] 0 V λV=>Ar ?_
 by_cases h1:lo<=n
 ·exact Aw [(2,Gv h1)] [] 0 V λV=>EY (BV (.trans (Ab _) (ah h1)) V)
 ·exact Aw [(2,Do h1)] [] 0 V λV=>EY (BV (.trans (Ab _) (aj h1)) V)
theorem D7 (hs:wB n lo hi=true):AP 116 ⟨[vi n,vi lo,vi hi],[],.v (.bool true),[]⟩:=by
 have h:=Su n lo hi
 unfold RN at h
 rw[Vo,hs]at h
 exact h
theorem Qe (hs:wB n lo hi=false):AP 116 ⟨[vi n,vi lo,vi hi],[],.v (.bool false),[]⟩:=by
 have h:=Su n lo hi
 unfold RN at h
 rw[Vo,hs]at h
 exact h
end
theorem JM (id ct:Nat) (sz ln:Nat) (hb:id<=1073741824/\1<=ct/\ct<=10000/\1<=sz/\sz<=10000/\1<=ln/\ln<=10000) (hc:ct=(ln+sz-1)/sz):AP 146 ⟨[vi (id:Int),vi (ct:Int),vi (sz:Int),vi (ln:Int)],[],.tu (Jg [.cp 0 0,vi 0]),[(0,Sq id sz ln 1),(1,.sl 22 Bq (replicate ct none))]⟩:=by
 refine cy 0 func146 rfl ntmps146 λY V=> ?_
 have w1:wB (id:Int) 0 1073741824=true:=(Qh ⟨by omega,by omega⟩)
 have w2:wB (ct:Int) 1 10000=true:=(Qh ⟨by omega,by omega⟩)
 have w3:wB (sz:Int) 1 10000=true:=(Qh ⟨by omega,by omega⟩)
 have w4:wB (ln:Int) 1 10000=true:=(Qh ⟨by omega,by omega⟩)
 have w5:(ct:Int)=((((ln+sz)-1)/sz:Nat):Int):=(by rw[<-hc])
 refine C9 [] 0 V λV=>Ar (D8 [(1,AS (D7 (id:Int) 0 1073741824 w1)),(5,AS (D7 (ct:Int) 1 10000 w2)),(10,AS (D7 (sz:Int) 1 10000 w3)),(15,AS (D7 (ln:Int) 1 10000 w4)),(22,FW ln sz (ln+sz)),(23,IM (ln+sz) 1 ((ln+sz)-1)),(25,Vk ((ln+sz)-1) sz),(26,Ha w5)] [] 0 V λV=>Ai V (Cb (D8 [(4,fD ct 24)] [] 2 V λV=>AY ?_)))
 obtain⟨gs,V⟩:=V.rx [(0,1),(1,0)] [8,9] [0,1] 2 Y
 exact BW V
theorem d8 (xs:Ad) (sz:Nat) (hz:1<=sz/\sz<=1000000):AP 117 ⟨[lb xs,vi (sz:Int)],[],.fn 157 (Jg []) (Jg [.im (Jg [lb xs]) 0,.im (Jg [vi (sz:Int)]) 0]),[]⟩:=by
 refine cy 0 func117 rfl ntmps117 λY V=> ?_
 have w1:¬(sz:Int)<1:=Ac
 refine Aj [] 2 V λV=>Ar (Ay [(1,Do w1)] [] 2 V λV=>Ai V (Cb (Aj [] 2 V λV=>AY ?_)))
 obtain⟨gs,V⟩:=V.im 0
 obtain⟨gs,V⟩:=V.im 1
 exact BW V
abbrev tJ:=Int×Int×Int×Ad
section
variable (id:Nat) (xs:Ad) (sz:Nat) (pre:List Nat)
def PG:List tJ:=pre.mapIdx λj z=>((id:Int),((j:Nat):Int),(0:Int),(xs.drop (z*sz)).take sz)
theorem Ni:(PG id xs sz pre).length=pre.length:=List.length_mapIdx
theorem sC (z:Nat):PG id xs sz (pre++[z])=PG id xs sz pre++[((id:Int),(((PG id xs sz pre).length:Nat):Int),(0:Int),(xs.drop (z*sz)).take sz)]:=by
 rw[Ni];unfold PG;rw[List.mapIdx_append];simp
end
theorem UO {len sz:Nat} (h:1<=sz) (k:Nat):k<(len+sz-1)/sz↔k*sz<len:=by
 rw[Nat.lt_div_iff_mul_lt Ac];omega
theorem Yv {len sz:Nat} (h:1<=sz):(len+sz-1)/sz<=len:=by
 rcases ci len ((len+sz-1)/sz)with h1|h1
 ·have h2:=(UO h len).1 h1
  have h3:=Nat.le_mul_of_pos_right len h
  omega
 ·exact h1
def Qw (x39:Nat):(List (Int×Int×Int×Ad))->(List (Int×Int×Int×Ad)):=λo1=>o1.set x39 ((o1.getD x39 C5).1,(o1.getD x39 C5).2.1,((o1.length:Nat):Int),(o1.getD x39 C5).2.2.2)
section
variable (id:Nat) (xs:Ad) (sz:Nat)
def EL (id:Nat) (xs:Ad) (sz:Nat):Nat->(List (Int×Int×Int×Ad))
 |0=>PG id xs sz (List.range ((xs.length+sz-1)/sz))
 |x39+1=>Qw x39 (EL id xs sz x39)
def Av:(List (Int×Int×Int×Ad)):=AV (EL id xs sz ((PG id xs sz (List.range ((xs.length+sz-1)/sz))).length))
def uX (z_:(List (Int×Int×Int×Ad)):=Av id xs sz):Con:=⟨[vi (id:Int),lb xs,vi (sz:Int)],[],.tu (Jg [.sk 0,vi 0]),[(0,.sl 133 Pl z_)]⟩
theorem MW (hi:id<=1073741824) (hx:1<=xs.length/\xs.length<=10000) (hz:1<=sz/\sz<=1000):AP 79 (uX id xs sz):=by
 refine d4 rfl 1 (nb:=0) func79 rfl rfl ntmps79 rfl rfl rfl λg0 w0 ac gs ws Y V=> ?_
 have V:=V.sp
 have w1:wB (id:Int) 0 1073741824=true:=(Qh ⟨by omega,by omega⟩)
 have w2:wB (sz:Int) 1 1000=true:=(Qh ⟨by omega,by omega⟩)
 have w3:wB ((xs.length:Nat):Int) 1 10000=true:=(Qh ⟨by omega,by omega⟩)
 refine Aj [] 2 V λV=>Ar (Ay [(1,AS (D7 (id:Int) 0 1073741824 w1)),(5,AS (D7 (sz:Int) 1 1000 w2)),(11,AS (D7 ((xs.length:Nat):Int) 1 10000 w3))] [] 2 V λV=>Ai V (DG (Ay [(1,AS (Ee xs Ax)),(3,AS (d8 xs sz Ac))] [] 2 V λV=>BC ?_)))
 obtain⟨gs,V⟩:=V.nilob 1 0 133 Pl
 obtain⟨gs,V⟩:=V.rn [(0,1),(1,2),(2,0)] [(3,.cp 2 0),(6,.cp 0 0),(7,vi 0),(27,.fn 157 (Jg []) (Jg [.im (Jg [lb xs]) 0,.im (Jg [vi (sz:Int)]) 0]))] [(0,.ob 129 (Jg [.sk 1])),(1,.sl 133 Pl (PG id xs sz [])),(2,N2 id)] 3 Y
 refine V4 (m:=1) xs sz Ac Ac Ac (λk=>UO Ac k) rfl Y (λpre=>[(0,.ob 129 (Jg [.sk 1])),(1,.sl 133 Pl (PG id xs sz pre)),(2,N2 id)]) V.st rfl rfl rfl rfl (λe=>by subst e;simp at hx) (λr pre z g1 W a1 hlt V=> ?_) (λDd Dk ac gs ws hD hDk hk hH hB V=> ?_) (by decide)
 ·have V:=SS.sp V
  have hpl:=Ni id xs sz pre
  have hcl:(xs.length+sz-1)/sz<=xs.length:=Yv Ac
  refine rI [] aa (λ_=>[(PG id xs sz pre).length+[((id:Int),(((PG id xs sz pre).length:Nat):Int),0,(xs.drop (z*sz)).take sz)].length<=9223372036854775807,((PG id xs sz pre).length+[((id:Int),(((PG id xs sz pre).length:Nat):Int),0,(xs.drop (z*sz)).take sz)].length)*48<=140737488355328]) [] [0,2,3] 4 ⟨by simp<;>omega,by simp<;>omega,aa⟩ V yL (λac gs ws V=> ?_)
  simp only[sC]
  exact Ade V [(0,0),(1,3),(2,2)]
 ·have hgo:=Y
  have Y:=λk v h=>eo.2 (SS.nm V k v h)
  have V:=SS.sp V
  refine Ck (Ii ?_)
  have hpl:=Ni id xs sz (List.range ((xs.length+sz-1)/sz))
  have hcl:(xs.length+sz-1)/sz<=xs.length:=Yv Ac
  rw[d_]at hpl
  refine Dl [] 3 V λV=>Ae (BC (AC (ι:=Nat×(List (Int×Int×Int×Ad))) Y V (λ(x39,o1)=>((PG id xs sz (List.range ((xs.length+sz-1)/sz))).length-x39,[(39,vi ((x39:Nat):Int))],[(1,.sl 133 Pl o1)],(x39<=(PG id xs sz (List.range ((xs.length+sz-1)/sz))).length)/\(o1=EL id xs sz x39)/\(o1.length=(PG id xs sz (List.range ((xs.length+sz-1)/sz))).length)/\True)) [6,7,38] [0] 3 (0,PG id xs sz (List.range ((xs.length+sz-1)/sz))) [(0,0),(1,1),(2,2)] ⟨Ac,rfl,rfl,aa⟩ ?_))
  rintro⟨x39,o1⟩ ac gs ws ⟨hx39,hq1,p1,_⟩ V
  refine Aj [] 3 V λV=>Ar (AJ ((x39:Int)<(((PG id xs sz (List.range ((xs.length+sz-1)/sz))).length:Nat):Int)) V (λh1=> ?_) (λh1=> ?_))
  ·exact B3 (Aj [] 3 V λV=>Aw [(4,AH x39 o1.length)] [] 3 V λV=>Ck (Aw [(0,Cu x39)] [39] 3 V λV=>Ae (As Y V (x39+1,o1.set x39 ((o1.getD x39 C5).1,(o1.getD x39 C5).2.1,((o1.length:Nat):Int),(o1.getD x39 C5).2.2.2)) [(0,0),(1,1),(2,2)] ⟨Ac,(Bm (st:=Qw) hq1 rfl rfl),(by rw[da];exact p1),aa⟩)))
  ·have hT:=V
   obtain rfl:(PG id xs sz (List.range ((xs.length+sz-1)/sz))).length=x39:=by omega
   obtain rfl:=hq1.symm
   have V:=hT
   refine Dw (Aj [] 3 V λV=>AY ?_)
   have hM:Av id xs sz=EL id xs sz ((PG id xs sz (List.range ((xs.length+sz-1)/sz))).length):=Ab _
   obtain⟨V,hk⟩:=LD hk hH hB V
   have Y:=hgo
   obtain⟨gs,V⟩:=V.rx [(0,1),(1,0)] [6,7] [0,1] 2 Y
   exact Acf hD hDk hk (.inr rfl) V [.sk 0,vi 0] [(0,some (.sl 133 Pl (EL id xs sz ((PG id xs sz (List.range ((xs.length+sz-1)/sz))).length))))] rfl (by show E6 _ [(0,.sl 133 Pl (Av id xs sz))] true;rw[hM];first |(simp only[];exact⟨rfl,aa⟩)|exact⟨rfl,aa⟩)
end
section
variable (id ai ct:Nat) (d:Ad)
def G9:Ad×Nat:=AV (if wB (id:Int) 0 1073741824=true then(if wB (ct:Int) 0 1073741824=true then(if wB (ai:Int) 0 ((ct:Int)-1)=true then(if((d.length:Nat):Int)=0 then([],1)else(if(1000:Int)<((d.length:Nat):Int)then([],11)else(((((([]++Ah id)++Ah ai)++Ah ct)++Ah d.length)++d),0)))else([],1))else([],1))else([],1))
def Xb (z_:Ad×Nat:=G9 id ai ct d):Con:=⟨[.ag (Jg [vi (id:Int),vi (ai:Int),vi (ct:Int),lb d])],[],.tu (Jg [lb (z_.1),vi ((z_.2:Nat):Int)]),[]⟩
theorem OE (hb:id<=100000000000/\ai<=100000000000/\ct<=100000000000) (hd:d.length<=100000):AP 80 (Xb id ai ct d):=by
 refine cy 0 func80 rfl ntmps80 λY V=>Aj [] 1 V λV=>Ar (BC (Ar ?_))
 by_cases h1:wB (id:Int) 0 1073741824=true
 ·by_cases h2:wB (ct:Int) 0 1073741824=true
  ·by_cases h3:wB (ai:Int) 0 ((ct:Int)-1)=true
   ·refine Aw [(2,AS (D7 (id:Int) 0 1073741824 h1)),(7,AS (D7 (ct:Int) 0 1073741824 h2)),(15,Ly ((ct:Int)-1) [FC .i64 (ct:Int) 1=(ct:Int)-1] ⟨OD Ac Ac,aa⟩),(16,AS (D7 (ai:Int) 0 ((ct:Int)-1) h3))] [] 1 V λV=>Ae (AJ (((d.length:Nat):Int)=0) V (λh4=> ?_) (λh4=> ?_))
    ·refine Aj [] 1 V λV=>AY (AN (Ao ?_))
     have V:=V.wk 2 (lb [])
     exact BV (.trans (Ab _) ((ah h1).trans ((ah h2).trans ((ah h3).trans (ah h4))))) V
    ·refine Aj [] 1 V λV=>AJ ((1000:Int)<((d.length:Nat):Int)) V (λh5=> ?_) (λh5=> ?_)
     ·refine Aj [] 1 V λV=>AY (AN (Ao ?_))
      have V:=V.wk 2 (lb [])
      exact BV (.trans (Ab _) ((ah h1).trans ((ah h2).trans ((ah h3).trans ((aj h4).trans (ah h5)))))) V
     ·refine FN (Aj [] 2 V λV=>Ar ?_)
      have hw1:=Aq (n:=id) Ac
      have hw2:=Aq (n:=ai) Ac
      have hw3:=Aq (n:=ct) Ac
      have hw4:=Aq (n:=d.length) Ac
      exact Aw [(3,JZ id),(4,AA (MK id Ac) [(0,1)] [(1,2)]),(7,JZ ai),(8,AA (BP ([]++Ah id) ai Ax Ac) [(0,1),(1,2)] [(2,3)]),(11,JZ ct),(12,AA (BP (([]++Ah id)++Ah ai) ct Ax Ac) [(0,1),(1,3)] [(2,4)]),(15,AA (Dq ((([]++Ah id)++Ah ai)++Ah ct) d Ax Ax) [(0,1),(1,4)] [(2,5)]),(16,AA (Gd ((((([]++Ah id)++Ah ai)++Ah ct)++Ah d.length)++d) Ax) [(0,1),(1,5)] [])] [] 6 V λV=>EY (BV (.trans (Ab _) ((ah h1).trans ((ah h2).trans ((ah h3).trans ((aj h4).trans (aj h5)))))) V)
   ·refine Aw [(2,AS (D7 (id:Int) 0 1073741824 h1)),(7,AS (D7 (ct:Int) 0 1073741824 h2)),(15,Ly ((ct:Int)-1) [FC .i64 (ct:Int) 1=(ct:Int)-1] ⟨OD Ac Ac,aa⟩),(16,AS (Qe (ai:Int) 0 ((ct:Int)-1) (Cj h3)))] [] 1 V λV=>Ae (AG V (Aj [] 1 V λV=>AY (AN (Ao ?_))))
    have V:=V.wk 2 (lb [])
    exact BV (.trans (Ab _) ((ah h1).trans ((ah h2).trans (aj h3)))) V
  ·refine Aw [(2,AS (D7 (id:Int) 0 1073741824 h1)),(7,AS (Qe (ct:Int) 0 1073741824 (Cj h2)))] [] 1 V λV=>Ae (AG V (Aj [] 1 V λV=>AY (AN (Ao ?_))))
   have V:=V.wk 2 (lb [])
   exact BV (.trans (Ab _) ((ah h1).trans (aj h2))) V
 ·refine Aw [(2,AS (Qe (id:Int) 0 1073741824 (Cj h1)))] [] 1 V λV=>Ae (AG V (Aj [] 1 V λV=>AY (AN (Ao ?_))))
  have V:=V.wk 2 (lb [])
  exact BV (.trans (Ab _) (aj h1)) V
end
end
end Go.Sx.Tryz
namespace Go.Sx
open Go.Mi Go.RowKit
variable [Dfr]
def Xn (P:Program) (n:Nat) (o:Oper) (L:DL) (H:Nat->Option O) (e:Eff) (d:D):Prop:=
 ∀ξ g w,HS (Cv (e.rd++AB e.wr) H) g w->Hold L ξ g w->dB P o n (ME L ξ) w λv w'=>∃g',Post H ⟨e.rd,e.wr,e.nw,d⟩ g w v g' w'
theorem dM {P:Program} {n:Nat} {q:Option CR} (hc:∀r,q=some r->EB P r.f r.c) {L:DL} {H:Hp} {o:Oper} {e:Eff} {d:D} {ps:List Prop} (h:Rv q L H o=some (e,d,ps)) (hp:AllP ps):e.nw=[]/\Xn P n o L (A7 H) e d:=by
 obtain⟨ds,op,ty,pos,af,gu⟩:=o
 unfold Rv at h
 split at h
 ·rename_i q c hop
  simp only at hop
  subst hop
  have hc:=hc q rfl
  obtain⟨cl,xs,ts⟩:=c
  split at h
  ·rename_i f hf
   simp only at hf
   subst hf
   split at h
   ·rename_i f' ays hfn
    cases hb:Nat.beq f' q.f&&q.chk&&ays.all D.one&&q.σ.isEmpty with
    |false=>rw[hb]at h;cases h
    |true=>
     rw[hb]at h
     simp only[ao,ax,List.isEmpty_iff]at hb
     obtain⟨⟨⟨b1,b2⟩,b3⟩,b4⟩:=hb
     have b1:=aq b1
     subst b1
     cases h
     have hq':=CRok.of b2
     obtain⟨n1,n2⟩:=CR.need_of hp.1
     have hnw:q.eff.nw=[]:=by simp only[CR.eff,b4,List.filterMap_nil]
     refine⟨hnw,λξ g w V hH=> ?_⟩
     have fin:∀{vs:List Value},C1 g.X g.N w (Jg ays) true vs->Calls P q.f vs.toArray w (λe w'=>∃v,e=pn v/\∃g',Post (A7 H) q.eff g w v g' w'):=λhv=>by
      have :=ML (es:=q.c.args.map (D.ren q.r)) hv b3
      rw[n1]at this
      refine(Mu hq' hc n2 V (λp hp=>by rw[hnw]at hp;cases hp) this).mono λe w' ⟨v,he,g',hpo⟩=>⟨v,he,g',hpo⟩
     unfold Ye at hfn
     split at hfn
     ·rename_i f0 first captured as' hx has
      cases he:first.isEmpty&&captured.isEmpty with
      |false=>rw[he]at hfn;cases hfn
      |true=>
       rw[he]at hfn
       simp only[cond_true,Option.some.injEq,Prod.mk.injEq]at hfn
       obtain⟨rfl,rfl⟩:=hfn
       rw[ao,fc,fc]at he
       obtain⟨rfl,rfl⟩:=he
       obtain⟨vs,k1,k2,_⟩:=E3 hH has
       refine Ng (first := #[]) (captured:= #[]) (Ca hH hx) hc.1 k1 ?_
       simpa[CR.eff]using fin k2
     ·rename_i f0 a b as' hx has
      split at hfn
      ·rename_i a' b' ha hb'
       simp only[Option.some.injEq,Prod.mk.injEq]at hfn
       obtain⟨rfl,rfl⟩:=hfn
       obtain⟨v,hv,va,vb,h1,h2,h3⟩:=Bv hH hx
       cases(List.cons.inj h3).1
       obtain⟨vs,k1,k2,_⟩:=E3 hH has
       refine Ng hv hc.1 k1 ?_
       have :=fin (EW (EW (Io ha h1) k2) (Io hb' h2))
       simpa[CR.eff]using this
      ·cases hfn
     ·cases hfn
   ·cases h
  ·cases h
 ·rename_i x hop
  simp only at hop
  subst hop
  split at h
  ·rename_i t v hx
   cases h
   refine⟨rfl,λξ g w V hH=>V8 (Ca hH hx) ⟨g,Post.pure (rd:=[]) V.wf rfl⟩⟩
  ·cases h
 ·cases h
theorem cP {P : Program} {n : Nat} {ops : List Oper} {ex : Ex} {q : Option CR} {p dd : Nat} (hex : N4 P n ex) (hc : ∀ r, q = some r -> EB P r.f r.c) : ∀ {os : List Oper} {i : Nat} {L : DL} {H : Hp} {nb : Nat} {rows : List Rw} {ps : List Prop} {d : D} {nb' : Nat}, Hj ops ex q p dd i os L H nb = some (rows, ps, d, nb') -> AllP ps ->
  ∀(j:Nat) (b:Oper×Rw),(os.zip rows)[j]? =some b->dd.testBit (i+j)=false->
   if i+j=p then ∃e,b.2=some e/\gW ops (((os.zip rows).take j).foldl Hb L) b.1=some true/\Xn P n b.1 (BG (((os.zip rows).take j).foldl Hb L) (MC ops b.1)) (A7 (((os.zip rows).take j).foldl IL H)) e d
   else N0 P n ops (((os.zip rows).take j).foldl Hb L) (((os.zip rows).take j).foldl IL H) b:=by
 intro os
 induction os with
 |nil=>intro i L H nb rows ps d nb' _ _ j b hb;simp at hb
 |cons o os ih=>
  intro i L H nb rows ps d nb' h hp j b hb hdd
  have tail : ∀ {r1 : Rw} {rows' : List Rw} {L' : DL} {H' : Hp} {nb2 : Nat} {ps' : List Prop} {d' : D}, rows = r1 :: rows' -> Hj ops ex q p dd (i + 1) os L' H' nb2 = some (rows', ps', d', nb') -> AllP ps' -> Hb L (o, r1) = L' -> IL H (o, r1) = H' -> (∀ j', j = j' + 1 -> i + j = p -> d' = d) -> (j = 0 -> b = (o, r1) -> if i + 0 = p then ∃ e, b.2 = some e /\ gW ops L b.1 = some true /\ Xn P n b.1 (BG L (MC ops b.1)) (A7 H) e d else N0 P n ops L H b) ->
    if i+j=p then ∃e,b.2=some e/\gW ops ((((o::os).zip rows).take j).foldl Hb L) b.1=some true/\Xn P n b.1 (BG ((((o::os).zip rows).take j).foldl Hb L) (MC ops b.1)) (A7 ((((o::os).zip rows).take j).foldl IL H)) e d
    else N0 P n ops ((((o::os).zip rows).take j).foldl Hb L) ((((o::os).zip rows).take j).foldl IL H) b:=by
   intro r1 rows' L' H' nb2 ps' d' hr hpl hp' hL hH hdt h0
   subst hr
   cases j with
   |zero=>
    have hb':(o,r1)=b:=by simpa using hb
    have :=h0 rfl hb'.symm
    simpa using this
   |succ j'=>
    have hb':(os.zip rows')[j']? =some b:=by simpa using hb
    have :=ih hpl hp' j' b hb' (by rw[show i+1+j'=i+(j'+1) by omega];exact hdd)
    rw[show i+1+j'=i+(j'+1) by omega]at this
    have e1:(((o::os).zip (r1::rows')).take (j'+1)).foldl Hb L=((os.zip rows').take j').foldl Hb L':=by rw[<-hL];rfl
    have e2:(((o::os).zip (r1::rows')).take (j'+1)).foldl IL H=((os.zip rows').take j').foldl IL H':=by rw[<-hH];rfl
    rw[e1,e2]
    by_cases hip:i+(j'+1)=p
    ·rw[ah hip]at this⊢
     rw[hdt j' rfl hip]at this
     exact this
    ·rw[aj hip]at this⊢
     exact this
  simp only[Hj]at h
  cases hdi:dd.testBit i with
  |true=>
   rw[hdi]at h
   simp only[cond_true]at h
   obtain⟨⟨r1,r2,r3,r4⟩,h1,h2⟩:=ak.1 h
   simp only[Prod.mk.injEq]at h2
   obtain⟨h2a,rfl,rfl,rfl⟩:=h2
   refine tail h2a.symm h1 hp rfl rfl (λ_ _ _=>rfl) λhj _=> ?_
   subst hj
   rw[eC,hdi]at hdd
   cases hdd
  |false=>
   rw[hdi]at h
   simp only[cond_false]at h
   cases hg:gW ops L o with
   |none=>rw[hg]at h;cases h
   |some c=>
    rw[hg]at h
    cases c with
    |false=>
     simp only at h
     cases hip:Nat.beq i p with
     |true=>rw[hip]at h;cases h
     |false=>
      rw[hip]at h
      simp only[cond_false]at h
      obtain⟨⟨r1,r2,r3,r4⟩,h1,h2⟩:=ak.1 h
      simp only[Prod.mk.injEq]at h2
      obtain⟨h2a,rfl,rfl,rfl⟩:=h2
      refine tail h2a.symm h1 hp rfl rfl (λ_ _ _=>rfl) λhj hb0=> ?_
      subst hb0
      rw[aj (λe=>by rw[eC]at e;rw[e,et]at hip;cases hip)]
      exact hg
    |true=>
     simp only at h
     cases hip:Nat.beq i p with
     |true=>
      have hip':=aq hip
      rw[hip]at h
      simp only[cond_true]at h
      cases he:Rv q (BG L (MC ops o)) H o with
      |none=>rw[he]at h;cases h
      |some x=>
       obtain⟨e,d1,qs⟩:=x
       rw[he]at h
       simp only at h
       obtain⟨⟨r1,r2,r3,r4⟩,h1,h2⟩:=ak.1 h
       simp only[Prod.mk.injEq]at h2
       obtain⟨h2a,rfl,rfl,rfl⟩:=h2
       rw[AllP.append]at hp
       refine tail h2a.symm h1 hp.2 rfl rfl (λj' hj hp2=>by omega) λhj hb0=> ?_
       subst hb0
       rw[ah (by omega)]
       exact⟨e,rfl,hg,(dM hc he hp.1).2⟩
     |false=>
      rw[hip]at h
      simp only[cond_false]at h
      cases he:ex i (BG L (MC ops o)) H nb o with
      |none=>rw[he]at h;cases h
      |some x=>
       obtain⟨e,qs⟩:=x
       rw[he]at h
       simp only at h
       obtain⟨⟨r1,r2,r3,r4⟩,h1,h2⟩:=ak.1 h
       simp only[Prod.mk.injEq]at h2
       obtain⟨h2a,rfl,rfl,rfl⟩:=h2
       rw[AllP.append]at hp
       refine tail h2a.symm h1 hp.2 rfl rfl (λ_ _ _=>rfl) λhj hb0=> ?_
       subst hb0
       rw[aj (λe=>by rw[eC]at e;rw[e,et]at hip;cases hip)]
       exact⟨hg,hex _ _ _ _ _ _ _ he hp.1⟩
section
variable {P:Program} {n nb nb':Nat} {l:List Oper} {rows:List Rw} {L0:DL} {H0:Hp} {S0:Nat->Prop} {g0:G} {w0:World} {Q:Exit->Act->World->Prop} {a:Act} {w:World}
theorem Jc (hc : ChkR n nb nb' l rows) {i : Nat} {o : Oper} {e : Eff} {dv : D} (hz : (l.zip rows)[i]? = some (o, some e)) (hdi : Nat.blt i i = false) (hcl : ∀ i' j, CS l i' j -> Nat.blt i' i = true -> Nat.blt j i = true) (hah : ∀ j, CS l i j -> Nat.blt j i = true)
  (hg:gW l (((l.zip rows).take i).foldl Hb L0) o=some true) (hp:Xn P n o (BG (((l.zip rows).take i).foldl Hb L0) (MC l o)) (A7 (((l.zip rows).take i).foldl IL H0)) e dv)
  (hend:∀a g w v,St n S0 g0 w0 (((l.zip rows).take i).foldl Hb L0) (((l.zip rows).take (i+1)).foldl IL H0) nb' a g w->Sm g w dv v->Q (.panic [{v,recovered:=false}]) a w) (hle:nb<=nb') {K:Act->World->Prop} (h:RI n S0 g0 w0 l rows L0 H0 nb (λj=>Nat.blt j i) a w):wpOp P l.toArray Q i K a w:=by
 obtain⟨g,V,hfr,hHS,hfoot,hw⟩:=XJ (d:=λj=>Nat.blt j i) hc hz hdi hcl hah h
 have ho:l[i]? =some o:=(dx.1 hz).1
 unfold wpOp
 simp only[db,ho]
 rw[ah (hw true hg)]
 refine .inl (hp _ g w hHS hfr.get a K Q hfr.frm ?_)
 rintro v w' ⟨g',hpo⟩
 have eL:∀t,lw (λj=>Nat.blt j i) fL 0 (l.zip rows) (Ej L0) t=Ej (((l.zip rows).take i).foldl Hb L0) t:=λt=>by
  have :=Kv (f:=fL) (bs:=l.zip rows) (i:=0) (j:=i) (H:=Ej L0) (k:=t)
  rw[br]at this
  rw[this,Ro]
 have eH:∀k,lw (λj=>Nat.blt j i) fH 0 (l.zip rows) (A7 H0) k=A7 (((l.zip rows).take i).foldl IL H0) k:=λk=>by
  have :=Kv (f:=fH) (bs:=l.zip rows) (i:=0) (j:=i) (H:=A7 H0) (k:=k)
  rw[br]at this
  rw[this,Rq]
 have hS1:SS n S0 g0 w0 (Ej (((l.zip rows).take i).foldl Hb L0)) (A7 (((l.zip rows).take i).foldl IL H0)) (· <nb') a g w:=V.weak (λt d ht=>by rw[eL];exact ht) (λk o hk=>by rw[eH];exact hk) λk hk=>by
  rcases hk with hk|⟨j,b,hb,_,hk⟩
  ·exact b_ hk hle
  ·obtain⟨_,hz'⟩:=dx.1 hb
   exact(hc.name b.2 (ee hz') k hk).2
 have htake:((l.zip rows).take (i+1)).foldl IL H0=G3 (some e)++((l.zip rows).take i).foldl IL H0:=by
  rw[List.take_add_one,hz,List.foldl_append];rfl
 have hS2:=SS.step hS1 (dst:=none) (λt h=>by cases h) hpo (L':=Ej (((l.zip rows).take i).foldl Hb L0)) (H':=A7 (((l.zip rows).take (i+1)).foldl IL H0)) (nm':=(· <nb')) (λt d h=> .inr ⟨(by simp),h⟩) (λk o h=>by
  rw[htake]at h
  have h:=B2.1 h
  rw[Ld]at h
  cases hb:Fx (G3 (some e)) k with
  |none=>
   rw[hb]at h
   exact .inr ⟨λhk=>H6.1 hk hb,B2.2 h⟩
  |some x=>
   rw[hb]at h
   simp only[Option.some.injEq]at h
   subst h
   exact .inl (B2.2 hb)) (λk h=>by
  rcases h with h|h
  ·exact h
  ·obtain⟨_,hz'⟩:=dx.1 hz
   exact(hc.name _ (ee hz') k h).2)
 exact hend a g' w' v hS2 hpo.r
end
def y7 (n:Nat) (ops:List Oper) (ex:Ex) (q:Option CR) (p dd:Nat) (L:DL) (H:Hp) (nb:Nat):Option (List Prop×D×DL×Hp×Nat):=match Hj ops ex q p dd 0 ops L H nb with
 |some (rows,ps,d,nb')=>bif Sj n nb nb' ops rows&&dZ false ops p dd&&Nat.blt p ops.length&& !(dd.testBit p)&&Nat.ble nb nb' then some (ps,d,((ops.zip rows).take p).foldl Hb L,((ops.zip rows).take (p+1)).foldl IL H,nb')else none
 |none=>none
section
variable {P:Program} {n:Nat} {ops:List Oper} {ex:Ex} {L:DL} {H:Hp} {nb:Nat} {S0:Nat->Prop} {g0 g:G} {w0 w:World} {Q:Exit->Act->World->Prop} {a:Act}
theorem VT {id : Nat} (hex : N4 P n ex) {q : Option CR} (hc : ∀ r, q = some r -> EB P r.f r.c) (p dd : Nat) {ps : List Prop} {d : D} {L1 : DL} {H1 : Hp} {nb1 : Nat} (h : y7 n ops ex q p dd L H nb = some (ps, d, L1, H1, nb1)) (hp : AllP ps) (V : St n S0 g0 w0 L H nb a g w)
  (hend:∀a g w v,St n S0 g0 w0 L1 H1 nb1 a g w->Sm g w d v->Q (.panic [{v,recovered:=false}]) a w):(Code.region id ops.toArray false).wp P Q a w:=by
 unfold y7 at h
 cases hx:Hj ops ex q p dd 0 ops L H nb with
 |none=>rw[hx]at h;cases h
 |some x=>
  obtain⟨rows,qs,d1,nb'⟩:=x
  rw[hx]at h
  simp only at h
  cases hb:Sj n nb nb' ops rows&&dZ false ops p dd&&Nat.blt p ops.length&& !(dd.testBit p)&&Nat.ble nb nb' with
  |false=>rw[hb]at h;cases h
  |true=>
   rw[hb]at h
   cases h
   simp only[ao,fb,ay]at hb
   obtain⟨⟨⟨⟨b1,b2⟩,b3⟩,b4⟩,b5⟩:=hb
   have hck:=ChkR.of b1
   have rowAt:=λj b (hz:(ops.zip rows)[j]? =some b) (hd:dd.testBit j=false)=>by
    have :=cP hex hc hx hp j b hz (by rw[br];exact hd)
    rw[br]at this
    exact this
   have ini:∀w,St n S0 g0 w0 L H nb a g w->RI n S0 g0 w0 ops rows L H nb (λ_=>false) a w:=λw hs=>⟨g,hs.weak (λt d ht=>by rw[LH]at ht;exact ht) (λk o hk=>by rw[LH]at hk;exact hk) λk hk=> .inl hk⟩
   obtain⟨op,rp,ho,hrp,hzp⟩:=TA hck b3
   obtain⟨e,he1,he2,he3⟩:∃e,rp=some e/\_/\_:=by
    have :=rowAt p (op,rp) hzp b4
    rw[ah rfl]at this
    exact this
   subst he1
   have dead:∀i,i<ops.length->dd.testBit i=true->Nat.blt p i=true:=λi hi hd=>by
    have :=ax.1 b2 i (eo.2 hi)
    rw[hd]at this
    simpa using this
   refine Jr (λd a w=>RI n S0 g0 w0 ops rows L H nb d a w/\d p=false) ⟨ini _ V,rfl⟩ (λd d' a w hd hI=>⟨OX hck.len hd hI.1,by rw[<-hd p b3];exact hI.2⟩) (λi a w hi hI=> ?_) λa w hI=>by have :=hI.2;cases this
   have ahead_lt:∀i j,CS ops i j->j<i:=λi j ha=>by
    induction ha with
    |edge h1 h2 h3=>exact hck.back _ _ h1 _ h2 h3
    |trans _ _ ih1 ih2=>omega
   have k1:Nat.blt i i=false:=by
    cases hb:Nat.blt i i with
    |false=>rfl
    |true=>rw[ay]at hb;omega
   have k2:∀i' j,CS ops i' j->Nat.blt i' i=true->Nat.blt j i=true:=λi' j ha hi'=>by
    rw[ay]at hi'⊢;have :=ahead_lt _ _ ha;omega
   have k3:∀j,CS ops i j->Nat.blt j i=true:=λj ha=>by rw[ay];exact ahead_lt _ _ ha
   have hpi:¬p<i:=λhlt=>by
    have :Nat.blt p i=true:=by rw[ay];exact hlt
    have h2:Nat.blt p i=false:=hI.2
    rw[this]at h2;cases h2
   by_cases hip:i=p
   ·subst hip
    exact Jc hck hzp k1 k2 k3 he2 he3 hend (bq b5) hI.1
   ·have hnd : dd.testBit i = false := by
     cases hd:dd.testBit i with
     |false=>rfl
     |true=>
      have h1:=dead i hi hd
      simp only[ay]at h1
      exact absurd h1 hpi
    refine wpOp_mono (λa' w' hri=>⟨hri,?_⟩) (Is (d:=λj=>Nat.blt j i) hck (λb hb=>by have :=rowAt i b hb hnd;rwa [aj hip]at this) hi k1 k2 k3 hI.1)
    show(bif Nat.beq p i then true else Nat.blt p i)=false
    rw[BF (λe=>hip e.symm)]
    exact hI.2
end
def wI (n:Nat) (ops:List Oper) (ex:Ex) (q:Option CR) (p dd:Nat) (L:DL) (H:Hp) (nb:Nat) (kL kH:List Nat):Option (List Prop×D×DL×Hp×Nat):=(y7 n ops ex q p dd L H nb).map λx=>(x.1,x.2.1,BG x.2.2.1 kL,F0 x.2.2.2.1 kH,x.2.2.2.2)
section
variable {n nb:Nat} {g0:G} {S0:Nat->Prop} {w0:World} {L:DL} {H:Hp} {a:Act} {g:G} {w:World} {Q:Exit->Act->World->Prop}
theorem Fl {E : fK} (hZ : YX E.P E.Z) (C : List (Nat × Rx)) (hC : CsOk E.P C) (q : Option CR) (hq : ∀ r, q = some r -> EB E.P r.f r.c) (p dd : Nat) (ps : List (Nat × Rx) -> List Prop) (d : D) (kL kH : List Nat) (Lo : DL) (Ho : Hp) (nb1 : Nat) {id : Nat} {ops : List Oper}
  (h:wI n ops (Yi E C) q p dd L H nb kL kH=some (ps C,d,Lo,Ho,nb1)) (hp:AllP (ps C)) (V:St n S0 g0 w0 L H nb a g w) (hend:∀a g w v,St n S0 g0 w0 Lo Ho nb1 a g w->Sm g w d v->Q (.panic [{v,recovered:=false}]) a w):(Code.region id ops.toArray false).wp E.P Q a w:=by
 unfold wI at h
 obtain⟨⟨x1,x2,x3,x4,x5⟩,h1,h2⟩:=ak.1 h
 simp only[Prod.mk.injEq]at h2
 obtain⟨rfl,rfl,rfl,rfl,rfl⟩:=h2
 exact VT (Ia hZ hC) hq p dd h1 hp V λa g w v hS' hv=>hend a g w v (SS.weak hS' (λt d ht=>(Fb ht).2) (λk o hk=>Kw hk) λ_ h=>h) hv
theorem Ml {P:Program} (hD:Dfr.ds=([]:List Deferred)) {fn:Func} {c:Con} {v:Value} (V:St n (c.foot g0) g0 w0 L H nb a g w) {d:D} (hv:Sm g w d v) (hd:d=c.res) (h1:E6 H c.H1 true):bodyPost P fn (λe w'=>∃v,e=pn v/\∃g',Ek c g0 w0 v g' w') (.panic [{v,recovered:=false}]) a w:=by
 have key:∀k o,E4 c.H1 k=some o->A7 H k=some o:=by
  have :∀(r:Hc),E6 H r true->∀k o,E4 r k=some o->A7 H k=some o:=by
   intro r
   induction r with
   |nil=>intro _ k o h;cases h
   |cons p r ih=>
    obtain⟨s,u⟩:=p
    intro hh k o h
    simp only[E4]at h
    by_cases e:s=k
    ·subst e;simp at h;subst h;exact hh.1
    ·rw[BF e]at h;exact ih hh.2 k o h
  exact this c.H1 h1
 exact⟨V.defers.trans hD,v,rfl,g,V.go,hd▸hv,V.hs.sub key,λk o hk b hb=>V.fp k o (key k o hk) b hb⟩
end
end Go.Sx
