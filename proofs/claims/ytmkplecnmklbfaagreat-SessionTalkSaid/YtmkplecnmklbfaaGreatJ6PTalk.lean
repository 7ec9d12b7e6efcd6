/- General lemmas, walks. -/
import Derived.Shelf.RegionOpenPlain
import Derived.WalkKit
import Derived.Deep.LoopGhost
import Derived.Deep.RegionLaw
import Derived.Lib.Walk
import Derived.Lib.SliceRun
import Derived.Lib.SlicesDelete
import Derived.Deep.MidRow
import Derived.Test.YtmkplecnmklbfaaGreatJ5PTalk
set_option maxRecDepth 100000
set_option maxHeartbeats 1000000
set_option linter.unusedSimpArgs false
set_option linter.unusedVariables false
set_option linter.unnecessarySimpa false
set_option linter.unusedSectionVars false
namespace Go.Sx.Tryz
open Go.Mi Go.RowKit Go.Sx Go.Proofs
noncomputable section
def Ob9 (x0:Nat→Int):O:= .ob 177 (chain [.ar .u32 8 x0])
def Aew (x0:Nat→Int):O:= .ob 201 (chain [.ar .u32 64 x0])
def s9 (xs:List Int):Con:=⟨[lb xs],[],.sk 0,[(0,.sl 5 [.int .u8] xs)]⟩
theorem gB (xs:List Int) (h:xs.length≤100000000000000):ConOk Tryz.prog 81 (s9 xs):=by
 refine cy 0 Tryz.func81 rfl Tryz.ntmps81 fun hg0 hS=> ?_
 have A7:xs.length≤9223372036854775807:=hS.len 0 rfl
 refine Ae [] 0 hS fun hS=>Il ?_
 rcases hS.nilor 0 [.int .u8] xs with⟨hn1,hS⟩|hS
 ·subst hn1
  refine Dj [] 0 hS fun hS=>Ab (AO hS (Ae [] 0 hS fun hS=>AR (Af ?_)))
  obtain⟨gs,hS⟩:=hS.nilk 2 5 [.int .u8]
  exact BW hS
 ·refine Dj [] 0 hS fun hS=>Ab (Ai hS (BP (Ax [(0,Row),(2,FW 0 xs.length 1)] [] 2 hS fun hS=>AR ?_)))
  obtain⟨gs,hS⟩:=hS.rx [(0,1)] [2] [0] 1 hg0
  exact BW hS
def VR:(Nat→Int):=upd (upd (upd (upd (upd (upd (upd (upd (fun _=>0) 0 7640891576956012808) 1 13503953896175478587) 2 4354685564936845355) 3 11912009170470909681) 4 5840696475078001361) 5 11170449401992604703) 6 2270897969802886507) 7 6620516959819538809
def LC:(Nat→Int):=AJ (VR)
theorem kF:LC=VR:=Ag _
def rM (z_:(Nat→Int):=LC):Con:=⟨[],[],.ar .u64 8 z_,[]⟩
theorem dS:ConOk Tryz.prog 188 (rM):=by
 exact cy 0 Tryz.func188 rfl Tryz.ntmps188 fun hg0 hS=>Ae [] 1 hS fun hS=>Ae [] 1 hS fun hS=>AR (Bi (kF ..) hS)
def R9:(Nat→Int):=upd (upd (upd (upd (upd (upd (upd (upd (upd (upd (upd (upd (upd (upd (upd (upd (upd (upd (upd (upd (upd (upd (upd (upd (upd (upd (upd (upd (upd (upd (upd (upd (upd (upd (upd (upd (upd (upd (upd (upd (upd (upd (upd (upd (upd (upd (upd (upd (upd (upd (upd (upd (upd (upd (upd (upd (upd (upd (upd (upd (upd (upd (upd (upd (upd (upd (upd (upd (upd (upd (upd (upd (upd (upd (upd (upd (upd (upd (upd (upd (fun _=>0) 0 4794697086780616226) 1 8158064640168781261) 2 13096744586834688815) 3 16840607885511220156) 4 4131703408338449720) 5 6480981068601479193) 6 10538285296894168987) 7 12329834152419229976) 8 15566598209576043074) 9 1334009975649890238) 10 2608012711638119052) 11 6128411473006802146) 12 8268148722764581231) 13 9286055187155687089) 14 11230858885718282805) 15 13951009754708518548) 16 16472876342353939154) 17 17275323862435702243) 18 1135362057144423861) 19 2597628984639134821) 20 3308224258029322869) 21 5365058923640841347) 22 6679025012923562964) 23 8573033837759648693) 24 10970295158949994411) 25 12119686244451234320) 26 12683024718118986047) 27 13788192230050041572) 28 14330467153632333762) 29 15395433587784984357) 30 489312712824947311) 31 1452737877330783856) 32 2861767655752347644) 33 3322285676063803686) 34 5560940570517711597) 35 5996557281743188959) 36 7280758554555802590) 37 8532644243296465576) 38 9350256976987008742) 39 10552545826968843579) 40 11727347734174303076) 41 12113106623233404929) 42 14000437183269869457) 43 14369950271660146224) 44 15101387698204529176) 45 15463397548674623760) 46 17586052441742319658) 47 1182934255886127544) 48 1847814050463011016) 49 2177327727835720531) 50 2830643537854262169) 51 3796741975233480872) 52 4115178125766777443) 53 5681478168544905931) 54 6601373596472566643) 55 7507060721942968483) 56 8399075790359081724) 57 8693463985226723168) 58 9568029438360202098) 59 10144078919501101548) 60 10430055236837252648) 61 11840083180663258601) 62 13761210420658862357) 63 14299343276471374635) 64 14566680578165727644) 65 15097957966210449927) 66 16922976911328602910) 67 17689382322260857208) 68 500013540394364858) 69 748580250866718886) 70 1242879168328830382) 71 1977374033974150939) 72 2944078676154940804) 73 3659926193048069267) 74 4368137639120453308) 75 4836135668995329356) 76 5532061633213252278) 77 6448918945643986474) 78 6902733635092675308) 79 7801388544844847127
def Gc:(Nat→Int):=AJ (R9)
theorem dT:Gc=R9:=Ag _
def gP (z_:(Nat→Int):=Gc):Con:=⟨[],[],.ar .u64 80 z_,[]⟩
theorem Yc:ConOk Tryz.prog 189 (gP):=by
 exact cy 0 Tryz.func189 rfl Tryz.ntmps189 fun hg0 hS=>Ae [] 1 hS fun hS=>Ae [] 1 hS fun hS=>AR (Bi (dT ..) hS)
def SQ (x6:Nat):(Nat→Int)→(Nat→Int):=fun o1_0=>upd o1_0 x6 (AK .u32 (o1_0 x6) (IntKind.wrap .u32 (AY .u64 (LC x6) 32)))
section
variable (h:Nat→Int)
def Up (h:Nat→Int):Nat→(Nat→Int)
 |0=>h
 |x6+1=>SQ x6 (Up h x6)
def m9:(Nat→Int):=Up h 8
def KM:(Nat→Int):=AJ (m9 h)
theorem Acn:KM h=m9 h:=Ag _
def AdP (z_:(Nat→Int):=KM h):Con:=⟨[.ar .u32 8 h],[],.ar .u32 8 z_,[]⟩
theorem Uo:ConOk Tryz.prog 162 (AdP h):=by
 refine cy 0 Tryz.func162 rfl Tryz.ntmps162 fun hg0 hS=>Ae [] 2 hS fun hS=>Av (Ax [(0,AP (dS))] [] 2 hS fun hS=>Br (Ar (ι:=Nat×(Nat→Int)) hg0 hS (fun(x6,o1_0)=>(8-x6,[(6,vi ((x6:Nat):Int))],[(0,Ob9 o1_0)],(x6≤8)∧(o1_0=Up h x6)∧True)) [1,2,5] [1] 2 (0,h) [(0,0),(1,1)] ⟨Ac,rfl,trivial⟩ ?_))
 rintro⟨x6,o1_0⟩ ac gs ws ⟨hx6,hq1,_⟩ hS
 refine Ae [] 2 hS fun hS=>Av (AB ((x6:Int)<8) hS (fun h1=> ?_) (fun h1=> ?_))
 ·exact BE (Ax [(1,AD x6 8)] [] 2 hS fun hS=>As [(1,AD x6 8),(4,EQ 32),(7,AD x6 8)] [] 2 hS fun hS=>BV (As [(0,BH x6)] [6] 2 hS fun hS=>Ab (Al hg0 hS (x6+1,upd o1_0 x6 (AK .u32 (o1_0 x6) (IntKind.wrap .u32 (AY .u64 (LC x6) 32)))) [(0,0),(1,1)] ⟨Ac,(A3 (st:=SQ) hq1 rfl rfl),trivial⟩)))
 ·have hT:=hS
  obtain rfl:8=x6:=by omega
  obtain rfl:=hq1.symm
  have hS:=hT
  exact CO (Ae [] 2 hS fun hS=>AR (Bi (Acn ..) hS))
end
def HT (xs:List Int) (x22:Nat):(Nat→Int)→(Nat→Int):=fun o5_0=>if(x22:Int)<16 then upd o5_0 x22 (OH (xs.drop (4*x22)))else upd o5_0 x22 (AZ .u32 (AZ .u32 (AZ .u32 (o5_0 (x22-16)) (AK .u32 (AK .u32 (BB (o5_0 (x22-15)) (-7)) (BB (o5_0 (x22-15)) (-18))) (AY .u32 (o5_0 (x22-15)) 3))) (o5_0 (x22-7))) (AK .u32 (AK .u32 (BB (o5_0 (x22-2)) (-17)) (BB (o5_0 (x22-2)) (-19))) (AY .u32 (o5_0 (x22-2)) 10)))
def Fa (xs:List Int):Nat→(Nat→Int)
 |0=>fun _=>0
 |x22+1=>HT xs x22 (Fa xs x22)
def LB (xs:List Int) (x75:Nat):(Nat→Int)→(Nat→Int):=fun o12_0=>upd (upd (upd (upd (upd (upd (upd (upd (fun _=>0) 0 (AZ .u32 (AZ .u32 (AZ .u32 (AZ .u32 (AZ .u32 (o12_0 7) (AK .u32 (AK .u32 (BB (o12_0 4) (-6)) (BB (o12_0 4) (-11))) (BB (o12_0 4) (-25)))) (AK .u32 (A6 .u32 (o12_0 4) (o12_0 5)) (A6 .u32 (KW .u32 (o12_0 4)) (o12_0 6)))) (IntKind.wrap .u32 (AY .u64 (Gc x75) 32))) ((Fa xs 64) x75)) (AZ .u32 (AK .u32 (AK .u32 (BB (o12_0 0) (-2)) (BB (o12_0 0) (-13))) (BB (o12_0 0) (-22))) (AK .u32 (AK .u32 (A6 .u32 (o12_0 0) (o12_0 1)) (A6 .u32 (o12_0 0) (o12_0 2))) (A6 .u32 (o12_0 1) (o12_0 2)))))) 1 (o12_0 0)) 2 (o12_0 1)) 3 (o12_0 2)) 4 (AZ .u32 (o12_0 3) (AZ .u32 (AZ .u32 (AZ .u32 (AZ .u32 (o12_0 7) (AK .u32 (AK .u32 (BB (o12_0 4) (-6)) (BB (o12_0 4) (-11))) (BB (o12_0 4) (-25)))) (AK .u32 (A6 .u32 (o12_0 4) (o12_0 5)) (A6 .u32 (KW .u32 (o12_0 4)) (o12_0 6)))) (IntKind.wrap .u32 (AY .u64 (Gc x75) 32))) ((Fa xs 64) x75)))) 5 (o12_0 4)) 6 (o12_0 5)) 7 (o12_0 6)
section
variable (h:Nat→Int) (xs:List Int)
def HR (h:Nat→Int) (xs:List Int):Nat→(Nat→Int)
 |0=>h
 |x75+1=>LB xs x75 (HR h xs x75)
def LA (x159:Nat):(Nat→Int)→(Nat→Int):=fun o2_0=>upd o2_0 x159 (AZ .u32 (o2_0 x159) ((HR h xs 64) x159))
def Kx (h:Nat→Int) (xs:List Int):Nat→(Nat→Int)
 |0=>h
 |x159+1=>LA h xs x159 (Kx h xs x159)
def R7:(Nat→Int):=Kx h xs 8
def Gb:(Nat→Int):=AJ (R7 h xs)
theorem dL:Gb h xs=R7 h xs:=Ag _
def gL (z_:(Nat→Int):=Gb h xs):Con:=⟨[.ar .u32 8 h,lb xs],[],.ar .u32 8 z_,[]⟩
theorem Pp (hx:64≤xs.length):ConOk Tryz.prog 163 (gL h xs):=by
 refine cy 0 Tryz.func163 rfl Tryz.ntmps163 fun hg0 hS=> ?_
 have Be:xs.length≤9223372036854775807:=hS.len 1 rfl
 refine Ae [] 2 hS fun hS=>Ae [] 3 hS fun hS=>Ax [(0,AP (Yc))] [6] 4 hS fun hS=>Av (Ae [] 4 hS fun hS=>Br (Ar (ι:=Nat×(Nat→Int)) hg0 hS (fun(x22,o5_0)=>(64-x22,[(22,vi ((x22:Nat):Int))],[(2,Aew o5_0)],(x22≤64)∧(o5_0=Fa xs x22)∧True)) [1,2,4,5,6] [0,1,3] 4 (0,fun _=>0) [(0,0),(1,1),(2,2),(3,3)] ⟨Ac,rfl,trivial⟩ ?_))
 rintro⟨x22,o5_0⟩ ac gs ws ⟨hx22,hq1,_⟩ hS
 refine Ae [] 4 hS fun hS=>Av (AB ((x22:Int)<64) hS (fun h1=> ?_) (fun h1=> ?_))
 ·refine BE (Ae [] 4 hS fun hS=>Av (Ae [] 4 hS fun hS=>AB ((x22:Int)<16) hS (fun h2=> ?_) (fun h2=> ?_)))
  ·exact Ax [(3,HJ 4 x22 (4*x22)),(4,O2 (4*x22) xs.length),(5,AP (oP (xs.drop (4*x22)))),(6,AD x22 64)] [] 4 hS fun hS=>cnc (D7 (Fv (Ab (As [(0,BH x22)] [22] 4 hS fun hS=>Ab (Al hg0 hS (x22+1,upd o5_0 x22 (OH (xs.drop (4*x22)))) [(0,0),(1,1),(2,2),(3,3)] ⟨Ac,(A3 (st:=HT _) hq1 rfl (Eq.symm (if_pos h2))),trivial⟩)))))
  ·exact BP (Ax [(1,G9 x22 15 (x22-15)),(2,AD (x22-15) 64),(5,G9 x22 2 (x22-2)),(6,AD (x22-2) 64)] [] 4 hS fun hS=>Ax [(1,AP (Em (o5_0 (x22-15)) (-7))),(3,AP (Em (o5_0 (x22-15)) (-18))),(6,EQ 3)] [] 4 hS fun hS=>Ax [(1,AP (Em (o5_0 (x22-2)) (-17))),(3,AP (Em (o5_0 (x22-2)) (-19))),(6,EQ 10)] [] 4 hS fun hS=>As [(2,G9 x22 16 (x22-16)),(3,AD (x22-16) 64),(8,G9 x22 7 (x22-7)),(9,AD (x22-7) 64),(14,AD x22 64)] [] 4 hS fun hS=>BV (As [(0,BH x22)] [22] 4 hS fun hS=>Ab (Al hg0 hS (x22+1,upd o5_0 x22 (AZ .u32 (AZ .u32 (AZ .u32 (o5_0 (x22-16)) (AK .u32 (AK .u32 (BB (o5_0 (x22-15)) (-7)) (BB (o5_0 (x22-15)) (-18))) (AY .u32 (o5_0 (x22-15)) 3))) (o5_0 (x22-7))) (AK .u32 (AK .u32 (BB (o5_0 (x22-2)) (-17)) (BB (o5_0 (x22-2)) (-19))) (AY .u32 (o5_0 (x22-2)) 10)))) [(0,0),(1,1),(2,2),(3,3)] ⟨Ac,(A3 (st:=HT _) hq1 rfl (Eq.symm (if_neg h2))),trivial⟩)))
 ·have hT:=hS
  obtain rfl:64=x22:=by omega
  obtain rfl:=hq1.symm
  have hS:=hT
  refine CO (Ae [12] 5 hS fun hS=>Av (Ae [] 5 hS fun hS=>Br (Ar (ι:=Nat×(Nat→Int)) hg0 hS (fun(x75,o12_0)=>(64-x75,[(75,vi ((x75:Nat):Int))],[(4,Ob9 o12_0)],(x75≤64)∧(o12_0=HR h xs x75)∧True)) [2,4,5,6,12] [0,1,2,3] 5 (0,h) [(0,0),(1,1),(2,2),(3,3),(4,4)] ⟨Ac,rfl,trivial⟩ ?_)))
  rintro⟨x75,o12_0⟩ ac gs ws ⟨hx75,hq2,_⟩ hS
  refine Ae [] 5 hS fun hS=>Av (AB ((x75:Int)<64) hS (fun h3=> ?_) (fun h3=> ?_))
  ·exact BE (Ae [] 5 hS fun hS=>Ax [(0,AD 0 8),(2,AD 4 8)] [] 5 hS fun hS=>Ax [(1,AP (Em (o12_0 4) (-6))),(3,AP (Em (o12_0 4) (-11))),(6,AP (Em (o12_0 4) (-25)))] [] 5 hS fun hS=>Ax [(0,AD 7 8),(5,AD 5 8),(10,AD 6 8),(16,AD x75 80),(18,EQ 32),(22,AD x75 64)] [] 5 hS fun hS=>Ax [(1,AP (Em (o12_0 0) (-2))),(3,AP (Em (o12_0 0) (-13))),(6,AP (Em (o12_0 0) (-22)))] [] 5 hS fun hS=>Ax [(2,AD 1 8),(6,AD 2 8),(10,AD 1 8),(12,AD 2 8)] [] 5 hS fun hS=>As [(4,AD 1 8),(6,AD 2 8),(8,AD 3 8),(13,AD 5 8),(15,AD 6 8)] [] 5 hS fun hS=>BV (As [(0,BH x75)] [75] 5 hS fun hS=>Ab (Al hg0 hS (x75+1,upd (upd (upd (upd (upd (upd (upd (upd (fun _=>0) 0 (AZ .u32 (AZ .u32 (AZ .u32 (AZ .u32 (AZ .u32 (o12_0 7) (AK .u32 (AK .u32 (BB (o12_0 4) (-6)) (BB (o12_0 4) (-11))) (BB (o12_0 4) (-25)))) (AK .u32 (A6 .u32 (o12_0 4) (o12_0 5)) (A6 .u32 (KW .u32 (o12_0 4)) (o12_0 6)))) (IntKind.wrap .u32 (AY .u64 (Gc x75) 32))) ((Fa xs 64) x75)) (AZ .u32 (AK .u32 (AK .u32 (BB (o12_0 0) (-2)) (BB (o12_0 0) (-13))) (BB (o12_0 0) (-22))) (AK .u32 (AK .u32 (A6 .u32 (o12_0 0) (o12_0 1)) (A6 .u32 (o12_0 0) (o12_0 2))) (A6 .u32 (o12_0 1) (o12_0 2)))))) 1 (o12_0 0)) 2 (o12_0 1)) 3 (o12_0 2)) 4 (AZ .u32 (o12_0 3) (AZ .u32 (AZ .u32 (AZ .u32 (AZ .u32 (o12_0 7) (AK .u32 (AK .u32 (BB (o12_0 4) (-6)) (BB (o12_0 4) (-11))) (BB (o12_0 4) (-25)))) (AK .u32 (A6 .u32 (o12_0 4) (o12_0 5)) (A6 .u32 (KW .u32 (o12_0 4)) (o12_0 6)))) (IntKind.wrap .u32 (AY .u64 (Gc x75) 32))) ((Fa xs 64) x75)))) 5 (o12_0 4)) 6 (o12_0 5)) 7 (o12_0 6)) [(0,0),(1,1),(2,2),(3,3),(4,4)] ⟨Ac,(A3 (st:=LB _) hq2 rfl rfl),trivial⟩)))
  ·have hT:=hS
   obtain rfl:64=x75:=by omega
   obtain rfl:=hq2.symm
   have hS:=hT
   refine ML (Ae [] 5 hS fun hS=>Br (Ar (ι:=Nat×(Nat→Int)) hg0 hS (fun(x159,o2_0)=>(8-x159,[(159,vi ((x159:Nat):Int))],[(0,Ob9 o2_0)],(x159≤8)∧(o2_0=Kx h xs x159)∧True)) [2,4,12] [1,4] 5 (0,h) [(0,0),(1,1),(4,4)] ⟨Ac,rfl,trivial⟩ ?_))
   rintro⟨x159,o2_0⟩ ac gs ws ⟨hx159,hq3,_⟩ hS
   refine Ae [] 5 hS fun hS=>Av (AB ((x159:Int)<8) hS (fun h4=> ?_) (fun h4=> ?_))
   ·exact BE (Ae [] 5 hS fun hS=>As [(1,AD x159 8),(4,AD x159 8),(7,AD x159 8)] [] 5 hS fun hS=>BV (As [(0,BH x159)] [159] 5 hS fun hS=>Ab (Al hg0 hS (x159+1,upd o2_0 x159 (AZ .u32 (o2_0 x159) ((HR h xs 64) x159))) [(0,0),(1,1),(4,4)] ⟨Ac,(A3 (st:=LA _ _) hq3 rfl rfl),trivial⟩)))
   ·have hT:=hS
    obtain rfl:8=x159:=by omega
    obtain rfl:=hq3.symm
    have hS:=hT
    exact CO (Ae [] 5 hS fun hS=>AR (Bi (dL ..) hS))
end
section
variable (xs:List Int) (n:Int)
def Ql:(List Int):=(((xs++([128]:List Int))++List.replicate ((120-(((xs++([128]:List Int)).length)%64))%64) (0:Int))++List.replicate 0 (0:Int))++(FD (BL .u64 8 n))
def Hu:(List Int):=AJ (Ql xs n)
theorem Wz:Hu xs n=Ql xs n:=Ag _
def sJ (z_:(List Int):=Hu xs n):Con:=⟨[lb xs,.v (.int .u64 n),vi 64],[],lb z_,[]⟩
theorem eQ (hx:xs.length≤1000000000000):ConOk Tryz.prog 164 (sJ xs n):=by
 refine cy 0 Tryz.func164 rfl Tryz.ntmps164 fun hg0 hS=> ?_
 have A7:xs.length≤9223372036854775807:=hS.len 0 rfl
 refine Ae [] 0 hS fun hS=>Ax [(1,AM (gB xs AE) [] [(0,0)]),(3,FW xs.length 1 1)] [] 2 hS fun hS=>Ax [(1,RE ((8:Int)≠0))] [] 2 hS fun hS=>Ax [(8,Ll ((xs++([128]:List Int)).length) 64),(9,G9 120 (((xs++([128]:List Int)).length)%64) (120-(((xs++([128]:List Int)).length)%64))),(11,Ll (120-(((xs++([128]:List Int)).length)%64)) 64),(12,t8 [(0:Int)≤(((120-(((xs++([128]:List Int)).length)%64))%64:Nat):Int),(xs++([128]:List Int)).length+((120-(((xs++([128]:List Int)).length)%64))%64)≤9223372036854775807,((xs++([128]:List Int)).length+((120-(((xs++([128]:List Int)).length)%64))%64))*1≤140737488355328] ⟨by omega,by simp<;>omega,by simp<;>omega,trivial⟩)] [7] 3 hS fun hS=>Ax [(3,t8 [(0:Int)≤0,((xs++([128]:List Int))++List.replicate ((120-(((xs++([128]:List Int)).length)%64))%64) (0:Int)).length+0≤9223372036854775807,(((xs++([128]:List Int))++List.replicate ((120-(((xs++([128]:List Int)).length)%64))%64) (0:Int)).length+0)*1≤140737488355328] ⟨by omega,by simp<;>omega,by simp<;>omega,trivial⟩)] [7] 4 hS fun hS=>Ax [(3,AP (Qf (BL .u64 8 n))),(4,FW ((((xs++([128]:List Int))++List.replicate ((120-(((xs++([128]:List Int)).length)%64))%64) (0:Int))++List.replicate 0 (0:Int)).length) ((FD (BL .u64 8 n)).length) 1)] [] 5 hS fun hS=>AR ?_
 obtain⟨gs,hS⟩:=hS.fz 4
 exact Bi (Wz ..) hS
end
end
end Go.Sx.Tryz
namespace Go.Sx.Tryz
open Go.Mi Go.RowKit Go.Sx Go.Proofs
noncomputable section
def Vq (x0:Nat→Int) (x1:List Int) (x2:Int):O:= .ob 179 (chain [.ar .u32 8 x0,lb x1,.v (.int .u64 x2)])
theorem YB (xs:List Int) (n:Int):(Hu xs n).length%64=0∧(Hu xs n).length≤xs.length+200:=by
 rw[Wz]
 unfold Ql
 simp only[List.length_append,List.length_cons,List.length_nil,List.length_replicate,JI]
 omega
def S7 (k1:Nat):((List Int)×(Nat→Int))→((List Int)×(Nat→Int)):=fun(x4,o5_0)=>(x4.drop 64,Gb o5_0 x4)
def Cy (h:Nat→Int) (r b:List Int):Nat→(List Int)×(Nat→Int)
 |0=>([r,b].flatten,KM h)
 |k1+1=>S7 k1 (Cy h r b k1)
def EM:((List Int)×(Nat→Int))→Prop:=fun(x4,o5_0)=>(64:Int)≤((x4.length:Nat):Int)
section
variable (h:Nat→Int) (r:List Int) (n:Int) (b:List Int)
def oL:(Nat→Int)×(List Int)×Int:=(KM ((Cy h r b (CS fun j=>EM (Cy h r b j))).2),(Cy h r b (CS fun j=>EM (Cy h r b j))).1,(AZ .u64 n ((b.length:Nat):Int)))
def C5:(Nat→Int)×(List Int)×Int:=AJ (oL h r n b)
theorem oM:C5 h r n b=oL h r n b:=Ag _
def Ad2 (z_:(Nat→Int)×(List Int)×Int:=C5 h r n b):Con:=⟨[.cp 0 0,lb b],[(0,Vq h r n)],.tu (chain []),[(0,Vq (z_.1) (z_.2.1) (z_.2.2))]⟩
theorem OG (hr:r.length≤100000000000) (hb:b.length≤100000000000):ConOk Tryz.prog 122 (Ad2 h r n b):=by
 refine cy 1 Tryz.func122 rfl Tryz.ntmps122 fun hg0 hS=> ?_
 have Be:b.length≤9223372036854775807:=hS.len 1 rfl
 refine Av (Ae [] 1 hS fun hS=>Ai hS (BP (Ax [(6,XR b.length)] [] 1 hS fun hS=>Ax [(6,AM (Tm [r,b] (by first |omega|(simp only[List.flatten_cons,List.flatten_nil,List.length_append,List.length_cons,List.length_nil,List.length_take,List.length_drop,List.length_replicate]<;>omega)|(simp<;>omega))) [] [(0,1)])] [] 2 hS fun hS=>Ax [(3,GK (.ar .u32 8 h) [(.ar .u32 8 h:D)=(.ar .u32 8 h)] ⟨rfl,trivial⟩),(4,AP (Uo h))] [5] 3 hS fun hS=>Av (Br ?_))))
 obtain⟨gs,hS⟩:=hS.fz 1
 refine Ar (ι:=Nat×(List Int)×(Nat→Int)) hg0 hS (fun(k1,x4,o5_0)=>(x4.length,[(4,lb x4)],[(2,Ob9 o5_0)],((x4,o5_0)=Cy h r b k1)∧(∀j,j<k1→EM (Cy h r b j))∧(x4.length≤r.length+b.length)∧True)) [0,5] [0] 3 (0,[r,b].flatten,KM h) [(0,0),(2,2)] ⟨rfl,(fun j h=>absurd h (Nat.not_lt_zero j)),(by simp),trivial⟩ ?_
 rintro⟨k1,x4,o5_0⟩ ac gs ws ⟨hq1,hj1,p1,_⟩ hS
 refine Av (Ae [] 3 hS fun hS=>AB ((64:Int)≤((x4.length:Nat):Int)) hS (fun h1=> ?_) (fun h1=> ?_))
 ·exact BP (Br (Ax [(0,GK (.ar .u32 8 o5_0) [(.ar .u32 8 o5_0:D)=(.ar .u32 8 o5_0)] ⟨rfl,trivial⟩),(2,ID (Pp o5_0 x4 AE) [] [] [.ar .u32 8 o5_0,lb x4] [])] [] 3 hS fun hS=>As [(1,O2 64 x4.length)] [4] 3 hS fun hS=>BV (Al hg0 hS (k1+1,x4.drop 64,Gb o5_0 x4) [(0,0),(2,2)] ⟨(A3 (st:=S7) hq1 rfl rfl),(A0 hj1 (by rw[←hq1];exact h1)),(by rw[List.length_drop];omega),trivial⟩ (show(x4.drop 64).length<x4.length from by rw[List.length_drop];omega))))
 ·have hT:=hS
  obtain rfl:=BK (by rw[←hq1];first |exact h1|exact not_not_intro h1) hj1
  obtain⟨rfl,rfl⟩:=Ug hq1
  have hS:=hT
  exact CO (As [(2,GK (.ar .u32 8 ((Cy h r b (CS fun j=>EM (Cy h r b j))).2)) [(.ar .u32 8 ((Cy h r b (CS fun j=>EM (Cy h r b j))).2):D)=(.ar .u32 8 ((Cy h r b (CS fun j=>EM (Cy h r b j))).2))] ⟨rfl,trivial⟩),(3,AP (Uo ((Cy h r b (CS fun j=>EM (Cy h r b j))).2))),(5,AP (Dy ((Cy h r b (CS fun j=>EM (Cy h r b j))).1) AE))] [] 3 hS fun hS=>fqN (oM ..) hS)
end
def S6 (k1:Nat):((List Int)×(Nat→Int))→((List Int)×(Nat→Int)):=fun(x4,o3_0)=>(x4.drop 64,Gb o3_0 x4)
def E3 (h:Nat→Int) (r:List Int) (n:Int):Nat→(List Int)×(Nat→Int)
 |0=>(Hu r n,KM h)
 |k1+1=>S6 k1 (E3 h r n k1)
def HD:((List Int)×(Nat→Int))→Prop:=fun(x4,o3_0)=>(0:Int)<((x4.length:Nat):Int)
section
variable (h:Nat→Int) (r:List Int) (n:Int)
def S5 (x32:Nat):(List Int)→(List Int):=fun x2=>x2++(CY (((E3 h r n (CS fun j=>HD (E3 h r n j))).2) x32))
def JQ (h:Nat→Int) (r:List Int) (n:Int):Nat→(List Int)
 |0=>[]
 |x32+1=>S5 h r n x32 (JQ h r n x32)
def oH:(List Int):=JQ h r n 8
def EF:(List Int):=AJ (oH h r n)
theorem YK:EF h r n=oH h r n:=Ag _
end
@[simp] theorem WY (h:Nat→Int) (r:List Int) (n:Int):(EF h r n).length=32:=by
 have key:∀i,(JQ h r n i).length=4*i:=by
  intro i
  induction i with
  |zero=>rfl
  |succ i ih=>show(JQ h r n i++CY _).length=_;rw[List.length_append,Ff,ih];omega
 rw[YK]
 exact key 8
section
variable (h:Nat→Int) (r:List Int) (n:Int)
def Ad1 (z_:(List Int):=EF h r n):Con:=⟨[.cp 0 0],[(0,Vq h r n)],.sk 1,[(0,Vq h r n),(1,.sl 5 [.int .u8] z_)]⟩
theorem bQ (hr:r.length≤100000000000):ConOk Tryz.prog 125 (Ad1 h r n):=by
 refine cy 1 Tryz.func125 rfl Tryz.ntmps125 fun hg0 hS=>Ae [] 1 hS fun hS=>Av (Ae [] 1 hS fun hS=>Ai hS (BP (Ax [(3,GK (.ar .u32 8 h) [(.ar .u32 8 h:D)=(.ar .u32 8 h)] ⟨rfl,trivial⟩),(4,AP (Uo h))] [3] 2 hS fun hS=>Av (Ax [(8,AP (eQ r n AE))] [] 2 hS fun hS=>Br (Ar (ι:=Nat×(List Int)×(Nat→Int)) hg0 hS (fun(k1,x4,o3_0)=>(x4.length,[(4,lb x4)],[(1,Ob9 o3_0)],((x4,o3_0)=E3 h r n k1)∧(∀j,j<k1→HD (E3 h r n j))∧(x4.length%64=0∧x4.length≤r.length+200)∧True)) [2,3] [0] 2 (0,Hu r n,KM h) [(0,0),(1,1)] ⟨rfl,(fun j h=>absurd h (Nat.not_lt_zero j)),(YB r n),trivial⟩ ?_)))))
 rintro⟨k1,x4,o3_0⟩ ac gs ws ⟨hq1,hj1,p1,_⟩ hS
 refine Av (Ae [] 2 hS fun hS=>AB ((0:Int)<((x4.length:Nat):Int)) hS (fun h1=> ?_) (fun h1=> ?_))
 ·exact BE (As [(0,GK (.ar .u32 8 o3_0) [(.ar .u32 8 o3_0:D)=(.ar .u32 8 o3_0)] ⟨rfl,trivial⟩),(2,ID (Pp o3_0 x4 AE) [] [] [.ar .u32 8 o3_0,lb x4] [])] [] 2 hS fun hS=>BV (As [(1,O2 64 x4.length)] [4] 2 hS fun hS=>Ab (Al hg0 hS (k1+1,x4.drop 64,Gb o3_0 x4) [(0,0),(1,1)] ⟨(A3 (st:=S6) hq1 rfl rfl),(A0 hj1 (by rw[←hq1];exact h1)),(by rw[List.length_drop];omega),trivial⟩ (show(x4.drop 64).length<x4.length from by rw[List.length_drop];omega))))
 ·have hT:=hS
  obtain rfl:=BK (by rw[←hq1];first |exact h1|exact not_not_intro h1) hj1
  obtain⟨rfl,rfl⟩:=Ug hq1
  have hS:=hT
  refine ML (Ae [] 2 hS fun hS=>Br ?_)
  obtain⟨gs,hS⟩:=hS.nilk 2 5 [.int .u8]
  refine Ar (ι:=Nat×(List Int)) hg0 hS (fun(x32,x2)=>(8-x32,[(32,vi ((x32:Nat):Int))],[(2,.sl 5 [.int .u8] x2)],(x32≤8)∧(x2=JQ h r n x32)∧(x2.length=4*x32)∧True)) [2,31] [0] 3 (0,[]) [(0,0),(2,2)] ⟨Ac,rfl,rfl,trivial⟩ ?_
  rintro⟨x32,x2⟩ ac gs ws ⟨hx32,hq2,p2,_⟩ hS
  refine Ae [] 3 hS fun hS=>Av (AB ((x32:Int)<8) hS (fun h2=> ?_) (fun h2=> ?_))
  ·exact BE (Ax [(0,AD x32 8)] [] 3 hS fun hS=>As [(2,AP (Wp (((E3 h r n (CS fun j=>HD (E3 h r n j))).2) x32))),(3,FW x2.length ((CY (((E3 h r n (CS fun j=>HD (E3 h r n j))).2) x32)).length) 1 (by(simp only[Ff,List.length_nil];omega)))] [2] 4 hS fun hS=>BV (As [(0,BH x32)] [32] 4 hS fun hS=>Ab (Al hg0 hS (x32+1,x2++(CY (((E3 h r n (CS fun j=>HD (E3 h r n j))).2) x32))) [(0,0),(2,3)] ⟨Ac,(A3 (st:=S5 _ _ _) hq2 rfl rfl),(by rw[List.length_append,Ff];omega),trivial⟩)))
  ·have hT:=hS
   obtain rfl:8=x32:=by omega
   obtain rfl:=hq2.symm
   have hS:=hT
   refine CO (Ae [2] 3 hS fun hS=>AR ?_)
   obtain⟨gs,hS⟩:=hS.rx [(0,0),(1,2)] [2] [0,1] 2 hg0
   exact Bi (YK ..) hS
def Aam:Con:=⟨[.cp 0 0],[(0,Vq h r n)],lb (EF h r n),[(0,Vq h r n)]⟩
theorem oG (hr:r.length≤100000000000):ConOk Tryz.prog 125 (Aam h r n):=ConOk.frz [(0,Vq h r n)] 1 5 [.int .u8] (EF h r n) (bQ h r n hr) (by kernel_rfl)
def Aan:Con:=⟨[.im (chain [.ar .u32 8 h,lb r,.v (.int .u64 n)]) 0],[],.cp 0 0,[(0,Vq h r n)]⟩
theorem WZ (hr:r.length≤100000000000):ConOk Tryz.prog 124 (Aan h r n):=by
 exact cy 0 Tryz.func124 rfl Tryz.ntmps124 fun hg0 hS=>Ae [] 0 hS fun hS=>Av (Ae [] 0 hS fun hS=>Ai hS (BP (Ax [(3,GK (.ar .u32 8 h) [(.ar .u32 8 h:D)=(.ar .u32 8 h)] ⟨rfl,trivial⟩),(8,AP (Dy r AE))] [] 1 hS fun hS=>AR (BW hS))))
end
end
end Go.Sx.Tryz
namespace Go.Sx.Tryz
open Go.Mi Go.RowKit Go.Sx Go.Proofs
noncomputable section
theorem Mt (h:Nat→Int) (r:List Int) (n:Int) (b:List Int):(C5 h r n b).2.1.length≤r.length+b.length:=by
 have key:∀k,(Cy h r b k).1.length≤r.length+b.length:=by
  intro k
  induction k with
  |zero=>show[r,b].flatten.length≤_;simp
  |succ k ih=>show((Cy h r b k).1.drop 64).length≤_;rw[List.length_drop];omega
 rw[oM]
 exact key _
def NW (x22:Nat):((Nat→Int)×(Nat→Int))→((Nat→Int)×(Nat→Int)):=fun(o4_0,o5_0)=>(upd o4_0 x22 (AK .u8 (o4_0 x22) 54),upd o5_0 x22 (AK .u8 (o4_0 x22) 92))
section
variable (key:List Int)
def CQ (key:List Int):Nat→(Nat→Int)×(Nat→Int)
 |0=>(Di (fun _=>0) 0 (min key.length 64) (fun j=>key.getD j 0),fun _=>0)
 |x22+1=>NW x22 (CQ key x22)
def WK:(Nat→Int)×(List Int)×Int×(Nat→Int)×(List Int)×Int:=((C5 (fun _=>0) ([]:List Int) 0 ((List.range 64).map ((CQ key 64).1))).1,(C5 (fun _=>0) ([]:List Int) 0 ((List.range 64).map ((CQ key 64).1))).2.1,((C5 (fun _=>0) ([]:List Int) 0 ((List.range 64).map ((CQ key 64).1))).2.2),(C5 (fun _=>0) ([]:List Int) 0 ((List.range 64).map ((CQ key 64).2))).1,(C5 (fun _=>0) ([]:List Int) 0 ((List.range 64).map ((CQ key 64).2))).2.1,((C5 (fun _=>0) ([]:List Int) 0 ((List.range 64).map ((CQ key 64).2))).2.2))
def Ah:(Nat→Int)×(List Int)×Int×(Nat→Int)×(List Int)×Int:=AJ (WK key)
theorem WL:Ah key=WK key:=Ag _
theorem Ct:(Ah key).2.1.length≤64∧(Ah key).2.2.2.2.1.length≤64:=by
 rw[WL]
 have h1:=Mt (fun _=>0) [] 0 ((List.range 64).map ((CQ key 64).1))
 have h2:=Mt (fun _=>0) [] 0 ((List.range 64).map ((CQ key 64).2))
 simp only[List.length_nil,List.length_map,List.length_range]at h1 h2
 rw[Nat.zero_add]at h1 h2
 exact⟨h1,h2⟩
def sL (z_:(Nat→Int)×(List Int)×Int×(Nat→Int)×(List Int)×Int:=Ah key):Con:=⟨[lb key],[],.im (chain [.im (chain [.ar .u32 8 (z_.1),lb (z_.2.1),.v (.int .u64 (z_.2.2.1))]) 0,.im (chain [.ar .u32 8 (z_.2.2.2.1),lb (z_.2.2.2.2.1),.v (.int .u64 (z_.2.2.2.2.2))]) 0]) 0,[]⟩
theorem Hw (hk:key.length≤64):ConOk Tryz.prog 85 (sL key):=by
 refine cy 0 Tryz.func85 rfl Tryz.ntmps85 fun hg0 hS=> ?_
 have A7:key.length≤9223372036854775807:=hS.len 0 rfl
 have hf:¬(64:Int)<((key.length:Nat):Int):=Ac
 refine Ae [] 0 hS fun hS=>Av (Ax [(2,DC hf)] [] 0 hS fun hS=>Ai hS (BP (Ae [] 3 hS fun hS=>Ae [] 5 hS fun hS=>Ax [(0,t8 [E8 none none none 64 64,64≤9223372036854775807,bl none 0<bl none 64] ⟨⟨by simp only[F3]<;>omega,by simp only[F3]<;>omega,by simp only[F3]<;>omega,by simp,by simp only[bl]<;>omega,by simp only[bl]<;>omega,by simp only[bl]<;>omega⟩,by omega,by decide,trivial⟩)] [] 5 hS fun hS=>Av (Ae [] 5 hS fun hS=>Br (Ar (ι:=Nat×(Nat→Int)×(Nat→Int)) hg0 hS (fun(x22,o4_0,o5_0)=>(64-x22,[(22,vi ((x22:Nat):Int))],[(3,.ob 182 (chain [.ar .u8 64 o4_0])),(4,.ob 182 (chain [.ar .u8 64 o5_0]))],(x22≤64)∧((o4_0,o5_0)=CQ key x22)∧True)) [2,3,4,5] [0,1,2] 5 (0,Di (fun _=>0) 0 (min key.length 64) (fun j=>key.getD j 0),fun _=>0) [(0,0),(1,1),(2,2),(3,3),(4,4)] ⟨Ac,rfl,trivial⟩ ?_)))))
 rintro⟨x22,o4_0,o5_0⟩ ac gs ws ⟨hx22,hq1,_⟩ hS
 refine Ae [] 5 hS fun hS=>Av (AB ((x22:Int)<64) hS (fun h1=> ?_) (fun h1=> ?_))
 ·exact BE (Ae [] 5 hS fun hS=>As [(3,AD x22 64),(7,AD x22 64),(10,AD x22 64),(12,AD x22 64)] [] 5 hS fun hS=>BV (As [(0,BH x22)] [22] 5 hS fun hS=>Ab (Al hg0 hS (x22+1,upd o4_0 x22 (AK .u8 (o4_0 x22) 54),upd o5_0 x22 (AK .u8 (o4_0 x22) 92)) [(0,0),(1,1),(2,2),(3,3),(4,4)] ⟨Ac,(A3 (st:=NW) hq1 rfl rfl),trivial⟩)))
 ·have hT:=hS
  obtain rfl:64=x22:=by omega
  obtain⟨rfl,rfl⟩:=Ug hq1
  have hS:=hT
  refine ML ?_
  have hS:=hS.wko 0 [.top,lb [],.top]
  refine As [(4,Vn .frz [] trivial),(5,AM (OG (fun _=>0) ([]:List Int) 0 ((List.range 64).map ((CQ key 64).1)) AE AE) [(0,0)] [])] [] 5 hS fun hS=>Ej ?_
  have hS:=hS.wko 1 [.top,lb [],.top]
  refine As [(4,Vn .frz [] trivial),(5,AM (OG (fun _=>0) ([]:List Int) 0 ((List.range 64).map ((CQ key 64).2)) AE AE) [(0,1)] [])] [] 5 hS fun hS=> ?_
  obtain⟨gs,hS⟩:=hS.im 0
  obtain⟨gs,hS⟩:=hS.im 1
  obtain⟨gs,hS⟩:=hS.im 2
  exact Ab (Ae [] 5 hS fun hS=>AR (Bi (WL ..) hS))
end
def SZ (l:List (List Int)) (x30:Nat):((Nat→Int)×(List Int)×Int)→((Nat→Int)×(List Int)×Int):=fun(o5_0,o5_1,o5_2)=>((C5 o5_0 o5_1 o5_2 (l.getD x30 (rz [.sl (.int .u8)]))).1,(C5 o5_0 o5_1 o5_2 (l.getD x30 (rz [.sl (.int .u8)]))).2.1,((C5 o5_0 o5_1 o5_2 (l.getD x30 (rz [.sl (.int .u8)]))).2.2))
section
variable (u1:Nat→Int) (r1:List Int) (n1:Int)
def Bv (u1:Nat→Int) (r1:List Int) (n1:Int) (l:List (List Int)):Nat→(Nat→Int)×(List Int)×Int
 |0=>(u1,r1,n1)
 |x30+1=>SZ l x30 (Bv u1 r1 n1 l x30)
def nW (u2:Nat→Int) (r2:List Int) (n2:Int) (l:List (List Int)):(List Int):=EF ((C5 u2 r2 n2 (EF ((Bv u1 r1 n1 l l.length).1) ((Bv u1 r1 n1 l l.length).2.1) ((Bv u1 r1 n1 l l.length).2.2))).1) ((C5 u2 r2 n2 (EF ((Bv u1 r1 n1 l l.length).1) ((Bv u1 r1 n1 l l.length).2.1) ((Bv u1 r1 n1 l l.length).2.2))).2.1) ((C5 u2 r2 n2 (EF ((Bv u1 r1 n1 l l.length).1) ((Bv u1 r1 n1 l l.length).2.1) ((Bv u1 r1 n1 l l.length).2.2))).2.2)
def Cu (u2:Nat→Int) (r2:List Int) (n2:Int) (l:List (List Int)):(List Int):=AJ (nW u1 r1 n1 u2 r2 n2 l)
theorem YG (u2:Nat→Int) (r2:List Int) (n2:Int) (l:List (List Int)):Cu u1 r1 n1 u2 r2 n2 l=nW u1 r1 n1 u2 r2 n2 l:=Ag _
def AdY (u2:Nat→Int) (r2:List Int) (n2:Int) (l:List (List Int)) (z_:(List Int):=Cu u1 r1 n1 u2 r2 n2 l):Con:=⟨[.im (chain [.im (chain [.ar .u32 8 u1,lb r1,.v (.int .u64 n1)]) 0,.im (chain [.ar .u32 8 u2,lb r2,.v (.int .u64 n2)]) 0]) 0,.ls false [.sl (.int .u8)] l],[],.sk 0,[(0,.sl 5 [.int .u8] z_)]⟩
theorem bF (u2:Nat→Int) (r2:List Int) (n2:Int) (l:List (List Int)) (hr1:r1.length≤64) (hr2:r2.length≤64) (hl:l.flatten.length≤50000000000):ConOk Tryz.prog 86 (AdY u1 r1 n1 u2 r2 n2 l):=by
 refine cy 0 Tryz.func86 rfl Tryz.ntmps86 fun hg0 hS=> ?_
 have Be:l.length≤9223372036854775807:=hS.len 1 rfl
 refine Ae [] 0 hS fun hS=>Av (Ae [] 0 hS fun hS=>Ai hS (DU (Ae [] 0 hS fun hS=>Ai hS (BP (Ax [(4,AM (WZ u1 r1 n1 AE) [] [(0,0)]),(9,AM (WZ u2 r2 n2 AE) [] [(0,1)])] [] 2 hS fun hS=>Av (Ae [28] 2 hS fun hS=>Br (Ar (ι:=Nat×(Nat→Int)×(List Int)×Int) hg0 hS (fun(x30,o5_0,o5_1,o5_2)=>(l.length-x30,[(30,vi ((x30:Nat):Int))],[(0,Vq o5_0 o5_1 o5_2)],(x30≤l.length)∧((o5_0,o5_1,o5_2)=Bv u1 r1 n1 l x30)∧(o5_1.length≤r1.length+(l.take x30).flatten.length)∧True)) [4,5,6,28,29] [1] 2 (0,u1,r1,n1) [(0,0),(1,1)] ⟨Ac,rfl,(by simp),trivial⟩ ?_)))))))
 rintro⟨x30,o5_0,o5_1,o5_2⟩ ac gs ws ⟨hx30,hq1,p1,_⟩ hS
 refine Ae [] 2 hS fun hS=>Av (AB ((x30:Int)<((l.length:Nat):Int)) hS (fun h1=> ?_) (fun h1=> ?_))
 ·refine BE (Ax [(0,AD x30 l.length)] [] 2 hS fun hS=> ?_)
  have hb:=Zf (l:=l) (j:=x30) Ac hl
  exact As [(2,AM (OG o5_0 o5_1 o5_2 (l.getD x30 (rz [.sl (.int .u8)])) AE AE) [(0,0)] [])] [] 2 hS fun hS=>BV (As [(0,BH x30)] [30] 2 hS fun hS=>Ab (Al hg0 hS (x30+1,(C5 o5_0 o5_1 o5_2 (l.getD x30 (rz [.sl (.int .u8)]))).1,(C5 o5_0 o5_1 o5_2 (l.getD x30 (rz [.sl (.int .u8)]))).2.1,((C5 o5_0 o5_1 o5_2 (l.getD x30 (rz [.sl (.int .u8)]))).2.2)) [(0,0),(1,1)] ⟨Ac,(A3 (st:=SZ _) hq1 rfl rfl),(by have hc:=U_ l x30 Ac;have ha:=Mt o5_0 o5_1 o5_2 (l.getD x30 (rz [.sl (.int .u8)]));omega),trivial⟩))
 ·have hT:=hS
  obtain rfl:l.length=x30:=by omega
  obtain⟨rfl,rfl,rfl⟩:=mQ hq1
  have hS:=hT
  refine ML ?_
  rw[List.take_length]at p1
  refine As [(2,AM (oG ((Bv u1 r1 n1 l l.length).1) ((Bv u1 r1 n1 l l.length).2.1) ((Bv u1 r1 n1 l l.length).2.2) AE) [(0,0)] []),(3,AM (OG u2 r2 n2 (EF ((Bv u1 r1 n1 l l.length).1) ((Bv u1 r1 n1 l l.length).2.1) ((Bv u1 r1 n1 l l.length).2.2)) AE AE) [(0,1)] [])] [] 2 hS fun hS=>Ej ?_
  have hx:=Mt u2 r2 n2 (EF ((Bv u1 r1 n1 l l.length).1) ((Bv u1 r1 n1 l l.length).2.1) ((Bv u1 r1 n1 l l.length).2.2))
  rw[WY]at hx
  refine As [(1,AM (bQ ((C5 u2 r2 n2 (EF ((Bv u1 r1 n1 l l.length).1) ((Bv u1 r1 n1 l l.length).2.1) ((Bv u1 r1 n1 l l.length).2.2))).1) ((C5 u2 r2 n2 (EF ((Bv u1 r1 n1 l l.length).1) ((Bv u1 r1 n1 l l.length).2.1) ((Bv u1 r1 n1 l l.length).2.2))).2.1) ((C5 u2 r2 n2 (EF ((Bv u1 r1 n1 l l.length).1) ((Bv u1 r1 n1 l l.length).2.1) ((Bv u1 r1 n1 l l.length).2.2))).2.2) AE) [(0,1)] [(1,2)])] [] 3 hS fun hS=>DX ?_
  obtain⟨gs,hS⟩:=hS.rx [(0,2)] [4] [0] 1 hg0
  exact Bi (YG ..) hS
def Aak (u2:Nat→Int) (r2:List Int) (n2:Int) (l:List (List Int)):Con:=⟨[.im (chain [.im (chain [.ar .u32 8 u1,lb r1,.v (.int .u64 n1)]) 0,.im (chain [.ar .u32 8 u2,lb r2,.v (.int .u64 n2)]) 0]) 0,.ls false [.sl (.int .u8)] l],[],lb (Cu u1 r1 n1 u2 r2 n2 l),[]⟩
theorem I9 (u2:Nat→Int) (r2:List Int) (n2:Int) (l:List (List Int)) (hr1:r1.length≤64) (hr2:r2.length≤64) (hl:l.flatten.length≤50000000000):ConOk Tryz.prog 86 (Aak u1 r1 n1 u2 r2 n2 l):=ConOk.frz [] 0 5 [.int .u8] (Cu u1 r1 n1 u2 r2 n2 l) (bF u1 r1 n1 u2 r2 n2 l hr1 hr2 hl) (by kernel_rfl)
end
@[simp] theorem B6 (u1:Nat→Int) (r1:List Int) (n1:Int) (u2:Nat→Int) (r2:List Int) (n2:Int) (l:List (List Int)):(Cu u1 r1 n1 u2 r2 n2 l).length=32:=by rw[YG];exact WY ..
section
variable (key:List Int) (l:List (List Int))
def Abk:(List Int):=Cu ((Ah key).1) ((Ah key).2.1) ((Ah key).2.2.1) ((Ah key).2.2.2.1) ((Ah key).2.2.2.2.1) ((Ah key).2.2.2.2.2) l
def WQ:(List Int):=AJ (Abk key l)
theorem Abl:WQ key l=Abk key l:=Ag _
end
@[simp] theorem Uw (key:List Int) (l:List (List Int)):(WQ key l).length=32:=by rw[Abl];exact B6 ..
section
variable (key:List Int) (l:List (List Int))
def Af1 (z_:(List Int):=WQ key l):Con:=⟨[lb key,.ls false [.sl (.int .u8)] l],[],lb z_,[]⟩
theorem AcF (hk:key.length≤64) (hl:l.flatten.length≤50000000000):ConOk Tryz.prog 123 (Af1 key l):=by
 refine cy 0 Tryz.func123 rfl Tryz.ntmps123 fun hg0 hS=> ?_
 have A7:key.length≤9223372036854775807:=hS.len 0 rfl
 have Be:l.length≤9223372036854775807:=hS.len 1 rfl
 exact Ae [] 0 hS fun hS=>Ax [(1,AP (Hw key AE)),(3,AP (I9 ((Ah key).1) ((Ah key).2.1) ((Ah key).2.2.1) ((Ah key).2.2.2.1) ((Ah key).2.2.2.2.1) ((Ah key).2.2.2.2.2) l (Ct _).1 (Ct _).2 (by first |assumption|omega|(simp only[List.flatten_cons,List.flatten_nil,List.length_append,List.length_cons,List.length_nil]<;>omega)|(simp<;>omega))))] [] 0 hS fun hS=>AR (Bi (Abl ..) hS)
end
section
variable (l:List (List Int))
def nP:(List Int):=Cu ((Ah ([]:List Int)).1) ((Ah ([]:List Int)).2.1) ((Ah ([]:List Int)).2.2.1) ((Ah ([]:List Int)).2.2.2.1) ((Ah ([]:List Int)).2.2.2.2.1) ((Ah ([]:List Int)).2.2.2.2.2) l
def nQ:(List Int):=AJ (nP l)
theorem AcG:nQ l=nP l:=Ag _
end
@[simp] theorem QD (l:List (List Int)):(nQ l).length=32:=by rw[AcG];exact B6 ..
end
end Go.Sx.Tryz
namespace Go.Sx.Tryz
open Go.Mi Go.RowKit Go.Sx Go.Proofs
noncomputable section
section
variable (key ikm:List Int)
def S9:(List Int):=WQ key [ikm]
def Ea:(List Int):=AJ (S9 key ikm)
theorem S_:Ea key ikm=S9 key ikm:=Ag _
end
@[simp] theorem W7 (key:List Int) (ikm:List Int):(Ea key ikm).length=32:=by rw[S_];exact Uw ..
section
variable (key ikm:List Int)
def g9 (z_:(List Int):=Ea key ikm):Con:=⟨[lb key,lb ikm],[],lb z_,[]⟩
theorem K6 (hk:key.length≤64) (hi:ikm.length≤1000000000):ConOk Tryz.prog 113 (g9 key ikm):=by
 refine cy 0 Tryz.func113 rfl Tryz.ntmps113 fun hg0 hS=> ?_
 have A7:key.length≤9223372036854775807:=hS.len 0 rfl
 have Be:ikm.length≤9223372036854775807:=hS.len 1 rfl
 exact Ae [] 0 hS fun hS=>Ax [(3,AP (AcF key [ikm] AE (by first |assumption|omega|(simp only[List.flatten_cons,List.flatten_nil,List.length_append,List.length_cons,List.length_nil]<;>omega)|(simp<;>omega))))] [] 0 hS fun hS=>AR (Bi (S_ ..) hS)
end
section
variable (ikm:List Int)
def QR:(List Int):=WQ ([]:List Int) [ikm]
def QS:(List Int):=AJ (QR ikm)
theorem YR:QS ikm=QR ikm:=Ag _
end
@[simp] theorem Mw (ikm:List Int):(QS ikm).length=32:=by rw[YR];exact QD ..
def Kj (key info:List Int) (k1:Nat):(Int×(List Int)×(List Int))→(Int×(List Int)×(List Int)):=fun(x10,x8,x9)=>((AZ .u8 x10 1),x8++(Cu ((Ah key).1) ((Ah key).2.1) ((Ah key).2.2.1) ((Ah key).2.2.2.1) ((Ah key).2.2.2.2.1) ((Ah key).2.2.2.2.2) [x9,info,[x10]]),Cu ((Ah key).1) ((Ah key).2.1) ((Ah key).2.2.1) ((Ah key).2.2.2.1) ((Ah key).2.2.2.2.1) ((Ah key).2.2.2.2.2) [x9,info,[x10]])
def BO (key info:List Int):Nat→Int×(List Int)×(List Int)
 |0=>(1,[],[])
 |k1+1=>Kj key info k1 (BO key info k1)
def Ep:(Int×(List Int)×(List Int))→Prop:=fun(x10,x8,x9)=>((x8.length:Nat):Int)<32
section
variable (key info:List Int)
def K9:(List Int):=[]++(((BO key info (CS fun j=>Ep (BO key info j))).2.1).take 32)
def GC:(List Int):=AJ (K9 key info)
theorem QT:GC key info=K9 key info:=Ag _
end
theorem Ie (key info:List Int):∀k,(BO key info k).2.1.length=32*k
 |0=>rfl
 |k+1=>by
  show((BO key info k).2.1++Cu _ _ _ _ _ _ _).length=_
  rw[List.length_append,B6,Ie key info k];omega
@[simp] theorem UQ (key info:List Int):(GC key info).length=32:=by
 have h:(CS fun j=>Ep (BO key info j))=1:=by
  refine(BK ?_ ?_).symm
  ·show¬(((BO key info 1).2.1.length:Nat):Int)<32
   rw[Ie];omega
  ·intro j hj
   show(((BO key info j).2.1.length:Nat):Int)<32
   rw[Ie];omega
 rw[QT]
 unfold K9
 rw[h,List.nil_append,List.length_take,Ie]
 omega
section
variable (key info:List Int)
def Zp (z_:(List Int):=GC key info):Con:=⟨[lb key,lb info,vi 32],[],lb z_,[]⟩
theorem N0 (hk:key.length≤64) (hf:info.length≤1000000000):ConOk Tryz.prog 112 (Zp key info):=by
 refine cy 0 Tryz.func112 rfl Tryz.ntmps112 fun hg0 hS=> ?_
 have A7:key.length≤9223372036854775807:=hS.len 0 rfl
 have Be:info.length≤9223372036854775807:=hS.len 1 rfl
 refine Ae [] 0 hS fun hS=>Av (Ae [] 0 hS fun hS=>Ai hS (BP (Ax [(1,AP (Hw key AE))] [] 0 hS fun hS=>Ae [] 0 hS fun hS=>Av (Ae [] 0 hS fun hS=>Br ?_))))
 obtain⟨gs,hS⟩:=hS.nilk 8 5 [.int .u8]
 have hS:=hS.wk 9 (lb [])
 refine Ar (ι:=Nat×Int×(List Int)×(List Int)) hg0 hS (fun(k1,x10,x8,x9)=>(32-x8.length,[(9,lb x9),(10,.v (.int .u8 x10))],[(0,.sl 5 [.int .u8] x8)],((x10,x8,x9)=BO key info k1)∧(∀j,j<k1→Ep (BO key info j))∧(x9.length≤32)∧(x8.length=32*k1)∧True)) [1,2,6,7,8] [] 1 (0,1,[],[]) [(0,0)] ⟨rfl,(fun j h=>absurd h (Nat.not_lt_zero j)),(by simp),rfl,trivial⟩ ?_
 rintro⟨k1,x10,x8,x9⟩ ac gs ws ⟨hq1,hj1,p1,p2,_⟩ hS
 refine Av (Ae [] 1 hS fun hS=>AB (((x8.length:Nat):Int)<32) hS (fun h1=> ?_) (fun h1=> ?_))
 ·exact BE (Ax [(6,AP (I9 ((Ah key).1) ((Ah key).2.1) ((Ah key).2.2.1) ((Ah key).2.2.2.1) ((Ah key).2.2.2.2.1) ((Ah key).2.2.2.2.2) [x9,info,[x10]] (Ct _).1 (Ct _).2 (by first |assumption|omega|(simp only[List.flatten_cons,List.flatten_nil,List.length_append,List.length_cons,List.length_nil,B6,Uw,QD]<;>omega)|(simp<;>omega))))] [9] 1 hS fun hS=>As [(2,FW x8.length ((Cu ((Ah key).1) ((Ah key).2.1) ((Ah key).2.2.1) ((Ah key).2.2.2.1) ((Ah key).2.2.2.2.1) ((Ah key).2.2.2.2.2) [x9,info,[x10]]).length) 1 (by(first |omega|(rw[B6];omega)|(simp only[List.length_nil,List.length_take];omega))))] [8] 2 hS fun hS=>BV (Dj [10] 2 hS fun hS=>Ab (Al hg0 hS (k1+1,(AZ .u8 x10 1),x8++(Cu ((Ah key).1) ((Ah key).2.1) ((Ah key).2.2.1) ((Ah key).2.2.2.1) ((Ah key).2.2.2.2.1) ((Ah key).2.2.2.2.2) [x9,info,[x10]]),Cu ((Ah key).1) ((Ah key).2.1) ((Ah key).2.2.1) ((Ah key).2.2.2.1) ((Ah key).2.2.2.2.1) ((Ah key).2.2.2.2.2) [x9,info,[x10]]) [(0,1)] ⟨(A3 (st:=Kj _ _) hq1 rfl rfl),(A0 hj1 (by rw[←hq1];exact h1)),(by rw[B6];omega),(by rw[List.length_append,B6];omega),trivial⟩ (show 32-(x8++Cu _ _ _ _ _ _ _).length<32-x8.length from by rw[List.length_append,B6];omega))))
 ·have hT:=hS
  obtain rfl:=BK (by rw[←hq1];first |exact h1|exact not_not_intro h1) hj1
  obtain⟨rfl,rfl,rfl⟩:=mQ hq1
  have hS:=hT
  refine ML ?_
  have hz:=h1
  obtain⟨gs,hS⟩:=hS.fz 0
  refine As [(2,iZ 32 ((BO key info (CS fun j=>Ep (BO key info j))).2.1).length),(3,FW 0 ((((BO key info (CS fun j=>Ep (BO key info j))).2.1).take 32).length) 1 (by(first |omega|(rw[B6];omega)|(simp only[List.length_nil,List.length_take];omega))))] [] 2 hS fun hS=>DX ?_
  obtain⟨gs,hS⟩:=hS.fz 1
  exact Bi (QT ..) hS
def Ki (k1:Nat):(Int×(List Int)×(List Int))→(Int×(List Int)×(List Int)):=fun(x10,x8,x9)=>((AZ .u8 x10 1),x8++(Cu ((Ah key).1) ((Ah key).2.1) ((Ah key).2.2.1) ((Ah key).2.2.2.1) ((Ah key).2.2.2.2.1) ((Ah key).2.2.2.2.2) [x9,info,[x10]]),Cu ((Ah key).1) ((Ah key).2.1) ((Ah key).2.2.1) ((Ah key).2.2.2.1) ((Ah key).2.2.2.2.1) ((Ah key).2.2.2.2.2) [x9,info,[x10]])
end
def BD (key info:List Int):Nat→Int×(List Int)×(List Int)
 |0=>(1,[],[])
 |k1+1=>Ki key info k1 (BD key info k1)
def Eo:(Int×(List Int)×(List Int))→Prop:=fun(x10,x8,x9)=>((x8.length:Nat):Int)<64
section
variable (key info:List Int)
def Ib:(List Int):=[]++(((BD key info (CS fun j=>Eo (BD key info j))).2.1).take 64)
def GB:(List Int):=AJ (Ib key info)
theorem K7:GB key info=Ib key info:=Ag _
end
theorem Ic (key info:List Int):∀k,(BD key info k).2.1.length=32*k
 |0=>rfl
 |k+1=>by
  show((BD key info k).2.1++Cu _ _ _ _ _ _ _).length=_
  rw[List.length_append,B6,Ic key info k];omega
@[simp] theorem UP (key info:List Int):(GB key info).length=64:=by
 have h:(CS fun j=>Eo (BD key info j))=2:=by
  refine(BK ?_ ?_).symm
  ·show¬(((BD key info 2).2.1.length:Nat):Int)<64
   rw[Ic];omega
  ·intro j hj
   show(((BD key info j).2.1.length:Nat):Int)<64
   rw[Ic];omega
 rw[K7]
 unfold Ib
 rw[h,List.nil_append,List.length_take,Ic]
 omega
section
variable (key:List Int)
def Zo (info:List Int) (z_:(List Int):=GB key info):Con:=⟨[lb key,lb info,vi 64],[],lb z_,[]⟩
theorem W8 (info:List Int) (hk:key.length≤64) (hf:info.length≤1000000000):ConOk Tryz.prog 112 (Zo key info):=by
 refine cy 0 Tryz.func112 rfl Tryz.ntmps112 fun hg0 hS=> ?_
 have A7:key.length≤9223372036854775807:=hS.len 0 rfl
 have Be:info.length≤9223372036854775807:=hS.len 1 rfl
 refine Ae [] 0 hS fun hS=>Av (Ae [] 0 hS fun hS=>Ai hS (BP (Ax [(1,AP (Hw key AE))] [] 0 hS fun hS=>Ae [] 0 hS fun hS=>Av (Ae [] 0 hS fun hS=>Br ?_))))
 obtain⟨gs,hS⟩:=hS.nilk 8 5 [.int .u8]
 have hS:=hS.wk 9 (lb [])
 refine Ar (ι:=Nat×Int×(List Int)×(List Int)) hg0 hS (fun(k1,x10,x8,x9)=>(64-x8.length,[(9,lb x9),(10,.v (.int .u8 x10))],[(0,.sl 5 [.int .u8] x8)],((x10,x8,x9)=BD key info k1)∧(∀j,j<k1→Eo (BD key info j))∧(x9.length≤32)∧(x8.length=32*k1)∧True)) [1,2,6,7,8] [] 1 (0,1,[],[]) [(0,0)] ⟨rfl,(fun j h=>absurd h (Nat.not_lt_zero j)),(by simp),rfl,trivial⟩ ?_
 rintro⟨k1,x10,x8,x9⟩ ac gs ws ⟨hq1,hj1,p1,p2,_⟩ hS
 refine Av (Ae [] 1 hS fun hS=>AB (((x8.length:Nat):Int)<64) hS (fun h1=> ?_) (fun h1=> ?_))
 ·exact BE (Ax [(6,AP (I9 ((Ah key).1) ((Ah key).2.1) ((Ah key).2.2.1) ((Ah key).2.2.2.1) ((Ah key).2.2.2.2.1) ((Ah key).2.2.2.2.2) [x9,info,[x10]] (Ct _).1 (Ct _).2 (by first |assumption|omega|(simp only[List.flatten_cons,List.flatten_nil,List.length_append,List.length_cons,List.length_nil,B6,Uw,QD]<;>omega)|(simp<;>omega))))] [9] 1 hS fun hS=>As [(2,FW x8.length ((Cu ((Ah key).1) ((Ah key).2.1) ((Ah key).2.2.1) ((Ah key).2.2.2.1) ((Ah key).2.2.2.2.1) ((Ah key).2.2.2.2.2) [x9,info,[x10]]).length) 1 (by(first |omega|(rw[B6];omega)|(simp only[List.length_nil,List.length_take];omega))))] [8] 2 hS fun hS=>BV (Dj [10] 2 hS fun hS=>Ab (Al hg0 hS (k1+1,(AZ .u8 x10 1),x8++(Cu ((Ah key).1) ((Ah key).2.1) ((Ah key).2.2.1) ((Ah key).2.2.2.1) ((Ah key).2.2.2.2.1) ((Ah key).2.2.2.2.2) [x9,info,[x10]]),Cu ((Ah key).1) ((Ah key).2.1) ((Ah key).2.2.1) ((Ah key).2.2.2.1) ((Ah key).2.2.2.2.1) ((Ah key).2.2.2.2.2) [x9,info,[x10]]) [(0,1)] ⟨(A3 (st:=Ki _ _) hq1 rfl rfl),(A0 hj1 (by rw[←hq1];exact h1)),(by rw[B6];omega),(by rw[List.length_append,B6];omega),trivial⟩ (show 64-(x8++Cu _ _ _ _ _ _ _).length<64-x8.length from by rw[List.length_append,B6];omega))))
 ·have hT:=hS
  obtain rfl:=BK (by rw[←hq1];first |exact h1|exact not_not_intro h1) hj1
  obtain⟨rfl,rfl,rfl⟩:=mQ hq1
  have hS:=hT
  refine ML ?_
  have hz:=h1
  obtain⟨gs,hS⟩:=hS.fz 0
  refine As [(2,iZ 64 ((BD key info (CS fun j=>Eo (BD key info j))).2.1).length),(3,FW 0 ((((BD key info (CS fun j=>Eo (BD key info j))).2.1).take 64).length) 1 (by(first |omega|(rw[B6];omega)|(simp only[List.length_nil,List.length_take];omega))))] [] 2 hS fun hS=>DX ?_
  obtain⟨gs,hS⟩:=hS.fz 1
  exact Bi (K7 ..) hS
def Q6 (ikm info:List Int):(List Int):=GC (Ea key ikm) info
def AI (ikm info:List Int):(List Int):=AJ (Q6 key ikm info)
theorem Q7 (ikm info:List Int):AI key ikm info=Q6 key ikm info:=Ag _
end
@[simp] theorem E6 (key:List Int) (ikm info:List Int):(AI key ikm info).length=32:=by rw[Q7];exact UQ ..
section
variable (key ikm info:List Int)
def Zw (z_:(List Int):=AI key ikm info):Con:=⟨[lb key,lb ikm,lb info,vi 32],[],lb z_,[]⟩
theorem EP (hk:key.length≤64) (hi:ikm.length≤1000000000) (hf:info.length≤1000000000):ConOk Tryz.prog 75 (Zw key ikm info):=by
 refine cy 0 Tryz.func75 rfl Tryz.ntmps75 fun hg0 hS=> ?_
 have A7:key.length≤9223372036854775807:=hS.len 0 rfl
 have Be:ikm.length≤9223372036854775807:=hS.len 1 rfl
 have B2:info.length≤9223372036854775807:=hS.len 2 rfl
 refine Ae [] 0 hS fun hS=>Av ?_
 have hl:=W7 key ikm
 exact As [(2,AP (K6 key ikm AE AE)),(5,AP (N0 (Ea key ikm) info AE AE))] [] 0 hS fun hS=>DX (Bi (Q7 ..) hS)
end
section
variable (ikm info:List Int)
def ME:(List Int):=GC (Ea ([]:List Int) ikm) info
def MF:(List Int):=AJ (ME ikm info)
theorem UW:MF ikm info=ME ikm info:=Ag _
def Vf (z_:(List Int):=MF ikm info):Con:=⟨[.v (.slice none 0 0),lb ikm,lb info,vi 32],[],lb z_,[]⟩
theorem uL (hi:ikm.length≤1000000000) (hf:info.length≤1000000000):ConOk Tryz.prog 75 (Vf ikm info):=by
 refine cy 0 Tryz.func75 rfl Tryz.ntmps75 fun hg0 hS=> ?_
 have Be:ikm.length≤9223372036854775807:=hS.len 1 rfl
 have B2:info.length≤9223372036854775807:=hS.len 2 rfl
 refine Ae [] 0 hS fun hS=>Av ?_
 have hl:=Mw ikm
 exact As [(2,AP (K6 ([]:List Int) ikm AE AE)),(5,AP (N0 (Ea ([]:List Int) ikm) info AE AE))] [] 0 hS fun hS=>DX (Bi (UW ..) hS)
def MD:(List Int):=GB (Ea ([]:List Int) ikm) info
def Bl:(List Int):=AJ (MD ikm info)
theorem Ii:Bl ikm info=MD ikm info:=Ag _
end
@[simp] theorem Jk (ikm info:List Int):(Bl ikm info).length=64:=by rw[Ii];exact UP ..
section
variable (ikm info:List Int)
def Ve (z_:(List Int):=Bl ikm info):Con:=⟨[.v (.slice none 0 0),lb ikm,lb info,vi 64],[],lb z_,[]⟩
theorem RS (hi:ikm.length≤1000000000) (hf:info.length≤1000000000):ConOk Tryz.prog 75 (Ve ikm info):=by
 refine cy 0 Tryz.func75 rfl Tryz.ntmps75 fun hg0 hS=> ?_
 have Be:ikm.length≤9223372036854775807:=hS.len 1 rfl
 have B2:info.length≤9223372036854775807:=hS.len 2 rfl
 refine Ae [] 0 hS fun hS=>Av ?_
 have hl:=Mw ikm
 exact As [(2,AP (K6 ([]:List Int) ikm AE AE)),(5,AP (W8 (Ea ([]:List Int) ikm) info AE AE))] [] 0 hS fun hS=>DX (Bi (Ii ..) hS)
end
end
end Go.Sx.Tryz
namespace Go.Sx
open Go.Mi Go.RowKit
def Rb (n:Nat) (f:Nat→Int):Prop:=∀j,j<n→0≤f j∧f j<256
theorem Aa0 (x:Int):0≤IntKind.wrap .u8 x∧IntKind.wrap .u8 x<256:=by rw[ER];omega
theorem IE (a b:Int):0≤AK .u8 a b∧AK .u8 a b<256:=Aa0 _
theorem Rb.zero (f:Nat→Int):Rb 0 f:=fun _ h=>absurd h (Nat.not_lt_zero _)
theorem Rb.next {n:Nat} {f:Nat→Int} {v:Int} (h:Rb n f) (hv:0≤v∧v<256):Rb (n+1) (upd f n v):=fun j hj=>by
 unfold upd
 split
 ·exact hv
 ·exact h j (by omega)
theorem Rb.set {n:Nat} {f:Nat→Int} {v:Int} (h:Rb n f) (i:Nat) (hv:0≤v∧v<256):Rb n (upd f i v):=fun j hj=>by
 unfold upd
 split
 ·exact hv
 ·exact h j hj
theorem Rb.mono {m n:Nat} {f:Nat→Int} (h:Rb n f) (hm:m≤n):Rb m f:=fun j hj=>h j (by omega)
theorem vG {b:Int} (h:0<b):(AY .u8 b 1).toNat<b.toNat:=by
 have :=AeF (a:=b) (by omega) (n:=1) (by omega)
 rw[show((1:Nat):Int)=1 from rfl]at this
 rw[this,Int.toNat_natCast,Nat.shiftRight_eq_div_pow]
 omega
theorem Aey {a b:Int} (ha:0≤a∧a<256) (hb:0≤b∧b<256):AK .u8 a b=((a.toNat^^^b.toNat:Nat):Int):=by
 have h:a.toNat^^^b.toNat<2^8:=Nat.xor_lt_two_pow (by omega) (by omega)
 unfold AK
 rw[ER]
 show(((BitVec.ofInt 8 a^^^BitVec.ofInt 8 b).toNat:Nat):Int)%256=_
 rw[BitVec.toNat_xor,nB ha,nB hb]
 omega
theorem i9 (a b:Int):AK .u8 a b=AK .u8 a (b%256):=by
 unfold AK
 congr 4
 show BitVec.ofInt 8 b=BitVec.ofInt 8 (b%256)
 apply BitVec.eq_of_toNat_eq
 rw[BitVec.toNat_ofInt,BitVec.toNat_ofInt]
 omega
theorem uO {a:Int} (ha:0≤a∧a<256) (b:Int):AK .u8 (AK .u8 a b) b=a:=by
 have hb:0≤b%256∧b%256<256:=by omega
 rw[i9 _ b,i9 a b,Aey (IE _ _) hb,Aey ha hb]
 rw[Int.toNat_natCast,Nat.xor_assoc,Nat.xor_self,Nat.xor_zero]
 omega
end Go.Sx
namespace Go.Sx.Tryz
open Go.Mi Go.RowKit Go.Sx Go.Proofs
noncomputable section
section
variable (x:Int)
def lN (k:Nat):Int:=(C9 .u8 (Bf .u8 x (A6 .u64 (k:Int) 7)) (AY .u8 x (EC .u64 8 (A6 .u64 (k:Int) 7))))
def TW (k:Nat):Int:=AJ (lN x k)
theorem AbY (k:Nat):TW x k=lN x k:=Ag _
def Ady (k:Nat) (z_:Int:=TW x k):Con:=⟨[.v (.int .u8 x),vi (k:Int)],[],.v (.int .u8 z_),[]⟩
theorem vR (k:Nat) (hk:k≤8):ConOk Tryz.prog 212 (Ady x k):=by
 exact cy 0 Tryz.func212 rfl Tryz.ntmps212 fun hg0 hS=>Ae [] 0 hS fun hS=>Ax [(1,XR k)] [] 0 hS fun hS=>Ax [(2,O1 ((0:Int)≤(A6 .u64 (k:Int) 7)) (Jw rfl)),(6,O1 ((0:Int)≤(EC .u64 8 (A6 .u64 (k:Int) 7))) (Jw rfl))] [] 0 hS fun hS=>AR (Bi (AbY ..) hS)
def ZV:Int:=(AK .u8 (Bf .u8 x 1) (BL .u8 (AY .u8 x 7) 27))
def Fx:Int:=AJ (ZV x)
theorem uW:Fx x=ZV x:=Ag _
def zC (z_:Int:=Fx x):Con:=⟨[.v (.int .u8 x)],[],.v (.int .u8 z_),[]⟩
theorem Hd:ConOk Tryz.prog 204 (zC x):=by
 exact cy 0 Tryz.func204 rfl Tryz.ntmps204 fun hg0 hS=>Ae [] 0 hS fun hS=>Ax [(1,EQ 1),(3,EQ 7)] [] 0 hS fun hS=>AR (Bi (uW ..) hS)
end
def Pr (k1:Nat):(Int×Int×Int)→(Int×Int×Int):=fun(x0,x1,x4)=>((Fx x0),(AY .u8 x1 1),(AK .u8 x4 (BL .u8 x0 (A6 .u8 x1 1))))
def II (a b:Int):Nat→Int×Int×Int
 |0=>(a,b,0)
 |k1+1=>Pr k1 (II a b k1)
def Ps:(Int×Int×Int)→Prop:=fun(x0,x1,x4)=>(0:Int)<x1
section
variable (a b:Int)
def ZW:Int:=((II a b (CS fun j=>Ps (II a b j))).2.2)
def FX:Int:=AJ (ZW a b)
theorem uY:FX a b=ZW a b:=Ag _
def zD (z_:Int:=FX a b):Con:=⟨[.v (.int .u8 a),.v (.int .u8 b)],[],.v (.int .u8 z_),[]⟩
theorem VG:ConOk Tryz.prog 211 (zD a b):=by
 refine cy 0 Tryz.func211 rfl Tryz.ntmps211 fun hg0 hS=>Ae [] 0 hS fun hS=>Av (Br (Ar (ι:=Nat×Int×Int×Int) hg0 hS (fun(k1,x0,x1,x4)=>(x1.toNat,[(0,.v (.int .u8 x0)),(1,.v (.int .u8 x1)),(4,.v (.int .u8 x4))],[],((x0,x1,x4)=II a b k1)∧(∀j,j<k1→Ps (II a b j))∧True)) [] [] 0 (0,a,b,0) [] ⟨rfl,(fun j h=>absurd h (Nat.not_lt_zero j)),trivial⟩ ?_))
 rintro⟨k1,x0,x1,x4⟩ ac gs ws ⟨hq1,hj1,_⟩ hS
 refine Av (Ae [] 0 hS fun hS=>AB ((0:Int)<x1) hS (fun h1=> ?_) (fun h1=> ?_))
 ·exact BE (Ae [4] 0 hS fun hS=>As [(1,AP (Hd x0))] [0] 0 hS fun hS=>BV (As [(1,EQ 1)] [1] 0 hS fun hS=>Ab (Al hg0 hS (k1+1,(Fx x0),(AY .u8 x1 1),(AK .u8 x4 (BL .u8 x0 (A6 .u8 x1 1)))) [] ⟨(A3 (st:=Pr) hq1 rfl rfl),(A0 hj1 (by rw[←hq1];exact h1)),trivial⟩ (show(AY .u8 x1 1).toNat<x1.toNat from vG BF))))
 ·have hT:=hS
  obtain rfl:=BK (by rw[←hq1];first |exact h1|exact not_not_intro h1) hj1
  obtain⟨rfl,rfl,rfl⟩:=mQ hq1
  have hS:=hT
  exact CO (Ae [4] 0 hS fun hS=>AR (Bi (uY ..) hS))
end
def Ni (b:Int) (k1:Nat):(Int×Int)→(Int×Int):=fun(x3,x4)=>if(0:Int)<x4 then((FX (FX x3 x3) b),(x4-1))else((FX x3 x3),(x4-1))
def D8 (b:Int):Nat→Int×Int
 |0=>(1,7)
 |k1+1=>Ni b k1 (D8 b k1)
def Gd:(Int×Int)→Prop:=fun(x3,x4)=>(0:Int)≤x4
def Sk (b:Int) (k2:Nat):(Int×Nat)→(Int×Nat):=fun(x5,x6)=>((AK .u8 x5 (TW ((D8 b (CS fun j=>Gd (D8 b j))).1) x6)),x6+1)
def LG (b:Int):Nat→Int×Nat
 |0=>(((D8 b (CS fun j=>Gd (D8 b j))).1),1)
 |k2+1=>Sk b k2 (LG b k2)
def Sn:(Int×Nat)→Prop:=fun(x5,x6)=>(x6:Int)<5
def lA (b:Int):Int:=(AK .u8 ((LG b (CS fun j=>Sn (LG b j))).1) 99)
def Nh (b:Int):Int:=AJ (lA b)
theorem lB (b:Int):Nh b=lA b:=Ag _
theorem Z7 (x:Int):0≤Nh x∧Nh x<256:=by rw[lB];exact IE _ _
def Adv (b:Int) (z_:Int:=Nh b):Con:=⟨[.v (.int .u8 b)],[],.v (.int .u8 z_),[]⟩
theorem vJ (b:Int):ConOk Tryz.prog 203 (Adv b):=by
 refine cy 0 Tryz.func203 rfl Tryz.ntmps203 fun hg0 hS=>Ae [] 0 hS fun hS=>Ae [] 0 hS fun hS=>Av (Ae [] 0 hS fun hS=>Br (Ar (ι:=Nat×Int×Int) hg0 hS (fun(k1,x3,x4)=>((x4+1).toNat,[(3,.v (.int .u8 x3)),(4,vi x4)],[],((x3,x4)=D8 b k1)∧(∀j,j<k1→Gd (D8 b j))∧(-1≤x4∧x4≤7)∧True)) [0,2] [] 0 (0,1,7) [] ⟨rfl,(fun j h=>absurd h (Nat.not_lt_zero j)),Ac,trivial⟩ ?_))
 rintro⟨k1,x3,x4⟩ ac gs ws ⟨hq1,hj1,p1,_⟩ hS
 refine Av (Ae [] 0 hS fun hS=>AB ((0:Int)≤x4) hS (fun h1=> ?_) (fun h1=> ?_))
 ·refine BE (Ax [(2,AP (VG x3 x3))] [3] 0 hS fun hS=>Ae [] 0 hS fun hS=>AB ((0:Int)<x4) hS (fun h2=> ?_) (fun h2=> ?_))
  ·exact As [(2,AP (VG (FX x3 x3) b))] [3] 0 hS fun hS=>BV (As [(1,ZH x4 1)] [4] 0 hS fun hS=>Ab (Al hg0 hS (k1+1,(FX (FX x3 x3) b),(x4-1)) [] ⟨(A3 (st:=Ni _) hq1 rfl (Eq.symm (if_pos h2))),(A0 hj1 (by rw[←hq1];exact h1)),Ac,trivial⟩))
  ·exact G8 (As [(1,ZH x4 1)] [4] 0 hS fun hS=>Ab (Al hg0 hS (k1+1,(FX x3 x3),(x4-1)) [] ⟨(A3 (st:=Ni _) hq1 rfl (Eq.symm (if_neg h2))),(A0 hj1 (by rw[←hq1];exact h1)),Ac,trivial⟩))
 ·have hT:=hS
  obtain rfl:=BK (by rw[←hq1];first |exact h1|exact not_not_intro h1) hj1
  obtain⟨rfl,rfl⟩:=Ug hq1
  have hS:=hT
  refine CO (Ae [] 0 hS fun hS=>Av (Ae [] 0 hS fun hS=>Br (Ar (ι:=Nat×Int×Nat) hg0 hS (fun(k2,x5,x6)=>(5-x6,[(5,.v (.int .u8 x5)),(6,vi (x6:Int))],[],((x5,x6)=LG b k2)∧(∀j,j<k2→Sn (LG b j))∧(1≤x6)∧True)) [2,3] [] 0 (0,((D8 b (CS fun j=>Gd (D8 b j))).1),1) [] ⟨rfl,(fun j h=>absurd h (Nat.not_lt_zero j)),Ac,trivial⟩ ?_)))
  rintro⟨k2,x5,x6⟩ ac gs ws ⟨hq2,hj2,p2,_⟩ hS
  refine Av (Ae [] 0 hS fun hS=>AB ((x6:Int)<5) hS (fun h3=> ?_) (fun h3=> ?_))
  ·exact BE (As [(3,AP (vR ((D8 b (CS fun j=>Gd (D8 b j))).1) x6 Ac))] [5] 0 hS fun hS=>BV (As [(1,BH x6)] [6] 0 hS fun hS=>Ab (Al hg0 hS (k2+1,(AK .u8 x5 (TW ((D8 b (CS fun j=>Gd (D8 b j))).1) x6)),x6+1) [] ⟨(A3 (st:=Sk _) hq2 rfl rfl),(A0 hj2 (by rw[←hq2];exact h3)),Ac,trivial⟩)))
  ·have hT:=hS
   obtain rfl:=BK (by rw[←hq2];first |exact h3|exact not_not_intro h3) hj2
   obtain⟨rfl,rfl⟩:=Ug hq2
   have hS:=hT
   exact CO (Ae [] 0 hS fun hS=>AR (Bi (lB ..) hS))
section
variable (a b:Int) (c d:Int)
def bA:(Nat→Int):=upd (upd (upd (upd (fun _=>0) 0 (AK .u8 (AK .u8 a (AK .u8 (AK .u8 (AK .u8 a b) c) d)) (Fx (AK .u8 a b)))) 1 (AK .u8 (AK .u8 b (AK .u8 (AK .u8 (AK .u8 a b) c) d)) (Fx (AK .u8 b c)))) 2 (AK .u8 (AK .u8 c (AK .u8 (AK .u8 (AK .u8 a b) c) d)) (Fx (AK .u8 c d)))) 3 (AK .u8 (AK .u8 d (AK .u8 (AK .u8 (AK .u8 a b) c) d)) (Fx (AK .u8 d a)))
def Ez:(Nat→Int):=AJ (bA a b c d)
theorem xB:Ez a b c d=bA a b c d:=Ag _
def Aaj (z_:(Nat→Int):=Ez a b c d):Con:=⟨[.v (.int .u8 a),.v (.int .u8 b),.v (.int .u8 c),.v (.int .u8 d)],[],.ar .u8 4 z_,[]⟩
theorem Mg:ConOk Tryz.prog 205 (Aaj a b c d):=by
 exact cy 0 Tryz.func205 rfl Tryz.ntmps205 fun hg0 hS=>Ae [] 1 hS fun hS=>Ae [] 1 hS fun hS=>Ax [(6,AP (Hd (AK .u8 a b))),(14,AP (Hd (AK .u8 b c))),(22,AP (Hd (AK .u8 c d))),(30,AP (Hd (AK .u8 d a)))] [] 1 hS fun hS=>AR (Bi (xB ..) hS)
end
end
end Go.Sx.Tryz
namespace Go.Sx.Tryz
open Go.Mi Go.RowKit Go.Sx Go.Proofs
noncomputable section
def XY (x0 x1:Nat→Int):O:= .ob 258 (chain [.ar .u8 256 x0,.ar .u8 240 x1])
def iT (x0:Nat→Int):O:= .ob 241 (chain [.ar .u8 16 x0])
theorem OV {xs:List Int} (h:By xs) (j:Nat):0≤xs.getD j 0∧xs.getD j 0<256:=by
 rw[List.getD_eq_getElem?_getD]
 cases hx:xs[j]? with
 |none=>exact⟨Int.le_refl _,by decide⟩
 |some x=>exact h x (List.mem_of_getElem? hx)
theorem Acb {key:List Int} (h:By key):Rb 240 (Di (fun _=>0) 0 (min key.length 240) (fun j=>key.getD j 0)):=fun j hj=>by
 unfold Di
 cases Nat.ble 0 j&&Nat.blt j (0+min key.length 240)with
 |true=>exact OV h _
 |false=>exact⟨Int.le_refl _,(by decide:(0:Int)<256)⟩
def P7 (x11:Nat):(Nat→Int)→(Nat→Int):=fun o3_0=>upd o3_0 x11 (Nh (IntKind.wrap .u8 (x11:Int)))
def Bo:Nat→(Nat→Int)
 |0=>fun _=>0
 |x11+1=>P7 x11 (Bo x11)
def P5 (x5:Int) (x6:Nat) (o3_1:Nat→Int) (x111:Nat):(Nat→Int)→(Nat→Int):=fun o3_1_3=>upd o3_1_3 (x6+x111) (AK .u8 (o3_1_3 ((x6+x111)-32)) ((upd (upd (upd (upd (fun _=>0) 0 (AK .u8 ((Bo 256) (Int.toNat ((fun j=>o3_1 ((x6-4)+j)) 1))) x5)) 1 ((Bo 256) (Int.toNat ((fun j=>o3_1 ((x6-4)+j)) 2)))) 2 ((Bo 256) (Int.toNat ((fun j=>o3_1 ((x6-4)+j)) 3)))) 3 ((Bo 256) (Int.toNat ((fun j=>o3_1 ((x6-4)+j)) 0)))) x111))
def LN (x5:Int) (x6:Nat) (o3_1:Nat→Int):Nat→(Nat→Int)
 |0=>o3_1
 |x111+1=>P5 x5 x6 o3_1 x111 (LN x5 x6 o3_1 x111)
section
variable (x6:Nat) (o3_1:Nat→Int)
def P4 (x111:Nat):(Nat→Int)→(Nat→Int):=fun o3_1_4=>upd o3_1_4 (x6+x111) (AK .u8 (o3_1_4 ((x6+x111)-32)) ((upd (upd (upd (upd (fun _=>0) 0 ((Bo 256) (Int.toNat ((fun j=>o3_1 ((x6-4)+j)) 0)))) 1 ((Bo 256) (Int.toNat ((fun j=>o3_1 ((x6-4)+j)) 1)))) 2 ((Bo 256) (Int.toNat ((fun j=>o3_1 ((x6-4)+j)) 2)))) 3 ((Bo 256) (Int.toNat ((fun j=>o3_1 ((x6-4)+j)) 3)))) x111))
def LM (x6:Nat) (o3_1:Nat→Int):Nat→(Nat→Int)
 |0=>o3_1
 |x111+1=>P4 x6 o3_1 x111 (LM x6 o3_1 x111)
def P3 (x111:Nat):(Nat→Int)→(Nat→Int):=fun o3_1_5=>upd o3_1_5 (x6+x111) (AK .u8 (o3_1_5 ((x6+x111)-32)) ((fun j=>o3_1 ((x6-4)+j)) x111))
end
def LL (x6:Nat) (o3_1:Nat→Int):Nat→(Nat→Int)
 |0=>o3_1
 |x111+1=>P3 x6 o3_1 x111 (LL x6 o3_1 x111)
def HZ (k2:Nat):(Int×Nat×(Nat→Int))→(Int×Nat×(Nat→Int)):=fun(x5,x6,o3_1)=>if(((x6/4)%8:Nat):Int)=0 then((Fx x5),x6+4,LN x5 x6 o3_1 4)else(if(((x6/4)%8:Nat):Int)=4 then(x5,x6+4,LM x6 o3_1 4)else(x5,x6+4,LL x6 o3_1 4))
def IW (key:List Int):Nat→Int×Nat×(Nat→Int)
 |0=>(1,32,Di (fun _=>0) 0 (min key.length 240) (fun j=>key.getD j 0))
 |k2+1=>HZ k2 (IW key k2)
def P6:(Int×Nat×(Nat→Int))→Prop:=fun(x5,x6,o3_1)=>(x6:Int)<240
section
variable (key:List Int)
def aH:(Nat→Int)×(Nat→Int):=(Bo 256,(IW key (CS fun j=>P6 (IW key j))).2.2)
def D_:(Nat→Int)×(Nat→Int):=AJ (aH key)
theorem aI:D_ key=aH key:=Ag _
theorem lZ:Rb 256 (D_ key).1:=by
 have key1:∀n,Rb n (Bo n):=by
  intro n
  induction n with
  |zero=>exact Rb.zero _
  |succ n ih=>exact Rb.next ih (Z7 _)
 rw[aI]
 exact key1 256
def z7 (z_:(Nat→Int)×(Nat→Int):=D_ key):Con:=⟨[lb key],[],.cp 0 0,[(0,XY (z_.1) (z_.2))]⟩
theorem l0 (hk:key.length=32) (hb:By key):ConOk Tryz.prog 182 (z7 key):=by
 refine cy 0 Tryz.func182 rfl Tryz.ntmps182 fun hg0 hS=> ?_
 have A7:key.length≤9223372036854775807:=hS.len 0 rfl
 refine Ae [] 0 hS fun hS=>Ae [] 1 hS fun hS=>Av (Ae [] 1 hS fun hS=>Br (Ar (ι:=Nat×(Nat→Int)) hg0 hS (fun(x11,o3_0)=>(256-x11,[(11,vi ((x11:Nat):Int))],[(0,XY o3_0 (fun _=>0))],(x11≤256)∧(o3_0=Bo x11)∧(Rb x11 o3_0)∧True)) [0,2,3] [] 1 (0,fun _=>0) [(0,0)] ⟨Ac,rfl,(Rb.zero _),trivial⟩ ?_))
 rintro⟨x11,o3_0⟩ ac gs ws ⟨hx11,hq1,p1,_⟩ hS
 refine Ae [] 1 hS fun hS=>Av (AB ((x11:Int)<256) hS (fun h1=> ?_) (fun h1=> ?_))
 ·exact BE (Ae [] 1 hS fun hS=>As [(4,AP (vJ (IntKind.wrap .u8 (x11:Int)))),(7,AD x11 256)] [] 1 hS fun hS=>BV (As [(0,BH x11)] [11] 1 hS fun hS=>Ab (Al hg0 hS (x11+1,upd o3_0 x11 (Nh (IntKind.wrap .u8 (x11:Int)))) [(0,0)] ⟨Ac,(A3 (st:=P7) hq1 rfl rfl),(Rb.next p1 (Z7 _)),trivial⟩)))
 ·have hT:=hS
  obtain rfl:256=x11:=by omega
  obtain rfl:=hq1.symm
  have hS:=hT
  refine CO (Ax [(3,t8 [E8 none none none 240 240,240≤9223372036854775807,bl none 0<bl none 240] ⟨⟨by simp only[F3]<;>omega,by simp only[F3]<;>omega,by simp only[F3]<;>omega,by simp,by simp only[bl]<;>omega,by simp only[bl]<;>omega,by simp only[bl]<;>omega⟩,by omega,by decide,trivial⟩)] [] 1 hS fun hS=>Ae [] 1 hS fun hS=>Av (Ae [] 1 hS fun hS=>Br (Ar (ι:=Nat×Int×Nat×(Nat→Int)) hg0 hS (fun(k2,x5,x6,o3_1)=>(240-x6,[(5,.v (.int .u8 x5)),(6,vi (x6:Int))],[(0,XY (Bo 256) o3_1)],((x5,x6,o3_1)=IW key k2)∧(∀j,j<k2→P6 (IW key j))∧(x6%4=0∧32≤x6∧x6≤240)∧(Rb 240 o3_1)∧True)) [2,3] [] 1 (0,1,32,Di (fun _=>0) 0 (min key.length 240) (fun j=>key.getD j 0)) [(0,0)] ⟨rfl,(fun j h=>absurd h (Nat.not_lt_zero j)),Ac,(Acb hb),trivial⟩ ?_)))
  rintro⟨k2,x5,x6,o3_1⟩ ac gs ws ⟨hq2,hj2,p2,p4,_⟩ hS
  refine Av (Ae [] 1 hS fun hS=>AB ((x6:Int)<240) hS (fun h2=> ?_) (fun h2=> ?_))
  ·refine BE (Ax [(4,G9 x6 4 (x6-4)),(6,t8 [E8 (some ((x6-4:Nat):Int)) (some (x6:Int)) none 240 240,240≤9223372036854775807,bl (some ((x6-4:Nat):Int)) 0<bl none 240] ⟨⟨by simp only[F3]<;>omega,by simp only[F3]<;>omega,by simp only[F3]<;>omega,by simp,by simp only[bl]<;>omega,by simp only[bl]<;>omega,by simp only[bl]<;>omega⟩,by omega,by simp only[bl]<;>omega,trivial⟩),(7,Vn .frz [4≤x6-(x6-4)] ⟨by omega,trivial⟩),(8,Vn (.at 1 (x6-4)) [256+(x6-4)=Vs (([.ar .u8 256 (Bo 256),.ar .u8 240 o3_1]:List D).take 1)+(x6-4),(x6-4)+4≤240] ⟨rfl,by omega,trivial⟩)] [7] 2 hS fun hS=>Av (Ax [(1,Vy x6 4),(2,Ll (x6/4) 8)] [] 2 hS fun hS=>Br (Ae [] 2 hS fun hS=>AB ((((x6/4)%8:Nat):Int)=0) hS (fun h3=> ?_) (fun h3=> ?_))))
   ·refine Av ?_
    have hr0:0≤(fun j=>o3_1 (x6-4+j)) 0∧(fun j=>o3_1 (x6-4+j)) 0<256:=p4 (x6-4+0) Ac
    have hr1:0≤(fun j=>o3_1 (x6-4+j)) 1∧(fun j=>o3_1 (x6-4+j)) 1<256:=p4 (x6-4+1) Ac
    have hr2:0≤(fun j=>o3_1 (x6-4+j)) 2∧(fun j=>o3_1 (x6-4+j)) 2<256:=p4 (x6-4+2) Ac
    have hr3:0≤(fun j=>o3_1 (x6-4+j)) 3∧(fun j=>o3_1 (x6-4+j)) 3<256:=p4 (x6-4+3) Ac
    refine As [(1,AD 1 4),(5,XZ ((fun j=>o3_1 ((x6-4)+j)) 1) 256),(10,AD 2 4),(14,XZ ((fun j=>o3_1 ((x6-4)+j)) 2) 256),(17,AD 3 4),(21,XZ ((fun j=>o3_1 ((x6-4)+j)) 3) 256),(24,AD 0 4),(28,XZ ((fun j=>o3_1 ((x6-4)+j)) 0) 256)] [] 2 hS fun hS=>Ab (As [(1,AP (Hd x5))] [5] 2 hS fun hS=>BV (Ae [] 2 hS fun hS=>Br (Ar (ι:=Nat×(Nat→Int)) hg0 hS (fun(x111,o3_1_3)=>(4-x111,[(111,vi ((x111:Nat):Int))],[(0,XY (Bo 256) o3_1_3)],(x111≤4)∧(o3_1_3=LN x5 x6 o3_1 x111)∧(Rb 240 o3_1_3)∧True)) [2,3,5,6,7] [1] 2 (0,o3_1) [(0,0),(1,1)] ⟨Ac,rfl,p4,trivial⟩ ?_)))
    rintro⟨x111,o3_1_3⟩ ac gs ws ⟨hx111,hq3,p5,_⟩ hS
    refine Ae [] 2 hS fun hS=>Av (AB ((x111:Int)<4) hS (fun h4=> ?_) (fun h4=> ?_))
    ·exact BE (Ae [] 2 hS fun hS=>As [(3,Ek x6 x111 (x6+x111)),(7,Ek x6 x111 (x6+x111)),(8,G9 (x6+x111) 32 ((x6+x111)-32)),(11,AD ((x6+x111)-32) 240),(14,AD x111 4),(19,AD (x6+x111) 240)] [] 2 hS fun hS=>BV (As [(0,BH x111)] [111] 2 hS fun hS=>Ab (Al hg0 hS (x111+1,upd o3_1_3 (x6+x111) (AK .u8 (o3_1_3 ((x6+x111)-32)) ((upd (upd (upd (upd (fun _=>0) 0 (AK .u8 ((Bo 256) (Int.toNat ((fun j=>o3_1 ((x6-4)+j)) 1))) x5)) 1 ((Bo 256) (Int.toNat ((fun j=>o3_1 ((x6-4)+j)) 2)))) 2 ((Bo 256) (Int.toNat ((fun j=>o3_1 ((x6-4)+j)) 3)))) 3 ((Bo 256) (Int.toNat ((fun j=>o3_1 ((x6-4)+j)) 0)))) x111))) [(0,0),(1,1)] ⟨Ac,(A3 (st:=P5 _ _ _) hq3 rfl rfl),(Rb.set p5 _ (IE _ _)),trivial⟩)))
    ·have hT:=hS
     obtain rfl:4=x111:=by omega
     obtain rfl:=hq3.symm
     have hS:=hT
     exact Vx (As [(1,Ek x6 4 (x6+4))] [6] 2 hS fun hS=>Ab (Al hg0 hS (k2+1,(Fx x5),x6+4,LN x5 x6 o3_1 4) [(0,0)] ⟨(A3 (st:=HZ) hq2 rfl (Eq.symm (if_pos h3))),(A0 hj2 (by rw[←hq2];exact h2)),Ac,p5,trivial⟩))
   ·refine Ae [] 2 hS fun hS=>AB ((((x6/4)%8:Nat):Int)=4) hS (fun h5=> ?_) (fun h5=> ?_)
    ·have hr0:0≤(fun j=>o3_1 (x6-4+j)) 0∧(fun j=>o3_1 (x6-4+j)) 0<256:=p4 (x6-4+0) Ac
     have hr1:0≤(fun j=>o3_1 (x6-4+j)) 1∧(fun j=>o3_1 (x6-4+j)) 1<256:=p4 (x6-4+1) Ac
     have hr2:0≤(fun j=>o3_1 (x6-4+j)) 2∧(fun j=>o3_1 (x6-4+j)) 2<256:=p4 (x6-4+2) Ac
     have hr3:0≤(fun j=>o3_1 (x6-4+j)) 3∧(fun j=>o3_1 (x6-4+j)) 3<256:=p4 (x6-4+3) Ac
     refine As [(1,AD 0 4),(5,XZ ((fun j=>o3_1 ((x6-4)+j)) 0) 256),(8,AD 1 4),(12,XZ ((fun j=>o3_1 ((x6-4)+j)) 1) 256),(15,AD 2 4),(19,XZ ((fun j=>o3_1 ((x6-4)+j)) 2) 256),(22,AD 3 4),(26,XZ ((fun j=>o3_1 ((x6-4)+j)) 3) 256)] [] 2 hS fun hS=>BV (Ae [] 2 hS fun hS=>Br (Ar (ι:=Nat×(Nat→Int)) hg0 hS (fun(x111,o3_1_4)=>(4-x111,[(111,vi ((x111:Nat):Int))],[(0,XY (Bo 256) o3_1_4)],(x111≤4)∧(o3_1_4=LM x6 o3_1 x111)∧(Rb 240 o3_1_4)∧True)) [2,3,5,6,7] [1] 2 (0,o3_1) [(0,0),(1,1)] ⟨Ac,rfl,p4,trivial⟩ ?_))
     rintro⟨x111,o3_1_4⟩ ac gs ws ⟨hx111,hq4,p5,_⟩ hS
     refine Ae [] 2 hS fun hS=>Av (AB ((x111:Int)<4) hS (fun h6=> ?_) (fun h6=> ?_))
     ·exact BE (Ae [] 2 hS fun hS=>As [(3,Ek x6 x111 (x6+x111)),(7,Ek x6 x111 (x6+x111)),(8,G9 (x6+x111) 32 ((x6+x111)-32)),(11,AD ((x6+x111)-32) 240),(14,AD x111 4),(19,AD (x6+x111) 240)] [] 2 hS fun hS=>BV (As [(0,BH x111)] [111] 2 hS fun hS=>Ab (Al hg0 hS (x111+1,upd o3_1_4 (x6+x111) (AK .u8 (o3_1_4 ((x6+x111)-32)) ((upd (upd (upd (upd (fun _=>0) 0 ((Bo 256) (Int.toNat ((fun j=>o3_1 ((x6-4)+j)) 0)))) 1 ((Bo 256) (Int.toNat ((fun j=>o3_1 ((x6-4)+j)) 1)))) 2 ((Bo 256) (Int.toNat ((fun j=>o3_1 ((x6-4)+j)) 2)))) 3 ((Bo 256) (Int.toNat ((fun j=>o3_1 ((x6-4)+j)) 3)))) x111))) [(0,0),(1,1)] ⟨Ac,(A3 (st:=P4 _ _) hq4 rfl rfl),(Rb.set p5 _ (IE _ _)),trivial⟩)))
     ·have hT:=hS
      obtain rfl:4=x111:=by omega
      obtain rfl:=hq4.symm
      have hS:=hT
      exact Vx (As [(1,Ek x6 4 (x6+4))] [6] 2 hS fun hS=>Ab (Al hg0 hS (k2+1,x5,x6+4,LM x6 o3_1 4) [(0,0)] ⟨(A3 (st:=HZ) hq2 rfl (Eq.symm ((if_neg h3).trans (if_pos h5)))),(A0 hj2 (by rw[←hq2];exact h2)),Ac,p5,trivial⟩))
    ·refine G8 (Ae [] 2 hS fun hS=>Br (Ar (ι:=Nat×(Nat→Int)) hg0 hS (fun(x111,o3_1_5)=>(4-x111,[(111,vi ((x111:Nat):Int))],[(0,XY (Bo 256) o3_1_5)],(x111≤4)∧(o3_1_5=LL x6 o3_1 x111)∧(Rb 240 o3_1_5)∧True)) [2,3,5,6,7] [1] 2 (0,o3_1) [(0,0),(1,1)] ⟨Ac,rfl,p4,trivial⟩ ?_))
     rintro⟨x111,o3_1_5⟩ ac gs ws ⟨hx111,hq5,p5,_⟩ hS
     refine Ae [] 2 hS fun hS=>Av (AB ((x111:Int)<4) hS (fun h7=> ?_) (fun h7=> ?_))
     ·exact BE (Ae [] 2 hS fun hS=>As [(3,Ek x6 x111 (x6+x111)),(7,Ek x6 x111 (x6+x111)),(8,G9 (x6+x111) 32 ((x6+x111)-32)),(11,AD ((x6+x111)-32) 240),(14,AD x111 4),(19,AD (x6+x111) 240)] [] 2 hS fun hS=>BV (As [(0,BH x111)] [111] 2 hS fun hS=>Ab (Al hg0 hS (x111+1,upd o3_1_5 (x6+x111) (AK .u8 (o3_1_5 ((x6+x111)-32)) ((fun j=>o3_1 ((x6-4)+j)) x111))) [(0,0),(1,1)] ⟨Ac,(A3 (st:=P3 _ _) hq5 rfl rfl),(Rb.set p5 _ (IE _ _)),trivial⟩)))
     ·have hT:=hS
      obtain rfl:4=x111:=by omega
      obtain rfl:=hq5.symm
      have hS:=hT
      exact Vx (As [(1,Ek x6 4 (x6+4))] [6] 2 hS fun hS=>Ab (Al hg0 hS (k2+1,x5,x6+4,LL x6 o3_1 4) [(0,0)] ⟨(A3 (st:=HZ) hq2 rfl (Eq.symm ((if_neg h3).trans (if_neg h5)))),(A0 hj2 (by rw[←hq2];exact h2)),Ac,p5,trivial⟩))
  ·have hT:=hS
   obtain rfl:=BK (by rw[←hq2];first |exact h2|exact not_not_intro h2) hj2
   obtain⟨rfl,rfl,rfl⟩:=mQ hq2
   have hS:=hT
   exact CO (Ae [] 1 hS fun hS=>AR (Bi (aI ..) hS))
end
def Mh (t:Nat→Int):Nat→Nat→Int
 |0=>t
 |i+1=>if i%4=3 then Di (Mh t i) (i-3) (min ((List.range 4).map (Ez (Mh t i (i-3)) (Mh t i (i-2)) (Mh t i (i-1)) (Mh t i i))).length (16-(i-3))) (fun j=>((List.range 4).map (Ez (Mh t i (i-3)) (Mh t i (i-2)) (Mh t i (i-1)) (Mh t i i))).getD j 0)else Mh t i
def Ry (g:Nat→Int) (x12:Nat):(Nat→Int)→(Nat→Int):=fun o3_0=>upd o3_0 x12 (AK .u8 (o3_0 x12) (g x12))
def MW (g s:Nat→Int):Nat→(Nat→Int)
 |0=>s
 |x12+1=>Ry g x12 (MW g s x12)
section
variable (f:Nat→Int)
def Ru (o3_0:Nat→Int) (x31:Nat):(Nat→Int)→(Nat→Int):=fun o7_0=>upd o7_0 x31 (f (Int.toNat (o3_0 ((x31+((x31%4)*4))%16))))
def Ev (f o3_0:Nat→Int):Nat→(Nat→Int)
 |0=>fun _=>0
 |x31+1=>Ru f o3_0 x31 (Ev f o3_0 x31)
def Rt (g:Nat→Int) (x6:Nat) (o3_0:Nat→Int) (x78:Nat):(Nat→Int)→(Nat→Int):=fun o3_0_5=>upd o3_0_5 x78 (AK .u8 ((Ev f o3_0 16) x78) (g ((x6*16)+x78)))
def MV (f g:Nat→Int) (x6:Nat) (o3_0:Nat→Int):Nat→(Nat→Int)
 |0=>o3_0
 |x78+1=>Rt f g x6 o3_0 x78 (MV f g x6 o3_0 x78)
def Rr (g:Nat→Int) (x6:Nat) (o3_0:Nat→Int) (x78:Nat):(Nat→Int)→(Nat→Int):=fun o3_0_6=>upd o3_0_6 x78 (AK .u8 ((Mh (Ev f o3_0 16) 16) x78) (g ((x6*16)+x78)))
def MU (f g:Nat→Int) (x6:Nat) (o3_0:Nat→Int):Nat→(Nat→Int)
 |0=>o3_0
 |x78+1=>Rr f g x6 o3_0 x78 (MU f g x6 o3_0 x78)
def Lj (g:Nat→Int) (k2:Nat):(Nat×(Nat→Int))→(Nat×(Nat→Int)):=fun(x6,o3_0)=>if((x6:Nat):Int)<14 then(x6+1,MU f g x6 o3_0 16)else(x6+1,MV f g x6 o3_0 16)
end
def Js (f g s:Nat→Int):Nat→Nat×(Nat→Int)
 |0=>(1,MW g s 16)
 |k2+1=>Lj f g k2 (Js f g s k2)
def Rv:(Nat×(Nat→Int))→Prop:=fun(x6,o3_0)=>((x6:Nat):Int)≤14
section
variable (f g s:Nat→Int)
def cX:(Nat→Int):=(Js f g s (CS fun j=>Rv (Js f g s j))).2
def MS:(Nat→Int):=AJ (cX f g s)
theorem AaM:MS f g s=cX f g s:=Ag _
def AaF (z_:(Nat→Int):=MS f g s):Con:=Cq [.cp 0 0,.ar .u8 16 s] [(0,XY f g)] (.ar .u8 16 z_)
theorem tQ (hf:Rb 256 f):ConOk Tryz.prog 183 (AaF f g s):=by
 refine cy 1 Tryz.func183 rfl Tryz.ntmps183 fun hg0 hS=>Ae [] 3 hS fun hS=>Av (Ae [] 3 hS fun hS=>Br (Ar (ι:=Nat×(Nat→Int)) hg0 hS (fun(x12,o3_0)=>(16-x12,[(12,vi ((x12:Nat):Int))],[(1,iT o3_0)],(x12≤16)∧(o3_0=MW g s x12)∧(Rb x12 o3_0)∧True)) [0,3,4] [0,2] 3 (0,s) [(0,0),(1,1),(2,2)] ⟨Ac,rfl,(Rb.zero _),trivial⟩ ?_))
 rintro⟨x12,o3_0⟩ ac gs ws ⟨hx12,hq1,p1,_⟩ hS
 refine Ae [] 3 hS fun hS=>Av (AB ((x12:Int)<16) hS (fun h1=> ?_) (fun h1=> ?_))
 ·exact BE (Ae [] 3 hS fun hS=>As [(1,AD x12 16),(7,AD x12 240),(10,AD x12 16)] [] 3 hS fun hS=>BV (As [(0,BH x12)] [12] 3 hS fun hS=>Ab (Al hg0 hS (x12+1,upd o3_0 x12 (AK .u8 (o3_0 x12) (g x12))) [(0,0),(1,1),(2,2)] ⟨Ac,(A3 (st:=Ry _) hq1 rfl rfl),(Rb.next p1 (IE _ _)),trivial⟩)))
 ·have hT:=hS
  obtain rfl:16=x12:=by omega
  obtain rfl:=hq1.symm
  have hS:=hT
  refine ML (Ae [] 3 hS fun hS=>Br (Ar (ι:=Nat×Nat×(Nat→Int)) hg0 hS (fun(k2,x6,o3_0)=>(15-x6,[(6,vi (x6:Int))],[(1,iT o3_0)],((x6,o3_0)=Js f g s k2)∧(∀j,j<k2→Rv (Js f g s j))∧(1≤x6∧x6≤15)∧(Rb 16 o3_0)∧True)) [0,3,4] [0,2] 3 (0,1,MW g s 16) [(0,0),(1,1),(2,2)] ⟨rfl,(fun j h=>absurd h (Nat.not_lt_zero j)),Ac,p1,trivial⟩ ?_))
  rintro⟨k2,x6,o3_0⟩ ac gs ws ⟨hq2,hj2,p2,p3,_⟩ hS
  refine Av (Ae [] 3 hS fun hS=>AB ((x6:Int)≤14) hS (fun h2=> ?_) (fun h2=> ?_))
  ·refine BE (Ae [] 4 hS fun hS=>Av (Ae [] 4 hS fun hS=>Br (Ar (ι:=Nat×(Nat→Int)) hg0 hS (fun(x31,o7_0)=>(16-x31,[(31,vi ((x31:Nat):Int))],[(3,iT o7_0)],(x31≤16)∧(o7_0=Ev f o3_0 x31)∧True)) [0,3,4,6,7] [0,1,2] 4 (0,fun _=>0) [(0,0),(1,1),(2,2),(3,3)] ⟨Ac,rfl,trivial⟩ ?_)))
   rintro⟨x31,o7_0⟩ ac gs ws ⟨hx31,hq3,_⟩ hS
   refine Ae [] 4 hS fun hS=>Av (AB ((x31:Int)<16) hS (fun h3=> ?_) (fun h3=> ?_))
   ·refine BE (Ae [] 4 hS fun hS=> ?_)
    have hq13:=p3 ((x31+x31%4*4)%16) Ac
    exact As [(4,Ll x31 4),(5,HJ (x31%4) 4 ((x31%4)*4)),(6,Ek x31 ((x31%4)*4) (x31+((x31%4)*4))),(7,Ll (x31+((x31%4)*4)) 16),(8,AD ((x31+((x31%4)*4))%16) 16),(12,XZ (o3_0 ((x31+((x31%4)*4))%16)) 256),(14,AD x31 16)] [] 4 hS fun hS=>BV (As [(0,BH x31)] [31] 4 hS fun hS=>Ab (Al hg0 hS (x31+1,upd o7_0 x31 (f (Int.toNat (o3_0 ((x31+((x31%4)*4))%16))))) [(0,0),(1,1),(2,2),(3,3)] ⟨Ac,(A3 (st:=Ru _ _) hq3 rfl rfl),trivial⟩))
   ·have hT:=hS
    obtain rfl:16=x31:=by omega
    obtain rfl:=hq3.symm
    have hS:=hT
    refine ML (Ae [] 4 hS fun hS=>Br (Ar (ι:=Nat×(Nat→Int)) hg0 hS (fun(x9,tt)=>(16-x9,[(9,vi ((x9:Nat):Int))],[(3,iT tt)],(x9%4=0∧x9≤16)∧(x9=0∨x6<14)∧(tt=Mh (Ev f o3_0 16) x9)∧True)) [0,3,4,6,7] [0,1,2] 4 (0,Ev f o3_0 16) [(0,0),(1,1),(2,2),(3,3)] ⟨Ac,Ac,rfl,trivial⟩ ?_))
    rintro⟨x9,tt⟩ ac gs ws ⟨px,pt,ht,_⟩ hS
    refine Il ?_
    have hT:=hS
    rcases(by omega:x9=0∨x9=4∨x9=8∨x9=12∨x9=16)with rfl|rfl|rfl|rfl|rfl
    ·have hS:=hT
     refine Dj [] 4 hS fun hS=>Ab (AB ((x6:Int)<14) hS (fun h4=> ?_) (fun h4=> ?_))
     ·exact BE (Ax [(1,AD 0 16),(5,AD 1 16),(9,AD 2 16),(13,AD 3 16),(15,AP (Mg (tt 0) (tt 1) (tt 2) (tt 3)))] [10] 5 hS fun hS=>As [(1,t8 [E8 (some 0) none none 16 16,16≤9223372036854775807,bl (some 0) 0<bl none 16] ⟨⟨by simp only[F3]<;>omega,by simp only[F3]<;>omega,by simp only[F3]<;>omega,by simp,by simp only[bl]<;>omega,by simp only[bl]<;>omega,by simp only[bl]<;>omega⟩,by omega,by decide,trivial⟩),(2,Vn .frz [] trivial)] [] 5 hS fun hS=>BV (Dj [9] 5 hS fun hS=>Ab (Al hg0 hS (4,Di tt 0 (min ((List.range 4).map (Ez (tt 0) (tt 1) (tt 2) (tt 3))).length 16) (fun j=>((List.range 4).map (Ez (tt 0) (tt 1) (tt 2) (tt 3))).getD j 0)) [(0,0),(1,1),(2,2),(3,3)] ⟨Ac,Ac,(by rw[ht];rfl),trivial⟩)))
     ·obtain rfl:Ev f o3_0 16=tt:=ht.symm
      refine CO (Ae [] 4 hS fun hS=>Br (Ar (ι:=Nat×(Nat→Int)) hg0 hS (fun(x78,o3_0_5)=>(16-x78,[(78,vi ((x78:Nat):Int))],[(1,iT o3_0_5)],(x78≤16)∧(o3_0_5=MV f g x6 o3_0 x78)∧(Rb x78 o3_0_5)∧True)) [0,3,4,6,7] [0,2,3] 4 (0,o3_0) [(0,0),(1,1),(2,2),(3,3)] ⟨Ac,rfl,(Rb.zero _),trivial⟩ ?_))
      rintro⟨x78,o3_0_5⟩ ac gs ws ⟨hx78,hq5,p6,_⟩ hS
      refine Ae [] 4 hS fun hS=>Av (AB ((x78:Int)<16) hS (fun h5=> ?_) (fun h5=> ?_))
      ·exact BE (Ae [] 4 hS fun hS=>As [(2,AD x78 16),(6,HJ x6 16 (x6*16)),(8,Ek (x6*16) x78 ((x6*16)+x78)),(11,AD ((x6*16)+x78) 240),(14,AD x78 16)] [] 4 hS fun hS=>BV (As [(0,BH x78)] [78] 4 hS fun hS=>Ab (Al hg0 hS (x78+1,upd o3_0_5 x78 (AK .u8 ((Ev f o3_0 16) x78) (g ((x6*16)+x78)))) [(0,0),(1,1),(2,2),(3,3)] ⟨Ac,(A3 (st:=Rt _ _ _ _) hq5 rfl rfl),(Rb.next p6 (IE _ _)),trivial⟩)))
      ·have hT:=hS
       obtain rfl:16=x78:=by omega
       obtain rfl:=hq5.symm
       have hS:=hT
       exact Vx (As [(1,BH x6)] [6] 4 hS fun hS=>Ab (Al hg0 hS (k2+1,x6+1,MV f g x6 o3_0 16) [(0,0),(1,1),(2,2)] ⟨(A3 (st:=Lj _ _) hq2 rfl (Eq.symm (if_neg h4))),(A0 hj2 (by rw[←hq2];exact h2)),Ac,p6,trivial⟩))
    ·have hS:=hT
     have hturn:(x6:Int)<14:=by omega
     exact As [(4,GG hturn)] [] 4 hS fun hS=>Ab (AO hS (BE (Ax [(1,AD 4 16),(5,AD 5 16),(9,AD 6 16),(13,AD 7 16),(15,AP (Mg (tt 4) (tt 5) (tt 6) (tt 7)))] [10] 5 hS fun hS=>As [(1,t8 [E8 (some 4) none none 16 16,16≤9223372036854775807,bl (some 4) 0<bl none 16] ⟨⟨by simp only[F3]<;>omega,by simp only[F3]<;>omega,by simp only[F3]<;>omega,by simp,by simp only[bl]<;>omega,by simp only[bl]<;>omega,by simp only[bl]<;>omega⟩,by omega,by decide,trivial⟩),(2,Vn .frz [] trivial)] [] 5 hS fun hS=>BV (Dj [9] 5 hS fun hS=>Ab (Al hg0 hS (8,Di tt 4 (min ((List.range 4).map (Ez (tt 4) (tt 5) (tt 6) (tt 7))).length 12) (fun j=>((List.range 4).map (Ez (tt 4) (tt 5) (tt 6) (tt 7))).getD j 0)) [(0,0),(1,1),(2,2),(3,3)] ⟨Ac,Ac,(by rw[ht];rfl),trivial⟩)))))
    ·have hS:=hT
     have hturn:(x6:Int)<14:=by omega
     exact As [(4,GG hturn)] [] 4 hS fun hS=>Ab (AO hS (BE (Ax [(1,AD 8 16),(5,AD 9 16),(9,AD 10 16),(13,AD 11 16),(15,AP (Mg (tt 8) (tt 9) (tt 10) (tt 11)))] [10] 5 hS fun hS=>As [(1,t8 [E8 (some 8) none none 16 16,16≤9223372036854775807,bl (some 8) 0<bl none 16] ⟨⟨by simp only[F3]<;>omega,by simp only[F3]<;>omega,by simp only[F3]<;>omega,by simp,by simp only[bl]<;>omega,by simp only[bl]<;>omega,by simp only[bl]<;>omega⟩,by omega,by decide,trivial⟩),(2,Vn .frz [] trivial)] [] 5 hS fun hS=>BV (Dj [9] 5 hS fun hS=>Ab (Al hg0 hS (12,Di tt 8 (min ((List.range 4).map (Ez (tt 8) (tt 9) (tt 10) (tt 11))).length 8) (fun j=>((List.range 4).map (Ez (tt 8) (tt 9) (tt 10) (tt 11))).getD j 0)) [(0,0),(1,1),(2,2),(3,3)] ⟨Ac,Ac,(by rw[ht];rfl),trivial⟩)))))
    ·have hS:=hT
     have hturn:(x6:Int)<14:=by omega
     exact As [(4,GG hturn)] [] 4 hS fun hS=>Ab (AO hS (BE (Ax [(1,AD 12 16),(5,AD 13 16),(9,AD 14 16),(13,AD 15 16),(15,AP (Mg (tt 12) (tt 13) (tt 14) (tt 15)))] [10] 5 hS fun hS=>As [(1,t8 [E8 (some 12) none none 16 16,16≤9223372036854775807,bl (some 12) 0<bl none 16] ⟨⟨by simp only[F3]<;>omega,by simp only[F3]<;>omega,by simp only[F3]<;>omega,by simp,by simp only[bl]<;>omega,by simp only[bl]<;>omega,by simp only[bl]<;>omega⟩,by omega,by decide,trivial⟩),(2,Vn .frz [] trivial)] [] 5 hS fun hS=>BV (Dj [9] 5 hS fun hS=>Ab (Al hg0 hS (16,Di tt 12 (min ((List.range 4).map (Ez (tt 12) (tt 13) (tt 14) (tt 15))).length 4) (fun j=>((List.range 4).map (Ez (tt 12) (tt 13) (tt 14) (tt 15))).getD j 0)) [(0,0),(1,1),(2,2),(3,3)] ⟨Ac,Ac,(by rw[ht];rfl),trivial⟩)))))
    ·have hS:=hT
     have hturn:(x6:Int)<14:=by omega
     refine Dj [] 4 hS fun hS=> ?_
     obtain rfl:Mh (Ev f o3_0 16) 16=tt:=ht.symm
     refine Ab (Ai hS (CO (Ae [] 4 hS fun hS=>Br (Ar (ι:=Nat×(Nat→Int)) hg0 hS (fun(x78,o3_0_6)=>(16-x78,[(78,vi ((x78:Nat):Int))],[(1,iT o3_0_6)],(x78≤16)∧(o3_0_6=MU f g x6 o3_0 x78)∧(Rb x78 o3_0_6)∧True)) [0,3,4,6,7] [0,2,3] 4 (0,o3_0) [(0,0),(1,1),(2,2),(3,3)] ⟨Ac,rfl,(Rb.zero _),trivial⟩ ?_))))
     rintro⟨x78,o3_0_6⟩ ac gs ws ⟨hx78,hq6,p6,_⟩ hS
     refine Ae [] 4 hS fun hS=>Av (AB ((x78:Int)<16) hS (fun h6=> ?_) (fun h6=> ?_))
     ·exact BE (Ae [] 4 hS fun hS=>As [(2,AD x78 16),(6,HJ x6 16 (x6*16)),(8,Ek (x6*16) x78 ((x6*16)+x78)),(11,AD ((x6*16)+x78) 240),(14,AD x78 16)] [] 4 hS fun hS=>BV (As [(0,BH x78)] [78] 4 hS fun hS=>Ab (Al hg0 hS (x78+1,upd o3_0_6 x78 (AK .u8 ((Mh (Ev f o3_0 16) 16) x78) (g ((x6*16)+x78)))) [(0,0),(1,1),(2,2),(3,3)] ⟨Ac,(A3 (st:=Rr _ _ _ _) hq6 rfl rfl),(Rb.next p6 (IE _ _)),trivial⟩)))
     ·have hT:=hS
      obtain rfl:16=x78:=by omega
      obtain rfl:=hq6.symm
      have hS:=hT
      exact Vx (As [(1,BH x6)] [6] 4 hS fun hS=>Ab (Al hg0 hS (k2+1,x6+1,MU f g x6 o3_0 16) [(0,0),(1,1),(2,2)] ⟨(A3 (st:=Lj _ _) hq2 rfl (Eq.symm (if_pos hturn))),(A0 hj2 (by rw[←hq2];exact h2)),Ac,p6,trivial⟩))
  ·have hT:=hS
   obtain rfl:=BK (by rw[←hq2];first |exact h2|exact not_not_intro h2) hj2
   obtain⟨rfl,rfl⟩:=Ug hq2
   have hS:=hT
   exact CO (Ae [] 3 hS fun hS=>AR (Bi (AaM ..) hS))
end
end
end Go.Sx.Tryz
namespace Go.Sx.Tryz
open Go.Mi Go.RowKit Go.Sx Go.Proofs
noncomputable section
def NN (key num:List Int) (k1:Nat):(Int×(List Int))→(Int×(List Int)):=fun(x10,x9)=>((AZ .u32 x10 1),x9++((List.range 16).map (MS ((D_ key).1) ((D_ key).2) (fun j=>List.getD (α:=Int) ([num,CY x10].flatten) (0+j) 0))))
def Fb (key num:List Int):Nat→Int×(List Int)
 |0=>(0,[])
 |k1+1=>NN key num k1 (Fb key num k1)
def IL (n:Nat):(Int×(List Int))→Prop:=fun(x10,x9)=>((x9.length:Nat):Int)<(n:Int)
section
variable (key num:List Int) (n:Nat)
def VO:(List Int):=OL ((Fb key num (CS fun j=>IL n (Fb key num j))).2) n
def He:(List Int):=AJ (VO key num n)
theorem VP:He key num n=VO key num n:=Ag _
end
@[simp] theorem fM (xs:List Int) (n:Nat):(OL xs n).length=n:=by
 rw[bW];unfold UO
 simp only[List.length_append,List.length_take,List.length_drop,List.length_replicate]
 omega
@[simp] theorem KA (key num:List Int) (n:Nat):(He key num n).length=n:=by rw[VP];exact fM _ _
section
variable (key num:List Int) (n:Nat)
def rJ (z_:(List Int):=He key num n):Con:=⟨[lb key,lb num,vi (n:Int)],[],.tu (chain [lb z_,vi 0]),[]⟩
theorem dP (hk:key.length=32) (hb:By key) (hn:num.length=12) (hl:n≤1000000):ConOk Tryz.prog 158 (rJ key num n):=by
 refine cy 0 Tryz.func158 rfl Tryz.ntmps158 fun hg0 hS=> ?_
 have A7:key.length≤9223372036854775807:=hS.len 0 rfl
 have Be:num.length≤9223372036854775807:=hS.len 1 rfl
 have hk1:((key.length:Nat):Int)=32:=Ac
 have hn1:((num.length:Nat):Int)=12:=Ac
 have hz1:¬(n:Int)<0:=Ac
 have hz2:¬(1048576:Int)<(n:Int):=Ac
 refine Ae [] 0 hS fun hS=>Av (Ax [(2,GH hk1),(6,GH hn1),(10,DC hz1),(14,DC hz2)] [] 0 hS fun hS=>Ai hS (BP (Ax [(1,AM (l0 key AE BF) [] [(0,0)])] [] 1 hS fun hS=>Ae [] 1 hS fun hS=>Av (Ae [] 1 hS fun hS=>Br ?_))))
 obtain⟨gs,hS⟩:=hS.nilk 9 5 [.int .u8]
 refine Ar (ι:=Nat×Int×(List Int)) hg0 hS (fun(k1,x10,x9)=>(n-x9.length,[(10,.v (.int .u32 x10))],[(1,.sl 5 [.int .u8] x9)],((x10,x9)=Fb key num k1)∧(∀j,j<k1→IL n (Fb key num j))∧(x9.length≤n+16)∧True)) [1,2,6,7,8,9] [0] 2 (0,0,[]) [(0,0),(1,1)] ⟨rfl,(fun j h=>absurd h (Nat.not_lt_zero j)),(by simp),trivial⟩ ?_
 rintro⟨k1,x10,x9⟩ ac gs ws ⟨hq1,hj1,p1,_⟩ hS
 refine Av (Ae [] 2 hS fun hS=>AB (((x9.length:Nat):Int)<(n:Int)) hS (fun h1=> ?_) (fun h1=> ?_))
 ·exact BE (Ax [(3,AP (Wp x10)),(5,AM (Rj [num,CY x10] (by first |omega|(simp only[List.flatten_cons,List.flatten_nil,List.length_append,List.length_cons,List.length_nil,List.length_take,List.length_drop,List.length_replicate]<;>omega)|(simp<;>omega))) [] [(0,2)]),(6,Vn .frz [16≤([num,CY x10].flatten).length,0<([num,CY x10].flatten).length] ⟨by(first |omega|(simp only[List.length_append,List.length_map,List.length_range,List.length_nil,List.flatten_cons,List.flatten_nil,Ff];omega)),by(first |omega|(simp only[List.length_append,List.length_map,List.length_range,List.length_nil,List.flatten_cons,List.flatten_nil,Ff];omega)),trivial⟩),(7,Vn (.at 0 0) [0+16≤([num,CY x10].flatten).length] ⟨by(first |omega|(simp only[List.length_append,List.length_map,List.length_range,List.length_nil,List.flatten_cons,List.flatten_nil,Ff];omega)),trivial⟩),(8,ID (tQ ((D_ key).1) ((D_ key).2) (fun j=>List.getD (α:=Int) ([num,CY x10].flatten) (0+j) 0) (lZ key)) [(0,0)] [] [.cp 0 0,.ar .u8 16 (fun j=>List.getD (α:=Int) ([num,CY x10].flatten) (0+j) 0)] [some (XY ((D_ key).1) ((D_ key).2))])] [11] 4 hS fun hS=>As [(1,Vn .frz [] trivial),(2,FW x9.length (((List.range 16).map (MS ((D_ key).1) ((D_ key).2) (fun j=>List.getD (α:=Int) ([num,CY x10].flatten) (0+j) 0))).length) 1 (by(first |omega|(simp only[List.length_append,List.length_map,List.length_range,List.length_nil,List.flatten_cons,List.flatten_nil,Ff];omega))))] [9] 5 hS fun hS=>BV (Dj [10] 5 hS fun hS=>Ab (Al hg0 hS (k1+1,(AZ .u32 x10 1),x9++((List.range 16).map (MS ((D_ key).1) ((D_ key).2) (fun j=>List.getD (α:=Int) ([num,CY x10].flatten) (0+j) 0)))) [(0,0),(1,4)] ⟨(A3 (st:=NN _ _) hq1 rfl rfl),(A0 hj1 (by rw[←hq1];exact h1)),(by rw[List.length_append,List.length_map,List.length_range];omega),trivial⟩ (show n-(x9++(List.range 16).map _).length<n-x9.length from by rw[List.length_append,List.length_map,List.length_range];omega))))
 ·have hT:=hS
  obtain rfl:=BK (by rw[←hq1];first |exact h1|exact not_not_intro h1) hj1
  obtain⟨rfl,rfl⟩:=Ug hq1
  have hS:=hT
  refine ML ?_
  obtain⟨gs,hS⟩:=hS.fz 1
  refine As [(2,AM (oY ((Fb key num (CS fun j=>IL n (Fb key num j))).2) n Ac) [] [(0,2)])] [] 3 hS fun hS=>DX ?_
  obtain⟨gs,hS⟩:=hS.fz 2
  exact Bi (VP ..) hS
end
theorem jA (xs ys:List Int):∀k,(Ks xs ys k).length=min xs.length ys.length∧∀i,i<k→i<min xs.length ys.length→(Ks xs ys k).getD i 0=AK .u8 (xs.getD i 0) (ys.getD i 0)
 |0=>⟨List.length_replicate,fun i h=>absurd h (Nat.not_lt_zero _)⟩
 |k+1=>by
  obtain⟨h1,h2⟩:=jA xs ys k
  have e:Ks xs ys (k+1)=(Ks xs ys k).set k (AK .u8 (xs.getD k 0) (ys.getD k 0)):=rfl
  refine⟨by rw[e,List.length_set,h1],fun i hi hl=> ?_⟩
  rw[e,List.getD_eq_getElem?_getD]
  by_cases hk:i=k
  ·subst hk
   rw[List.getElem?_set_self (by rw[h1];exact hl)];rfl
  ·rw[List.getElem?_set_ne (fun h=>hk h.symm),←List.getD_eq_getElem?_getD]
   exact h2 i Ac hl
theorem jC (xs ys:List Int) {i:Nat} (h:i<min xs.length ys.length):(J3 xs ys).getD i 0=AK .u8 (xs.getD i 0) (ys.getD i 0):=by
 rw[jB];exact(jA xs ys _).2 i h h
@[simp] theorem Ty (xs ys:List Int):(J3 xs ys).length=min xs.length ys.length:=by
 rw[jB];exact(jA xs ys _).1
theorem uP {xs ys:List Int} (hb:By xs) (hl:xs.length≤ys.length):J3 (J3 xs ys) ys=xs:=by
 have h1:(J3 xs ys).length=xs.length:=by rw[Ty];omega
 refine List.ext_getElem (by rw[Ty,h1];omega) fun i h2 h3=> ?_
 have k1:=jC (J3 xs ys) ys (i:=i) Ac
 rw[jC xs ys (i:=i) Ac,uO (OV hb i)]at k1
 rw[List.getD_eq_getElem?_getD,List.getElem?_eq_getElem h2,List.getD_eq_getElem?_getD,List.getElem?_eq_getElem h3]at k1
 exact k1
section
variable (key num xs:List Int)
def UZ:(List Int):=J3 xs (He key num xs.length)
def DT:(List Int):=AJ (UZ key num xs)
theorem U0:DT key num xs=UZ key num xs:=Ag _
end
@[simp] theorem Fp (key num xs:List Int):(DT key num xs).length=xs.length:=by
 rw[U0];unfold UZ;rw[Ty,KA];omega
theorem f8 (key num:List Int) {xs:List Int} (h:By xs):DT key num (DT key num xs)=xs:=by
 have e:∀ys,DT key num ys=J3 ys (He key num ys.length):=fun ys=>U0 key num ys
 rw[e (DT key num xs),Fp,e xs]
 exact uP h (by rw[KA];exact Nat.le_refl _)
section
variable (key num xs:List Int)
def Aav (z_:(List Int):=DT key num xs):Con:=⟨[lb key,lb num,lb xs],[],.tu (chain [.sk 0,vi 0]),[(0,.sl 5 [.int .u8] z_)]⟩
theorem Xq (hk:key.length=32) (hb:By key) (hn:num.length=12) (hl:xs.length≤1000000):ConOk Tryz.prog 119 (Aav key num xs):=by
 refine cy 0 Tryz.func119 rfl Tryz.ntmps119 fun hg0 hS=> ?_
 have A7:key.length≤9223372036854775807:=hS.len 0 rfl
 have Be:num.length≤9223372036854775807:=hS.len 1 rfl
 have B2:xs.length≤9223372036854775807:=hS.len 2 rfl
 refine Ae [] 0 hS fun hS=>Av ?_
 have hsl:=KA key num xs.length
 exact As [(4,AP (dP key num xs.length AE BF AE AE))] [] 0 hS fun hS=>Ej (Ae [] 0 hS fun hS=>Ai hS (BP (Ax [(2,AM (AbM xs (He key num xs.length) Ac) [] [(0,0)])] [] 1 hS fun hS=>AR (Bi (U0 ..) hS))))
end
end
end Go.Sx.Tryz
namespace Go.Sx.Tryz
open Go.Mi Go.RowKit Go.Sx Go.Proofs
noncomputable section
theorem By.nil:By []:=fun x h=>by cases h
theorem By.app {a b:List Int} (h:By a) (k:By b):By (a++b):=fun x hx=>(List.mem_append.1 hx).elim (h x) (k x)
theorem By.set {a:List Int} (h:By a) (i:Nat) {v:Int} (hv:0≤v∧v<256):By (a.set i v):=fun x hx=>(List.mem_or_eq_of_mem_set hx).elim (h x) fun e=>e▸hv
theorem By.take {a:List Int} (h:By a) (n:Nat):By (a.take n):=fun x hx=>h x (List.mem_of_mem_take hx)
theorem By.drop {a:List Int} (h:By a) (n:Nat):By (a.drop n):=fun x hx=>h x (List.mem_of_mem_drop hx)
theorem WS (x:Int):By (Fg x):=by
 have key:∀i,By (EL x i):=by
  intro i
  induction i with
  |zero=>intro y hy;rw[show EL x 0=List.replicate 8 (0:Int)from rfl]at hy;rw[List.eq_of_mem_replicate hy];exact⟨Int.le_refl _,(by decide:(0:Int)<256)⟩
  |succ i ih=>exact By.set ih _ (Aa0 _)
 rw[KT]
 exact key 8
theorem vA {xs:List Int} (h:By xs):By (PD xs):=by
 have key:∀i,By (FY xs i).2.2:=by
  intro i
  induction i with
  |zero=>exact h
  |succ i ih=>
   show By (((FY xs i).2.2.set _ _).set _ _)
   exact By.set (By.set ih _ (OV ih _)) _ (OV ih _)
 rw[Yd]
 exact key _
theorem mO (x:Int):By (FD x):=by rw[Ud];exact vA (WS _)
theorem mP (x:Int):By (CY x):=by rw[Uf];exact By.drop (mO _) _
theorem xL (h:Nat→Int) (r:List Int) (n:Int):By (EF h r n):=by
 have key:∀i,By (JQ h r n i):=by
  intro i
  induction i with
  |zero=>exact By.nil
  |succ i ih=>exact By.app ih (mP _)
 rw[YK]
 exact key 8
theorem xD (u1:Nat→Int) (r1:List Int) (n1:Int) (u2:Nat→Int) (r2:List Int) (n2:Int) (l:List (List Int)):By (Cu u1 r1 n1 u2 r2 n2 l):=by rw[YG];exact xL _ _ _
theorem W9 (key info:List Int):By (GB key info):=by
 have h:∀k,By (BD key info k).2.1:=by
  intro k
  induction k with
  |zero=>exact By.nil
  |succ k ih=>exact By.app ih (xD _ _ _ _ _ _ _)
 rw[K7]
 unfold Ib
 rw[List.nil_append]
 exact By.take (h _) _
theorem RU (ikm info:List Int):By (Bl ikm info):=by rw[Ii];exact W9 _ _
section
variable (k:List Int) (u1:Nat→Int) (r1:List Int) (n1:Int) (u2:Nat→Int) (r2:List Int) (n2:Int) (num:List Int) (data text:List Int)
def kD (k:List Int) (u1:Nat→Int) (r1:List Int) (n1:Int) (u2:Nat→Int) (r2:List Int) (n2:Int) (num:List Int) (data text:List Int):(List Int):=Cu u1 r1 n1 u2 r2 n2 [num,FD ((data.length:Nat):Int),data,text]
def FN:(List Int):=AJ (kD k u1 r1 n1 u2 r2 n2 num data text)
theorem kE:FN k u1 r1 n1 u2 r2 n2 num data text=kD k u1 r1 n1 u2 r2 n2 num data text:=Ag _
end
@[simp] theorem Pz (k:List Int) (u1:Nat→Int) (r1:List Int) (n1:Int) (u2:Nat→Int) (r2:List Int) (n2:Int) (num data text:List Int):(FN k u1 r1 n1 u2 r2 n2 num data text).length=32:=by rw[kE];exact B6 ..
section
variable (k:List Int) (u1:Nat→Int) (r1:List Int) (n1:Int) (u2:Nat→Int) (r2:List Int) (n2:Int) (num:List Int) (data text:List Int)
def Ado (z_:(List Int):=FN k u1 r1 n1 u2 r2 n2 num data text):Con:=⟨[.im (chain [lb k,.im (chain [.im (chain [.ar .u32 8 u1,lb r1,.v (.int .u64 n1)]) 0,.im (chain [.ar .u32 8 u2,lb r2,.v (.int .u64 n2)]) 0]) 0]) 0,lb num,lb data,lb text],[],.sk 0,[(0,.sl 5 [.int .u8] z_)]⟩
theorem ZX (hr1:r1.length≤64) (hr2:r2.length≤64) (hd:data.length≤60000) (ht:text.length≤60000) (hn:num.length=12):ConOk Tryz.prog 120 (Ado k u1 r1 n1 u2 r2 n2 num data text):=by
 refine cy 0 Tryz.func120 rfl Tryz.ntmps120 fun hg0 hS=> ?_
 have Be:num.length≤9223372036854775807:=hS.len 1 rfl
 have B2:data.length≤9223372036854775807:=hS.len 2 rfl
 have HE:text.length≤9223372036854775807:=hS.len 3 rfl
 exact Ae [] 0 hS fun hS=>Ax [(7,XR data.length),(8,AP (Qf ((data.length:Nat):Int))),(12,AM (bF u1 r1 n1 u2 r2 n2 [num,FD ((data.length:Nat):Int),data,text] hr1 hr2 (by first |assumption|omega|(simp only[List.flatten_cons,List.flatten_nil,List.length_append,List.length_cons,List.length_nil,JI]<;>omega)|(simp<;>omega))) [] [(0,0)])] [] 1 hS fun hS=>AR (Bi (kE ..) hS)
def zI:Con:=⟨[.im (chain [lb k,.im (chain [.im (chain [.ar .u32 8 u1,lb r1,.v (.int .u64 n1)]) 0,.im (chain [.ar .u32 8 u2,lb r2,.v (.int .u64 n2)]) 0]) 0]) 0,lb num,lb data,lb text],[],lb (FN k u1 r1 n1 u2 r2 n2 num data text),[]⟩
theorem kC (hr1:r1.length≤64) (hr2:r2.length≤64) (hd:data.length≤60000) (ht:text.length≤60000) (hn:num.length=12):ConOk Tryz.prog 120 (zI k u1 r1 n1 u2 r2 n2 num data text):=ConOk.frz [] 0 5 [.int .u8] (FN k u1 r1 n1 u2 r2 n2 num data text) (ZX k u1 r1 n1 u2 r2 n2 num data text hr1 hr2 hd ht hn) (by kernel_rfl)
def zH:Con:=⟨[.im (chain [lb k,.im (chain [.im (chain [.ar .u32 8 u1,lb r1,.v (.int .u64 n1)]) 0,.im (chain [.ar .u32 8 u2,lb r2,.v (.int .u64 n2)]) 0]) 0]) 0,lb num,lb data,.sk 1],[(1,.sl 5 [.int .u8] text)],.sk 0,[(1,.sl 5 [.int .u8] text),(0,.sl 5 [.int .u8] (FN k u1 r1 n1 u2 r2 n2 num data text))]⟩
theorem kB (hr1:r1.length≤64) (hr2:r2.length≤64) (hd:data.length≤60000) (ht:text.length≤60000) (hn:num.length=12):ConOk Tryz.prog 120 (zH k u1 r1 n1 u2 r2 n2 num data text):=ConOk.lend (a1:=[.im (chain [lb k,.im (chain [.im (chain [.ar .u32 8 u1,lb r1,.v (.int .u64 n1)]) 0,.im (chain [.ar .u32 8 u2,lb r2,.v (.int .u64 n2)]) 0]) 0]) 0,lb num,lb data]) (a2:=[]) (nn:=false) (xs:=text) (H0:=[]) (H1:=[(0,.sl 5 [.int .u8] (FN k u1 r1 n1 u2 r2 n2 num data text))]) (res:=(.sk 0)) 1 5 (ZX k u1 r1 n1 u2 r2 n2 num data text hr1 hr2 hd ht hn) (fun h=>by cases h) (by kernel_rfl)
def XC:Con:=⟨[.im (chain [lb k,.im (chain [.im (chain [.ar .u32 8 u1,lb r1,.v (.int .u64 n1)]) 0,.im (chain [.ar .u32 8 u2,lb r2,.v (.int .u64 n2)]) 0]) 0]) 0,lb num,lb data,lb text,vi 65536],[],vi 0,[]⟩
theorem TQ (hd:data.length≤60000) (ht:text.length≤60000) (hn:num.length=12):ConOk Tryz.prog 118 (XC k u1 r1 n1 u2 r2 n2 num data text):=by
 refine cy 0 Tryz.func118 rfl Tryz.ntmps118 fun hg0 hS=> ?_
 have Be:num.length≤9223372036854775807:=hS.len 1 rfl
 have B2:data.length≤9223372036854775807:=hS.len 2 rfl
 have HE:text.length≤9223372036854775807:=hS.len 3 rfl
 have hn1:((num.length:Nat):Int)=12:=Ac
 have ht1:¬(65536:Int)<((text.length:Nat):Int):=Ac
 have hd1:¬(65536:Int)<((data.length:Nat):Int):=Ac
 exact Ae [] 0 hS fun hS=>Av (Br (Ax [(12,GH hn1)] [] 0 hS fun hS=>Ai hS (Ax [(3,DC ht1),(7,DC hd1)] [] 0 hS fun hS=>Ai hS (G8 (Ae [] 0 hS fun hS=>AR (BW hS))))))
def XB:Con:=⟨[.im (chain [lb k,.im (chain [.im (chain [.ar .u32 8 u1,lb r1,.v (.int .u64 n1)]) 0,.im (chain [.ar .u32 8 u2,lb r2,.v (.int .u64 n2)]) 0]) 0]) 0,lb num,lb data,lb text,vi 65568],[],vi 0,[]⟩
theorem TP (hd:data.length≤60000) (ht:text.length≤60000) (hn:num.length=12):ConOk Tryz.prog 118 (XB k u1 r1 n1 u2 r2 n2 num data text):=by
 refine cy 0 Tryz.func118 rfl Tryz.ntmps118 fun hg0 hS=> ?_
 have Be:num.length≤9223372036854775807:=hS.len 1 rfl
 have B2:data.length≤9223372036854775807:=hS.len 2 rfl
 have HE:text.length≤9223372036854775807:=hS.len 3 rfl
 have hn1:((num.length:Nat):Int)=12:=Ac
 have ht1:¬(65568:Int)<((text.length:Nat):Int):=Ac
 have hd1:¬(65536:Int)<((data.length:Nat):Int):=Ac
 exact Ae [] 0 hS fun hS=>Av (Br (Ax [(12,GH hn1)] [] 0 hS fun hS=>Ai hS (Ax [(3,DC ht1),(7,DC hd1)] [] 0 hS fun hS=>Ai hS (G8 (Ae [] 0 hS fun hS=>AR (BW hS))))))
end
end
end Go.Sx.Tryz
namespace Go.Sx.Tryz
open Go.Mi Go.RowKit Go.Sx Go.Proofs
noncomputable section
section
variable (key:List Int)
def WM:(List Int)×(Nat→Int)×(List Int)×Int×(Nat→Int)×(List Int)×Int:=((Bl key [115,101,97,108]).take 32,(Ah ((Bl key [115,101,97,108]).drop 32)).1,(Ah ((Bl key [115,101,97,108]).drop 32)).2.1,((Ah ((Bl key [115,101,97,108]).drop 32)).2.2.1),(Ah ((Bl key [115,101,97,108]).drop 32)).2.2.2.1,(Ah ((Bl key [115,101,97,108]).drop 32)).2.2.2.2.1,((Ah ((Bl key [115,101,97,108]).drop 32)).2.2.2.2.2))
def AU:(List Int)×(Nat→Int)×(List Int)×Int×(Nat→Int)×(List Int)×Int:=AJ (WM key)
theorem WN:AU key=WM key:=Ag _
theorem D3:(AU key).1.length=32∧By (AU key).1∧(AU key).2.2.1.length≤64∧(AU key).2.2.2.2.2.1.length≤64:=by
 rw[WN]
 refine⟨?_,?_,(Ct _).1,(Ct _).2⟩
 ·show((Bl _ _).take 32).length=32
  rw[List.length_take,Jk];rfl
 ·exact By.take (RU _ _) _
def sM (z_:(List Int)×(Nat→Int)×(List Int)×Int×(Nat→Int)×(List Int)×Int:=AU key):Con:=⟨[lb key],[],.tu (chain [.im (chain [lb (z_.1),.im (chain [.im (chain [.ar .u32 8 (z_.2.1),lb (z_.2.2.1),.v (.int .u64 (z_.2.2.2.1))]) 0,.im (chain [.ar .u32 8 (z_.2.2.2.2.1),lb (z_.2.2.2.2.2.1),.v (.int .u64 (z_.2.2.2.2.2.2))]) 0]) 0]) 0,vi 0]),[]⟩
theorem SV (hk:key.length=32):ConOk Tryz.prog 82 (sM key):=by
 refine cy 0 Tryz.func82 rfl Tryz.ntmps82 fun hg0 hS=> ?_
 have A7:key.length≤9223372036854775807:=hS.len 0 rfl
 have hk1:((key.length:Nat):Int)=32:=Ac
 refine Ae [] 0 hS fun hS=>Av (Ax [(2,GH hk1)] [] 0 hS fun hS=>Ai hS (BP (Ax [(1,Row),(2,O1 (0<[115,101,97,108].length) (by decide)),(3,AP (RS key [115,101,97,108] AE AE))] [] 1 hS fun hS=>Av ?_)))
 have hdl:=Jk key [115,101,97,108]
 refine As [(1,iZ 32 (Bl key [115,101,97,108]).length),(3,O2 32 (Bl key [115,101,97,108]).length),(4,AP (Hw ((Bl key [115,101,97,108]).drop 32) AE))] [] 2 hS fun hS=> ?_
 obtain⟨gs,hS⟩:=hS.im 1
 exact DX (Bi (WN ..) hS)
end
section
variable (k:List Int) (u1:Nat→Int) (r1:List Int) (n1:Int) (u2:Nat→Int) (r2:List Int) (n2:Int) (num:List Int) (data text:List Int)
def MO:(List Int):=(DT k num text)++(FN k u1 r1 n1 u2 r2 n2 num data (DT k num text))
def MP:(List Int):=AJ (MO k u1 r1 n1 u2 r2 n2 num data text)
theorem OX:MP k u1 r1 n1 u2 r2 n2 num data text=MO k u1 r1 n1 u2 r2 n2 num data text:=Ag _
def AaC (z_:(List Int):=MP k u1 r1 n1 u2 r2 n2 num data text):Con:=⟨[.im (chain [lb k,.im (chain [.im (chain [.ar .u32 8 u1,lb r1,.v (.int .u64 n1)]) 0,.im (chain [.ar .u32 8 u2,lb r2,.v (.int .u64 n2)]) 0]) 0]) 0,lb num,lb data,lb text],[],.tu (chain [lb z_,vi 0]),[]⟩
theorem tM (hkl:k.length=32) (hkb:By k) (hr1:r1.length≤64) (hr2:r2.length≤64) (hd:data.length≤60000) (ht:text.length≤60000) (hn:num.length=12):ConOk Tryz.prog 83 (AaC k u1 r1 n1 u2 r2 n2 num data text):=by
 refine cy 0 Tryz.func83 rfl Tryz.ntmps83 fun hg0 hS=> ?_
 have Be:num.length≤9223372036854775807:=hS.len 1 rfl
 have B2:data.length≤9223372036854775807:=hS.len 2 rfl
 have HE:text.length≤9223372036854775807:=hS.len 3 rfl
 refine Ae [] 0 hS fun hS=>Av (Ax [(4,AP (TQ k u1 r1 n1 u2 r2 n2 num data text AE AE AE))] [] 0 hS fun hS=>Ae [] 0 hS fun hS=>Ai hS (BP (Ax [(6,AM (Xq k num text AE BF AE AE) [] [(0,0)])] [] 1 hS fun hS=>Av ?_)))
 have hcl:=Fp k num text
 refine As [(5,AM (kB k u1 r1 n1 u2 r2 n2 num data (DT k num text) hr1 hr2 AE (by rw[Fp];exact ht) AE) [(1,0)] [(0,1)]),(6,FW ((DT k num text).length) ((FN k u1 r1 n1 u2 r2 n2 num data (DT k num text)).length) 1 (by(first |omega|(simp only[Fp,Pz];omega))))] [] 3 hS fun hS=>DX ?_
 obtain⟨gs,hS⟩:=hS.fz 2
 exact Bi (OX ..) hS
end
section
variable (key num:List Int) (data text:List Int)
def TT:(List Int):=MP ((AU key).1) ((AU key).2.1) ((AU key).2.2.1) ((AU key).2.2.2.1) ((AU key).2.2.2.2.1) ((AU key).2.2.2.2.2.1) ((AU key).2.2.2.2.2.2) num data text
def Db:(List Int):=AJ (TT key num data text)
theorem Ym:Db key num data text=TT key num data text:=Ag _
def Adu (z_:(List Int):=Db key num data text):Con:=⟨[lb key,lb num,lb data,lb text],[],.tu (chain [lb z_,vi 0]),[]⟩
theorem Z6 (hk:key.length=32) (hd:data.length≤60000) (ht:text.length≤60000) (hn:num.length=12):ConOk Tryz.prog 50 (Adu key num data text):=by
 refine cy 0 Tryz.func50 rfl Tryz.ntmps50 fun hg0 hS=> ?_
 have A7:key.length≤9223372036854775807:=hS.len 0 rfl
 have Be:num.length≤9223372036854775807:=hS.len 1 rfl
 have B2:data.length≤9223372036854775807:=hS.len 2 rfl
 have HE:text.length≤9223372036854775807:=hS.len 3 rfl
 exact Ae [] 0 hS fun hS=>Ax [(1,AP (SV key AE))] [] 0 hS fun hS=>Av (Ae [] 0 hS fun hS=>Ai hS (BP (Ax [(4,AP (tM ((AU key).1) ((AU key).2.1) ((AU key).2.2.1) ((AU key).2.2.2.1) ((AU key).2.2.2.2.1) ((AU key).2.2.2.2.2.1) ((AU key).2.2.2.2.2.2) num data text (D3 key).1 (D3 key).2.1 (D3 key).2.2.1 (D3 key).2.2.2 AE AE AE))] [] 0 hS fun hS=>AR (Bi (Ym ..) hS))))
end
section
variable (k:List Int) (u1:Nat→Int) (r1:List Int) (n1:Int) (u2:Nat→Int) (r2:List Int) (n2:Int) (num:List Int) (data text:List Int)
def Vh:(List Int)×Nat:=if(((text.length:Nat):Int)-32)<0 then([],2)else(if(FN k u1 r1 n1 u2 r2 n2 num data (text.take (Int.toNat (((text.length:Nat):Int)-32))))=(text.drop (Int.toNat (((text.length:Nat):Int)-32)))then(DT k num (text.take (Int.toNat (((text.length:Nat):Int)-32))),0)else([],2))
def MQ:(List Int)×Nat:=AJ (Vh k u1 r1 n1 u2 r2 n2 num data text)
theorem OY:MQ k u1 r1 n1 u2 r2 n2 num data text=Vh k u1 r1 n1 u2 r2 n2 num data text:=Ag _
def AaD (z_:(List Int)×Nat:=MQ k u1 r1 n1 u2 r2 n2 num data text):Con:=⟨[.im (chain [lb k,.im (chain [.im (chain [.ar .u32 8 u1,lb r1,.v (.int .u64 n1)]) 0,.im (chain [.ar .u32 8 u2,lb r2,.v (.int .u64 n2)]) 0]) 0]) 0,lb num,lb data,lb text],[],.tu (chain [lb (z_.1),vi ((z_.2:Nat):Int)]),[]⟩
theorem tN (hkl:k.length=32) (hkb:By k) (hr1:r1.length≤64) (hr2:r2.length≤64) (hd:data.length≤60000) (ht:text.length≤60000) (hn:num.length=12):ConOk Tryz.prog 104 (AaD k u1 r1 n1 u2 r2 n2 num data text):=by
 refine cy 0 Tryz.func104 rfl Tryz.ntmps104 fun hg0 hS=> ?_
 have Be:num.length≤9223372036854775807:=hS.len 1 rfl
 have B2:data.length≤9223372036854775807:=hS.len 2 rfl
 have HE:text.length≤9223372036854775807:=hS.len 3 rfl
 refine Ae [] 0 hS fun hS=>Av (Ax [(4,AP (TP k u1 r1 n1 u2 r2 n2 num data text AE AE AE))] [] 0 hS fun hS=>Ae [] 0 hS fun hS=>Ai hS (BP (Ax [(2,ZH ((text.length:Nat):Int) 32)] [] 0 hS fun hS=>Il ?_)))
 by_cases h1:(((text.length:Nat):Int)-32)<0
 ·refine As [(1,GG h1)] [] 0 hS fun hS=>Ab (AO hS (Ae [] 0 hS fun hS=>AR (Af ?_)))
  have hS:=hS.wk 8 (lb [])
  exact Bi (.trans (OY ..) (if_pos h1)) hS
 ·refine As [(1,DC h1),(8,O1 (E8 none (some (((text.length:Nat):Int)-32)) none text.length text.length) ⟨by simp only[F3]<;>omega,by simp only[F3]<;>omega,by simp only[F3]<;>omega,by simp,by simp only[bl]<;>omega,by simp only[bl]<;>omega,by simp only[bl]<;>omega⟩),(9,AP (kC k u1 r1 n1 u2 r2 n2 num data (text.take (Int.toNat (((text.length:Nat):Int)-32))) hr1 hr2 AE AE AE)),(12,O1 (E8 (some (((text.length:Nat):Int)-32)) none none text.length text.length) ⟨by simp only[F3]<;>omega,by simp only[F3]<;>omega,by simp only[F3]<;>omega,by simp,by simp only[bl]<;>omega,by simp only[bl]<;>omega,by simp only[bl]<;>omega⟩),(13,AP (Er (FN k u1 r1 n1 u2 r2 n2 num data (text.take (Int.toNat (((text.length:Nat):Int)-32)))) (text.drop (Int.toNat (((text.length:Nat):Int)-32)))))] [] 0 hS fun hS=>Ab (Iz ((FN k u1 r1 n1 u2 r2 n2 num data (text.take (Int.toNat (((text.length:Nat):Int)-32))))=(text.drop (Int.toNat (((text.length:Nat):Int)-32)))) hS (fun h2=> ?_) (fun h2=> ?_))
  ·refine Ae [] 0 hS fun hS=>AR (Af ?_)
   have hS:=hS.wk 8 (lb [])
   exact Bi (.trans (OY ..) ((if_neg h1).trans (if_neg h2))) hS
  ·refine BP (Ax [(7,O1 (E8 none (some (((text.length:Nat):Int)-32)) none text.length text.length) ⟨by simp only[F3]<;>omega,by simp only[F3]<;>omega,by simp only[F3]<;>omega,by simp,by simp only[bl]<;>omega,by simp only[bl]<;>omega,by simp only[bl]<;>omega⟩),(8,AM (Xq k num (text.take (Int.toNat (((text.length:Nat):Int)-32))) AE BF AE AE) [] [(0,0)])] [] 1 hS fun hS=>AR ?_)
   obtain⟨gs,hS⟩:=hS.fz 0
   exact Bi (.trans (OY ..) ((if_neg h1).trans (if_pos h2))) hS
end
section
variable (key num:List Int) (data text:List Int)
def TK:(List Int)×Nat:=((MQ ((AU key).1) ((AU key).2.1) ((AU key).2.2.1) ((AU key).2.2.2.1) ((AU key).2.2.2.2.1) ((AU key).2.2.2.2.2.1) ((AU key).2.2.2.2.2.2) num data text).1,((MQ ((AU key).1) ((AU key).2.1) ((AU key).2.2.1) ((AU key).2.2.2.1) ((AU key).2.2.2.2.1) ((AU key).2.2.2.2.2.1) ((AU key).2.2.2.2.2.2) num data text).2))
def Da:(List Int)×Nat:=AJ (TK key num data text)
theorem ZY:Da key num data text=TK key num data text:=Ag _
def zL (z_:(List Int)×Nat:=Da key num data text):Con:=⟨[lb key,lb num,lb data,lb text],[],.tu (chain [lb (z_.1),vi ((z_.2:Nat):Int)]),[]⟩
theorem VS (hk:key.length=32) (hd:data.length≤60000) (ht:text.length≤60000) (hn:num.length=12):ConOk Tryz.prog 69 (zL key num data text):=by
 refine cy 0 Tryz.func69 rfl Tryz.ntmps69 fun hg0 hS=> ?_
 have A7:key.length≤9223372036854775807:=hS.len 0 rfl
 have Be:num.length≤9223372036854775807:=hS.len 1 rfl
 have B2:data.length≤9223372036854775807:=hS.len 2 rfl
 have HE:text.length≤9223372036854775807:=hS.len 3 rfl
 exact Ae [] 0 hS fun hS=>Ax [(1,AP (SV key AE))] [] 0 hS fun hS=>Av (Ae [] 0 hS fun hS=>Ai hS (BP (Ax [(4,AP (tN ((AU key).1) ((AU key).2.1) ((AU key).2.2.1) ((AU key).2.2.2.1) ((AU key).2.2.2.2.1) ((AU key).2.2.2.2.2.1) ((AU key).2.2.2.2.2.2) num data text (D3 key).1 (D3 key).2.1 (D3 key).2.2.1 (D3 key).2.2.2 AE AE AE))] [] 0 hS fun hS=>AR (Bi (ZY ..) hS))))
end
end
end Go.Sx.Tryz
namespace Go.Sx.Tryz
open Go.Mi Go.RowKit Go.Sx Go.Proofs
noncomputable section
def Aj (x0:List Int) (x1:Nat):O:= .ob 122 (chain [lb x0,vi ((x1:Nat):Int)])
def C_ (x0:List Int):O:= .ob 122 (chain [lb x0,vi 0])
def Oa (key:List Int):List Int:=Cu ((Ah key).1) ((Ah key).2.1) ((Ah key).2.2.1) ((Ah key).2.2.2.1) ((Ah key).2.2.2.2.1) ((Ah key).2.2.2.2.2) [[2]]
def Kf (key:List Int):List Int:=Cu ((Ah key).1) ((Ah key).2.1) ((Ah key).2.2.1) ((Ah key).2.2.2.1) ((Ah key).2.2.2.2.1) ((Ah key).2.2.2.2.2) [[1]]
@[simp] theorem Mb (key:List Int):(Oa key).length=32:=B6 ..
@[simp] theorem w7 (key:List Int):(Kf key).length=32:=B6 ..
def AA (key:List Int):Nat→List Int
 |0=>key
 |k+1=>Oa (AA key k)
def FM (key:List Int):Nat→List (List Int)
 |0=>[]
 |k+1=>FM key k++[Kf (AA key k)]
theorem Du {key:List Int} (h:key.length=32):∀k,(AA key k).length=32
 |0=>h
 |_+1=>Mb _
@[simp] theorem FZ (key:List Int):∀k,(FM key k).length=k
 |0=>rfl
 |k+1=>by rw[FM,List.length_append,FZ key k];rfl
section
variable (key:List Int)
def Aaw (i:Nat):Con:=Cq [.cp 0 0] [(0,Aj key i)] (.v (.bool false))
theorem Re (i:Nat) (hk:key.length=32):ConOk Tryz.prog 84 (Aaw key i):=by
 refine cy 1 Tryz.func84 rfl Tryz.ntmps84 fun hg0 hS=> ?_
 have hk0:¬((key.length:Nat):Int)=0:=Ac
 exact Ae [] 1 hS fun hS=>Ax [(8,DC hk0)] [] 1 hS fun hS=>AR (BW hS)
def Aea (i:Nat):Con:=⟨[lb key,vi (i:Int)],[],.tu (chain [.cp 0 0,vi 0]),[(0,Aj key i)]⟩
theorem yY (i:Nat) (hk:key.length=32):ConOk Tryz.prog 76 (Aea key i):=by
 refine cy 0 Tryz.func76 rfl Tryz.ntmps76 fun hg0 hS=> ?_
 have A7:key.length≤9223372036854775807:=hS.len 0 rfl
 have hk32:((key.length:Nat):Int)=32:=Ac
 exact Ae [] 0 hS fun hS=>Av (Ax [(2,GH hk32),(5,iX false [(decide ((i:Int)<0))=false] ⟨decide_eq_false Ac,trivial⟩)] [] 0 hS fun hS=>Ai hS (BP (Ax [(1,AP (Dy key AE))] [] 1 hS fun hS=>AR (BW hS))))
def Ad6:Con:=⟨[lb key],[],.tu (chain [.cp 0 0,vi 0]),[(0,C_ key)]⟩
theorem JX (hk:key.length=32):ConOk Tryz.prog 43 (Ad6 key):=by
 refine cy 0 Tryz.func43 rfl Tryz.ntmps43 fun hg0 hS=> ?_
 have A7:key.length≤9223372036854775807:=hS.len 0 rfl
 exact Ae [] 0 hS fun hS=>Ax [(1,AM (yY key 0 AE) [] [(0,0)])] [] 1 hS fun hS=>AR (BW hS)
def Aax (i:Nat):Con:=⟨[.cp 0 0],[(0,Aj key i)],lb (Kf key),[(0,Aj (Oa key) (i+1))]⟩
theorem HI (i:Nat) (hk:key.length=32) (hi:i≤1000000000000):ConOk Tryz.prog 52 (Aax key i):=by
 exact cy 1 Tryz.func52 rfl Tryz.ntmps52 fun hg0 hS=>Ae [] 1 hS fun hS=>Av (Ax [(1,AM (Re key i AE) [(0,0)] [])] [] 1 hS fun hS=>Ai hS (BP (Ax [(4,AP (Hw key AE))] [] 1 hS fun hS=>Ax [(4,AP (I9 ((Ah key).1) ((Ah key).2.1) ((Ah key).2.2.1) ((Ah key).2.2.2.1) ((Ah key).2.2.2.2.1) ((Ah key).2.2.2.2.2) [[2]] (Ct key).1 (Ct key).2 (by simp)))] [] 1 hS fun hS=>Ax [(4,BH i)] [] 1 hS fun hS=>Ax [(3,AP (I9 ((Ah key).1) ((Ah key).2.1) ((Ah key).2.2.1) ((Ah key).2.2.2.1) ((Ah key).2.2.2.2.1) ((Ah key).2.2.2.2.2) [[1]] (Ct key).1 (Ct key).2 (by simp)))] [] 1 hS fun hS=>AR (BW hS))))
def Rf (key:List Int) (i k:Nat):Nat:=if(k:Int)<(i:Int)then 5 else(if((i+40:Nat):Int)<(k:Int)then 6 else 0)
def Ft (i k:Nat):Nat:=AJ (Rf key i k)
theorem NG (i k:Nat):Ft key i k=Rf key i k:=Ag _
def Ad7 (i k:Nat) (z_:Nat:=Ft key i k):Con:=Cq [.cp 0 0,vi (k:Int)] [(0,Aj key i)] (vi (z_:Int))
theorem U6 (i k:Nat) (hk:key.length=32) (hi:i≤1000000000000):ConOk Tryz.prog 140 (Ad7 key i k):=by
 refine cy 1 Tryz.func140 rfl Tryz.ntmps140 fun hg0 hS=>Ae [] 1 hS fun hS=>Av (Br (Ax [(1,AM (Re key i AE) [(0,0)] [])] [] 1 hS fun hS=>Ai hS (Ae [] 1 hS fun hS=>AB ((k:Int)<(i:Int)) hS (fun h1=> ?_) (fun h1=> ?_))))
 ·exact Ae [] 1 hS fun hS=>AR (Aw (Af (Bi (.trans (NG ..) (if_pos h1)) hS)))
 ·refine Ax [(5,Ek i 40 (i+40))] [] 1 hS fun hS=>AB (((i+40:Nat):Int)<(k:Int)) hS (fun h2=> ?_) (fun h2=> ?_)
  ·exact Ae [] 1 hS fun hS=>AR (Aw (Af (Bi (.trans (NG ..) ((if_neg h1).trans (if_pos h2))) hS)))
  ·exact G8 (Ae [] 1 hS fun hS=>AR (Bi (.trans (NG ..) ((if_neg h1).trans (if_neg h2))) hS))
def AaA (i:Nat):Con:=⟨[.cp 0 0],[(0,Aj key i)],.cp 1 0,[(0,Aj key i),(1,Aj key i)]⟩
theorem Jr (i:Nat) (hk:key.length=32):ConOk Tryz.prog 61 (AaA key i):=by
 exact cy 1 Tryz.func61 rfl Tryz.ntmps61 fun hg0 hS=>Ae [] 1 hS fun hS=>Av (Ax [(1,AM (Re key i AE) [(0,0)] [])] [] 1 hS fun hS=>Ai hS (BP (Ax [(4,AP (Dy key AE))] [] 2 hS fun hS=>AR (BW hS))))
def tA (i:Nat):Con:=Cq [.cp 0 0] [(0,Aj key i)] (vi (i:Int))
theorem CU (i:Nat):ConOk Tryz.prog 40 (tA key i):=by
 exact cy 1 Tryz.func40 rfl Tryz.ntmps40 fun hg0 hS=>Ae [] 1 hS fun hS=>Av (Ae [] 1 hS fun hS=>Ai hS (BP (Ae [] 1 hS fun hS=>AR (BW hS))))
end
end
end Go.Sx.Tryz
namespace Go.Sx.Tryz
open Go.Mi Go.RowKit Go.Sx Go.Proofs
noncomputable section
theorem qS {key:List Int} {i k:Nat} (h1:i≤k) (h2:k≤i+40):Ft key i k=0:=by
 rw[NG];unfold Rf
 rw[if_neg Ac,if_neg Ac]
theorem Adg {key:List Int} {i k:Nat} (h1:k<i):Ft key i k=5:=by
 rw[NG];unfold Rf
 rw[if_pos Ac]
theorem qT {key:List Int} {i k:Nat} (h1:i+40<k):Ft key i k=6:=by
 rw[NG];unfold Rf
 rw[if_neg Ac,if_pos Ac]
section
variable (key:List Int) (i to:Nat)
def Aau:Con:=⟨[.cp 0 0,vi (to:Int)],[(0,Aj key i)],.tu (chain [.sk 1,vi 0]),[(0,Aj (AA key (to-i)) to),(1,.sl 22 [.sl (.int .u8)] (FM key (to-i)))]⟩
theorem Rc (hk:key.length=32) (hi:i≤900000000000) (hm:i≤to∧to≤i+40):ConOk Tryz.prog 107 (Aau key i to):=by
 refine cy 1 Tryz.func107 rfl Tryz.ntmps107 fun hg0 hS=> ?_
 have hm0:((Ft key i to:Nat):Int)=0:=(by rw[qS hm.1 hm.2];rfl)
 refine Ae [] 1 hS fun hS=>Av (Ax [(2,AM (U6 key i to AE Ac) [(0,0)] [])] [] 1 hS fun hS=>Ax [(1,GH hm0)] [] 1 hS fun hS=>Ai hS (BE ?_))
 obtain⟨gs,hS⟩:=hS.nilk 4 22 [.sl (.int .u8)]
 refine Ar (ι:=Nat) hg0 hS (fun k=>(to-(i+k),[],[(0,Aj (AA key k) (i+k)),(1,.sl 22 [.sl (.int .u8)] (FM key k))],(k≤to-i)∧True)) [0,1,4,5] [] 2 0 [(0,0),(1,1)] ⟨Ac,trivial⟩ ?_
 rintro k ac gs ws ⟨hk2,_⟩ hS
 refine Av (Ae [] 2 hS fun hS=>AB (((i+k:Nat):Int)<(to:Int)) hS (fun h1=> ?_) (fun h1=> ?_))
 ·refine BP (Br ?_)
  have hnl:=Du hk k
  exact As [(2,AM (HI (AA key k) (i+k) AE Ac) [(0,0)] []),(4,FW ((FM key k).length) 1 24 (by(simp only[FZ,List.length_cons,List.length_nil];omega)))] [4] 3 hS fun hS=>BV (Al hg0 hS (k+1) [(0,0),(1,2)] ⟨Ac,trivial⟩ (show to-(i+(k+1))<to-(i+k)from by omega))
 ·have hT:=hS
  obtain rfl:(to-i)=k:=Eq.symm Ac
  have hS:=hT
  refine ML (Dj [4] 2 hS fun hS=> ?_)
  have hS:=hS.rv [(4,.sk 1),(5,vi 0)] [(0,some (Aj (AA key (to-i)) (i+(to-i)))),(1,some (.sl 22 [.sl (.int .u8)] (FM key (to-i))))]
  rw[show i+(to-i)=to by omega]at hS
  have hS:=hS.sp
  exact DX (BW hS)
def tD:Con:=Cq [.cp 0 0,vi (to:Int)] [(0,Aj key i)] (.tu (chain [lb (Kf (AA key (to-i))),vi 0]))
theorem yV (hk:key.length=32) (hi:i≤900000000000) (hm:i≤to∧to≤i+40):ConOk Tryz.prog 105 (tD key i to):=by
 refine cy 1 Tryz.func105 rfl Tryz.ntmps105 fun hg0 hS=> ?_
 have hm0:((Ft key i to:Nat):Int)=0:=(by rw[qS hm.1 hm.2];rfl)
 refine Ae [] 1 hS fun hS=>Av (Ax [(2,AM (U6 key i to AE Ac) [(0,0)] [])] [] 1 hS fun hS=>Ax [(1,GH hm0)] [] 1 hS fun hS=>Ai hS (BP (Ax [(1,AM (Jr key i AE) [(0,0)] [(1,1)])] [] 2 hS fun hS=>Ax [(2,AM (Rc key i to AE Ac Ac) [(0,1)] [(1,2)])] [] 3 hS fun hS=>Av ?_)))
 have hnl:=Du hk (to-i)
 exact As [(1,AM (HI (AA key (to-i)) to AE Ac) [(0,1)] [])] [] 3 hS fun hS=>DX (BW hS)
def cS:Con:=Cq [.cp 0 0,vi (to:Int)] [(0,Aj key i)] (.tu (chain [.v (.slice none 0 0),vi ((Ft key i to:Nat):Int)]))
theorem qV (hk:key.length=32) (hi:i≤900000000000) (hm:¬((Ft key i to:Nat):Int)=0):ConOk Tryz.prog 105 (cS key i to):=by
 refine cy 1 Tryz.func105 rfl Tryz.ntmps105 fun hg0 hS=> ?_
 have hm:¬((Ft key i to:Nat):Int)=0:=hm
 exact Ae [] 1 hS fun hS=>Av (Ax [(2,AM (U6 key i to AE Ac) [(0,0)] [])] [] 1 hS fun hS=>Ax [(1,Rnt hm)] [] 1 hS fun hS=>AO hS (Ae [] 1 hS fun hS=>AR (Af (BW hS))))
end
end
end Go.Sx.Tryz
namespace Go.Sx.Tryz
open Go.Mi Go.RowKit Go.Sx Go.Proofs
noncomputable section
def EG:O:= .ob 44 (chain [vi 0])
def OT:Con:=⟨[.cp 0 0],[(0,EG)],.tu (chain []),[(0,EG)]⟩
theorem P2:RH Tryz.prog 88 .returning .returning (OT):=by
 refine U1 rfl (nb:=1) (t0:=4) (t1:=1) Tryz.func88 rfl rfl Tryz.ntmps88 rfl rfl rfl rfl rfl rfl fun g0 w0 ac gs ws hg0 hS=> ?_
 have hS:=hS.sp
 exact Ax [(1,Vn .nn [] trivial)] [] 1 hS fun hS=>Ai hS (cnb (fiN hS))
def Va (n:Nat):Con:=⟨[.cp 0 0],[(0,EG)],.tu (chain []),[(0,.ob 44 (chain [vi (n:Int)]))]⟩
theorem We (n:Nat) (hn:0<n):RH Tryz.prog 88 (pnd (.iface 44 (.int .i64 (n:Int)))) (rcd (.iface 44 (.int .i64 (n:Int)))) (Va n):=by
 refine U1 rfl (nb:=1) (t0:=4) (t1:=1) Tryz.func88 rfl rfl Tryz.ntmps88 rfl rfl rfl rfl rfl rfl fun g0 w0 ac gs ws hg0 hS=> ?_
 have hS:=hS.sp
 have hn0:¬(n:Int)=0:=Ac
 exact Ae [] 1 hS fun hS=>AO hS (Ax [(1,Vn .ta [] trivial)] [] 1 hS fun hS=>Av (Ax [(4,DC hn0)] [] 1 hS fun hS=>Ai hS (BP (Dj [] 1 hS fun hS=>fiN hS))))
end
end Go.Sx.Tryz
namespace Go.Sx.Tryz
open Go.Mi Go.RowKit Go.Sx Go.Proofs
noncomputable section
def Aev:O:= .ob 115 (chain [.v (.slice none 0 0),vi 0,vi 0,vi 0,.v (.slice none 0 0),.v (.slice none 0 0)])
def ZK (x0 x1:List Int):O:= .ob 115 (chain [lb x0,vi 0,vi 0,vi 0,.v (.slice none 0 0),lb x1])
section
variable (xs:List Int)
def Om:Bool:=if FQ xs=true then(if(2147483648:Int)<((Ad xs).1)then false else true)else false
def Eg:Bool:=AJ (Om xs)
theorem On:Eg xs=Om xs:=Ag _
def Adq:Con:=⟨[.cp 0 0],[(0,HK xs)],vi (((((Ad xs).1).toNat):Nat):Int),[(0,HK ((Ad xs).2))]⟩
theorem TL (h:xs.length≤100000000000000) (hk:Eg xs=true):ConOk Tryz.prog 92 (Adq xs):=by
 refine cy 1 Tryz.func92 rfl Tryz.ntmps92 fun hg0 hS=>Ae [] 1 hS fun hS=>Av ?_
 by_cases h1:FQ xs=true
 ·refine As [(1,AM (H7 xs AE h1) [(0,0)] [])] [] 1 hS fun hS=>Ej (Ae [] 1 hS fun hS=>AB ((2147483648:Int)<((Ad xs).1)) hS (fun h2=> ?_) (fun h2=> ?_))
  ·have hK:Eg xs=false:=(On xs).trans ((if_pos h1).trans (if_pos h2))
   rw[hK]at hk
   cases hk
  ·refine DU ?_
   have hnn:=AW xs
   exact As [(1,RN ((((Ad xs).1).toNat:Nat):Int) [IntKind.wrap .i64 ((Ad xs).1)=((((Ad xs).1).toNat:Nat):Int)] ⟨(El Ac Ac).trans Ac,trivial⟩)] [] 1 hS fun hS=>DX (BW hS)
 ·have hK:Eg xs=false:=(On xs).trans (if_neg h1)
  rw[hK]at hk
  cases hk
theorem VT (m:Nat):0<DD xs m:=by
 rw[KC];unfold KB
 repeat (first |decide|split)
theorem G1 (m:Nat):0<BY xs m:=by
 rw[H3];unfold H2
 repeat (first |decide|exact VT _ _|split)
def Ul:Bool:=if Bg xs 4000=true then(if Bg (((Ad xs).2).drop (((Ad xs).1).toNat)) 4000=true then true else false)else false
def L4:Bool:=AJ (Ul xs)
theorem Um:L4 xs=Ul xs:=Ag _
def Qj:Nat:=if Bg xs 4000=true then(BY (((Ad xs).2).drop (((Ad xs).1).toNat)) 4000)else(BY xs 4000)
def Uk:Nat:=AJ (Qj xs)
theorem m0:Uk xs=Qj xs:=Ag _
def AfT:Con:=⟨[.cp 0 0,.cp 1 0],[(0,HK xs),(1,Aev)],.tu (chain []),[(0,HK (((Ad (((Ad xs).2).drop (((Ad xs).1).toNat))).2).drop (((Ad (((Ad xs).2).drop (((Ad xs).1).toNat))).1).toNat))),(1,ZK (((Ad xs).2).take (((Ad xs).1).toNat)) (((Ad (((Ad xs).2).drop (((Ad xs).1).toNat))).2).take (((Ad (((Ad xs).2).drop (((Ad xs).1).toNat))).1).toNat)))]⟩
theorem Acm (h:xs.length≤100000000000000) (hk:L4 xs=true):ConOk Tryz.prog 101 (AfT xs):=by
 refine cy 2 Tryz.func101 rfl Tryz.ntmps101 fun hg0 hS=> ?_
 have hnn:=AW xs
 by_cases h1:Bg xs 4000=true
 ·have hnn:=AW xs
  by_cases h2:Bg (((Ad xs).2).drop (((Ad xs).1).toNat)) 4000=true
  ·have hnn:=AW xs
   exact As [(1,AM (Gs xs 4000 AE Ac h1) [(0,0)] []),(3,AM (Gs (((Ad xs).2).drop (((Ad xs).1).toNat)) 4000 AE Ac h2) [(0,0)] [])] [] 2 hS fun hS=>fiN hS
  ·have hnn:=AW xs
   have hK:L4 xs=false:=(Um xs).trans ((if_pos h1).trans (if_neg h2))
   rw[hK]at hk
   cases hk
 ·have hnn:=AW xs
  have hK:L4 xs=false:=(Um xs).trans (if_neg h1)
  rw[hK]at hk
  cases hk
theorem JK:0<Uk xs:=by
 rw[m0];unfold Qj
 repeat (first |decide|exact G1 _ _|split)
def T7:Bool:=if L4 xs=true then(if Fc (((Ad (((Ad xs).2).drop (((Ad xs).1).toNat))).2).drop (((Ad (((Ad xs).2).drop (((Ad xs).1).toNat))).1).toNat))=true then true else false)else false
def LU:Bool:=AJ (T7 xs)
theorem T8:LU xs=T7 xs:=Ag _
def Qb:Nat:=if L4 xs=true then 2 else(Uk xs)
def T6:Nat:=AJ (Qb xs)
theorem mH:T6 xs=Qb xs:=Ag _
def AfP:Con:=⟨[lb xs,.fn 101 (chain []) (chain [.cp 0 0])],[(0,Aev)],vi 0,[(0,ZK (((Ad xs).2).take (((Ad xs).1).toNat)) (((Ad (((Ad xs).2).drop (((Ad xs).1).toNat))).2).take (((Ad (((Ad xs).2).drop (((Ad xs).1).toNat))).1).toNat)))]⟩
theorem Ab9 (h:xs.length≤100000000000000) (hk:LU xs=true):ConOk Tryz.prog 59 (AfP xs):=by
 refine Fs rfl (nb:=1) Tryz.func59 rfl rfl Tryz.ntmps59 rfl rfl rfl fun g0 w0 ac gs ws hg0 hS=> ?_
 have A7:xs.length≤9223372036854775807:=hS.len 0 rfl
 have hS:=hS.sp
 refine Ae [] 2 hS fun hS=>Av ?_
 have hS:=hS.rv [(0,lb xs),(1,.fn 101 (chain []) (chain [.cp 0 0])),(4,.cp 1 0)] [(0,some (Aev)),(1,some (EG))]
 refine JV rfl hS (cs:=[.cp 1 0]) rfl rfl rfl fun D vds ac hD hcv hB hS=> ?_
 have hS:=hS.sp
 refine Ab (Ax [(1,AM (Me xs AE) [] [(0,2)])] [] 3 hS fun hS=>Av (Ae [] 3 hS fun hS=>AO hS ?_))
 have hz:=JK xs
 by_cases h1:L4 xs=true
 ·have hz:=JK xs
  refine As [(2,AM (Acm xs AE h1) [(0,2),(1,0)] [])] [] 3 hS fun hS=>Ej ?_
  by_cases h2:Fc (((Ad (((Ad xs).2).drop (((Ad xs).1).toNat))).2).drop (((Ad (((Ad xs).2).drop (((Ad xs).1).toNat))).1).toNat))=true
  ·refine As [(1,AM (Ox (((Ad (((Ad xs).2).drop (((Ad xs).1).toNat))).2).drop (((Ad (((Ad xs).2).drop (((Ad xs).1).toNat))).1).toNat)) h2) [(0,2)] [])] [] 3 hS fun hS=>Ab (Ae [] 3 hS fun hS=>AR ?_)
   have hS:=hS.rv [(4,.cp 1 0)] [(0,some (ZK (((Ad xs).2).take (((Ad xs).1).toNat)) (((Ad (((Ad xs).2).drop (((Ad xs).1).toNat))).2).take (((Ad (((Ad xs).2).drop (((Ad xs).1).toNat))).1).toNat)))),(1,some (EG))]
   exact QO (.inr rfl) hS hD (Gz ⟨88,(OT),[(0,1)],[]⟩ [(1,some (EG)),(0,some (ZK (((Ad xs).2).take (((Ad xs).1).toNat)) (((Ad (((Ad xs).2).drop (((Ad xs).1).toNat))).2).take (((Ad (((Ad xs).2).drop (((Ad xs).1).toNat))).1).toNat)))),(1,some (EG))] hB hS hcv (show FrameMode.returning≠ .run from nofun) rfl rfl rfl (P2) rfl ⟨rfl,trivial⟩ rfl (ds:=[vi 0]) (by kernel_rfl) rfl ⟨rfl,trivial⟩)
  ·have hK:LU xs=false:=(T8 xs).trans ((if_pos h1).trans (if_neg h2))
   rw[hK]at hk
   cases hk
 ·have hz:=JK xs
  have hK:LU xs=false:=(T8 xs).trans (if_neg h1)
  rw[hK]at hk
  cases hk
end
end
end Go.Sx.Tryz
namespace Go.Sx.Tryz
open Go.Mi Go.RowKit Go.Sx Go.Proofs
noncomputable section
def uC (x0:List Int) (x1:Nat) (x2 x3:Nat) (x4 x5:List Int):O:= .ob 115 (chain [lb x0,vi ((x1:Nat):Int),vi ((x2:Nat):Int),vi ((x3:Nat):Int),lb x4,lb x5])
section
variable (xs:List Int)
theorem Dv:(Ad (Ad xs).2).2.length≤xs.length:=Nat.le_trans (AW _).2 (AW _).2
theorem CZ:(Ad (Ad (Ad xs).2).2).2.length≤xs.length:=Nat.le_trans (AW _).2 (Dv _)
def Qi (ba bb:List Int):Bool:=if Eg xs=true then(if Eg ((Ad xs).2)=true then(if Eg ((Ad ((Ad xs).2)).2)=true then(if Bg ((Ad ((Ad ((Ad xs).2)).2)).2) 4000=true then true else false)else false)else false)else false
def Iu (ba bb:List Int):Bool:=AJ (Qi xs ba bb)
theorem KL (ba bb:List Int):Iu xs ba bb=Qi xs ba bb:=Ag _
def Qh (ba bb:List Int):Nat:=if Eg xs=true then(if Eg ((Ad xs).2)=true then(if Eg ((Ad ((Ad xs).2)).2)=true then(BY ((Ad ((Ad ((Ad xs).2)).2)).2) 4000)else 2)else 2)else 2
def Ui (ba bb:List Int):Nat:=AJ (Qh xs ba bb)
theorem mZ (ba bb:List Int):Ui xs ba bb=Qh xs ba bb:=Ag _
def aV (ba bb:List Int):(List Int)×Nat×Nat×Nat×(List Int):=((((Ad ((Ad ((Ad ((Ad xs).2)).2)).2)).2).drop (((Ad ((Ad ((Ad ((Ad xs).2)).2)).2)).1).toNat)),(((Ad xs).1).toNat),(((Ad ((Ad xs).2)).1).toNat),(((Ad ((Ad ((Ad xs).2)).2)).1).toNat),(((Ad ((Ad ((Ad ((Ad xs).2)).2)).2)).2).take (((Ad ((Ad ((Ad ((Ad xs).2)).2)).2)).1).toNat)))
def C7 (ba bb:List Int):(List Int)×Nat×Nat×Nat×(List Int):=AJ (aV xs ba bb)
theorem Wx (ba bb:List Int):C7 xs ba bb=aV xs ba bb:=Ag _
end
theorem Uj (xs ba bb:List Int):(C7 xs ba bb).1.length≤xs.length:=by
 have h3:=CZ xs
 have h4:=(AW (Ad (Ad (Ad xs).2).2).2).2
 rw[Wx]
 show(List.drop _ _).length≤_
 rw[List.length_drop]
 omega
section
variable (xs ba bb:List Int)
def AfS (z_:(List Int)×Nat×Nat×Nat×(List Int):=C7 xs ba bb):Con:=⟨[.cp 0 0,.cp 1 0],[(0,HK xs),(1,ZK ba bb)],.tu (chain []),[(0,HK (z_.1)),(1,uC ba z_.2.1 z_.2.2.1 z_.2.2.2.1 (z_.2.2.2.2) bb)]⟩
theorem Ack (h:xs.length≤100000000000000) (hk:Iu xs ba bb=true):ConOk Tryz.prog 103 (AfS xs ba bb):=by
 refine cy 2 Tryz.func103 rfl Tryz.ntmps103 fun hg0 hS=> ?_
 have hnn:=AW xs
 have hn2:=Dv xs
 have hn3:=CZ xs
 by_cases h1:Eg xs=true
 ·have hnn:=AW xs
  have hn2:=Dv xs
  have hn3:=CZ xs
  by_cases h2:Eg ((Ad xs).2)=true
  ·have hnn:=AW xs
   have hn2:=Dv xs
   have hn3:=CZ xs
   by_cases h3:Eg ((Ad ((Ad xs).2)).2)=true
   ·have hnn:=AW xs
    have hn2:=Dv xs
    have hn3:=CZ xs
    by_cases h4:Bg ((Ad ((Ad ((Ad xs).2)).2)).2) 4000=true
    ·have hnn:=AW xs
     have hn2:=Dv xs
     have hn3:=CZ xs
     exact As [(1,AM (TL xs AE h1) [(0,0)] []),(3,AM (TL ((Ad xs).2) AE h2) [(0,0)] []),(5,AM (TL ((Ad ((Ad xs).2)).2) AE h3) [(0,0)] []),(7,AM (Gs ((Ad ((Ad ((Ad xs).2)).2)).2) 4000 AE Ac h4) [(0,0)] [])] [] 2 hS fun hS=>fqN (Wx ..) hS
    ·have hnn:=AW xs
     have hn2:=Dv xs
     have hn3:=CZ xs
     have hK:Iu xs ba bb=false:=(KL xs ba bb).trans ((if_pos h1).trans ((if_pos h2).trans ((if_pos h3).trans (if_neg h4))))
     rw[hK]at hk
     cases hk
   ·have hnn:=AW xs
    have hn2:=Dv xs
    have hn3:=CZ xs
    have hK:Iu xs ba bb=false:=(KL xs ba bb).trans ((if_pos h1).trans ((if_pos h2).trans (if_neg h3)))
    rw[hK]at hk
    cases hk
  ·have hnn:=AW xs
   have hn2:=Dv xs
   have hn3:=CZ xs
   have hK:Iu xs ba bb=false:=(KL xs ba bb).trans ((if_pos h1).trans (if_neg h2))
   rw[hK]at hk
   cases hk
 ·have hnn:=AW xs
  have hn2:=Dv xs
  have hn3:=CZ xs
  have hK:Iu xs ba bb=false:=(KL xs ba bb).trans (if_neg h1)
  rw[hK]at hk
  cases hk
end
theorem JJ (xs ba bb:List Int):0<Ui xs ba bb:=by
 rw[mZ];unfold Qh
 repeat (first |decide|exact G1 _ _|split)
section
variable (xs ba bb:List Int)
def P_:Bool:=if Iu xs ba bb=true then(if Fc ((C7 xs ba bb).1)=true then true else false)else false
def Ka:Bool:=AJ (P_ xs ba bb)
theorem Qa:Ka xs ba bb=P_ xs ba bb:=Ag _
def P9:Nat:=if Iu xs ba bb=true then 2 else(Ui xs ba bb)
def T5:Nat:=AJ (P9 xs ba bb)
theorem mG:T5 xs ba bb=P9 xs ba bb:=Ag _
def aJ:Nat×Nat×Nat×(List Int):=(((C7 xs ba bb).2.1),((C7 xs ba bb).2.2.1),((C7 xs ba bb).2.2.2.1),(C7 xs ba bb).2.2.2.2)
def E9:Nat×Nat×Nat×(List Int):=AJ (aJ xs ba bb)
theorem aK:E9 xs ba bb=aJ xs ba bb:=Ag _
def AfO (z_:Nat×Nat×Nat×(List Int):=E9 xs ba bb):Con:=⟨[lb xs,.fn 103 (chain []) (chain [.cp 0 0])],[(0,ZK ba bb)],vi 0,[(0,uC ba z_.1 z_.2.1 z_.2.2.1 (z_.2.2.2) bb)]⟩
theorem Ab7 (h:xs.length≤100000000000000) (hk:Ka xs ba bb=true):ConOk Tryz.prog 59 (AfO xs ba bb):=by
 refine Fs rfl (nb:=1) Tryz.func59 rfl rfl Tryz.ntmps59 rfl rfl rfl fun g0 w0 ac gs ws hg0 hS=> ?_
 have A7:xs.length≤9223372036854775807:=hS.len 0 rfl
 have hS:=hS.sp
 refine Ae [] 2 hS fun hS=>Av ?_
 have hS:=hS.rv [(0,lb xs),(1,.fn 103 (chain []) (chain [.cp 0 0])),(4,.cp 1 0)] [(0,some (ZK ba bb)),(1,some (EG))]
 refine JV rfl hS (cs:=[.cp 1 0]) rfl rfl rfl fun D vds ac hD hcv hB hS=> ?_
 have hS:=hS.sp
 refine Ab (Ax [(1,AM (Me xs AE) [] [(0,2)])] [] 3 hS fun hS=>Av (Ae [] 3 hS fun hS=>AO hS ?_))
 have hz:=JJ xs ba bb
 by_cases h1:Iu xs ba bb=true
 ·have hz:=JJ xs ba bb
  refine As [(2,AM (Ack xs ba bb AE h1) [(0,2),(1,0)] [])] [] 3 hS fun hS=>Ej ?_
  have hpl:=Uj xs ba bb
  by_cases h2:Fc ((C7 xs ba bb).1)=true
  ·have hpl:=Uj xs ba bb
   refine As [(1,AM (Ox ((C7 xs ba bb).1) h2) [(0,2)] [])] [] 3 hS fun hS=>Ab (Ae [] 3 hS fun hS=>AR ?_)
   have hM:E9 xs ba bb=(((C7 xs ba bb).2.1),((C7 xs ba bb).2.2.1),((C7 xs ba bb).2.2.2.1),(C7 xs ba bb).2.2.2.2):=aK xs ba bb
   have hS:=hS.rv [(4,.cp 1 0)] [(0,some (uC ba ((C7 xs ba bb).2.1) ((C7 xs ba bb).2.2.1) ((C7 xs ba bb).2.2.2.1) ((C7 xs ba bb).2.2.2.2) bb)),(1,some (EG))]
   exact QO (.inr rfl) hS hD (Gz ⟨88,(OT),[(0,1)],[]⟩ [(1,some (EG)),(0,some (uC ba ((C7 xs ba bb).2.1) ((C7 xs ba bb).2.2.1) ((C7 xs ba bb).2.2.2.1) ((C7 xs ba bb).2.2.2.2) bb)),(1,some (EG))] hB hS hcv (show FrameMode.returning≠ .run from nofun) rfl rfl rfl (P2) rfl ⟨rfl,trivial⟩ rfl (ds:=[vi 0]) (by kernel_rfl) rfl (by show DW _ [(0,uC ba ((E9 xs ba bb).1) ((E9 xs ba bb).2.1) ((E9 xs ba bb).2.2.1) ((E9 xs ba bb).2.2.2) bb)] true;first |exact⟨rfl,trivial⟩|(rw[hM];first |(simp only[];exact⟨rfl,trivial⟩)|exact⟨rfl,trivial⟩)))
  ·have hpl:=Uj xs ba bb
   have hK:Ka xs ba bb=false:=(Qa xs ba bb).trans ((if_pos h1).trans (if_neg h2))
   rw[hK]at hk
   cases hk
 ·have hz:=JJ xs ba bb
  have hK:Ka xs ba bb=false:=(Qa xs ba bb).trans (if_neg h1)
  rw[hK]at hk
  cases hk
end
end
end Go.Sx.Tryz
namespace Go.Sx.Tryz
open Go.Mi Go.RowKit Go.Sx Go.Proofs
noncomputable section
def Aai:Con:=⟨[vi 0],[],.tu (chain []),[]⟩
theorem Mf:ConOk Tryz.prog 71 (Aai):=by
 exact cy 0 Tryz.func71 rfl Tryz.ntmps71 fun hg0 hS=>Ae [] 0 hS fun hS=>Ai hS (cnb (fiN hS))
theorem Np (xs:List Int):0<T6 xs:=by
 rw[mH];unfold Qb
 repeat (first |decide|exact JK _|split)
theorem No (xs ba bb:List Int):0<T5 xs ba bb:=by
 rw[mG];unfold P9
 repeat (first |decide|exact JJ _ _ _|split)
section
variable (xs:List Int)
def Ht:Bool:=if LU xs=true then(if Ka (((Ad xs).2).take (((Ad xs).1).toNat)) (((Ad xs).2).take (((Ad xs).1).toNat)) (((Ad (((Ad xs).2).drop (((Ad xs).1).toNat))).2).take (((Ad (((Ad xs).2).drop (((Ad xs).1).toNat))).1).toNat))=true then(if(((([]++Ak (((Ad xs).2).take (((Ad xs).1).toNat)).length)++(((Ad xs).2).take (((Ad xs).1).toNat)))++Ak (((Ad (((Ad xs).2).drop (((Ad xs).1).toNat))).2).take (((Ad (((Ad xs).2).drop (((Ad xs).1).toNat))).1).toNat)).length)++(((Ad (((Ad xs).2).drop (((Ad xs).1).toNat))).2).take (((Ad (((Ad xs).2).drop (((Ad xs).1).toNat))).1).toNat)))=xs then true else false)else false)else false
def CG:Bool:=AJ (Ht xs)
theorem Gg:CG xs=Ht xs:=Ag _
def Wy:Nat:=if LU xs=true then(if Ka (((Ad xs).2).take (((Ad xs).1).toNat)) (((Ad xs).2).take (((Ad xs).1).toNat)) (((Ad (((Ad xs).2).drop (((Ad xs).1).toNat))).2).take (((Ad (((Ad xs).2).drop (((Ad xs).1).toNat))).1).toNat))=true then 2 else(T5 (((Ad xs).2).take (((Ad xs).1).toNat)) (((Ad xs).2).take (((Ad xs).1).toNat)) (((Ad (((Ad xs).2).drop (((Ad xs).1).toNat))).2).take (((Ad (((Ad xs).2).drop (((Ad xs).1).toNat))).1).toNat))))else(T6 xs)
def YA:Nat:=AJ (Wy xs)
def L5:(List Int)×Nat×Nat×Nat×(List Int)×(List Int):=((((Ad xs).2).take (((Ad xs).1).toNat)),((E9 (((Ad xs).2).take (((Ad xs).1).toNat)) (((Ad xs).2).take (((Ad xs).1).toNat)) (((Ad (((Ad xs).2).drop (((Ad xs).1).toNat))).2).take (((Ad (((Ad xs).2).drop (((Ad xs).1).toNat))).1).toNat))).1),((E9 (((Ad xs).2).take (((Ad xs).1).toNat)) (((Ad xs).2).take (((Ad xs).1).toNat)) (((Ad (((Ad xs).2).drop (((Ad xs).1).toNat))).2).take (((Ad (((Ad xs).2).drop (((Ad xs).1).toNat))).1).toNat))).2.1),((E9 (((Ad xs).2).take (((Ad xs).1).toNat)) (((Ad xs).2).take (((Ad xs).1).toNat)) (((Ad (((Ad xs).2).drop (((Ad xs).1).toNat))).2).take (((Ad (((Ad xs).2).drop (((Ad xs).1).toNat))).1).toNat))).2.2.1),(E9 (((Ad xs).2).take (((Ad xs).1).toNat)) (((Ad xs).2).take (((Ad xs).1).toNat)) (((Ad (((Ad xs).2).drop (((Ad xs).1).toNat))).2).take (((Ad (((Ad xs).2).drop (((Ad xs).1).toNat))).1).toNat))).2.2.2,(((Ad (((Ad xs).2).drop (((Ad xs).1).toNat))).2).take (((Ad (((Ad xs).2).drop (((Ad xs).1).toNat))).1).toNat)))
def Aa:(List Int)×Nat×Nat×Nat×(List Int)×(List Int):=AJ (L5 xs)
theorem L6:Aa xs=L5 xs:=Ag _
def sI (z_:(List Int)×Nat×Nat×Nat×(List Int)×(List Int):=Aa xs):Con:=⟨[lb xs],[],.ag (chain [lb (z_.1),vi ((z_.2.1:Nat):Int),vi ((z_.2.2.1:Nat):Int),vi ((z_.2.2.2.1:Nat):Int),lb (z_.2.2.2.2.1),lb (z_.2.2.2.2.2)]),[]⟩
theorem SO (h:xs.length≤1000000000) (hk:CG xs=true):ConOk Tryz.prog 68 (sI xs):=by
 refine cy 0 Tryz.func68 rfl Tryz.ntmps68 fun hg0 hS=> ?_
 have A7:xs.length≤9223372036854775807:=hS.len 0 rfl
 refine Ae [] 1 hS fun hS=>Av ?_
 have hz1:=Np xs
 have hnn:=AW xs
 by_cases h1:LU xs=true
 ·have hz1:=Np xs
  have hnn:=AW xs
  refine As [(2,AM (Ab9 xs AE h1) [(0,0)] []),(3,AP (Mf))] [] 1 hS fun hS=>Ej ?_
  have hz2:=No (((Ad xs).2).take (((Ad xs).1).toNat)) (((Ad xs).2).take (((Ad xs).1).toNat)) (((Ad (((Ad xs).2).drop (((Ad xs).1).toNat))).2).take (((Ad (((Ad xs).2).drop (((Ad xs).1).toNat))).1).toNat))
  by_cases h2:Ka (((Ad xs).2).take (((Ad xs).1).toNat)) (((Ad xs).2).take (((Ad xs).1).toNat)) (((Ad (((Ad xs).2).drop (((Ad xs).1).toNat))).2).take (((Ad (((Ad xs).2).drop (((Ad xs).1).toNat))).1).toNat))=true
  ·have hz2:=No (((Ad xs).2).take (((Ad xs).1).toNat)) (((Ad xs).2).take (((Ad xs).1).toNat)) (((Ad (((Ad xs).2).drop (((Ad xs).1).toNat))).2).take (((Ad (((Ad xs).2).drop (((Ad xs).1).toNat))).1).toNat))
   refine As [(3,AM (Ab7 (((Ad xs).2).take (((Ad xs).1).toNat)) (((Ad xs).2).take (((Ad xs).1).toNat)) (((Ad (((Ad xs).2).drop (((Ad xs).1).toNat))).2).take (((Ad (((Ad xs).2).drop (((Ad xs).1).toNat))).1).toNat)) AE h2) [(0,0)] []),(4,AP (Mf))] [] 1 hS fun hS=>Ab (Ae [] 2 hS fun hS=>Il ?_)
   have hnn:=AW xs
   have hn2:=AW ((Ad xs).2.drop (Ad xs).1.toNat)
   rw[List.length_drop]at hn2
   have w1:=AH (n:=min (Ad xs).1.toNat (Ad xs).2.length) Ac
   have w2:=AH (n:=min (Ad ((Ad xs).2.drop (Ad xs).1.toNat)).1.toNat (Ad ((Ad xs).2.drop (Ad xs).1.toNat)).2.length) Ac
   refine As [(3,AM (Ku (((Ad xs).2).take (((Ad xs).1).toNat)) AE) [(0,1)] [(1,2)]),(6,AM (Ga (([]++Ak (((Ad xs).2).take (((Ad xs).1).toNat)).length)++(((Ad xs).2).take (((Ad xs).1).toNat))) (((Ad (((Ad xs).2).drop (((Ad xs).1).toNat))).2).take (((Ad (((Ad xs).2).drop (((Ad xs).1).toNat))).1).toNat)) AE AE) [(0,1),(1,2)] [(2,3)]),(7,AM (Ha (((([]++Ak (((Ad xs).2).take (((Ad xs).1).toNat)).length)++(((Ad xs).2).take (((Ad xs).1).toNat)))++Ak (((Ad (((Ad xs).2).drop (((Ad xs).1).toNat))).2).take (((Ad (((Ad xs).2).drop (((Ad xs).1).toNat))).1).toNat)).length)++(((Ad (((Ad xs).2).drop (((Ad xs).1).toNat))).2).take (((Ad (((Ad xs).2).drop (((Ad xs).1).toNat))).1).toNat))) AE) [(0,1),(1,3)] []),(9,AP (Er (((([]++Ak (((Ad xs).2).take (((Ad xs).1).toNat)).length)++(((Ad xs).2).take (((Ad xs).1).toNat)))++Ak (((Ad (((Ad xs).2).drop (((Ad xs).1).toNat))).2).take (((Ad (((Ad xs).2).drop (((Ad xs).1).toNat))).1).toNat)).length)++(((Ad (((Ad xs).2).drop (((Ad xs).1).toNat))).2).take (((Ad (((Ad xs).2).drop (((Ad xs).1).toNat))).1).toNat))) xs))] [] 4 hS fun hS=>Ab (Iz ((((([]++Ak (((Ad xs).2).take (((Ad xs).1).toNat)).length)++(((Ad xs).2).take (((Ad xs).1).toNat)))++Ak (((Ad (((Ad xs).2).drop (((Ad xs).1).toNat))).2).take (((Ad (((Ad xs).2).drop (((Ad xs).1).toNat))).1).toNat)).length)++(((Ad (((Ad xs).2).drop (((Ad xs).1).toNat))).2).take (((Ad (((Ad xs).2).drop (((Ad xs).1).toNat))).1).toNat)))=xs) hS (fun h3=> ?_) (fun h3=> ?_))
   ·have hK:CG xs=false:=(Gg xs).trans ((if_pos h1).trans ((if_pos h2).trans (if_neg h3)))
    rw[hK]at hk
    cases hk
   ·exact BP (Ae [] 4 hS fun hS=>AR (Bi (L6 ..) hS))
  ·have hz2:=No (((Ad xs).2).take (((Ad xs).1).toNat)) (((Ad xs).2).take (((Ad xs).1).toNat)) (((Ad (((Ad xs).2).drop (((Ad xs).1).toNat))).2).take (((Ad (((Ad xs).2).drop (((Ad xs).1).toNat))).1).toNat))
   have hK:CG xs=false:=(Gg xs).trans ((if_pos h1).trans (if_neg h2))
   rw[hK]at hk
   cases hk
 ·have hz1:=Np xs
  have hnn:=AW xs
  have hK:CG xs=false:=(Gg xs).trans (if_neg h1)
  rw[hK]at hk
  cases hk
end
end
end Go.Sx.Tryz
namespace Go.Sx
open Go.Mi Go.RowKit
abbrev KR:=Int×Int×List (List Int)
abbrev kz:KR:=rz [.int .i64,.int .i64,.sl (.sl (.int .u8))]
def C6 (l:List KR) (i:Int):Int:=if l.findIdx (fun r=>r.1==i)<l.length then((l.findIdx fun r=>r.1==i:Nat):Int)else -1
theorem mR {l:List KR} {i:Int} (h:∀j,j<l.length→¬(l.getD j kz).1=i):C6 l i= -1:=by
 unfold C6
 rw[if_neg]
 intro hlt
 have :=List.findIdx_getElem (w:=hlt) (p:=fun r:KR=>r.1==i)
 refine h _ hlt ?_
 rw[List.getD_eq_getElem?_getD,List.getElem?_eq_getElem hlt]
 simpa using this
theorem mS {l:List KR} {i:Int} {k:Nat} (hk:k<l.length) (h:∀j,j<k→¬(l.getD j kz).1=i) (h2:(l.getD k kz).1=i):C6 l i=(k:Nat):=by
 have e:l.findIdx (fun r=>r.1==i)=k:=by
  rw[List.findIdx_eq hk]
  constructor
  ·rw[List.getD_eq_getElem?_getD,List.getElem?_eq_getElem hk]at h2
   simpa using h2
  ·intro j hj
   have :=h j hj
   rw[List.getD_eq_getElem?_getD,List.getElem?_eq_getElem (by omega)]at this
   simpa using this
 unfold C6
 rw[e,if_pos hk]
theorem Yw {l:List KR} {i:Int} (h:¬C6 l i<0):0≤C6 l i∧C6 l i<(l.length:Nat):=by
 unfold C6 at h⊢
 split
 ·omega
 ·rename_i h1;rw[if_neg h1]at h;exact absurd (by decide) h
theorem Nq {l:List KR} (i:Int): -1≤C6 l i∧C6 l i<(l.length:Nat):=by
 unfold C6
 split<;>omega
def Of (l:List KR):Prop:=l.length≤1000∧∀j,j<l.length→(0≤(l.getD j kz).1∧(l.getD j kz).1≤1000000000000)∧(0≤(l.getD j kz).2.1∧(l.getD j kz).2.1≤1000000000000)∧(l.getD j kz).2.2.length≤100000∧∀k∈(l.getD j kz).2.2,k.length=32
end Go.Sx
namespace Go.Sx.Tryz
open Go.Mi Go.RowKit Go.Sx Go.Proofs
noncomputable section
section
variable (x0:List Int) (x1 x2:Bool) (x3:Nat) (x4 x5:Nat) (x6:List (List Int)) (x7 x8:Nat)
def HL (x9:List (Int×Int×(List (List Int)))):O:= .ob 80 (chain [lb x0,.v (.bool x1),.v (.bool x2),.cp x3 0,.cp x4 0,.v (.pointer none),vi ((x5:Nat):Int),.ls false [.sl (.int .u8)] x6,vi ((x7:Nat):Int),vi ((x8:Nat):Int),.ls false [.int .i64,.int .i64,.sl (.sl (.int .u8))] x9])
def XX (x9:Nat):O:= .ob 80 (chain [lb x0,.v (.bool x1),.v (.bool x2),.cp x3 0,.cp x4 0,.v (.pointer none),vi ((x5:Nat):Int),.ls false [.sl (.int .u8)] x6,vi ((x7:Nat):Int),vi ((x8:Nat):Int),.sk x9])
end
def M3 (x0:Nat):O:= .ob 3 (chain [vi ((x0:Nat):Int)])
def rP:Con:=⟨[.im (chain [.top,.top,.top,.im (chain []) 0,.top,.top,.top,.top,.top,.top,.top]) 0],[],.v (.bool false),[]⟩
theorem BR:ConOk Tryz.prog 36 (rP):=by
 exact cy 0 Tryz.func36 rfl Tryz.ntmps36 fun hg0 hS=>Ae [] 0 hS fun hS=>Ae [] 0 hS fun hS=>AR (BW hS)
section
variable (low:Nat) (mx:List (List Int))
def sY:Con:=⟨[.im (chain [.top,.top,.top,.im (chain []) 0,.top,.top,vi (low:Int),.ls false [.sl (.int .u8)] mx,.top,.top,.top]) 0],[],vi ((low+mx.length-1:Nat):Int),[]⟩
theorem DF (hm1:1≤mx.length∧mx.length≤100000) (hlow:low≤100000000000):ConOk Tryz.prog 18 (sY low mx):=by
 exact cy 0 Tryz.func18 rfl Tryz.ntmps18 fun hg0 hS=>Ae [] 0 hS fun hS=>Av (Ax [(1,IB (BR) [] [.im (chain [.top,.top,.top,.im (chain []) 0,.top,.top,.top,.top,.top,.top,.top]) 0])] [] 0 hS fun hS=>Ai hS (BP (Ax [(9,Ek low mx.length (low+mx.length)),(10,G9 (low+mx.length) 1 ((low+mx.length)-1))] [] 0 hS fun hS=>AR (BW hS))))
end
def AV (fi:Bool) (low len told:Nat):Nat:=if fi=true then low+len-1 else min (low+len-1) told
section
variable (fi:Bool) (low:Nat) (mx:List (List Int)) (told:Nat)
def gV:Con:=⟨[.im (chain [.top,.v (.bool fi),.top,.im (chain []) 0,.top,.top,vi (low:Int),.ls false [.sl (.int .u8)] mx,.top,vi (told:Int),.top]) 0],[],vi ((AV fi low mx.length told:Nat):Int),[]⟩
theorem KQ (hm1:1≤mx.length∧mx.length≤100000) (hlow:low≤100000000000):ConOk Tryz.prog 46 (gV fi low mx told):=by
 refine cy 0 Tryz.func46 rfl Tryz.ntmps46 fun hg0 hS=>Ae [] 0 hS fun hS=>Av (Ae [] 0 hS fun hS=>NC fi hS (fun h1=> ?_) (fun h1=> ?_))
 ·exact Ax [(1,IB (DF low mx M7 Ac) [] [.im (chain [.top,.top,.top,.im (chain []) 0,.top,.top,vi (low:Int),.ls false [.sl (.int .u8)] mx,.top,.top,.top]) 0])] [] 0 hS fun hS=>AR (Af (C0 rfl (.inr rfl) hS [vi ((low+mx.length-1:Nat):Int)] [] (by show weak _ (vi ((AV fi low mx.length told:Nat):Int))=vi ((AV fi low mx.length told:Nat):Int);unfold AV;first |(rw[if_pos BF];rfl)|(rw[if_neg (N7 BF)];rfl)) trivial))
 ·exact BP (Ax [(1,IB (DF low mx M7 Ac) [] [.im (chain [.top,.top,.top,.im (chain []) 0,.top,.top,vi (low:Int),.ls false [.sl (.int .u8)] mx,.top,.top,.top]) 0]),(6,Rmn (low+mx.length-1) told)] [] 0 hS fun hS=>AR (C0 rfl (.inr rfl) hS [vi ((min (low+mx.length-1) told:Nat):Int)] [] (by show weak _ (vi ((AV fi low mx.length told:Nat):Int))=vi ((AV fi low mx.length told:Nat):Int);unfold AV;first |(rw[if_pos BF];rfl)|(rw[if_neg (N7 BF)];rfl)) trivial))
end
section
variable (id:List Int) (fi:Bool) (ok:List Int) (oi:Nat) (ik:List Int) (ii low:Nat) (mx:List (List Int)) (last told:Nat) (kl:List KR) (k:List Int) (n:Nat)
def Adt:Con:=Cq [.cp 0 0,lb k,vi (n:Int)] [(0,HL id fi false 1 2 low mx last told kl),(1,Aj ok oi),(2,Aj ik ii)] (lb (AI k (mx.getD (n-low) (rz [.sl (.int .u8)])) [109,101,115,115,97,103,101]))
theorem vF (hm1:1≤mx.length∧mx.length≤100000) (hm2:∀j,(mx.getD j (rz [.sl (.int .u8)])).length≤32) (hlow:low≤100000000000) (hk:k.length=32) (hn:low≤n∧n<low+mx.length):ConOk Tryz.prog 51 (Adt id fi ok oi ik ii low mx last told kl k n):=by
 refine cy 3 Tryz.func51 rfl Tryz.ntmps51 fun hg0 hS=> ?_
 have Be:k.length≤9223372036854775807:=hS.len 1 rfl
 refine Ae [] 3 hS fun hS=>Av ?_
 have hmk:=hm2 (n-low)
 exact As [(10,G9 n low (n-low)),(11,AD (n-low) mx.length),(13,Row),(14,O1 (0<[109,101,115,115,97,103,101].length) (by decide)),(15,AP (EP k (mx.getD (n-low) (rz [.sl (.int .u8)])) [109,101,115,115,97,103,101] AE AE AE))] [] 4 hS fun hS=>DX (BW hS)
def zQ:Con:=Cq [.cp 0 0,lb k,vi (n:Int)] [(0,XX id fi false 1 2 low mx last told 3),(1,Aj ok oi),(2,Aj ik ii),(3,.sl 86 [.int .i64,.int .i64,.sl (.sl (.int .u8))] kl)] (lb (AI k (mx.getD (n-low) (rz [.sl (.int .u8)])) [109,101,115,115,97,103,101]))
theorem VU (hm1:1≤mx.length∧mx.length≤100000) (hm2:∀j,(mx.getD j (rz [.sl (.int .u8)])).length≤32) (hlow:low≤100000000000) (hk:k.length=32) (hn:low≤n∧n<low+mx.length):ConOk Tryz.prog 51 (zQ id fi ok oi ik ii low mx last told kl k n):=by
 refine cy 4 Tryz.func51 rfl Tryz.ntmps51 fun hg0 hS=> ?_
 have Be:k.length≤9223372036854775807:=hS.len 1 rfl
 have FT:kl.length≤9223372036854775807:=hS.lens 3 rfl
 refine Ae [] 4 hS fun hS=>Av ?_
 have hmk:=hm2 (n-low)
 exact As [(10,G9 n low (n-low)),(11,AD (n-low) mx.length),(13,Row),(14,O1 (0<[109,101,115,115,97,103,101].length) (by decide)),(15,AP (EP k (mx.getD (n-low) (rz [.sl (.int .u8)])) [109,101,115,115,97,103,101] AE AE AE))] [] 5 hS fun hS=>DX (BW hS)
end
section
variable (a b:Int) (c:List (List Int)) (i:Nat)
def sH:Con:=Cq [.ag (chain [vi a,vi b,.ls false [.sl (.int .u8)] c]),.cp 0 0] [(0,M3 i)] (.v (.bool (decide (a=(i:Int)))))
theorem eP:ConOk Tryz.prog 131 (sH a b c i):=by
 exact cy 1 Tryz.func131 rfl Tryz.ntmps131 fun hg0 hS=>Ae [] 2 hS fun hS=>Ae [] 2 hS fun hS=>AR (BW hS)
end
section
variable (kl:List KR) (i:Nat)
def AdZ:Con:=Cq [.sk 0,.fn 131 (chain []) (chain [.cp 1 0])] [(0,.sl 86 [.int .i64,.int .i64,.sl (.sl (.int .u8))] kl),(1,M3 i)] (vi (C6 kl (i:Int)))
theorem bG:ConOk Tryz.prog 130 (AdZ kl i):=by
 refine cy 2 Tryz.func130 rfl Tryz.ntmps130 fun hg0 hS=> ?_
 have oI:kl.length≤9223372036854775807:=hS.lens 0 rfl
 refine Ae [] 2 hS fun hS=>Av (Ae [] 2 hS fun hS=>Br (Ar (ι:=Nat) hg0 hS (fun x=>(kl.length-x,[(8,vi ((x:Nat):Int))],[],(x≤kl.length)∧(∀j,j<x→¬(kl.getD j kz).1=(i:Int))∧True)) [0,1,7] [0,1] 2 0 [(0,0),(1,1)] ⟨Ac,(fun j h=>absurd h (Nat.not_lt_zero j)),trivial⟩ ?_))
 rintro x ac gs ws ⟨hx,pm,_⟩ hS
 refine Ae [] 2 hS fun hS=>Av (AB ((x:Int)<((kl.length:Nat):Int)) hS (fun h1=> ?_) (fun h1=> ?_))
 ·refine BE (Ae [] 2 hS fun hS=>Ax [(3,AD x kl.length),(5,AM (eP ((kl.getD x (rz [.int .i64,.int .i64,.sl (.sl (.int .u8))])).1) (((kl.getD x (rz [.int .i64,.int .i64,.sl (.sl (.int .u8))])).2).1) (((kl.getD x (rz [.int .i64,.int .i64,.sl (.sl (.int .u8))])).2).2) i) [(0,1)] [])] [] 2 hS fun hS=>AB (((kl.getD x (rz [.int .i64,.int .i64,.sl (.sl (.int .u8))])).1)=(i:Int)) hS (fun h2=> ?_) (fun h2=> ?_))
  ·exact Ae [] 2 hS fun hS=>AR (Aw (Af (Af (Aw (Af (C0 rfl (.inr rfl) hS [vi (x:Int)] [(0,some (.sl 86 [.int .i64,.int .i64,.sl (.sl (.int .u8))] kl)),(1,some (M3 i))] (by show weak _ (vi (C6 kl (i:Int)))=vi (C6 kl (i:Int));rw[mS Ac pm BF];rfl) ⟨rfl,rfl,trivial⟩))))))
  ·exact G8 (As [(0,BH x)] [8] 2 hS fun hS=>Ab (Al hg0 hS (x+1) [(0,0),(1,1)] ⟨Ac,(A0 pm BF),trivial⟩))
 ·have hT:=hS
  obtain rfl:kl.length=x:=by omega
  have hS:=hT
  exact CO (Ae [] 2 hS fun hS=>AR (C0 rfl (.inr rfl) hS [vi (-1)] [(0,some (.sl 86 [.int .i64,.int .i64,.sl (.sl (.int .u8))] kl)),(1,some (M3 i))] (by show weak _ (vi (C6 kl (i:Int)))=vi (C6 kl (i:Int));rw[mR pm];rfl) ⟨rfl,rfl,trivial⟩))
end
end
end Go.Sx.Tryz
namespace Go.Sx.Tryz
open Go.Mi Go.RowKit Go.Sx Go.Proofs Go.Lib Go.Shelf
noncomputable def NI (kl:List KR) (i j:Nat):Con:=⟨[.sk 0,.v (.int .i64 ((i:Nat):Int)),.v (.int .i64 ((j:Nat):Int))],[(0,.sl 86 [.int .i64,.int .i64,.sl (.sl (.int .u8))] kl)],.sk 1,[(1,.sl 86 [.int .i64,.int .i64,.sl (.sl (.int .u8))] (kl.take i++kl.drop j))]⟩
set_option maxHeartbeats 4000000 in
set_option maxRecDepth 1000000 in
theorem nZ (b cap n i j : Nat) (w : World) (cs : List Value) (hl : cs.length = n * 3) (h1 : ∀ u ∈ cs, u.oneCell' = true) (hc : ∀ t u, cs[t]? = some u → w.cell? ⟨b, t, none⟩ = some u) (hz : ∀ t, t < n * 3 → w.frozen? ⟨b, t, none⟩ = false) (hij : i < j) (hj : j ≤ n) (hcap : n ≤ cap) (hm : cap ≤ 9223372036854775807) :
  Calls Tryz.prog 106 #[.slice (some ⟨b,0,none⟩) n cap,.int .i64 i,.int .i64 j] w fun e w'=>e= .returned (.slice (some ⟨b,0,none⟩) (n-(j-i)) cap)∧w'=(w.drew.setCells b (0+i*3) (cs.drop (j*3))).setCells b ((i+(n-j))*3) (Builtin.zeroCells #[.int .i64 0,.int .i64 0,.slice none 0 0] (n-(i+(n-j)))).toList:=by
 have hi:(Tryz.prog.info? 86).map (·.size)=some 3:=by kernel_rfl
 obtain⟨i0,hi0,hz1⟩:=Option.map_eq_some_iff.1 hi
 have t78:Tryz.prog.underlying 78=some (.slice 86):=by kernel_rfl
 obtain⟨news,hnews⟩:∃news,news=cs.drop (j*3):=⟨_,rfl⟩
 have hlen:news.length=(n-j)*3:=by rw[hnews,List.length_drop,hl];omega
 obtain⟨A,hA,hsrc⟩:∃A:Addr,(if cap=j then some (⟨b,0,none⟩:Addr)else some ⟨b,j*3,none⟩)=some A∧Hid (∀t u,news[t]? =some u→w.drew.cell? (A.add t)=some u):=by
  by_cases h:cap=j
  ·refine⟨⟨b,0,none⟩,by simp [h],fun t u hu=> ?_⟩
   have h0:news.length=0:=by rw[hlen];omega
   rw[List.length_eq_zero_iff.1 h0]at hu
   simp at hu
  ·refine⟨⟨b,j*3,none⟩,by simp [h],fun t u hu=> ?_⟩
   rw[hnews,List.getElem?_drop]at hu
   rw[Addr.add_lit]
   exact hc _ _ hu
 have s1:Hid (news.length=(n-j)*3):=hlen
 have s2:Hid (∀u∈news,u.oneCell'=true):=by
  intro u hu
  rw[hnews]at hu
  exact h1 u (List.mem_of_mem_drop hu)
 have s3:Hid (∀t,t<news.length→(w.drew.cell? ⟨b,0+i*3+t,none⟩).isSome=true∧w.drew.frozen? ⟨b,0+i*3+t,none⟩=false):=by
  intro t ht
  rw[hlen]at ht
  have hlt:0+i*3+t<cs.length:=by rw[hl];omega
  exact⟨by show(w.cell? _).isSome=true;rw[hc _ _ (List.getElem?_eq_getElem hlt)];rfl,hz _ (by omega)⟩
 obtain⟨W1,hW1⟩:∃W1,W1=w.drew.setCells b (0+i*3) news:=⟨_,rfl⟩
 have hW:Hid (W1=w.drew.setCells b (0+i*3) news):=hW1
 have mixed:=mo
 have hic:i≤cap:=by omega
 have hjc:j≤cap:=by omega
 obtain⟨zs,hzs⟩:∃zs:List Value,zs=(Builtin.zeroCells #[.int .i64 0,.int .i64 0,.slice none 0 0] (n-(i+(n-j)))).toList:=⟨_,rfl⟩
 have hcl:∀ty,(Builtin.clear_ #[78] ty #[.slice (some ⟨b,(i+(n-j))*3,none⟩) (n-(i+(n-j))) (cap-(i+(n-j)))]).run Tryz.prog W1= .ok (.tuple #[]) (W1.setCells b ((i+(n-j))*3) zs):=fun ty=>by
  have hzv:∀w,(zeroValue 86).run Tryz.prog w= .ok (.agg #[.int .i64 0,.int .i64 0,.slice none 0 0]) w:=fun w=>rfl
  have hlz:zs.length=(n-(i+(n-j)))*3:=by rw[hzs];simp [Builtin.zeroCells]
  have hz1:∀u∈zs,u.oneCell'=true:=by
   intro u hu
   rw[hzs]at hu
   simp only[Builtin.zeroCells,Array.toList_map,List.mem_map]at hu
   obtain⟨t,_,rfl⟩:=hu
   have :∀r,r<3→(#[Value.int .i64 0,.int .i64 0,.slice none 0 0][r]!).oneCell'=true:=by
    intro r hr
    match r,hr with
    |0,_=>rfl
    |1,_=>rfl
    |2,_=>rfl
   exact this _ (Nat.mod_lt _ (by decide))
  have hst := run_storeCells_cells (P := Tryz.prog) b ((i + (n - j)) * 3) zs 0 W1 (fun t ht => by
    rw[hW1]
    refine World.isSome_setCells b _ _ _ _ ?_
    have hlt:(i+(n-j))*3+0+t<cs.length:=by rw[hl];omega
    show(w.cell? _).isSome=true
    rw[hc _ _ (List.getElem?_eq_getElem hlt)];rfl) (fun t ht=>by
    rw[hW1,World.frozen?_setCells]
    exact hz _ (by omega)) hz1
  obtain⟨m,hm'⟩:∃m,n-(i+(n-j))=m+1:=⟨n-(i+(n-j))-1,by omega⟩
  rw[hm']at hzs⊢
  simp only[Nat.add_zero]at hst
  simp only[Builtin.clear_,Sem.run_bind,run_underlying t78,hzv,Result.andThen_ok,←hzs,hst]
  simp [hst,hzv,run_underlying t78,Value.cells,←hzs]
 have X:Aside (W1.setCells b ((i+(n-j))*3) zs=(w.drew.setCells b (0+i*3) (cs.drop (j*3))).setCells b ((i+(n-j))*3) (Builtin.zeroCells #[.int .i64 0,.int .i64 0,.slice none 0 0] (n-(i+(n-j)))).toList):=by subst hzs;subst hW1;subst hnews;rfl
 clear hW1 hnews hlen hi h1 hc hz hzs
 go_enter Tryz.func106,Tryz.ntmps106
 go_wp2_with fail
 go_region_law_o (refine step_append_room rfl (.tmp 22) (.tmp 25) 78 rfl 86 i0 3 t78 hi0 hz1 b 0 i cap (by simp [Act.eval,Act.put]) A (n-j) (cap-j) news (by simp [Act.eval,Act.put]) s1.out hsrc.out s2.out (by omega) s3.out ?_;rw[←hW.out])
 go_wp2
 go_ret
 exact⟨by rw[show n-(j-i)=i+(n-j) by omega];rfl,X.out⟩
theorem HU {b ty : Nat} {fz : Nat × Nat} : ∀ (vs : List Value) (o : Nat) (w : World) (cur : Array Value), w.heap[b]? = some (.cells cur ty fz) → o + vs.length ≤ cur.size →
  ∃c',(w.setCells b o vs).heap[b]? =some (.cells c' ty fz)∧c'.toList=cur.toList.take o++vs++cur.toList.drop (o+vs.length)
 |[],o,w,cur,h,_=>⟨cur,h,by simp⟩
 |v::vs,o,w,cur,h,hl=>by
  have h1:(w.setCell ⟨b,o,none⟩ v).heap[b]? =some (.cells (cur.setIfInBounds o v) ty fz):=by
   simp [World.setCell,Array.getElem?_modify,h]
  obtain⟨c',k1,k2⟩:=HU vs (o+1) _ _ h1 (by simp at hl⊢;omega)
  refine⟨c',k1,k2.trans ?_⟩
  simp only[List.length_cons]at hl
  have hlt:o<cur.toList.length:=by simp;omega
  rw[Array.toList_setIfInBounds,List.take_succ_eq_append_getElem (by simpa using hlt),List.getElem_set_self,List.take_set_of_le (Nat.le_refl _),List.drop_set_of_lt (by omega)]
  simp [Nat.add_comm,Nat.add_left_comm]
theorem Xl {α:Type} {m:Nat}:∀{ls:List (List α)} (k:Nat),(∀l∈ls,l.length=m)→(ls.drop k).flatten=ls.flatten.drop (k*m)
 |[],k,_=>by simp
 |l::ls,0,_=>by simp
 |l::ls,k+1,h=>by
  have h1:=h l (by simp)
  have h2:=Xl (ls:=ls) k fun x hx=>h x (by simp [hx])
  have h3:(k+1)*m=m+k*m:=by rw[Nat.succ_mul];omega
  rw[List.drop_succ_cons,h2,List.flatten_cons,List.drop_append,h3,h1,show List.drop (m+k*m) l=[]from List.drop_eq_nil_of_le (by omega),List.nil_append,Nat.add_sub_cancel_left]
theorem NP {b:Nat} (vs:List Value) (o:Nat) (w:World):Chp (· =b) w (w.setCells b o vs):=by
 induction vs generalizing o w with
 |nil=>exact Chp.refl _ _
 |cons v vs ih=>
  have h1:Chp (· =b) w (w.setCell ⟨b,o,none⟩ v):=⟨rfl,rfl,rfl,by simp [World.setCell],fun x _ hx=>by
   simp only[World.setCell,Array.getElem?_modify]
   rw[if_neg (fun e=>hx e.symm)]⟩
  exact h1.trans (ih (o+1) _)
theorem bI (kl:List KR) (i j:Nat) (hi:i<j∧j≤kl.length):ConOk Tryz.prog 106 (NI kl i j):=by
 refine⟨⟨⟨_,Tryz.func106,rfl,rfl⟩⟩,fun vs g w hS hN hs=> ?_⟩
 obtain⟨l1,l2,rfl,⟨v0,hv0,rfl,_⟩,l3,l4,rfl,hq1,l5,l6,rfl,hq2,hq3⟩:=hs
 have hq1:l3=[.int .i64 i]:=hq1
 have hq2:l5=[.int .i64 j]:=hq2
 have hq3:l6=[]:=hq3
 subst hq1;subst hq2;subst hq3
 obtain⟨v,ls,k1,k2,k3,k4,k5,k6⟩:=hS.os 0 _ rfl
 rw[k1]at hv0;cases hv0
 rcases k3.2 with⟨rfl,h0⟩|⟨b,cap,cur,rfl,_,hb,hc1,hc2,hcs,hct⟩
 ·have h0:kl.length=0:=h0
  omega
 have hc1:kl.length≤cap:=hc1
 have hrow:=k5.row
 have hlen:ls.length=kl.length:=k5.len.symm
 have hl0:ls.flatten.length=kl.length*3:=k3.1
 have hcs:cur.size=cap*3:=hcs
 have hct:cur.toList.take (kl.length*3)=ls.flatten:=hct
 have hR:=nZ b cap kl.length i j w ls.flatten hl0 k6 (fun t u hu=>by
  rw[cell_of_row w b t cur _ _ hb,←Array.getElem?_toList]
  rw[←hct,List.getElem?_take]at hu
  split at hu
  ·exact hu
  ·cases hu) (fun t ht=>by simp [World.frozen?,hb]) hi.1 hi.2 hc1 hc2
 refine Calls.mono hR ?_
 rintro e w' ⟨rfl,rfl⟩
 obtain⟨zs,hzs⟩:∃zs:List Value,zs=(Builtin.zeroCells #[.int .i64 0,.int .i64 0,.slice none 0 0] (kl.length-(i+(kl.length-j)))).toList:=⟨_,rfl⟩
 have hlz:zs.length=(kl.length-(i+(kl.length-j)))*3:=by rw[hzs];simp [Builtin.zeroCells]
 rw[←hzs]
 have hdl:(ls.flatten.drop (j*3)).length=(kl.length-j)*3:=by rw[List.length_drop,hl0];omega
 obtain⟨c1,a1,a2⟩:=HU (b:=b) (ls.flatten.drop (j*3)) (0+i*3) w.drew cur hb (by rw[hdl,hcs];have :=hi.1;have :=hi.2;omega)
 have hc1s:c1.size=cap*3:=by rw[←Array.length_toList,a2];simp only[List.length_append,List.length_take,List.length_drop,Array.length_toList,hcs,hl0];have :=hi.1;have :=hi.2;omega
 obtain⟨c2,b1,b2⟩:=HU (b:=b) zs ((i+(kl.length-j))*3) _ c1 a1 (by rw[hlz,hc1s];have :=hi.1;have :=hi.2;omega)
 have hc2s:c2.size=cap*3:=by rw[←Array.length_toList,b2];simp only[List.length_append,List.length_take,List.length_drop,Array.length_toList,hc1s,hlz];have :=hi.1;have :=hi.2;omega
 have hch:=(NP (b:=b) (ls.flatten.drop (j*3)) (0+i*3) w.drew).trans (NP zs ((i+(kl.length-j))*3) _)
 have hch0:Chp (· =b) w w.drew:=⟨rfl,rfl,rfl,Nat.le_refl _,fun _ _ _=>rfl⟩
 have hch:=hch0.trans hch
 generalize(w.drew.setCells b (0+i*3) (ls.flatten.drop (j*3))).setCells b ((i+(kl.length-j))*3) zs=w' at b1 hch⊢
 have hbX:g.X b:=hS.own 0 _ rfl b (by rw[k2];simp [Cg])
 let g':G:=⟨fun k=>if k=1 then some (.slice (some ⟨b,0,none⟩) (kl.length-(j-i)) cap)else g.N k,fun k=>if k=1 then[b]else g.F k,g.X⟩
 have hn1:∀k v,g.N k=some v→k≠1:=fun k v h e=>by
  have :=hN k v h;subst e;simp [NI,Ao]at this
 have hgo:Go (fun x=>x=b) g w g' w':=⟨hch,fun x hx=>by rw[hx];exact hbX,fun x hx=> .inl hx,fun x hx _=>hx,fun k v h=>by
  show(if k=1 then _ else _)=_
  rw[if_neg (hn1 k v h)];exact h,fun k v h=>by
  show(if k=1 then _ else _)=_
  rw[if_neg (hn1 k v h)]⟩
 have hfo:∀x,(NI kl i j).foot g x↔x=b:=fun x=>by
  constructor
  ·rintro⟨k,o,h1,h2⟩
   have :k=0:=by
    simp only[NI,DR]at h1
    by_cases e:0=k
    ·exact e.symm
    ·rw[Bc e]at h1;cases h1
   subst this
   rw[k2]at h2;simpa[Cg]using h2
  ·rintro rfl
   exact⟨0,_,rfl,by rw[k2];simp [Cg]⟩
 have hwf:Wf g' w':=fun x hx=>Nat.lt_of_lt_of_le (hS.wf x hx) hch.size
 have hcut:c2.toList.take ((kl.length-(j-i))*3)=(ls.take i++ls.drop j).flatten:=by
  have e1:cur.toList.take (i*3)=ls.flatten.take (i*3):=by
   rw[←hct,List.take_take,Nat.min_eq_left (by have :=hi.1;have :=hi.2;omega)]
  have h3:=hi.1
  have h4:=hi.2
  have hl1:(cur.toList.take (0+i*3)++ls.flatten.drop (j*3)).length=(i+(kl.length-j))*3:=by
   rw[List.length_append,hdl,List.length_take,Array.length_toList,hcs];omega
  have e2:c1.toList.take ((i+(kl.length-j))*3)=cur.toList.take (0+i*3)++ls.flatten.drop (j*3):=by
   rw[a2,List.take_append_of_le_length (by omega),List.take_of_length_le (by omega)]
  rw[b2,e2,List.append_assoc,List.take_append_of_le_length (by omega),List.take_of_length_le (by omega),List.flatten_append,Pv i hrow,Xl j hrow,Nat.zero_add,e1]
  rfl
 have hcon:(kl.take i++kl.drop j).length=kl.length-(j-i):=by simp;omega
 have hos:OS g' w' 1 (.sl 86 [.int .i64,.int .i64,.sl (.sl (.int .u8))] (kl.take i++kl.drop j)):=by
  have key:∀xs:List (RT [.int .i64,.int .i64,.sl (.sl (.int .u8))]),xs.length=kl.length-(j-i)→Fa2 (rS g'.X g'.N w' _) xs (ls.take i++ls.drop j)→OS g' w' 1 (.sl 86 _ xs):=by
   intro xs hx hF
   refine⟨.slice (some ⟨b,0,none⟩) (kl.length-(j-i)) cap,ls.take i++ls.drop j,rfl,rfl,⟨?_,.inr ⟨b,cap,c2,by rw[hx],Nat.zero_le _,b1,by rw[hx];omega,hc2,hc2s,by rw[hx];exact hcut⟩⟩,by rw[hx];omega,hF,?_⟩
   ·rw[hx,Cw (m:=3)]
    ·simp only[List.length_append,List.length_take,List.length_drop,hlen]
     have :=hi.1;have :=hi.2
     show _=_*3
     omega
    ·intro l hl
     rcases List.mem_append.1 hl with h|h
     ·exact hrow l (List.mem_of_mem_take h)
     ·exact hrow l (List.mem_of_mem_drop h)
   ·intro u hu
    rw[List.flatten_append]at hu
    rcases List.mem_append.1 hu with h|h
    ·obtain⟨l,h1,h2⟩:=List.mem_flatten.1 h
     exact k6 u (List.mem_flatten.2 ⟨l,List.mem_of_mem_take h1,h2⟩)
    ·obtain⟨l,h1,h2⟩:=List.mem_flatten.1 h
     exact k6 u (List.mem_flatten.2 ⟨l,List.mem_of_mem_drop h1,h2⟩)
  exact key _ hcon (((k5.take i).append (k5.drop j)).mono (EX hgo.goes _))
 have hone:∀k o,DR (NI kl i j).H1 k=some o→k=1∧o= .sl 86 [.int .i64,.int .i64,.sl (.sl (.int .u8))] (kl.take i++kl.drop j):=fun k o h=>by
  simp only[NI,DR]at h
  by_cases e:1=k
  ·subst e;cases h;exact⟨rfl,rfl⟩
  ·rw[Bc e]at h;cases h
 refine⟨_,rfl,g',hgo.mono (fun x hx=>(hfo x).2 hx) (fun x hx=>by rw[(hfo x).1 hx];exact hbX),⟨_,rfl,rfl,rfl⟩,⟨hwf,?_,?_,?_⟩,?_⟩
 ·intro k o h
  obtain⟨rfl,rfl⟩:=hone k o h
  exact hos
 ·intro k o h x hx
  obtain⟨rfl,rfl⟩:=hone k o h
  have :x∈[b]:=hx
  rw[List.mem_singleton.1 this]
  exact hbX
 ·intro k o k' o' h h' hne
  exact absurd ((hone k o h).1.trans (hone k' o' h').1.symm) hne
 ·intro k o h x hx
  obtain⟨rfl,rfl⟩:=hone k o h
  have :x∈[b]:=hx
  exact .inl ((hfo x).2 (List.mem_singleton.1 this))
end Go.Sx.Tryz
namespace Go.Sx.Tryz
open Go.Mi Go.RowKit Go.Sx Go.Proofs
noncomputable section
section
variable (id:List Int) (fi:Bool) (ok:List Int) (oi:Nat) (ik:List Int) (ii low:Nat) (mx:List (List Int)) (last told:Nat) (kl:List KR) (i:Nat)
def Aae:Con:=Cq [.cp 0 0,vi (i:Int)] [(0,XX id fi false 1 2 low mx last told 3),(1,Aj ok oi),(2,Aj ik ii),(3,.sl 86 [.int .i64,.int .i64,.sl (.sl (.int .u8))] kl)] (vi (C6 kl (i:Int)))
theorem Wt:ConOk Tryz.prog 94 (Aae id fi ok oi ik ii low mx last told kl i):=by
 refine cy 4 Tryz.func94 rfl Tryz.ntmps94 fun hg0 hS=> ?_
 have FT:kl.length≤9223372036854775807:=hS.lens 3 rfl
 exact Ae [] 5 hS fun hS=>Ax [(5,AM (bG kl i) [(0,3),(1,4)] [])] [] 5 hS fun hS=>AR (BW hS)
end
def sP (kl:List KR):Con:=⟨[.ls false [.int .i64,.int .i64,.sl (.sl (.int .u8))] kl],[],.sk 0,[(0,.sl 86 [.int .i64,.int .i64,.sl (.sl (.int .u8))] kl)]⟩
theorem Gi (kl:List KR) (hkl:kl.length≤100000):ConOk Tryz.prog 64 (sP kl):=by
 refine cy 0 Tryz.func64 rfl Tryz.ntmps64 fun hg0 hS=> ?_
 have A7:kl.length≤9223372036854775807:=hS.len 0 rfl
 refine Ae [] 0 hS fun hS=>Il ?_
 rcases hS.nilor 0 [.int .i64,.int .i64,.sl (.sl (.int .u8))] kl with⟨hn1,hS⟩|hS
 ·subst hn1
  refine Dj [] 0 hS fun hS=>Ab (AO hS (Ae [] 0 hS fun hS=>AR (Af ?_)))
  obtain⟨gs,hS⟩:=hS.nilk 2 86 [.int .i64,.int .i64,.sl (.sl (.int .u8))]
  exact BW hS
 ·refine Dj [] 0 hS fun hS=>Ab (Ai hS (BP (Ax [(0,Row),(2,FW 0 kl.length 40)] [] 2 hS fun hS=>AR ?_)))
  obtain⟨gs,hS⟩:=hS.rx [(0,1)] [2] [0] 1 hg0
  exact BW hS
def tH (l:List (List Int)):Con:=⟨[.ls false [.sl (.int .u8)] l],[],.ls false [.sl (.int .u8)] l,[]⟩
theorem iR (l:List (List Int)) (hl:l.length≤100000):ConOk Tryz.prog 63 (tH l):=by
 refine cy 0 Tryz.func63 rfl Tryz.ntmps63 fun hg0 hS=> ?_
 have A7:l.length≤9223372036854775807:=hS.len 0 rfl
 refine Ae [] 0 hS fun hS=>Il ?_
 rcases hS.nilor 0 [.sl (.int .u8)] l with⟨hn1,hS⟩|hS
 ·subst hn1
  exact Dj [] 0 hS fun hS=>Ab (AO hS (Ae [] 0 hS fun hS=>AR (Af (BW hS))))
 ·refine Dj [] 0 hS fun hS=>Ab (Ai hS (BP (Ax [(0,Row),(2,FW 0 l.length 24)] [] 2 hS fun hS=>AR ?_)))
  obtain⟨gs,hS⟩:=hS.fz 1
  exact BW hS
def cK (i to:Nat):Bool:=decide (i≤to∧to≤i+40)
theorem AbB {i to:Nat} (h:cK i to=true):i≤to∧to≤i+40:=of_decide_eq_true h
theorem qU {i to:Nat} (h:cK i to=false) (key:List Int):0<Ft key i to:=by
 have h:=of_decide_eq_false h
 by_cases h1:to<i
 ·rw[Adg h1];decide
 ·rw[qT Ac];decide
section
variable (key:List Int) (i to:Nat)
theorem Xw (hk:key.length=32) (hi:i≤900000000000) (hs:cK i to=true):ConOk Tryz.prog 105 (tD key i to):=yV key i to hk hi (AbB hs)
theorem Xv (hk:key.length=32) (hi:i≤900000000000) (hs:cK i to=false):ConOk Tryz.prog 105 (cS key i to):=qV key i to hk hi (by have :=qU hs key;omega)
end
section
variable (id:List Int) (fi:Bool) (ok:List Int) (oi:Nat) (ik:List Int) (ii low:Nat) (mx:List (List Int)) (last told:Nat) (kl:List KR) (hb:List Int) (hi hn hh:Nat) (hp hx:List Int)
def Gv (id:List Int) (fi:Bool) (ok:List Int) (oi:Nat) (ik:List Int) (ii low:Nat) (mx:List (List Int)) (last told:Nat) (kl:List KR) (hb:List Int) (hi hn hh:Nat) (hp hx:List Int):Bool:=if(hi:Int)<(ii:Int)then(if(C6 kl (hi:Int))<0 then false else(if(hn:Int)<(((kl.getD (Int.toNat (C6 kl (hi:Int))) (rz [.int .i64,.int .i64,.sl (.sl (.int .u8))])).2).1)then false else(if(((((kl.getD (Int.toNat (C6 kl (hi:Int))) (rz [.int .i64,.int .i64,.sl (.sl (.int .u8))])).2).2).length:Nat):Int)≤((hn:Int)-(((kl.getD (Int.toNat (C6 kl (hi:Int))) (rz [.int .i64,.int .i64,.sl (.sl (.int .u8))])).2).1))then false else true)))else(if cK ii hi=true then(if(hn:Int)<(last:Int)then false else(if((low+mx.length-1:Nat):Int)<(hn:Int)then false else true))else false)
def Cf:Bool:=AJ (Gv id fi ok oi ik ii low mx last told kl hb hi hn hh hp hx)
theorem C4:Cf id fi ok oi ik ii low mx last told kl hb hi hn hh hp hx=Gv id fi ok oi ik ii low mx last told kl hb hi hn hh hp hx:=Ag _
def H6 (id:List Int) (fi:Bool) (ok:List Int) (oi:Nat) (ik:List Int) (ii low:Nat) (mx:List (List Int)) (last told:Nat) (kl:List KR) (hb:List Int) (hi hn hh:Nat) (hp hx:List Int):Nat:=if(hi:Int)<(ii:Int)then(if(C6 kl (hi:Int))<0 then 5 else(if(hn:Int)<(((kl.getD (Int.toNat (C6 kl (hi:Int))) (rz [.int .i64,.int .i64,.sl (.sl (.int .u8))])).2).1)then 2 else 2))else(if cK ii hi=true then(if(hn:Int)<(last:Int)then 2 else 2)else(Ft ik ii hi))
def GV:Nat:=AJ (H6 id fi ok oi ik ii low mx last told kl hb hi hn hh hp hx)
theorem L_:GV id fi ok oi ik ii low mx last told kl hb hi hn hh hp hx=H6 id fi ok oi ik ii low mx last told kl hb hi hn hh hp hx:=Ag _
def Hv (id:List Int) (fi:Bool) (ok:List Int) (oi:Nat) (ik:List Int) (ii low:Nat) (mx:List (List Int)) (last told:Nat) (kl:List KR) (hb:List Int) (hi hn hh:Nat) (hp hx:List Int):(List Int):=if(hi:Int)<(ii:Int)then(((kl.getD (Int.toNat (C6 kl (hi:Int))) (rz [.int .i64,.int .i64,.sl (.sl (.int .u8))])).2).2).getD (Int.toNat ((hn:Int)-(((kl.getD (Int.toNat (C6 kl (hi:Int))) (rz [.int .i64,.int .i64,.sl (.sl (.int .u8))])).2).1))) (rz [.sl (.int .u8)])else(AI (Kf (AA ik (hi-ii))) (mx.getD (hn-low) (rz [.sl (.int .u8)])) [109,101,115,115,97,103,101])
def CF:(List Int):=AJ (Hv id fi ok oi ik ii low mx last told kl hb hi hn hh hp hx)
theorem Gh:CF id fi ok oi ik ii low mx last told kl hb hi hn hh hp hx=Hv id fi ok oi ik ii low mx last told kl hb hi hn hh hp hx:=Ag _
def gU (z_:(List Int):=CF id fi ok oi ik ii low mx last told kl hb hi hn hh hp hx):Con:=Cq [.cp 0 0,.ag (chain [lb hb,vi (hi:Int),vi (hn:Int),vi (hh:Int),lb hp,lb hx])] [(0,XX id fi false 1 2 low mx last told 3),(1,Aj ok oi),(2,Aj ik ii),(3,.sl 86 [.int .i64,.int .i64,.sl (.sl (.int .u8))] kl)] (lb z_)
theorem YD (hok:ok.length=32) (hik:ik.length=32) (hoi:oi≤100000000000) (hii:ii≤100000000000) (hm1:1≤mx.length∧mx.length≤100000) (hm2:∀j,(mx.getD j (rz [.sl (.int .u8)])).length≤32) (hlow:low≤100000000000) (hK:Of kl) (hll:low≤last∧last≤100000000000) (hhn:hn≤10000000000∧hi≤10000000000) (hk:Cf id fi ok oi ik ii low mx last told kl hb hi hn hh hp hx=true):ConOk Tryz.prog 70 (gU id fi ok oi ik ii low mx last told kl hb hi hn hh hp hx):=by
 refine cy 4 Tryz.func70 rfl Tryz.ntmps70 fun hg0 hS=> ?_
 have FT:kl.length≤9223372036854775807:=hS.lens 3 rfl
 refine Ae [] 5 hS fun hS=>Av (Ax [(6,AM (CU ik ii) [(0,2)] [])] [] 5 hS fun hS=>AB ((hi:Int)<(ii:Int)) hS (fun h1=> ?_) (fun h1=> ?_))
 ·refine Ax [(3,AM (Wt id fi ok oi ik ii low mx last told kl hi) [(0,0),(1,1),(2,2),(3,3)] [])] [] 5 hS fun hS=>Av (Ae [] 5 hS fun hS=>AB ((C6 kl (hi:Int))<0) hS (fun h2=> ?_) (fun h2=> ?_))
  ·have hK:Cf id fi ok oi ik ii low mx last told kl hb hi hn hh hp hx=false:=(C4 id fi ok oi ik ii low mx last told kl hb hi hn hh hp hx).trans ((if_pos h1).trans (if_pos h2))
   rw[hK]at hk
   cases hk
  ·refine DU ?_
   have hpl:=Yw (l:=kl) (i:=(hi:Int)) BF
   have hkr:=hK.2 (C6 kl (hi:Int)).toNat Ac
   have hkf:0≤(kl.getD (Int.toNat (C6 kl (hi:Int))) (rz [.int .i64,.int .i64,.sl (.sl (.int .u8))])).2.1∧(kl.getD (Int.toNat (C6 kl (hi:Int))) (rz [.int .i64,.int .i64,.sl (.sl (.int .u8))])).2.1≤1000000000000:=hkr.2.1
   have hkq:(kl.getD (Int.toNat (C6 kl (hi:Int))) (rz [.int .i64,.int .i64,.sl (.sl (.int .u8))])).2.2.length≤100000:=hkr.2.2.1
   refine As [(5,XZ (C6 kl (hi:Int)) kl.length)] [6] 6 hS fun hS=>Ej (Av ?_)
   by_cases h3:(hn:Int)<(((kl.getD (Int.toNat (C6 kl (hi:Int))) (rz [.int .i64,.int .i64,.sl (.sl (.int .u8))])).2).1)
   ·refine As [(4,GG h3)] [] 6 hS fun hS=>Ab (AO hS ?_)
    have hK:Cf id fi ok oi ik ii low mx last told kl hb hi hn hh hp hx=false:=(C4 id fi ok oi ik ii low mx last told kl hb hi hn hh hp hx).trans ((if_pos h1).trans ((if_neg h2).trans (if_pos h3)))
    rw[hK]at hk
    cases hk
   ·refine As [(4,DC h3),(10,ZH (hn:Int) (((kl.getD (Int.toNat (C6 kl (hi:Int))) (rz [.int .i64,.int .i64,.sl (.sl (.int .u8))])).2).1))] [] 6 hS fun hS=>Ab (AB ((((((kl.getD (Int.toNat (C6 kl (hi:Int))) (rz [.int .i64,.int .i64,.sl (.sl (.int .u8))])).2).2).length:Nat):Int)≤((hn:Int)-(((kl.getD (Int.toNat (C6 kl (hi:Int))) (rz [.int .i64,.int .i64,.sl (.sl (.int .u8))])).2).1))) hS (fun h4=> ?_) (fun h4=> ?_))
    ·have hK:Cf id fi ok oi ik ii low mx last told kl hb hi hn hh hp hx=false:=(C4 id fi ok oi ik ii low mx last told kl hb hi hn hh hp hx).trans ((if_pos h1).trans ((if_neg h2).trans ((if_neg h3).trans (if_pos h4))))
     rw[hK]at hk
     cases hk
    ·exact BP (Ax [(6,ZH (hn:Int) (((kl.getD (Int.toNat (C6 kl (hi:Int))) (rz [.int .i64,.int .i64,.sl (.sl (.int .u8))])).2).1)),(7,XZ ((hn:Int)-(((kl.getD (Int.toNat (C6 kl (hi:Int))) (rz [.int .i64,.int .i64,.sl (.sl (.int .u8))])).2).1)) ((((kl.getD (Int.toNat (C6 kl (hi:Int))) (rz [.int .i64,.int .i64,.sl (.sl (.int .u8))])).2).2).length))] [] 6 hS fun hS=>AR (Af (Bi (.trans (Gh ..) (if_pos h1)) hS)))
 ·refine DU ?_
  by_cases h5:cK ii hi=true
  ·refine As [(6,AM (Xw ik ii hi AE Ac h5) [(0,2)] [])] [] 5 hS fun hS=>Ab (Ax [(1,AP (Mf))] [] 5 hS fun hS=>Il ?_)
   by_cases h6:(hn:Int)<(last:Int)
   ·refine As [(6,GG h6)] [] 5 hS fun hS=>Ab (AO hS ?_)
    have hK:Cf id fi ok oi ik ii low mx last told kl hb hi hn hh hp hx=false:=(C4 id fi ok oi ik ii low mx last told kl hb hi hn hh hp hx).trans ((if_neg h1).trans ((if_pos h5).trans (if_pos h6)))
    rw[hK]at hk
    cases hk
   ·refine As [(6,DC h6),(11,IB (DF low mx M7 Ac) [0,1] [.im (chain [.top,.top,.top,.im (chain []) 0,.top,.top,vi (low:Int),.ls false [.sl (.int .u8)] mx,.top,.top,.top]) 0])] [] 5 hS fun hS=>Ab (AB (((low+mx.length-1:Nat):Int)<(hn:Int)) hS (fun h7=> ?_) (fun h7=> ?_))
    ·have hK:Cf id fi ok oi ik ii low mx last told kl hb hi hn hh hp hx=false:=(C4 id fi ok oi ik ii low mx last told kl hb hi hn hh hp hx).trans ((if_neg h1).trans ((if_pos h5).trans ((if_neg h6).trans (if_pos h7))))
     rw[hK]at hk
     cases hk
    ·exact BP (Ax [(4,AM (VU id fi ok oi ik ii low mx last told kl (Kf (AA ik (hi-ii))) hn M7 (by first |assumption|(intro j;simp<;>omega)) Ac AE Ac) [(0,0),(1,1),(2,2),(3,3)] [])] [] 5 hS fun hS=>AR (Bi (.trans (Gh ..) (if_neg h1)) hS))
  ·refine As [(6,AM (Xv ik ii hi AE Ac (Eu h5)) [(0,2)] [])] [] 5 hS fun hS=>Ej ?_
   have hcm:=qU (Eu h5) ik
   have hK:Cf id fi ok oi ik ii low mx last told kl hb hi hn hh hp hx=false:=(C4 id fi ok oi ik ii low mx last told kl hb hi hn hh hp hx).trans ((if_neg h1).trans (if_neg h5))
   rw[hK]at hk
   cases hk
end
end
end Go.Sx.Tryz
namespace Go.Sx.Tryz
open Go.Mi Go.RowKit Go.Sx Go.Proofs
noncomputable section
theorem VX (key z:List Int):∀(n j:Nat),j<n→(FM key n).getD j z=Kf (AA key j)
 |0,j,h=>absurd h (Nat.not_lt_zero _)
 |n+1,j,h=>by
  rw[FM,List.getD_eq_getElem?_getD]
  by_cases e:j<n
  ·rw[List.getElem?_append_left (by rw[FZ];exact e),←List.getD_eq_getElem?_getD];exact VX key z n j e
  ·have :j=n:=by omega
   subst this
   rw[List.getElem?_append_right (by rw[FZ];exact Nat.le_refl _),FZ,Nat.sub_self];rfl
theorem Z4 (key:List Int) {n j:Nat} (h:j<n):(FM key n).getD j (rz [.sl (.int .u8)])=Kf (AA key j):=VX key _ n j h
theorem Sf {key:List Int} {n j:Nat} (h:j<n):((FM key n).getD j (rz [.sl (.int .u8)])).length=32:=(congrArg List.length (Z4 key h)).trans (w7 _)
def Ts (ik:List Int) (ii low:Nat) (mx:List (List Int)) (hi x53 k2:Nat):(Nat×(List (List Int)))→(Nat×(List (List Int))):=fun(x11,o8)=>(x11+1,o8++[(AI ((FM ik (hi-ii)).getD x53 (rz [.sl (.int .u8)])) (mx.getD (x11-low) (rz [.sl (.int .u8)])) [109,101,115,115,97,103,101])])
section
variable (id:List Int) (fi:Bool) (ok:List Int) (oi:Nat) (ik:List Int) (ii low:Nat) (mx:List (List Int)) (last told:Nat) (kl:List KR) (hb:List Int) (hi hn hh:Nat) (hp hx:List Int)
def Ec (id:List Int) (fi:Bool) (ok:List Int) (oi:Nat) (ik:List Int) (ii low:Nat) (mx:List (List Int)) (last told:Nat) (kl:List KR) (hb:List Int) (hi hn hh:Nat) (hp hx:List Int) (x53:Nat) (o6:List (Int×Int×(List (List Int)))):Nat→Nat×(List (List Int))
 |0=>(last,[])
 |k2+1=>Ts ik ii low mx hi x53 k2 (Ec id fi ok oi ik ii low mx last told kl hb hi hn hh hp hx x53 o6 k2)
def Fu (id:List Int) (fi:Bool) (ok:List Int) (oi:Nat) (ik:List Int) (ii low:Nat) (mx:List (List Int)) (last told:Nat) (kl:List KR) (hb:List Int) (hi hn hh:Nat) (hp hx:List Int) (x53:Nat) (o6:List (Int×Int×(List (List Int)))):(Nat×(List (List Int)))→Prop:=fun(x11,o8)=>((x11:Nat):Int)≤(hn:Int)
def JY (x53:Nat):(List (Int×Int×(List (List Int))))→(List (Int×Int×(List (List Int)))):=fun o6=>o6++[(((ii+x53:Nat):Int),(last:Int),(Ec id fi ok oi ik ii low mx last told kl hb hi hn hh hp hx x53 o6 (CS fun j=>Fu id fi ok oi ik ii low mx last told kl hb hi hn hh hp hx x53 o6 (Ec id fi ok oi ik ii low mx last told kl hb hi hn hh hp hx x53 o6 j))).2)]
def Cl (id:List Int) (fi:Bool) (ok:List Int) (oi:Nat) (ik:List Int) (ii low:Nat) (mx:List (List Int)) (last told:Nat) (kl:List KR) (hb:List Int) (hi hn hh:Nat) (hp hx:List Int):Nat→(List (Int×Int×(List (List Int))))
 |0=>kl
 |x53+1=>JY id fi ok oi ik ii low mx last told kl hb hi hn hh hp hx x53 (Cl id fi ok oi ik ii low mx last told kl hb hi hn hh hp hx x53)
def Rl:Nat×(List (Int×Int×(List (List Int))))×(List Int)×Nat:=if(hi:Int)<(ii:Int)then(last,kl.take ((C6 kl (hi:Int)).toNat)++kl.drop (((C6 kl (hi:Int)).toNat)+1),ik,ii)else(hn,(Cl id fi ok oi ik ii low mx last told kl hb hi hn hh hp hx ((FM ik (hi-ii)).length)).drop (Int.toNat (max ((((Cl id fi ok oi ik ii low mx last told kl hb hi hn hh hp hx ((FM ik (hi-ii)).length)).length:Nat):Int)-60) 0)),Oa (AA ik (hi-ii)),(hi+1))
def Ip:Nat×(List (Int×Int×(List (List Int))))×(List Int)×Nat:=AJ (Rl id fi ok oi ik ii low mx last told kl hb hi hn hh hp hx)
theorem Rm:Ip id fi ok oi ik ii low mx last told kl hb hi hn hh hp hx=Rl id fi ok oi ik ii low mx last told kl hb hi hn hh hp hx:=Ag _
def Aeb (z_:Nat×(List (Int×Int×(List (List Int))))×(List Int)×Nat:=Ip id fi ok oi ik ii low mx last told kl hb hi hn hh hp hx):Con:=⟨[.cp 0 0,.ag (chain [lb hb,vi (hi:Int),vi (hn:Int),vi (hh:Int),lb hp,lb hx])],[(0,XX id fi false 1 2 low mx last told 3),(1,Aj ok oi),(2,Aj ik ii),(3,.sl 86 [.int .i64,.int .i64,.sl (.sl (.int .u8))] kl)],.tu (chain []),[(0,XX id fi false 1 2 low mx z_.1 told 4),(1,Aj ok oi),(2,Aj (z_.2.2.1) z_.2.2.2),(4,.sl 86 [.int .i64,.int .i64,.sl (.sl (.int .u8))] (z_.2.1))]⟩
theorem yZ (hok:ok.length=32) (hik:ik.length=32) (hoi:oi≤100000000000) (hii:ii≤100000000000) (hm1:1≤mx.length∧mx.length≤100000) (hm2:∀j,(mx.getD j (rz [.sl (.int .u8)])).length≤32) (hlow:low≤100000000000) (hK:Of kl) (hll:low≤last∧last≤100000000000) (hhn:hn≤10000000000∧hi≤10000000000) (hc:(hi<ii∧0≤C6 kl (hi:Int))∨(ii≤hi∧hi≤ii+40∧last≤hn∧hn+1≤low+mx.length)):ConOk Tryz.prog 72 (Aeb id fi ok oi ik ii low mx last told kl hb hi hn hh hp hx):=by
 refine cy 4 Tryz.func72 rfl Tryz.ntmps72 fun hg0 hS=> ?_
 have FT:kl.length≤9223372036854775807:=hS.lens 3 rfl
 refine Ae [] 5 hS fun hS=>Av (Ax [(6,AM (CU ik ii) [(0,2)] [])] [] 5 hS fun hS=>AB ((hi:Int)<(ii:Int)) hS (fun h1=> ?_) (fun h1=> ?_))
 ·refine Av ?_
  have hpg:=Nq (l:=kl) (hi:Int)
  have hkl:=hK.1
  refine As [(3,AM (Wt id fi ok oi ik ii low mx last told kl hi) [(0,0),(1,1),(2,2),(3,3)] []),(4,RN ((((C6 kl (hi:Int)).toNat):Nat):Int) [(C6 kl (hi:Int))=((((C6 kl (hi:Int)).toNat):Nat):Int)] ⟨by omega,trivial⟩)] [] 5 hS fun hS=>Ej ?_
  have hpg:=Nq (l:=kl) (hi:Int)
  have hkl:=hK.1
  obtain⟨gs,hS⟩:=hS.fz 3
  refine As [(5,AM (Gi kl AE) [] [(0,5)]),(8,Ek ((C6 kl (hi:Int)).toNat) 1 (((C6 kl (hi:Int)).toNat)+1)),(9,AM (bI kl ((C6 kl (hi:Int)).toNat) (((C6 kl (hi:Int)).toNat)+1) Ac) [(0,5)] [(1,6)])] [] 7 hS fun hS=>DX (Af ?_)
  obtain⟨gs,hS⟩:=hS.rx [(0,0),(1,1),(2,2),(3,3),(4,6)] [] [0,1,2,4] 5 hg0
  exact Bi (.trans (Rm ..) (if_pos h1)) hS
 ·refine BP (Ax [(4,AM (CU ik ii) [(0,2)] [])] [] 5 hS fun hS=>Ax [(6,AM (Rc ik ii hi AE Ac Ac) [(0,2)] [(1,5)])] [] 6 hS fun hS=>Il ?_)
  obtain⟨gs,hS⟩:=hS.alias 3
  have hpg:=Nq (l:=kl) (hi:Int)
  have hkl:=hK.1
  have hsl:=FZ ik (hi-ii)
  refine Dj [51] 7 hS fun hS=>Ab (Br (Ar (ι:=Nat×(List (Int×Int×(List (List Int))))) hg0 hS (fun(x53,o6)=>((FM ik (hi-ii)).length-x53,[(53,vi ((x53:Nat):Int))],[(6,.sl 86 [.int .i64,.int .i64,.sl (.sl (.int .u8))] o6)],(x53≤(FM ik (hi-ii)).length)∧(o6=Cl id fi ok oi ik ii low mx last told kl hb hi hn hh hp hx x53)∧(o6.length≤kl.length+x53)∧True)) [0,3,5,51,52] [0,1,2,4,5] 7 (0,kl) [(0,0),(1,1),(2,2),(3,3),(4,4),(5,5),(6,6)] ⟨Ac,rfl,Ac,trivial⟩ ?_))
  rintro⟨x53,o6⟩ ac gs ws ⟨hx53,hq1,p1,_⟩ hS
  refine Ae [] 7 hS fun hS=>Av (AB ((x53:Int)<(((FM ik (hi-ii)).length:Nat):Int)) hS (fun h2=> ?_) (fun h2=> ?_))
  ·refine BE (Ax [(1,AD x53 ((FM ik (hi-ii)).length))] [] 7 hS fun hS=>Ax [(2,Ek ii x53 (ii+x53))] [10] 8 hS fun hS=>Il ?_)
   obtain⟨gs,hS⟩:=hS.nilob 7 2 22 [.sl (.int .u8)]
   refine Dj [] 9 hS fun hS=>Ab (Br (Ar (ι:=Nat×Nat×(List (List Int))) hg0 hS (fun(k2,x11,o8)=>(hn+1-x11,[(11,vi (x11:Int))],[(8,.sl 22 [.sl (.int .u8)] o8)],((x11,o8)=Ec id fi ok oi ik ii low mx last told kl hb hi hn hh hp hx x53 o6 k2)∧(∀j,j<k2→Fu id fi ok oi ik ii low mx last told kl hb hi hn hh hp hx x53 o6 (Ec id fi ok oi ik ii low mx last told kl hb hi hn hh hp hx x53 o6 j))∧(last≤x11∧x11≤hn+1)∧(o8.length+last=x11)∧True)) [0,3,5,9,10,51,52,53] [0,1,2,4,5,6,7] 9 (0,last,[]) [(0,0),(1,1),(2,2),(3,3),(4,4),(5,5),(6,6),(7,7),(8,8)] ⟨rfl,(fun j h=>absurd h (Nat.not_lt_zero j)),Ac,(by simp),trivial⟩ ?_))
   rintro⟨k2,x11,o8⟩ ac gs ws ⟨hq2,hj2,p2,p3,_⟩ hS
   refine Av (Ae [] 9 hS fun hS=>AB ((x11:Int)≤(hn:Int)) hS (fun h3=> ?_) (fun h3=> ?_))
   ·refine BE ?_
    have hsk:=Sf (key:=ik) (n:=hi-ii) (j:=x53) Ac
    exact As [(5,AM (VU id fi ok oi (AA ik (hi-ii)) hi low mx last told o6 ((FM ik (hi-ii)).getD x53 (rz [.sl (.int .u8)])) x11 M7 (by first |assumption|(intro j;simp<;>omega)) Ac AE Ac) [(0,0),(1,1),(2,2),(3,6)] []),(7,FW o8.length 1 24 (by(first |omega|(simp only[List.length_cons,List.length_nil];omega))))] [] 10 hS fun hS=>BV (As [(1,BH x11)] [11] 10 hS fun hS=>Ab (Al hg0 hS (k2+1,x11+1,o8++[(AI ((FM ik (hi-ii)).getD x53 (rz [.sl (.int .u8)])) (mx.getD (x11-low) (rz [.sl (.int .u8)])) [109,101,115,115,97,103,101])]) [(0,0),(1,1),(2,2),(3,3),(4,4),(5,5),(6,6),(7,7),(8,9)] ⟨(A3 (st:=Ts _ _ _ _ _ _) hq2 rfl rfl),(A0 hj2 (by rw[←hq2];exact h3)),Ac,(by rw[List.length_append,List.length_cons,List.length_nil];omega),trivial⟩))
   ·have hT:=hS
    obtain rfl:=BK (by rw[←hq2];first |exact h3|exact not_not_intro h3) hj2
    obtain⟨rfl,rfl⟩:=Ug hq2
    have hS:=hT
    refine CO ?_
    obtain⟨gs,hS⟩:=hS.fz 8
    exact As [(7,FW o6.length 1 40 (by(first |omega|(simp only[List.length_cons,List.length_nil];omega))))] [] 10 hS fun hS=>BV (As [(0,BH x53)] [53] 10 hS fun hS=>Ab (Al hg0 hS (x53+1,o6++[(((ii+x53:Nat):Int),(last:Int),(Ec id fi ok oi ik ii low mx last told kl hb hi hn hh hp hx x53 o6 (CS fun j=>Fu id fi ok oi ik ii low mx last told kl hb hi hn hh hp hx x53 o6 (Ec id fi ok oi ik ii low mx last told kl hb hi hn hh hp hx x53 o6 j))).2)]) [(0,0),(1,1),(2,2),(3,3),(4,4),(5,5),(6,9)] ⟨Ac,(A3 (st:=JY _ _ _ _ _ _ _ _ _ _ _ _ _ _ _ _ _) hq1 rfl rfl),(by rw[List.length_append,List.length_cons,List.length_nil];omega),trivial⟩))
  ·have hT:=hS
   obtain rfl:(FM ik (hi-ii)).length=x53:=by omega
   obtain rfl:=hq1.symm
   have hS:=hT
   refine ML ?_
   obtain⟨gs,hS⟩:=hS.fz 6
   refine As [(10,ZH (((Cl id fi ok oi ik ii low mx last told kl hb hi hn hh hp hx ((FM ik (hi-ii)).length)).length:Nat):Int) 60),(11,RN (max ((((Cl id fi ok oi ik ii low mx last told kl hb hi hn hh hp hx ((FM ik (hi-ii)).length)).length:Nat):Int)-60) 0) [(if 0>((((Cl id fi ok oi ik ii low mx last told kl hb hi hn hh hp hx ((FM ik (hi-ii)).length)).length:Nat):Int)-60)then 0 else((((Cl id fi ok oi ik ii low mx last told kl hb hi hn hh hp hx ((FM ik (hi-ii)).length)).length:Nat):Int)-60))=(max ((((Cl id fi ok oi ik ii low mx last told kl hb hi hn hh hp hx ((FM ik (hi-ii)).length)).length:Nat):Int)-60) 0)] ⟨by split<;>omega,trivial⟩),(12,O1 (E8 (some (max ((((Cl id fi ok oi ik ii low mx last told kl hb hi hn hh hp hx ((FM ik (hi-ii)).length)).length:Nat):Int)-60) 0)) none none (Cl id fi ok oi ik ii low mx last told kl hb hi hn hh hp hx ((FM ik (hi-ii)).length)).length (Cl id fi ok oi ik ii low mx last told kl hb hi hn hh hp hx ((FM ik (hi-ii)).length)).length) ⟨by simp only[F3]<;>omega,by simp only[F3]<;>omega,by simp only[F3]<;>omega,by simp,by simp only[bl]<;>omega,by simp only[bl]<;>omega,by simp only[bl]<;>omega⟩),(13,AM (Gi ((Cl id fi ok oi ik ii low mx last told kl hb hi hn hh hp hx ((FM ik (hi-ii)).length)).drop (Int.toNat (max ((((Cl id fi ok oi ik ii low mx last told kl hb hi hn hh hp hx ((FM ik (hi-ii)).length)).length:Nat):Int)-60) 0))) AE) [] [(0,7)])] [] 8 hS fun hS=>Ej ?_
   have hnl:=Du hik (hi-ii)
   refine As [(4,AM (HI (AA ik (hi-ii)) hi AE Ac) [(0,2)] [])] [] 8 hS fun hS=>Ab (Dj [] 8 hS fun hS=> ?_)
   obtain⟨gs,hS⟩:=hS.rx [(0,0),(1,1),(2,2),(3,3),(4,7)] [] [0,1,2,4] 5 hg0
   exact fqN (.trans (Rm ..) (if_neg h1)) hS
end
end
end Go.Sx.Tryz
namespace Go.Sx.Tryz
open Go.Mi Go.RowKit Go.Sx Go.Proofs
noncomputable section
theorem TM {xs:List Int} (h:Eg xs=true):(Ad xs).1.toNat≤2147483648:=by
 rw[On]at h
 unfold Om at h
 split at h
 ·split at h
  ·cases h
  ·omega
 ·cases h
theorem Acl {xs ba bb:List Int} (h:Iu xs ba bb=true):(C7 xs ba bb).2.1≤2147483648∧(C7 xs ba bb).2.2.1≤2147483648∧(C7 xs ba bb).2.2.2.1≤2147483648∧(C7 xs ba bb).2.2.2.2.length≤xs.length:=by
 rw[KL]at h
 unfold Qi at h
 have h3:=CZ xs
 have h4:=(AW (Ad (Ad (Ad xs).2).2).2).2
 rw[Wx]
 split at h
 ·split at h
  ·split at h
   ·refine⟨TM BF,TM BF,TM BF,?_⟩
    show(List.take _ _).length≤_
    rw[List.length_take]
    omega
   ·cases h
  ·cases h
 ·cases h
theorem Ab8 {xs ba bb:List Int} (h:Ka xs ba bb=true):(E9 xs ba bb).1≤2147483648∧(E9 xs ba bb).2.1≤2147483648∧(E9 xs ba bb).2.2.1≤2147483648∧(E9 xs ba bb).2.2.2.length≤xs.length:=by
 rw[Qa]at h
 unfold P_ at h
 rw[aK]
 split at h
 ·exact Acl BF
 ·cases h
theorem CE {xs:List Int} (h:CG xs=true):(Aa xs).1.length≤xs.length∧(Aa xs).2.1≤2147483648∧(Aa xs).2.2.1≤2147483648∧(Aa xs).2.2.2.1≤2147483648∧(Aa xs).2.2.2.2.1.length≤xs.length∧(Aa xs).2.2.2.2.2.length≤xs.length:=by
 have h1:=AW xs
 have h2:=AW ((Ad xs).2.drop (Ad xs).1.toNat)
 rw[List.length_drop]at h2
 rw[Gg]at h
 unfold Ht at h
 rw[L6]
 split at h
 ·split at h
  ·rename_i _ hr
   obtain⟨k1,k2,k3,k4⟩:=Ab8 hr
   rw[List.length_take]at k4
   refine⟨?_,k1,k2,k3,?_,?_⟩
   ·show(List.take _ _).length≤_;rw[List.length_take];omega
   ·show(E9 _ _ _).2.2.2.length≤_;omega
   ·show(List.take _ _).length≤_;rw[List.length_take];omega
  ·cases h
 ·cases h
theorem AeZ {l:List (List Int)} {i:Nat} {z:List Int} (h:∀k∈l,k.length=32) (hi:i<l.length):(l.getD i z).length=32:=by
 rw[List.getD_eq_getElem?_getD,List.getElem?_eq_getElem hi]
 exact h _ (List.getElem_mem hi)
theorem KO {id:List Int} {fi:Bool} {ok:List Int} {oi:Nat} {ik:List Int} {ii:Nat} {low:Nat} {mx:List (List Int)} {last:Nat} {told:Nat} {kl:List KR} {hb:List Int} {hi:Nat} {hn:Nat} {hh:Nat} {hp:List Int} {hx:List Int} (h:Cf id fi ok oi ik ii low mx last told kl hb hi hn hh hp hx=true) (hm:1≤mx.length) (hK:Of kl):((hi<ii∧0≤C6 kl (hi:Int))∨(ii≤hi∧hi≤ii+40∧last≤hn∧hn+1≤low+mx.length))∧(CF id fi ok oi ik ii low mx last told kl hb hi hn hh hp hx).length=32:=by
 rw[C4]at h
 unfold Gv at h
 rw[Gh]
 unfold Hv
 by_cases h1:(hi:Int)<(ii:Int)
 ·rw[if_pos h1]at h⊢
  by_cases h2:C6 kl (hi:Int)<0
  ·rw[if_pos h2]at h;cases h
  ·rw[if_neg h2]at h
   refine⟨.inl ⟨by omega,by omega⟩,?_⟩
   split at h
   ·cases h
   ·split at h
    ·cases h
    ·rename_i h3 h4
     have hpl:=Yw (l:=kl) h2
     have hkr:=hK.2 (C6 kl (hi:Int)).toNat Ac
     exact AeZ hkr.2.2.2 Ac
 ·rw[if_neg h1]at h⊢
  split at h
  ·rename_i h2
   have h3:=AbB h2
   refine⟨.inr ⟨h3.1,h3.2,?_⟩,E6 ..⟩
   split at h
   ·cases h
   ·split at h
    ·cases h
    ·omega
  ·cases h
def cP (n:Nat):Con:=⟨[vi (n:Int)],[],.tu (chain []),[]⟩
theorem nM (n:Nat) (hn:n=0):ConOk Tryz.prog 71 (cP n):=by
 refine cy 0 Tryz.func71 rfl Tryz.ntmps71 fun hg0 hS=> ?_
 have hn0:(n:Int)=0:=Ac
 exact Ax [(1,GH hn0)] [] 0 hS fun hS=>Ai hS (cnb (fiN hS))
def uH (n:Nat):Bool:=Nat.beq n 0
theorem AeY {n:Nat} (h:uH n=true):n=0:=Nat.eq_of_beq_eq_true h
theorem Qy (n:Nat) (hs:uH n=true):ConOk Tryz.prog 71 (cP n):=nM n (AeY hs)
section
variable (id:List Int) (fi:Bool) (ok:List Int) (oi:Nat) (ik:List Int) (ii low:Nat) (mx:List (List Int)) (last told:Nat) (kl:List KR) (xs:List Int)
def TE (rand:List Int):Bool:=if CG xs=true then(if Cf id fi ok oi ik ii low mx last told kl ((Aa xs).1) ((Aa xs).2.1) ((Aa xs).2.2.1) ((Aa xs).2.2.2.1) ((Aa xs).2.2.2.2.1) ((Aa xs).2.2.2.2.2)=true then(if uH ((Da (CF id fi ok oi ik ii low mx last told kl ((Aa xs).1) ((Aa xs).2.1) ((Aa xs).2.2.1) ((Aa xs).2.2.2.1) ((Aa xs).2.2.2.2.1) ((Aa xs).2.2.2.2.2)) (List.replicate 12 (0:Int)) ((Aa xs).1) ((Aa xs).2.2.2.2.2)).2)=true then true else false)else false)else false
def IK (rand:List Int):Bool:=AJ (TE id fi ok oi ik ii low mx last told kl xs rand)
theorem Oi (rand:List Int):IK id fi ok oi ik ii low mx last told kl xs rand=TE id fi ok oi ik ii low mx last told kl xs rand:=Ag _
def Nf (rand:List Int):Nat:=if CG xs=true then(if Cf id fi ok oi ik ii low mx last told kl ((Aa xs).1) ((Aa xs).2.1) ((Aa xs).2.2.1) ((Aa xs).2.2.2.1) ((Aa xs).2.2.2.2.1) ((Aa xs).2.2.2.2.2)=true then((Da (CF id fi ok oi ik ii low mx last told kl ((Aa xs).1) ((Aa xs).2.1) ((Aa xs).2.2.1) ((Aa xs).2.2.2.1) ((Aa xs).2.2.2.2.1) ((Aa xs).2.2.2.2.2)) (List.replicate 12 (0:Int)) ((Aa xs).1) ((Aa xs).2.2.2.2.2)).2)else(GV id fi ok oi ik ii low mx last told kl ((Aa xs).1) ((Aa xs).2.1) ((Aa xs).2.2.1) ((Aa xs).2.2.2.1) ((Aa xs).2.2.2.2.1) ((Aa xs).2.2.2.2.2)))else(YA xs)
def VJ (rand:List Int):Nat:=AJ (Nf id fi ok oi ik ii low mx last told kl xs rand)
theorem dN (rand:List Int):VJ id fi ok oi ik ii low mx last told kl xs rand=Nf id fi ok oi ik ii low mx last told kl xs rand:=Ag _
def X_ (rand:List Int):Nat×Nat×(List (Int×Int×(List (List Int))))×(List Int)×Nat×(List Int)×Nat:=(((Ip id fi ok oi ik ii low mx last told kl ((Aa xs).1) ((Aa xs).2.1) ((Aa xs).2.2.1) ((Aa xs).2.2.2.1) ((Aa xs).2.2.2.2.1) ((Aa xs).2.2.2.2.2)).1),(max told ((Aa xs).2.2.2.1)),(Ip id fi ok oi ik ii low mx last told kl ((Aa xs).1) ((Aa xs).2.1) ((Aa xs).2.2.1) ((Aa xs).2.2.2.1) ((Aa xs).2.2.2.2.1) ((Aa xs).2.2.2.2.2)).2.1,(Ip id fi ok oi ik ii low mx last told kl ((Aa xs).1) ((Aa xs).2.1) ((Aa xs).2.2.1) ((Aa xs).2.2.2.1) ((Aa xs).2.2.2.2.1) ((Aa xs).2.2.2.2.2)).2.2.1,((Ip id fi ok oi ik ii low mx last told kl ((Aa xs).1) ((Aa xs).2.1) ((Aa xs).2.2.1) ((Aa xs).2.2.2.1) ((Aa xs).2.2.2.2.1) ((Aa xs).2.2.2.2.2)).2.2.2),(Da (CF id fi ok oi ik ii low mx last told kl ((Aa xs).1) ((Aa xs).2.1) ((Aa xs).2.2.1) ((Aa xs).2.2.2.1) ((Aa xs).2.2.2.2.1) ((Aa xs).2.2.2.2.2)) (List.replicate 12 (0:Int)) ((Aa xs).1) ((Aa xs).2.2.2.2.2)).1,((Aa xs).2.1))
def Bj (rand:List Int):Nat×Nat×(List (Int×Int×(List (List Int))))×(List Int)×Nat×(List Int)×Nat:=AJ (X_ id fi ok oi ik ii low mx last told kl xs rand)
theorem jZ (rand:List Int):Bj id fi ok oi ik ii low mx last told kl xs rand=X_ id fi ok oi ik ii low mx last told kl xs rand:=Ag _
def Adm (rand:List Int) (z_:Nat×Nat×(List (Int×Int×(List (List Int))))×(List Int)×Nat×(List Int)×Nat:=Bj id fi ok oi ik ii low mx last told kl xs rand):Con:=⟨[.cp 0 0,lb xs,lb rand],[(0,XX id fi false 1 2 low mx last told 3),(1,Aj ok oi),(2,Aj ik ii),(3,.sl 86 [.int .i64,.int .i64,.sl (.sl (.int .u8))] kl)],.tu (chain [lb (z_.2.2.2.2.2.1),vi ((z_.2.2.2.2.2.2:Nat):Int)]),[(0,XX id fi false 1 2 low mx z_.1 z_.2.1 4),(1,Aj ok oi),(2,Aj (z_.2.2.2.1) z_.2.2.2.2.1),(4,.sl 86 [.int .i64,.int .i64,.sl (.sl (.int .u8))] (z_.2.2.1))]⟩
theorem u0 (rand:List Int) (hok:ok.length=32) (hik:ik.length=32) (hoi:oi≤100000000000) (hii:ii≤100000000000) (hm1:1≤mx.length∧mx.length≤100000) (hm2:∀j,(mx.getD j (rz [.sl (.int .u8)])).length≤32) (hlow:low≤100000000000) (hK:Of kl) (hll:low≤last∧last≤100000000000) (htd:told≤100000000000) (hf:xs.length≤50000) (hk:IK id fi ok oi ik ii low mx last told kl xs rand=true):ConOk Tryz.prog 39 (Adm id fi ok oi ik ii low mx last told kl xs rand):=by
 refine cy 4 Tryz.func39 rfl Tryz.ntmps39 fun hg0 hS=> ?_
 have Be:xs.length≤9223372036854775807:=hS.len 1 rfl
 have B2:rand.length≤9223372036854775807:=hS.len 2 rfl
 have FT:kl.length≤9223372036854775807:=hS.lens 3 rfl
 refine Ae [] 4 hS fun hS=>Av ?_
 by_cases h1:CG xs=true
 ·refine As [(1,AP (SO xs AE h1))] [8] 5 hS fun hS=>Ej ?_
  have hpl:=CE (xs:=xs) BF
  by_cases h2:Cf id fi ok oi ik ii low mx last told kl ((Aa xs).1) ((Aa xs).2.1) ((Aa xs).2.2.1) ((Aa xs).2.2.2.1) ((Aa xs).2.2.2.2.1) ((Aa xs).2.2.2.2.2)=true
  ·have hpl:=CE (xs:=xs) BF
   refine As [(2,AM (YD id fi ok oi ik ii low mx last told kl ((Aa xs).1) ((Aa xs).2.1) ((Aa xs).2.2.1) ((Aa xs).2.2.2.1) ((Aa xs).2.2.2.2.1) ((Aa xs).2.2.2.2.2) AE AE Ac Ac M7 (by first |assumption|(intro j;simp<;>omega)) Ac BF Ac Ac h2) [(0,0),(1,1),(2,2),(3,3)] []),(3,Vn .mf [(12:Int)=12,(0:Int)≤12,1*12≤281474976710656,(12:Int)≤9223372036854775807] ⟨rfl,by omega,by omega,by omega,trivial⟩),(8,AP (VS (CF id fi ok oi ik ii low mx last told kl ((Aa xs).1) ((Aa xs).2.1) ((Aa xs).2.2.1) ((Aa xs).2.2.2.1) ((Aa xs).2.2.2.2.1) ((Aa xs).2.2.2.2.2)) (List.replicate 12 (0:Int)) ((Aa xs).1) ((Aa xs).2.2.2.2.2) (KO BF Ac hK).2 (by have :=CE (xs:=xs) BF;omega) (by have :=CE (xs:=xs) BF;omega) (by simp)))] [] 5 hS fun hS=>Ej ?_
   by_cases h3:uH ((Da (CF id fi ok oi ik ii low mx last told kl ((Aa xs).1) ((Aa xs).2.1) ((Aa xs).2.2.1) ((Aa xs).2.2.2.1) ((Aa xs).2.2.2.2.1) ((Aa xs).2.2.2.2.2)) (List.replicate 12 (0:Int)) ((Aa xs).1) ((Aa xs).2.2.2.2.2)).2)=true
   ·refine As [(1,AP (Qy ((Da (CF id fi ok oi ik ii low mx last told kl ((Aa xs).1) ((Aa xs).2.1) ((Aa xs).2.2.1) ((Aa xs).2.2.2.1) ((Aa xs).2.2.2.2.1) ((Aa xs).2.2.2.2.2)) (List.replicate 12 (0:Int)) ((Aa xs).1) ((Aa xs).2.2.2.2.2)).2) h3))] [] 5 hS fun hS=>Ej ?_
    have hpl:=CE (xs:=xs) BF
    have hof:=(KO BF Ac hK).1
    refine As [(2,AM (yZ id fi ok oi ik ii low mx last told kl ((Aa xs).1) ((Aa xs).2.1) ((Aa xs).2.2.1) ((Aa xs).2.2.2.1) ((Aa xs).2.2.2.2.1) ((Aa xs).2.2.2.2.2) AE AE Ac Ac M7 (by first |assumption|(intro j;simp<;>omega)) Ac BF Ac Ac BF) [(0,0),(1,1),(2,2),(3,3)] [(4,5)])] [] 6 hS fun hS=>Ab (Ax [(7,Rmx told ((Aa xs).2.2.2.1))] [] 6 hS fun hS=>Av (Ae [] 6 hS fun hS=>Ai hS (BP (Ae [6] 6 hS fun hS=>AR ?_))))
    obtain⟨gs,hS⟩:=hS.rx [(0,0),(1,1),(2,2),(3,3),(4,5)] [6,7] [0,1,2,4] 5 hg0
    exact Bi (jZ ..) hS
   ·have hK:IK id fi ok oi ik ii low mx last told kl xs rand=false:=(Oi id fi ok oi ik ii low mx last told kl xs rand).trans ((if_pos h1).trans ((if_pos h2).trans (if_neg h3)))
    rw[hK]at hk
    cases hk
  ·have hpl:=CE (xs:=xs) BF
   have hK:IK id fi ok oi ik ii low mx last told kl xs rand=false:=(Oi id fi ok oi ik ii low mx last told kl xs rand).trans ((if_pos h1).trans (if_neg h2))
   rw[hK]at hk
   cases hk
 ·have hK:IK id fi ok oi ik ii low mx last told kl xs rand=false:=(Oi id fi ok oi ik ii low mx last told kl xs rand).trans (if_neg h1)
  rw[hK]at hk
  cases hk
end
end
end Go.Sx.Tryz
namespace Go.Sx.Tryz
open Go.Mi Go.RowKit Go.Sx Go.Proofs
noncomputable section
def sO:Con:=⟨[.v (.pointer none)],[],.v (.pointer none),[]⟩
theorem eY:ConOk Tryz.prog 62 (sO):=by
 exact cy 0 Tryz.func62 rfl Tryz.ntmps62 fun hg0 hS=>Ae [] 0 hS fun hS=>Av (Ae [] 0 hS fun hS=>AO hS (Ae [] 0 hS fun hS=>AR (Af (BW hS))))
section
variable (id:List Int) (fi:Bool) (ok:List Int) (oi:Nat) (ik:List Int) (ii low:Nat) (mx:List (List Int)) (last told:Nat) (kl:List KR)
def zX:Con:=⟨[.cp 0 0],[(0,HL id fi false 1 2 low mx last told kl),(1,Aj ok oi),(2,Aj ik ii)],.cp 3 0,[(0,HL id fi false 1 2 low mx last told kl),(1,Aj ok oi),(2,Aj ik ii),(3,XX id fi false 4 5 low mx last told 6),(4,Aj ok oi),(5,Aj ik ii),(6,.sl 86 [.int .i64,.int .i64,.sl (.sl (.int .u8))] kl)]⟩
theorem kZ (hok:ok.length=32) (hik:ik.length=32) (hoi:oi≤100000000000) (hii:ii≤100000000000) (hm1:1≤mx.length∧mx.length≤100000) (hm2:∀j,(mx.getD j (rz [.sl (.int .u8)])).length≤32) (hlow:low≤100000000000) (hK:Of kl):ConOk Tryz.prog 30 (zX id fi ok oi ik ii low mx last told kl):=by
 refine cy 3 Tryz.func30 rfl Tryz.ntmps30 fun hg0 hS=>Ae [] 3 hS fun hS=>Av (Ax [(1,IB (BR) [0,1] [.im (chain [.top,.top,.top,.im (chain []) 0,.top,.top,.top,.top,.top,.top,.top]) 0])] [] 3 hS fun hS=>Ai hS (BP (Ae [3] 4 hS fun hS=>Ax [(4,AM (Jr ok oi AE) [(0,1)] [(1,4)]),(9,AM (Jr ik ii AE) [(0,2)] [(1,5)]),(14,AP (eY))] [] 6 hS fun hS=>Av ?_)))
 have hkl:=hK.1
 exact As [(4,AP (iR mx AE)),(9,AM (Gi kl AE) [] [(0,6)])] [] 7 hS fun hS=>Ab (Ae [] 7 hS fun hS=>AR (BW hS))
end
end
end Go.Sx.Tryz
namespace Go.Sx.Tryz
open Go.Mi Go.RowKit Go.Sx Go.Proofs
noncomputable section
def XW (x0:List Int):O:= .ob 22 (chain [lb x0])
def Agg:O:= .ob 22 (chain [.v (.slice none 0 0)])
section
variable (t:List Int) (i:Nat)
def Vb:Con:=⟨[.cp 0 0,.cp 1 0,.cp 2 0],[(0,XW t),(1,M3 i),(2,EG)],.tu (chain []),[(0,XW t),(1,M3 i),(2,EG)]⟩
theorem Wl:RH Tryz.prog 38 .returning .returning (Vb t i):=by
 refine U1 rfl (nb:=3) (t0:=6) (t1:=3) Tryz.func38 rfl rfl Tryz.ntmps38 rfl rfl rfl rfl rfl rfl fun g0 w0 ac gs ws hg0 hS=> ?_
 have hS:=hS.sp
 exact Ax [(1,Vn .nn [] trivial)] [] 3 hS fun hS=>Ai hS (cnb (fiN hS))
end
section
variable (id:List Int) (fi:Bool) (ok:List Int) (oi:Nat) (ik:List Int) (ii low:Nat) (mx:List (List Int)) (last told:Nat) (kl:List KR) (xs rand:List Int)
def KH:Bool:=if IK id fi ok oi ik ii low mx last told kl xs (rand.drop 64)=true then true else false
def JH:Bool:=AJ (KH id fi ok oi ik ii low mx last told kl xs rand)
theorem P1:JH id fi ok oi ik ii low mx last told kl xs rand=KH id fi ok oi ik ii low mx last told kl xs rand:=Ag _
def Nm:(List Int)×Nat×Nat×Nat×(List (Int×Int×(List (List Int))))×(List Int)×Nat:=((Bj id fi ok oi ik ii low mx last told kl xs (rand.drop 64)).2.2.2.1,((Bj id fi ok oi ik ii low mx last told kl xs (rand.drop 64)).2.2.2.2.1),((Bj id fi ok oi ik ii low mx last told kl xs (rand.drop 64)).1),((Bj id fi ok oi ik ii low mx last told kl xs (rand.drop 64)).2.1),(Bj id fi ok oi ik ii low mx last told kl xs (rand.drop 64)).2.2.1,(Bj id fi ok oi ik ii low mx last told kl xs (rand.drop 64)).2.2.2.2.2.1,((Bj id fi ok oi ik ii low mx last told kl xs (rand.drop 64)).2.2.2.2.2.2))
def CC:(List Int)×Nat×Nat×Nat×(List (Int×Int×(List (List Int))))×(List Int)×Nat:=AJ (Nm id fi ok oi ik ii low mx last told kl xs rand)
theorem SG:CC id fi ok oi ik ii low mx last told kl xs rand=Nm id fi ok oi ik ii low mx last told kl xs rand:=Ag _
def Tw (z_:(List Int)×Nat×Nat×Nat×(List (Int×Int×(List (List Int))))×(List Int)×Nat:=CC id fi ok oi ik ii low mx last told kl xs rand):Con:=⟨[.cp 0 0,lb xs,lb rand],[(0,HL id fi false 1 2 low mx last told kl),(1,Aj ok oi),(2,Aj ik ii)],.tu (chain [lb (z_.2.2.2.2.2.1),vi ((z_.2.2.2.2.2.2:Nat):Int),vi 0]),[(0,HL id fi false 7 8 low mx z_.2.2.1 z_.2.2.2.1 (z_.2.2.2.2.1)),(1,Aj ok oi),(2,Aj ik ii),(7,Aj ok oi),(8,Aj (z_.1) z_.2.1)]⟩
theorem Yu (hok:ok.length=32) (hik:ik.length=32) (hoi:oi≤100000000000) (hii:ii≤100000000000) (hm1:1≤mx.length∧mx.length≤100000) (hm2:∀j,(mx.getD j (rz [.sl (.int .u8)])).length≤32) (hlow:low≤100000000000) (hK:Of kl) (hll:low≤last∧last≤100000000000) (htd:told≤100000000000) (hf:xs.length≤50000) (hr:rand.length=128) (hk:JH id fi ok oi ik ii low mx last told kl xs rand=true):ConOk Tryz.prog 19 (Tw id fi ok oi ik ii low mx last told kl xs rand):=by
 refine Fs rfl (nb:=3) Tryz.func19 rfl rfl Tryz.ntmps19 rfl rfl rfl fun g0 w0 ac gs ws hg0 hS=> ?_
 have Be:xs.length≤9223372036854775807:=hS.len 1 rfl
 have B2:rand.length≤9223372036854775807:=hS.len 2 rfl
 have hS:=hS.sp
 have hr1:((rand.length:Nat):Int)=128:=Ac
 refine Ae [] 6 hS fun hS=>Av (Ax [(1,IB (BR) [0,1] [.im (chain [.top,.top,.top,.im (chain []) 0,.top,.top,.top,.top,.top,.top,.top]) 0]),(5,GH hr1)] [] 6 hS fun hS=>Ai hS (DU ?_))
 have hS:=hS.rv [(0,.cp 0 0),(1,lb xs),(2,lb rand),(6,.cp 3 0),(7,.cp 4 0),(8,.cp 5 0),(16,.v (.bool false))] [(0,some (HL id fi false 1 2 low mx last told kl)),(1,some (Aj ok oi)),(2,some (Aj ik ii)),(3,some (Agg)),(4,some (.ob 3 (chain [vi 0]))),(5,some (EG))]
 refine JV rfl hS (cs:=[.cp 3 0,.cp 4 0,.cp 5 0]) rfl rfl rfl fun D vds ac hD hcv hB hS=> ?_
 have hS:=hS.sp
 refine Ab (Ax [(1,AM (kZ id fi ok oi ik ii low mx last told kl AE AE Ac Ac M7 (by first |assumption|(intro j;simp<;>omega)) Ac BF) [(0,0),(1,1),(2,2)] [(3,6),(4,7),(5,8),(6,9)])] [] 10 hS fun hS=>Av ?_)
 by_cases h1:IK id fi ok oi ik ii low mx last told kl xs (rand.drop 64)=true
 ·refine As [(3,O2 64 rand.length),(4,AM (u0 id fi ok oi ik ii low mx last told kl xs (rand.drop 64) AE AE Ac Ac M7 (by first |assumption|(intro j;simp<;>omega)) Ac BF Ac Ac AE h1) [(0,6),(1,7),(2,8),(3,9)] [(4,10)])] [] 11 hS fun hS=>Ej (Dj [] 11 hS fun hS=> ?_)
  obtain⟨gs,hS⟩:=hS.fz 10
  refine Ab (Ae [] 11 hS fun hS=>AR ?_)
  have hM:CC id fi ok oi ik ii low mx last told kl xs rand=((Bj id fi ok oi ik ii low mx last told kl xs (rand.drop 64)).2.2.2.1,((Bj id fi ok oi ik ii low mx last told kl xs (rand.drop 64)).2.2.2.2.1),((Bj id fi ok oi ik ii low mx last told kl xs (rand.drop 64)).1),((Bj id fi ok oi ik ii low mx last told kl xs (rand.drop 64)).2.1),(Bj id fi ok oi ik ii low mx last told kl xs (rand.drop 64)).2.2.1,(Bj id fi ok oi ik ii low mx last told kl xs (rand.drop 64)).2.2.2.2.2.1,((Bj id fi ok oi ik ii low mx last told kl xs (rand.drop 64)).2.2.2.2.2.2)):=SG id fi ok oi ik ii low mx last told kl xs rand
  have hS:=hS.rv [(6,.cp 3 0),(7,.cp 4 0),(8,.cp 5 0)] [(0,some (HL id fi false 7 8 low mx ((Bj id fi ok oi ik ii low mx last told kl xs (rand.drop 64)).1) ((Bj id fi ok oi ik ii low mx last told kl xs (rand.drop 64)).2.1) ((Bj id fi ok oi ik ii low mx last told kl xs (rand.drop 64)).2.2.1))),(1,some (Aj ok oi)),(2,some (Aj ik ii)),(3,some (XW ((Bj id fi ok oi ik ii low mx last told kl xs (rand.drop 64)).2.2.2.2.2.1))),(4,some (M3 ((Bj id fi ok oi ik ii low mx last told kl xs (rand.drop 64)).2.2.2.2.2.2))),(5,some (EG)),(7,some (Aj ok oi)),(8,some (Aj ((Bj id fi ok oi ik ii low mx last told kl xs (rand.drop 64)).2.2.2.1) ((Bj id fi ok oi ik ii low mx last told kl xs (rand.drop 64)).2.2.2.2.1)))]
  exact QO (.inr rfl) hS hD (Gz ⟨38,(Vb ((Bj id fi ok oi ik ii low mx last told kl xs (rand.drop 64)).2.2.2.2.2.1) ((Bj id fi ok oi ik ii low mx last told kl xs (rand.drop 64)).2.2.2.2.2.2)),[(0,3),(1,4),(2,5)],[]⟩ [(3,some (XW ((Bj id fi ok oi ik ii low mx last told kl xs (rand.drop 64)).2.2.2.2.2.1))),(4,some (M3 ((Bj id fi ok oi ik ii low mx last told kl xs (rand.drop 64)).2.2.2.2.2.2))),(5,some (EG)),(0,some (HL id fi false 7 8 low mx ((Bj id fi ok oi ik ii low mx last told kl xs (rand.drop 64)).1) ((Bj id fi ok oi ik ii low mx last told kl xs (rand.drop 64)).2.1) ((Bj id fi ok oi ik ii low mx last told kl xs (rand.drop 64)).2.2.1))),(1,some (Aj ok oi)),(2,some (Aj ik ii)),(3,some (XW ((Bj id fi ok oi ik ii low mx last told kl xs (rand.drop 64)).2.2.2.2.2.1))),(4,some (M3 ((Bj id fi ok oi ik ii low mx last told kl xs (rand.drop 64)).2.2.2.2.2.2))),(5,some (EG)),(7,some (Aj ok oi)),(8,some (Aj ((Bj id fi ok oi ik ii low mx last told kl xs (rand.drop 64)).2.2.2.1) ((Bj id fi ok oi ik ii low mx last told kl xs (rand.drop 64)).2.2.2.2.1)))] hB hS hcv (show FrameMode.returning≠ .run from nofun) rfl rfl rfl (Wl ((Bj id fi ok oi ik ii low mx last told kl xs (rand.drop 64)).2.2.2.2.2.1) ((Bj id fi ok oi ik ii low mx last told kl xs (rand.drop 64)).2.2.2.2.2.2)) rfl ⟨rfl,rfl,rfl,trivial⟩ rfl (ds:=[lb ((Bj id fi ok oi ik ii low mx last told kl xs (rand.drop 64)).2.2.2.2.2.1),vi ((((Bj id fi ok oi ik ii low mx last told kl xs (rand.drop 64)).2.2.2.2.2.2):Nat):Int),vi 0]) (by kernel_rfl) (by show weak _ (.tu (chain [lb ((CC id fi ok oi ik ii low mx last told kl xs rand).2.2.2.2.2.1),vi (((CC id fi ok oi ik ii low mx last told kl xs rand).2.2.2.2.2.2:Nat):Int),vi 0]))=(.tu (chain [lb ((CC id fi ok oi ik ii low mx last told kl xs rand).2.2.2.2.2.1),vi (((CC id fi ok oi ik ii low mx last told kl xs rand).2.2.2.2.2.2:Nat):Int),vi 0]));first |rfl|(rw[hM];first |(simp only[];rfl)|(simp only[];done)|rfl)) (by show DW _ [(0,HL id fi false 7 8 low mx ((CC id fi ok oi ik ii low mx last told kl xs rand).2.2.1) ((CC id fi ok oi ik ii low mx last told kl xs rand).2.2.2.1) ((CC id fi ok oi ik ii low mx last told kl xs rand).2.2.2.2.1)),(1,Aj ok oi),(2,Aj ik ii),(7,Aj ok oi),(8,Aj ((CC id fi ok oi ik ii low mx last told kl xs rand).1) ((CC id fi ok oi ik ii low mx last told kl xs rand).2.1))] true;first |exact⟨rfl,rfl,rfl,rfl,rfl,trivial⟩|(rw[hM];first |(simp only[];exact⟨rfl,rfl,rfl,rfl,rfl,trivial⟩)|exact⟨rfl,rfl,rfl,rfl,rfl,trivial⟩)))
 ·have hK:JH id fi ok oi ik ii low mx last told kl xs rand=false:=(P1 id fi ok oi ik ii low mx last told kl xs rand).trans (if_neg h1)
  rw[hK]at hk
  cases hk
end
end
end Go.Sx.Tryz
namespace Go.Sx.Tryz
open Go.Mi Go.RowKit Go.Sx Go.Proofs
noncomputable section
theorem H8 (fi:Bool) (low len told:Nat) (h:1≤len):AV fi low len told<low+len:=by
 unfold AV;split<;>omega
@[simp] theorem IR (key num data text:List Int):(Db key num data text).length=text.length+32:=by
 rw[Ym];unfold TT;rw[OX];unfold MO;rw[List.length_append,Fp,Pz]
section
variable (id:List Int) (fi:Bool) (ok:List Int) (oi:Nat) (ik:List Int) (ii low:Nat) (mx:List (List Int)) (last told:Nat) (kl:List KR) (text rand:List Int)
def Yk (id:List Int) (fi:Bool) (ok:List Int) (oi:Nat) (ik:List Int) (ii low:Nat) (mx:List (List Int)) (last told:Nat) (kl:List KR) (text rand:List Int):(List Int)×Nat×(List Int):=(Oa ok,(oi+1),((((([]:List Int)++Ak (((((([]:List Int)++Ak oi)++Ak (AV fi low mx.length told))++Ak (low+mx.length-1))++Ak ([]:List Int).length)++([]:List Int)).length)++(((((([]:List Int)++Ak oi)++Ak (AV fi low mx.length told))++Ak (low+mx.length-1))++Ak ([]:List Int).length)++([]:List Int)))++Ak (Db (AI (Kf ok) (mx.getD ((AV fi low mx.length told)-low) (rz [.sl (.int .u8)])) [109,101,115,115,97,103,101]) (List.replicate 12 (0:Int)) (((((([]:List Int)++Ak oi)++Ak (AV fi low mx.length told))++Ak (low+mx.length-1))++Ak ([]:List Int).length)++([]:List Int)) text).length)++(Db (AI (Kf ok) (mx.getD ((AV fi low mx.length told)-low) (rz [.sl (.int .u8)])) [109,101,115,115,97,103,101]) (List.replicate 12 (0:Int)) (((((([]:List Int)++Ak oi)++Ak (AV fi low mx.length told))++Ak (low+mx.length-1))++Ak ([]:List Int).length)++([]:List Int)) text)))
def Yl:(List Int)×Nat×(List Int):=AJ (Yk id fi ok oi ik ii low mx last told kl text rand)
theorem kU:Yl id fi ok oi ik ii low mx last told kl text rand=Yk id fi ok oi ik ii low mx last told kl text rand:=Ag _
def rY (z_:(List Int)×Nat×(List Int):=Yl id fi ok oi ik ii low mx last told kl text rand):Con:=⟨[.cp 0 0,lb text,lb rand],[(0,HL id fi false 1 2 low mx last told kl),(1,Aj ok oi),(2,Aj ik ii)],.tu (chain [lb (z_.2.2),vi (oi:Int),vi 0]),[(0,HL id fi false 1 2 low mx last told kl),(1,Aj (z_.1) z_.2.1),(2,Aj ik ii)]⟩
theorem vH (hok:ok.length=32) (hik:ik.length=32) (hoi:oi≤100000000000) (hii:ii≤100000000000) (hm1:1≤mx.length∧mx.length≤100000) (hm2:∀j,(mx.getD j (rz [.sl (.int .u8)])).length≤32) (hlow:low≤100000000000) (hmn:low≤AV fi low mx.length told) (htx:text.length≤500) (hr:rand.length=128):ConOk Tryz.prog 24 (rY id fi ok oi ik ii low mx last told kl text rand):=by
 refine cy 3 Tryz.func24 rfl Tryz.ntmps24 fun hg0 hS=> ?_
 have Be:text.length≤9223372036854775807:=hS.len 1 rfl
 have B2:rand.length≤9223372036854775807:=hS.len 2 rfl
 have hr1:((rand.length:Nat):Int)=128:=Ac
 have hx1:¬(500:Int)<((text.length:Nat):Int):=Ac
 refine Ae [] 3 hS fun hS=>Av (Br (Ax [(1,IB (BR) [0,1] [.im (chain [.top,.top,.top,.im (chain []) 0,.top,.top,.top,.top,.top,.top,.top]) 0]),(5,GH hr1)] [] 3 hS fun hS=>Ai hS (Ax [(2,DC hx1)] [] 3 hS fun hS=>Ai hS (G8 (Ae [] 3 hS fun hS=>Av (Ae [] 3 hS fun hS=>Ai hS (BP (Ax [(4,AM (CU ok oi) [(0,1)] [])] [] 3 hS fun hS=>Ax [(1,IB (KQ fi low mx told M7 Ac) [0,1] [.im (chain [.top,.v (.bool fi),.top,.im (chain []) 0,.top,.top,vi (low:Int),.ls false [.sl (.int .u8)] mx,.top,vi (told:Int),.top]) 0])] [] 3 hS fun hS=>Ae [] 4 hS fun hS=>Av ?_))))))))
 have hmx:=H8 fi low mx.length told Ac
 have hw1:=AH (n:=oi) Ac
 have hw2:=AH (n:=AV fi low mx.length told) Ac
 have hw3:=AH (n:=low+mx.length-1) Ac
 have hw4:=AH (n:=([]:List Int).length) (by decide)
 have hw4b:=AH (n:=0) (by decide)
 refine As [(2,XR oi),(3,AM (Lr oi Ac) [(0,3)] [(1,4)]),(5,XR (AV fi low mx.length told)),(6,AM (HN (([]:List Int)++Ak oi) (AV fi low mx.length told) AE Ac) [(0,3),(1,4)] [(2,5)]),(8,IB (DF low mx M7 Ac) [0,1] [.im (chain [.top,.top,.top,.im (chain []) 0,.top,.top,vi (low:Int),.ls false [.sl (.int .u8)] mx,.top,.top,.top]) 0]),(9,XR (low+mx.length-1)),(10,AM (HN ((([]:List Int)++Ak oi)++Ak (AV fi low mx.length told)) (low+mx.length-1) AE Ac) [(0,3),(1,5)] [(2,6)]),(12,AM (Ga (((([]:List Int)++Ak oi)++Ak (AV fi low mx.length told))++Ak (low+mx.length-1)) ([]:List Int) AE AE) [(0,3),(1,6)] [(2,7)]),(13,AM (Ha (((((([]:List Int)++Ak oi)++Ak (AV fi low mx.length told))++Ak (low+mx.length-1))++Ak ([]:List Int).length)++([]:List Int)) AE) [(0,3),(1,7)] [])] [] 8 hS fun hS=>Ej ?_
 have hmx:=H8 fi low mx.length told Ac
 have hw1:=AH (n:=oi) Ac
 have hw2:=AH (n:=AV fi low mx.length told) Ac
 have hw3:=AH (n:=low+mx.length-1) Ac
 have hw4:=AH (n:=([]:List Int).length) (by decide)
 have hw4b:=AH (n:=0) (by decide)
 have hhd:(((((([]:List Int)++Ak oi)++Ak (AV fi low mx.length told))++Ak (low+mx.length-1))++Ak ([]:List Int).length)++([]:List Int)).length≤50:=by simp only[List.length_append,List.length_nil];omega
 refine As [(5,AM (HI ok oi AE Ac) [(0,1)] []),(7,AM (vF id fi (Oa ok) (oi+1) ik ii low mx last told kl (Kf ok) (AV fi low mx.length told) M7 (by first |assumption|(intro j;simp<;>omega)) Ac AE Ac) [(0,0),(1,1),(2,2)] []),(8,Vn .mf [(12:Int)=12,(0:Int)≤12,1*12≤281474976710656,(12:Int)≤9223372036854775807] ⟨rfl,by omega,by omega,by omega,trivial⟩),(11,AP (Z6 (AI (Kf ok) (mx.getD ((AV fi low mx.length told)-low) (rz [.sl (.int .u8)])) [109,101,115,115,97,103,101]) (List.replicate 12 (0:Int)) (((((([]:List Int)++Ak oi)++Ak (AV fi low mx.length told))++Ak (low+mx.length-1))++Ak ([]:List Int).length)++([]:List Int)) text AE AE AE AE))] [] 8 hS fun hS=>Ej ?_
 have hmx:=H8 fi low mx.length told Ac
 have hw1:=AH (n:=oi) Ac
 have hw2:=AH (n:=AV fi low mx.length told) Ac
 have hw3:=AH (n:=low+mx.length-1) Ac
 have hw4:=AH (n:=([]:List Int).length) (by decide)
 have hw4b:=AH (n:=0) (by decide)
 have hhd:(((((([]:List Int)++Ak oi)++Ak (AV fi low mx.length told))++Ak (low+mx.length-1))++Ak ([]:List Int).length)++([]:List Int)).length≤50:=by simp only[List.length_append,List.length_nil];omega
 have hw5:=AH (n:=(((((([]:List Int)++Ak oi)++Ak (AV fi low mx.length told))++Ak (low+mx.length-1))++Ak ([]:List Int).length)++([]:List Int)).length) Ac
 have hw5s:=hw5
 simp only[List.length_append,List.length_nil]at hw5s
 have hsl:(Db (AI (Kf ok) (mx.getD ((AV fi low mx.length told)-low) (rz [.sl (.int .u8)])) [109,101,115,115,97,103,101]) (List.replicate 12 (0:Int)) (((((([]:List Int)++Ak oi)++Ak (AV fi low mx.length told))++Ak (low+mx.length-1))++Ak ([]:List Int).length)++([]:List Int)) text).length=text.length+32:=IR ..
 have hw6:=AH (n:=(Db (AI (Kf ok) (mx.getD ((AV fi low mx.length told)-low) (rz [.sl (.int .u8)])) [109,101,115,115,97,103,101]) (List.replicate 12 (0:Int)) (((((([]:List Int)++Ak oi)++Ak (AV fi low mx.length told))++Ak (low+mx.length-1))++Ak ([]:List Int).length)++([]:List Int)) text).length) Ac
 have hw5t:=hw5
 simp at hw5t
 have hw6t:=hw6
 simp at hw6t
 exact As [(2,AM (Ku (((((([]:List Int)++Ak oi)++Ak (AV fi low mx.length told))++Ak (low+mx.length-1))++Ak ([]:List Int).length)++([]:List Int)) AE) [(0,8)] [(1,9)]),(4,AM (Ga ((([]:List Int)++Ak (((((([]:List Int)++Ak oi)++Ak (AV fi low mx.length told))++Ak (low+mx.length-1))++Ak ([]:List Int).length)++([]:List Int)).length)++(((((([]:List Int)++Ak oi)++Ak (AV fi low mx.length told))++Ak (low+mx.length-1))++Ak ([]:List Int).length)++([]:List Int))) (Db (AI (Kf ok) (mx.getD ((AV fi low mx.length told)-low) (rz [.sl (.int .u8)])) [109,101,115,115,97,103,101]) (List.replicate 12 (0:Int)) (((((([]:List Int)++Ak oi)++Ak (AV fi low mx.length told))++Ak (low+mx.length-1))++Ak ([]:List Int).length)++([]:List Int)) text) AE AE) [(0,8),(1,9)] [(2,10)]),(5,AM (Ha ((((([]:List Int)++Ak (((((([]:List Int)++Ak oi)++Ak (AV fi low mx.length told))++Ak (low+mx.length-1))++Ak ([]:List Int).length)++([]:List Int)).length)++(((((([]:List Int)++Ak oi)++Ak (AV fi low mx.length told))++Ak (low+mx.length-1))++Ak ([]:List Int).length)++([]:List Int)))++Ak (Db (AI (Kf ok) (mx.getD ((AV fi low mx.length told)-low) (rz [.sl (.int .u8)])) [109,101,115,115,97,103,101]) (List.replicate 12 (0:Int)) (((((([]:List Int)++Ak oi)++Ak (AV fi low mx.length told))++Ak (low+mx.length-1))++Ak ([]:List Int).length)++([]:List Int)) text).length)++(Db (AI (Kf ok) (mx.getD ((AV fi low mx.length told)-low) (rz [.sl (.int .u8)])) [109,101,115,115,97,103,101]) (List.replicate 12 (0:Int)) (((((([]:List Int)++Ak oi)++Ak (AV fi low mx.length told))++Ak (low+mx.length-1))++Ak ([]:List Int).length)++([]:List Int)) text)) AE) [(0,8),(1,10)] [])] [7] 11 hS fun hS=>DX (Bi (kU ..) hS)
end
end
end Go.Sx.Tryz
namespace Go.Sx.Tryz
open Go.Mi Go.RowKit Go.Sx Go.Proofs
noncomputable section
theorem VQ (s:ByteArray):(Fy s).length=s.size:=by unfold Fy;rw[List.length_map,Array.length_toList];rfl
section
variable (root:List Int) (nm:ByteArray)
def m5:(List Int):=AI ([]:List Int) root (Fy nm)
def B4:(List Int):=AJ (m5 root nm)
theorem m6:B4 root nm=m5 root nm:=Ag _
end
@[simp] theorem Qk (root:List Int) (nm:ByteArray):(B4 root nm).length=32:=by rw[m6];exact E6 ..
section
variable (root:List Int)
def AdO (nm:ByteArray) (z_:(List Int):=B4 root nm):Con:=⟨[lb root,.v (.string nm)],[],lb z_,[]⟩
theorem Ey (nm:ByteArray) (hr:root.length=32) (hn:nm.size≤1000):ConOk Tryz.prog 42 (AdO root nm):=by
 refine cy 0 Tryz.func42 rfl Tryz.ntmps42 fun hg0 hS=> ?_
 have A7:root.length≤9223372036854775807:=hS.len 0 rfl
 refine Ae [] 0 hS fun hS=>Av ?_
 have hsn:=VQ nm
 exact As [(2,RE (nm.size≤140737488355328)),(3,AP (EP ([]:List Int) root (Fy nm) AE AE AE))] [] 0 hS fun hS=>DX (Bi (m6 ..) hS)
def TN (fi:Bool):(List Int)×(List Int)×(List Int)×(List (List Int)):=if(!fi)=true then(B4 root (ByteArray.mk #[112,97,105,114]),B4 root (ByteArray.mk #[111,116,104,101,114]),B4 root (ByteArray.mk #[102,105,114,115,116]),[B4 root (ByteArray.mk #[109,105,120])])else(B4 root (ByteArray.mk #[112,97,105,114]),B4 root (ByteArray.mk #[102,105,114,115,116]),B4 root (ByteArray.mk #[111,116,104,101,114]),[B4 root (ByteArray.mk #[109,105,120])])
def FO (fi:Bool):(List Int)×(List Int)×(List Int)×(List (List Int)):=AJ (TN root fi)
theorem TO (fi:Bool):FO root fi=TN root fi:=Ag _
def Adr (fi:Bool) (z_:(List Int)×(List Int)×(List Int)×(List (List Int)):=FO root fi):Con:=⟨[lb root,.v (.bool fi),.v (.bool false)],[],.tu (chain [.cp 0 0,vi 0]),[(0,.ob 80 (chain [lb (z_.1),.v (.bool fi),.v (.bool false),.cp 1 0,.cp 2 0,.v (.pointer none),vi 0,.ls true [.sl (.int .u8)] (z_.2.2.2),vi 0,vi 0,.v (.slice none 0 0)])),(1,C_ (z_.2.1)),(2,C_ (z_.2.2.1))]⟩
theorem ZZ (fi:Bool) (hr:root.length=32):ConOk Tryz.prog 23 (Adr root fi):=by
 refine cy 0 Tryz.func23 rfl Tryz.ntmps23 fun hg0 hS=> ?_
 have A7:root.length≤9223372036854775807:=hS.len 0 rfl
 have hr1:((root.length:Nat):Int)=32:=Ac
 refine Ae [] 0 hS fun hS=>Av (Ax [(2,GH hr1)] [] 0 hS fun hS=>Ai hS (BP (Ax [(1,AP (Ey root (ByteArray.mk #[112,97,105,114]) AE (by decide))),(5,AP (Ey root (ByteArray.mk #[109,105,120]) AE (by decide)))] [] 1 hS fun hS=>Ax [(2,AP (Ey root (ByteArray.mk #[102,105,114,115,116]) AE (by decide))),(3,AM (JX (B4 root (ByteArray.mk #[102,105,114,115,116])) AE) [] [(0,1)])] [] 2 hS fun hS=>Ax [(2,AP (Ey root (ByteArray.mk #[111,116,104,101,114]) AE (by decide))),(3,AM (JX (B4 root (ByteArray.mk #[111,116,104,101,114])) AE) [] [(0,2)])] [] 3 hS fun hS=>Av (Ae [] 3 hS fun hS=>NC (!fi) hS (fun h1=> ?_) (fun h1=> ?_)))))
 ·refine Dj [] 3 hS fun hS=>Ej (Ae [] 3 hS fun hS=>Ai hS (BP (Ae [] 3 hS fun hS=>AR ?_)))
  obtain⟨gs,hS⟩:=hS.rx [(0,0),(1,2),(2,1)] [6,7] [0,1,2] 3 hg0
  exact Bi (.trans (TO ..) (if_pos h1)) hS
 ·exact DU (Ae [] 3 hS fun hS=>Ai hS (BP (Ae [] 3 hS fun hS=>AR (Bi (.trans (TO ..) (if_neg (N7 h1))) hS))))
end
section
variable (id:List Int) (fi:Bool) (ok:List Int) (oi:Nat) (ik:List Int) (ii low:Nat) (mx:List (List Int)) (last told:Nat) (kl:List KR)
def zJ:Con:=Cq [.cp 0 0] [(0,HL id fi false 1 2 low mx last told kl),(1,Aj ok oi),(2,Aj ik ii)] (vi (oi:Int))
theorem PC:ConOk Tryz.prog 32 (zJ id fi ok oi ik ii low mx last told kl):=by
 exact cy 3 Tryz.func32 rfl Tryz.ntmps32 fun hg0 hS=>Ae [] 3 hS fun hS=>Av (Ax [(1,IB (BR) [0,1] [.im (chain [.top,.top,.top,.im (chain []) 0,.top,.top,.top,.top,.top,.top,.top]) 0])] [] 3 hS fun hS=>Ai hS (BP (Ax [(4,AM (CU ok oi) [(0,1)] [])] [] 3 hS fun hS=>AR (BW hS))))
def zM:Con:=Cq [.cp 0 0] [(0,HL id fi false 1 2 low mx last told kl),(1,Aj ok oi),(2,Aj ik ii)] (vi (ii:Int))
theorem PG:ConOk Tryz.prog 20 (zM id fi ok oi ik ii low mx last told kl):=by
 exact cy 3 Tryz.func20 rfl Tryz.ntmps20 fun hg0 hS=>Ae [] 3 hS fun hS=>Av (Ax [(1,IB (BR) [0,1] [.im (chain [.top,.top,.top,.im (chain []) 0,.top,.top,.top,.top,.top,.top,.top]) 0])] [] 3 hS fun hS=>Ai hS (BP (Ax [(4,AM (CU ik ii) [(0,2)] [])] [] 3 hS fun hS=>AR (BW hS))))
end
end
end Go.Sx.Tryz
namespace Go.Sx.Tryz
open Go.Mi Go.RowKit Go.Sx Go.Proofs
noncomputable section
def Vu (l:List KR):List Int:=l.map (·.1)
def PK (kl:List KR) (x12:Nat):(List Int)→(List Int):=fun x2=>x2++[((kl.getD x12 (rz [.int .i64,.int .i64,.sl (.sl (.int .u8))])).1)]
def IP (kl:List KR):Nat→(List Int)
 |0=>[]
 |x12+1=>PK kl x12 (IP kl x12)
section
variable (id:List Int) (fi:Bool) (ok:List Int) (oi:Nat) (ik:List Int) (ii low:Nat) (mx:List (List Int)) (last told:Nat) (kl:List KR)
def TR (id:List Int) (fi:Bool) (ok:List Int) (oi:Nat) (ik:List Int) (ii low:Nat) (mx:List (List Int)) (last told:Nat) (kl:List KR):(List Int):=IP kl kl.length
def LE:(List Int):=AJ (TR id fi ok oi ik ii low mx last told kl)
theorem Z3:LE id fi ok oi ik ii low mx last told kl=TR id fi ok oi ik ii low mx last told kl:=Ag _
def zS (z_:(List Int):=LE id fi ok oi ik ii low mx last told kl):Con:=⟨[.cp 0 0],[(0,HL id fi false 1 2 low mx last told kl),(1,Aj ok oi),(2,Aj ik ii)],.sk 3,[(0,HL id fi false 1 2 low mx last told kl),(1,Aj ok oi),(2,Aj ik ii),(3,.sl 3 [.int .i64] z_)]⟩
theorem kR (hK:Of kl):ConOk Tryz.prog 21 (zS id fi ok oi ik ii low mx last told kl):=by
 refine cy 3 Tryz.func21 rfl Tryz.ntmps21 fun hg0 hS=>Ae [] 3 hS fun hS=>Av (Ax [(1,IB (BR) [0,1] [.im (chain [.top,.top,.top,.im (chain []) 0,.top,.top,.top,.top,.top,.top,.top]) 0])] [] 3 hS fun hS=>Ai hS (DU (Ae [10] 3 hS fun hS=>Br ?_)))
 obtain⟨gs,hS⟩:=hS.nilk 2 3 [.int .i64]
 refine Ar (ι:=Nat×(List Int)) hg0 hS (fun(x12,x2)=>(kl.length-x12,[(12,vi ((x12:Nat):Int))],[(3,.sl 3 [.int .i64] x2)],(x12≤kl.length)∧(x2=IP kl x12)∧(x2.length=x12∧kl.length≤1000)∧True)) [2,10,11] [0,1,2] 4 (0,[]) [(0,0),(1,1),(2,2),(3,3)] ⟨Ac,rfl,⟨rfl,hK.1⟩,trivial⟩ ?_
 rintro⟨x12,x2⟩ ac gs ws ⟨hx12,hq1,p1,_⟩ hS
 refine Ae [] 4 hS fun hS=>Av (AB ((x12:Int)<((kl.length:Nat):Int)) hS (fun h1=> ?_) (fun h1=> ?_))
 ·exact BE (Ax [(0,AD x12 kl.length)] [4] 5 hS fun hS=>As [(4,FW x2.length 1 8)] [2] 6 hS fun hS=>BV (As [(0,BH x12)] [12] 6 hS fun hS=>Ab (Al hg0 hS (x12+1,x2++[((kl.getD x12 (rz [.int .i64,.int .i64,.sl (.sl (.int .u8))])).1)]) [(0,0),(1,1),(2,2),(3,5)] ⟨Ac,(A3 (st:=PK _) hq1 rfl rfl),(by rw[List.length_append,List.length_cons,List.length_nil];omega),trivial⟩)))
 ·have hT:=hS
  obtain rfl:kl.length=x12:=by omega
  obtain rfl:=hq1.symm
  have hS:=hT
  exact CO (Ae [2] 4 hS fun hS=>AR (Bi (Z3 ..) hS))
end
section
variable (id:List Int) (low:Nat) (mx:List (List Int)) (idb:List Int) (lowb:Nat) (mxb:List (List Int))
def Vl:Bool:=if id=idb then(if((min (low+mx.length-1) (lowb+mxb.length-1):Nat):Int)<(low:Int)then true else(if((min (low+mx.length-1) (lowb+mxb.length-1):Nat):Int)<(lowb:Int)then true else decide ((mx.getD ((min (low+mx.length-1) (lowb+mxb.length-1))-low) (rz [.sl (.int .u8)]))=(mxb.getD ((min (low+mx.length-1) (lowb+mxb.length-1))-lowb) (rz [.sl (.int .u8)])))))else false
def Vm:Bool:=AJ (Vl id low mx idb lowb mxb)
theorem MX:Vm id low mx idb lowb mxb=Vl id low mx idb lowb mxb:=Ag _
end
section
variable (id ok:List Int) (oi:Nat) (ik:List Int) (ii low:Nat) (mx:List (List Int)) (last told:Nat) (kl:List KR) (idb okb:List Int) (oib:Nat) (ikb:List Int) (iib lowb:Nat) (mxb:List (List Int)) (lastb toldb:Nat) (klb:List KR)
def cT (z_:Bool:=Vm id low mx idb lowb mxb):Con:=Cq [.cp 0 0,.cp 3 0] [(0,HL id true false 1 2 low mx last told kl),(1,Aj ok oi),(2,Aj ik ii),(3,HL idb false false 4 5 lowb mxb lastb toldb klb),(4,Aj okb oib),(5,Aj ikb iib)] (.v (.bool z_))
theorem tX (hm1:1≤mx.length∧mx.length≤100000) (hlow:low≤100000000000) (hm1b:1≤mxb.length∧mxb.length≤100000) (hlowb:lowb≤100000000000):ConOk Tryz.prog 17 (cT id ok oi ik ii low mx last told kl idb okb oib ikb iib lowb mxb lastb toldb klb):=by
 refine cy 6 Tryz.func17 rfl Tryz.ntmps17 fun hg0 hS=>Ae [] 6 hS fun hS=>Av (Ax [(1,IB (BR) [0,1] [.im (chain [.top,.top,.top,.im (chain []) 0,.top,.top,.top,.top,.top,.top,.top]) 0]),(4,IB (BR) [3,4] [.im (chain [.top,.top,.top,.im (chain []) 0,.top,.top,.top,.top,.top,.top,.top]) 0]),(37,AP (Er id idb))] [] 6 hS fun hS=>Iz (id=idb) hS (fun h1=> ?_) (fun h1=> ?_))
 ·exact Ae [] 6 hS fun hS=>AR (Af (Bi (.trans (MX ..) (if_neg h1)) hS))
 ·refine BP (Ax [(1,IB (DF low mx M7 Ac) [0,1] [.im (chain [.top,.top,.top,.im (chain []) 0,.top,.top,vi (low:Int),.ls false [.sl (.int .u8)] mx,.top,.top,.top]) 0]),(3,IB (DF lowb mxb M7 Ac) [3,4] [.im (chain [.top,.top,.top,.im (chain []) 0,.top,.top,vi (lowb:Int),.ls false [.sl (.int .u8)] mxb,.top,.top,.top]) 0]),(4,Rmn (low+mx.length-1) (lowb+mxb.length-1))] [] 6 hS fun hS=>Av ?_)
  by_cases h2:((min (low+mx.length-1) (lowb+mxb.length-1):Nat):Int)<(low:Int)
  ·exact As [(5,GG h2)] [] 6 hS fun hS=>DX (Bi (.trans (MX ..) ((if_pos h1).trans (if_pos h2))) hS)
  ·by_cases h3:((min (low+mx.length-1) (lowb+mxb.length-1):Nat):Int)<(lowb:Int)
   ·exact As [(5,DC h2),(12,GG h3)] [] 6 hS fun hS=>DX (Bi (.trans (MX ..) ((if_pos h1).trans ((if_neg h2).trans (if_pos h3)))) hS)
   ·exact As [(5,DC h2),(12,DC h3),(24,G9 (min (low+mx.length-1) (lowb+mxb.length-1)) low ((min (low+mx.length-1) (lowb+mxb.length-1))-low)),(25,AD ((min (low+mx.length-1) (lowb+mxb.length-1))-low) mx.length),(36,G9 (min (low+mx.length-1) (lowb+mxb.length-1)) lowb ((min (low+mx.length-1) (lowb+mxb.length-1))-lowb)),(37,AD ((min (low+mx.length-1) (lowb+mxb.length-1))-lowb) mxb.length),(39,AP (Er (mx.getD ((min (low+mx.length-1) (lowb+mxb.length-1))-low) (rz [.sl (.int .u8)])) (mxb.getD ((min (low+mx.length-1) (lowb+mxb.length-1))-lowb) (rz [.sl (.int .u8)]))))] [] 6 hS fun hS=>DX (Bi (.trans (MX ..) ((if_pos h1).trans ((if_neg h2).trans (if_neg h3)))) hS)
end
end
end Go.Sx.Tryz
namespace Go.Sx.Tryz
open Go.Mi Go.RowKit Go.Sx Go.Proofs
noncomputable section
theorem oN {α:Type} {l:List α} {j:Nat} {z:α} (h:j<l.length):l.getD j z∈l:=by
 rw[List.getD_eq_getElem?_getD,List.getElem?_eq_getElem h];exact List.getElem_mem h
theorem UM {α:Type} {p:α→Prop} {a:α} {l:List α} (h1:p a) (h2:∀x∈l,p x):∀x∈a::l,p x:=List.forall_mem_cons.2 ⟨h1,h2⟩
theorem YQ:∀x∈([]:List (List Int)),x.length≤3000:=fun _ h=>nomatch h
theorem UL {l:List (List Int)} (h:∀x∈l,x.length≤3000) (j:Nat):(l.getD j (rz [.sl (.int .u8)])).length≤3000:=by
 show(List.getD (α:=List Int) l j []).length≤3000
 by_cases hj:j<l.length
 ·exact h _ (oN hj)
 ·rw[List.getD_eq_getElem?_getD,List.getElem?_eq_none Ac];decide
section
variable (x:Int) (n:Nat)
def lH:Int:=(C9 .u32 (AY .u32 x (n:Int)) (Bf .u32 x (32-(n:Int))))
def B_:Int:=AJ (lH x n)
theorem AbU:B_ x n=lH x n:=Ag _
def Adx (z_:Int:=B_ x n):Con:=⟨[.v (.int .u32 x),vi (n:Int)],[],.v (.int .u32 z_),[]⟩
theorem FB (hn:n≤32):ConOk Tryz.prog 138 (Adx x n):=by
 exact cy 0 Tryz.func138 rfl Tryz.ntmps138 fun hg0 hS=>Ae [] 0 hS fun hS=>Ax [(2,EQ n),(5,ZH 32 (n:Int)),(6,RE ((0:Int)≤(32-(n:Int))))] [] 0 hS fun hS=>AR (Bi (AbU ..) hS)
end
section
variable (v:Int) (n:Nat)
def SK (x6:Nat):(List Int)→(List Int):=fun x5=>x5.set (Int.toNat (((n:Int)-1)-(x6:Int))) (IntKind.wrap .u8 (AY .u64 v ((8*x6:Nat):Int)))
def Oz (v:Int) (n:Nat):Nat→(List Int)
 |0=>List.replicate n (0:Int)
 |x6+1=>SK v n x6 (Oz v n x6)
def mL:(List Int):=Oz v n n
def C3:(List Int):=AJ (mL v n)
theorem mM:C3 v n=mL v n:=Ag _
def AdG (z_:(List Int):=C3 v n):Con:=⟨[.v (.int .u64 v),vi (n:Int)],[],.sk 0,[(0,.sl 5 [.int .u8] z_)]⟩
theorem Ub (hn:n≤1000):ConOk Tryz.prog 34 (AdG v n):=by
 refine cy 0 Tryz.func34 rfl Tryz.ntmps34 fun hg0 hS=>Ae [] 0 hS fun hS=>Ax [(1,iY n 1)] [] 1 hS fun hS=>Av (Ae [] 1 hS fun hS=>Br (Ar (ι:=Nat×(List Int)) hg0 hS (fun(x6,x5)=>(n-x6,[(6,vi ((x6:Nat):Int))],[(0,.sl 5 [.int .u8] x5)],(x6≤n)∧(x5=Oz v n x6)∧(x5.length=n)∧True)) [0,1,4,5] [] 1 (0,List.replicate n (0:Int)) [(0,0)] ⟨Ac,rfl,(by simp),trivial⟩ ?_))
 rintro⟨x6,x5⟩ ac gs ws ⟨hx6,hq1,p1,_⟩ hS
 refine Av (Ae [] 1 hS fun hS=>AB ((x6:Int)<(n:Int)) hS (fun h1=> ?_) (fun h1=> ?_))
 ·exact BE (As [(2,ZH (n:Int) 1),(4,ZH ((n:Int)-1) (x6:Int)),(7,HJ 8 x6 (8*x6)),(8,EQ (8*x6)),(10,XZ (((n:Int)-1)-(x6:Int)) x5.length)] [] 1 hS fun hS=>BV (As [(1,BH x6)] [6] 1 hS fun hS=>Ab (Al hg0 hS (x6+1,x5.set (Int.toNat (((n:Int)-1)-(x6:Int))) (IntKind.wrap .u8 (AY .u64 v ((8*x6:Nat):Int)))) [(0,0)] ⟨Ac,(A3 (st:=SK _ _) hq1 rfl rfl),(by rw[List.length_set];exact p1),trivial⟩)))
 ·have hT:=hS
  obtain rfl:n=x6:=by omega
  obtain rfl:=hq1.symm
  have hS:=hT
  exact CO (Ae [] 1 hS fun hS=>AR (Bi (mM ..) hS))
end
section
variable (xs:List Int)
def HW (x6:Nat):Int→Int:=fun x5=>if(x6:Int)<((xs.length:Nat):Int)then(C9 .u64 (Bf .u64 x5 8) (IntKind.wrap .u64 (xs.getD x6 0)))else(Bf .u64 x5 8)
def KE (xs:List Int):Nat→Int
 |0=>0
 |x6+1=>HW xs x6 (KE xs x6)
def SE (n:Nat):Int:=(KE xs n)
def JF (n:Nat):Int:=AJ (SE xs n)
theorem eB (n:Nat):JF xs n=SE xs n:=Ag _
def gS (n:Nat) (z_:Int:=JF xs n):Con:=⟨[lb xs,vi (n:Int)],[],.v (.int .u64 z_),[]⟩
theorem Yp (n:Nat) (hn:n≤1000):ConOk Tryz.prog 137 (gS xs n):=by
 refine cy 0 Tryz.func137 rfl Tryz.ntmps137 fun hg0 hS=> ?_
 have A7:xs.length≤9223372036854775807:=hS.len 0 rfl
 refine Ae [] 0 hS fun hS=>Ae [] 0 hS fun hS=>Av (Ae [] 0 hS fun hS=>Br (Ar (ι:=Nat×Int) hg0 hS (fun(x6,x5)=>(n-x6,[(5,.v (.int .u64 x5)),(6,vi ((x6:Nat):Int))],[],(x6≤n)∧(x5=KE xs x6)∧True)) [0,1,4] [] 0 (0,0) [] ⟨Ac,rfl,trivial⟩ ?_))
 rintro⟨x6,x5⟩ ac gs ws ⟨hx6,hq1,_⟩ hS
 refine Av (Ae [] 0 hS fun hS=>AB ((x6:Int)<(n:Int)) hS (fun h1=> ?_) (fun h1=> ?_))
 ·refine BE (Ax [(1,EQ 8)] [5] 0 hS fun hS=>Ae [] 0 hS fun hS=>AB ((x6:Int)<((xs.length:Nat):Int)) hS (fun h2=> ?_) (fun h2=> ?_))
  ·exact As [(3,AD x6 xs.length)] [5] 0 hS fun hS=>BV (As [(1,BH x6)] [6] 0 hS fun hS=>Ab (Al hg0 hS (x6+1,(C9 .u64 (Bf .u64 x5 8) (IntKind.wrap .u64 (xs.getD x6 0)))) [] ⟨Ac,(A3 (st:=HW _) hq1 rfl (Eq.symm (if_pos h2))),trivial⟩))
  ·exact G8 (As [(1,BH x6)] [6] 0 hS fun hS=>Ab (Al hg0 hS (x6+1,(Bf .u64 x5 8)) [] ⟨Ac,(A3 (st:=HW _) hq1 rfl (Eq.symm (if_neg h2))),trivial⟩))
 ·have hT:=hS
  obtain rfl:n=x6:=by omega
  obtain rfl:=hq1.symm
  have hS:=hT
  exact CO (Ae [] 0 hS fun hS=>AR (Bi (eB ..) hS))
def T0 (n:Nat):(List Int):=xs.take (List.replicate n (0:Int)).length++(List.replicate n (0:Int)).drop xs.length
def F1 (n:Nat):(List Int):=AJ (T0 xs n)
theorem aG (n:Nat):F1 xs n=T0 xs n:=Ag _
def z6 (n:Nat) (z_:(List Int):=F1 xs n):Con:=⟨[lb xs,vi (n:Int)],[],.sk 0,[(0,.sl 5 [.int .u8] z_)]⟩
theorem lT (n:Nat) (hn:n≤1000):ConOk Tryz.prog 100 (z6 xs n):=by
 refine cy 0 Tryz.func100 rfl Tryz.ntmps100 fun hg0 hS=> ?_
 have A7:xs.length≤9223372036854775807:=hS.len 0 rfl
 exact Ae [] 0 hS fun hS=>Ax [(1,iY n 1)] [] 1 hS fun hS=>Ae [] 1 hS fun hS=>Ae [] 1 hS fun hS=>AR (Bi (aG ..) hS)
end
section
variable (l:List (List Int))
def SI (x4:Nat):(List Int)→(List Int):=fun x3=>x3++(l.getD x4 (rz [.sl (.int .u8)]))
def LV (l:List (List Int)):Nat→(List Int)
 |0=>[]
 |x4+1=>SI l x4 (LV l x4)
def mI:(List Int):=LV l l.length
def DK:(List Int):=AJ (mI l)
theorem mJ:DK l=mI l:=Ag _
def AdF (z_:(List Int):=DK l):Con:=⟨[.ls false [.sl (.int .u8)] l],[],.sk 0,[(0,.sl 5 [.int .u8] z_)]⟩
theorem v5 (hn:l.length≤1000) (hm:∀j,(l.getD j (rz [.sl (.int .u8)])).length≤3000):ConOk Tryz.prog 98 (AdF l):=by
 refine cy 0 Tryz.func98 rfl Tryz.ntmps98 fun hg0 hS=> ?_
 have A7:l.length≤9223372036854775807:=hS.len 0 rfl
 refine Ae [] 0 hS fun hS=>Ae [] 0 hS fun hS=>Av (Ae [] 0 hS fun hS=>Br ?_)
 obtain⟨gs,hS⟩:=hS.nilk 3 5 [.int .u8]
 refine Ar (ι:=Nat×(List Int)) hg0 hS (fun(x4,x3)=>(l.length-x4,[(4,vi ((x4:Nat):Int))],[(0,.sl 5 [.int .u8] x3)],(x4≤l.length)∧(x3=LV l x4)∧(x3.length≤3000*x4)∧True)) [0,2,3] [] 1 (0,[]) [(0,0)] ⟨Ac,rfl,(by simp),trivial⟩ ?_
 rintro⟨x4,x3⟩ ac gs ws ⟨hx4,hq1,p1,_⟩ hS
 refine Av (Ae [] 1 hS fun hS=>AB ((x4:Int)<((l.length:Nat):Int)) hS (fun h1=> ?_) (fun h1=> ?_))
 ·refine BE ?_
  have hmx:=hm x4
  exact As [(3,AD x4 l.length),(5,FW x3.length ((l.getD x4 (rz [.sl (.int .u8)])).length) 1 Ac)] [3] 2 hS fun hS=>BV (As [(1,BH x4)] [4] 2 hS fun hS=>Ab (Al hg0 hS (x4+1,x3++(l.getD x4 (rz [.sl (.int .u8)]))) [(0,1)] ⟨Ac,(A3 (st:=SI _) hq1 rfl rfl),(by rw[List.length_append];have :=hm x4;omega),trivial⟩))
 ·have hT:=hS
  obtain rfl:l.length=x4:=by omega
  obtain rfl:=hq1.symm
  have hS:=hT
  exact CO (Ae [] 1 hS fun hS=>AR (Bi (mJ ..) hS))
theorem eI:DK l=l.flatten:=by
 have key:∀i,i≤l.length→LV l i=(l.take i).flatten:=by
  intro i
  induction i with
  |zero=>intro _;rfl
  |succ i ih=>
   intro hi
   show LV l i++List.getD (α:=List Int) l i []=_
   rw[ih Ac,List.take_succ_eq_append_getElem Ac,List.flatten_append,List.getD_eq_getElem?_getD,List.getElem?_eq_getElem Ac]
   simp
 rw[mJ]
 exact(key _ (Nat.le_refl _)).trans (by rw[List.take_length])
end
@[simp] theorem AeO (l:List (List Int)):(DK l).length=l.flatten.length:=by rw[eI]
def SA:(Nat→Int):=upd (upd (upd (upd (upd (upd (upd (upd (upd (upd (upd (upd (upd (upd (upd (upd (upd (upd (upd (upd (upd (upd (upd (upd (upd (upd (upd (upd (upd (upd (upd (upd (upd (upd (upd (upd (upd (upd (upd (upd (upd (upd (upd (upd (upd (upd (upd (upd (upd (upd (upd (upd (upd (upd (upd (upd (upd (upd (upd (upd (upd (upd (upd (upd (upd (upd (upd (upd (upd (upd (upd (upd (upd (upd (upd (upd (upd (upd (upd (upd (fun _=>0) 0 4794697086780616226) 1 8158064640168781261) 2 13096744586834688815) 3 16840607885511220156) 4 4131703408338449720) 5 6480981068601479193) 6 10538285296894168987) 7 12329834152419229976) 8 15566598209576043074) 9 1334009975649890238) 10 2608012711638119052) 11 6128411473006802146) 12 8268148722764581231) 13 9286055187155687089) 14 11230858885718282805) 15 13951009754708518548) 16 16472876342353939154) 17 17275323862435702243) 18 1135362057144423861) 19 2597628984639134821) 20 3308224258029322869) 21 5365058923640841347) 22 6679025012923562964) 23 8573033837759648693) 24 10970295158949994411) 25 12119686244451234320) 26 12683024718118986047) 27 13788192230050041572) 28 14330467153632333762) 29 15395433587784984357) 30 489312712824947311) 31 1452737877330783856) 32 2861767655752347644) 33 3322285676063803686) 34 5560940570517711597) 35 5996557281743188959) 36 7280758554555802590) 37 8532644243296465576) 38 9350256976987008742) 39 10552545826968843579) 40 11727347734174303076) 41 12113106623233404929) 42 14000437183269869457) 43 14369950271660146224) 44 15101387698204529176) 45 15463397548674623760) 46 17586052441742319658) 47 1182934255886127544) 48 1847814050463011016) 49 2177327727835720531) 50 2830643537854262169) 51 3796741975233480872) 52 4115178125766777443) 53 5681478168544905931) 54 6601373596472566643) 55 7507060721942968483) 56 8399075790359081724) 57 8693463985226723168) 58 9568029438360202098) 59 10144078919501101548) 60 10430055236837252648) 61 11840083180663258601) 62 13761210420658862357) 63 14299343276471374635) 64 14566680578165727644) 65 15097957966210449927) 66 16922976911328602910) 67 17689382322260857208) 68 500013540394364858) 69 748580250866718886) 70 1242879168328830382) 71 1977374033974150939) 72 2944078676154940804) 73 3659926193048069267) 74 4368137639120453308) 75 4836135668995329356) 76 5532061633213252278) 77 6448918945643986474) 78 6902733635092675308) 79 7801388544844847127
def Ge:(Nat→Int):=AJ (SA)
theorem d8:Ge=SA:=Ag _
def gR (z_:(Nat→Int):=Ge):Con:=⟨[],[],.ar .u64 80 z_,[]⟩
theorem Yn:ConOk Tryz.prog 135 (gR):=by
 exact cy 0 Tryz.func135 rfl Tryz.ntmps135 fun hg0 hS=>Ae [] 1 hS fun hS=>Ae [] 1 hS fun hS=>AR (Bi (d8 ..) hS)
def V4:(Nat→Int):=upd (upd (upd (upd (upd (upd (upd (upd (fun _=>0) 0 7640891576956012808) 1 13503953896175478587) 2 4354685564936845355) 3 11912009170470909681) 4 5840696475078001361) 5 11170449401992604703) 6 2270897969802886507) 7 6620516959819538809
def LI:(Nat→Int):=AJ (V4)
theorem lG:LI=V4:=Ag _
def r6 (z_:(Nat→Int):=LI):Con:=⟨[],[],.ar .u64 8 z_,[]⟩
theorem d7:ConOk Tryz.prog 136 (r6):=by
 exact cy 0 Tryz.func136 rfl Tryz.ntmps136 fun hg0 hS=>Ae [] 1 hS fun hS=>Ae [] 1 hS fun hS=>AR (Bi (lG ..) hS)
end
end Go.Sx.Tryz
namespace Go.Sx.Tryz
open Go.Mi Go.RowKit Go.Sx Go.Proofs
noncomputable section
@[simp] theorem Qd (v:Int) (n:Nat):(C3 v n).length=n:=by
 have key:∀i,(Oz v n i).length=n:=by
  intro i
  induction i with
  |zero=>exact List.length_replicate
  |succ i ih=>exact(List.length_set ..).trans ih
 rw[mM]
 exact key n
def Sz (x6:Nat):(Nat→Int)→(Nat→Int):=fun o5_0=>upd o5_0 x6 (IntKind.wrap .u32 (AY .u64 (LI x6) 32))
def Ow:Nat→(Nat→Int)
 |0=>fun _=>0
 |x6+1=>Sz x6 (Ow x6)
def Sy (k2:Nat):(List Int)→(List Int):=fun x7=>x7++([0]:List Int)
def B3 (xs:List Int):Nat→(List Int)
 |0=>([]++xs)++([128]:List Int)
 |k2+1=>Sy k2 (B3 xs k2)
def Dc:(List Int)→Prop:=fun x7=>¬(((x7.length%64:Nat):Int)=56)
def Sv (xs:List Int) (x8 x10:Nat):(Nat→Int)→(Nat→Int):=fun o9_0=>upd o9_0 x10 (IntKind.wrap .u32 (JF ((((B3 xs (CS fun j=>Dc (B3 xs j)))++(C3 (BL .u64 ((xs.length:Nat):Int) 8) 8)).take ((x8+(4*x10))+4)).drop (x8+(4*x10))) 4))
def Ov (xs:List Int) (x8:Nat):Nat→(Nat→Int)
 |0=>fun _=>0
 |x10+1=>Sv xs x8 x10 (Ov xs x8 x10)
def Su (k5:Nat):(Nat×(Nat→Int))→(Nat×(Nat→Int)):=fun(x11,o9_0)=>(x11+1,upd o9_0 x11 (AZ .u32 (AZ .u32 (AZ .u32 (o9_0 (x11-16)) (AK .u32 (AK .u32 (B_ (o9_0 (x11-15)) 7) (B_ (o9_0 (x11-15)) 18)) (AY .u32 (o9_0 (x11-15)) 3))) (o9_0 (x11-7))) (AK .u32 (AK .u32 (B_ (o9_0 (x11-2)) 17) (B_ (o9_0 (x11-2)) 19)) (AY .u32 (o9_0 (x11-2)) 10))))
def EU (xs:List Int) (x8:Nat):Nat→Nat×(Nat→Int)
 |0=>(16,Ov xs x8 16)
 |k5+1=>Su k5 (EU xs x8 k5)
def Hl:(Nat×(Nat→Int))→Prop:=fun(x11,o9_0)=>((x11:Nat):Int)<64
section
variable (xs:List Int)
def Ss (x8 x15:Nat):(Nat→Int)→(Nat→Int):=fun o14_0=>upd (upd (upd (upd (upd (upd (upd (upd (fun _=>0) 0 (AZ .u32 (AZ .u32 (AZ .u32 (AZ .u32 (AZ .u32 (o14_0 7) (AK .u32 (AK .u32 (B_ (o14_0 4) 6) (B_ (o14_0 4) 11)) (B_ (o14_0 4) 25))) (AK .u32 (A6 .u32 (o14_0 4) (o14_0 5)) (A6 .u32 (KW .u32 (o14_0 4)) (o14_0 6)))) (IntKind.wrap .u32 (AY .u64 (Ge x15) 32))) (((EU xs x8 (CS fun j=>Hl (EU xs x8 j))).2) x15)) (AZ .u32 (AK .u32 (AK .u32 (B_ (o14_0 0) 2) (B_ (o14_0 0) 13)) (B_ (o14_0 0) 22)) (AK .u32 (AK .u32 (A6 .u32 (o14_0 0) (o14_0 1)) (A6 .u32 (o14_0 0) (o14_0 2))) (A6 .u32 (o14_0 1) (o14_0 2)))))) 1 (o14_0 0)) 2 (o14_0 1)) 3 (o14_0 2)) 4 (AZ .u32 (o14_0 3) (AZ .u32 (AZ .u32 (AZ .u32 (AZ .u32 (o14_0 7) (AK .u32 (AK .u32 (B_ (o14_0 4) 6) (B_ (o14_0 4) 11)) (B_ (o14_0 4) 25))) (AK .u32 (A6 .u32 (o14_0 4) (o14_0 5)) (A6 .u32 (KW .u32 (o14_0 4)) (o14_0 6)))) (IntKind.wrap .u32 (AY .u64 (Ge x15) 32))) (((EU xs x8 (CS fun j=>Hl (EU xs x8 j))).2) x15)))) 5 (o14_0 4)) 6 (o14_0 5)) 7 (o14_0 6)
def Ou (xs:List Int) (x8:Nat) (o5_0:Nat→Int):Nat→(Nat→Int)
 |0=>o5_0
 |x15+1=>Ss xs x8 x15 (Ou xs x8 o5_0 x15)
def Sr (x8:Nat) (o5_0:Nat→Int) (x20:Nat):(Nat→Int)→(Nat→Int):=fun o5_0_7=>upd o5_0_7 x20 (AZ .u32 (o5_0_7 x20) ((Ou xs x8 o5_0 64) x20))
def Ot (xs:List Int) (x8:Nat) (o5_0:Nat→Int):Nat→(Nat→Int)
 |0=>o5_0
 |x20+1=>Sr xs x8 o5_0 x20 (Ot xs x8 o5_0 x20)
def Sw (k3:Nat):(Nat×(Nat→Int))→(Nat×(Nat→Int)):=fun(x8,o5_0)=>(x8+64,Ot xs x8 o5_0 8)
def EV (xs:List Int):Nat→Nat×(Nat→Int)
 |0=>(0,Ow 8)
 |k3+1=>Sw xs k3 (EV xs k3)
def Hm:(Nat×(Nat→Int))→Prop:=fun(x8,o5_0)=>((x8:Nat):Int)<((((B3 xs (CS fun j=>Dc (B3 xs j)))++(C3 (BL .u64 ((xs.length:Nat):Int) 8) 8)).length:Nat):Int)
def Sq (x22:Nat):(List Int)→(List Int):=fun x21=>x21++(C3 (IntKind.wrap .u64 (((EV xs (CS fun j=>Hm xs (EV xs j))).2) x22)) 4)
def Oq (xs:List Int):Nat→(List Int)
 |0=>[]
 |x22+1=>Sq xs x22 (Oq xs x22)
def lD:(List Int):=Oq xs 8
def HV:(List Int):=AJ (lD xs)
theorem lF:HV xs=lD xs:=Ag _
def Adw (z_:(List Int):=HV xs):Con:=⟨[lb xs],[],.sk 0,[(0,.sl 5 [.int .u8] z_)]⟩
theorem vL (hx:xs.length≤1000000):ConOk Tryz.prog 99 (Adw xs):=by
 refine cy 0 Tryz.func99 rfl Tryz.ntmps99 fun hg0 hS=> ?_
 have A7:xs.length≤9223372036854775807:=hS.len 0 rfl
 refine Ae [] 0 hS fun hS=>Ax [(0,AP (Yn))] [3] 1 hS fun hS=>Ax [(0,AP (d7))] [4] 2 hS fun hS=>Ae [] 3 hS fun hS=>Av (Ae [] 3 hS fun hS=>Br (Ar (ι:=Nat×(Nat→Int)) hg0 hS (fun(x6,o5_0)=>(8-x6,[(6,vi ((x6:Nat):Int))],[(2,Ob9 o5_0)],(x6≤8)∧(o5_0=Ow x6)∧True)) [0,2,3,4,5] [0,1] 3 (0,fun _=>0) [(0,0),(1,1),(2,2)] ⟨Ac,rfl,trivial⟩ ?_))
 rintro⟨x6,o5_0⟩ ac gs ws ⟨hx6,hq1,_⟩ hS
 refine Av (Ae [] 3 hS fun hS=>AB ((x6:Int)<8) hS (fun h1=> ?_) (fun h1=> ?_))
 ·exact BE (As [(2,AD x6 8),(4,EQ 32),(6,AD x6 8)] [] 3 hS fun hS=>BV (As [(1,BH x6)] [6] 3 hS fun hS=>Ab (Al hg0 hS (x6+1,upd o5_0 x6 (IntKind.wrap .u32 (AY .u64 (LI x6) 32))) [(0,0),(1,1),(2,2)] ⟨Ac,(A3 (st:=Sz) hq1 rfl rfl),trivial⟩)))
 ·have hT:=hS
  obtain rfl:8=x6:=by omega
  obtain rfl:=hq1.symm
  have hS:=hT
  refine CO (Ax [(0,Row),(2,FW 0 xs.length 1),(4,FW (([]++xs).length) 1 1)] [] 6 hS fun hS=>Av (Br (Ar (ι:=Nat×(List Int)) hg0 hS (fun(k2,x7)=>((120-x7.length%64)%64,[],[(5,.sl 5 [.int .u8] x7)],(x7=B3 xs k2)∧(∀j,j<k2→Dc (B3 xs j))∧(x7.length+(120-x7.length%64)%64≤xs.length+65)∧True)) [0,2,3,5,7] [0,2] 6 (0,([]++xs)++([128]:List Int)) [(0,0),(2,2),(5,5)] ⟨rfl,(fun j h=>absurd h (Nat.not_lt_zero j)),(by rw[List.length_append,List.length_append,List.length_cons,List.length_nil];omega),trivial⟩ ?_)))
  rintro⟨k2,x7⟩ ac gs ws ⟨hq2,hj2,p1,_⟩ hS
  refine Av (Ax [(2,Ll x7.length 64)] [] 6 hS fun hS=>Iz (((x7.length%64:Nat):Int)=56) hS (fun h2=> ?_) (fun h2=> ?_))
  ·exact BP (Br (As [(2,FW x7.length 1 1)] [7] 7 hS fun hS=>BV (Al hg0 hS (k2+1,x7++([0]:List Int)) [(0,0),(2,2),(5,6)] ⟨(A3 (st:=Sy) hq2 rfl rfl),(A0 hj2 (by rw[←hq2];exact h2)),(by rw[List.length_append,List.length_cons,List.length_nil];omega),trivial⟩ (by show(120-(x7++[0]).length%64)%64<(120-x7.length%64)%64;rw[List.length_append,List.length_cons,List.length_nil];omega))))
  ·have hT:=hS
   obtain rfl:=BK (by rw[←hq2];first |exact h2|exact not_not_intro h2) hj2
   obtain rfl:=hq2.symm
   have hS:=hT
   refine CO (Ax [(3,XR xs.length),(5,AM (Ub (BL .u64 ((xs.length:Nat):Int) 8) 8 Ac) [] [(0,6)]),(6,FW ((B3 xs (CS fun j=>Dc (B3 xs j))).length) ((C3 (BL .u64 ((xs.length:Nat):Int) 8) 8).length) 1)] [7] 8 hS fun hS=>Il ?_)
   obtain⟨gs,hS⟩:=hS.fz 7
   have hml:((B3 xs (CS fun j=>Dc (B3 xs j)))++(C3 (BL .u64 ((xs.length:Nat):Int) 8) 8)).length%64=0∧((B3 xs (CS fun j=>Dc (B3 xs j)))++(C3 (BL .u64 ((xs.length:Nat):Int) 8) 8)).length≤2000000:=by rw[List.length_append,Qd];omega
   refine Dj [] 8 hS fun hS=>Ab (Br (Ar (ι:=Nat×Nat×(Nat→Int)) hg0 hS (fun(k3,x8,o5_0)=>(((B3 xs (CS fun j=>Dc (B3 xs j)))++(C3 (BL .u64 ((xs.length:Nat):Int) 8) 8)).length-x8,[(8,vi (x8:Int))],[(2,Ob9 o5_0)],((x8,o5_0)=EV xs k3)∧(∀j,j<k3→Hm xs (EV xs j))∧(x8%64=0)∧True)) [2,3,5,7] [0] 3 (0,0,Ow 8) [(0,0),(2,2)] ⟨rfl,(fun j h=>absurd h (Nat.not_lt_zero j)),(by simp),trivial⟩ ?_))
   rintro⟨k3,x8,o5_0⟩ ac gs ws ⟨hq3,hj3,p2,_⟩ hS
   refine Av (Ae [] 3 hS fun hS=>AB ((x8:Int)<((((B3 xs (CS fun j=>Dc (B3 xs j)))++(C3 (BL .u64 ((xs.length:Nat):Int) 8) 8)).length:Nat):Int)) hS (fun h3=> ?_) (fun h3=> ?_))
   ·refine BE (Ae [] 4 hS fun hS=>Av (Ae [] 4 hS fun hS=>Br (Ar (ι:=Nat×(Nat→Int)) hg0 hS (fun(x10,o9_0)=>(16-x10,[(10,vi ((x10:Nat):Int))],[(3,Aew o9_0)],(x10≤16)∧(o9_0=Ov xs x8 x10)∧True)) [2,3,5,7,8,9] [0,2] 4 (0,fun _=>0) [(0,0),(2,2),(3,3)] ⟨Ac,rfl,trivial⟩ ?_)))
    rintro⟨x10,o9_0⟩ ac gs ws ⟨hx10,hq4,_⟩ hS
    refine Av (Ae [] 4 hS fun hS=>AB ((x10:Int)<16) hS (fun h4=> ?_) (fun h4=> ?_))
    ·exact BE (As [(4,HJ 4 x10 (4*x10)),(5,Ek x8 (4*x10) (x8+(4*x10))),(8,HJ 4 x10 (4*x10)),(9,Ek x8 (4*x10) (x8+(4*x10))),(10,Ek (x8+(4*x10)) 4 ((x8+(4*x10))+4)),(11,Rbk (x8+(4*x10)) ((x8+(4*x10))+4) ((B3 xs (CS fun j=>Dc (B3 xs j)))++(C3 (BL .u64 ((xs.length:Nat):Int) 8) 8)).length),(12,AP (Yp ((((B3 xs (CS fun j=>Dc (B3 xs j)))++(C3 (BL .u64 ((xs.length:Nat):Int) 8) 8)).take ((x8+(4*x10))+4)).drop (x8+(4*x10))) 4 Ac)),(14,AD x10 64)] [] 4 hS fun hS=>BV (As [(1,BH x10)] [10] 4 hS fun hS=>Ab (Al hg0 hS (x10+1,upd o9_0 x10 (IntKind.wrap .u32 (JF ((((B3 xs (CS fun j=>Dc (B3 xs j)))++(C3 (BL .u64 ((xs.length:Nat):Int) 8) 8)).take ((x8+(4*x10))+4)).drop (x8+(4*x10))) 4))) [(0,0),(2,2),(3,3)] ⟨Ac,(A3 (st:=Sv _ _) hq4 rfl rfl),trivial⟩)))
    ·have hT:=hS
     obtain rfl:16=x10:=by omega
     obtain rfl:=hq4.symm
     have hS:=hT
     refine ML (Ae [] 4 hS fun hS=>Br (Ar (ι:=Nat×Nat×(Nat→Int)) hg0 hS (fun(k5,x11,o9_0)=>(64-x11,[(11,vi (x11:Int))],[(3,Aew o9_0)],((x11,o9_0)=EU xs x8 k5)∧(∀j,j<k5→Hl (EU xs x8 j))∧(16≤x11∧x11≤64)∧True)) [2,3,5,7,8,9] [0,2] 4 (0,16,Ov xs x8 16) [(0,0),(2,2),(3,3)] ⟨rfl,(fun j h=>absurd h (Nat.not_lt_zero j)),Ac,trivial⟩ ?_))
     rintro⟨k5,x11,o9_0⟩ ac gs ws ⟨hq5,hj5,p3,_⟩ hS
     refine Av (Ae [] 4 hS fun hS=>AB ((x11:Int)<64) hS (fun h5=> ?_) (fun h5=> ?_))
     ·exact BE (Ax [(1,G9 x11 15 (x11-15)),(2,AD (x11-15) 64),(4,AP (FB (o9_0 (x11-15)) 7 Ac)),(6,G9 x11 15 (x11-15)),(7,AD (x11-15) 64),(9,AP (FB (o9_0 (x11-15)) 18 Ac)),(12,G9 x11 15 (x11-15)),(13,AD (x11-15) 64),(15,EQ 3)] [] 4 hS fun hS=>Ax [(1,G9 x11 2 (x11-2)),(2,AD (x11-2) 64),(4,AP (FB (o9_0 (x11-2)) 17 Ac)),(6,G9 x11 2 (x11-2)),(7,AD (x11-2) 64),(9,AP (FB (o9_0 (x11-2)) 19 Ac)),(12,G9 x11 2 (x11-2)),(13,AD (x11-2) 64),(15,EQ 10)] [] 4 hS fun hS=>As [(2,G9 x11 16 (x11-16)),(3,AD (x11-16) 64),(8,G9 x11 7 (x11-7)),(9,AD (x11-7) 64),(14,AD x11 64)] [] 4 hS fun hS=>BV (As [(1,BH x11)] [11] 4 hS fun hS=>Ab (Al hg0 hS (k5+1,x11+1,upd o9_0 x11 (AZ .u32 (AZ .u32 (AZ .u32 (o9_0 (x11-16)) (AK .u32 (AK .u32 (B_ (o9_0 (x11-15)) 7) (B_ (o9_0 (x11-15)) 18)) (AY .u32 (o9_0 (x11-15)) 3))) (o9_0 (x11-7))) (AK .u32 (AK .u32 (B_ (o9_0 (x11-2)) 17) (B_ (o9_0 (x11-2)) 19)) (AY .u32 (o9_0 (x11-2)) 10)))) [(0,0),(2,2),(3,3)] ⟨(A3 (st:=Su) hq5 rfl rfl),(A0 hj5 (by rw[←hq5];exact h5)),Ac,trivial⟩)))
     ·have hT:=hS
      obtain rfl:=BK (by rw[←hq5];first |exact h5|exact not_not_intro h5) hj5
      obtain⟨rfl,rfl⟩:=Ug hq5
      have hS:=hT
      refine CO (Ae [14] 5 hS fun hS=>Av (Ae [] 5 hS fun hS=>Br (Ar (ι:=Nat×(Nat→Int)) hg0 hS (fun(x15,o14_0)=>(64-x15,[(15,vi ((x15:Nat):Int))],[(4,Ob9 o14_0)],(x15≤64)∧(o14_0=Ou xs x8 o5_0 x15)∧True)) [2,3,5,7,8,9,14] [0,2,3] 5 (0,o5_0) [(0,0),(2,2),(3,3),(4,4)] ⟨Ac,rfl,trivial⟩ ?_)))
      rintro⟨x15,o14_0⟩ ac gs ws ⟨hx15,hq6,_⟩ hS
      refine Av (Ae [] 5 hS fun hS=>AB ((x15:Int)<64) hS (fun h6=> ?_) (fun h6=> ?_))
      ·exact BE (Ax [(0,AD 4 8)] [] 5 hS fun hS=>Ax [(0,AD 0 8)] [] 5 hS fun hS=>Ax [(0,AD 7 8),(3,AP (FB (o14_0 4) 6 Ac)),(5,AP (FB (o14_0 4) 11 Ac)),(8,AP (FB (o14_0 4) 25 Ac)),(12,AD 5 8),(17,AD 6 8),(23,AD x15 80),(25,EQ 32),(29,AD x15 64)] [] 5 hS fun hS=>Ax [(1,AP (FB (o14_0 0) 2 Ac)),(3,AP (FB (o14_0 0) 13 Ac)),(6,AP (FB (o14_0 0) 22 Ac)),(9,AD 1 8),(13,AD 2 8),(17,AD 1 8),(19,AD 2 8)] [] 5 hS fun hS=>As [(3,AD 0 8),(5,AD 1 8),(7,AD 2 8),(9,AD 3 8),(13,AD 4 8),(15,AD 5 8),(17,AD 6 8)] [] 5 hS fun hS=>BV (As [(1,BH x15)] [15] 5 hS fun hS=>Ab (Al hg0 hS (x15+1,upd (upd (upd (upd (upd (upd (upd (upd (fun _=>0) 0 (AZ .u32 (AZ .u32 (AZ .u32 (AZ .u32 (AZ .u32 (o14_0 7) (AK .u32 (AK .u32 (B_ (o14_0 4) 6) (B_ (o14_0 4) 11)) (B_ (o14_0 4) 25))) (AK .u32 (A6 .u32 (o14_0 4) (o14_0 5)) (A6 .u32 (KW .u32 (o14_0 4)) (o14_0 6)))) (IntKind.wrap .u32 (AY .u64 (Ge x15) 32))) (((EU xs x8 (CS fun j=>Hl (EU xs x8 j))).2) x15)) (AZ .u32 (AK .u32 (AK .u32 (B_ (o14_0 0) 2) (B_ (o14_0 0) 13)) (B_ (o14_0 0) 22)) (AK .u32 (AK .u32 (A6 .u32 (o14_0 0) (o14_0 1)) (A6 .u32 (o14_0 0) (o14_0 2))) (A6 .u32 (o14_0 1) (o14_0 2)))))) 1 (o14_0 0)) 2 (o14_0 1)) 3 (o14_0 2)) 4 (AZ .u32 (o14_0 3) (AZ .u32 (AZ .u32 (AZ .u32 (AZ .u32 (o14_0 7) (AK .u32 (AK .u32 (B_ (o14_0 4) 6) (B_ (o14_0 4) 11)) (B_ (o14_0 4) 25))) (AK .u32 (A6 .u32 (o14_0 4) (o14_0 5)) (A6 .u32 (KW .u32 (o14_0 4)) (o14_0 6)))) (IntKind.wrap .u32 (AY .u64 (Ge x15) 32))) (((EU xs x8 (CS fun j=>Hl (EU xs x8 j))).2) x15)))) 5 (o14_0 4)) 6 (o14_0 5)) 7 (o14_0 6)) [(0,0),(2,2),(3,3),(4,4)] ⟨Ac,(A3 (st:=Ss _ _) hq6 rfl rfl),trivial⟩)))
      ·have hT:=hS
       obtain rfl:64=x15:=by omega
       obtain rfl:=hq6.symm
       have hS:=hT
       refine CO (Ae [] 5 hS fun hS=>Br (Ar (ι:=Nat×(Nat→Int)) hg0 hS (fun(x20,o5_0_7)=>(8-x20,[(20,vi ((x20:Nat):Int))],[(2,Ob9 o5_0_7)],(x20≤8)∧(o5_0_7=Ot xs x8 o5_0 x20)∧True)) [2,3,5,7,8,14] [0,4] 5 (0,o5_0) [(0,0),(2,2),(4,4)] ⟨Ac,rfl,trivial⟩ ?_))
       rintro⟨x20,o5_0_7⟩ ac gs ws ⟨hx20,hq7,_⟩ hS
       refine Av (Ae [] 5 hS fun hS=>AB ((x20:Int)<8) hS (fun h7=> ?_) (fun h7=> ?_))
       ·exact BE (As [(2,AD x20 8),(5,AD x20 8),(8,AD x20 8)] [] 5 hS fun hS=>BV (As [(1,BH x20)] [20] 5 hS fun hS=>Ab (Al hg0 hS (x20+1,upd o5_0_7 x20 (AZ .u32 (o5_0_7 x20) ((Ou xs x8 o5_0 64) x20))) [(0,0),(2,2),(4,4)] ⟨Ac,(A3 (st:=Sr _ _ _) hq7 rfl rfl),trivial⟩)))
       ·have hT:=hS
        obtain rfl:8=x20:=by omega
        obtain rfl:=hq7.symm
        have hS:=hT
        exact Vx (As [(1,Ek x8 64 (x8+64))] [8] 5 hS fun hS=>Ab (Al hg0 hS (k3+1,x8+64,Ot xs x8 o5_0 8) [(0,0),(2,2)] ⟨(A3 (st:=Sw _) hq3 rfl rfl),(A0 hj3 (by rw[←hq3];exact h3)),Ac,trivial⟩))
   ·have hT:=hS
    obtain rfl:=BK (by rw[←hq3];first |exact h3|exact not_not_intro h3) hj3
    obtain⟨rfl,rfl⟩:=Ug hq3
    have hS:=hT
    refine CO (Ae [] 3 hS fun hS=>Av (Ae [] 3 hS fun hS=>Br ?_))
    obtain⟨gs,hS⟩:=hS.nilk 21 5 [.int .u8]
    refine Ar (ι:=Nat×(List Int)) hg0 hS (fun(x22,x21)=>(8-x22,[(22,vi ((x22:Nat):Int))],[(3,.sl 5 [.int .u8] x21)],(x22≤8)∧(x21=Oq xs x22)∧(x21.length=4*x22)∧True)) [2,5,21] [2] 4 (0,[]) [(2,2),(3,3)] ⟨Ac,rfl,rfl,trivial⟩ ?_
    rintro⟨x22,x21⟩ ac gs ws ⟨hx22,hq8,p4,_⟩ hS
    refine Av (Ae [] 4 hS fun hS=>AB ((x22:Int)<8) hS (fun h8=> ?_) (fun h8=> ?_))
    ·exact BE (As [(2,AD x22 8),(5,AM (Ub (IntKind.wrap .u64 (((EV xs (CS fun j=>Hm xs (EV xs j))).2) x22)) 4 Ac) [] [(0,4)]),(6,FW x21.length ((C3 (IntKind.wrap .u64 (((EV xs (CS fun j=>Hm xs (EV xs j))).2) x22)) 4).length) 1)] [21] 6 hS fun hS=>BV (As [(1,BH x22)] [22] 6 hS fun hS=>Ab (Al hg0 hS (x22+1,x21++(C3 (IntKind.wrap .u64 (((EV xs (CS fun j=>Hm xs (EV xs j))).2) x22)) 4)) [(2,2),(3,5)] ⟨Ac,(A3 (st:=Sq _) hq8 rfl rfl),(by rw[List.length_append,Qd];omega),trivial⟩)))
    ·have hT:=hS
     obtain rfl:8=x22:=by omega
     obtain rfl:=hq8.symm
     have hS:=hT
     refine CO (Ae [] 4 hS fun hS=>AR ?_)
     obtain⟨gs,hS⟩:=hS.rx [(0,3)] [2] [0] 1 hg0
     exact Bi (lF ..) hS
end
@[simp] theorem lE (xs:List Int):(HV xs).length=32:=by
 have key:∀i,(Oq xs i).length=4*i:=by
  intro i
  induction i with
  |zero=>rfl
  |succ i ih=>
   show(_++C3 _ _).length=_
   rw[List.length_append,Qd,ih];omega
 rw[lF]
 exact key 8
end
end Go.Sx.Tryz
namespace Go.Sx.Tryz
open Go.Mi Go.RowKit Go.Sx Go.Proofs
noncomputable section
@[simp] theorem SF (xs:List Int) (n:Nat) (h:xs.length≤n):(F1 xs n).length=n:=by
 rw[aG];unfold T0
 rw[List.length_append,List.length_take,List.length_drop,List.length_replicate];omega
def z9 (l:List (List Int)):Con:=⟨[.ls false [.sl (.int .u8)] l],[],lb (DK l),[]⟩
theorem Qc (l:List (List Int)) (hn:l.length≤1000) (hm:∀j,(l.getD j (rz [.sl (.int .u8)])).length≤3000):ConOk Tryz.prog 98 (z9 l):=ConOk.frz [] 0 5 [.int .u8] (DK l) (v5 l hn hm) (by kernel_rfl)
def zY (xs:List Int):Con:=⟨[lb xs],[],lb (HV xs),[]⟩
theorem V3 (xs:List Int) (hx:xs.length≤1000000):ConOk Tryz.prog 99 (zY xs):=ConOk.frz [] 0 5 [.int .u8] (HV xs) (vL xs hx) (by kernel_rfl)
section
variable (k:List Int)
def SB (x8:Nat):((List Int)×(List Int))→((List Int)×(List Int)):=fun(x6,x7)=>(x6.set x8 (AK .u8 ((F1 k 64).getD x8 0) 54),x7.set x8 (AK .u8 ((F1 k 64).getD x8 0) 92))
def FC (k:List Int):Nat→(List Int)×(List Int)
 |0=>(List.replicate 64 (0:Int),List.replicate 64 (0:Int))
 |x8+1=>SB k x8 (FC k x8)
def lO (xs:List Int):(List Int):=HV (DK [(FC k 64).2,HV (DK [(FC k 64).1,xs])])
def Gp (xs:List Int):(List Int):=AJ (lO k xs)
theorem lP (xs:List Int):Gp k xs=lO k xs:=Ag _
end
@[simp] theorem PZ (k xs:List Int):(Gp k xs).length=32:=by rw[lP];exact lE ..
section
variable (k xs:List Int)
def Adz (z_:(List Int):=Gp k xs):Con:=⟨[lb k,lb xs],[],lb z_,[]⟩
theorem aE (hk:k.length≤64) (hx:xs.length≤900):ConOk Tryz.prog 66 (Adz k xs):=by
 refine cy 0 Tryz.func66 rfl Tryz.ntmps66 fun hg0 hS=> ?_
 have A7:k.length≤9223372036854775807:=hS.len 0 rfl
 have Be:xs.length≤9223372036854775807:=hS.len 1 rfl
 have hk1:¬(64:Int)<((k.length:Nat):Int):=Ac
 refine Ae [] 0 hS fun hS=>Av (Ax [(2,DC hk1)] [] 0 hS fun hS=>Ai hS (BP (Ax [(1,AM (lT k 64 Ac) [] [(0,0)])] [] 1 hS fun hS=>Ax [(0,iY 64 1)] [] 2 hS fun hS=>Ax [(0,iY 64 1)] [] 3 hS fun hS=>Av (Ae [] 3 hS fun hS=>Br (Ar (ι:=Nat×(List Int)×(List Int)) hg0 hS (fun(x8,x6,x7)=>(64-x8,[(8,vi ((x8:Nat):Int))],[(1,.sl 5 [.int .u8] x6),(2,.sl 5 [.int .u8] x7)],(x8≤64)∧((x6,x7)=FC k x8)∧(x6.length=64∧x7.length=64)∧True)) [1,4,5,6,7] [0] 3 (0,List.replicate 64 (0:Int),List.replicate 64 (0:Int)) [(0,0),(1,1),(2,2)] ⟨Ac,rfl,(by simp),trivial⟩ ?_)))))
 rintro⟨x8,x6,x7⟩ ac gs ws ⟨hx8,hq1,p1,_⟩ hS
 refine Av (Ae [] 3 hS fun hS=>AB ((x8:Int)<64) hS (fun h1=> ?_) (fun h1=> ?_))
 ·refine BE (Av ?_)
  have hfl:=SF k 64 hk
  refine As [(4,AD x8 ((F1 k 64).length)),(7,AD x8 x6.length)] [] 3 hS fun hS=>Ab ?_
  have hfl:=SF k 64 hk
  exact As [(4,AD x8 ((F1 k 64).length)),(7,AD x8 x7.length)] [] 3 hS fun hS=>BV (As [(1,BH x8)] [8] 3 hS fun hS=>Ab (Al hg0 hS (x8+1,x6.set x8 (AK .u8 ((F1 k 64).getD x8 0) 54),x7.set x8 (AK .u8 ((F1 k 64).getD x8 0) 92)) [(0,0),(1,1),(2,2)] ⟨Ac,(A3 (st:=SB _) hq1 rfl rfl),(by rw[List.length_set,List.length_set];exact p1),trivial⟩))
 ·have hT:=hS
  obtain rfl:64=x8:=by omega
  obtain⟨rfl,rfl⟩:=Ug hq1
  have hS:=hT
  refine ML ?_
  obtain⟨gs,hS⟩:=hS.fz 1
  obtain⟨gs,hS⟩:=hS.fz 2
  exact As [(4,AP (Qc [(FC k 64).1,xs] AE (UL (by repeat (first |exact YQ|(apply UM;focus (first |omega|(simp<;>omega)))))))),(5,AP (V3 (DK [(FC k 64).1,xs]) AE)),(7,AP (Qc [(FC k 64).2,HV (DK [(FC k 64).1,xs])] AE (UL (by repeat (first |exact YQ|(apply UM;focus (first |omega|(simp<;>omega)))))))),(8,AP (V3 (DK [(FC k 64).2,HV (DK [(FC k 64).1,xs])]) AE))] [] 3 hS fun hS=>DX (Bi (lP ..) hS)
def Nl (k1:Nat):(Nat×(List Int)×(List Int))→(Nat×(List Int)×(List Int)):=fun(x9,x7,x8)=>(x9+1,x7++(Gp k (DK [x8,xs,[(IntKind.wrap .u8 ((x9:Nat):Int))]])),Gp k (DK [x8,xs,[(IntKind.wrap .u8 ((x9:Nat):Int))]]))
end
def DN (k xs:List Int):Nat→Nat×(List Int)×(List Int)
 |0=>(1,[],[])
 |k1+1=>Nl k xs k1 (DN k xs k1)
def Gf:(Nat×(List Int)×(List Int))→Prop:=fun(x9,x7,x8)=>((x7.length:Nat):Int)<128
section
variable (k xs:List Int)
def Yq:(List Int):=((DN k xs (CS fun j=>Gf (DN k xs j))).2.1).take 128
def T1:(List Int):=AJ (Yq k xs)
theorem lV:T1 k xs=Yq k xs:=Ag _
def AdA (z_:(List Int):=T1 k xs):Con:=⟨[lb k,lb xs,vi 128],[],lb z_,[]⟩
theorem vX (hk:k.length≤64) (hx:xs.length≤100):ConOk Tryz.prog 65 (AdA k xs):=by
 refine cy 0 Tryz.func65 rfl Tryz.ntmps65 fun hg0 hS=> ?_
 have A7:k.length≤9223372036854775807:=hS.len 0 rfl
 have Be:xs.length≤9223372036854775807:=hS.len 1 rfl
 refine Ae [] 0 hS fun hS=>Av (Ae [] 0 hS fun hS=>Ai hS (BP (Ae [] 0 hS fun hS=>Av (Ae [] 0 hS fun hS=>Br ?_))))
 obtain⟨gs,hS⟩:=hS.nilk 7 5 [.int .u8]
 have hS:=hS.wk 8 (lb [])
 refine Ar (ι:=Nat×Nat×(List Int)×(List Int)) hg0 hS (fun(k1,x9,x7,x8)=>(128-x7.length,[(8,lb x8),(9,vi (x9:Int))],[(0,.sl 5 [.int .u8] x7)],((x9,x7,x8)=DN k xs k1)∧(∀j,j<k1→Gf (DN k xs j))∧(x7.length≤160∧x8.length≤32∧x9≤1+x7.length)∧True)) [0,1,2,6,7] [] 1 (0,1,[],[]) [(0,0)] ⟨rfl,(fun j h=>absurd h (Nat.not_lt_zero j)),(by simp),trivial⟩ ?_
 rintro⟨k1,x9,x7,x8⟩ ac gs ws ⟨hq1,hj1,p5,_⟩ hS
 refine Av (Ae [] 1 hS fun hS=>AB (((x7.length:Nat):Int)<128) hS (fun h1=> ?_) (fun h1=> ?_))
 ·exact BE (Ax [(7,AP (Qc [x8,xs,[(IntKind.wrap .u8 ((x9:Nat):Int))]] AE (UL (by repeat (first |exact YQ|(apply UM;focus (first |omega|(simp<;>omega)))))))),(8,AP (aE k (DK [x8,xs,[(IntKind.wrap .u8 ((x9:Nat):Int))]]) AE AE))] [8] 1 hS fun hS=>As [(2,FW x7.length ((Gp k (DK [x8,xs,[(IntKind.wrap .u8 (x9:Int))]])).length) 1)] [7] 2 hS fun hS=>BV (As [(1,BH x9)] [9] 2 hS fun hS=>Ab (Al hg0 hS (k1+1,x9+1,x7++(Gp k (DK [x8,xs,[(IntKind.wrap .u8 (x9:Int))]])),Gp k (DK [x8,xs,[(IntKind.wrap .u8 (x9:Int))]])) [(0,1)] ⟨(A3 (st:=Nl _ _) hq1 rfl rfl),(A0 hj1 (by rw[←hq1];exact h1)),(by rw[List.length_append,PZ];omega),trivial⟩ (by show 128-(x7++_).length<128-x7.length;rw[List.length_append,PZ];omega))))
 ·have hT:=hS
  obtain rfl:=BK (by rw[←hq1];first |exact h1|exact not_not_intro h1) hj1
  obtain⟨rfl,rfl,rfl⟩:=mQ hq1
  have hS:=hT
  refine ML ?_
  obtain⟨gs,hS⟩:=hS.fz 0
  exact As [(2,iZ 128 ((DN k xs (CS fun j=>Gf (DN k xs j))).2.1).length)] [] 1 hS fun hS=>DX (Bi (lV ..) hS)
def mB:(List Int):=T1 (Gp ([]:List Int) k) xs
def T4:(List Int):=AJ (mB k xs)
theorem mD:T4 k xs=mB k xs:=Ag _
def AdD (z_:(List Int):=T4 k xs):Con:=⟨[.v (.slice none 0 0),lb k,lb xs,vi 128],[],lb z_,[]⟩
theorem vY (hk:k.length≤900) (hx:xs.length≤100):ConOk Tryz.prog 33 (AdD k xs):=by
 refine cy 0 Tryz.func33 rfl Tryz.ntmps33 fun hg0 hS=> ?_
 have Be:k.length≤9223372036854775807:=hS.len 1 rfl
 have B2:xs.length≤9223372036854775807:=hS.len 2 rfl
 exact Ae [] 0 hS fun hS=>Ax [(2,AP (aE ([]:List Int) k AE AE)),(5,AP (vX (Gp ([]:List Int) k) xs AE AE))] [] 0 hS fun hS=>AR (Bi (mD ..) hS)
end
end
end Go.Sx.Tryz
