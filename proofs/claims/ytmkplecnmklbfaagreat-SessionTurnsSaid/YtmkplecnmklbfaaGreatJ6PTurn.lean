/- General lemmas, walks. -/
import Derived.Shelf.RegionOpenPlain
import Derived.WalkKit
import Derived.Deep.LoopGhost
import Derived.Deep.RegionLaw
import Derived.Lib.Walk
import Derived.Lib.SliceRun
import Derived.Lib.SlicesDelete
import Derived.Deep.MidRow
import Derived.Test.YtmkplecnmklbfaaGreatJ5PTurn
set_option maxRecDepth 100000
set_option maxHeartbeats 1000000
set_option linter.unusedSimpArgs false
set_option linter.unusedVariables false
set_option linter.unnecessarySimpa false
set_option linter.unusedSectionVars false
namespace Go.Sx.Tryz
open Go.Mi Go.RowKit Go.Sx Go.Proofs
noncomputable section
def Ob9 (x0:Nat→Int):O:= .ob 177 (chain [.ar .u32 8 x0])
def AdM (x0:Nat→Int):O:= .ob 201 (chain [.ar .u32 64 x0])
def sD (xs:List Int):Con:=⟨[lb xs],[],.sk 0,[(0,.sl 5 [.int .u8] xs)]⟩
theorem eX (xs:List Int) (h:xs.length≤100000000000000):ConOk Tryz.prog 81 (sD xs):=by
 refine cy 0 Tryz.func81 rfl Tryz.ntmps81 fun hg0 hS=> ?_
 have A6:xs.length≤9223372036854775807:=hS.len 0 rfl
 refine Ae [] 0 hS fun hS=>JN ?_
 rcases hS.nilor 0 [.int .u8] xs with⟨hn1,hS⟩|hS
 ·subst hn1
  refine Dn [] 0 hS fun hS=>Ab (AQ hS (Ae [] 0 hS fun hS=>AU (Ah ?_)))
  obtain⟨gs,hS⟩:=hS.nilk 2 5 [.int .u8]
  exact Ci hS
 ·refine Dn [] 0 hS fun hS=>Ab (Ai hS (B5 (Ay [(0,Row),(2,Ge 0 xs.length 1)] [] 2 hS fun hS=>AU ?_)))
  obtain⟨gs,hS⟩:=hS.rx [(0,1)] [2] [0] 1 hg0
  exact Ci hS
def VA:(Nat→Int):=upd (upd (upd (upd (upd (upd (upd (upd (fun _=>0) 0 7640891576956012808) 1 13503953896175478587) 2 4354685564936845355) 3 11912009170470909681) 4 5840696475078001361) 5 11170449401992604703) 6 2270897969802886507) 7 6620516959819538809
def Lt:(Nat→Int):=AJ (VA)
theorem jI:Lt=VA:=Af _
def qN (z_:(Nat→Int):=Lt):Con:=⟨[],[],.ar .u64 8 z_,[]⟩
theorem cO:ConOk Tryz.prog 188 (qN):=by
 exact cy 0 Tryz.func188 rfl Tryz.ntmps188 fun hg0 hS=>Ae [] 1 hS fun hS=>Ae [] 1 hS fun hS=>AU (Bh (jI ..) hS)
def RL:(Nat→Int):=upd (upd (upd (upd (upd (upd (upd (upd (upd (upd (upd (upd (upd (upd (upd (upd (upd (upd (upd (upd (upd (upd (upd (upd (upd (upd (upd (upd (upd (upd (upd (upd (upd (upd (upd (upd (upd (upd (upd (upd (upd (upd (upd (upd (upd (upd (upd (upd (upd (upd (upd (upd (upd (upd (upd (upd (upd (upd (upd (upd (upd (upd (upd (upd (upd (upd (upd (upd (upd (upd (upd (upd (upd (upd (upd (upd (upd (upd (upd (upd (fun _=>0) 0 4794697086780616226) 1 8158064640168781261) 2 13096744586834688815) 3 16840607885511220156) 4 4131703408338449720) 5 6480981068601479193) 6 10538285296894168987) 7 12329834152419229976) 8 15566598209576043074) 9 1334009975649890238) 10 2608012711638119052) 11 6128411473006802146) 12 8268148722764581231) 13 9286055187155687089) 14 11230858885718282805) 15 13951009754708518548) 16 16472876342353939154) 17 17275323862435702243) 18 1135362057144423861) 19 2597628984639134821) 20 3308224258029322869) 21 5365058923640841347) 22 6679025012923562964) 23 8573033837759648693) 24 10970295158949994411) 25 12119686244451234320) 26 12683024718118986047) 27 13788192230050041572) 28 14330467153632333762) 29 15395433587784984357) 30 489312712824947311) 31 1452737877330783856) 32 2861767655752347644) 33 3322285676063803686) 34 5560940570517711597) 35 5996557281743188959) 36 7280758554555802590) 37 8532644243296465576) 38 9350256976987008742) 39 10552545826968843579) 40 11727347734174303076) 41 12113106623233404929) 42 14000437183269869457) 43 14369950271660146224) 44 15101387698204529176) 45 15463397548674623760) 46 17586052441742319658) 47 1182934255886127544) 48 1847814050463011016) 49 2177327727835720531) 50 2830643537854262169) 51 3796741975233480872) 52 4115178125766777443) 53 5681478168544905931) 54 6601373596472566643) 55 7507060721942968483) 56 8399075790359081724) 57 8693463985226723168) 58 9568029438360202098) 59 10144078919501101548) 60 10430055236837252648) 61 11840083180663258601) 62 13761210420658862357) 63 14299343276471374635) 64 14566680578165727644) 65 15097957966210449927) 66 16922976911328602910) 67 17689382322260857208) 68 500013540394364858) 69 748580250866718886) 70 1242879168328830382) 71 1977374033974150939) 72 2944078676154940804) 73 3659926193048069267) 74 4368137639120453308) 75 4836135668995329356) 76 5532061633213252278) 77 6448918945643986474) 78 6902733635092675308) 79 7801388544844847127
def F7:(Nat→Int):=AJ (RL)
theorem cP:F7=RL:=Af _
def fK (z_:(Nat→Int):=F7):Con:=⟨[],[],.ar .u64 80 z_,[]⟩
theorem XS:ConOk Tryz.prog 189 (fK):=by
 exact cy 0 Tryz.func189 rfl Tryz.ntmps189 fun hg0 hS=>Ae [] 1 hS fun hS=>Ae [] 1 hS fun hS=>AU (Bh (cP ..) hS)
def Sw (x6:Nat):(Nat→Int)→(Nat→Int):=fun o1_0=>upd o1_0 x6 (AK .u32 (o1_0 x6) (IntKind.wrap .u32 (AY .u64 (Lt x6) 32)))
section
variable (h:Nat→Int)
def T_ (h:Nat→Int):Nat→(Nat→Int)
 |0=>h
 |x6+1=>Sw x6 (T_ h x6)
def mJ:(Nat→Int):=T_ h 8
def KB:(Nat→Int):=AJ (mJ h)
theorem AbM:KB h=mJ h:=Af _
def Ada (z_:(Nat→Int):=KB h):Con:=⟨[.ar .u32 8 h],[],.ar .u32 8 z_,[]⟩
theorem T9:ConOk Tryz.prog 162 (Ada h):=by
 refine cy 0 Tryz.func162 rfl Tryz.ntmps162 fun hg0 hS=>Ae [] 2 hS fun hS=>Au (Ay [(0,AR (cO))] [] 2 hS fun hS=>Br (Ar (ι:=Nat×(Nat→Int)) hg0 hS (fun(x6,o1_0)=>(8-x6,[(6,vi ((x6:Nat):Int))],[(0,Ob9 o1_0)],(x6≤8)∧(o1_0=T_ h x6)∧True)) [1,2,5] [1] 2 (0,h) [(0,0),(1,1)] ⟨Ac,rfl,trivial⟩ ?_))
 rintro⟨x6,o1_0⟩ ac gs ws ⟨hx6,hq1,_⟩ hS
 refine Ae [] 2 hS fun hS=>Au (AB ((x6:Int)<8) hS (fun h1=> ?_) (fun h1=> ?_))
 ·exact BG (Ay [(1,AG x6 8)] [] 2 hS fun hS=>Av [(1,AG x6 8),(4,EL 32),(7,AG x6 8)] [] 2 hS fun hS=>BV (Av [(0,BQ x6)] [6] 2 hS fun hS=>Ab (Am hg0 hS (x6+1,upd o1_0 x6 (AK .u32 (o1_0 x6) (IntKind.wrap .u32 (AY .u64 (Lt x6) 32)))) [(0,0),(1,1)] ⟨Ac,(A2 (st:=Sw) hq1 rfl rfl),trivial⟩)))
 ·have hT:=hS
  obtain rfl:8=x6:=by omega
  obtain rfl:=hq1.symm
  have hS:=hT
  exact CX (Ae [] 2 hS fun hS=>AU (Bh (AbM ..) hS))
end
def HK (xs:List Int) (x22:Nat):(Nat→Int)→(Nat→Int):=fun o5_0=>if(x22:Int)<16 then upd o5_0 x22 (Ou (xs.drop (4*x22)))else upd o5_0 x22 (AZ .u32 (AZ .u32 (AZ .u32 (o5_0 (x22-16)) (AK .u32 (AK .u32 (BB (o5_0 (x22-15)) (-7)) (BB (o5_0 (x22-15)) (-18))) (AY .u32 (o5_0 (x22-15)) 3))) (o5_0 (x22-7))) (AK .u32 (AK .u32 (BB (o5_0 (x22-2)) (-17)) (BB (o5_0 (x22-2)) (-19))) (AY .u32 (o5_0 (x22-2)) 10)))
def E6 (xs:List Int):Nat→(Nat→Int)
 |0=>fun _=>0
 |x22+1=>HK xs x22 (E6 xs x22)
def Ls (xs:List Int) (x75:Nat):(Nat→Int)→(Nat→Int):=fun o12_0=>upd (upd (upd (upd (upd (upd (upd (upd (fun _=>0) 0 (AZ .u32 (AZ .u32 (AZ .u32 (AZ .u32 (AZ .u32 (o12_0 7) (AK .u32 (AK .u32 (BB (o12_0 4) (-6)) (BB (o12_0 4) (-11))) (BB (o12_0 4) (-25)))) (AK .u32 (A5 .u32 (o12_0 4) (o12_0 5)) (A5 .u32 (KM .u32 (o12_0 4)) (o12_0 6)))) (IntKind.wrap .u32 (AY .u64 (F7 x75) 32))) ((E6 xs 64) x75)) (AZ .u32 (AK .u32 (AK .u32 (BB (o12_0 0) (-2)) (BB (o12_0 0) (-13))) (BB (o12_0 0) (-22))) (AK .u32 (AK .u32 (A5 .u32 (o12_0 0) (o12_0 1)) (A5 .u32 (o12_0 0) (o12_0 2))) (A5 .u32 (o12_0 1) (o12_0 2)))))) 1 (o12_0 0)) 2 (o12_0 1)) 3 (o12_0 2)) 4 (AZ .u32 (o12_0 3) (AZ .u32 (AZ .u32 (AZ .u32 (AZ .u32 (o12_0 7) (AK .u32 (AK .u32 (BB (o12_0 4) (-6)) (BB (o12_0 4) (-11))) (BB (o12_0 4) (-25)))) (AK .u32 (A5 .u32 (o12_0 4) (o12_0 5)) (A5 .u32 (KM .u32 (o12_0 4)) (o12_0 6)))) (IntKind.wrap .u32 (AY .u64 (F7 x75) 32))) ((E6 xs 64) x75)))) 5 (o12_0 4)) 6 (o12_0 5)) 7 (o12_0 6)
section
variable (h:Nat→Int) (xs:List Int)
def HJ (h:Nat→Int) (xs:List Int):Nat→(Nat→Int)
 |0=>h
 |x75+1=>Ls xs x75 (HJ h xs x75)
def Lr (x159:Nat):(Nat→Int)→(Nat→Int):=fun o2_0=>upd o2_0 x159 (AZ .u32 (o2_0 x159) ((HJ h xs 64) x159))
def Kn (h:Nat→Int) (xs:List Int):Nat→(Nat→Int)
 |0=>h
 |x159+1=>Lr h xs x159 (Kn h xs x159)
def RH:(Nat→Int):=Kn h xs 8
def F6:(Nat→Int):=AJ (RH h xs)
theorem cJ:F6 h xs=RH h xs:=Af _
def fG (z_:(Nat→Int):=F6 h xs):Con:=⟨[.ar .u32 8 h,lb xs],[],.ar .u32 8 z_,[]⟩
theorem O8 (hx:64≤xs.length):ConOk Tryz.prog 163 (fG h xs):=by
 refine cy 0 Tryz.func163 rfl Tryz.ntmps163 fun hg0 hS=> ?_
 have Bf:xs.length≤9223372036854775807:=hS.len 1 rfl
 refine Ae [] 2 hS fun hS=>Ae [] 3 hS fun hS=>Ay [(0,AR (XS))] [6] 4 hS fun hS=>Au (Ae [] 4 hS fun hS=>Br (Ar (ι:=Nat×(Nat→Int)) hg0 hS (fun(x22,o5_0)=>(64-x22,[(22,vi ((x22:Nat):Int))],[(2,AdM o5_0)],(x22≤64)∧(o5_0=E6 xs x22)∧True)) [1,2,4,5,6] [0,1,3] 4 (0,fun _=>0) [(0,0),(1,1),(2,2),(3,3)] ⟨Ac,rfl,trivial⟩ ?_))
 rintro⟨x22,o5_0⟩ ac gs ws ⟨hx22,hq1,_⟩ hS
 refine Ae [] 4 hS fun hS=>Au (AB ((x22:Int)<64) hS (fun h1=> ?_) (fun h1=> ?_))
 ·refine BG (Ae [] 4 hS fun hS=>Au (Ae [] 4 hS fun hS=>AB ((x22:Int)<16) hS (fun h2=> ?_) (fun h2=> ?_)))
  ·exact Ay [(3,GE 4 x22 (4*x22)),(4,ON (4*x22) xs.length),(5,AR (nU (xs.drop (4*x22)))),(6,AG x22 64)] [] 4 hS fun hS=>cnc (DZ (Fp (Ab (Av [(0,BQ x22)] [22] 4 hS fun hS=>Ab (Am hg0 hS (x22+1,upd o5_0 x22 (Ou (xs.drop (4*x22)))) [(0,0),(1,1),(2,2),(3,3)] ⟨Ac,(A2 (st:=HK _) hq1 rfl (Eq.symm (if_pos h2))),trivial⟩)))))
  ·exact B5 (Ay [(1,GD x22 15 (x22-15)),(2,AG (x22-15) 64),(5,GD x22 2 (x22-2)),(6,AG (x22-2) 64)] [] 4 hS fun hS=>Ay [(1,AR (Ee (o5_0 (x22-15)) (-7))),(3,AR (Ee (o5_0 (x22-15)) (-18))),(6,EL 3)] [] 4 hS fun hS=>Ay [(1,AR (Ee (o5_0 (x22-2)) (-17))),(3,AR (Ee (o5_0 (x22-2)) (-19))),(6,EL 10)] [] 4 hS fun hS=>Av [(2,GD x22 16 (x22-16)),(3,AG (x22-16) 64),(8,GD x22 7 (x22-7)),(9,AG (x22-7) 64),(14,AG x22 64)] [] 4 hS fun hS=>BV (Av [(0,BQ x22)] [22] 4 hS fun hS=>Ab (Am hg0 hS (x22+1,upd o5_0 x22 (AZ .u32 (AZ .u32 (AZ .u32 (o5_0 (x22-16)) (AK .u32 (AK .u32 (BB (o5_0 (x22-15)) (-7)) (BB (o5_0 (x22-15)) (-18))) (AY .u32 (o5_0 (x22-15)) 3))) (o5_0 (x22-7))) (AK .u32 (AK .u32 (BB (o5_0 (x22-2)) (-17)) (BB (o5_0 (x22-2)) (-19))) (AY .u32 (o5_0 (x22-2)) 10)))) [(0,0),(1,1),(2,2),(3,3)] ⟨Ac,(A2 (st:=HK _) hq1 rfl (Eq.symm (if_neg h2))),trivial⟩)))
 ·have hT:=hS
  obtain rfl:64=x22:=by omega
  obtain rfl:=hq1.symm
  have hS:=hT
  refine CX (Ae [12] 5 hS fun hS=>Au (Ae [] 5 hS fun hS=>Br (Ar (ι:=Nat×(Nat→Int)) hg0 hS (fun(x75,o12_0)=>(64-x75,[(75,vi ((x75:Nat):Int))],[(4,Ob9 o12_0)],(x75≤64)∧(o12_0=HJ h xs x75)∧True)) [2,4,5,6,12] [0,1,2,3] 5 (0,h) [(0,0),(1,1),(2,2),(3,3),(4,4)] ⟨Ac,rfl,trivial⟩ ?_)))
  rintro⟨x75,o12_0⟩ ac gs ws ⟨hx75,hq2,_⟩ hS
  refine Ae [] 5 hS fun hS=>Au (AB ((x75:Int)<64) hS (fun h3=> ?_) (fun h3=> ?_))
  ·exact BG (Ae [] 5 hS fun hS=>Ay [(0,AG 0 8),(2,AG 4 8)] [] 5 hS fun hS=>Ay [(1,AR (Ee (o12_0 4) (-6))),(3,AR (Ee (o12_0 4) (-11))),(6,AR (Ee (o12_0 4) (-25)))] [] 5 hS fun hS=>Ay [(0,AG 7 8),(5,AG 5 8),(10,AG 6 8),(16,AG x75 80),(18,EL 32),(22,AG x75 64)] [] 5 hS fun hS=>Ay [(1,AR (Ee (o12_0 0) (-2))),(3,AR (Ee (o12_0 0) (-13))),(6,AR (Ee (o12_0 0) (-22)))] [] 5 hS fun hS=>Ay [(2,AG 1 8),(6,AG 2 8),(10,AG 1 8),(12,AG 2 8)] [] 5 hS fun hS=>Av [(4,AG 1 8),(6,AG 2 8),(8,AG 3 8),(13,AG 5 8),(15,AG 6 8)] [] 5 hS fun hS=>BV (Av [(0,BQ x75)] [75] 5 hS fun hS=>Ab (Am hg0 hS (x75+1,upd (upd (upd (upd (upd (upd (upd (upd (fun _=>0) 0 (AZ .u32 (AZ .u32 (AZ .u32 (AZ .u32 (AZ .u32 (o12_0 7) (AK .u32 (AK .u32 (BB (o12_0 4) (-6)) (BB (o12_0 4) (-11))) (BB (o12_0 4) (-25)))) (AK .u32 (A5 .u32 (o12_0 4) (o12_0 5)) (A5 .u32 (KM .u32 (o12_0 4)) (o12_0 6)))) (IntKind.wrap .u32 (AY .u64 (F7 x75) 32))) ((E6 xs 64) x75)) (AZ .u32 (AK .u32 (AK .u32 (BB (o12_0 0) (-2)) (BB (o12_0 0) (-13))) (BB (o12_0 0) (-22))) (AK .u32 (AK .u32 (A5 .u32 (o12_0 0) (o12_0 1)) (A5 .u32 (o12_0 0) (o12_0 2))) (A5 .u32 (o12_0 1) (o12_0 2)))))) 1 (o12_0 0)) 2 (o12_0 1)) 3 (o12_0 2)) 4 (AZ .u32 (o12_0 3) (AZ .u32 (AZ .u32 (AZ .u32 (AZ .u32 (o12_0 7) (AK .u32 (AK .u32 (BB (o12_0 4) (-6)) (BB (o12_0 4) (-11))) (BB (o12_0 4) (-25)))) (AK .u32 (A5 .u32 (o12_0 4) (o12_0 5)) (A5 .u32 (KM .u32 (o12_0 4)) (o12_0 6)))) (IntKind.wrap .u32 (AY .u64 (F7 x75) 32))) ((E6 xs 64) x75)))) 5 (o12_0 4)) 6 (o12_0 5)) 7 (o12_0 6)) [(0,0),(1,1),(2,2),(3,3),(4,4)] ⟨Ac,(A2 (st:=Ls _) hq2 rfl rfl),trivial⟩)))
  ·have hT:=hS
   obtain rfl:64=x75:=by omega
   obtain rfl:=hq2.symm
   have hS:=hT
   refine MY (Ae [] 5 hS fun hS=>Br (Ar (ι:=Nat×(Nat→Int)) hg0 hS (fun(x159,o2_0)=>(8-x159,[(159,vi ((x159:Nat):Int))],[(0,Ob9 o2_0)],(x159≤8)∧(o2_0=Kn h xs x159)∧True)) [2,4,12] [1,4] 5 (0,h) [(0,0),(1,1),(4,4)] ⟨Ac,rfl,trivial⟩ ?_))
   rintro⟨x159,o2_0⟩ ac gs ws ⟨hx159,hq3,_⟩ hS
   refine Ae [] 5 hS fun hS=>Au (AB ((x159:Int)<8) hS (fun h4=> ?_) (fun h4=> ?_))
   ·exact BG (Ae [] 5 hS fun hS=>Av [(1,AG x159 8),(4,AG x159 8),(7,AG x159 8)] [] 5 hS fun hS=>BV (Av [(0,BQ x159)] [159] 5 hS fun hS=>Ab (Am hg0 hS (x159+1,upd o2_0 x159 (AZ .u32 (o2_0 x159) ((HJ h xs 64) x159))) [(0,0),(1,1),(4,4)] ⟨Ac,(A2 (st:=Lr _ _) hq3 rfl rfl),trivial⟩)))
   ·have hT:=hS
    obtain rfl:8=x159:=by omega
    obtain rfl:=hq3.symm
    have hS:=hT
    exact CX (Ae [] 5 hS fun hS=>AU (Bh (cJ ..) hS))
end
section
variable (xs:List Int) (n:Int)
def P5:(List Int):=(((xs++([128]:List Int))++List.replicate ((120-(((xs++([128]:List Int)).length)%64))%64) (0:Int))++List.replicate 0 (0:Int))++(Fy (BJ .u64 8 n))
def Hk:(List Int):=AJ (P5 xs n)
theorem Wg:Hk xs n=P5 xs n:=Af _
def rL (z_:(List Int):=Hk xs n):Con:=⟨[lb xs,.v (.int .u64 n),vi 64],[],lb z_,[]⟩
theorem dT (hx:xs.length≤1000000000000):ConOk Tryz.prog 164 (rL xs n):=by
 refine cy 0 Tryz.func164 rfl Tryz.ntmps164 fun hg0 hS=> ?_
 have A6:xs.length≤9223372036854775807:=hS.len 0 rfl
 refine Ae [] 0 hS fun hS=>Ay [(1,AO (eX xs AD) [] [(0,0)]),(3,Ge xs.length 1 1)] [] 2 hS fun hS=>Ay [(1,OL ((8:Int)≠0))] [] 2 hS fun hS=>Ay [(8,Lb ((xs++([128]:List Int)).length) 64),(9,GD 120 (((xs++([128]:List Int)).length)%64) (120-(((xs++([128]:List Int)).length)%64))),(11,Lb (120-(((xs++([128]:List Int)).length)%64)) 64),(12,tA [(0:Int)≤(((120-(((xs++([128]:List Int)).length)%64))%64:Nat):Int),(xs++([128]:List Int)).length+((120-(((xs++([128]:List Int)).length)%64))%64)≤9223372036854775807,((xs++([128]:List Int)).length+((120-(((xs++([128]:List Int)).length)%64))%64))*1≤140737488355328] ⟨by omega,by simp<;>omega,by simp<;>omega,trivial⟩)] [7] 3 hS fun hS=>Ay [(3,tA [(0:Int)≤0,((xs++([128]:List Int))++List.replicate ((120-(((xs++([128]:List Int)).length)%64))%64) (0:Int)).length+0≤9223372036854775807,(((xs++([128]:List Int))++List.replicate ((120-(((xs++([128]:List Int)).length)%64))%64) (0:Int)).length+0)*1≤140737488355328] ⟨by omega,by simp<;>omega,by simp<;>omega,trivial⟩)] [7] 4 hS fun hS=>Ay [(3,AR (PZ (BJ .u64 8 n))),(4,Ge ((((xs++([128]:List Int))++List.replicate ((120-(((xs++([128]:List Int)).length)%64))%64) (0:Int))++List.replicate 0 (0:Int)).length) ((Fy (BJ .u64 8 n)).length) 1)] [] 5 hS fun hS=>AU ?_
 obtain⟨gs,hS⟩:=hS.fz 4
 exact Bh (Wg ..) hS
end
end
end Go.Sx.Tryz
namespace Go.Sx.Tryz
open Go.Mi Go.RowKit Go.Sx Go.Proofs
noncomputable section
def U9 (x0:Nat→Int) (x1:List Int) (x2:Int):O:= .ob 179 (chain [.ar .u32 8 x0,lb x1,.v (.int .u64 x2)])
theorem Yg (xs:List Int) (n:Int):(Hk xs n).length%64=0∧(Hk xs n).length≤xs.length+200:=by
 rw[Wg]
 unfold P5
 simp only[List.length_append,List.length_cons,List.length_nil,List.length_replicate,Jz]
 omega
def SJ (k1:Nat):((List Int)×(Nat→Int))→((List Int)×(Nat→Int)):=fun(x4,o5_0)=>(x4.drop 64,F6 o5_0 x4)
def Cu (h:Nat→Int) (r b:List Int):Nat→(List Int)×(Nat→Int)
 |0=>([r,b].flatten,KB h)
 |k1+1=>SJ k1 (Cu h r b k1)
def EG:((List Int)×(Nat→Int))→Prop:=fun(x4,o5_0)=>(64:Int)≤((x4.length:Nat):Int)
section
variable (h:Nat→Int) (r:List Int) (n:Int) (b:List Int)
def nQ:(Nat→Int)×(List Int)×Int:=(KB ((Cu h r b (CU fun j=>EG (Cu h r b j))).2),(Cu h r b (CU fun j=>EG (Cu h r b j))).1,(AZ .u64 n ((b.length:Nat):Int)))
def C3:(Nat→Int)×(List Int)×Int:=AJ (nQ h r n b)
theorem nR:C3 h r n b=nQ h r n b:=Af _
def Adj (z_:(Nat→Int)×(List Int)×Int:=C3 h r n b):Con:=⟨[.cp 0 0,lb b],[(0,U9 h r n)],.tu (chain []),[(0,U9 (z_.1) (z_.2.1) (z_.2.2))]⟩
theorem Ot (hr:r.length≤100000000000) (hb:b.length≤100000000000):ConOk Tryz.prog 122 (Adj h r n b):=by
 refine cy 1 Tryz.func122 rfl Tryz.ntmps122 fun hg0 hS=> ?_
 have Bf:b.length≤9223372036854775807:=hS.len 1 rfl
 refine Au (Ae [] 1 hS fun hS=>Ai hS (B5 (Ay [(6,Xx b.length)] [] 1 hS fun hS=>Ay [(6,AO (S4 [r,b] (by first |omega|(simp only[List.flatten_cons,List.flatten_nil,List.length_append,List.length_cons,List.length_nil,List.length_take,List.length_drop,List.length_replicate]<;>omega)|(simp<;>omega))) [] [(0,1)])] [] 2 hS fun hS=>Ay [(3,GC (.ar .u32 8 h) [(.ar .u32 8 h:D)=(.ar .u32 8 h)] ⟨rfl,trivial⟩),(4,AR (T9 h))] [5] 3 hS fun hS=>Au (Br ?_))))
 obtain⟨gs,hS⟩:=hS.fz 1
 refine Ar (ι:=Nat×(List Int)×(Nat→Int)) hg0 hS (fun(k1,x4,o5_0)=>(x4.length,[(4,lb x4)],[(2,Ob9 o5_0)],((x4,o5_0)=Cu h r b k1)∧(∀j,j<k1→EG (Cu h r b j))∧(x4.length≤r.length+b.length)∧True)) [0,5] [0] 3 (0,[r,b].flatten,KB h) [(0,0),(2,2)] ⟨rfl,(fun j h=>absurd h (Nat.not_lt_zero j)),(by simp),trivial⟩ ?_
 rintro⟨k1,x4,o5_0⟩ ac gs ws ⟨hq1,hj1,p1,_⟩ hS
 refine Au (Ae [] 3 hS fun hS=>AB ((64:Int)≤((x4.length:Nat):Int)) hS (fun h1=> ?_) (fun h1=> ?_))
 ·exact B5 (Br (Ay [(0,GC (.ar .u32 8 o5_0) [(.ar .u32 8 o5_0:D)=(.ar .u32 8 o5_0)] ⟨rfl,trivial⟩),(2,Ix (O8 o5_0 x4 AD) [] [] [.ar .u32 8 o5_0,lb x4] [])] [] 3 hS fun hS=>Av [(1,ON 64 x4.length)] [4] 3 hS fun hS=>BV (Am hg0 hS (k1+1,x4.drop 64,F6 o5_0 x4) [(0,0),(2,2)] ⟨(A2 (st:=SJ) hq1 rfl rfl),(A1 hj1 (by rw[←hq1];exact h1)),(by rw[List.length_drop];omega),trivial⟩ (show(x4.drop 64).length<x4.length from by rw[List.length_drop];omega))))
 ·have hT:=hS
  obtain rfl:=BP (by rw[←hq1];first |exact h1|exact not_not_intro h1) hj1
  obtain⟨rfl,rfl⟩:=TZ hq1
  have hS:=hT
  exact CX (Av [(2,GC (.ar .u32 8 ((Cu h r b (CU fun j=>EG (Cu h r b j))).2)) [(.ar .u32 8 ((Cu h r b (CU fun j=>EG (Cu h r b j))).2):D)=(.ar .u32 8 ((Cu h r b (CU fun j=>EG (Cu h r b j))).2))] ⟨rfl,trivial⟩),(3,AR (T9 ((Cu h r b (CU fun j=>EG (Cu h r b j))).2))),(5,AR (Dt ((Cu h r b (CU fun j=>EG (Cu h r b j))).1) AD))] [] 3 hS fun hS=>fqN (nR ..) hS)
end
def SI (k1:Nat):((List Int)×(Nat→Int))→((List Int)×(Nat→Int)):=fun(x4,o3_0)=>(x4.drop 64,F6 o3_0 x4)
def EX (h:Nat→Int) (r:List Int) (n:Int):Nat→(List Int)×(Nat→Int)
 |0=>(Hk r n,KB h)
 |k1+1=>SI k1 (EX h r n k1)
def Hy:((List Int)×(Nat→Int))→Prop:=fun(x4,o3_0)=>(0:Int)<((x4.length:Nat):Int)
section
variable (h:Nat→Int) (r:List Int) (n:Int)
def SH (x32:Nat):(List Int)→(List Int):=fun x2=>x2++(CQ (((EX h r n (CU fun j=>Hy (EX h r n j))).2) x32))
def JH (h:Nat→Int) (r:List Int) (n:Int):Nat→(List Int)
 |0=>[]
 |x32+1=>SH h r n x32 (JH h r n x32)
def nM:(List Int):=JH h r n 8
def Ey:(List Int):=AJ (nM h r n)
theorem Yn:Ey h r n=nM h r n:=Af _
end
@[simp] theorem WH (h:Nat→Int) (r:List Int) (n:Int):(Ey h r n).length=32:=by
 have key:∀i,(JH h r n i).length=4*i:=by
  intro i
  induction i with
  |zero=>rfl
  |succ i ih=>show(JH h r n i++CQ _).length=_;rw[List.length_append,E_,ih];omega
 rw[Yn]
 exact key 8
section
variable (h:Nat→Int) (r:List Int) (n:Int)
def Adi (z_:(List Int):=Ey h r n):Con:=⟨[.cp 0 0],[(0,U9 h r n)],.sk 1,[(0,U9 h r n),(1,.sl 5 [.int .u8] z_)]⟩
theorem aT (hr:r.length≤100000000000):ConOk Tryz.prog 125 (Adi h r n):=by
 refine cy 1 Tryz.func125 rfl Tryz.ntmps125 fun hg0 hS=>Ae [] 1 hS fun hS=>Au (Ae [] 1 hS fun hS=>Ai hS (B5 (Ay [(3,GC (.ar .u32 8 h) [(.ar .u32 8 h:D)=(.ar .u32 8 h)] ⟨rfl,trivial⟩),(4,AR (T9 h))] [3] 2 hS fun hS=>Au (Ay [(8,AR (dT r n AD))] [] 2 hS fun hS=>Br (Ar (ι:=Nat×(List Int)×(Nat→Int)) hg0 hS (fun(k1,x4,o3_0)=>(x4.length,[(4,lb x4)],[(1,Ob9 o3_0)],((x4,o3_0)=EX h r n k1)∧(∀j,j<k1→Hy (EX h r n j))∧(x4.length%64=0∧x4.length≤r.length+200)∧True)) [2,3] [0] 2 (0,Hk r n,KB h) [(0,0),(1,1)] ⟨rfl,(fun j h=>absurd h (Nat.not_lt_zero j)),(Yg r n),trivial⟩ ?_)))))
 rintro⟨k1,x4,o3_0⟩ ac gs ws ⟨hq1,hj1,p1,_⟩ hS
 refine Au (Ae [] 2 hS fun hS=>AB ((0:Int)<((x4.length:Nat):Int)) hS (fun h1=> ?_) (fun h1=> ?_))
 ·exact BG (Av [(0,GC (.ar .u32 8 o3_0) [(.ar .u32 8 o3_0:D)=(.ar .u32 8 o3_0)] ⟨rfl,trivial⟩),(2,Ix (O8 o3_0 x4 AD) [] [] [.ar .u32 8 o3_0,lb x4] [])] [] 2 hS fun hS=>BV (Av [(1,ON 64 x4.length)] [4] 2 hS fun hS=>Ab (Am hg0 hS (k1+1,x4.drop 64,F6 o3_0 x4) [(0,0),(1,1)] ⟨(A2 (st:=SI) hq1 rfl rfl),(A1 hj1 (by rw[←hq1];exact h1)),(by rw[List.length_drop];omega),trivial⟩ (show(x4.drop 64).length<x4.length from by rw[List.length_drop];omega))))
 ·have hT:=hS
  obtain rfl:=BP (by rw[←hq1];first |exact h1|exact not_not_intro h1) hj1
  obtain⟨rfl,rfl⟩:=TZ hq1
  have hS:=hT
  refine MY (Ae [] 2 hS fun hS=>Br ?_)
  obtain⟨gs,hS⟩:=hS.nilk 2 5 [.int .u8]
  refine Ar (ι:=Nat×(List Int)) hg0 hS (fun(x32,x2)=>(8-x32,[(32,vi ((x32:Nat):Int))],[(2,.sl 5 [.int .u8] x2)],(x32≤8)∧(x2=JH h r n x32)∧(x2.length=4*x32)∧True)) [2,31] [0] 3 (0,[]) [(0,0),(2,2)] ⟨Ac,rfl,rfl,trivial⟩ ?_
  rintro⟨x32,x2⟩ ac gs ws ⟨hx32,hq2,p2,_⟩ hS
  refine Ae [] 3 hS fun hS=>Au (AB ((x32:Int)<8) hS (fun h2=> ?_) (fun h2=> ?_))
  ·exact BG (Ay [(0,AG x32 8)] [] 3 hS fun hS=>Av [(2,AR (V7 (((EX h r n (CU fun j=>Hy (EX h r n j))).2) x32))),(3,Ge x2.length ((CQ (((EX h r n (CU fun j=>Hy (EX h r n j))).2) x32)).length) 1 (by(simp only[E_,List.length_nil];omega)))] [2] 4 hS fun hS=>BV (Av [(0,BQ x32)] [32] 4 hS fun hS=>Ab (Am hg0 hS (x32+1,x2++(CQ (((EX h r n (CU fun j=>Hy (EX h r n j))).2) x32))) [(0,0),(2,3)] ⟨Ac,(A2 (st:=SH _ _ _) hq2 rfl rfl),(by rw[List.length_append,E_];omega),trivial⟩)))
  ·have hT:=hS
   obtain rfl:8=x32:=by omega
   obtain rfl:=hq2.symm
   have hS:=hT
   refine CX (Ae [2] 3 hS fun hS=>AU ?_)
   obtain⟨gs,hS⟩:=hS.rx [(0,0),(1,2)] [2] [0,1] 2 hg0
   exact Bh (Yn ..) hS
def zN:Con:=⟨[.cp 0 0],[(0,U9 h r n)],lb (Ey h r n),[(0,U9 h r n)]⟩
theorem nL (hr:r.length≤100000000000):ConOk Tryz.prog 125 (zN h r n):=ConOk.frz [(0,U9 h r n)] 1 5 [.int .u8] (Ey h r n) (aT h r n hr) (by kernel_rfl)
def zO:Con:=⟨[.im (chain [.ar .u32 8 h,lb r,.v (.int .u64 n)]) 0],[],.cp 0 0,[(0,U9 h r n)]⟩
theorem WI (hr:r.length≤100000000000):ConOk Tryz.prog 124 (zO h r n):=by
 exact cy 0 Tryz.func124 rfl Tryz.ntmps124 fun hg0 hS=>Ae [] 0 hS fun hS=>Au (Ae [] 0 hS fun hS=>Ai hS (B5 (Ay [(3,GC (.ar .u32 8 h) [(.ar .u32 8 h:D)=(.ar .u32 8 h)] ⟨rfl,trivial⟩),(8,AR (Dt r AD))] [] 1 hS fun hS=>AU (Ci hS))))
end
end
end Go.Sx.Tryz
namespace Go.Sx.Tryz
open Go.Mi Go.RowKit Go.Sx Go.Proofs
noncomputable section
theorem Mm (h:Nat→Int) (r:List Int) (n:Int) (b:List Int):(C3 h r n b).2.1.length≤r.length+b.length:=by
 have key:∀k,(Cu h r b k).1.length≤r.length+b.length:=by
  intro k
  induction k with
  |zero=>show[r,b].flatten.length≤_;simp
  |succ k ih=>show((Cu h r b k).1.drop 64).length≤_;rw[List.length_drop];omega
 rw[nR]
 exact key _
def NK (x22:Nat):((Nat→Int)×(Nat→Int))→((Nat→Int)×(Nat→Int)):=fun(o4_0,o5_0)=>(upd o4_0 x22 (AK .u8 (o4_0 x22) 54),upd o5_0 x22 (AK .u8 (o4_0 x22) 92))
section
variable (key:List Int)
def CL (key:List Int):Nat→(Nat→Int)×(Nat→Int)
 |0=>(Dg (fun _=>0) 0 (min key.length 64) (fun j=>key.getD j 0),fun _=>0)
 |x22+1=>NK x22 (CL key x22)
def Wq:(Nat→Int)×(List Int)×Int×(Nat→Int)×(List Int)×Int:=((C3 (fun _=>0) ([]:List Int) 0 ((List.range 64).map ((CL key 64).1))).1,(C3 (fun _=>0) ([]:List Int) 0 ((List.range 64).map ((CL key 64).1))).2.1,((C3 (fun _=>0) ([]:List Int) 0 ((List.range 64).map ((CL key 64).1))).2.2),(C3 (fun _=>0) ([]:List Int) 0 ((List.range 64).map ((CL key 64).2))).1,(C3 (fun _=>0) ([]:List Int) 0 ((List.range 64).map ((CL key 64).2))).2.1,((C3 (fun _=>0) ([]:List Int) 0 ((List.range 64).map ((CL key 64).2))).2.2))
def Ag:(Nat→Int)×(List Int)×Int×(Nat→Int)×(List Int)×Int:=AJ (Wq key)
theorem Ws:Ag key=Wq key:=Af _
theorem Cn:(Ag key).2.1.length≤64∧(Ag key).2.2.2.2.1.length≤64:=by
 rw[Ws]
 have h1:=Mm (fun _=>0) [] 0 ((List.range 64).map ((CL key 64).1))
 have h2:=Mm (fun _=>0) [] 0 ((List.range 64).map ((CL key 64).2))
 simp only[List.length_nil,List.length_map,List.length_range]at h1 h2
 rw[Nat.zero_add]at h1 h2
 exact⟨h1,h2⟩
def rN (z_:(Nat→Int)×(List Int)×Int×(Nat→Int)×(List Int)×Int:=Ag key):Con:=⟨[lb key],[],.im (chain [.im (chain [.ar .u32 8 (z_.1),lb (z_.2.1),.v (.int .u64 (z_.2.2.1))]) 0,.im (chain [.ar .u32 8 (z_.2.2.2.1),lb (z_.2.2.2.2.1),.v (.int .u64 (z_.2.2.2.2.2))]) 0]) 0,[]⟩
theorem Hq (hk:key.length≤64):ConOk Tryz.prog 85 (rN key):=by
 refine cy 0 Tryz.func85 rfl Tryz.ntmps85 fun hg0 hS=> ?_
 have A6:key.length≤9223372036854775807:=hS.len 0 rfl
 have hf:¬(64:Int)<((key.length:Nat):Int):=Ac
 refine Ae [] 0 hS fun hS=>Au (Ay [(2,Ez hf)] [] 0 hS fun hS=>Ai hS (B5 (Ae [] 3 hS fun hS=>Ae [] 5 hS fun hS=>Ay [(0,tA [E3 none none none 64 64,64≤9223372036854775807,bl none 0<bl none 64] ⟨⟨by simp only[FX]<;>omega,by simp only[FX]<;>omega,by simp only[FX]<;>omega,by simp,by simp only[bl]<;>omega,by simp only[bl]<;>omega,by simp only[bl]<;>omega⟩,by omega,by decide,trivial⟩)] [] 5 hS fun hS=>Au (Ae [] 5 hS fun hS=>Br (Ar (ι:=Nat×(Nat→Int)×(Nat→Int)) hg0 hS (fun(x22,o4_0,o5_0)=>(64-x22,[(22,vi ((x22:Nat):Int))],[(3,.ob 182 (chain [.ar .u8 64 o4_0])),(4,.ob 182 (chain [.ar .u8 64 o5_0]))],(x22≤64)∧((o4_0,o5_0)=CL key x22)∧True)) [2,3,4,5] [0,1,2] 5 (0,Dg (fun _=>0) 0 (min key.length 64) (fun j=>key.getD j 0),fun _=>0) [(0,0),(1,1),(2,2),(3,3),(4,4)] ⟨Ac,rfl,trivial⟩ ?_)))))
 rintro⟨x22,o4_0,o5_0⟩ ac gs ws ⟨hx22,hq1,_⟩ hS
 refine Ae [] 5 hS fun hS=>Au (AB ((x22:Int)<64) hS (fun h1=> ?_) (fun h1=> ?_))
 ·exact BG (Ae [] 5 hS fun hS=>Av [(3,AG x22 64),(7,AG x22 64),(10,AG x22 64),(12,AG x22 64)] [] 5 hS fun hS=>BV (Av [(0,BQ x22)] [22] 5 hS fun hS=>Ab (Am hg0 hS (x22+1,upd o4_0 x22 (AK .u8 (o4_0 x22) 54),upd o5_0 x22 (AK .u8 (o4_0 x22) 92)) [(0,0),(1,1),(2,2),(3,3),(4,4)] ⟨Ac,(A2 (st:=NK) hq1 rfl rfl),trivial⟩)))
 ·have hT:=hS
  obtain rfl:64=x22:=by omega
  obtain⟨rfl,rfl⟩:=TZ hq1
  have hS:=hT
  refine MY ?_
  have hS:=hS.wko 0 [.top,lb [],.top]
  refine Av [(4,U6 .frz [] trivial),(5,AO (Ot (fun _=>0) ([]:List Int) 0 ((List.range 64).map ((CL key 64).1)) AD AD) [(0,0)] [])] [] 5 hS fun hS=>Ej ?_
  have hS:=hS.wko 1 [.top,lb [],.top]
  refine Av [(4,U6 .frz [] trivial),(5,AO (Ot (fun _=>0) ([]:List Int) 0 ((List.range 64).map ((CL key 64).2)) AD AD) [(0,1)] [])] [] 5 hS fun hS=> ?_
  obtain⟨gs,hS⟩:=hS.im 0
  obtain⟨gs,hS⟩:=hS.im 1
  obtain⟨gs,hS⟩:=hS.im 2
  exact Ab (Ae [] 5 hS fun hS=>AU (Bh (Ws ..) hS))
end
def SD (l:List (List Int)) (x30:Nat):((Nat→Int)×(List Int)×Int)→((Nat→Int)×(List Int)×Int):=fun(o5_0,o5_1,o5_2)=>((C3 o5_0 o5_1 o5_2 (l.getD x30 (rz [.sl (.int .u8)]))).1,(C3 o5_0 o5_1 o5_2 (l.getD x30 (rz [.sl (.int .u8)]))).2.1,((C3 o5_0 o5_1 o5_2 (l.getD x30 (rz [.sl (.int .u8)]))).2.2))
section
variable (u1:Nat→Int) (r1:List Int) (n1:Int)
def Bu (u1:Nat→Int) (r1:List Int) (n1:Int) (l:List (List Int)):Nat→(Nat→Int)×(List Int)×Int
 |0=>(u1,r1,n1)
 |x30+1=>SD l x30 (Bu u1 r1 n1 l x30)
def m7 (u2:Nat→Int) (r2:List Int) (n2:Int) (l:List (List Int)):(List Int):=Ey ((C3 u2 r2 n2 (Ey ((Bu u1 r1 n1 l l.length).1) ((Bu u1 r1 n1 l l.length).2.1) ((Bu u1 r1 n1 l l.length).2.2))).1) ((C3 u2 r2 n2 (Ey ((Bu u1 r1 n1 l l.length).1) ((Bu u1 r1 n1 l l.length).2.1) ((Bu u1 r1 n1 l l.length).2.2))).2.1) ((C3 u2 r2 n2 (Ey ((Bu u1 r1 n1 l l.length).1) ((Bu u1 r1 n1 l l.length).2.1) ((Bu u1 r1 n1 l l.length).2.2))).2.2)
def Co (u2:Nat→Int) (r2:List Int) (n2:Int) (l:List (List Int)):(List Int):=AJ (m7 u1 r1 n1 u2 r2 n2 l)
theorem Yj (u2:Nat→Int) (r2:List Int) (n2:Int) (l:List (List Int)):Co u1 r1 n1 u2 r2 n2 l=m7 u1 r1 n1 u2 r2 n2 l:=Af _
def Adf (u2:Nat→Int) (r2:List Int) (n2:Int) (l:List (List Int)) (z_:(List Int):=Co u1 r1 n1 u2 r2 n2 l):Con:=⟨[.im (chain [.im (chain [.ar .u32 8 u1,lb r1,.v (.int .u64 n1)]) 0,.im (chain [.ar .u32 8 u2,lb r2,.v (.int .u64 n2)]) 0]) 0,.ls false [.sl (.int .u8)] l],[],.sk 0,[(0,.sl 5 [.int .u8] z_)]⟩
theorem aI (u2:Nat→Int) (r2:List Int) (n2:Int) (l:List (List Int)) (hr1:r1.length≤64) (hr2:r2.length≤64) (hl:l.flatten.length≤50000000000):ConOk Tryz.prog 86 (Adf u1 r1 n1 u2 r2 n2 l):=by
 refine cy 0 Tryz.func86 rfl Tryz.ntmps86 fun hg0 hS=> ?_
 have Bf:l.length≤9223372036854775807:=hS.len 1 rfl
 refine Ae [] 0 hS fun hS=>Au (Ae [] 0 hS fun hS=>Ai hS (EK (Ae [] 0 hS fun hS=>Ai hS (B5 (Ay [(4,AO (WI u1 r1 n1 AD) [] [(0,0)]),(9,AO (WI u2 r2 n2 AD) [] [(0,1)])] [] 2 hS fun hS=>Au (Ae [28] 2 hS fun hS=>Br (Ar (ι:=Nat×(Nat→Int)×(List Int)×Int) hg0 hS (fun(x30,o5_0,o5_1,o5_2)=>(l.length-x30,[(30,vi ((x30:Nat):Int))],[(0,U9 o5_0 o5_1 o5_2)],(x30≤l.length)∧((o5_0,o5_1,o5_2)=Bu u1 r1 n1 l x30)∧(o5_1.length≤r1.length+(l.take x30).flatten.length)∧True)) [4,5,6,28,29] [1] 2 (0,u1,r1,n1) [(0,0),(1,1)] ⟨Ac,rfl,(by simp),trivial⟩ ?_)))))))
 rintro⟨x30,o5_0,o5_1,o5_2⟩ ac gs ws ⟨hx30,hq1,p1,_⟩ hS
 refine Ae [] 2 hS fun hS=>Au (AB ((x30:Int)<((l.length:Nat):Int)) hS (fun h1=> ?_) (fun h1=> ?_))
 ·refine BG (Ay [(0,AG x30 l.length)] [] 2 hS fun hS=> ?_)
  have hb:=YT (l:=l) (j:=x30) Ac hl
  exact Av [(2,AO (Ot o5_0 o5_1 o5_2 (l.getD x30 (rz [.sl (.int .u8)])) AD AD) [(0,0)] [])] [] 2 hS fun hS=>BV (Av [(0,BQ x30)] [30] 2 hS fun hS=>Ab (Am hg0 hS (x30+1,(C3 o5_0 o5_1 o5_2 (l.getD x30 (rz [.sl (.int .u8)]))).1,(C3 o5_0 o5_1 o5_2 (l.getD x30 (rz [.sl (.int .u8)]))).2.1,((C3 o5_0 o5_1 o5_2 (l.getD x30 (rz [.sl (.int .u8)]))).2.2)) [(0,0),(1,1)] ⟨Ac,(A2 (st:=SD _) hq1 rfl rfl),(by have hc:=UU l x30 Ac;have ha:=Mm o5_0 o5_1 o5_2 (l.getD x30 (rz [.sl (.int .u8)]));omega),trivial⟩))
 ·have hT:=hS
  obtain rfl:l.length=x30:=by omega
  obtain⟨rfl,rfl,rfl⟩:=lX hq1
  have hS:=hT
  refine MY ?_
  rw[List.take_length]at p1
  refine Av [(2,AO (nL ((Bu u1 r1 n1 l l.length).1) ((Bu u1 r1 n1 l l.length).2.1) ((Bu u1 r1 n1 l l.length).2.2) AD) [(0,0)] []),(3,AO (Ot u2 r2 n2 (Ey ((Bu u1 r1 n1 l l.length).1) ((Bu u1 r1 n1 l l.length).2.1) ((Bu u1 r1 n1 l l.length).2.2)) AD AD) [(0,1)] [])] [] 2 hS fun hS=>Ej ?_
  have hx:=Mm u2 r2 n2 (Ey ((Bu u1 r1 n1 l l.length).1) ((Bu u1 r1 n1 l l.length).2.1) ((Bu u1 r1 n1 l l.length).2.2))
  rw[WH]at hx
  refine Av [(1,AO (aT ((C3 u2 r2 n2 (Ey ((Bu u1 r1 n1 l l.length).1) ((Bu u1 r1 n1 l l.length).2.1) ((Bu u1 r1 n1 l l.length).2.2))).1) ((C3 u2 r2 n2 (Ey ((Bu u1 r1 n1 l l.length).1) ((Bu u1 r1 n1 l l.length).2.1) ((Bu u1 r1 n1 l l.length).2.2))).2.1) ((C3 u2 r2 n2 (Ey ((Bu u1 r1 n1 l l.length).1) ((Bu u1 r1 n1 l l.length).2.1) ((Bu u1 r1 n1 l l.length).2.2))).2.2) AD) [(0,1)] [(1,2)])] [] 3 hS fun hS=>D6 ?_
  obtain⟨gs,hS⟩:=hS.rx [(0,2)] [4] [0] 1 hg0
  exact Bh (Yj ..) hS
def zL (u2:Nat→Int) (r2:List Int) (n2:Int) (l:List (List Int)):Con:=⟨[.im (chain [.im (chain [.ar .u32 8 u1,lb r1,.v (.int .u64 n1)]) 0,.im (chain [.ar .u32 8 u2,lb r2,.v (.int .u64 n2)]) 0]) 0,.ls false [.sl (.int .u8)] l],[],lb (Co u1 r1 n1 u2 r2 n2 l),[]⟩
theorem IZ (u2:Nat→Int) (r2:List Int) (n2:Int) (l:List (List Int)) (hr1:r1.length≤64) (hr2:r2.length≤64) (hl:l.flatten.length≤50000000000):ConOk Tryz.prog 86 (zL u1 r1 n1 u2 r2 n2 l):=ConOk.frz [] 0 5 [.int .u8] (Co u1 r1 n1 u2 r2 n2 l) (aI u1 r1 n1 u2 r2 n2 l hr1 hr2 hl) (by kernel_rfl)
end
@[simp] theorem B2 (u1:Nat→Int) (r1:List Int) (n1:Int) (u2:Nat→Int) (r2:List Int) (n2:Int) (l:List (List Int)):(Co u1 r1 n1 u2 r2 n2 l).length=32:=by rw[Yj];exact WH ..
section
variable (key:List Int) (l:List (List Int))
def AaN:(List Int):=Co ((Ag key).1) ((Ag key).2.1) ((Ag key).2.2.1) ((Ag key).2.2.2.1) ((Ag key).2.2.2.2.1) ((Ag key).2.2.2.2.2) l
def Wx:(List Int):=AJ (AaN key l)
theorem AaO:Wx key l=AaN key l:=Af _
end
@[simp] theorem Ui (key:List Int) (l:List (List Int)):(Wx key l).length=32:=by rw[AaO];exact B2 ..
section
variable (key:List Int) (l:List (List Int))
def Afd (z_:(List Int):=Wx key l):Con:=⟨[lb key,.ls false [.sl (.int .u8)] l],[],lb z_,[]⟩
theorem Ab2 (hk:key.length≤64) (hl:l.flatten.length≤50000000000):ConOk Tryz.prog 123 (Afd key l):=by
 refine cy 0 Tryz.func123 rfl Tryz.ntmps123 fun hg0 hS=> ?_
 have A6:key.length≤9223372036854775807:=hS.len 0 rfl
 have Bf:l.length≤9223372036854775807:=hS.len 1 rfl
 exact Ae [] 0 hS fun hS=>Ay [(1,AR (Hq key AD)),(3,AR (IZ ((Ag key).1) ((Ag key).2.1) ((Ag key).2.2.1) ((Ag key).2.2.2.1) ((Ag key).2.2.2.2.1) ((Ag key).2.2.2.2.2) l (Cn _).1 (Cn _).2 (by first |assumption|omega|(simp only[List.flatten_cons,List.flatten_nil,List.length_append,List.length_cons,List.length_nil]<;>omega)|(simp<;>omega))))] [] 0 hS fun hS=>AU (Bh (AaO ..) hS)
end
section
variable (l:List (List Int))
def mW:(List Int):=Co ((Ag ([]:List Int)).1) ((Ag ([]:List Int)).2.1) ((Ag ([]:List Int)).2.2.1) ((Ag ([]:List Int)).2.2.2.1) ((Ag ([]:List Int)).2.2.2.2.1) ((Ag ([]:List Int)).2.2.2.2.2) l
def mX:(List Int):=AJ (mW l)
theorem Ab3:mX l=mW l:=Af _
end
@[simp] theorem Ql (l:List (List Int)):(mX l).length=32:=by rw[Ab3];exact B2 ..
end
end Go.Sx.Tryz
namespace Go.Sx.Tryz
open Go.Mi Go.RowKit Go.Sx Go.Proofs
noncomputable section
section
variable (key ikm:List Int)
def SL:(List Int):=Wx key [ikm]
def D4:(List Int):=AJ (SL key ikm)
theorem SN:D4 key ikm=SL key ikm:=Af _
end
@[simp] theorem WM (key:List Int) (ikm:List Int):(D4 key ikm).length=32:=by rw[SN];exact Ui ..
section
variable (key ikm:List Int)
def f6 (z_:(List Int):=D4 key ikm):Con:=⟨[lb key,lb ikm],[],lb z_,[]⟩
theorem KU (hk:key.length≤64) (hi:ikm.length≤1000000000):ConOk Tryz.prog 113 (f6 key ikm):=by
 refine cy 0 Tryz.func113 rfl Tryz.ntmps113 fun hg0 hS=> ?_
 have A6:key.length≤9223372036854775807:=hS.len 0 rfl
 have Bf:ikm.length≤9223372036854775807:=hS.len 1 rfl
 exact Ae [] 0 hS fun hS=>Ay [(3,AR (Ab2 key [ikm] AD (by first |assumption|omega|(simp only[List.flatten_cons,List.flatten_nil,List.length_append,List.length_cons,List.length_nil]<;>omega)|(simp<;>omega))))] [] 0 hS fun hS=>AU (Bh (SN ..) hS)
end
section
variable (ikm:List Int)
def QA:(List Int):=Wx ([]:List Int) [ikm]
def QB:(List Int):=AJ (QA ikm)
theorem Yu:QB ikm=QA ikm:=Af _
end
@[simp] theorem Mo (ikm:List Int):(QB ikm).length=32:=by rw[Yu];exact Ql ..
def J_ (key info:List Int) (k1:Nat):(Int×(List Int)×(List Int))→(Int×(List Int)×(List Int)):=fun(x10,x8,x9)=>((AZ .u8 x10 1),x8++(Co ((Ag key).1) ((Ag key).2.1) ((Ag key).2.2.1) ((Ag key).2.2.2.1) ((Ag key).2.2.2.2.1) ((Ag key).2.2.2.2.2) [x9,info,[x10]]),Co ((Ag key).1) ((Ag key).2.1) ((Ag key).2.2.1) ((Ag key).2.2.2.1) ((Ag key).2.2.2.2.1) ((Ag key).2.2.2.2.2) [x9,info,[x10]])
def BL (key info:List Int):Nat→Int×(List Int)×(List Int)
 |0=>(1,[],[])
 |k1+1=>J_ key info k1 (BL key info k1)
def Eh:(Int×(List Int)×(List Int))→Prop:=fun(x10,x8,x9)=>((x8.length:Nat):Int)<32
section
variable (key info:List Int)
def KX:(List Int):=[]++(((BL key info (CU fun j=>Eh (BL key info j))).2.1).take 32)
def Gw:(List Int):=AJ (KX key info)
theorem QC:Gw key info=KX key info:=Af _
end
theorem H7 (key info:List Int):∀k,(BL key info k).2.1.length=32*k
 |0=>rfl
 |k+1=>by
  show((BL key info k).2.1++Co _ _ _ _ _ _ _).length=_
  rw[List.length_append,B2,H7 key info k];omega
@[simp] theorem UA (key info:List Int):(Gw key info).length=32:=by
 have h:(CU fun j=>Eh (BL key info j))=1:=by
  refine(BP ?_ ?_).symm
  ·show¬(((BL key info 1).2.1.length:Nat):Int)<32
   rw[H7];omega
  ·intro j hj
   show(((BL key info j).2.1.length:Nat):Int)<32
   rw[H7];omega
 rw[QC]
 unfold KX
 rw[h,List.nil_append,List.length_take,H7]
 omega
section
variable (key info:List Int)
def Y3 (z_:(List Int):=Gw key info):Con:=⟨[lb key,lb info,vi 32],[],lb z_,[]⟩
theorem NO (hk:key.length≤64) (hf:info.length≤1000000000):ConOk Tryz.prog 112 (Y3 key info):=by
 refine cy 0 Tryz.func112 rfl Tryz.ntmps112 fun hg0 hS=> ?_
 have A6:key.length≤9223372036854775807:=hS.len 0 rfl
 have Bf:info.length≤9223372036854775807:=hS.len 1 rfl
 refine Ae [] 0 hS fun hS=>Au (Ae [] 0 hS fun hS=>Ai hS (B5 (Ay [(1,AR (Hq key AD))] [] 0 hS fun hS=>Ae [] 0 hS fun hS=>Au (Ae [] 0 hS fun hS=>Br ?_))))
 obtain⟨gs,hS⟩:=hS.nilk 8 5 [.int .u8]
 have hS:=hS.wk 9 (lb [])
 refine Ar (ι:=Nat×Int×(List Int)×(List Int)) hg0 hS (fun(k1,x10,x8,x9)=>(32-x8.length,[(9,lb x9),(10,.v (.int .u8 x10))],[(0,.sl 5 [.int .u8] x8)],((x10,x8,x9)=BL key info k1)∧(∀j,j<k1→Eh (BL key info j))∧(x9.length≤32)∧(x8.length=32*k1)∧True)) [1,2,6,7,8] [] 1 (0,1,[],[]) [(0,0)] ⟨rfl,(fun j h=>absurd h (Nat.not_lt_zero j)),(by simp),rfl,trivial⟩ ?_
 rintro⟨k1,x10,x8,x9⟩ ac gs ws ⟨hq1,hj1,p1,p2,_⟩ hS
 refine Au (Ae [] 1 hS fun hS=>AB (((x8.length:Nat):Int)<32) hS (fun h1=> ?_) (fun h1=> ?_))
 ·exact BG (Ay [(6,AR (IZ ((Ag key).1) ((Ag key).2.1) ((Ag key).2.2.1) ((Ag key).2.2.2.1) ((Ag key).2.2.2.2.1) ((Ag key).2.2.2.2.2) [x9,info,[x10]] (Cn _).1 (Cn _).2 (by first |assumption|omega|(simp only[List.flatten_cons,List.flatten_nil,List.length_append,List.length_cons,List.length_nil,B2,Ui,Ql]<;>omega)|(simp<;>omega))))] [9] 1 hS fun hS=>Av [(2,Ge x8.length ((Co ((Ag key).1) ((Ag key).2.1) ((Ag key).2.2.1) ((Ag key).2.2.2.1) ((Ag key).2.2.2.2.1) ((Ag key).2.2.2.2.2) [x9,info,[x10]]).length) 1 (by(first |omega|(rw[B2];omega)|(simp only[List.length_nil,List.length_take];omega))))] [8] 2 hS fun hS=>BV (Dn [10] 2 hS fun hS=>Ab (Am hg0 hS (k1+1,(AZ .u8 x10 1),x8++(Co ((Ag key).1) ((Ag key).2.1) ((Ag key).2.2.1) ((Ag key).2.2.2.1) ((Ag key).2.2.2.2.1) ((Ag key).2.2.2.2.2) [x9,info,[x10]]),Co ((Ag key).1) ((Ag key).2.1) ((Ag key).2.2.1) ((Ag key).2.2.2.1) ((Ag key).2.2.2.2.1) ((Ag key).2.2.2.2.2) [x9,info,[x10]]) [(0,1)] ⟨(A2 (st:=J_ _ _) hq1 rfl rfl),(A1 hj1 (by rw[←hq1];exact h1)),(by rw[B2];omega),(by rw[List.length_append,B2];omega),trivial⟩ (show 32-(x8++Co _ _ _ _ _ _ _).length<32-x8.length from by rw[List.length_append,B2];omega))))
 ·have hT:=hS
  obtain rfl:=BP (by rw[←hq1];first |exact h1|exact not_not_intro h1) hj1
  obtain⟨rfl,rfl,rfl⟩:=lX hq1
  have hS:=hT
  refine MY ?_
  have hz:=h1
  obtain⟨gs,hS⟩:=hS.fz 0
  refine Av [(2,g9 32 ((BL key info (CU fun j=>Eh (BL key info j))).2.1).length),(3,Ge 0 ((((BL key info (CU fun j=>Eh (BL key info j))).2.1).take 32).length) 1 (by(first |omega|(rw[B2];omega)|(simp only[List.length_nil,List.length_take];omega))))] [] 2 hS fun hS=>D6 ?_
  obtain⟨gs,hS⟩:=hS.fz 1
  exact Bh (QC ..) hS
def J9 (k1:Nat):(Int×(List Int)×(List Int))→(Int×(List Int)×(List Int)):=fun(x10,x8,x9)=>((AZ .u8 x10 1),x8++(Co ((Ag key).1) ((Ag key).2.1) ((Ag key).2.2.1) ((Ag key).2.2.2.1) ((Ag key).2.2.2.2.1) ((Ag key).2.2.2.2.2) [x9,info,[x10]]),Co ((Ag key).1) ((Ag key).2.1) ((Ag key).2.2.1) ((Ag key).2.2.2.1) ((Ag key).2.2.2.2.1) ((Ag key).2.2.2.2.2) [x9,info,[x10]])
end
def BE (key info:List Int):Nat→Int×(List Int)×(List Int)
 |0=>(1,[],[])
 |k1+1=>J9 key info k1 (BE key info k1)
def Eg:(Int×(List Int)×(List Int))→Prop:=fun(x10,x8,x9)=>((x8.length:Nat):Int)<64
section
variable (key info:List Int)
def H5:(List Int):=[]++(((BE key info (CU fun j=>Eg (BE key info j))).2.1).take 64)
def Gv:(List Int):=AJ (H5 key info)
theorem KV:Gv key info=H5 key info:=Af _
end
theorem H6 (key info:List Int):∀k,(BE key info k).2.1.length=32*k
 |0=>rfl
 |k+1=>by
  show((BE key info k).2.1++Co _ _ _ _ _ _ _).length=_
  rw[List.length_append,B2,H6 key info k];omega
@[simp] theorem Uz (key info:List Int):(Gv key info).length=64:=by
 have h:(CU fun j=>Eg (BE key info j))=2:=by
  refine(BP ?_ ?_).symm
  ·show¬(((BE key info 2).2.1.length:Nat):Int)<64
   rw[H6];omega
  ·intro j hj
   show(((BE key info j).2.1.length:Nat):Int)<64
   rw[H6];omega
 rw[KV]
 unfold H5
 rw[h,List.nil_append,List.length_take,H6]
 omega
section
variable (key:List Int)
def Y2 (info:List Int) (z_:(List Int):=Gv key info):Con:=⟨[lb key,lb info,vi 64],[],lb z_,[]⟩
theorem WN (info:List Int) (hk:key.length≤64) (hf:info.length≤1000000000):ConOk Tryz.prog 112 (Y2 key info):=by
 refine cy 0 Tryz.func112 rfl Tryz.ntmps112 fun hg0 hS=> ?_
 have A6:key.length≤9223372036854775807:=hS.len 0 rfl
 have Bf:info.length≤9223372036854775807:=hS.len 1 rfl
 refine Ae [] 0 hS fun hS=>Au (Ae [] 0 hS fun hS=>Ai hS (B5 (Ay [(1,AR (Hq key AD))] [] 0 hS fun hS=>Ae [] 0 hS fun hS=>Au (Ae [] 0 hS fun hS=>Br ?_))))
 obtain⟨gs,hS⟩:=hS.nilk 8 5 [.int .u8]
 have hS:=hS.wk 9 (lb [])
 refine Ar (ι:=Nat×Int×(List Int)×(List Int)) hg0 hS (fun(k1,x10,x8,x9)=>(64-x8.length,[(9,lb x9),(10,.v (.int .u8 x10))],[(0,.sl 5 [.int .u8] x8)],((x10,x8,x9)=BE key info k1)∧(∀j,j<k1→Eg (BE key info j))∧(x9.length≤32)∧(x8.length=32*k1)∧True)) [1,2,6,7,8] [] 1 (0,1,[],[]) [(0,0)] ⟨rfl,(fun j h=>absurd h (Nat.not_lt_zero j)),(by simp),rfl,trivial⟩ ?_
 rintro⟨k1,x10,x8,x9⟩ ac gs ws ⟨hq1,hj1,p1,p2,_⟩ hS
 refine Au (Ae [] 1 hS fun hS=>AB (((x8.length:Nat):Int)<64) hS (fun h1=> ?_) (fun h1=> ?_))
 ·exact BG (Ay [(6,AR (IZ ((Ag key).1) ((Ag key).2.1) ((Ag key).2.2.1) ((Ag key).2.2.2.1) ((Ag key).2.2.2.2.1) ((Ag key).2.2.2.2.2) [x9,info,[x10]] (Cn _).1 (Cn _).2 (by first |assumption|omega|(simp only[List.flatten_cons,List.flatten_nil,List.length_append,List.length_cons,List.length_nil,B2,Ui,Ql]<;>omega)|(simp<;>omega))))] [9] 1 hS fun hS=>Av [(2,Ge x8.length ((Co ((Ag key).1) ((Ag key).2.1) ((Ag key).2.2.1) ((Ag key).2.2.2.1) ((Ag key).2.2.2.2.1) ((Ag key).2.2.2.2.2) [x9,info,[x10]]).length) 1 (by(first |omega|(rw[B2];omega)|(simp only[List.length_nil,List.length_take];omega))))] [8] 2 hS fun hS=>BV (Dn [10] 2 hS fun hS=>Ab (Am hg0 hS (k1+1,(AZ .u8 x10 1),x8++(Co ((Ag key).1) ((Ag key).2.1) ((Ag key).2.2.1) ((Ag key).2.2.2.1) ((Ag key).2.2.2.2.1) ((Ag key).2.2.2.2.2) [x9,info,[x10]]),Co ((Ag key).1) ((Ag key).2.1) ((Ag key).2.2.1) ((Ag key).2.2.2.1) ((Ag key).2.2.2.2.1) ((Ag key).2.2.2.2.2) [x9,info,[x10]]) [(0,1)] ⟨(A2 (st:=J9 _ _) hq1 rfl rfl),(A1 hj1 (by rw[←hq1];exact h1)),(by rw[B2];omega),(by rw[List.length_append,B2];omega),trivial⟩ (show 64-(x8++Co _ _ _ _ _ _ _).length<64-x8.length from by rw[List.length_append,B2];omega))))
 ·have hT:=hS
  obtain rfl:=BP (by rw[←hq1];first |exact h1|exact not_not_intro h1) hj1
  obtain⟨rfl,rfl,rfl⟩:=lX hq1
  have hS:=hT
  refine MY ?_
  have hz:=h1
  obtain⟨gs,hS⟩:=hS.fz 0
  refine Av [(2,g9 64 ((BE key info (CU fun j=>Eg (BE key info j))).2.1).length),(3,Ge 0 ((((BE key info (CU fun j=>Eg (BE key info j))).2.1).take 64).length) 1 (by(first |omega|(rw[B2];omega)|(simp only[List.length_nil,List.length_take];omega))))] [] 2 hS fun hS=>D6 ?_
  obtain⟨gs,hS⟩:=hS.fz 1
  exact Bh (KV ..) hS
def QP (ikm info:List Int):(List Int):=Gw (D4 key ikm) info
def AI (ikm info:List Int):(List Int):=AJ (QP key ikm info)
theorem QQ (ikm info:List Int):AI key ikm info=QP key ikm info:=Af _
end
@[simp] theorem EZ (key:List Int) (ikm info:List Int):(AI key ikm info).length=32:=by rw[QQ];exact UA ..
section
variable (key ikm info:List Int)
def Y9 (z_:(List Int):=AI key ikm info):Con:=⟨[lb key,lb ikm,lb info,vi 32],[],lb z_,[]⟩
theorem EJ (hk:key.length≤64) (hi:ikm.length≤1000000000) (hf:info.length≤1000000000):ConOk Tryz.prog 75 (Y9 key ikm info):=by
 refine cy 0 Tryz.func75 rfl Tryz.ntmps75 fun hg0 hS=> ?_
 have A6:key.length≤9223372036854775807:=hS.len 0 rfl
 have Bf:ikm.length≤9223372036854775807:=hS.len 1 rfl
 have CF:info.length≤9223372036854775807:=hS.len 2 rfl
 refine Ae [] 0 hS fun hS=>Au ?_
 have hl:=WM key ikm
 exact Av [(2,AR (KU key ikm AD AD)),(5,AR (NO (D4 key ikm) info AD AD))] [] 0 hS fun hS=>D6 (Bh (QQ ..) hS)
end
section
variable (ikm info:List Int)
def Mv:(List Int):=Gw (D4 ([]:List Int) ikm) info
def Mw:(List Int):=AJ (Mv ikm info)
theorem UG:Mw ikm info=Mv ikm info:=Af _
def UY (z_:(List Int):=Mw ikm info):Con:=⟨[.v (.slice none 0 0),lb ikm,lb info,vi 32],[],lb z_,[]⟩
theorem tO (hi:ikm.length≤1000000000) (hf:info.length≤1000000000):ConOk Tryz.prog 75 (UY ikm info):=by
 refine cy 0 Tryz.func75 rfl Tryz.ntmps75 fun hg0 hS=> ?_
 have Bf:ikm.length≤9223372036854775807:=hS.len 1 rfl
 have CF:info.length≤9223372036854775807:=hS.len 2 rfl
 refine Ae [] 0 hS fun hS=>Au ?_
 have hl:=Mo ikm
 exact Av [(2,AR (KU ([]:List Int) ikm AD AD)),(5,AR (NO (D4 ([]:List Int) ikm) info AD AD))] [] 0 hS fun hS=>D6 (Bh (UG ..) hS)
def Mu:(List Int):=Gv (D4 ([]:List Int) ikm) info
def Bj:(List Int):=AJ (Mu ikm info)
theorem Ib:Bj ikm info=Mu ikm info:=Af _
end
@[simp] theorem Jc (ikm info:List Int):(Bj ikm info).length=64:=by rw[Ib];exact Uz ..
section
variable (ikm info:List Int)
def UX (z_:(List Int):=Bj ikm info):Con:=⟨[.v (.slice none 0 0),lb ikm,lb info,vi 64],[],lb z_,[]⟩
theorem Ru (hi:ikm.length≤1000000000) (hf:info.length≤1000000000):ConOk Tryz.prog 75 (UX ikm info):=by
 refine cy 0 Tryz.func75 rfl Tryz.ntmps75 fun hg0 hS=> ?_
 have Bf:ikm.length≤9223372036854775807:=hS.len 1 rfl
 have CF:info.length≤9223372036854775807:=hS.len 2 rfl
 refine Ae [] 0 hS fun hS=>Au ?_
 have hl:=Mo ikm
 exact Av [(2,AR (KU ([]:List Int) ikm AD AD)),(5,AR (WN (D4 ([]:List Int) ikm) info AD AD))] [] 0 hS fun hS=>D6 (Bh (Ib ..) hS)
end
end
end Go.Sx.Tryz
namespace Go.Sx
open Go.Mi Go.RowKit
def Rb (n:Nat) (f:Nat→Int):Prop:=∀j,j<n→0≤f j∧f j<256
theorem Zr (x:Int):0≤IntKind.wrap .u8 x∧IntKind.wrap .u8 x<256:=by rw[EN];omega
theorem Iy (a b:Int):0≤AK .u8 a b∧AK .u8 a b<256:=Zr _
theorem Rb.zero (f:Nat→Int):Rb 0 f:=fun _ h=>absurd h (Nat.not_lt_zero _)
theorem Rb.next {n:Nat} {f:Nat→Int} {v:Int} (h:Rb n f) (hv:0≤v∧v<256):Rb (n+1) (upd f n v):=fun j hj=>by
 unfold upd
 split
 ·exact hv
 ·exact h j (by omega)
theorem Rb.set {n:Nat} {f:Nat→Int} {v:Int} (h:Rb n f) (i:Nat) (hv:0≤v∧v<256):Rb n (upd f i v):=fun j hj=>by
 unfold upd
 split
 ·exact hv
 ·exact h j hj
theorem Rb.mono {m n:Nat} {f:Nat→Int} (h:Rb n f) (hm:m≤n):Rb m f:=fun j hj=>h j (by omega)
theorem uH {b:Int} (h:0<b):(AY .u8 b 1).toNat<b.toNat:=by
 have :=AdV (a:=b) (by omega) (n:=1) (by omega)
 rw[show((1:Nat):Int)=1 from rfl]at this
 rw[this,Int.toNat_natCast,Nat.shiftRight_eq_div_pow]
 omega
theorem AdO {a b:Int} (ha:0≤a∧a<256) (hb:0≤b∧b<256):AK .u8 a b=((a.toNat^^^b.toNat:Nat):Int):=by
 have h:a.toNat^^^b.toNat<2^8:=Nat.xor_lt_two_pow (by omega) (by omega)
 unfold AK
 rw[EN]
 show(((BitVec.ofInt 8 a^^^BitVec.ofInt 8 b).toNat:Nat):Int)%256=_
 rw[BitVec.toNat_xor,mL ha,mL hb]
 omega
theorem hU (a b:Int):AK .u8 a b=AK .u8 a (b%256):=by
 unfold AK
 congr 4
 show BitVec.ofInt 8 b=BitVec.ofInt 8 (b%256)
 apply BitVec.eq_of_toNat_eq
 rw[BitVec.toNat_ofInt,BitVec.toNat_ofInt]
 omega
theorem tS {a:Int} (ha:0≤a∧a<256) (b:Int):AK .u8 (AK .u8 a b) b=a:=by
 have hb:0≤b%256∧b%256<256:=by omega
 rw[hU _ b,hU a b,AdO (Iy _ _) hb,AdO ha hb]
 rw[Int.toNat_natCast,Nat.xor_assoc,Nat.xor_self,Nat.xor_zero]
 omega
end Go.Sx
namespace Go.Sx.Tryz
open Go.Mi Go.RowKit Go.Sx Go.Proofs
noncomputable section
section
variable (x:Int)
def kP (k:Nat):Int:=(C7 .u8 (Bd .u8 x (A5 .u64 (k:Int) 7)) (AY .u8 x (Eu .u64 8 (A5 .u64 (k:Int) 7))))
def TF (k:Nat):Int:=AJ (kP x k)
theorem Abp (k:Nat):TF x k=kP x k:=Af _
def AcV (k:Nat) (z_:Int:=TF x k):Con:=⟨[.v (.int .u8 x),vi (k:Int)],[],.v (.int .u8 z_),[]⟩
theorem uT (k:Nat) (hk:k≤8):ConOk Tryz.prog 212 (AcV x k):=by
 exact cy 0 Tryz.func212 rfl Tryz.ntmps212 fun hg0 hS=>Ae [] 0 hS fun hS=>Ay [(1,Xx k)] [] 0 hS fun hS=>Ay [(2,OM ((0:Int)≤(A5 .u64 (k:Int) 7)) (Jo rfl)),(6,OM ((0:Int)≤(Eu .u64 8 (A5 .u64 (k:Int) 7))) (Jo rfl))] [] 0 hS fun hS=>AU (Bh (Abp ..) hS)
def Zv:Int:=(AK .u8 (Bd .u8 x 1) (BJ .u8 (AY .u8 x 7) 27))
def Fs:Int:=AJ (Zv x)
theorem tY:Fs x=Zv x:=Af _
def yC (z_:Int:=Fs x):Con:=⟨[.v (.int .u8 x)],[],.v (.int .u8 z_),[]⟩
theorem G6:ConOk Tryz.prog 204 (yC x):=by
 exact cy 0 Tryz.func204 rfl Tryz.ntmps204 fun hg0 hS=>Ae [] 0 hS fun hS=>Ay [(1,EL 1),(3,EL 7)] [] 0 hS fun hS=>AU (Bh (tY ..) hS)
end
def O_ (k1:Nat):(Int×Int×Int)→(Int×Int×Int):=fun(x0,x1,x4)=>((Fs x0),(AY .u8 x1 1),(AK .u8 x4 (BJ .u8 x0 (A5 .u8 x1 1))))
def IB (a b:Int):Nat→Int×Int×Int
 |0=>(a,b,0)
 |k1+1=>O_ k1 (IB a b k1)
def Pb:(Int×Int×Int)→Prop:=fun(x0,x1,x4)=>(0:Int)<x1
section
variable (a b:Int)
def Zw:Int:=((IB a b (CU fun j=>Pb (IB a b j))).2.2)
def FR:Int:=AJ (Zw a b)
theorem t4:FR a b=Zw a b:=Af _
def yD (z_:Int:=FR a b):Con:=⟨[.v (.int .u8 a),.v (.int .u8 b)],[],.v (.int .u8 z_),[]⟩
theorem Vp:ConOk Tryz.prog 211 (yD a b):=by
 refine cy 0 Tryz.func211 rfl Tryz.ntmps211 fun hg0 hS=>Ae [] 0 hS fun hS=>Au (Br (Ar (ι:=Nat×Int×Int×Int) hg0 hS (fun(k1,x0,x1,x4)=>(x1.toNat,[(0,.v (.int .u8 x0)),(1,.v (.int .u8 x1)),(4,.v (.int .u8 x4))],[],((x0,x1,x4)=IB a b k1)∧(∀j,j<k1→Pb (IB a b j))∧True)) [] [] 0 (0,a,b,0) [] ⟨rfl,(fun j h=>absurd h (Nat.not_lt_zero j)),trivial⟩ ?_))
 rintro⟨k1,x0,x1,x4⟩ ac gs ws ⟨hq1,hj1,_⟩ hS
 refine Au (Ae [] 0 hS fun hS=>AB ((0:Int)<x1) hS (fun h1=> ?_) (fun h1=> ?_))
 ·exact BG (Ae [4] 0 hS fun hS=>Av [(1,AR (G6 x0))] [0] 0 hS fun hS=>BV (Av [(1,EL 1)] [1] 0 hS fun hS=>Ab (Am hg0 hS (k1+1,(Fs x0),(AY .u8 x1 1),(AK .u8 x4 (BJ .u8 x0 (A5 .u8 x1 1)))) [] ⟨(A2 (st:=O_) hq1 rfl rfl),(A1 hj1 (by rw[←hq1];exact h1)),trivial⟩ (show(AY .u8 x1 1).toNat<x1.toNat from uH BC))))
 ·have hT:=hS
  obtain rfl:=BP (by rw[←hq1];first |exact h1|exact not_not_intro h1) hj1
  obtain⟨rfl,rfl,rfl⟩:=lX hq1
  have hS:=hT
  exact CX (Ae [4] 0 hS fun hS=>AU (Bh (t4 ..) hS))
end
def M7 (b:Int) (k1:Nat):(Int×Int)→(Int×Int):=fun(x3,x4)=>if(0:Int)<x4 then((FR (FR x3 x3) b),(x4-1))else((FR x3 x3),(x4-1))
def D1 (b:Int):Nat→Int×Int
 |0=>(1,7)
 |k1+1=>M7 b k1 (D1 b k1)
def F8:(Int×Int)→Prop:=fun(x3,x4)=>(0:Int)≤x4
def R0 (b:Int) (k2:Nat):(Int×Nat)→(Int×Nat):=fun(x5,x6)=>((AK .u8 x5 (TF ((D1 b (CU fun j=>F8 (D1 b j))).1) x6)),x6+1)
def Ly (b:Int):Nat→Int×Nat
 |0=>(((D1 b (CU fun j=>F8 (D1 b j))).1),1)
 |k2+1=>R0 b k2 (Ly b k2)
def R1:(Int×Nat)→Prop:=fun(x5,x6)=>(x6:Int)<5
def j9 (b:Int):Int:=(AK .u8 ((Ly b (CU fun j=>R1 (Ly b j))).1) 99)
def M6 (b:Int):Int:=AJ (j9 b)
theorem kA (b:Int):M6 b=j9 b:=Af _
theorem ZF (x:Int):0≤M6 x∧M6 x<256:=by rw[kA];exact Iy _ _
def AcS (b:Int) (z_:Int:=M6 b):Con:=⟨[.v (.int .u8 b)],[],.v (.int .u8 z_),[]⟩
theorem uL (b:Int):ConOk Tryz.prog 203 (AcS b):=by
 refine cy 0 Tryz.func203 rfl Tryz.ntmps203 fun hg0 hS=>Ae [] 0 hS fun hS=>Ae [] 0 hS fun hS=>Au (Ae [] 0 hS fun hS=>Br (Ar (ι:=Nat×Int×Int) hg0 hS (fun(k1,x3,x4)=>((x4+1).toNat,[(3,.v (.int .u8 x3)),(4,vi x4)],[],((x3,x4)=D1 b k1)∧(∀j,j<k1→F8 (D1 b j))∧(-1≤x4∧x4≤7)∧True)) [0,2] [] 0 (0,1,7) [] ⟨rfl,(fun j h=>absurd h (Nat.not_lt_zero j)),Ac,trivial⟩ ?_))
 rintro⟨k1,x3,x4⟩ ac gs ws ⟨hq1,hj1,p1,_⟩ hS
 refine Au (Ae [] 0 hS fun hS=>AB ((0:Int)≤x4) hS (fun h1=> ?_) (fun h1=> ?_))
 ·refine BG (Ay [(2,AR (Vp x3 x3))] [3] 0 hS fun hS=>Ae [] 0 hS fun hS=>AB ((0:Int)<x4) hS (fun h2=> ?_) (fun h2=> ?_))
  ·exact Av [(2,AR (Vp (FR x3 x3) b))] [3] 0 hS fun hS=>BV (Av [(1,gV x4 1)] [4] 0 hS fun hS=>Ab (Am hg0 hS (k1+1,(FR (FR x3 x3) b),(x4-1)) [] ⟨(A2 (st:=M7 _) hq1 rfl (Eq.symm (if_pos h2))),(A1 hj1 (by rw[←hq1];exact h1)),Ac,trivial⟩))
  ·exact Iu (Av [(1,gV x4 1)] [4] 0 hS fun hS=>Ab (Am hg0 hS (k1+1,(FR x3 x3),(x4-1)) [] ⟨(A2 (st:=M7 _) hq1 rfl (Eq.symm (if_neg h2))),(A1 hj1 (by rw[←hq1];exact h1)),Ac,trivial⟩))
 ·have hT:=hS
  obtain rfl:=BP (by rw[←hq1];first |exact h1|exact not_not_intro h1) hj1
  obtain⟨rfl,rfl⟩:=TZ hq1
  have hS:=hT
  refine CX (Ae [] 0 hS fun hS=>Au (Ae [] 0 hS fun hS=>Br (Ar (ι:=Nat×Int×Nat) hg0 hS (fun(k2,x5,x6)=>(5-x6,[(5,.v (.int .u8 x5)),(6,vi (x6:Int))],[],((x5,x6)=Ly b k2)∧(∀j,j<k2→R1 (Ly b j))∧(1≤x6)∧True)) [2,3] [] 0 (0,((D1 b (CU fun j=>F8 (D1 b j))).1),1) [] ⟨rfl,(fun j h=>absurd h (Nat.not_lt_zero j)),Ac,trivial⟩ ?_)))
  rintro⟨k2,x5,x6⟩ ac gs ws ⟨hq2,hj2,p2,_⟩ hS
  refine Au (Ae [] 0 hS fun hS=>AB ((x6:Int)<5) hS (fun h3=> ?_) (fun h3=> ?_))
  ·exact BG (Av [(3,AR (uT ((D1 b (CU fun j=>F8 (D1 b j))).1) x6 Ac))] [5] 0 hS fun hS=>BV (Av [(1,BQ x6)] [6] 0 hS fun hS=>Ab (Am hg0 hS (k2+1,(AK .u8 x5 (TF ((D1 b (CU fun j=>F8 (D1 b j))).1) x6)),x6+1) [] ⟨(A2 (st:=R0 _) hq2 rfl rfl),(A1 hj2 (by rw[←hq2];exact h3)),Ac,trivial⟩)))
  ·have hT:=hS
   obtain rfl:=BP (by rw[←hq2];first |exact h3|exact not_not_intro h3) hj2
   obtain⟨rfl,rfl⟩:=TZ hq2
   have hS:=hT
   exact CX (Ae [] 0 hS fun hS=>AU (Bh (kA ..) hS))
section
variable (a b:Int) (c d:Int)
def aD:(Nat→Int):=upd (upd (upd (upd (fun _=>0) 0 (AK .u8 (AK .u8 a (AK .u8 (AK .u8 (AK .u8 a b) c) d)) (Fs (AK .u8 a b)))) 1 (AK .u8 (AK .u8 b (AK .u8 (AK .u8 (AK .u8 a b) c) d)) (Fs (AK .u8 b c)))) 2 (AK .u8 (AK .u8 c (AK .u8 (AK .u8 (AK .u8 a b) c) d)) (Fs (AK .u8 c d)))) 3 (AK .u8 (AK .u8 d (AK .u8 (AK .u8 (AK .u8 a b) c) d)) (Fs (AK .u8 d a)))
def Er:(Nat→Int):=AJ (aD a b c d)
theorem v5:Er a b c d=aD a b c d:=Af _
def zK (z_:(Nat→Int):=Er a b c d):Con:=⟨[.v (.int .u8 a),.v (.int .u8 b),.v (.int .u8 c),.v (.int .u8 d)],[],.ar .u8 4 z_,[]⟩
theorem L9:ConOk Tryz.prog 205 (zK a b c d):=by
 exact cy 0 Tryz.func205 rfl Tryz.ntmps205 fun hg0 hS=>Ae [] 1 hS fun hS=>Ae [] 1 hS fun hS=>Ay [(6,AR (G6 (AK .u8 a b))),(14,AR (G6 (AK .u8 b c))),(22,AR (G6 (AK .u8 c d))),(30,AR (G6 (AK .u8 d a)))] [] 1 hS fun hS=>AU (Bh (v5 ..) hS)
end
end
end Go.Sx.Tryz
namespace Go.Sx.Tryz
open Go.Mi Go.RowKit Go.Sx Go.Proofs
noncomputable section
def XE (x0 x1:Nat→Int):O:= .ob 258 (chain [.ar .u8 256 x0,.ar .u8 240 x1])
def gX (x0:Nat→Int):O:= .ob 241 (chain [.ar .u8 16 x0])
theorem OG {xs:List Int} (h:By xs) (j:Nat):0≤xs.getD j 0∧xs.getD j 0<256:=by
 rw[List.getD_eq_getElem?_getD]
 cases hx:xs[j]? with
 |none=>exact⟨Int.le_refl _,by decide⟩
 |some x=>exact h x (List.mem_of_getElem? hx)
theorem AbC {key:List Int} (h:By key):Rb 240 (Dg (fun _=>0) 0 (min key.length 240) (fun j=>key.getD j 0)):=fun j hj=>by
 unfold Dg
 cases Nat.ble 0 j&&Nat.blt j (0+min key.length 240)with
 |true=>exact OG h _
 |false=>exact⟨Int.le_refl _,(by decide:(0:Int)<256)⟩
def PN (x11:Nat):(Nat→Int)→(Nat→Int):=fun o3_0=>upd o3_0 x11 (M6 (IntKind.wrap .u8 (x11:Int)))
def Bm:Nat→(Nat→Int)
 |0=>fun _=>0
 |x11+1=>PN x11 (Bm x11)
def PL (x5:Int) (x6:Nat) (o3_1:Nat→Int) (x111:Nat):(Nat→Int)→(Nat→Int):=fun o3_1_3=>upd o3_1_3 (x6+x111) (AK .u8 (o3_1_3 ((x6+x111)-32)) ((upd (upd (upd (upd (fun _=>0) 0 (AK .u8 ((Bm 256) (Int.toNat ((fun j=>o3_1 ((x6-4)+j)) 1))) x5)) 1 ((Bm 256) (Int.toNat ((fun j=>o3_1 ((x6-4)+j)) 2)))) 2 ((Bm 256) (Int.toNat ((fun j=>o3_1 ((x6-4)+j)) 3)))) 3 ((Bm 256) (Int.toNat ((fun j=>o3_1 ((x6-4)+j)) 0)))) x111))
def LF (x5:Int) (x6:Nat) (o3_1:Nat→Int):Nat→(Nat→Int)
 |0=>o3_1
 |x111+1=>PL x5 x6 o3_1 x111 (LF x5 x6 o3_1 x111)
section
variable (x6:Nat) (o3_1:Nat→Int)
def PK (x111:Nat):(Nat→Int)→(Nat→Int):=fun o3_1_4=>upd o3_1_4 (x6+x111) (AK .u8 (o3_1_4 ((x6+x111)-32)) ((upd (upd (upd (upd (fun _=>0) 0 ((Bm 256) (Int.toNat ((fun j=>o3_1 ((x6-4)+j)) 0)))) 1 ((Bm 256) (Int.toNat ((fun j=>o3_1 ((x6-4)+j)) 1)))) 2 ((Bm 256) (Int.toNat ((fun j=>o3_1 ((x6-4)+j)) 2)))) 3 ((Bm 256) (Int.toNat ((fun j=>o3_1 ((x6-4)+j)) 3)))) x111))
def LE (x6:Nat) (o3_1:Nat→Int):Nat→(Nat→Int)
 |0=>o3_1
 |x111+1=>PK x6 o3_1 x111 (LE x6 o3_1 x111)
def PI (x111:Nat):(Nat→Int)→(Nat→Int):=fun o3_1_5=>upd o3_1_5 (x6+x111) (AK .u8 (o3_1_5 ((x6+x111)-32)) ((fun j=>o3_1 ((x6-4)+j)) x111))
end
def LD (x6:Nat) (o3_1:Nat→Int):Nat→(Nat→Int)
 |0=>o3_1
 |x111+1=>PI x6 o3_1 x111 (LD x6 o3_1 x111)
def HP (k2:Nat):(Int×Nat×(Nat→Int))→(Int×Nat×(Nat→Int)):=fun(x5,x6,o3_1)=>if(((x6/4)%8:Nat):Int)=0 then((Fs x5),x6+4,LF x5 x6 o3_1 4)else(if(((x6/4)%8:Nat):Int)=4 then(x5,x6+4,LE x6 o3_1 4)else(x5,x6+4,LD x6 o3_1 4))
def IP (key:List Int):Nat→Int×Nat×(Nat→Int)
 |0=>(1,32,Dg (fun _=>0) 0 (min key.length 240) (fun j=>key.getD j 0))
 |k2+1=>HP k2 (IP key k2)
def PM:(Int×Nat×(Nat→Int))→Prop:=fun(x5,x6,o3_1)=>(x6:Int)<240
section
variable (key:List Int)
def ZQ:(Nat→Int)×(Nat→Int):=(Bm 256,(IP key (CU fun j=>PM (IP key j))).2.2)
def D3:(Nat→Int)×(Nat→Int):=AJ (ZQ key)
theorem ZR:D3 key=ZQ key:=Af _
theorem lC:Rb 256 (D3 key).1:=by
 have key1:∀n,Rb n (Bm n):=by
  intro n
  induction n with
  |zero=>exact Rb.zero _
  |succ n ih=>exact Rb.next ih (ZF _)
 rw[ZR]
 exact key1 256
def y8 (z_:(Nat→Int)×(Nat→Int):=D3 key):Con:=⟨[lb key],[],.cp 0 0,[(0,XE (z_.1) (z_.2))]⟩
theorem lD (hk:key.length=32) (hb:By key):ConOk Tryz.prog 182 (y8 key):=by
 refine cy 0 Tryz.func182 rfl Tryz.ntmps182 fun hg0 hS=> ?_
 have A6:key.length≤9223372036854775807:=hS.len 0 rfl
 refine Ae [] 0 hS fun hS=>Ae [] 1 hS fun hS=>Au (Ae [] 1 hS fun hS=>Br (Ar (ι:=Nat×(Nat→Int)) hg0 hS (fun(x11,o3_0)=>(256-x11,[(11,vi ((x11:Nat):Int))],[(0,XE o3_0 (fun _=>0))],(x11≤256)∧(o3_0=Bm x11)∧(Rb x11 o3_0)∧True)) [0,2,3] [] 1 (0,fun _=>0) [(0,0)] ⟨Ac,rfl,(Rb.zero _),trivial⟩ ?_))
 rintro⟨x11,o3_0⟩ ac gs ws ⟨hx11,hq1,p1,_⟩ hS
 refine Ae [] 1 hS fun hS=>Au (AB ((x11:Int)<256) hS (fun h1=> ?_) (fun h1=> ?_))
 ·exact BG (Ae [] 1 hS fun hS=>Av [(4,AR (uL (IntKind.wrap .u8 (x11:Int)))),(7,AG x11 256)] [] 1 hS fun hS=>BV (Av [(0,BQ x11)] [11] 1 hS fun hS=>Ab (Am hg0 hS (x11+1,upd o3_0 x11 (M6 (IntKind.wrap .u8 (x11:Int)))) [(0,0)] ⟨Ac,(A2 (st:=PN) hq1 rfl rfl),(Rb.next p1 (ZF _)),trivial⟩)))
 ·have hT:=hS
  obtain rfl:256=x11:=by omega
  obtain rfl:=hq1.symm
  have hS:=hT
  refine CX (Ay [(3,tA [E3 none none none 240 240,240≤9223372036854775807,bl none 0<bl none 240] ⟨⟨by simp only[FX]<;>omega,by simp only[FX]<;>omega,by simp only[FX]<;>omega,by simp,by simp only[bl]<;>omega,by simp only[bl]<;>omega,by simp only[bl]<;>omega⟩,by omega,by decide,trivial⟩)] [] 1 hS fun hS=>Ae [] 1 hS fun hS=>Au (Ae [] 1 hS fun hS=>Br (Ar (ι:=Nat×Int×Nat×(Nat→Int)) hg0 hS (fun(k2,x5,x6,o3_1)=>(240-x6,[(5,.v (.int .u8 x5)),(6,vi (x6:Int))],[(0,XE (Bm 256) o3_1)],((x5,x6,o3_1)=IP key k2)∧(∀j,j<k2→PM (IP key j))∧(x6%4=0∧32≤x6∧x6≤240)∧(Rb 240 o3_1)∧True)) [2,3] [] 1 (0,1,32,Dg (fun _=>0) 0 (min key.length 240) (fun j=>key.getD j 0)) [(0,0)] ⟨rfl,(fun j h=>absurd h (Nat.not_lt_zero j)),Ac,(AbC hb),trivial⟩ ?_)))
  rintro⟨k2,x5,x6,o3_1⟩ ac gs ws ⟨hq2,hj2,p2,p4,_⟩ hS
  refine Au (Ae [] 1 hS fun hS=>AB ((x6:Int)<240) hS (fun h2=> ?_) (fun h2=> ?_))
  ·refine BG (Ay [(4,GD x6 4 (x6-4)),(6,tA [E3 (some ((x6-4:Nat):Int)) (some (x6:Int)) none 240 240,240≤9223372036854775807,bl (some ((x6-4:Nat):Int)) 0<bl none 240] ⟨⟨by simp only[FX]<;>omega,by simp only[FX]<;>omega,by simp only[FX]<;>omega,by simp,by simp only[bl]<;>omega,by simp only[bl]<;>omega,by simp only[bl]<;>omega⟩,by omega,by simp only[bl]<;>omega,trivial⟩),(7,U6 .frz [4≤x6-(x6-4)] ⟨by omega,trivial⟩),(8,U6 (.at 1 (x6-4)) [256+(x6-4)=Vb (([.ar .u8 256 (Bm 256),.ar .u8 240 o3_1]:List D).take 1)+(x6-4),(x6-4)+4≤240] ⟨rfl,by omega,trivial⟩)] [7] 2 hS fun hS=>Au (Ay [(1,Td x6 4),(2,Lb (x6/4) 8)] [] 2 hS fun hS=>Br (Ae [] 2 hS fun hS=>AB ((((x6/4)%8:Nat):Int)=0) hS (fun h3=> ?_) (fun h3=> ?_))))
   ·refine Au ?_
    have hr0:0≤(fun j=>o3_1 (x6-4+j)) 0∧(fun j=>o3_1 (x6-4+j)) 0<256:=p4 (x6-4+0) Ac
    have hr1:0≤(fun j=>o3_1 (x6-4+j)) 1∧(fun j=>o3_1 (x6-4+j)) 1<256:=p4 (x6-4+1) Ac
    have hr2:0≤(fun j=>o3_1 (x6-4+j)) 2∧(fun j=>o3_1 (x6-4+j)) 2<256:=p4 (x6-4+2) Ac
    have hr3:0≤(fun j=>o3_1 (x6-4+j)) 3∧(fun j=>o3_1 (x6-4+j)) 3<256:=p4 (x6-4+3) Ac
    refine Av [(1,AG 1 4),(5,XF ((fun j=>o3_1 ((x6-4)+j)) 1) 256),(10,AG 2 4),(14,XF ((fun j=>o3_1 ((x6-4)+j)) 2) 256),(17,AG 3 4),(21,XF ((fun j=>o3_1 ((x6-4)+j)) 3) 256),(24,AG 0 4),(28,XF ((fun j=>o3_1 ((x6-4)+j)) 0) 256)] [] 2 hS fun hS=>Ab (Av [(1,AR (G6 x5))] [5] 2 hS fun hS=>BV (Ae [] 2 hS fun hS=>Br (Ar (ι:=Nat×(Nat→Int)) hg0 hS (fun(x111,o3_1_3)=>(4-x111,[(111,vi ((x111:Nat):Int))],[(0,XE (Bm 256) o3_1_3)],(x111≤4)∧(o3_1_3=LF x5 x6 o3_1 x111)∧(Rb 240 o3_1_3)∧True)) [2,3,5,6,7] [1] 2 (0,o3_1) [(0,0),(1,1)] ⟨Ac,rfl,p4,trivial⟩ ?_)))
    rintro⟨x111,o3_1_3⟩ ac gs ws ⟨hx111,hq3,p5,_⟩ hS
    refine Ae [] 2 hS fun hS=>Au (AB ((x111:Int)<4) hS (fun h4=> ?_) (fun h4=> ?_))
    ·exact BG (Ae [] 2 hS fun hS=>Av [(3,DI x6 x111 (x6+x111)),(7,DI x6 x111 (x6+x111)),(8,GD (x6+x111) 32 ((x6+x111)-32)),(11,AG ((x6+x111)-32) 240),(14,AG x111 4),(19,AG (x6+x111) 240)] [] 2 hS fun hS=>BV (Av [(0,BQ x111)] [111] 2 hS fun hS=>Ab (Am hg0 hS (x111+1,upd o3_1_3 (x6+x111) (AK .u8 (o3_1_3 ((x6+x111)-32)) ((upd (upd (upd (upd (fun _=>0) 0 (AK .u8 ((Bm 256) (Int.toNat ((fun j=>o3_1 ((x6-4)+j)) 1))) x5)) 1 ((Bm 256) (Int.toNat ((fun j=>o3_1 ((x6-4)+j)) 2)))) 2 ((Bm 256) (Int.toNat ((fun j=>o3_1 ((x6-4)+j)) 3)))) 3 ((Bm 256) (Int.toNat ((fun j=>o3_1 ((x6-4)+j)) 0)))) x111))) [(0,0),(1,1)] ⟨Ac,(A2 (st:=PL _ _ _) hq3 rfl rfl),(Rb.set p5 _ (Iy _ _)),trivial⟩)))
    ·have hT:=hS
     obtain rfl:4=x111:=by omega
     obtain rfl:=hq3.symm
     have hS:=hT
     exact Vh (Av [(1,DI x6 4 (x6+4))] [6] 2 hS fun hS=>Ab (Am hg0 hS (k2+1,(Fs x5),x6+4,LF x5 x6 o3_1 4) [(0,0)] ⟨(A2 (st:=HP) hq2 rfl (Eq.symm (if_pos h3))),(A1 hj2 (by rw[←hq2];exact h2)),Ac,p5,trivial⟩))
   ·refine Ae [] 2 hS fun hS=>AB ((((x6/4)%8:Nat):Int)=4) hS (fun h5=> ?_) (fun h5=> ?_)
    ·have hr0:0≤(fun j=>o3_1 (x6-4+j)) 0∧(fun j=>o3_1 (x6-4+j)) 0<256:=p4 (x6-4+0) Ac
     have hr1:0≤(fun j=>o3_1 (x6-4+j)) 1∧(fun j=>o3_1 (x6-4+j)) 1<256:=p4 (x6-4+1) Ac
     have hr2:0≤(fun j=>o3_1 (x6-4+j)) 2∧(fun j=>o3_1 (x6-4+j)) 2<256:=p4 (x6-4+2) Ac
     have hr3:0≤(fun j=>o3_1 (x6-4+j)) 3∧(fun j=>o3_1 (x6-4+j)) 3<256:=p4 (x6-4+3) Ac
     refine Av [(1,AG 0 4),(5,XF ((fun j=>o3_1 ((x6-4)+j)) 0) 256),(8,AG 1 4),(12,XF ((fun j=>o3_1 ((x6-4)+j)) 1) 256),(15,AG 2 4),(19,XF ((fun j=>o3_1 ((x6-4)+j)) 2) 256),(22,AG 3 4),(26,XF ((fun j=>o3_1 ((x6-4)+j)) 3) 256)] [] 2 hS fun hS=>BV (Ae [] 2 hS fun hS=>Br (Ar (ι:=Nat×(Nat→Int)) hg0 hS (fun(x111,o3_1_4)=>(4-x111,[(111,vi ((x111:Nat):Int))],[(0,XE (Bm 256) o3_1_4)],(x111≤4)∧(o3_1_4=LE x6 o3_1 x111)∧(Rb 240 o3_1_4)∧True)) [2,3,5,6,7] [1] 2 (0,o3_1) [(0,0),(1,1)] ⟨Ac,rfl,p4,trivial⟩ ?_))
     rintro⟨x111,o3_1_4⟩ ac gs ws ⟨hx111,hq4,p5,_⟩ hS
     refine Ae [] 2 hS fun hS=>Au (AB ((x111:Int)<4) hS (fun h6=> ?_) (fun h6=> ?_))
     ·exact BG (Ae [] 2 hS fun hS=>Av [(3,DI x6 x111 (x6+x111)),(7,DI x6 x111 (x6+x111)),(8,GD (x6+x111) 32 ((x6+x111)-32)),(11,AG ((x6+x111)-32) 240),(14,AG x111 4),(19,AG (x6+x111) 240)] [] 2 hS fun hS=>BV (Av [(0,BQ x111)] [111] 2 hS fun hS=>Ab (Am hg0 hS (x111+1,upd o3_1_4 (x6+x111) (AK .u8 (o3_1_4 ((x6+x111)-32)) ((upd (upd (upd (upd (fun _=>0) 0 ((Bm 256) (Int.toNat ((fun j=>o3_1 ((x6-4)+j)) 0)))) 1 ((Bm 256) (Int.toNat ((fun j=>o3_1 ((x6-4)+j)) 1)))) 2 ((Bm 256) (Int.toNat ((fun j=>o3_1 ((x6-4)+j)) 2)))) 3 ((Bm 256) (Int.toNat ((fun j=>o3_1 ((x6-4)+j)) 3)))) x111))) [(0,0),(1,1)] ⟨Ac,(A2 (st:=PK _ _) hq4 rfl rfl),(Rb.set p5 _ (Iy _ _)),trivial⟩)))
     ·have hT:=hS
      obtain rfl:4=x111:=by omega
      obtain rfl:=hq4.symm
      have hS:=hT
      exact Vh (Av [(1,DI x6 4 (x6+4))] [6] 2 hS fun hS=>Ab (Am hg0 hS (k2+1,x5,x6+4,LE x6 o3_1 4) [(0,0)] ⟨(A2 (st:=HP) hq2 rfl (Eq.symm ((if_neg h3).trans (if_pos h5)))),(A1 hj2 (by rw[←hq2];exact h2)),Ac,p5,trivial⟩))
    ·refine Iu (Ae [] 2 hS fun hS=>Br (Ar (ι:=Nat×(Nat→Int)) hg0 hS (fun(x111,o3_1_5)=>(4-x111,[(111,vi ((x111:Nat):Int))],[(0,XE (Bm 256) o3_1_5)],(x111≤4)∧(o3_1_5=LD x6 o3_1 x111)∧(Rb 240 o3_1_5)∧True)) [2,3,5,6,7] [1] 2 (0,o3_1) [(0,0),(1,1)] ⟨Ac,rfl,p4,trivial⟩ ?_))
     rintro⟨x111,o3_1_5⟩ ac gs ws ⟨hx111,hq5,p5,_⟩ hS
     refine Ae [] 2 hS fun hS=>Au (AB ((x111:Int)<4) hS (fun h7=> ?_) (fun h7=> ?_))
     ·exact BG (Ae [] 2 hS fun hS=>Av [(3,DI x6 x111 (x6+x111)),(7,DI x6 x111 (x6+x111)),(8,GD (x6+x111) 32 ((x6+x111)-32)),(11,AG ((x6+x111)-32) 240),(14,AG x111 4),(19,AG (x6+x111) 240)] [] 2 hS fun hS=>BV (Av [(0,BQ x111)] [111] 2 hS fun hS=>Ab (Am hg0 hS (x111+1,upd o3_1_5 (x6+x111) (AK .u8 (o3_1_5 ((x6+x111)-32)) ((fun j=>o3_1 ((x6-4)+j)) x111))) [(0,0),(1,1)] ⟨Ac,(A2 (st:=PI _ _) hq5 rfl rfl),(Rb.set p5 _ (Iy _ _)),trivial⟩)))
     ·have hT:=hS
      obtain rfl:4=x111:=by omega
      obtain rfl:=hq5.symm
      have hS:=hT
      exact Vh (Av [(1,DI x6 4 (x6+4))] [6] 2 hS fun hS=>Ab (Am hg0 hS (k2+1,x5,x6+4,LD x6 o3_1 4) [(0,0)] ⟨(A2 (st:=HP) hq2 rfl (Eq.symm ((if_neg h3).trans (if_neg h5)))),(A1 hj2 (by rw[←hq2];exact h2)),Ac,p5,trivial⟩))
  ·have hT:=hS
   obtain rfl:=BP (by rw[←hq2];first |exact h2|exact not_not_intro h2) hj2
   obtain⟨rfl,rfl,rfl⟩:=lX hq2
   have hS:=hT
   exact CX (Ae [] 1 hS fun hS=>AU (Bh (ZR ..) hS))
end
def L_ (t:Nat→Int):Nat→Nat→Int
 |0=>t
 |i+1=>if i%4=3 then Dg (L_ t i) (i-3) (min ((List.range 4).map (Er (L_ t i (i-3)) (L_ t i (i-2)) (L_ t i (i-1)) (L_ t i i))).length (16-(i-3))) (fun j=>((List.range 4).map (Er (L_ t i (i-3)) (L_ t i (i-2)) (L_ t i (i-1)) (L_ t i i))).getD j 0)else L_ t i
def Q_ (g:Nat→Int) (x12:Nat):(Nat→Int)→(Nat→Int):=fun o3_0=>upd o3_0 x12 (AK .u8 (o3_0 x12) (g x12))
def ML (g s:Nat→Int):Nat→(Nat→Int)
 |0=>s
 |x12+1=>Q_ g x12 (ML g s x12)
section
variable (f:Nat→Int)
def Q8 (o3_0:Nat→Int) (x31:Nat):(Nat→Int)→(Nat→Int):=fun o7_0=>upd o7_0 x31 (f (Int.toNat (o3_0 ((x31+((x31%4)*4))%16))))
def En (f o3_0:Nat→Int):Nat→(Nat→Int)
 |0=>fun _=>0
 |x31+1=>Q8 f o3_0 x31 (En f o3_0 x31)
def Q7 (g:Nat→Int) (x6:Nat) (o3_0:Nat→Int) (x78:Nat):(Nat→Int)→(Nat→Int):=fun o3_0_5=>upd o3_0_5 x78 (AK .u8 ((En f o3_0 16) x78) (g ((x6*16)+x78)))
def MK (f g:Nat→Int) (x6:Nat) (o3_0:Nat→Int):Nat→(Nat→Int)
 |0=>o3_0
 |x78+1=>Q7 f g x6 o3_0 x78 (MK f g x6 o3_0 x78)
def Q6 (g:Nat→Int) (x6:Nat) (o3_0:Nat→Int) (x78:Nat):(Nat→Int)→(Nat→Int):=fun o3_0_6=>upd o3_0_6 x78 (AK .u8 ((L_ (En f o3_0 16) 16) x78) (g ((x6*16)+x78)))
def MJ (f g:Nat→Int) (x6:Nat) (o3_0:Nat→Int):Nat→(Nat→Int)
 |0=>o3_0
 |x78+1=>Q6 f g x6 o3_0 x78 (MJ f g x6 o3_0 x78)
def K_ (g:Nat→Int) (k2:Nat):(Nat×(Nat→Int))→(Nat×(Nat→Int)):=fun(x6,o3_0)=>if((x6:Nat):Int)<14 then(x6+1,MJ f g x6 o3_0 16)else(x6+1,MK f g x6 o3_0 16)
end
def Jk (f g s:Nat→Int):Nat→Nat×(Nat→Int)
 |0=>(1,ML g s 16)
 |k2+1=>K_ f g k2 (Jk f g s k2)
def Q9:(Nat×(Nat→Int))→Prop:=fun(x6,o3_0)=>((x6:Nat):Int)≤14
section
variable (f g s:Nat→Int)
def bZ:(Nat→Int):=(Jk f g s (CU fun j=>Q9 (Jk f g s j))).2
def MH:(Nat→Int):=AJ (bZ f g s)
theorem Aag:MH f g s=bZ f g s:=Af _
def z9 (z_:(Nat→Int):=MH f g s):Con:=Cq [.cp 0 0,.ar .u8 16 s] [(0,XE f g)] (.ar .u8 16 z_)
theorem sR (hf:Rb 256 f):ConOk Tryz.prog 183 (z9 f g s):=by
 refine cy 1 Tryz.func183 rfl Tryz.ntmps183 fun hg0 hS=>Ae [] 3 hS fun hS=>Au (Ae [] 3 hS fun hS=>Br (Ar (ι:=Nat×(Nat→Int)) hg0 hS (fun(x12,o3_0)=>(16-x12,[(12,vi ((x12:Nat):Int))],[(1,gX o3_0)],(x12≤16)∧(o3_0=ML g s x12)∧(Rb x12 o3_0)∧True)) [0,3,4] [0,2] 3 (0,s) [(0,0),(1,1),(2,2)] ⟨Ac,rfl,(Rb.zero _),trivial⟩ ?_))
 rintro⟨x12,o3_0⟩ ac gs ws ⟨hx12,hq1,p1,_⟩ hS
 refine Ae [] 3 hS fun hS=>Au (AB ((x12:Int)<16) hS (fun h1=> ?_) (fun h1=> ?_))
 ·exact BG (Ae [] 3 hS fun hS=>Av [(1,AG x12 16),(7,AG x12 240),(10,AG x12 16)] [] 3 hS fun hS=>BV (Av [(0,BQ x12)] [12] 3 hS fun hS=>Ab (Am hg0 hS (x12+1,upd o3_0 x12 (AK .u8 (o3_0 x12) (g x12))) [(0,0),(1,1),(2,2)] ⟨Ac,(A2 (st:=Q_ _) hq1 rfl rfl),(Rb.next p1 (Iy _ _)),trivial⟩)))
 ·have hT:=hS
  obtain rfl:16=x12:=by omega
  obtain rfl:=hq1.symm
  have hS:=hT
  refine MY (Ae [] 3 hS fun hS=>Br (Ar (ι:=Nat×Nat×(Nat→Int)) hg0 hS (fun(k2,x6,o3_0)=>(15-x6,[(6,vi (x6:Int))],[(1,gX o3_0)],((x6,o3_0)=Jk f g s k2)∧(∀j,j<k2→Q9 (Jk f g s j))∧(1≤x6∧x6≤15)∧(Rb 16 o3_0)∧True)) [0,3,4] [0,2] 3 (0,1,ML g s 16) [(0,0),(1,1),(2,2)] ⟨rfl,(fun j h=>absurd h (Nat.not_lt_zero j)),Ac,p1,trivial⟩ ?_))
  rintro⟨k2,x6,o3_0⟩ ac gs ws ⟨hq2,hj2,p2,p3,_⟩ hS
  refine Au (Ae [] 3 hS fun hS=>AB ((x6:Int)≤14) hS (fun h2=> ?_) (fun h2=> ?_))
  ·refine BG (Ae [] 4 hS fun hS=>Au (Ae [] 4 hS fun hS=>Br (Ar (ι:=Nat×(Nat→Int)) hg0 hS (fun(x31,o7_0)=>(16-x31,[(31,vi ((x31:Nat):Int))],[(3,gX o7_0)],(x31≤16)∧(o7_0=En f o3_0 x31)∧True)) [0,3,4,6,7] [0,1,2] 4 (0,fun _=>0) [(0,0),(1,1),(2,2),(3,3)] ⟨Ac,rfl,trivial⟩ ?_)))
   rintro⟨x31,o7_0⟩ ac gs ws ⟨hx31,hq3,_⟩ hS
   refine Ae [] 4 hS fun hS=>Au (AB ((x31:Int)<16) hS (fun h3=> ?_) (fun h3=> ?_))
   ·refine BG (Ae [] 4 hS fun hS=> ?_)
    have hq13:=p3 ((x31+x31%4*4)%16) Ac
    exact Av [(4,Lb x31 4),(5,GE (x31%4) 4 ((x31%4)*4)),(6,DI x31 ((x31%4)*4) (x31+((x31%4)*4))),(7,Lb (x31+((x31%4)*4)) 16),(8,AG ((x31+((x31%4)*4))%16) 16),(12,XF (o3_0 ((x31+((x31%4)*4))%16)) 256),(14,AG x31 16)] [] 4 hS fun hS=>BV (Av [(0,BQ x31)] [31] 4 hS fun hS=>Ab (Am hg0 hS (x31+1,upd o7_0 x31 (f (Int.toNat (o3_0 ((x31+((x31%4)*4))%16))))) [(0,0),(1,1),(2,2),(3,3)] ⟨Ac,(A2 (st:=Q8 _ _) hq3 rfl rfl),trivial⟩))
   ·have hT:=hS
    obtain rfl:16=x31:=by omega
    obtain rfl:=hq3.symm
    have hS:=hT
    refine MY (Ae [] 4 hS fun hS=>Br (Ar (ι:=Nat×(Nat→Int)) hg0 hS (fun(x9,tt)=>(16-x9,[(9,vi ((x9:Nat):Int))],[(3,gX tt)],(x9%4=0∧x9≤16)∧(x9=0∨x6<14)∧(tt=L_ (En f o3_0 16) x9)∧True)) [0,3,4,6,7] [0,1,2] 4 (0,En f o3_0 16) [(0,0),(1,1),(2,2),(3,3)] ⟨Ac,Ac,rfl,trivial⟩ ?_))
    rintro⟨x9,tt⟩ ac gs ws ⟨px,pt,ht,_⟩ hS
    refine JN ?_
    have hT:=hS
    rcases(by omega:x9=0∨x9=4∨x9=8∨x9=12∨x9=16)with rfl|rfl|rfl|rfl|rfl
    ·have hS:=hT
     refine Dn [] 4 hS fun hS=>Ab (AB ((x6:Int)<14) hS (fun h4=> ?_) (fun h4=> ?_))
     ·exact BG (Ay [(1,AG 0 16),(5,AG 1 16),(9,AG 2 16),(13,AG 3 16),(15,AR (L9 (tt 0) (tt 1) (tt 2) (tt 3)))] [10] 5 hS fun hS=>Av [(1,tA [E3 (some 0) none none 16 16,16≤9223372036854775807,bl (some 0) 0<bl none 16] ⟨⟨by simp only[FX]<;>omega,by simp only[FX]<;>omega,by simp only[FX]<;>omega,by simp,by simp only[bl]<;>omega,by simp only[bl]<;>omega,by simp only[bl]<;>omega⟩,by omega,by decide,trivial⟩),(2,U6 .frz [] trivial)] [] 5 hS fun hS=>BV (Dn [9] 5 hS fun hS=>Ab (Am hg0 hS (4,Dg tt 0 (min ((List.range 4).map (Er (tt 0) (tt 1) (tt 2) (tt 3))).length 16) (fun j=>((List.range 4).map (Er (tt 0) (tt 1) (tt 2) (tt 3))).getD j 0)) [(0,0),(1,1),(2,2),(3,3)] ⟨Ac,Ac,(by rw[ht];rfl),trivial⟩)))
     ·obtain rfl:En f o3_0 16=tt:=ht.symm
      refine CX (Ae [] 4 hS fun hS=>Br (Ar (ι:=Nat×(Nat→Int)) hg0 hS (fun(x78,o3_0_5)=>(16-x78,[(78,vi ((x78:Nat):Int))],[(1,gX o3_0_5)],(x78≤16)∧(o3_0_5=MK f g x6 o3_0 x78)∧(Rb x78 o3_0_5)∧True)) [0,3,4,6,7] [0,2,3] 4 (0,o3_0) [(0,0),(1,1),(2,2),(3,3)] ⟨Ac,rfl,(Rb.zero _),trivial⟩ ?_))
      rintro⟨x78,o3_0_5⟩ ac gs ws ⟨hx78,hq5,p6,_⟩ hS
      refine Ae [] 4 hS fun hS=>Au (AB ((x78:Int)<16) hS (fun h5=> ?_) (fun h5=> ?_))
      ·exact BG (Ae [] 4 hS fun hS=>Av [(2,AG x78 16),(6,GE x6 16 (x6*16)),(8,DI (x6*16) x78 ((x6*16)+x78)),(11,AG ((x6*16)+x78) 240),(14,AG x78 16)] [] 4 hS fun hS=>BV (Av [(0,BQ x78)] [78] 4 hS fun hS=>Ab (Am hg0 hS (x78+1,upd o3_0_5 x78 (AK .u8 ((En f o3_0 16) x78) (g ((x6*16)+x78)))) [(0,0),(1,1),(2,2),(3,3)] ⟨Ac,(A2 (st:=Q7 _ _ _ _) hq5 rfl rfl),(Rb.next p6 (Iy _ _)),trivial⟩)))
      ·have hT:=hS
       obtain rfl:16=x78:=by omega
       obtain rfl:=hq5.symm
       have hS:=hT
       exact Vh (Av [(1,BQ x6)] [6] 4 hS fun hS=>Ab (Am hg0 hS (k2+1,x6+1,MK f g x6 o3_0 16) [(0,0),(1,1),(2,2)] ⟨(A2 (st:=K_ _ _) hq2 rfl (Eq.symm (if_neg h4))),(A1 hj2 (by rw[←hq2];exact h2)),Ac,p6,trivial⟩))
    ·have hS:=hT
     have hturn:(x6:Int)<14:=by omega
     exact Av [(4,Iw hturn)] [] 4 hS fun hS=>Ab (AQ hS (BG (Ay [(1,AG 4 16),(5,AG 5 16),(9,AG 6 16),(13,AG 7 16),(15,AR (L9 (tt 4) (tt 5) (tt 6) (tt 7)))] [10] 5 hS fun hS=>Av [(1,tA [E3 (some 4) none none 16 16,16≤9223372036854775807,bl (some 4) 0<bl none 16] ⟨⟨by simp only[FX]<;>omega,by simp only[FX]<;>omega,by simp only[FX]<;>omega,by simp,by simp only[bl]<;>omega,by simp only[bl]<;>omega,by simp only[bl]<;>omega⟩,by omega,by decide,trivial⟩),(2,U6 .frz [] trivial)] [] 5 hS fun hS=>BV (Dn [9] 5 hS fun hS=>Ab (Am hg0 hS (8,Dg tt 4 (min ((List.range 4).map (Er (tt 4) (tt 5) (tt 6) (tt 7))).length 12) (fun j=>((List.range 4).map (Er (tt 4) (tt 5) (tt 6) (tt 7))).getD j 0)) [(0,0),(1,1),(2,2),(3,3)] ⟨Ac,Ac,(by rw[ht];rfl),trivial⟩)))))
    ·have hS:=hT
     have hturn:(x6:Int)<14:=by omega
     exact Av [(4,Iw hturn)] [] 4 hS fun hS=>Ab (AQ hS (BG (Ay [(1,AG 8 16),(5,AG 9 16),(9,AG 10 16),(13,AG 11 16),(15,AR (L9 (tt 8) (tt 9) (tt 10) (tt 11)))] [10] 5 hS fun hS=>Av [(1,tA [E3 (some 8) none none 16 16,16≤9223372036854775807,bl (some 8) 0<bl none 16] ⟨⟨by simp only[FX]<;>omega,by simp only[FX]<;>omega,by simp only[FX]<;>omega,by simp,by simp only[bl]<;>omega,by simp only[bl]<;>omega,by simp only[bl]<;>omega⟩,by omega,by decide,trivial⟩),(2,U6 .frz [] trivial)] [] 5 hS fun hS=>BV (Dn [9] 5 hS fun hS=>Ab (Am hg0 hS (12,Dg tt 8 (min ((List.range 4).map (Er (tt 8) (tt 9) (tt 10) (tt 11))).length 8) (fun j=>((List.range 4).map (Er (tt 8) (tt 9) (tt 10) (tt 11))).getD j 0)) [(0,0),(1,1),(2,2),(3,3)] ⟨Ac,Ac,(by rw[ht];rfl),trivial⟩)))))
    ·have hS:=hT
     have hturn:(x6:Int)<14:=by omega
     exact Av [(4,Iw hturn)] [] 4 hS fun hS=>Ab (AQ hS (BG (Ay [(1,AG 12 16),(5,AG 13 16),(9,AG 14 16),(13,AG 15 16),(15,AR (L9 (tt 12) (tt 13) (tt 14) (tt 15)))] [10] 5 hS fun hS=>Av [(1,tA [E3 (some 12) none none 16 16,16≤9223372036854775807,bl (some 12) 0<bl none 16] ⟨⟨by simp only[FX]<;>omega,by simp only[FX]<;>omega,by simp only[FX]<;>omega,by simp,by simp only[bl]<;>omega,by simp only[bl]<;>omega,by simp only[bl]<;>omega⟩,by omega,by decide,trivial⟩),(2,U6 .frz [] trivial)] [] 5 hS fun hS=>BV (Dn [9] 5 hS fun hS=>Ab (Am hg0 hS (16,Dg tt 12 (min ((List.range 4).map (Er (tt 12) (tt 13) (tt 14) (tt 15))).length 4) (fun j=>((List.range 4).map (Er (tt 12) (tt 13) (tt 14) (tt 15))).getD j 0)) [(0,0),(1,1),(2,2),(3,3)] ⟨Ac,Ac,(by rw[ht];rfl),trivial⟩)))))
    ·have hS:=hT
     have hturn:(x6:Int)<14:=by omega
     refine Dn [] 4 hS fun hS=> ?_
     obtain rfl:L_ (En f o3_0 16) 16=tt:=ht.symm
     refine Ab (Ai hS (CX (Ae [] 4 hS fun hS=>Br (Ar (ι:=Nat×(Nat→Int)) hg0 hS (fun(x78,o3_0_6)=>(16-x78,[(78,vi ((x78:Nat):Int))],[(1,gX o3_0_6)],(x78≤16)∧(o3_0_6=MJ f g x6 o3_0 x78)∧(Rb x78 o3_0_6)∧True)) [0,3,4,6,7] [0,2,3] 4 (0,o3_0) [(0,0),(1,1),(2,2),(3,3)] ⟨Ac,rfl,(Rb.zero _),trivial⟩ ?_))))
     rintro⟨x78,o3_0_6⟩ ac gs ws ⟨hx78,hq6,p6,_⟩ hS
     refine Ae [] 4 hS fun hS=>Au (AB ((x78:Int)<16) hS (fun h6=> ?_) (fun h6=> ?_))
     ·exact BG (Ae [] 4 hS fun hS=>Av [(2,AG x78 16),(6,GE x6 16 (x6*16)),(8,DI (x6*16) x78 ((x6*16)+x78)),(11,AG ((x6*16)+x78) 240),(14,AG x78 16)] [] 4 hS fun hS=>BV (Av [(0,BQ x78)] [78] 4 hS fun hS=>Ab (Am hg0 hS (x78+1,upd o3_0_6 x78 (AK .u8 ((L_ (En f o3_0 16) 16) x78) (g ((x6*16)+x78)))) [(0,0),(1,1),(2,2),(3,3)] ⟨Ac,(A2 (st:=Q6 _ _ _ _) hq6 rfl rfl),(Rb.next p6 (Iy _ _)),trivial⟩)))
     ·have hT:=hS
      obtain rfl:16=x78:=by omega
      obtain rfl:=hq6.symm
      have hS:=hT
      exact Vh (Av [(1,BQ x6)] [6] 4 hS fun hS=>Ab (Am hg0 hS (k2+1,x6+1,MJ f g x6 o3_0 16) [(0,0),(1,1),(2,2)] ⟨(A2 (st:=K_ _ _) hq2 rfl (Eq.symm (if_pos hturn))),(A1 hj2 (by rw[←hq2];exact h2)),Ac,p6,trivial⟩))
  ·have hT:=hS
   obtain rfl:=BP (by rw[←hq2];first |exact h2|exact not_not_intro h2) hj2
   obtain⟨rfl,rfl⟩:=TZ hq2
   have hS:=hT
   exact CX (Ae [] 3 hS fun hS=>AU (Bh (Aag ..) hS))
end
end
end Go.Sx.Tryz
namespace Go.Sx.Tryz
open Go.Mi Go.RowKit Go.Sx Go.Proofs
noncomputable section
def NB (key num:List Int) (k1:Nat):(Int×(List Int))→(Int×(List Int)):=fun(x10,x9)=>((AZ .u32 x10 1),x9++((List.range 16).map (MH ((D3 key).1) ((D3 key).2) (fun j=>List.getD (α:=Int) ([num,CQ x10].flatten) (0+j) 0))))
def E7 (key num:List Int):Nat→Int×(List Int)
 |0=>(0,[])
 |k1+1=>NB key num k1 (E7 key num k1)
def IE (n:Nat):(Int×(List Int))→Prop:=fun(x10,x9)=>((x9.length:Nat):Int)<(n:Int)
section
variable (key num:List Int) (n:Nat)
def Vx:(List Int):=Ox ((E7 key num (CU fun j=>IE n (E7 key num j))).2) n
def G7:(List Int):=AJ (Vx key num n)
theorem Vy:G7 key num n=Vx key num n:=Af _
end
@[simp] theorem eD (xs:List Int) (n:Nat):(Ox xs n).length=n:=by
 rw[a5];unfold Uy
 simp only[List.length_append,List.length_take,List.length_drop,List.length_replicate]
 omega
@[simp] theorem Kr (key num:List Int) (n:Nat):(G7 key num n).length=n:=by rw[Vy];exact eD _ _
section
variable (key num:List Int) (n:Nat)
def qM (z_:(List Int):=G7 key num n):Con:=⟨[lb key,lb num,vi (n:Int)],[],.tu (chain [lb z_,vi 0]),[]⟩
theorem cN (hk:key.length=32) (hb:By key) (hn:num.length=12) (hl:n≤1000000):ConOk Tryz.prog 158 (qM key num n):=by
 refine cy 0 Tryz.func158 rfl Tryz.ntmps158 fun hg0 hS=> ?_
 have A6:key.length≤9223372036854775807:=hS.len 0 rfl
 have Bf:num.length≤9223372036854775807:=hS.len 1 rfl
 have hk1:((key.length:Nat):Int)=32:=Ac
 have hn1:((num.length:Nat):Int)=12:=Ac
 have hz1:¬(n:Int)<0:=Ac
 have hz2:¬(1048576:Int)<(n:Int):=Ac
 refine Ae [] 0 hS fun hS=>Au (Ay [(2,Ik hk1),(6,Ik hn1),(10,Ez hz1),(14,Ez hz2)] [] 0 hS fun hS=>Ai hS (B5 (Ay [(1,AO (lD key AD BC) [] [(0,0)])] [] 1 hS fun hS=>Ae [] 1 hS fun hS=>Au (Ae [] 1 hS fun hS=>Br ?_))))
 obtain⟨gs,hS⟩:=hS.nilk 9 5 [.int .u8]
 refine Ar (ι:=Nat×Int×(List Int)) hg0 hS (fun(k1,x10,x9)=>(n-x9.length,[(10,.v (.int .u32 x10))],[(1,.sl 5 [.int .u8] x9)],((x10,x9)=E7 key num k1)∧(∀j,j<k1→IE n (E7 key num j))∧(x9.length≤n+16)∧True)) [1,2,6,7,8,9] [0] 2 (0,0,[]) [(0,0),(1,1)] ⟨rfl,(fun j h=>absurd h (Nat.not_lt_zero j)),(by simp),trivial⟩ ?_
 rintro⟨k1,x10,x9⟩ ac gs ws ⟨hq1,hj1,p1,_⟩ hS
 refine Au (Ae [] 2 hS fun hS=>AB (((x9.length:Nat):Int)<(n:Int)) hS (fun h1=> ?_) (fun h1=> ?_))
 ·exact BG (Ay [(3,AR (V7 x10)),(5,AO (Q0 [num,CQ x10] (by first |omega|(simp only[List.flatten_cons,List.flatten_nil,List.length_append,List.length_cons,List.length_nil,List.length_take,List.length_drop,List.length_replicate]<;>omega)|(simp<;>omega))) [] [(0,2)]),(6,U6 .frz [16≤([num,CQ x10].flatten).length,0<([num,CQ x10].flatten).length] ⟨by(first |omega|(simp only[List.length_append,List.length_map,List.length_range,List.length_nil,List.flatten_cons,List.flatten_nil,E_];omega)),by(first |omega|(simp only[List.length_append,List.length_map,List.length_range,List.length_nil,List.flatten_cons,List.flatten_nil,E_];omega)),trivial⟩),(7,U6 (.at 0 0) [0+16≤([num,CQ x10].flatten).length] ⟨by(first |omega|(simp only[List.length_append,List.length_map,List.length_range,List.length_nil,List.flatten_cons,List.flatten_nil,E_];omega)),trivial⟩),(8,Ix (sR ((D3 key).1) ((D3 key).2) (fun j=>List.getD (α:=Int) ([num,CQ x10].flatten) (0+j) 0) (lC key)) [(0,0)] [] [.cp 0 0,.ar .u8 16 (fun j=>List.getD (α:=Int) ([num,CQ x10].flatten) (0+j) 0)] [some (XE ((D3 key).1) ((D3 key).2))])] [11] 4 hS fun hS=>Av [(1,U6 .frz [] trivial),(2,Ge x9.length (((List.range 16).map (MH ((D3 key).1) ((D3 key).2) (fun j=>List.getD (α:=Int) ([num,CQ x10].flatten) (0+j) 0))).length) 1 (by(first |omega|(simp only[List.length_append,List.length_map,List.length_range,List.length_nil,List.flatten_cons,List.flatten_nil,E_];omega))))] [9] 5 hS fun hS=>BV (Dn [10] 5 hS fun hS=>Ab (Am hg0 hS (k1+1,(AZ .u32 x10 1),x9++((List.range 16).map (MH ((D3 key).1) ((D3 key).2) (fun j=>List.getD (α:=Int) ([num,CQ x10].flatten) (0+j) 0)))) [(0,0),(1,4)] ⟨(A2 (st:=NB _ _) hq1 rfl rfl),(A1 hj1 (by rw[←hq1];exact h1)),(by rw[List.length_append,List.length_map,List.length_range];omega),trivial⟩ (show n-(x9++(List.range 16).map _).length<n-x9.length from by rw[List.length_append,List.length_map,List.length_range];omega))))
 ·have hT:=hS
  obtain rfl:=BP (by rw[←hq1];first |exact h1|exact not_not_intro h1) hj1
  obtain⟨rfl,rfl⟩:=TZ hq1
  have hS:=hT
  refine MY ?_
  obtain⟨gs,hS⟩:=hS.fz 1
  refine Av [(2,AO (oB ((E7 key num (CU fun j=>IE n (E7 key num j))).2) n Ac) [] [(0,2)])] [] 3 hS fun hS=>D6 ?_
  obtain⟨gs,hS⟩:=hS.fz 2
  exact Bh (Vy ..) hS
end
theorem iA (xs ys:List Int):∀k,(Kj xs ys k).length=min xs.length ys.length∧∀i,i<k→i<min xs.length ys.length→(Kj xs ys k).getD i 0=AK .u8 (xs.getD i 0) (ys.getD i 0)
 |0=>⟨List.length_replicate,fun i h=>absurd h (Nat.not_lt_zero _)⟩
 |k+1=>by
  obtain⟨h1,h2⟩:=iA xs ys k
  have e:Kj xs ys (k+1)=(Kj xs ys k).set k (AK .u8 (xs.getD k 0) (ys.getD k 0)):=rfl
  refine⟨by rw[e,List.length_set,h1],fun i hi hl=> ?_⟩
  rw[e,List.getD_eq_getElem?_getD]
  by_cases hk:i=k
  ·subst hk
   rw[List.getElem?_set_self (by rw[h1];exact hl)];rfl
  ·rw[List.getElem?_set_ne (fun h=>hk h.symm),←List.getD_eq_getElem?_getD]
   exact h2 i Ac hl
theorem iC (xs ys:List Int) {i:Nat} (h:i<min xs.length ys.length):(JU xs ys).getD i 0=AK .u8 (xs.getD i 0) (ys.getD i 0):=by
 rw[iB];exact(iA xs ys _).2 i h h
@[simp] theorem Te (xs ys:List Int):(JU xs ys).length=min xs.length ys.length:=by
 rw[iB];exact(iA xs ys _).1
theorem tT {xs ys:List Int} (hb:By xs) (hl:xs.length≤ys.length):JU (JU xs ys) ys=xs:=by
 have h1:(JU xs ys).length=xs.length:=by rw[Te];omega
 refine List.ext_getElem (by rw[Te,h1];omega) fun i h2 h3=> ?_
 have k1:=iC (JU xs ys) ys (i:=i) Ac
 rw[iC xs ys (i:=i) Ac,tS (OG hb i)]at k1
 rw[List.getD_eq_getElem?_getD,List.getElem?_eq_getElem h2,List.getD_eq_getElem?_getD,List.getElem?_eq_getElem h3]at k1
 exact k1
section
variable (key num xs:List Int)
def UJ:(List Int):=JU xs (G7 key num xs.length)
def DG:(List Int):=AJ (UJ key num xs)
theorem UK:DG key num xs=UJ key num xs:=Af _
end
@[simp] theorem Fh (key num xs:List Int):(DG key num xs).length=xs.length:=by
 rw[UK];unfold UJ;rw[Te,Kr];omega
theorem eU (key num:List Int) {xs:List Int} (h:By xs):DG key num (DG key num xs)=xs:=by
 have e:∀ys,DG key num ys=JU ys (G7 key num ys.length):=fun ys=>UK key num ys
 rw[e (DG key num xs),Fh,e xs]
 exact tT h (by rw[Kr];exact Nat.le_refl _)
section
variable (key num xs:List Int)
def zW (z_:(List Int):=DG key num xs):Con:=⟨[lb key,lb num,lb xs],[],.tu (chain [.sk 0,vi 0]),[(0,.sl 5 [.int .u8] z_)]⟩
theorem W8 (hk:key.length=32) (hb:By key) (hn:num.length=12) (hl:xs.length≤1000000):ConOk Tryz.prog 119 (zW key num xs):=by
 refine cy 0 Tryz.func119 rfl Tryz.ntmps119 fun hg0 hS=> ?_
 have A6:key.length≤9223372036854775807:=hS.len 0 rfl
 have Bf:num.length≤9223372036854775807:=hS.len 1 rfl
 have CF:xs.length≤9223372036854775807:=hS.len 2 rfl
 refine Ae [] 0 hS fun hS=>Au ?_
 have hsl:=Kr key num xs.length
 exact Av [(4,AR (cN key num xs.length AD BC AD AD))] [] 0 hS fun hS=>Ej (Ae [] 0 hS fun hS=>Ai hS (B5 (Ay [(2,AO (Abg xs (G7 key num xs.length) Ac) [] [(0,0)])] [] 1 hS fun hS=>AU (Bh (UK ..) hS))))
end
end
end Go.Sx.Tryz
namespace Go.Sx.Tryz
open Go.Mi Go.RowKit Go.Sx Go.Proofs
noncomputable section
theorem By.nil:By []:=fun x h=>by cases h
theorem By.app {a b:List Int} (h:By a) (k:By b):By (a++b):=fun x hx=>(List.mem_append.1 hx).elim (h x) (k x)
theorem By.set {a:List Int} (h:By a) (i:Nat) {v:Int} (hv:0≤v∧v<256):By (a.set i v):=fun x hx=>(List.mem_or_eq_of_mem_set hx).elim (h x) fun e=>e▸hv
theorem By.take {a:List Int} (h:By a) (n:Nat):By (a.take n):=fun x hx=>h x (List.mem_of_mem_take hx)
theorem By.drop {a:List Int} (h:By a) (n:Nat):By (a.drop n):=fun x hx=>h x (List.mem_of_mem_drop hx)
theorem Wz (x:Int):By (Fa x):=by
 have key:∀i,By (EF x i):=by
  intro i
  induction i with
  |zero=>intro y hy;rw[show EF x 0=List.replicate 8 (0:Int)from rfl]at hy;rw[List.eq_of_mem_replicate hy];exact⟨Int.le_refl _,(by decide:(0:Int)<256)⟩
  |succ i ih=>exact By.set ih _ (Zr _)
 rw[KH]
 exact key 8
theorem uB {xs:List Int} (h:By xs):By (Pk xs):=by
 have key:∀i,By (FS xs i).2.2:=by
  intro i
  induction i with
  |zero=>exact h
  |succ i ih=>
   show By (((FS xs i).2.2.set _ _).set _ _)
   exact By.set (By.set ih _ (OG ih _)) _ (OG ih _)
 rw[XT]
 exact key _
theorem lV (x:Int):By (Fy x):=by rw[TW];exact uB (Wz _)
theorem lW (x:Int):By (CQ x):=by rw[TY];exact By.drop (lV _) _
theorem wI (h:Nat→Int) (r:List Int) (n:Int):By (Ey h r n):=by
 have key:∀i,By (JH h r n i):=by
  intro i
  induction i with
  |zero=>exact By.nil
  |succ i ih=>exact By.app ih (lW _)
 rw[Yn]
 exact key 8
theorem v8 (u1:Nat→Int) (r1:List Int) (n1:Int) (u2:Nat→Int) (r2:List Int) (n2:Int) (l:List (List Int)):By (Co u1 r1 n1 u2 r2 n2 l):=by rw[Yj];exact wI _ _ _
theorem WO (key info:List Int):By (Gv key info):=by
 have h:∀k,By (BE key info k).2.1:=by
  intro k
  induction k with
  |zero=>exact By.nil
  |succ k ih=>exact By.app ih (v8 _ _ _ _ _ _ _)
 rw[KV]
 unfold H5
 rw[List.nil_append]
 exact By.take (h _) _
theorem Rv (ikm info:List Int):By (Bj ikm info):=by rw[Ib];exact WO _ _
section
variable (k:List Int) (u1:Nat→Int) (r1:List Int) (n1:Int) (u2:Nat→Int) (r2:List Int) (n2:Int) (num:List Int) (data text:List Int)
def jG (k:List Int) (u1:Nat→Int) (r1:List Int) (n1:Int) (u2:Nat→Int) (r2:List Int) (n2:Int) (num:List Int) (data text:List Int):(List Int):=Co u1 r1 n1 u2 r2 n2 [num,Fy ((data.length:Nat):Int),data,text]
def FK:(List Int):=AJ (jG k u1 r1 n1 u2 r2 n2 num data text)
theorem jH:FK k u1 r1 n1 u2 r2 n2 num data text=jG k u1 r1 n1 u2 r2 n2 num data text:=Af _
end
@[simp] theorem Pj (k:List Int) (u1:Nat→Int) (r1:List Int) (n1:Int) (u2:Nat→Int) (r2:List Int) (n2:Int) (num data text:List Int):(FK k u1 r1 n1 u2 r2 n2 num data text).length=32:=by rw[jH];exact B2 ..
section
variable (k:List Int) (u1:Nat→Int) (r1:List Int) (n1:Int) (u2:Nat→Int) (r2:List Int) (n2:Int) (num:List Int) (data text:List Int)
def AcL (z_:(List Int):=FK k u1 r1 n1 u2 r2 n2 num data text):Con:=⟨[.im (chain [lb k,.im (chain [.im (chain [.ar .u32 8 u1,lb r1,.v (.int .u64 n1)]) 0,.im (chain [.ar .u32 8 u2,lb r2,.v (.int .u64 n2)]) 0]) 0]) 0,lb num,lb data,lb text],[],.sk 0,[(0,.sl 5 [.int .u8] z_)]⟩
theorem Zx (hr1:r1.length≤64) (hr2:r2.length≤64) (hd:data.length≤60000) (ht:text.length≤60000) (hn:num.length=12):ConOk Tryz.prog 120 (AcL k u1 r1 n1 u2 r2 n2 num data text):=by
 refine cy 0 Tryz.func120 rfl Tryz.ntmps120 fun hg0 hS=> ?_
 have Bf:num.length≤9223372036854775807:=hS.len 1 rfl
 have CF:data.length≤9223372036854775807:=hS.len 2 rfl
 have Ml:text.length≤9223372036854775807:=hS.len 3 rfl
 exact Ae [] 0 hS fun hS=>Ay [(7,Xx data.length),(8,AR (PZ ((data.length:Nat):Int))),(12,AO (aI u1 r1 n1 u2 r2 n2 [num,Fy ((data.length:Nat):Int),data,text] hr1 hr2 (by first |assumption|omega|(simp only[List.flatten_cons,List.flatten_nil,List.length_append,List.length_cons,List.length_nil,Jz]<;>omega)|(simp<;>omega))) [] [(0,0)])] [] 1 hS fun hS=>AU (Bh (jH ..) hS)
def yI:Con:=⟨[.im (chain [lb k,.im (chain [.im (chain [.ar .u32 8 u1,lb r1,.v (.int .u64 n1)]) 0,.im (chain [.ar .u32 8 u2,lb r2,.v (.int .u64 n2)]) 0]) 0]) 0,lb num,lb data,lb text],[],lb (FK k u1 r1 n1 u2 r2 n2 num data text),[]⟩
theorem jF (hr1:r1.length≤64) (hr2:r2.length≤64) (hd:data.length≤60000) (ht:text.length≤60000) (hn:num.length=12):ConOk Tryz.prog 120 (yI k u1 r1 n1 u2 r2 n2 num data text):=ConOk.frz [] 0 5 [.int .u8] (FK k u1 r1 n1 u2 r2 n2 num data text) (Zx k u1 r1 n1 u2 r2 n2 num data text hr1 hr2 hd ht hn) (by kernel_rfl)
def yH:Con:=⟨[.im (chain [lb k,.im (chain [.im (chain [.ar .u32 8 u1,lb r1,.v (.int .u64 n1)]) 0,.im (chain [.ar .u32 8 u2,lb r2,.v (.int .u64 n2)]) 0]) 0]) 0,lb num,lb data,.sk 1],[(1,.sl 5 [.int .u8] text)],.sk 0,[(1,.sl 5 [.int .u8] text),(0,.sl 5 [.int .u8] (FK k u1 r1 n1 u2 r2 n2 num data text))]⟩
theorem jE (hr1:r1.length≤64) (hr2:r2.length≤64) (hd:data.length≤60000) (ht:text.length≤60000) (hn:num.length=12):ConOk Tryz.prog 120 (yH k u1 r1 n1 u2 r2 n2 num data text):=ConOk.lend (a1:=[.im (chain [lb k,.im (chain [.im (chain [.ar .u32 8 u1,lb r1,.v (.int .u64 n1)]) 0,.im (chain [.ar .u32 8 u2,lb r2,.v (.int .u64 n2)]) 0]) 0]) 0,lb num,lb data]) (a2:=[]) (nn:=false) (xs:=text) (H0:=[]) (H1:=[(0,.sl 5 [.int .u8] (FK k u1 r1 n1 u2 r2 n2 num data text))]) (res:=(.sk 0)) 1 5 (Zx k u1 r1 n1 u2 r2 n2 num data text hr1 hr2 hd ht hn) (fun h=>by cases h) (by kernel_rfl)
def Xj:Con:=⟨[.im (chain [lb k,.im (chain [.im (chain [.ar .u32 8 u1,lb r1,.v (.int .u64 n1)]) 0,.im (chain [.ar .u32 8 u2,lb r2,.v (.int .u64 n2)]) 0]) 0]) 0,lb num,lb data,lb text,vi 65536],[],vi 0,[]⟩
theorem Tw (hd:data.length≤60000) (ht:text.length≤60000) (hn:num.length=12):ConOk Tryz.prog 118 (Xj k u1 r1 n1 u2 r2 n2 num data text):=by
 refine cy 0 Tryz.func118 rfl Tryz.ntmps118 fun hg0 hS=> ?_
 have Bf:num.length≤9223372036854775807:=hS.len 1 rfl
 have CF:data.length≤9223372036854775807:=hS.len 2 rfl
 have Ml:text.length≤9223372036854775807:=hS.len 3 rfl
 have hn1:((num.length:Nat):Int)=12:=Ac
 have ht1:¬(65536:Int)<((text.length:Nat):Int):=Ac
 have hd1:¬(65536:Int)<((data.length:Nat):Int):=Ac
 exact Ae [] 0 hS fun hS=>Au (Br (Ay [(12,Ik hn1)] [] 0 hS fun hS=>Ai hS (Ay [(3,Ez ht1),(7,Ez hd1)] [] 0 hS fun hS=>Ai hS (Iu (Ae [] 0 hS fun hS=>AU (Ci hS))))))
def Xi:Con:=⟨[.im (chain [lb k,.im (chain [.im (chain [.ar .u32 8 u1,lb r1,.v (.int .u64 n1)]) 0,.im (chain [.ar .u32 8 u2,lb r2,.v (.int .u64 n2)]) 0]) 0]) 0,lb num,lb data,lb text,vi 65568],[],vi 0,[]⟩
theorem Tv (hd:data.length≤60000) (ht:text.length≤60000) (hn:num.length=12):ConOk Tryz.prog 118 (Xi k u1 r1 n1 u2 r2 n2 num data text):=by
 refine cy 0 Tryz.func118 rfl Tryz.ntmps118 fun hg0 hS=> ?_
 have Bf:num.length≤9223372036854775807:=hS.len 1 rfl
 have CF:data.length≤9223372036854775807:=hS.len 2 rfl
 have Ml:text.length≤9223372036854775807:=hS.len 3 rfl
 have hn1:((num.length:Nat):Int)=12:=Ac
 have ht1:¬(65568:Int)<((text.length:Nat):Int):=Ac
 have hd1:¬(65536:Int)<((data.length:Nat):Int):=Ac
 exact Ae [] 0 hS fun hS=>Au (Br (Ay [(12,Ik hn1)] [] 0 hS fun hS=>Ai hS (Ay [(3,Ez ht1),(7,Ez hd1)] [] 0 hS fun hS=>Ai hS (Iu (Ae [] 0 hS fun hS=>AU (Ci hS))))))
end
end
end Go.Sx.Tryz
namespace Go.Sx.Tryz
open Go.Mi Go.RowKit Go.Sx Go.Proofs
noncomputable section
section
variable (key:List Int)
def Wt:(List Int)×(Nat→Int)×(List Int)×Int×(Nat→Int)×(List Int)×Int:=((Bj key [115,101,97,108]).take 32,(Ag ((Bj key [115,101,97,108]).drop 32)).1,(Ag ((Bj key [115,101,97,108]).drop 32)).2.1,((Ag ((Bj key [115,101,97,108]).drop 32)).2.2.1),(Ag ((Bj key [115,101,97,108]).drop 32)).2.2.2.1,(Ag ((Bj key [115,101,97,108]).drop 32)).2.2.2.2.1,((Ag ((Bj key [115,101,97,108]).drop 32)).2.2.2.2.2))
def AT:(List Int)×(Nat→Int)×(List Int)×Int×(Nat→Int)×(List Int)×Int:=AJ (Wt key)
theorem Wu:AT key=Wt key:=Af _
theorem DU:(AT key).1.length=32∧By (AT key).1∧(AT key).2.2.1.length≤64∧(AT key).2.2.2.2.2.1.length≤64:=by
 rw[Wu]
 refine⟨?_,?_,(Cn _).1,(Cn _).2⟩
 ·show((Bj _ _).take 32).length=32
  rw[List.length_take,Jc];rfl
 ·exact By.take (Rv _ _) _
def rO (z_:(List Int)×(Nat→Int)×(List Int)×Int×(Nat→Int)×(List Int)×Int:=AT key):Con:=⟨[lb key],[],.tu (chain [.im (chain [lb (z_.1),.im (chain [.im (chain [.ar .u32 8 (z_.2.1),lb (z_.2.2.1),.v (.int .u64 (z_.2.2.2.1))]) 0,.im (chain [.ar .u32 8 (z_.2.2.2.2.1),lb (z_.2.2.2.2.2.1),.v (.int .u64 (z_.2.2.2.2.2.2))]) 0]) 0]) 0,vi 0]),[]⟩
theorem SA (hk:key.length=32):ConOk Tryz.prog 82 (rO key):=by
 refine cy 0 Tryz.func82 rfl Tryz.ntmps82 fun hg0 hS=> ?_
 have A6:key.length≤9223372036854775807:=hS.len 0 rfl
 have hk1:((key.length:Nat):Int)=32:=Ac
 refine Ae [] 0 hS fun hS=>Au (Ay [(2,Ik hk1)] [] 0 hS fun hS=>Ai hS (B5 (Ay [(1,Row),(2,OM (0<[115,101,97,108].length) (by decide)),(3,AR (Ru key [115,101,97,108] AD AD))] [] 1 hS fun hS=>Au ?_)))
 have hdl:=Jc key [115,101,97,108]
 refine Av [(1,g9 32 (Bj key [115,101,97,108]).length),(3,ON 32 (Bj key [115,101,97,108]).length),(4,AR (Hq ((Bj key [115,101,97,108]).drop 32) AD))] [] 2 hS fun hS=> ?_
 obtain⟨gs,hS⟩:=hS.im 1
 exact D6 (Bh (Wu ..) hS)
end
section
variable (k:List Int) (u1:Nat→Int) (r1:List Int) (n1:Int) (u2:Nat→Int) (r2:List Int) (n2:Int) (num:List Int) (data text:List Int)
def MD:(List Int):=(DG k num text)++(FK k u1 r1 n1 u2 r2 n2 num data (DG k num text))
def ME:(List Int):=AJ (MD k u1 r1 n1 u2 r2 n2 num data text)
theorem OI:ME k u1 r1 n1 u2 r2 n2 num data text=MD k u1 r1 n1 u2 r2 n2 num data text:=Af _
def z6 (z_:(List Int):=ME k u1 r1 n1 u2 r2 n2 num data text):Con:=⟨[.im (chain [lb k,.im (chain [.im (chain [.ar .u32 8 u1,lb r1,.v (.int .u64 n1)]) 0,.im (chain [.ar .u32 8 u2,lb r2,.v (.int .u64 n2)]) 0]) 0]) 0,lb num,lb data,lb text],[],.tu (chain [lb z_,vi 0]),[]⟩
theorem sN (hkl:k.length=32) (hkb:By k) (hr1:r1.length≤64) (hr2:r2.length≤64) (hd:data.length≤60000) (ht:text.length≤60000) (hn:num.length=12):ConOk Tryz.prog 83 (z6 k u1 r1 n1 u2 r2 n2 num data text):=by
 refine cy 0 Tryz.func83 rfl Tryz.ntmps83 fun hg0 hS=> ?_
 have Bf:num.length≤9223372036854775807:=hS.len 1 rfl
 have CF:data.length≤9223372036854775807:=hS.len 2 rfl
 have Ml:text.length≤9223372036854775807:=hS.len 3 rfl
 refine Ae [] 0 hS fun hS=>Au (Ay [(4,AR (Tw k u1 r1 n1 u2 r2 n2 num data text AD AD AD))] [] 0 hS fun hS=>Ae [] 0 hS fun hS=>Ai hS (B5 (Ay [(6,AO (W8 k num text AD BC AD AD) [] [(0,0)])] [] 1 hS fun hS=>Au ?_)))
 have hcl:=Fh k num text
 refine Av [(5,AO (jE k u1 r1 n1 u2 r2 n2 num data (DG k num text) hr1 hr2 AD (by rw[Fh];exact ht) AD) [(1,0)] [(0,1)]),(6,Ge ((DG k num text).length) ((FK k u1 r1 n1 u2 r2 n2 num data (DG k num text)).length) 1 (by(first |omega|(simp only[Fh,Pj];omega))))] [] 3 hS fun hS=>D6 ?_
 obtain⟨gs,hS⟩:=hS.fz 2
 exact Bh (OI ..) hS
end
section
variable (key num:List Int) (data text:List Int)
def Tz:(List Int):=ME ((AT key).1) ((AT key).2.1) ((AT key).2.2.1) ((AT key).2.2.2.1) ((AT key).2.2.2.2.1) ((AT key).2.2.2.2.2.1) ((AT key).2.2.2.2.2.2) num data text
def C_:(List Int):=AJ (Tz key num data text)
theorem X2:C_ key num data text=Tz key num data text:=Af _
def AcR (z_:(List Int):=C_ key num data text):Con:=⟨[lb key,lb num,lb data,lb text],[],.tu (chain [lb z_,vi 0]),[]⟩
theorem ZE (hk:key.length=32) (hd:data.length≤60000) (ht:text.length≤60000) (hn:num.length=12):ConOk Tryz.prog 50 (AcR key num data text):=by
 refine cy 0 Tryz.func50 rfl Tryz.ntmps50 fun hg0 hS=> ?_
 have A6:key.length≤9223372036854775807:=hS.len 0 rfl
 have Bf:num.length≤9223372036854775807:=hS.len 1 rfl
 have CF:data.length≤9223372036854775807:=hS.len 2 rfl
 have Ml:text.length≤9223372036854775807:=hS.len 3 rfl
 exact Ae [] 0 hS fun hS=>Ay [(1,AR (SA key AD))] [] 0 hS fun hS=>Au (Ae [] 0 hS fun hS=>Ai hS (B5 (Ay [(4,AR (sN ((AT key).1) ((AT key).2.1) ((AT key).2.2.1) ((AT key).2.2.2.1) ((AT key).2.2.2.2.1) ((AT key).2.2.2.2.2.1) ((AT key).2.2.2.2.2.2) num data text (DU key).1 (DU key).2.1 (DU key).2.2.1 (DU key).2.2.2 AD AD AD))] [] 0 hS fun hS=>AU (Bh (X2 ..) hS))))
end
section
variable (k:List Int) (u1:Nat→Int) (r1:List Int) (n1:Int) (u2:Nat→Int) (r2:List Int) (n2:Int) (num:List Int) (data text:List Int)
def U0:(List Int)×Nat:=if(((text.length:Nat):Int)-32)<0 then([],2)else(if(FK k u1 r1 n1 u2 r2 n2 num data (text.take (Int.toNat (((text.length:Nat):Int)-32))))=(text.drop (Int.toNat (((text.length:Nat):Int)-32)))then(DG k num (text.take (Int.toNat (((text.length:Nat):Int)-32))),0)else([],2))
def MF:(List Int)×Nat:=AJ (U0 k u1 r1 n1 u2 r2 n2 num data text)
theorem OJ:MF k u1 r1 n1 u2 r2 n2 num data text=U0 k u1 r1 n1 u2 r2 n2 num data text:=Af _
def z7 (z_:(List Int)×Nat:=MF k u1 r1 n1 u2 r2 n2 num data text):Con:=⟨[.im (chain [lb k,.im (chain [.im (chain [.ar .u32 8 u1,lb r1,.v (.int .u64 n1)]) 0,.im (chain [.ar .u32 8 u2,lb r2,.v (.int .u64 n2)]) 0]) 0]) 0,lb num,lb data,lb text],[],.tu (chain [lb (z_.1),vi ((z_.2:Nat):Int)]),[]⟩
theorem sO (hkl:k.length=32) (hkb:By k) (hr1:r1.length≤64) (hr2:r2.length≤64) (hd:data.length≤60000) (ht:text.length≤60000) (hn:num.length=12):ConOk Tryz.prog 104 (z7 k u1 r1 n1 u2 r2 n2 num data text):=by
 refine cy 0 Tryz.func104 rfl Tryz.ntmps104 fun hg0 hS=> ?_
 have Bf:num.length≤9223372036854775807:=hS.len 1 rfl
 have CF:data.length≤9223372036854775807:=hS.len 2 rfl
 have Ml:text.length≤9223372036854775807:=hS.len 3 rfl
 refine Ae [] 0 hS fun hS=>Au (Ay [(4,AR (Tv k u1 r1 n1 u2 r2 n2 num data text AD AD AD))] [] 0 hS fun hS=>Ae [] 0 hS fun hS=>Ai hS (B5 (Ay [(2,gV ((text.length:Nat):Int) 32)] [] 0 hS fun hS=>JN ?_)))
 by_cases h1:(((text.length:Nat):Int)-32)<0
 ·refine Av [(1,Iw h1)] [] 0 hS fun hS=>Ab (AQ hS (Ae [] 0 hS fun hS=>AU (Ah ?_)))
  have hS:=hS.wk 8 (lb [])
  exact Bh (.trans (OJ ..) (if_pos h1)) hS
 ·refine Av [(1,Ez h1),(8,OM (E3 none (some (((text.length:Nat):Int)-32)) none text.length text.length) ⟨by simp only[FX]<;>omega,by simp only[FX]<;>omega,by simp only[FX]<;>omega,by simp,by simp only[bl]<;>omega,by simp only[bl]<;>omega,by simp only[bl]<;>omega⟩),(9,AR (jF k u1 r1 n1 u2 r2 n2 num data (text.take (Int.toNat (((text.length:Nat):Int)-32))) hr1 hr2 AD AD AD)),(12,OM (E3 (some (((text.length:Nat):Int)-32)) none none text.length text.length) ⟨by simp only[FX]<;>omega,by simp only[FX]<;>omega,by simp only[FX]<;>omega,by simp,by simp only[bl]<;>omega,by simp only[bl]<;>omega,by simp only[bl]<;>omega⟩),(13,AR (Ei (FK k u1 r1 n1 u2 r2 n2 num data (text.take (Int.toNat (((text.length:Nat):Int)-32)))) (text.drop (Int.toNat (((text.length:Nat):Int)-32)))))] [] 0 hS fun hS=>Ab (Is ((FK k u1 r1 n1 u2 r2 n2 num data (text.take (Int.toNat (((text.length:Nat):Int)-32))))=(text.drop (Int.toNat (((text.length:Nat):Int)-32)))) hS (fun h2=> ?_) (fun h2=> ?_))
  ·refine Ae [] 0 hS fun hS=>AU (Ah ?_)
   have hS:=hS.wk 8 (lb [])
   exact Bh (.trans (OJ ..) ((if_neg h1).trans (if_neg h2))) hS
  ·refine B5 (Ay [(7,OM (E3 none (some (((text.length:Nat):Int)-32)) none text.length text.length) ⟨by simp only[FX]<;>omega,by simp only[FX]<;>omega,by simp only[FX]<;>omega,by simp,by simp only[bl]<;>omega,by simp only[bl]<;>omega,by simp only[bl]<;>omega⟩),(8,AO (W8 k num (text.take (Int.toNat (((text.length:Nat):Int)-32))) AD BC AD AD) [] [(0,0)])] [] 1 hS fun hS=>AU ?_)
   obtain⟨gs,hS⟩:=hS.fz 0
   exact Bh (.trans (OJ ..) ((if_neg h1).trans (if_pos h2))) hS
end
section
variable (key num:List Int) (data text:List Int)
def Tp:(List Int)×Nat:=((MF ((AT key).1) ((AT key).2.1) ((AT key).2.2.1) ((AT key).2.2.2.1) ((AT key).2.2.2.2.1) ((AT key).2.2.2.2.2.1) ((AT key).2.2.2.2.2.2) num data text).1,((MF ((AT key).1) ((AT key).2.1) ((AT key).2.2.1) ((AT key).2.2.2.1) ((AT key).2.2.2.2.1) ((AT key).2.2.2.2.2.1) ((AT key).2.2.2.2.2.2) num data text).2))
def C9:(List Int)×Nat:=AJ (Tp key num data text)
theorem Zy:C9 key num data text=Tp key num data text:=Af _
def yL (z_:(List Int)×Nat:=C9 key num data text):Con:=⟨[lb key,lb num,lb data,lb text],[],.tu (chain [lb (z_.1),vi ((z_.2:Nat):Int)]),[]⟩
theorem VB (hk:key.length=32) (hd:data.length≤60000) (ht:text.length≤60000) (hn:num.length=12):ConOk Tryz.prog 69 (yL key num data text):=by
 refine cy 0 Tryz.func69 rfl Tryz.ntmps69 fun hg0 hS=> ?_
 have A6:key.length≤9223372036854775807:=hS.len 0 rfl
 have Bf:num.length≤9223372036854775807:=hS.len 1 rfl
 have CF:data.length≤9223372036854775807:=hS.len 2 rfl
 have Ml:text.length≤9223372036854775807:=hS.len 3 rfl
 exact Ae [] 0 hS fun hS=>Ay [(1,AR (SA key AD))] [] 0 hS fun hS=>Au (Ae [] 0 hS fun hS=>Ai hS (B5 (Ay [(4,AR (sO ((AT key).1) ((AT key).2.1) ((AT key).2.2.1) ((AT key).2.2.2.1) ((AT key).2.2.2.2.1) ((AT key).2.2.2.2.2.1) ((AT key).2.2.2.2.2.2) num data text (DU key).1 (DU key).2.1 (DU key).2.2.1 (DU key).2.2.2 AD AD AD))] [] 0 hS fun hS=>AU (Bh (Zy ..) hS))))
end
end
end Go.Sx.Tryz
namespace Go.Sx.Tryz
open Go.Mi Go.RowKit Go.Sx Go.Proofs
noncomputable section
def Ao (x0:List Int) (x1:Nat):O:= .ob 122 (chain [lb x0,vi ((x1:Nat):Int)])
def C8 (x0:List Int):O:= .ob 122 (chain [lb x0,vi 0])
def P9 (key:List Int):List Int:=Co ((Ag key).1) ((Ag key).2.1) ((Ag key).2.2.1) ((Ag key).2.2.2.1) ((Ag key).2.2.2.2.1) ((Ag key).2.2.2.2.2) [[2]]
def J6 (key:List Int):List Int:=Co ((Ag key).1) ((Ag key).2.1) ((Ag key).2.2.1) ((Ag key).2.2.2.1) ((Ag key).2.2.2.2.1) ((Ag key).2.2.2.2.2) [[1]]
@[simp] theorem L3 (key:List Int):(P9 key).length=32:=B2 ..
@[simp] theorem vW (key:List Int):(J6 key).length=32:=B2 ..
def A0 (key:List Int):Nat→List Int
 |0=>key
 |k+1=>P9 (A0 key k)
def FJ (key:List Int):Nat→List (List Int)
 |0=>[]
 |k+1=>FJ key k++[J6 (A0 key k)]
theorem Hm {key:List Int} (h:key.length=32):∀k,(A0 key k).length=32
 |0=>h
 |_+1=>L3 _
@[simp] theorem FT (key:List Int):∀k,(FJ key k).length=k
 |0=>rfl
 |k+1=>by rw[FJ,List.length_append,FT key k];rfl
section
variable (key:List Int)
def zX (i:Nat):Con:=Cq [.cp 0 0] [(0,Ao key i)] (.v (.bool false))
theorem QW (i:Nat) (hk:key.length=32):ConOk Tryz.prog 84 (zX key i):=by
 refine cy 1 Tryz.func84 rfl Tryz.ntmps84 fun hg0 hS=> ?_
 have hk0:¬((key.length:Nat):Int)=0:=Ac
 exact Ae [] 1 hS fun hS=>Ay [(8,Ez hk0)] [] 1 hS fun hS=>AU (Ci hS)
def Adr (i:Nat):Con:=⟨[lb key,vi (i:Int)],[],.tu (chain [.cp 0 0,vi 0]),[(0,Ao key i)]⟩
theorem xR (i:Nat) (hk:key.length=32):ConOk Tryz.prog 76 (Adr key i):=by
 refine cy 0 Tryz.func76 rfl Tryz.ntmps76 fun hg0 hS=> ?_
 have A6:key.length≤9223372036854775807:=hS.len 0 rfl
 have hk32:((key.length:Nat):Int)=32:=Ac
 exact Ae [] 0 hS fun hS=>Au (Ay [(2,Ik hk32),(5,tP false [(decide ((i:Int)<0))=false] ⟨decide_eq_false Ac,trivial⟩)] [] 0 hS fun hS=>Ai hS (B5 (Ay [(1,AR (Dt key AD))] [] 1 hS fun hS=>AU (Ci hS))))
def Adn:Con:=⟨[lb key],[],.tu (chain [.cp 0 0,vi 0]),[(0,C8 key)]⟩
theorem JO (hk:key.length=32):ConOk Tryz.prog 43 (Adn key):=by
 refine cy 0 Tryz.func43 rfl Tryz.ntmps43 fun hg0 hS=> ?_
 have A6:key.length≤9223372036854775807:=hS.len 0 rfl
 exact Ae [] 0 hS fun hS=>Ay [(1,AO (xR key 0 AD) [] [(0,0)])] [] 1 hS fun hS=>AU (Ci hS)
def zY (i:Nat):Con:=⟨[.cp 0 0],[(0,Ao key i)],lb (J6 key),[(0,Ao (P9 key) (i+1))]⟩
theorem HC (i:Nat) (hk:key.length=32) (hi:i≤1000000000000):ConOk Tryz.prog 52 (zY key i):=by
 exact cy 1 Tryz.func52 rfl Tryz.ntmps52 fun hg0 hS=>Ae [] 1 hS fun hS=>Au (Ay [(1,AO (QW key i AD) [(0,0)] [])] [] 1 hS fun hS=>Ai hS (B5 (Ay [(4,AR (Hq key AD))] [] 1 hS fun hS=>Ay [(4,AR (IZ ((Ag key).1) ((Ag key).2.1) ((Ag key).2.2.1) ((Ag key).2.2.2.1) ((Ag key).2.2.2.2.1) ((Ag key).2.2.2.2.2) [[2]] (Cn key).1 (Cn key).2 (by simp)))] [] 1 hS fun hS=>Ay [(4,BQ i)] [] 1 hS fun hS=>Ay [(3,AR (IZ ((Ag key).1) ((Ag key).2.1) ((Ag key).2.2.1) ((Ag key).2.2.2.1) ((Ag key).2.2.2.2.1) ((Ag key).2.2.2.2.2) [[1]] (Cn key).1 (Cn key).2 (by simp)))] [] 1 hS fun hS=>AU (Ci hS))))
def QX (key:List Int) (i k:Nat):Nat:=if(k:Int)<(i:Int)then 5 else(if((i+40:Nat):Int)<(k:Int)then 6 else 0)
def Fl (i k:Nat):Nat:=AJ (QX key i k)
theorem Ns (i k:Nat):Fl key i k=QX key i k:=Af _
def Ado (i k:Nat) (z_:Nat:=Fl key i k):Con:=Cq [.cp 0 0,vi (k:Int)] [(0,Ao key i)] (vi (z_:Int))
theorem UQ (i k:Nat) (hk:key.length=32) (hi:i≤1000000000000):ConOk Tryz.prog 140 (Ado key i k):=by
 refine cy 1 Tryz.func140 rfl Tryz.ntmps140 fun hg0 hS=>Ae [] 1 hS fun hS=>Au (Br (Ay [(1,AO (QW key i AD) [(0,0)] [])] [] 1 hS fun hS=>Ai hS (Ae [] 1 hS fun hS=>AB ((k:Int)<(i:Int)) hS (fun h1=> ?_) (fun h1=> ?_))))
 ·exact Ae [] 1 hS fun hS=>AU (AC (Ah (Bh (.trans (Ns ..) (if_pos h1)) hS)))
 ·refine Ay [(5,DI i 40 (i+40))] [] 1 hS fun hS=>AB (((i+40:Nat):Int)<(k:Int)) hS (fun h2=> ?_) (fun h2=> ?_)
  ·exact Ae [] 1 hS fun hS=>AU (AC (Ah (Bh (.trans (Ns ..) ((if_neg h1).trans (if_pos h2))) hS)))
  ·exact Iu (Ae [] 1 hS fun hS=>AU (Bh (.trans (Ns ..) ((if_neg h1).trans (if_neg h2))) hS))
def z4 (i:Nat):Con:=⟨[.cp 0 0],[(0,Ao key i)],.cp 1 0,[(0,Ao key i),(1,Ao key i)]⟩
theorem Jj (i:Nat) (hk:key.length=32):ConOk Tryz.prog 61 (z4 key i):=by
 exact cy 1 Tryz.func61 rfl Tryz.ntmps61 fun hg0 hS=>Ae [] 1 hS fun hS=>Au (Ay [(1,AO (QW key i AD) [(0,0)] [])] [] 1 hS fun hS=>Ai hS (B5 (Ay [(4,AR (Dt key AD))] [] 2 hS fun hS=>AU (Ci hS))))
def sE (i:Nat):Con:=Cq [.cp 0 0] [(0,Ao key i)] (vi (i:Int))
theorem CM (i:Nat):ConOk Tryz.prog 40 (sE key i):=by
 exact cy 1 Tryz.func40 rfl Tryz.ntmps40 fun hg0 hS=>Ae [] 1 hS fun hS=>Au (Ae [] 1 hS fun hS=>Ai hS (B5 (Ae [] 1 hS fun hS=>AU (Ci hS))))
end
end
end Go.Sx.Tryz
namespace Go.Sx.Tryz
open Go.Mi Go.RowKit Go.Sx Go.Proofs
noncomputable section
theorem pX {key:List Int} {i k:Nat} (h1:i≤k) (h2:k≤i+40):Fl key i k=0:=by
 rw[Ns];unfold QX
 rw[if_neg Ac,if_neg Ac]
theorem AcE {key:List Int} {i k:Nat} (h1:k<i):Fl key i k=5:=by
 rw[Ns];unfold QX
 rw[if_pos Ac]
theorem pY {key:List Int} {i k:Nat} (h1:i+40<k):Fl key i k=6:=by
 rw[Ns];unfold QX
 rw[if_neg Ac,if_pos Ac]
section
variable (key:List Int) (i to:Nat)
def zV:Con:=⟨[.cp 0 0,vi (to:Int)],[(0,Ao key i)],.tu (chain [.sk 1,vi 0]),[(0,Ao (A0 key (to-i)) to),(1,.sl 22 [.sl (.int .u8)] (FJ key (to-i)))]⟩
theorem QV (hk:key.length=32) (hi:i≤900000000000) (hm:i≤to∧to≤i+40):ConOk Tryz.prog 107 (zV key i to):=by
 refine cy 1 Tryz.func107 rfl Tryz.ntmps107 fun hg0 hS=> ?_
 have hm0:((Fl key i to:Nat):Int)=0:=(by rw[pX hm.1 hm.2];rfl)
 refine Ae [] 1 hS fun hS=>Au (Ay [(2,AO (UQ key i to AD Ac) [(0,0)] [])] [] 1 hS fun hS=>Ay [(1,Ik hm0)] [] 1 hS fun hS=>Ai hS (BG ?_))
 obtain⟨gs,hS⟩:=hS.nilk 4 22 [.sl (.int .u8)]
 refine Ar (ι:=Nat) hg0 hS (fun k=>(to-(i+k),[],[(0,Ao (A0 key k) (i+k)),(1,.sl 22 [.sl (.int .u8)] (FJ key k))],(k≤to-i)∧True)) [0,1,4,5] [] 2 0 [(0,0),(1,1)] ⟨Ac,trivial⟩ ?_
 rintro k ac gs ws ⟨hk2,_⟩ hS
 refine Au (Ae [] 2 hS fun hS=>AB (((i+k:Nat):Int)<(to:Int)) hS (fun h1=> ?_) (fun h1=> ?_))
 ·refine B5 (Br ?_)
  have hnl:=Hm hk k
  exact Av [(2,AO (HC (A0 key k) (i+k) AD Ac) [(0,0)] []),(4,Ge ((FJ key k).length) 1 24 (by(simp only[FT,List.length_cons,List.length_nil];omega)))] [4] 3 hS fun hS=>BV (Am hg0 hS (k+1) [(0,0),(1,2)] ⟨Ac,trivial⟩ (show to-(i+(k+1))<to-(i+k)from by omega))
 ·have hT:=hS
  obtain rfl:(to-i)=k:=Eq.symm Ac
  have hS:=hT
  refine MY (Dn [4] 2 hS fun hS=> ?_)
  have hS:=hS.rv [(4,.sk 1),(5,vi 0)] [(0,some (Ao (A0 key (to-i)) (i+(to-i)))),(1,some (.sl 22 [.sl (.int .u8)] (FJ key (to-i))))]
  rw[show i+(to-i)=to by omega]at hS
  have hS:=hS.sp
  exact D6 (Ci hS)
def sG:Con:=Cq [.cp 0 0,vi (to:Int)] [(0,Ao key i)] (.tu (chain [lb (J6 (A0 key (to-i))),vi 0]))
theorem xN (hk:key.length=32) (hi:i≤900000000000) (hm:i≤to∧to≤i+40):ConOk Tryz.prog 105 (sG key i to):=by
 refine cy 1 Tryz.func105 rfl Tryz.ntmps105 fun hg0 hS=> ?_
 have hm0:((Fl key i to:Nat):Int)=0:=(by rw[pX hm.1 hm.2];rfl)
 refine Ae [] 1 hS fun hS=>Au (Ay [(2,AO (UQ key i to AD Ac) [(0,0)] [])] [] 1 hS fun hS=>Ay [(1,Ik hm0)] [] 1 hS fun hS=>Ai hS (B5 (Ay [(1,AO (Jj key i AD) [(0,0)] [(1,1)])] [] 2 hS fun hS=>Ay [(2,AO (QV key i to AD Ac Ac) [(0,1)] [(1,2)])] [] 3 hS fun hS=>Au ?_)))
 have hnl:=Hm hk (to-i)
 exact Av [(1,AO (HC (A0 key (to-i)) to AD Ac) [(0,1)] [])] [] 3 hS fun hS=>D6 (Ci hS)
def bU:Con:=Cq [.cp 0 0,vi (to:Int)] [(0,Ao key i)] (.tu (chain [.v (.slice none 0 0),vi ((Fl key i to:Nat):Int)]))
theorem p7 (hk:key.length=32) (hi:i≤900000000000) (hm:¬((Fl key i to:Nat):Int)=0):ConOk Tryz.prog 105 (bU key i to):=by
 refine cy 1 Tryz.func105 rfl Tryz.ntmps105 fun hg0 hS=> ?_
 have hm:¬((Fl key i to:Nat):Int)=0:=hm
 exact Ae [] 1 hS fun hS=>Au (Ay [(2,AO (UQ key i to AD Ac) [(0,0)] [])] [] 1 hS fun hS=>Ay [(1,Rnt hm)] [] 1 hS fun hS=>AQ hS (Ae [] 1 hS fun hS=>AU (Ah (Ci hS))))
end
end
end Go.Sx.Tryz
namespace Go.Sx.Tryz
open Go.Mi Go.RowKit Go.Sx Go.Proofs
noncomputable section
def EA:O:= .ob 44 (chain [vi 0])
def OE:Con:=⟨[.cp 0 0],[(0,EA)],.tu (chain []),[(0,EA)]⟩
theorem PH:Rj Tryz.prog 88 .returning .returning (OE):=by
 refine UL rfl (nb:=1) (t0:=4) (t1:=1) Tryz.func88 rfl rfl Tryz.ntmps88 rfl rfl rfl rfl rfl rfl fun g0 w0 ac gs ws hg0 hS=> ?_
 have hS:=hS.sp
 exact Ay [(1,U6 .nn [] trivial)] [] 1 hS fun hS=>Ai hS (cnb (fiN hS))
def UV (n:Nat):Con:=⟨[.cp 0 0],[(0,EA)],.tu (chain []),[(0,.ob 44 (chain [vi (n:Int)]))]⟩
theorem VX (n:Nat) (hn:0<n):Rj Tryz.prog 88 (pnd (.iface 44 (.int .i64 (n:Int)))) (rcd (.iface 44 (.int .i64 (n:Int)))) (UV n):=by
 refine UL rfl (nb:=1) (t0:=4) (t1:=1) Tryz.func88 rfl rfl Tryz.ntmps88 rfl rfl rfl rfl rfl rfl fun g0 w0 ac gs ws hg0 hS=> ?_
 have hS:=hS.sp
 have hn0:¬(n:Int)=0:=Ac
 exact Ae [] 1 hS fun hS=>AQ hS (Ay [(1,U6 .ta [] trivial)] [] 1 hS fun hS=>Au (Ay [(4,Ez hn0)] [] 1 hS fun hS=>Ai hS (B5 (Dn [] 1 hS fun hS=>fiN hS))))
end
end Go.Sx.Tryz
namespace Go.Sx.Tryz
open Go.Mi Go.RowKit Go.Sx Go.Proofs
noncomputable section
def AdL:O:= .ob 115 (chain [.v (.slice none 0 0),vi 0,vi 0,vi 0,.v (.slice none 0 0),.v (.slice none 0 0)])
def Zj (x0 x1:List Int):O:= .ob 115 (chain [lb x0,vi 0,vi 0,vi 0,.v (.slice none 0 0),lb x1])
section
variable (xs:List Int)
def N8:Bool:=if FN xs=true then(if(2147483648:Int)<((Ad xs).1)then false else true)else false
def Ea:Bool:=AJ (N8 xs)
theorem N9:Ea xs=N8 xs:=Af _
def AcN:Con:=⟨[.cp 0 0],[(0,HD xs)],vi (((((Ad xs).1).toNat):Nat):Int),[(0,HD ((Ad xs).2))]⟩
theorem Tq (h:xs.length≤100000000000000) (hk:Ea xs=true):ConOk Tryz.prog 92 (AcN xs):=by
 refine cy 1 Tryz.func92 rfl Tryz.ntmps92 fun hg0 hS=>Ae [] 1 hS fun hS=>Au ?_
 by_cases h1:FN xs=true
 ·refine Av [(1,AO (HX xs AD h1) [(0,0)] [])] [] 1 hS fun hS=>Ej (Ae [] 1 hS fun hS=>AB ((2147483648:Int)<((Ad xs).1)) hS (fun h2=> ?_) (fun h2=> ?_))
  ·have hK:Ea xs=false:=(N9 xs).trans ((if_pos h1).trans (if_pos h2))
   rw[hK]at hk
   cases hk
  ·refine EK ?_
   have hnn:=AW xs
   exact Av [(1,Rn ((((Ad xs).1).toNat:Nat):Int) [IntKind.wrap .i64 ((Ad xs).1)=((((Ad xs).1).toNat:Nat):Int)] ⟨(Ed Ac Ac).trans Ac,trivial⟩)] [] 1 hS fun hS=>D6 (Ci hS)
 ·have hK:Ea xs=false:=(N9 xs).trans (if_neg h1)
  rw[hK]at hk
  cases hk
theorem VC (m:Nat):0<Du xs m:=by
 rw[Ku];unfold Ks
 repeat (first |decide|split)
theorem GW (m:Nat):0<BS xs m:=by
 rw[HT];unfold HR
 repeat (first |decide|exact VC _ _|split)
def T4:Bool:=if Be xs 4000=true then(if Be (((Ad xs).2).drop (((Ad xs).1).toNat)) 4000=true then true else false)else false
def LS:Bool:=AJ (T4 xs)
theorem T5:LS xs=T4 xs:=Af _
def P3:Nat:=if Be xs 4000=true then(BS (((Ad xs).2).drop (((Ad xs).1).toNat)) 4000)else(BS xs 4000)
def T3:Nat:=AJ (P3 xs)
theorem mD:T3 xs=P3 xs:=Af _
def Ae7:Con:=⟨[.cp 0 0,.cp 1 0],[(0,HD xs),(1,AdL)],.tu (chain []),[(0,HD (((Ad (((Ad xs).2).drop (((Ad xs).1).toNat))).2).drop (((Ad (((Ad xs).2).drop (((Ad xs).1).toNat))).1).toNat))),(1,Zj (((Ad xs).2).take (((Ad xs).1).toNat)) (((Ad (((Ad xs).2).drop (((Ad xs).1).toNat))).2).take (((Ad (((Ad xs).2).drop (((Ad xs).1).toNat))).1).toNat)))]⟩
theorem AbL (h:xs.length≤100000000000000) (hk:LS xs=true):ConOk Tryz.prog 101 (Ae7 xs):=by
 refine cy 2 Tryz.func101 rfl Tryz.ntmps101 fun hg0 hS=> ?_
 have hnn:=AW xs
 by_cases h1:Be xs 4000=true
 ·have hnn:=AW xs
  by_cases h2:Be (((Ad xs).2).drop (((Ad xs).1).toNat)) 4000=true
  ·have hnn:=AW xs
   exact Av [(1,AO (Gl xs 4000 AD Ac h1) [(0,0)] []),(3,AO (Gl (((Ad xs).2).drop (((Ad xs).1).toNat)) 4000 AD Ac h2) [(0,0)] [])] [] 2 hS fun hS=>fiN hS
  ·have hnn:=AW xs
   have hK:LS xs=false:=(T5 xs).trans ((if_pos h1).trans (if_neg h2))
   rw[hK]at hk
   cases hk
 ·have hnn:=AW xs
  have hK:LS xs=false:=(T5 xs).trans (if_neg h1)
  rw[hK]at hk
  cases hk
theorem JB:0<T3 xs:=by
 rw[mD];unfold P3
 repeat (first |decide|exact GW _ _|split)
def TQ:Bool:=if LS xs=true then(if E8 (((Ad (((Ad xs).2).drop (((Ad xs).1).toNat))).2).drop (((Ad (((Ad xs).2).drop (((Ad xs).1).toNat))).1).toNat))=true then true else false)else false
def LL:Bool:=AJ (TQ xs)
theorem TR:LL xs=TQ xs:=Af _
def PU:Nat:=if LS xs=true then 2 else(T3 xs)
def TP:Nat:=AJ (PU xs)
theorem lO:TP xs=PU xs:=Af _
def Ae3:Con:=⟨[lb xs,.fn 101 (chain []) (chain [.cp 0 0])],[(0,AdL)],vi 0,[(0,Zj (((Ad xs).2).take (((Ad xs).1).toNat)) (((Ad (((Ad xs).2).drop (((Ad xs).1).toNat))).2).take (((Ad (((Ad xs).2).drop (((Ad xs).1).toNat))).1).toNat)))]⟩
theorem AbA (h:xs.length≤100000000000000) (hk:LL xs=true):ConOk Tryz.prog 59 (Ae3 xs):=by
 refine Fj rfl (nb:=1) Tryz.func59 rfl rfl Tryz.ntmps59 rfl rfl rfl fun g0 w0 ac gs ws hg0 hS=> ?_
 have A6:xs.length≤9223372036854775807:=hS.len 0 rfl
 have hS:=hS.sp
 refine Ae [] 2 hS fun hS=>Au ?_
 have hS:=hS.rv [(0,lb xs),(1,.fn 101 (chain []) (chain [.cp 0 0])),(4,.cp 1 0)] [(0,some (AdL)),(1,some (EA))]
 refine JL rfl hS (cs:=[.cp 1 0]) rfl rfl rfl fun D vds ac hD hcv hB hS=> ?_
 have hS:=hS.sp
 refine Ab (Ay [(1,AO (L6 xs AD) [] [(0,2)])] [] 3 hS fun hS=>Au (Ae [] 3 hS fun hS=>AQ hS ?_))
 have hz:=JB xs
 by_cases h1:LS xs=true
 ·have hz:=JB xs
  refine Av [(2,AO (AbL xs AD h1) [(0,2),(1,0)] [])] [] 3 hS fun hS=>Ej ?_
  by_cases h2:E8 (((Ad (((Ad xs).2).drop (((Ad xs).1).toNat))).2).drop (((Ad (((Ad xs).2).drop (((Ad xs).1).toNat))).1).toNat))=true
  ·refine Av [(1,AO (Og (((Ad (((Ad xs).2).drop (((Ad xs).1).toNat))).2).drop (((Ad (((Ad xs).2).drop (((Ad xs).1).toNat))).1).toNat)) h2) [(0,2)] [])] [] 3 hS fun hS=>Ab (Ae [] 3 hS fun hS=>AU ?_)
   have hS:=hS.rv [(4,.cp 1 0)] [(0,some (Zj (((Ad xs).2).take (((Ad xs).1).toNat)) (((Ad (((Ad xs).2).drop (((Ad xs).1).toNat))).2).take (((Ad (((Ad xs).2).drop (((Ad xs).1).toNat))).1).toNat)))),(1,some (EA))]
   exact Qx (.inr rfl) hS hD (Gt ⟨88,(OE),[(0,1)],[]⟩ [(1,some (EA)),(0,some (Zj (((Ad xs).2).take (((Ad xs).1).toNat)) (((Ad (((Ad xs).2).drop (((Ad xs).1).toNat))).2).take (((Ad (((Ad xs).2).drop (((Ad xs).1).toNat))).1).toNat)))),(1,some (EA))] hB hS hcv (show FrameMode.returning≠ .run from nofun) rfl rfl rfl (PH) rfl ⟨rfl,trivial⟩ rfl (ds:=[vi 0]) (by kernel_rfl) rfl ⟨rfl,trivial⟩)
  ·have hK:LL xs=false:=(TR xs).trans ((if_pos h1).trans (if_neg h2))
   rw[hK]at hk
   cases hk
 ·have hz:=JB xs
  have hK:LL xs=false:=(TR xs).trans (if_neg h1)
  rw[hK]at hk
  cases hk
end
end
end Go.Sx.Tryz
namespace Go.Sx.Tryz
open Go.Mi Go.RowKit Go.Sx Go.Proofs
noncomputable section
def tF (x0:List Int) (x1:Nat) (x2 x3:Nat) (x4 x5:List Int):O:= .ob 115 (chain [lb x0,vi ((x1:Nat):Int),vi ((x2:Nat):Int),vi ((x3:Nat):Int),lb x4,lb x5])
section
variable (xs:List Int)
theorem Dr:(Ad (Ad xs).2).2.length≤xs.length:=Nat.le_trans (AW _).2 (AW _).2
theorem CS:(Ad (Ad (Ad xs).2).2).2.length≤xs.length:=Nat.le_trans (AW _).2 (Dr _)
def P2 (ba bb:List Int):Bool:=if Ea xs=true then(if Ea ((Ad xs).2)=true then(if Ea ((Ad ((Ad xs).2)).2)=true then(if Be ((Ad ((Ad ((Ad xs).2)).2)).2) 4000=true then true else false)else false)else false)else false
def Im (ba bb:List Int):Bool:=AJ (P2 xs ba bb)
theorem KA (ba bb:List Int):Im xs ba bb=P2 xs ba bb:=Af _
def P1 (ba bb:List Int):Nat:=if Ea xs=true then(if Ea ((Ad xs).2)=true then(if Ea ((Ad ((Ad xs).2)).2)=true then(BS ((Ad ((Ad ((Ad xs).2)).2)).2) 4000)else 2)else 2)else 2
def T1 (ba bb:List Int):Nat:=AJ (P1 xs ba bb)
theorem mC (ba bb:List Int):T1 xs ba bb=P1 xs ba bb:=Af _
def Z4 (ba bb:List Int):(List Int)×Nat×Nat×Nat×(List Int):=((((Ad ((Ad ((Ad ((Ad xs).2)).2)).2)).2).drop (((Ad ((Ad ((Ad ((Ad xs).2)).2)).2)).1).toNat)),(((Ad xs).1).toNat),(((Ad ((Ad xs).2)).1).toNat),(((Ad ((Ad ((Ad xs).2)).2)).1).toNat),(((Ad ((Ad ((Ad ((Ad xs).2)).2)).2)).2).take (((Ad ((Ad ((Ad ((Ad xs).2)).2)).2)).1).toNat)))
def C5 (ba bb:List Int):(List Int)×Nat×Nat×Nat×(List Int):=AJ (Z4 xs ba bb)
theorem Wc (ba bb:List Int):C5 xs ba bb=Z4 xs ba bb:=Af _
end
theorem T2 (xs ba bb:List Int):(C5 xs ba bb).1.length≤xs.length:=by
 have h3:=CS xs
 have h4:=(AW (Ad (Ad (Ad xs).2).2).2).2
 rw[Wc]
 show(List.drop _ _).length≤_
 rw[List.length_drop]
 omega
section
variable (xs ba bb:List Int)
def Ae6 (z_:(List Int)×Nat×Nat×Nat×(List Int):=C5 xs ba bb):Con:=⟨[.cp 0 0,.cp 1 0],[(0,HD xs),(1,Zj ba bb)],.tu (chain []),[(0,HD (z_.1)),(1,tF ba z_.2.1 z_.2.2.1 z_.2.2.2.1 (z_.2.2.2.2) bb)]⟩
theorem AbJ (h:xs.length≤100000000000000) (hk:Im xs ba bb=true):ConOk Tryz.prog 103 (Ae6 xs ba bb):=by
 refine cy 2 Tryz.func103 rfl Tryz.ntmps103 fun hg0 hS=> ?_
 have hnn:=AW xs
 have hn2:=Dr xs
 have hn3:=CS xs
 by_cases h1:Ea xs=true
 ·have hnn:=AW xs
  have hn2:=Dr xs
  have hn3:=CS xs
  by_cases h2:Ea ((Ad xs).2)=true
  ·have hnn:=AW xs
   have hn2:=Dr xs
   have hn3:=CS xs
   by_cases h3:Ea ((Ad ((Ad xs).2)).2)=true
   ·have hnn:=AW xs
    have hn2:=Dr xs
    have hn3:=CS xs
    by_cases h4:Be ((Ad ((Ad ((Ad xs).2)).2)).2) 4000=true
    ·have hnn:=AW xs
     have hn2:=Dr xs
     have hn3:=CS xs
     exact Av [(1,AO (Tq xs AD h1) [(0,0)] []),(3,AO (Tq ((Ad xs).2) AD h2) [(0,0)] []),(5,AO (Tq ((Ad ((Ad xs).2)).2) AD h3) [(0,0)] []),(7,AO (Gl ((Ad ((Ad ((Ad xs).2)).2)).2) 4000 AD Ac h4) [(0,0)] [])] [] 2 hS fun hS=>fqN (Wc ..) hS
    ·have hnn:=AW xs
     have hn2:=Dr xs
     have hn3:=CS xs
     have hK:Im xs ba bb=false:=(KA xs ba bb).trans ((if_pos h1).trans ((if_pos h2).trans ((if_pos h3).trans (if_neg h4))))
     rw[hK]at hk
     cases hk
   ·have hnn:=AW xs
    have hn2:=Dr xs
    have hn3:=CS xs
    have hK:Im xs ba bb=false:=(KA xs ba bb).trans ((if_pos h1).trans ((if_pos h2).trans (if_neg h3)))
    rw[hK]at hk
    cases hk
  ·have hnn:=AW xs
   have hn2:=Dr xs
   have hn3:=CS xs
   have hK:Im xs ba bb=false:=(KA xs ba bb).trans ((if_pos h1).trans (if_neg h2))
   rw[hK]at hk
   cases hk
 ·have hnn:=AW xs
  have hn2:=Dr xs
  have hn3:=CS xs
  have hK:Im xs ba bb=false:=(KA xs ba bb).trans (if_neg h1)
  rw[hK]at hk
  cases hk
end
theorem JA (xs ba bb:List Int):0<T1 xs ba bb:=by
 rw[mC];unfold P1
 repeat (first |decide|exact GW _ _|split)
section
variable (xs ba bb:List Int)
def PR:Bool:=if Im xs ba bb=true then(if E8 ((C5 xs ba bb).1)=true then true else false)else false
def J2:Bool:=AJ (PR xs ba bb)
theorem PT:J2 xs ba bb=PR xs ba bb:=Af _
def PP:Nat:=if Im xs ba bb=true then 2 else(T1 xs ba bb)
def TO:Nat:=AJ (PP xs ba bb)
theorem lN:TO xs ba bb=PP xs ba bb:=Af _
def ZS:Nat×Nat×Nat×(List Int):=(((C5 xs ba bb).2.1),((C5 xs ba bb).2.2.1),((C5 xs ba bb).2.2.2.1),(C5 xs ba bb).2.2.2.2)
def E4:Nat×Nat×Nat×(List Int):=AJ (ZS xs ba bb)
theorem ZT:E4 xs ba bb=ZS xs ba bb:=Af _
def Ae2 (z_:Nat×Nat×Nat×(List Int):=E4 xs ba bb):Con:=⟨[lb xs,.fn 103 (chain []) (chain [.cp 0 0])],[(0,Zj ba bb)],vi 0,[(0,tF ba z_.1 z_.2.1 z_.2.2.1 (z_.2.2.2) bb)]⟩
theorem Aby (h:xs.length≤100000000000000) (hk:J2 xs ba bb=true):ConOk Tryz.prog 59 (Ae2 xs ba bb):=by
 refine Fj rfl (nb:=1) Tryz.func59 rfl rfl Tryz.ntmps59 rfl rfl rfl fun g0 w0 ac gs ws hg0 hS=> ?_
 have A6:xs.length≤9223372036854775807:=hS.len 0 rfl
 have hS:=hS.sp
 refine Ae [] 2 hS fun hS=>Au ?_
 have hS:=hS.rv [(0,lb xs),(1,.fn 103 (chain []) (chain [.cp 0 0])),(4,.cp 1 0)] [(0,some (Zj ba bb)),(1,some (EA))]
 refine JL rfl hS (cs:=[.cp 1 0]) rfl rfl rfl fun D vds ac hD hcv hB hS=> ?_
 have hS:=hS.sp
 refine Ab (Ay [(1,AO (L6 xs AD) [] [(0,2)])] [] 3 hS fun hS=>Au (Ae [] 3 hS fun hS=>AQ hS ?_))
 have hz:=JA xs ba bb
 by_cases h1:Im xs ba bb=true
 ·have hz:=JA xs ba bb
  refine Av [(2,AO (AbJ xs ba bb AD h1) [(0,2),(1,0)] [])] [] 3 hS fun hS=>Ej ?_
  have hpl:=T2 xs ba bb
  by_cases h2:E8 ((C5 xs ba bb).1)=true
  ·have hpl:=T2 xs ba bb
   refine Av [(1,AO (Og ((C5 xs ba bb).1) h2) [(0,2)] [])] [] 3 hS fun hS=>Ab (Ae [] 3 hS fun hS=>AU ?_)
   have hM:E4 xs ba bb=(((C5 xs ba bb).2.1),((C5 xs ba bb).2.2.1),((C5 xs ba bb).2.2.2.1),(C5 xs ba bb).2.2.2.2):=ZT xs ba bb
   have hS:=hS.rv [(4,.cp 1 0)] [(0,some (tF ba ((C5 xs ba bb).2.1) ((C5 xs ba bb).2.2.1) ((C5 xs ba bb).2.2.2.1) ((C5 xs ba bb).2.2.2.2) bb)),(1,some (EA))]
   exact Qx (.inr rfl) hS hD (Gt ⟨88,(OE),[(0,1)],[]⟩ [(1,some (EA)),(0,some (tF ba ((C5 xs ba bb).2.1) ((C5 xs ba bb).2.2.1) ((C5 xs ba bb).2.2.2.1) ((C5 xs ba bb).2.2.2.2) bb)),(1,some (EA))] hB hS hcv (show FrameMode.returning≠ .run from nofun) rfl rfl rfl (PH) rfl ⟨rfl,trivial⟩ rfl (ds:=[vi 0]) (by kernel_rfl) rfl (by show DK _ [(0,tF ba ((E4 xs ba bb).1) ((E4 xs ba bb).2.1) ((E4 xs ba bb).2.2.1) ((E4 xs ba bb).2.2.2) bb)] true;first |exact⟨rfl,trivial⟩|(rw[hM];first |(simp only[];exact⟨rfl,trivial⟩)|exact⟨rfl,trivial⟩)))
  ·have hpl:=T2 xs ba bb
   have hK:J2 xs ba bb=false:=(PT xs ba bb).trans ((if_pos h1).trans (if_neg h2))
   rw[hK]at hk
   cases hk
 ·have hz:=JA xs ba bb
  have hK:J2 xs ba bb=false:=(PT xs ba bb).trans (if_neg h1)
  rw[hK]at hk
  cases hk
end
end
end Go.Sx.Tryz
namespace Go.Sx.Tryz
open Go.Mi Go.RowKit Go.Sx Go.Proofs
noncomputable section
def zJ:Con:=⟨[vi 0],[],.tu (chain []),[]⟩
theorem L8:ConOk Tryz.prog 71 (zJ):=by
 exact cy 0 Tryz.func71 rfl Tryz.ntmps71 fun hg0 hS=>Ae [] 0 hS fun hS=>Ai hS (cnb (fiN hS))
theorem Nf (xs:List Int):0<TP xs:=by
 rw[lO];unfold PU
 repeat (first |decide|exact JB _|split)
theorem Nc (xs ba bb:List Int):0<TO xs ba bb:=by
 rw[lN];unfold PP
 repeat (first |decide|exact JA _ _ _|split)
section
variable (xs:List Int)
def Hj:Bool:=if LL xs=true then(if J2 (((Ad xs).2).take (((Ad xs).1).toNat)) (((Ad xs).2).take (((Ad xs).1).toNat)) (((Ad (((Ad xs).2).drop (((Ad xs).1).toNat))).2).take (((Ad (((Ad xs).2).drop (((Ad xs).1).toNat))).1).toNat))=true then(if(((([]++Aj (((Ad xs).2).take (((Ad xs).1).toNat)).length)++(((Ad xs).2).take (((Ad xs).1).toNat)))++Aj (((Ad (((Ad xs).2).drop (((Ad xs).1).toNat))).2).take (((Ad (((Ad xs).2).drop (((Ad xs).1).toNat))).1).toNat)).length)++(((Ad (((Ad xs).2).drop (((Ad xs).1).toNat))).2).take (((Ad (((Ad xs).2).drop (((Ad xs).1).toNat))).1).toNat)))=xs then true else false)else false)else false
def CB:Bool:=AJ (Hj xs)
theorem Ga:CB xs=Hj xs:=Af _
def We:Nat:=if LL xs=true then(if J2 (((Ad xs).2).take (((Ad xs).1).toNat)) (((Ad xs).2).take (((Ad xs).1).toNat)) (((Ad (((Ad xs).2).drop (((Ad xs).1).toNat))).2).take (((Ad (((Ad xs).2).drop (((Ad xs).1).toNat))).1).toNat))=true then 2 else(TO (((Ad xs).2).take (((Ad xs).1).toNat)) (((Ad xs).2).take (((Ad xs).1).toNat)) (((Ad (((Ad xs).2).drop (((Ad xs).1).toNat))).2).take (((Ad (((Ad xs).2).drop (((Ad xs).1).toNat))).1).toNat))))else(TP xs)
def Yf:Nat:=AJ (We xs)
def LU:(List Int)×Nat×Nat×Nat×(List Int)×(List Int):=((((Ad xs).2).take (((Ad xs).1).toNat)),((E4 (((Ad xs).2).take (((Ad xs).1).toNat)) (((Ad xs).2).take (((Ad xs).1).toNat)) (((Ad (((Ad xs).2).drop (((Ad xs).1).toNat))).2).take (((Ad (((Ad xs).2).drop (((Ad xs).1).toNat))).1).toNat))).1),((E4 (((Ad xs).2).take (((Ad xs).1).toNat)) (((Ad xs).2).take (((Ad xs).1).toNat)) (((Ad (((Ad xs).2).drop (((Ad xs).1).toNat))).2).take (((Ad (((Ad xs).2).drop (((Ad xs).1).toNat))).1).toNat))).2.1),((E4 (((Ad xs).2).take (((Ad xs).1).toNat)) (((Ad xs).2).take (((Ad xs).1).toNat)) (((Ad (((Ad xs).2).drop (((Ad xs).1).toNat))).2).take (((Ad (((Ad xs).2).drop (((Ad xs).1).toNat))).1).toNat))).2.2.1),(E4 (((Ad xs).2).take (((Ad xs).1).toNat)) (((Ad xs).2).take (((Ad xs).1).toNat)) (((Ad (((Ad xs).2).drop (((Ad xs).1).toNat))).2).take (((Ad (((Ad xs).2).drop (((Ad xs).1).toNat))).1).toNat))).2.2.2,(((Ad (((Ad xs).2).drop (((Ad xs).1).toNat))).2).take (((Ad (((Ad xs).2).drop (((Ad xs).1).toNat))).1).toNat)))
def Aa:(List Int)×Nat×Nat×Nat×(List Int)×(List Int):=AJ (LU xs)
theorem LV:Aa xs=LU xs:=Af _
def rK (z_:(List Int)×Nat×Nat×Nat×(List Int)×(List Int):=Aa xs):Con:=⟨[lb xs],[],.ag (chain [lb (z_.1),vi ((z_.2.1:Nat):Int),vi ((z_.2.2.1:Nat):Int),vi ((z_.2.2.2.1:Nat):Int),lb (z_.2.2.2.2.1),lb (z_.2.2.2.2.2)]),[]⟩
theorem Su (h:xs.length≤1000000000) (hk:CB xs=true):ConOk Tryz.prog 68 (rK xs):=by
 refine cy 0 Tryz.func68 rfl Tryz.ntmps68 fun hg0 hS=> ?_
 have A6:xs.length≤9223372036854775807:=hS.len 0 rfl
 refine Ae [] 1 hS fun hS=>Au ?_
 have hz1:=Nf xs
 have hnn:=AW xs
 by_cases h1:LL xs=true
 ·have hz1:=Nf xs
  have hnn:=AW xs
  refine Av [(2,AO (AbA xs AD h1) [(0,0)] []),(3,AR (L8))] [] 1 hS fun hS=>Ej ?_
  have hz2:=Nc (((Ad xs).2).take (((Ad xs).1).toNat)) (((Ad xs).2).take (((Ad xs).1).toNat)) (((Ad (((Ad xs).2).drop (((Ad xs).1).toNat))).2).take (((Ad (((Ad xs).2).drop (((Ad xs).1).toNat))).1).toNat))
  by_cases h2:J2 (((Ad xs).2).take (((Ad xs).1).toNat)) (((Ad xs).2).take (((Ad xs).1).toNat)) (((Ad (((Ad xs).2).drop (((Ad xs).1).toNat))).2).take (((Ad (((Ad xs).2).drop (((Ad xs).1).toNat))).1).toNat))=true
  ·have hz2:=Nc (((Ad xs).2).take (((Ad xs).1).toNat)) (((Ad xs).2).take (((Ad xs).1).toNat)) (((Ad (((Ad xs).2).drop (((Ad xs).1).toNat))).2).take (((Ad (((Ad xs).2).drop (((Ad xs).1).toNat))).1).toNat))
   refine Av [(3,AO (Aby (((Ad xs).2).take (((Ad xs).1).toNat)) (((Ad xs).2).take (((Ad xs).1).toNat)) (((Ad (((Ad xs).2).drop (((Ad xs).1).toNat))).2).take (((Ad (((Ad xs).2).drop (((Ad xs).1).toNat))).1).toNat)) AD h2) [(0,0)] []),(4,AR (L8))] [] 1 hS fun hS=>Ab (Ae [] 2 hS fun hS=>JN ?_)
   have hnn:=AW xs
   have hn2:=AW ((Ad xs).2.drop (Ad xs).1.toNat)
   rw[List.length_drop]at hn2
   have w1:=AH (n:=min (Ad xs).1.toNat (Ad xs).2.length) Ac
   have w2:=AH (n:=min (Ad ((Ad xs).2.drop (Ad xs).1.toNat)).1.toNat (Ad ((Ad xs).2.drop (Ad xs).1.toNat)).2.length) Ac
   refine Av [(3,AO (Kk (((Ad xs).2).take (((Ad xs).1).toNat)) AD) [(0,1)] [(1,2)]),(6,AO (F5 (([]++Aj (((Ad xs).2).take (((Ad xs).1).toNat)).length)++(((Ad xs).2).take (((Ad xs).1).toNat))) (((Ad (((Ad xs).2).drop (((Ad xs).1).toNat))).2).take (((Ad (((Ad xs).2).drop (((Ad xs).1).toNat))).1).toNat)) AD AD) [(0,1),(1,2)] [(2,3)]),(7,AO (G4 (((([]++Aj (((Ad xs).2).take (((Ad xs).1).toNat)).length)++(((Ad xs).2).take (((Ad xs).1).toNat)))++Aj (((Ad (((Ad xs).2).drop (((Ad xs).1).toNat))).2).take (((Ad (((Ad xs).2).drop (((Ad xs).1).toNat))).1).toNat)).length)++(((Ad (((Ad xs).2).drop (((Ad xs).1).toNat))).2).take (((Ad (((Ad xs).2).drop (((Ad xs).1).toNat))).1).toNat))) AD) [(0,1),(1,3)] []),(9,AR (Ei (((([]++Aj (((Ad xs).2).take (((Ad xs).1).toNat)).length)++(((Ad xs).2).take (((Ad xs).1).toNat)))++Aj (((Ad (((Ad xs).2).drop (((Ad xs).1).toNat))).2).take (((Ad (((Ad xs).2).drop (((Ad xs).1).toNat))).1).toNat)).length)++(((Ad (((Ad xs).2).drop (((Ad xs).1).toNat))).2).take (((Ad (((Ad xs).2).drop (((Ad xs).1).toNat))).1).toNat))) xs))] [] 4 hS fun hS=>Ab (Is ((((([]++Aj (((Ad xs).2).take (((Ad xs).1).toNat)).length)++(((Ad xs).2).take (((Ad xs).1).toNat)))++Aj (((Ad (((Ad xs).2).drop (((Ad xs).1).toNat))).2).take (((Ad (((Ad xs).2).drop (((Ad xs).1).toNat))).1).toNat)).length)++(((Ad (((Ad xs).2).drop (((Ad xs).1).toNat))).2).take (((Ad (((Ad xs).2).drop (((Ad xs).1).toNat))).1).toNat)))=xs) hS (fun h3=> ?_) (fun h3=> ?_))
   ·have hK:CB xs=false:=(Ga xs).trans ((if_pos h1).trans ((if_pos h2).trans (if_neg h3)))
    rw[hK]at hk
    cases hk
   ·exact B5 (Ae [] 4 hS fun hS=>AU (Bh (LV ..) hS))
  ·have hz2:=Nc (((Ad xs).2).take (((Ad xs).1).toNat)) (((Ad xs).2).take (((Ad xs).1).toNat)) (((Ad (((Ad xs).2).drop (((Ad xs).1).toNat))).2).take (((Ad (((Ad xs).2).drop (((Ad xs).1).toNat))).1).toNat))
   have hK:CB xs=false:=(Ga xs).trans ((if_pos h1).trans (if_neg h2))
   rw[hK]at hk
   cases hk
 ·have hz1:=Nf xs
  have hnn:=AW xs
  have hK:CB xs=false:=(Ga xs).trans (if_neg h1)
  rw[hK]at hk
  cases hk
end
end
end Go.Sx.Tryz
namespace Go.Sx
open Go.Mi Go.RowKit
abbrev KR:=Int×Int×List (List Int)
abbrev kz:KR:=rz [.int .i64,.int .i64,.sl (.sl (.int .u8))]
def C4 (l:List KR) (i:Int):Int:=if l.findIdx (fun r=>r.1==i)<l.length then((l.findIdx fun r=>r.1==i:Nat):Int)else -1
theorem lY {l:List KR} {i:Int} (h:∀j,j<l.length→¬(l.getD j kz).1=i):C4 l i= -1:=by
 unfold C4
 rw[if_neg]
 intro hlt
 have :=List.findIdx_getElem (w:=hlt) (p:=fun r:KR=>r.1==i)
 refine h _ hlt ?_
 rw[List.getD_eq_getElem?_getD,List.getElem?_eq_getElem hlt]
 simpa using this
theorem lZ {l:List KR} {i:Int} {k:Nat} (hk:k<l.length) (h:∀j,j<k→¬(l.getD j kz).1=i) (h2:(l.getD k kz).1=i):C4 l i=(k:Nat):=by
 have e:l.findIdx (fun r=>r.1==i)=k:=by
  rw[List.findIdx_eq hk]
  constructor
  ·rw[List.getD_eq_getElem?_getD,List.getElem?_eq_getElem hk]at h2
   simpa using h2
  ·intro j hj
   have :=h j hj
   rw[List.getD_eq_getElem?_getD,List.getElem?_eq_getElem (by omega)]at this
   simpa using this
 unfold C4
 rw[e,if_pos hk]
theorem Yb {l:List KR} {i:Int} (h:¬C4 l i<0):0≤C4 l i∧C4 l i<(l.length:Nat):=by
 unfold C4 at h⊢
 split
 ·omega
 ·rename_i h1;rw[if_neg h1]at h;exact absurd (by decide) h
theorem Ng {l:List KR} (i:Int): -1≤C4 l i∧C4 l i<(l.length:Nat):=by
 unfold C4
 split<;>omega
def N2 (l:List KR):Prop:=l.length≤1000∧∀j,j<l.length→(0≤(l.getD j kz).1∧(l.getD j kz).1≤1000000000000)∧(0≤(l.getD j kz).2.1∧(l.getD j kz).2.1≤1000000000000)∧(l.getD j kz).2.2.length≤100000∧∀k∈(l.getD j kz).2.2,k.length=32
end Go.Sx
namespace Go.Sx.Tryz
open Go.Mi Go.RowKit Go.Sx Go.Proofs
noncomputable section
section
variable (x0:List Int) (x1 x2:Bool) (x3:Nat) (x4 x5:Nat) (x6:List (List Int)) (x7 x8:Nat)
def HE (x9:List (Int×Int×(List (List Int)))):O:= .ob 80 (chain [lb x0,.v (.bool x1),.v (.bool x2),.cp x3 0,.cp x4 0,.v (.pointer none),vi ((x5:Nat):Int),.ls false [.sl (.int .u8)] x6,vi ((x7:Nat):Int),vi ((x8:Nat):Int),.ls false [.int .i64,.int .i64,.sl (.sl (.int .u8))] x9])
def XD (x9:Nat):O:= .ob 80 (chain [lb x0,.v (.bool x1),.v (.bool x2),.cp x3 0,.cp x4 0,.v (.pointer none),vi ((x5:Nat):Int),.ls false [.sl (.int .u8)] x6,vi ((x7:Nat):Int),vi ((x8:Nat):Int),.sk x9])
end
def MR (x0:Nat):O:= .ob 3 (chain [vi ((x0:Nat):Int)])
def qQ:Con:=⟨[.im (chain [.top,.top,.top,.im (chain []) 0,.top,.top,.top,.top,.top,.top,.top]) 0],[],.v (.bool false),[]⟩
theorem BN:ConOk Tryz.prog 36 (qQ):=by
 exact cy 0 Tryz.func36 rfl Tryz.ntmps36 fun hg0 hS=>Ae [] 0 hS fun hS=>Ae [] 0 hS fun hS=>AU (Ci hS)
section
variable (low:Nat) (mx:List (List Int))
def r6:Con:=⟨[.im (chain [.top,.top,.top,.im (chain []) 0,.top,.top,vi (low:Int),.ls false [.sl (.int .u8)] mx,.top,.top,.top]) 0],[],vi ((low+mx.length-1:Nat):Int),[]⟩
theorem Dv (hm1:1≤mx.length∧mx.length≤100000) (hlow:low≤100000000000):ConOk Tryz.prog 18 (r6 low mx):=by
 exact cy 0 Tryz.func18 rfl Tryz.ntmps18 fun hg0 hS=>Ae [] 0 hS fun hS=>Au (Ay [(1,Lc (BN) [] [.im (chain [.top,.top,.top,.im (chain []) 0,.top,.top,.top,.top,.top,.top,.top]) 0])] [] 0 hS fun hS=>Ai hS (B5 (Ay [(9,DI low mx.length (low+mx.length)),(10,GD (low+mx.length) 1 ((low+mx.length)-1))] [] 0 hS fun hS=>AU (Ci hS))))
end
def AV (fi:Bool) (low len told:Nat):Nat:=if fi=true then low+len-1 else min (low+len-1) told
section
variable (fi:Bool) (low:Nat) (mx:List (List Int)) (told:Nat)
def fU:Con:=⟨[.im (chain [.top,.v (.bool fi),.top,.im (chain []) 0,.top,.top,vi (low:Int),.ls false [.sl (.int .u8)] mx,.top,vi (told:Int),.top]) 0],[],vi ((AV fi low mx.length told:Nat):Int),[]⟩
theorem KF (hm1:1≤mx.length∧mx.length≤100000) (hlow:low≤100000000000):ConOk Tryz.prog 46 (fU fi low mx told):=by
 refine cy 0 Tryz.func46 rfl Tryz.ntmps46 fun hg0 hS=>Ae [] 0 hS fun hS=>Au (Ae [] 0 hS fun hS=>WG fi hS (fun h1=> ?_) (fun h1=> ?_))
 ·exact Ay [(1,Lc (Dv low mx MW Ac) [] [.im (chain [.top,.top,.top,.im (chain []) 0,.top,.top,vi (low:Int),.ls false [.sl (.int .u8)] mx,.top,.top,.top]) 0])] [] 0 hS fun hS=>AU (Ah (CW rfl (.inr rfl) hS [vi ((low+mx.length-1:Nat):Int)] [] (by show weak _ (vi ((AV fi low mx.length told:Nat):Int))=vi ((AV fi low mx.length told:Nat):Int);unfold AV;first |(rw[if_pos BC];rfl)|(rw[if_neg (NV BC)];rfl)) trivial))
 ·exact B5 (Ay [(1,Lc (Dv low mx MW Ac) [] [.im (chain [.top,.top,.top,.im (chain []) 0,.top,.top,vi (low:Int),.ls false [.sl (.int .u8)] mx,.top,.top,.top]) 0]),(6,Rmn (low+mx.length-1) told)] [] 0 hS fun hS=>AU (CW rfl (.inr rfl) hS [vi ((min (low+mx.length-1) told:Nat):Int)] [] (by show weak _ (vi ((AV fi low mx.length told:Nat):Int))=vi ((AV fi low mx.length told:Nat):Int);unfold AV;first |(rw[if_pos BC];rfl)|(rw[if_neg (NV BC)];rfl)) trivial))
end
section
variable (id:List Int) (fi:Bool) (ok:List Int) (oi:Nat) (ik:List Int) (ii low:Nat) (mx:List (List Int)) (last told:Nat) (kl:List KR) (k:List Int) (n:Nat)
def AcQ:Con:=Cq [.cp 0 0,lb k,vi (n:Int)] [(0,HE id fi false 1 2 low mx last told kl),(1,Ao ok oi),(2,Ao ik ii)] (lb (AI k (mx.getD (n-low) (rz [.sl (.int .u8)])) [109,101,115,115,97,103,101]))
theorem uG (hm1:1≤mx.length∧mx.length≤100000) (hm2:∀j,(mx.getD j (rz [.sl (.int .u8)])).length≤32) (hlow:low≤100000000000) (hk:k.length=32) (hn:low≤n∧n<low+mx.length):ConOk Tryz.prog 51 (AcQ id fi ok oi ik ii low mx last told kl k n):=by
 refine cy 3 Tryz.func51 rfl Tryz.ntmps51 fun hg0 hS=> ?_
 have Bf:k.length≤9223372036854775807:=hS.len 1 rfl
 refine Ae [] 3 hS fun hS=>Au ?_
 have hmk:=hm2 (n-low)
 exact Av [(10,GD n low (n-low)),(11,AG (n-low) mx.length),(13,Row),(14,OM (0<[109,101,115,115,97,103,101].length) (by decide)),(15,AR (EJ k (mx.getD (n-low) (rz [.sl (.int .u8)])) [109,101,115,115,97,103,101] AD AD AD))] [] 4 hS fun hS=>D6 (Ci hS)
def yQ:Con:=Cq [.cp 0 0,lb k,vi (n:Int)] [(0,XD id fi false 1 2 low mx last told 3),(1,Ao ok oi),(2,Ao ik ii),(3,.sl 86 [.int .i64,.int .i64,.sl (.sl (.int .u8))] kl)] (lb (AI k (mx.getD (n-low) (rz [.sl (.int .u8)])) [109,101,115,115,97,103,101]))
theorem VD (hm1:1≤mx.length∧mx.length≤100000) (hm2:∀j,(mx.getD j (rz [.sl (.int .u8)])).length≤32) (hlow:low≤100000000000) (hk:k.length=32) (hn:low≤n∧n<low+mx.length):ConOk Tryz.prog 51 (yQ id fi ok oi ik ii low mx last told kl k n):=by
 refine cy 4 Tryz.func51 rfl Tryz.ntmps51 fun hg0 hS=> ?_
 have Bf:k.length≤9223372036854775807:=hS.len 1 rfl
 have FP:kl.length≤9223372036854775807:=hS.lens 3 rfl
 refine Ae [] 4 hS fun hS=>Au ?_
 have hmk:=hm2 (n-low)
 exact Av [(10,GD n low (n-low)),(11,AG (n-low) mx.length),(13,Row),(14,OM (0<[109,101,115,115,97,103,101].length) (by decide)),(15,AR (EJ k (mx.getD (n-low) (rz [.sl (.int .u8)])) [109,101,115,115,97,103,101] AD AD AD))] [] 5 hS fun hS=>D6 (Ci hS)
end
section
variable (a b:Int) (c:List (List Int)) (i:Nat)
def rJ:Con:=Cq [.ag (chain [vi a,vi b,.ls false [.sl (.int .u8)] c]),.cp 0 0] [(0,MR i)] (.v (.bool (decide (a=(i:Int)))))
theorem dS:ConOk Tryz.prog 131 (rJ a b c i):=by
 exact cy 1 Tryz.func131 rfl Tryz.ntmps131 fun hg0 hS=>Ae [] 2 hS fun hS=>Ae [] 2 hS fun hS=>AU (Ci hS)
end
section
variable (kl:List KR) (i:Nat)
def Adg:Con:=Cq [.sk 0,.fn 131 (chain []) (chain [.cp 1 0])] [(0,.sl 86 [.int .i64,.int .i64,.sl (.sl (.int .u8))] kl),(1,MR i)] (vi (C4 kl (i:Int)))
theorem aJ:ConOk Tryz.prog 130 (Adg kl i):=by
 refine cy 2 Tryz.func130 rfl Tryz.ntmps130 fun hg0 hS=> ?_
 have nN:kl.length≤9223372036854775807:=hS.lens 0 rfl
 refine Ae [] 2 hS fun hS=>Au (Ae [] 2 hS fun hS=>Br (Ar (ι:=Nat) hg0 hS (fun x=>(kl.length-x,[(8,vi ((x:Nat):Int))],[],(x≤kl.length)∧(∀j,j<x→¬(kl.getD j kz).1=(i:Int))∧True)) [0,1,7] [0,1] 2 0 [(0,0),(1,1)] ⟨Ac,(fun j h=>absurd h (Nat.not_lt_zero j)),trivial⟩ ?_))
 rintro x ac gs ws ⟨hx,pm,_⟩ hS
 refine Ae [] 2 hS fun hS=>Au (AB ((x:Int)<((kl.length:Nat):Int)) hS (fun h1=> ?_) (fun h1=> ?_))
 ·refine BG (Ae [] 2 hS fun hS=>Ay [(3,AG x kl.length),(5,AO (dS ((kl.getD x (rz [.int .i64,.int .i64,.sl (.sl (.int .u8))])).1) (((kl.getD x (rz [.int .i64,.int .i64,.sl (.sl (.int .u8))])).2).1) (((kl.getD x (rz [.int .i64,.int .i64,.sl (.sl (.int .u8))])).2).2) i) [(0,1)] [])] [] 2 hS fun hS=>AB (((kl.getD x (rz [.int .i64,.int .i64,.sl (.sl (.int .u8))])).1)=(i:Int)) hS (fun h2=> ?_) (fun h2=> ?_))
  ·exact Ae [] 2 hS fun hS=>AU (AC (Ah (Ah (AC (Ah (CW rfl (.inr rfl) hS [vi (x:Int)] [(0,some (.sl 86 [.int .i64,.int .i64,.sl (.sl (.int .u8))] kl)),(1,some (MR i))] (by show weak _ (vi (C4 kl (i:Int)))=vi (C4 kl (i:Int));rw[lZ Ac pm BC];rfl) ⟨rfl,rfl,trivial⟩))))))
  ·exact Iu (Av [(0,BQ x)] [8] 2 hS fun hS=>Ab (Am hg0 hS (x+1) [(0,0),(1,1)] ⟨Ac,(A1 pm BC),trivial⟩))
 ·have hT:=hS
  obtain rfl:kl.length=x:=by omega
  have hS:=hT
  exact CX (Ae [] 2 hS fun hS=>AU (CW rfl (.inr rfl) hS [vi (-1)] [(0,some (.sl 86 [.int .i64,.int .i64,.sl (.sl (.int .u8))] kl)),(1,some (MR i))] (by show weak _ (vi (C4 kl (i:Int)))=vi (C4 kl (i:Int));rw[lY pm];rfl) ⟨rfl,rfl,trivial⟩))
end
end
end Go.Sx.Tryz
namespace Go.Sx.Tryz
open Go.Mi Go.RowKit Go.Sx Go.Proofs Go.Lib Go.Shelf
noncomputable def Nu (kl:List KR) (i j:Nat):Con:=⟨[.sk 0,.v (.int .i64 ((i:Nat):Int)),.v (.int .i64 ((j:Nat):Int))],[(0,.sl 86 [.int .i64,.int .i64,.sl (.sl (.int .u8))] kl)],.sk 1,[(1,.sl 86 [.int .i64,.int .i64,.sl (.sl (.int .u8))] (kl.take i++kl.drop j))]⟩
set_option maxHeartbeats 4000000 in
set_option maxRecDepth 1000000 in
theorem nA (b cap n i j : Nat) (w : World) (cs : List Value) (hl : cs.length = n * 3) (h1 : ∀ u ∈ cs, u.oneCell' = true) (hc : ∀ t u, cs[t]? = some u → w.cell? ⟨b, t, none⟩ = some u) (hz : ∀ t, t < n * 3 → w.frozen? ⟨b, t, none⟩ = false) (hij : i < j) (hj : j ≤ n) (hcap : n ≤ cap) (hm : cap ≤ 9223372036854775807) :
  Calls Tryz.prog 106 #[.slice (some ⟨b,0,none⟩) n cap,.int .i64 i,.int .i64 j] w fun e w'=>e= .returned (.slice (some ⟨b,0,none⟩) (n-(j-i)) cap)∧w'=(w.drew.setCells b (0+i*3) (cs.drop (j*3))).setCells b ((i+(n-j))*3) (Builtin.zeroCells #[.int .i64 0,.int .i64 0,.slice none 0 0] (n-(i+(n-j)))).toList:=by
 have hi:(Tryz.prog.info? 86).map (·.size)=some 3:=by kernel_rfl
 obtain⟨i0,hi0,hz1⟩:=Option.map_eq_some_iff.1 hi
 have t78:Tryz.prog.underlying 78=some (.slice 86):=by kernel_rfl
 obtain⟨news,hnews⟩:∃news,news=cs.drop (j*3):=⟨_,rfl⟩
 have hlen:news.length=(n-j)*3:=by rw[hnews,List.length_drop,hl];omega
 obtain⟨A,hA,hsrc⟩:∃A:Addr,(if cap=j then some (⟨b,0,none⟩:Addr)else some ⟨b,j*3,none⟩)=some A∧Hid (∀t u,news[t]? =some u→w.drew.cell? (A.add t)=some u):=by
  by_cases h:cap=j
  ·refine⟨⟨b,0,none⟩,by simp [h],fun t u hu=> ?_⟩
   have h0:news.length=0:=by rw[hlen];omega
   rw[List.length_eq_zero_iff.1 h0]at hu
   simp at hu
  ·refine⟨⟨b,j*3,none⟩,by simp [h],fun t u hu=> ?_⟩
   rw[hnews,List.getElem?_drop]at hu
   rw[Addr.add_lit]
   exact hc _ _ hu
 have s1:Hid (news.length=(n-j)*3):=hlen
 have s2:Hid (∀u∈news,u.oneCell'=true):=by
  intro u hu
  rw[hnews]at hu
  exact h1 u (List.mem_of_mem_drop hu)
 have s3:Hid (∀t,t<news.length→(w.drew.cell? ⟨b,0+i*3+t,none⟩).isSome=true∧w.drew.frozen? ⟨b,0+i*3+t,none⟩=false):=by
  intro t ht
  rw[hlen]at ht
  have hlt:0+i*3+t<cs.length:=by rw[hl];omega
  exact⟨by show(w.cell? _).isSome=true;rw[hc _ _ (List.getElem?_eq_getElem hlt)];rfl,hz _ (by omega)⟩
 obtain⟨W1,hW1⟩:∃W1,W1=w.drew.setCells b (0+i*3) news:=⟨_,rfl⟩
 have hW:Hid (W1=w.drew.setCells b (0+i*3) news):=hW1
 have mixed:=mo
 have hic:i≤cap:=by omega
 have hjc:j≤cap:=by omega
 obtain⟨zs,hzs⟩:∃zs:List Value,zs=(Builtin.zeroCells #[.int .i64 0,.int .i64 0,.slice none 0 0] (n-(i+(n-j)))).toList:=⟨_,rfl⟩
 have hcl:∀ty,(Builtin.clear_ #[78] ty #[.slice (some ⟨b,(i+(n-j))*3,none⟩) (n-(i+(n-j))) (cap-(i+(n-j)))]).run Tryz.prog W1= .ok (.tuple #[]) (W1.setCells b ((i+(n-j))*3) zs):=fun ty=>by
  have hzv:∀w,(zeroValue 86).run Tryz.prog w= .ok (.agg #[.int .i64 0,.int .i64 0,.slice none 0 0]) w:=fun w=>rfl
  have hlz:zs.length=(n-(i+(n-j)))*3:=by rw[hzs];simp [Builtin.zeroCells]
  have hz1:∀u∈zs,u.oneCell'=true:=by
   intro u hu
   rw[hzs]at hu
   simp only[Builtin.zeroCells,Array.toList_map,List.mem_map]at hu
   obtain⟨t,_,rfl⟩:=hu
   have :∀r,r<3→(#[Value.int .i64 0,.int .i64 0,.slice none 0 0][r]!).oneCell'=true:=by
    intro r hr
    match r,hr with
    |0,_=>rfl
    |1,_=>rfl
    |2,_=>rfl
   exact this _ (Nat.mod_lt _ (by decide))
  have hst := run_storeCells_cells (P := Tryz.prog) b ((i + (n - j)) * 3) zs 0 W1 (fun t ht => by
    rw[hW1]
    refine World.isSome_setCells b _ _ _ _ ?_
    have hlt:(i+(n-j))*3+0+t<cs.length:=by rw[hl];omega
    show(w.cell? _).isSome=true
    rw[hc _ _ (List.getElem?_eq_getElem hlt)];rfl) (fun t ht=>by
    rw[hW1,World.frozen?_setCells]
    exact hz _ (by omega)) hz1
  obtain⟨m,hm'⟩:∃m,n-(i+(n-j))=m+1:=⟨n-(i+(n-j))-1,by omega⟩
  rw[hm']at hzs⊢
  simp only[Nat.add_zero]at hst
  simp only[Builtin.clear_,Sem.run_bind,run_underlying t78,hzv,Result.andThen_ok,←hzs,hst]
  simp [hst,hzv,run_underlying t78,Value.cells,←hzs]
 have X:Aside (W1.setCells b ((i+(n-j))*3) zs=(w.drew.setCells b (0+i*3) (cs.drop (j*3))).setCells b ((i+(n-j))*3) (Builtin.zeroCells #[.int .i64 0,.int .i64 0,.slice none 0 0] (n-(i+(n-j)))).toList):=by subst hzs;subst hW1;subst hnews;rfl
 clear hW1 hnews hlen hi h1 hc hz hzs
 go_enter Tryz.func106,Tryz.ntmps106
 go_wp2_with fail
 go_region_law_o (refine step_append_room rfl (.tmp 22) (.tmp 25) 78 rfl 86 i0 3 t78 hi0 hz1 b 0 i cap (by simp [Act.eval,Act.put]) A (n-j) (cap-j) news (by simp [Act.eval,Act.put]) s1.out hsrc.out s2.out (by omega) s3.out ?_;rw[←hW.out])
 go_wp2
 go_ret
 exact⟨by rw[show n-(j-i)=i+(n-j) by omega];rfl,X.out⟩
theorem HL {b ty : Nat} {fz : Nat × Nat} : ∀ (vs : List Value) (o : Nat) (w : World) (cur : Array Value), w.heap[b]? = some (.cells cur ty fz) → o + vs.length ≤ cur.size →
  ∃c',(w.setCells b o vs).heap[b]? =some (.cells c' ty fz)∧c'.toList=cur.toList.take o++vs++cur.toList.drop (o+vs.length)
 |[],o,w,cur,h,_=>⟨cur,h,by simp⟩
 |v::vs,o,w,cur,h,hl=>by
  have h1:(w.setCell ⟨b,o,none⟩ v).heap[b]? =some (.cells (cur.setIfInBounds o v) ty fz):=by
   simp [World.setCell,Array.getElem?_modify,h]
  obtain⟨c',k1,k2⟩:=HL vs (o+1) _ _ h1 (by simp at hl⊢;omega)
  refine⟨c',k1,k2.trans ?_⟩
  simp only[List.length_cons]at hl
  have hlt:o<cur.toList.length:=by simp;omega
  rw[Array.toList_setIfInBounds,List.take_succ_eq_append_getElem (by simpa using hlt),List.getElem_set_self,List.take_set_of_le (Nat.le_refl _),List.drop_set_of_lt (by omega)]
  simp [Nat.add_comm,Nat.add_left_comm]
theorem W2 {α:Type} {m:Nat}:∀{ls:List (List α)} (k:Nat),(∀l∈ls,l.length=m)→(ls.drop k).flatten=ls.flatten.drop (k*m)
 |[],k,_=>by simp
 |l::ls,0,_=>by simp
 |l::ls,k+1,h=>by
  have h1:=h l (by simp)
  have h2:=W2 (ls:=ls) k fun x hx=>h x (by simp [hx])
  have h3:(k+1)*m=m+k*m:=by rw[Nat.succ_mul];omega
  rw[List.drop_succ_cons,h2,List.flatten_cons,List.drop_append,h3,h1,show List.drop (m+k*m) l=[]from List.drop_eq_nil_of_le (by omega),List.nil_append,Nat.add_sub_cancel_left]
theorem ND {b:Nat} (vs:List Value) (o:Nat) (w:World):Chp (· =b) w (w.setCells b o vs):=by
 induction vs generalizing o w with
 |nil=>exact Chp.refl _ _
 |cons v vs ih=>
  have h1:Chp (· =b) w (w.setCell ⟨b,o,none⟩ v):=⟨rfl,rfl,rfl,by simp [World.setCell],fun x _ hx=>by
   simp only[World.setCell,Array.getElem?_modify]
   rw[if_neg (fun e=>hx e.symm)]⟩
  exact h1.trans (ih (o+1) _)
theorem aL (kl:List KR) (i j:Nat) (hi:i<j∧j≤kl.length):ConOk Tryz.prog 106 (Nu kl i j):=by
 refine⟨⟨⟨_,Tryz.func106,rfl,rfl⟩⟩,fun vs g w hS hN hs=> ?_⟩
 obtain⟨l1,l2,rfl,⟨v0,hv0,rfl,_⟩,l3,l4,rfl,hq1,l5,l6,rfl,hq2,hq3⟩:=hs
 have hq1:l3=[.int .i64 i]:=hq1
 have hq2:l5=[.int .i64 j]:=hq2
 have hq3:l6=[]:=hq3
 subst hq1;subst hq2;subst hq3
 obtain⟨v,ls,k1,k2,k3,k4,k5,k6⟩:=hS.os 0 _ rfl
 rw[k1]at hv0;cases hv0
 rcases k3.2 with⟨rfl,h0⟩|⟨b,cap,cur,rfl,_,hb,hc1,hc2,hcs,hct⟩
 ·have h0:kl.length=0:=h0
  omega
 have hc1:kl.length≤cap:=hc1
 have hrow:=k5.row
 have hlen:ls.length=kl.length:=k5.len.symm
 have hl0:ls.flatten.length=kl.length*3:=k3.1
 have hcs:cur.size=cap*3:=hcs
 have hct:cur.toList.take (kl.length*3)=ls.flatten:=hct
 have hR:=nA b cap kl.length i j w ls.flatten hl0 k6 (fun t u hu=>by
  rw[cell_of_row w b t cur _ _ hb,←Array.getElem?_toList]
  rw[←hct,List.getElem?_take]at hu
  split at hu
  ·exact hu
  ·cases hu) (fun t ht=>by simp [World.frozen?,hb]) hi.1 hi.2 hc1 hc2
 refine Calls.mono hR ?_
 rintro e w' ⟨rfl,rfl⟩
 obtain⟨zs,hzs⟩:∃zs:List Value,zs=(Builtin.zeroCells #[.int .i64 0,.int .i64 0,.slice none 0 0] (kl.length-(i+(kl.length-j)))).toList:=⟨_,rfl⟩
 have hlz:zs.length=(kl.length-(i+(kl.length-j)))*3:=by rw[hzs];simp [Builtin.zeroCells]
 rw[←hzs]
 have hdl:(ls.flatten.drop (j*3)).length=(kl.length-j)*3:=by rw[List.length_drop,hl0];omega
 obtain⟨c1,a1,a2⟩:=HL (b:=b) (ls.flatten.drop (j*3)) (0+i*3) w.drew cur hb (by rw[hdl,hcs];have :=hi.1;have :=hi.2;omega)
 have hc1s:c1.size=cap*3:=by rw[←Array.length_toList,a2];simp only[List.length_append,List.length_take,List.length_drop,Array.length_toList,hcs,hl0];have :=hi.1;have :=hi.2;omega
 obtain⟨c2,b1,b2⟩:=HL (b:=b) zs ((i+(kl.length-j))*3) _ c1 a1 (by rw[hlz,hc1s];have :=hi.1;have :=hi.2;omega)
 have hc2s:c2.size=cap*3:=by rw[←Array.length_toList,b2];simp only[List.length_append,List.length_take,List.length_drop,Array.length_toList,hc1s,hlz];have :=hi.1;have :=hi.2;omega
 have hch:=(ND (b:=b) (ls.flatten.drop (j*3)) (0+i*3) w.drew).trans (ND zs ((i+(kl.length-j))*3) _)
 have hch0:Chp (· =b) w w.drew:=⟨rfl,rfl,rfl,Nat.le_refl _,fun _ _ _=>rfl⟩
 have hch:=hch0.trans hch
 generalize(w.drew.setCells b (0+i*3) (ls.flatten.drop (j*3))).setCells b ((i+(kl.length-j))*3) zs=w' at b1 hch⊢
 have hbX:g.X b:=hS.own 0 _ rfl b (by rw[k2];simp [Cd])
 let g':G:=⟨fun k=>if k=1 then some (.slice (some ⟨b,0,none⟩) (kl.length-(j-i)) cap)else g.N k,fun k=>if k=1 then[b]else g.F k,g.X⟩
 have hn1:∀k v,g.N k=some v→k≠1:=fun k v h e=>by
  have :=hN k v h;subst e;simp [Nu,An]at this
 have hgo:Go (fun x=>x=b) g w g' w':=⟨hch,fun x hx=>by rw[hx];exact hbX,fun x hx=> .inl hx,fun x hx _=>hx,fun k v h=>by
  show(if k=1 then _ else _)=_
  rw[if_neg (hn1 k v h)];exact h,fun k v h=>by
  show(if k=1 then _ else _)=_
  rw[if_neg (hn1 k v h)]⟩
 have hfo:∀x,(Nu kl i j).foot g x↔x=b:=fun x=>by
  constructor
  ·rintro⟨k,o,h1,h2⟩
   have :k=0:=by
    simp only[Nu,DF]at h1
    by_cases e:0=k
    ·exact e.symm
    ·rw[Bb e]at h1;cases h1
   subst this
   rw[k2]at h2;simpa[Cd]using h2
  ·rintro rfl
   exact⟨0,_,rfl,by rw[k2];simp [Cd]⟩
 have hwf:Wf g' w':=fun x hx=>Nat.lt_of_lt_of_le (hS.wf x hx) hch.size
 have hcut:c2.toList.take ((kl.length-(j-i))*3)=(ls.take i++ls.drop j).flatten:=by
  have e1:cur.toList.take (i*3)=ls.flatten.take (i*3):=by
   rw[←hct,List.take_take,Nat.min_eq_left (by have :=hi.1;have :=hi.2;omega)]
  have h3:=hi.1
  have h4:=hi.2
  have hl1:(cur.toList.take (0+i*3)++ls.flatten.drop (j*3)).length=(i+(kl.length-j))*3:=by
   rw[List.length_append,hdl,List.length_take,Array.length_toList,hcs];omega
  have e2:c1.toList.take ((i+(kl.length-j))*3)=cur.toList.take (0+i*3)++ls.flatten.drop (j*3):=by
   rw[a2,List.take_append_of_le_length (by omega),List.take_of_length_le (by omega)]
  rw[b2,e2,List.append_assoc,List.take_append_of_le_length (by omega),List.take_of_length_le (by omega),List.flatten_append,Pf i hrow,W2 j hrow,Nat.zero_add,e1]
  rfl
 have hcon:(kl.take i++kl.drop j).length=kl.length-(j-i):=by simp;omega
 have hos:OS g' w' 1 (.sl 86 [.int .i64,.int .i64,.sl (.sl (.int .u8))] (kl.take i++kl.drop j)):=by
  have key:∀xs:List (RT [.int .i64,.int .i64,.sl (.sl (.int .u8))]),xs.length=kl.length-(j-i)→Fa2 (rS g'.X g'.N w' _) xs (ls.take i++ls.drop j)→OS g' w' 1 (.sl 86 _ xs):=by
   intro xs hx hF
   refine⟨.slice (some ⟨b,0,none⟩) (kl.length-(j-i)) cap,ls.take i++ls.drop j,rfl,rfl,⟨?_,.inr ⟨b,cap,c2,by rw[hx],Nat.zero_le _,b1,by rw[hx];omega,hc2,hc2s,by rw[hx];exact hcut⟩⟩,by rw[hx];omega,hF,?_⟩
   ·rw[hx,Cs (m:=3)]
    ·simp only[List.length_append,List.length_take,List.length_drop,hlen]
     have :=hi.1;have :=hi.2
     show _=_*3
     omega
    ·intro l hl
     rcases List.mem_append.1 hl with h|h
     ·exact hrow l (List.mem_of_mem_take h)
     ·exact hrow l (List.mem_of_mem_drop h)
   ·intro u hu
    rw[List.flatten_append]at hu
    rcases List.mem_append.1 hu with h|h
    ·obtain⟨l,h1,h2⟩:=List.mem_flatten.1 h
     exact k6 u (List.mem_flatten.2 ⟨l,List.mem_of_mem_take h1,h2⟩)
    ·obtain⟨l,h1,h2⟩:=List.mem_flatten.1 h
     exact k6 u (List.mem_flatten.2 ⟨l,List.mem_of_mem_drop h1,h2⟩)
  exact key _ hcon (((k5.take i).append (k5.drop j)).mono (ET hgo.goes _))
 have hone:∀k o,DF (Nu kl i j).H1 k=some o→k=1∧o= .sl 86 [.int .i64,.int .i64,.sl (.sl (.int .u8))] (kl.take i++kl.drop j):=fun k o h=>by
  simp only[Nu,DF]at h
  by_cases e:1=k
  ·subst e;cases h;exact⟨rfl,rfl⟩
  ·rw[Bb e]at h;cases h
 refine⟨_,rfl,g',hgo.mono (fun x hx=>(hfo x).2 hx) (fun x hx=>by rw[(hfo x).1 hx];exact hbX),⟨_,rfl,rfl,rfl⟩,⟨hwf,?_,?_,?_⟩,?_⟩
 ·intro k o h
  obtain⟨rfl,rfl⟩:=hone k o h
  exact hos
 ·intro k o h x hx
  obtain⟨rfl,rfl⟩:=hone k o h
  have :x∈[b]:=hx
  rw[List.mem_singleton.1 this]
  exact hbX
 ·intro k o k' o' h h' hne
  exact absurd ((hone k o h).1.trans (hone k' o' h').1.symm) hne
 ·intro k o h x hx
  obtain⟨rfl,rfl⟩:=hone k o h
  have :x∈[b]:=hx
  exact .inl ((hfo x).2 (List.mem_singleton.1 this))
end Go.Sx.Tryz
namespace Go.Sx.Tryz
open Go.Mi Go.RowKit Go.Sx Go.Proofs
noncomputable section
section
variable (id:List Int) (fi:Bool) (ok:List Int) (oi:Nat) (ik:List Int) (ii low:Nat) (mx:List (List Int)) (last told:Nat) (kl:List KR) (i:Nat)
def zF:Con:=Cq [.cp 0 0,vi (i:Int)] [(0,XD id fi false 1 2 low mx last told 3),(1,Ao ok oi),(2,Ao ik ii),(3,.sl 86 [.int .i64,.int .i64,.sl (.sl (.int .u8))] kl)] (vi (C4 kl (i:Int)))
theorem V_:ConOk Tryz.prog 94 (zF id fi ok oi ik ii low mx last told kl i):=by
 refine cy 4 Tryz.func94 rfl Tryz.ntmps94 fun hg0 hS=> ?_
 have FP:kl.length≤9223372036854775807:=hS.lens 3 rfl
 exact Ae [] 5 hS fun hS=>Ay [(5,AO (aJ kl i) [(0,3),(1,4)] [])] [] 5 hS fun hS=>AU (Ci hS)
end
def rR (kl:List KR):Con:=⟨[.ls false [.int .i64,.int .i64,.sl (.sl (.int .u8))] kl],[],.sk 0,[(0,.sl 86 [.int .i64,.int .i64,.sl (.sl (.int .u8))] kl)]⟩
theorem Gc (kl:List KR) (hkl:kl.length≤100000):ConOk Tryz.prog 64 (rR kl):=by
 refine cy 0 Tryz.func64 rfl Tryz.ntmps64 fun hg0 hS=> ?_
 have A6:kl.length≤9223372036854775807:=hS.len 0 rfl
 refine Ae [] 0 hS fun hS=>JN ?_
 rcases hS.nilor 0 [.int .i64,.int .i64,.sl (.sl (.int .u8))] kl with⟨hn1,hS⟩|hS
 ·subst hn1
  refine Dn [] 0 hS fun hS=>Ab (AQ hS (Ae [] 0 hS fun hS=>AU (Ah ?_)))
  obtain⟨gs,hS⟩:=hS.nilk 2 86 [.int .i64,.int .i64,.sl (.sl (.int .u8))]
  exact Ci hS
 ·refine Dn [] 0 hS fun hS=>Ab (Ai hS (B5 (Ay [(0,Row),(2,Ge 0 kl.length 40)] [] 2 hS fun hS=>AU ?_)))
  obtain⟨gs,hS⟩:=hS.rx [(0,1)] [2] [0] 1 hg0
  exact Ci hS
def sK (l:List (List Int)):Con:=⟨[.ls false [.sl (.int .u8)] l],[],.ls false [.sl (.int .u8)] l,[]⟩
theorem gS (l:List (List Int)) (hl:l.length≤100000):ConOk Tryz.prog 63 (sK l):=by
 refine cy 0 Tryz.func63 rfl Tryz.ntmps63 fun hg0 hS=> ?_
 have A6:l.length≤9223372036854775807:=hS.len 0 rfl
 refine Ae [] 0 hS fun hS=>JN ?_
 rcases hS.nilor 0 [.sl (.int .u8)] l with⟨hn1,hS⟩|hS
 ·subst hn1
  exact Dn [] 0 hS fun hS=>Ab (AQ hS (Ae [] 0 hS fun hS=>AU (Ah (Ci hS))))
 ·refine Dn [] 0 hS fun hS=>Ab (Ai hS (B5 (Ay [(0,Row),(2,Ge 0 l.length 24)] [] 2 hS fun hS=>AU ?_)))
  obtain⟨gs,hS⟩:=hS.fz 1
  exact Ci hS
def bK (i to:Nat):Bool:=decide (i≤to∧to≤i+40)
theorem Aa5 {i to:Nat} (h:bK i to=true):i≤to∧to≤i+40:=of_decide_eq_true h
theorem pZ {i to:Nat} (h:bK i to=false) (key:List Int):0<Fl key i to:=by
 have h:=of_decide_eq_false h
 by_cases h1:to<i
 ·rw[AcE h1];decide
 ·rw[pY Ac];decide
section
variable (key:List Int) (i to:Nat)
theorem Xd (hk:key.length=32) (hi:i≤900000000000) (hs:bK i to=true):ConOk Tryz.prog 105 (sG key i to):=xN key i to hk hi (Aa5 hs)
theorem Xc (hk:key.length=32) (hi:i≤900000000000) (hs:bK i to=false):ConOk Tryz.prog 105 (bU key i to):=p7 key i to hk hi (by have :=pZ hs key;omega)
end
section
variable (id:List Int) (fi:Bool) (ok:List Int) (oi:Nat) (ik:List Int) (ii low:Nat) (mx:List (List Int)) (last told:Nat) (kl:List KR) (hb:List Int) (hi hn hh:Nat) (hp hx:List Int)
def Gn (id:List Int) (fi:Bool) (ok:List Int) (oi:Nat) (ik:List Int) (ii low:Nat) (mx:List (List Int)) (last told:Nat) (kl:List KR) (hb:List Int) (hi hn hh:Nat) (hp hx:List Int):Bool:=if(hi:Int)<(ii:Int)then(if(C4 kl (hi:Int))<0 then false else(if(hn:Int)<(((kl.getD (Int.toNat (C4 kl (hi:Int))) (rz [.int .i64,.int .i64,.sl (.sl (.int .u8))])).2).1)then false else(if(((((kl.getD (Int.toNat (C4 kl (hi:Int))) (rz [.int .i64,.int .i64,.sl (.sl (.int .u8))])).2).2).length:Nat):Int)≤((hn:Int)-(((kl.getD (Int.toNat (C4 kl (hi:Int))) (rz [.int .i64,.int .i64,.sl (.sl (.int .u8))])).2).1))then false else true)))else(if bK ii hi=true then(if(hn:Int)<(last:Int)then false else(if((low+mx.length-1:Nat):Int)<(hn:Int)then false else true))else false)
def Cc:Bool:=AJ (Gn id fi ok oi ik ii low mx last told kl hb hi hn hh hp hx)
theorem C1:Cc id fi ok oi ik ii low mx last told kl hb hi hn hh hp hx=Gn id fi ok oi ik ii low mx last told kl hb hi hn hh hp hx:=Af _
def HW (id:List Int) (fi:Bool) (ok:List Int) (oi:Nat) (ik:List Int) (ii low:Nat) (mx:List (List Int)) (last told:Nat) (kl:List KR) (hb:List Int) (hi hn hh:Nat) (hp hx:List Int):Nat:=if(hi:Int)<(ii:Int)then(if(C4 kl (hi:Int))<0 then 5 else(if(hn:Int)<(((kl.getD (Int.toNat (C4 kl (hi:Int))) (rz [.int .i64,.int .i64,.sl (.sl (.int .u8))])).2).1)then 2 else 2))else(if bK ii hi=true then(if(hn:Int)<(last:Int)then 2 else 2)else(Fl ik ii hi))
def GP:Nat:=AJ (HW id fi ok oi ik ii low mx last told kl hb hi hn hh hp hx)
theorem LY:GP id fi ok oi ik ii low mx last told kl hb hi hn hh hp hx=HW id fi ok oi ik ii low mx last told kl hb hi hn hh hp hx:=Af _
def Hl (id:List Int) (fi:Bool) (ok:List Int) (oi:Nat) (ik:List Int) (ii low:Nat) (mx:List (List Int)) (last told:Nat) (kl:List KR) (hb:List Int) (hi hn hh:Nat) (hp hx:List Int):(List Int):=if(hi:Int)<(ii:Int)then(((kl.getD (Int.toNat (C4 kl (hi:Int))) (rz [.int .i64,.int .i64,.sl (.sl (.int .u8))])).2).2).getD (Int.toNat ((hn:Int)-(((kl.getD (Int.toNat (C4 kl (hi:Int))) (rz [.int .i64,.int .i64,.sl (.sl (.int .u8))])).2).1))) (rz [.sl (.int .u8)])else(AI (J6 (A0 ik (hi-ii))) (mx.getD (hn-low) (rz [.sl (.int .u8)])) [109,101,115,115,97,103,101])
def Cz:(List Int):=AJ (Hl id fi ok oi ik ii low mx last told kl hb hi hn hh hp hx)
theorem Gb:Cz id fi ok oi ik ii low mx last told kl hb hi hn hh hp hx=Hl id fi ok oi ik ii low mx last told kl hb hi hn hh hp hx:=Af _
def fT (z_:(List Int):=Cz id fi ok oi ik ii low mx last told kl hb hi hn hh hp hx):Con:=Cq [.cp 0 0,.ag (chain [lb hb,vi (hi:Int),vi (hn:Int),vi (hh:Int),lb hp,lb hx])] [(0,XD id fi false 1 2 low mx last told 3),(1,Ao ok oi),(2,Ao ik ii),(3,.sl 86 [.int .i64,.int .i64,.sl (.sl (.int .u8))] kl)] (lb z_)
theorem Yh (hok:ok.length=32) (hik:ik.length=32) (hoi:oi≤100000000000) (hii:ii≤100000000000) (hm1:1≤mx.length∧mx.length≤100000) (hm2:∀j,(mx.getD j (rz [.sl (.int .u8)])).length≤32) (hlow:low≤100000000000) (hK:N2 kl) (hll:low≤last∧last≤100000000000) (hhn:hn≤10000000000∧hi≤10000000000) (hk:Cc id fi ok oi ik ii low mx last told kl hb hi hn hh hp hx=true):ConOk Tryz.prog 70 (fT id fi ok oi ik ii low mx last told kl hb hi hn hh hp hx):=by
 refine cy 4 Tryz.func70 rfl Tryz.ntmps70 fun hg0 hS=> ?_
 have FP:kl.length≤9223372036854775807:=hS.lens 3 rfl
 refine Ae [] 5 hS fun hS=>Au (Ay [(6,AO (CM ik ii) [(0,2)] [])] [] 5 hS fun hS=>AB ((hi:Int)<(ii:Int)) hS (fun h1=> ?_) (fun h1=> ?_))
 ·refine Ay [(3,AO (V_ id fi ok oi ik ii low mx last told kl hi) [(0,0),(1,1),(2,2),(3,3)] [])] [] 5 hS fun hS=>Au (Ae [] 5 hS fun hS=>AB ((C4 kl (hi:Int))<0) hS (fun h2=> ?_) (fun h2=> ?_))
  ·have hK:Cc id fi ok oi ik ii low mx last told kl hb hi hn hh hp hx=false:=(C1 id fi ok oi ik ii low mx last told kl hb hi hn hh hp hx).trans ((if_pos h1).trans (if_pos h2))
   rw[hK]at hk
   cases hk
  ·refine EK ?_
   have hpl:=Yb (l:=kl) (i:=(hi:Int)) BC
   have hkr:=hK.2 (C4 kl (hi:Int)).toNat Ac
   have hkf:0≤(kl.getD (Int.toNat (C4 kl (hi:Int))) (rz [.int .i64,.int .i64,.sl (.sl (.int .u8))])).2.1∧(kl.getD (Int.toNat (C4 kl (hi:Int))) (rz [.int .i64,.int .i64,.sl (.sl (.int .u8))])).2.1≤1000000000000:=hkr.2.1
   have hkq:(kl.getD (Int.toNat (C4 kl (hi:Int))) (rz [.int .i64,.int .i64,.sl (.sl (.int .u8))])).2.2.length≤100000:=hkr.2.2.1
   refine Av [(5,XF (C4 kl (hi:Int)) kl.length)] [6] 6 hS fun hS=>Ej (Au ?_)
   by_cases h3:(hn:Int)<(((kl.getD (Int.toNat (C4 kl (hi:Int))) (rz [.int .i64,.int .i64,.sl (.sl (.int .u8))])).2).1)
   ·refine Av [(4,Iw h3)] [] 6 hS fun hS=>Ab (AQ hS ?_)
    have hK:Cc id fi ok oi ik ii low mx last told kl hb hi hn hh hp hx=false:=(C1 id fi ok oi ik ii low mx last told kl hb hi hn hh hp hx).trans ((if_pos h1).trans ((if_neg h2).trans (if_pos h3)))
    rw[hK]at hk
    cases hk
   ·refine Av [(4,Ez h3),(10,gV (hn:Int) (((kl.getD (Int.toNat (C4 kl (hi:Int))) (rz [.int .i64,.int .i64,.sl (.sl (.int .u8))])).2).1))] [] 6 hS fun hS=>Ab (AB ((((((kl.getD (Int.toNat (C4 kl (hi:Int))) (rz [.int .i64,.int .i64,.sl (.sl (.int .u8))])).2).2).length:Nat):Int)≤((hn:Int)-(((kl.getD (Int.toNat (C4 kl (hi:Int))) (rz [.int .i64,.int .i64,.sl (.sl (.int .u8))])).2).1))) hS (fun h4=> ?_) (fun h4=> ?_))
    ·have hK:Cc id fi ok oi ik ii low mx last told kl hb hi hn hh hp hx=false:=(C1 id fi ok oi ik ii low mx last told kl hb hi hn hh hp hx).trans ((if_pos h1).trans ((if_neg h2).trans ((if_neg h3).trans (if_pos h4))))
     rw[hK]at hk
     cases hk
    ·exact B5 (Ay [(6,gV (hn:Int) (((kl.getD (Int.toNat (C4 kl (hi:Int))) (rz [.int .i64,.int .i64,.sl (.sl (.int .u8))])).2).1)),(7,XF ((hn:Int)-(((kl.getD (Int.toNat (C4 kl (hi:Int))) (rz [.int .i64,.int .i64,.sl (.sl (.int .u8))])).2).1)) ((((kl.getD (Int.toNat (C4 kl (hi:Int))) (rz [.int .i64,.int .i64,.sl (.sl (.int .u8))])).2).2).length))] [] 6 hS fun hS=>AU (Ah (Bh (.trans (Gb ..) (if_pos h1)) hS)))
 ·refine EK ?_
  by_cases h5:bK ii hi=true
  ·refine Av [(6,AO (Xd ik ii hi AD Ac h5) [(0,2)] [])] [] 5 hS fun hS=>Ab (Ay [(1,AR (L8))] [] 5 hS fun hS=>JN ?_)
   by_cases h6:(hn:Int)<(last:Int)
   ·refine Av [(6,Iw h6)] [] 5 hS fun hS=>Ab (AQ hS ?_)
    have hK:Cc id fi ok oi ik ii low mx last told kl hb hi hn hh hp hx=false:=(C1 id fi ok oi ik ii low mx last told kl hb hi hn hh hp hx).trans ((if_neg h1).trans ((if_pos h5).trans (if_pos h6)))
    rw[hK]at hk
    cases hk
   ·refine Av [(6,Ez h6),(11,Lc (Dv low mx MW Ac) [0,1] [.im (chain [.top,.top,.top,.im (chain []) 0,.top,.top,vi (low:Int),.ls false [.sl (.int .u8)] mx,.top,.top,.top]) 0])] [] 5 hS fun hS=>Ab (AB (((low+mx.length-1:Nat):Int)<(hn:Int)) hS (fun h7=> ?_) (fun h7=> ?_))
    ·have hK:Cc id fi ok oi ik ii low mx last told kl hb hi hn hh hp hx=false:=(C1 id fi ok oi ik ii low mx last told kl hb hi hn hh hp hx).trans ((if_neg h1).trans ((if_pos h5).trans ((if_neg h6).trans (if_pos h7))))
     rw[hK]at hk
     cases hk
    ·exact B5 (Ay [(4,AO (VD id fi ok oi ik ii low mx last told kl (J6 (A0 ik (hi-ii))) hn MW (by first |assumption|(intro j;simp<;>omega)) Ac AD Ac) [(0,0),(1,1),(2,2),(3,3)] [])] [] 5 hS fun hS=>AU (Bh (.trans (Gb ..) (if_neg h1)) hS))
  ·refine Av [(6,AO (Xc ik ii hi AD Ac (Em h5)) [(0,2)] [])] [] 5 hS fun hS=>Ej ?_
   have hcm:=pZ (Em h5) ik
   have hK:Cc id fi ok oi ik ii low mx last told kl hb hi hn hh hp hx=false:=(C1 id fi ok oi ik ii low mx last told kl hb hi hn hh hp hx).trans ((if_neg h1).trans (if_neg h5))
   rw[hK]at hk
   cases hk
end
end
end Go.Sx.Tryz
namespace Go.Sx.Tryz
open Go.Mi Go.RowKit Go.Sx Go.Proofs
noncomputable section
theorem VG (key z:List Int):∀(n j:Nat),j<n→(FJ key n).getD j z=J6 (A0 key j)
 |0,j,h=>absurd h (Nat.not_lt_zero _)
 |n+1,j,h=>by
  rw[FJ,List.getD_eq_getElem?_getD]
  by_cases e:j<n
  ·rw[List.getElem?_append_left (by rw[FT];exact e),←List.getD_eq_getElem?_getD];exact VG key z n j e
  ·have :j=n:=by omega
   subst this
   rw[List.getElem?_append_right (by rw[FT];exact Nat.le_refl _),FT,Nat.sub_self];rfl
theorem ZC (key:List Int) {n j:Nat} (h:j<n):(FJ key n).getD j (rz [.sl (.int .u8)])=J6 (A0 key j):=VG key _ n j h
theorem RX {key:List Int} {n j:Nat} (h:j<n):((FJ key n).getD j (rz [.sl (.int .u8)])).length=32:=(congrArg List.length (ZC key h)).trans (vW _)
def S_ (ik:List Int) (ii low:Nat) (mx:List (List Int)) (hi x53 k2:Nat):(Nat×(List (List Int)))→(Nat×(List (List Int))):=fun(x11,o8)=>(x11+1,o8++[(AI ((FJ ik (hi-ii)).getD x53 (rz [.sl (.int .u8)])) (mx.getD (x11-low) (rz [.sl (.int .u8)])) [109,101,115,115,97,103,101])])
section
variable (id:List Int) (fi:Bool) (ok:List Int) (oi:Nat) (ik:List Int) (ii low:Nat) (mx:List (List Int)) (last told:Nat) (kl:List KR) (hb:List Int) (hi hn hh:Nat) (hp hx:List Int)
def D7 (id:List Int) (fi:Bool) (ok:List Int) (oi:Nat) (ik:List Int) (ii low:Nat) (mx:List (List Int)) (last told:Nat) (kl:List KR) (hb:List Int) (hi hn hh:Nat) (hp hx:List Int) (x53:Nat) (o6:List (Int×Int×(List (List Int)))):Nat→Nat×(List (List Int))
 |0=>(last,[])
 |k2+1=>S_ ik ii low mx hi x53 k2 (D7 id fi ok oi ik ii low mx last told kl hb hi hn hh hp hx x53 o6 k2)
def Fo (id:List Int) (fi:Bool) (ok:List Int) (oi:Nat) (ik:List Int) (ii low:Nat) (mx:List (List Int)) (last told:Nat) (kl:List KR) (hb:List Int) (hi hn hh:Nat) (hp hx:List Int) (x53:Nat) (o6:List (Int×Int×(List (List Int)))):(Nat×(List (List Int)))→Prop:=fun(x11,o8)=>((x11:Nat):Int)≤(hn:Int)
def JP (x53:Nat):(List (Int×Int×(List (List Int))))→(List (Int×Int×(List (List Int)))):=fun o6=>o6++[(((ii+x53:Nat):Int),(last:Int),(D7 id fi ok oi ik ii low mx last told kl hb hi hn hh hp hx x53 o6 (CU fun j=>Fo id fi ok oi ik ii low mx last told kl hb hi hn hh hp hx x53 o6 (D7 id fi ok oi ik ii low mx last told kl hb hi hn hh hp hx x53 o6 j))).2)]
def Cj (id:List Int) (fi:Bool) (ok:List Int) (oi:Nat) (ik:List Int) (ii low:Nat) (mx:List (List Int)) (last told:Nat) (kl:List KR) (hb:List Int) (hi hn hh:Nat) (hp hx:List Int):Nat→(List (Int×Int×(List (List Int))))
 |0=>kl
 |x53+1=>JP id fi ok oi ik ii low mx last told kl hb hi hn hh hp hx x53 (Cj id fi ok oi ik ii low mx last told kl hb hi hn hh hp hx x53)
def Q1:Nat×(List (Int×Int×(List (List Int))))×(List Int)×Nat:=if(hi:Int)<(ii:Int)then(last,kl.take ((C4 kl (hi:Int)).toNat)++kl.drop (((C4 kl (hi:Int)).toNat)+1),ik,ii)else(hn,(Cj id fi ok oi ik ii low mx last told kl hb hi hn hh hp hx ((FJ ik (hi-ii)).length)).drop (Int.toNat (max ((((Cj id fi ok oi ik ii low mx last told kl hb hi hn hh hp hx ((FJ ik (hi-ii)).length)).length:Nat):Int)-60) 0)),P9 (A0 ik (hi-ii)),(hi+1))
def Ih:Nat×(List (Int×Int×(List (List Int))))×(List Int)×Nat:=AJ (Q1 id fi ok oi ik ii low mx last told kl hb hi hn hh hp hx)
theorem Q2:Ih id fi ok oi ik ii low mx last told kl hb hi hn hh hp hx=Q1 id fi ok oi ik ii low mx last told kl hb hi hn hh hp hx:=Af _
def Ads (z_:Nat×(List (Int×Int×(List (List Int))))×(List Int)×Nat:=Ih id fi ok oi ik ii low mx last told kl hb hi hn hh hp hx):Con:=⟨[.cp 0 0,.ag (chain [lb hb,vi (hi:Int),vi (hn:Int),vi (hh:Int),lb hp,lb hx])],[(0,XD id fi false 1 2 low mx last told 3),(1,Ao ok oi),(2,Ao ik ii),(3,.sl 86 [.int .i64,.int .i64,.sl (.sl (.int .u8))] kl)],.tu (chain []),[(0,XD id fi false 1 2 low mx z_.1 told 4),(1,Ao ok oi),(2,Ao (z_.2.2.1) z_.2.2.2),(4,.sl 86 [.int .i64,.int .i64,.sl (.sl (.int .u8))] (z_.2.1))]⟩
theorem xU (hok:ok.length=32) (hik:ik.length=32) (hoi:oi≤100000000000) (hii:ii≤100000000000) (hm1:1≤mx.length∧mx.length≤100000) (hm2:∀j,(mx.getD j (rz [.sl (.int .u8)])).length≤32) (hlow:low≤100000000000) (hK:N2 kl) (hll:low≤last∧last≤100000000000) (hhn:hn≤10000000000∧hi≤10000000000) (hc:(hi<ii∧0≤C4 kl (hi:Int))∨(ii≤hi∧hi≤ii+40∧last≤hn∧hn+1≤low+mx.length)):ConOk Tryz.prog 72 (Ads id fi ok oi ik ii low mx last told kl hb hi hn hh hp hx):=by
 refine cy 4 Tryz.func72 rfl Tryz.ntmps72 fun hg0 hS=> ?_
 have FP:kl.length≤9223372036854775807:=hS.lens 3 rfl
 refine Ae [] 5 hS fun hS=>Au (Ay [(6,AO (CM ik ii) [(0,2)] [])] [] 5 hS fun hS=>AB ((hi:Int)<(ii:Int)) hS (fun h1=> ?_) (fun h1=> ?_))
 ·refine Au ?_
  have hpg:=Ng (l:=kl) (hi:Int)
  have hkl:=hK.1
  refine Av [(3,AO (V_ id fi ok oi ik ii low mx last told kl hi) [(0,0),(1,1),(2,2),(3,3)] []),(4,Rn ((((C4 kl (hi:Int)).toNat):Nat):Int) [(C4 kl (hi:Int))=((((C4 kl (hi:Int)).toNat):Nat):Int)] ⟨by omega,trivial⟩)] [] 5 hS fun hS=>Ej ?_
  have hpg:=Ng (l:=kl) (hi:Int)
  have hkl:=hK.1
  obtain⟨gs,hS⟩:=hS.fz 3
  refine Av [(5,AO (Gc kl AD) [] [(0,5)]),(8,DI ((C4 kl (hi:Int)).toNat) 1 (((C4 kl (hi:Int)).toNat)+1)),(9,AO (aL kl ((C4 kl (hi:Int)).toNat) (((C4 kl (hi:Int)).toNat)+1) Ac) [(0,5)] [(1,6)])] [] 7 hS fun hS=>D6 (Ah ?_)
  obtain⟨gs,hS⟩:=hS.rx [(0,0),(1,1),(2,2),(3,3),(4,6)] [] [0,1,2,4] 5 hg0
  exact Bh (.trans (Q2 ..) (if_pos h1)) hS
 ·refine B5 (Ay [(4,AO (CM ik ii) [(0,2)] [])] [] 5 hS fun hS=>Ay [(6,AO (QV ik ii hi AD Ac Ac) [(0,2)] [(1,5)])] [] 6 hS fun hS=>JN ?_)
  obtain⟨gs,hS⟩:=hS.alias 3
  have hpg:=Ng (l:=kl) (hi:Int)
  have hkl:=hK.1
  have hsl:=FT ik (hi-ii)
  refine Dn [51] 7 hS fun hS=>Ab (Br (Ar (ι:=Nat×(List (Int×Int×(List (List Int))))) hg0 hS (fun(x53,o6)=>((FJ ik (hi-ii)).length-x53,[(53,vi ((x53:Nat):Int))],[(6,.sl 86 [.int .i64,.int .i64,.sl (.sl (.int .u8))] o6)],(x53≤(FJ ik (hi-ii)).length)∧(o6=Cj id fi ok oi ik ii low mx last told kl hb hi hn hh hp hx x53)∧(o6.length≤kl.length+x53)∧True)) [0,3,5,51,52] [0,1,2,4,5] 7 (0,kl) [(0,0),(1,1),(2,2),(3,3),(4,4),(5,5),(6,6)] ⟨Ac,rfl,Ac,trivial⟩ ?_))
  rintro⟨x53,o6⟩ ac gs ws ⟨hx53,hq1,p1,_⟩ hS
  refine Ae [] 7 hS fun hS=>Au (AB ((x53:Int)<(((FJ ik (hi-ii)).length:Nat):Int)) hS (fun h2=> ?_) (fun h2=> ?_))
  ·refine BG (Ay [(1,AG x53 ((FJ ik (hi-ii)).length))] [] 7 hS fun hS=>Ay [(2,DI ii x53 (ii+x53))] [10] 8 hS fun hS=>JN ?_)
   obtain⟨gs,hS⟩:=hS.nilob 7 2 22 [.sl (.int .u8)]
   refine Dn [] 9 hS fun hS=>Ab (Br (Ar (ι:=Nat×Nat×(List (List Int))) hg0 hS (fun(k2,x11,o8)=>(hn+1-x11,[(11,vi (x11:Int))],[(8,.sl 22 [.sl (.int .u8)] o8)],((x11,o8)=D7 id fi ok oi ik ii low mx last told kl hb hi hn hh hp hx x53 o6 k2)∧(∀j,j<k2→Fo id fi ok oi ik ii low mx last told kl hb hi hn hh hp hx x53 o6 (D7 id fi ok oi ik ii low mx last told kl hb hi hn hh hp hx x53 o6 j))∧(last≤x11∧x11≤hn+1)∧(o8.length+last=x11)∧True)) [0,3,5,9,10,51,52,53] [0,1,2,4,5,6,7] 9 (0,last,[]) [(0,0),(1,1),(2,2),(3,3),(4,4),(5,5),(6,6),(7,7),(8,8)] ⟨rfl,(fun j h=>absurd h (Nat.not_lt_zero j)),Ac,(by simp),trivial⟩ ?_))
   rintro⟨k2,x11,o8⟩ ac gs ws ⟨hq2,hj2,p2,p3,_⟩ hS
   refine Au (Ae [] 9 hS fun hS=>AB ((x11:Int)≤(hn:Int)) hS (fun h3=> ?_) (fun h3=> ?_))
   ·refine BG ?_
    have hsk:=RX (key:=ik) (n:=hi-ii) (j:=x53) Ac
    exact Av [(5,AO (VD id fi ok oi (A0 ik (hi-ii)) hi low mx last told o6 ((FJ ik (hi-ii)).getD x53 (rz [.sl (.int .u8)])) x11 MW (by first |assumption|(intro j;simp<;>omega)) Ac AD Ac) [(0,0),(1,1),(2,2),(3,6)] []),(7,Ge o8.length 1 24 (by(first |omega|(simp only[List.length_cons,List.length_nil];omega))))] [] 10 hS fun hS=>BV (Av [(1,BQ x11)] [11] 10 hS fun hS=>Ab (Am hg0 hS (k2+1,x11+1,o8++[(AI ((FJ ik (hi-ii)).getD x53 (rz [.sl (.int .u8)])) (mx.getD (x11-low) (rz [.sl (.int .u8)])) [109,101,115,115,97,103,101])]) [(0,0),(1,1),(2,2),(3,3),(4,4),(5,5),(6,6),(7,7),(8,9)] ⟨(A2 (st:=S_ _ _ _ _ _ _) hq2 rfl rfl),(A1 hj2 (by rw[←hq2];exact h3)),Ac,(by rw[List.length_append,List.length_cons,List.length_nil];omega),trivial⟩))
   ·have hT:=hS
    obtain rfl:=BP (by rw[←hq2];first |exact h3|exact not_not_intro h3) hj2
    obtain⟨rfl,rfl⟩:=TZ hq2
    have hS:=hT
    refine CX ?_
    obtain⟨gs,hS⟩:=hS.fz 8
    exact Av [(7,Ge o6.length 1 40 (by(first |omega|(simp only[List.length_cons,List.length_nil];omega))))] [] 10 hS fun hS=>BV (Av [(0,BQ x53)] [53] 10 hS fun hS=>Ab (Am hg0 hS (x53+1,o6++[(((ii+x53:Nat):Int),(last:Int),(D7 id fi ok oi ik ii low mx last told kl hb hi hn hh hp hx x53 o6 (CU fun j=>Fo id fi ok oi ik ii low mx last told kl hb hi hn hh hp hx x53 o6 (D7 id fi ok oi ik ii low mx last told kl hb hi hn hh hp hx x53 o6 j))).2)]) [(0,0),(1,1),(2,2),(3,3),(4,4),(5,5),(6,9)] ⟨Ac,(A2 (st:=JP _ _ _ _ _ _ _ _ _ _ _ _ _ _ _ _ _) hq1 rfl rfl),(by rw[List.length_append,List.length_cons,List.length_nil];omega),trivial⟩))
  ·have hT:=hS
   obtain rfl:(FJ ik (hi-ii)).length=x53:=by omega
   obtain rfl:=hq1.symm
   have hS:=hT
   refine MY ?_
   obtain⟨gs,hS⟩:=hS.fz 6
   refine Av [(10,gV (((Cj id fi ok oi ik ii low mx last told kl hb hi hn hh hp hx ((FJ ik (hi-ii)).length)).length:Nat):Int) 60),(11,Rn (max ((((Cj id fi ok oi ik ii low mx last told kl hb hi hn hh hp hx ((FJ ik (hi-ii)).length)).length:Nat):Int)-60) 0) [(if 0>((((Cj id fi ok oi ik ii low mx last told kl hb hi hn hh hp hx ((FJ ik (hi-ii)).length)).length:Nat):Int)-60)then 0 else((((Cj id fi ok oi ik ii low mx last told kl hb hi hn hh hp hx ((FJ ik (hi-ii)).length)).length:Nat):Int)-60))=(max ((((Cj id fi ok oi ik ii low mx last told kl hb hi hn hh hp hx ((FJ ik (hi-ii)).length)).length:Nat):Int)-60) 0)] ⟨by split<;>omega,trivial⟩),(12,OM (E3 (some (max ((((Cj id fi ok oi ik ii low mx last told kl hb hi hn hh hp hx ((FJ ik (hi-ii)).length)).length:Nat):Int)-60) 0)) none none (Cj id fi ok oi ik ii low mx last told kl hb hi hn hh hp hx ((FJ ik (hi-ii)).length)).length (Cj id fi ok oi ik ii low mx last told kl hb hi hn hh hp hx ((FJ ik (hi-ii)).length)).length) ⟨by simp only[FX]<;>omega,by simp only[FX]<;>omega,by simp only[FX]<;>omega,by simp,by simp only[bl]<;>omega,by simp only[bl]<;>omega,by simp only[bl]<;>omega⟩),(13,AO (Gc ((Cj id fi ok oi ik ii low mx last told kl hb hi hn hh hp hx ((FJ ik (hi-ii)).length)).drop (Int.toNat (max ((((Cj id fi ok oi ik ii low mx last told kl hb hi hn hh hp hx ((FJ ik (hi-ii)).length)).length:Nat):Int)-60) 0))) AD) [] [(0,7)])] [] 8 hS fun hS=>Ej ?_
   have hnl:=Hm hik (hi-ii)
   refine Av [(4,AO (HC (A0 ik (hi-ii)) hi AD Ac) [(0,2)] [])] [] 8 hS fun hS=>Ab (Dn [] 8 hS fun hS=> ?_)
   obtain⟨gs,hS⟩:=hS.rx [(0,0),(1,1),(2,2),(3,3),(4,7)] [] [0,1,2,4] 5 hg0
   exact fqN (.trans (Q2 ..) (if_neg h1)) hS
end
end
end Go.Sx.Tryz
namespace Go.Sx.Tryz
open Go.Mi Go.RowKit Go.Sx Go.Proofs
noncomputable section
theorem Tr {xs:List Int} (h:Ea xs=true):(Ad xs).1.toNat≤2147483648:=by
 rw[N9]at h
 unfold N8 at h
 split at h
 ·split at h
  ·cases h
  ·omega
 ·cases h
theorem AbK {xs ba bb:List Int} (h:Im xs ba bb=true):(C5 xs ba bb).2.1≤2147483648∧(C5 xs ba bb).2.2.1≤2147483648∧(C5 xs ba bb).2.2.2.1≤2147483648∧(C5 xs ba bb).2.2.2.2.length≤xs.length:=by
 rw[KA]at h
 unfold P2 at h
 have h3:=CS xs
 have h4:=(AW (Ad (Ad (Ad xs).2).2).2).2
 rw[Wc]
 split at h
 ·split at h
  ·split at h
   ·refine⟨Tr BC,Tr BC,Tr BC,?_⟩
    show(List.take _ _).length≤_
    rw[List.length_take]
    omega
   ·cases h
  ·cases h
 ·cases h
theorem Abz {xs ba bb:List Int} (h:J2 xs ba bb=true):(E4 xs ba bb).1≤2147483648∧(E4 xs ba bb).2.1≤2147483648∧(E4 xs ba bb).2.2.1≤2147483648∧(E4 xs ba bb).2.2.2.length≤xs.length:=by
 rw[PT]at h
 unfold PR at h
 rw[ZT]
 split at h
 ·exact AbK BC
 ·cases h
theorem Cy {xs:List Int} (h:CB xs=true):(Aa xs).1.length≤xs.length∧(Aa xs).2.1≤2147483648∧(Aa xs).2.2.1≤2147483648∧(Aa xs).2.2.2.1≤2147483648∧(Aa xs).2.2.2.2.1.length≤xs.length∧(Aa xs).2.2.2.2.2.length≤xs.length:=by
 have h1:=AW xs
 have h2:=AW ((Ad xs).2.drop (Ad xs).1.toNat)
 rw[List.length_drop]at h2
 rw[Ga]at h
 unfold Hj at h
 rw[LV]
 split at h
 ·split at h
  ·rename_i _ hr
   obtain⟨k1,k2,k3,k4⟩:=Abz hr
   rw[List.length_take]at k4
   refine⟨?_,k1,k2,k3,?_,?_⟩
   ·show(List.take _ _).length≤_;rw[List.length_take];omega
   ·show(E4 _ _ _).2.2.2.length≤_;omega
   ·show(List.take _ _).length≤_;rw[List.length_take];omega
  ·cases h
 ·cases h
theorem Aef {l:List (List Int)} {i:Nat} {z:List Int} (h:∀k∈l,k.length=32) (hi:i<l.length):(l.getD i z).length=32:=by
 rw[List.getD_eq_getElem?_getD,List.getElem?_eq_getElem hi]
 exact h _ (List.getElem_mem hi)
theorem KD {id:List Int} {fi:Bool} {ok:List Int} {oi:Nat} {ik:List Int} {ii:Nat} {low:Nat} {mx:List (List Int)} {last:Nat} {told:Nat} {kl:List KR} {hb:List Int} {hi:Nat} {hn:Nat} {hh:Nat} {hp:List Int} {hx:List Int} (h:Cc id fi ok oi ik ii low mx last told kl hb hi hn hh hp hx=true) (hm:1≤mx.length) (hK:N2 kl):((hi<ii∧0≤C4 kl (hi:Int))∨(ii≤hi∧hi≤ii+40∧last≤hn∧hn+1≤low+mx.length))∧(Cz id fi ok oi ik ii low mx last told kl hb hi hn hh hp hx).length=32:=by
 rw[C1]at h
 unfold Gn at h
 rw[Gb]
 unfold Hl
 by_cases h1:(hi:Int)<(ii:Int)
 ·rw[if_pos h1]at h⊢
  by_cases h2:C4 kl (hi:Int)<0
  ·rw[if_pos h2]at h;cases h
  ·rw[if_neg h2]at h
   refine⟨.inl ⟨by omega,by omega⟩,?_⟩
   split at h
   ·cases h
   ·split at h
    ·cases h
    ·rename_i h3 h4
     have hpl:=Yb (l:=kl) h2
     have hkr:=hK.2 (C4 kl (hi:Int)).toNat Ac
     exact Aef hkr.2.2.2 Ac
 ·rw[if_neg h1]at h⊢
  split at h
  ·rename_i h2
   have h3:=Aa5 h2
   refine⟨.inr ⟨h3.1,h3.2,?_⟩,EZ ..⟩
   split at h
   ·cases h
   ·split at h
    ·cases h
    ·omega
  ·cases h
def bQ (n:Nat):Con:=⟨[vi (n:Int)],[],.tu (chain []),[]⟩
theorem mT (n:Nat) (hn:n=0):ConOk Tryz.prog 71 (bQ n):=by
 refine cy 0 Tryz.func71 rfl Tryz.ntmps71 fun hg0 hS=> ?_
 have hn0:(n:Int)=0:=Ac
 exact Ay [(1,Ik hn0)] [] 0 hS fun hS=>Ai hS (cnb (fiN hS))
def tL (n:Nat):Bool:=Nat.beq n 0
theorem Aee {n:Nat} (h:tL n=true):n=0:=Nat.eq_of_beq_eq_true h
theorem Qg (n:Nat) (hs:tL n=true):ConOk Tryz.prog 71 (bQ n):=mT n (Aee hs)
section
variable (id:List Int) (fi:Bool) (ok:List Int) (oi:Nat) (ik:List Int) (ii low:Nat) (mx:List (List Int)) (last told:Nat) (kl:List KR) (xs:List Int)
def Tl (rand:List Int):Bool:=if CB xs=true then(if Cc id fi ok oi ik ii low mx last told kl ((Aa xs).1) ((Aa xs).2.1) ((Aa xs).2.2.1) ((Aa xs).2.2.2.1) ((Aa xs).2.2.2.2.1) ((Aa xs).2.2.2.2.2)=true then(if tL ((C9 (Cz id fi ok oi ik ii low mx last told kl ((Aa xs).1) ((Aa xs).2.1) ((Aa xs).2.2.1) ((Aa xs).2.2.2.1) ((Aa xs).2.2.2.2.1) ((Aa xs).2.2.2.2.2)) (List.replicate 12 (0:Int)) ((Aa xs).1) ((Aa xs).2.2.2.2.2)).2)=true then true else false)else false)else false
def ID (rand:List Int):Bool:=AJ (Tl id fi ok oi ik ii low mx last told kl xs rand)
theorem N5 (rand:List Int):ID id fi ok oi ik ii low mx last told kl xs rand=Tl id fi ok oi ik ii low mx last told kl xs rand:=Af _
def M4 (rand:List Int):Nat:=if CB xs=true then(if Cc id fi ok oi ik ii low mx last told kl ((Aa xs).1) ((Aa xs).2.1) ((Aa xs).2.2.1) ((Aa xs).2.2.2.1) ((Aa xs).2.2.2.2.1) ((Aa xs).2.2.2.2.2)=true then((C9 (Cz id fi ok oi ik ii low mx last told kl ((Aa xs).1) ((Aa xs).2.1) ((Aa xs).2.2.1) ((Aa xs).2.2.2.1) ((Aa xs).2.2.2.2.1) ((Aa xs).2.2.2.2.2)) (List.replicate 12 (0:Int)) ((Aa xs).1) ((Aa xs).2.2.2.2.2)).2)else(GP id fi ok oi ik ii low mx last told kl ((Aa xs).1) ((Aa xs).2.1) ((Aa xs).2.2.1) ((Aa xs).2.2.2.1) ((Aa xs).2.2.2.2.1) ((Aa xs).2.2.2.2.2)))else(Yf xs)
def Vs (rand:List Int):Nat:=AJ (M4 id fi ok oi ik ii low mx last told kl xs rand)
theorem cL (rand:List Int):Vs id fi ok oi ik ii low mx last told kl xs rand=M4 id fi ok oi ik ii low mx last told kl xs rand:=Af _
def XQ (rand:List Int):Nat×Nat×(List (Int×Int×(List (List Int))))×(List Int)×Nat×(List Int)×Nat:=(((Ih id fi ok oi ik ii low mx last told kl ((Aa xs).1) ((Aa xs).2.1) ((Aa xs).2.2.1) ((Aa xs).2.2.2.1) ((Aa xs).2.2.2.2.1) ((Aa xs).2.2.2.2.2)).1),(max told ((Aa xs).2.2.2.1)),(Ih id fi ok oi ik ii low mx last told kl ((Aa xs).1) ((Aa xs).2.1) ((Aa xs).2.2.1) ((Aa xs).2.2.2.1) ((Aa xs).2.2.2.2.1) ((Aa xs).2.2.2.2.2)).2.1,(Ih id fi ok oi ik ii low mx last told kl ((Aa xs).1) ((Aa xs).2.1) ((Aa xs).2.2.1) ((Aa xs).2.2.2.1) ((Aa xs).2.2.2.2.1) ((Aa xs).2.2.2.2.2)).2.2.1,((Ih id fi ok oi ik ii low mx last told kl ((Aa xs).1) ((Aa xs).2.1) ((Aa xs).2.2.1) ((Aa xs).2.2.2.1) ((Aa xs).2.2.2.2.1) ((Aa xs).2.2.2.2.2)).2.2.2),(C9 (Cz id fi ok oi ik ii low mx last told kl ((Aa xs).1) ((Aa xs).2.1) ((Aa xs).2.2.1) ((Aa xs).2.2.2.1) ((Aa xs).2.2.2.2.1) ((Aa xs).2.2.2.2.2)) (List.replicate 12 (0:Int)) ((Aa xs).1) ((Aa xs).2.2.2.2.2)).1,((Aa xs).2.1))
def Bi (rand:List Int):Nat×Nat×(List (Int×Int×(List (List Int))))×(List Int)×Nat×(List Int)×Nat:=AJ (XQ id fi ok oi ik ii low mx last told kl xs rand)
theorem iZ (rand:List Int):Bi id fi ok oi ik ii low mx last told kl xs rand=XQ id fi ok oi ik ii low mx last told kl xs rand:=Af _
def AcK (rand:List Int) (z_:Nat×Nat×(List (Int×Int×(List (List Int))))×(List Int)×Nat×(List Int)×Nat:=Bi id fi ok oi ik ii low mx last told kl xs rand):Con:=⟨[.cp 0 0,lb xs,lb rand],[(0,XD id fi false 1 2 low mx last told 3),(1,Ao ok oi),(2,Ao ik ii),(3,.sl 86 [.int .i64,.int .i64,.sl (.sl (.int .u8))] kl)],.tu (chain [lb (z_.2.2.2.2.2.1),vi ((z_.2.2.2.2.2.2:Nat):Int)]),[(0,XD id fi false 1 2 low mx z_.1 z_.2.1 4),(1,Ao ok oi),(2,Ao (z_.2.2.2.1) z_.2.2.2.2.1),(4,.sl 86 [.int .i64,.int .i64,.sl (.sl (.int .u8))] (z_.2.2.1))]⟩
theorem t6 (rand:List Int) (hok:ok.length=32) (hik:ik.length=32) (hoi:oi≤100000000000) (hii:ii≤100000000000) (hm1:1≤mx.length∧mx.length≤100000) (hm2:∀j,(mx.getD j (rz [.sl (.int .u8)])).length≤32) (hlow:low≤100000000000) (hK:N2 kl) (hll:low≤last∧last≤100000000000) (htd:told≤100000000000) (hf:xs.length≤50000) (hk:ID id fi ok oi ik ii low mx last told kl xs rand=true):ConOk Tryz.prog 39 (AcK id fi ok oi ik ii low mx last told kl xs rand):=by
 refine cy 4 Tryz.func39 rfl Tryz.ntmps39 fun hg0 hS=> ?_
 have Bf:xs.length≤9223372036854775807:=hS.len 1 rfl
 have CF:rand.length≤9223372036854775807:=hS.len 2 rfl
 have FP:kl.length≤9223372036854775807:=hS.lens 3 rfl
 refine Ae [] 4 hS fun hS=>Au ?_
 by_cases h1:CB xs=true
 ·refine Av [(1,AR (Su xs AD h1))] [8] 5 hS fun hS=>Ej ?_
  have hpl:=Cy (xs:=xs) BC
  by_cases h2:Cc id fi ok oi ik ii low mx last told kl ((Aa xs).1) ((Aa xs).2.1) ((Aa xs).2.2.1) ((Aa xs).2.2.2.1) ((Aa xs).2.2.2.2.1) ((Aa xs).2.2.2.2.2)=true
  ·have hpl:=Cy (xs:=xs) BC
   refine Av [(2,AO (Yh id fi ok oi ik ii low mx last told kl ((Aa xs).1) ((Aa xs).2.1) ((Aa xs).2.2.1) ((Aa xs).2.2.2.1) ((Aa xs).2.2.2.2.1) ((Aa xs).2.2.2.2.2) AD AD Ac Ac MW (by first |assumption|(intro j;simp<;>omega)) Ac BC Ac Ac h2) [(0,0),(1,1),(2,2),(3,3)] []),(3,U6 .mf [(12:Int)=12,(0:Int)≤12,1*12≤281474976710656,(12:Int)≤9223372036854775807] ⟨rfl,by omega,by omega,by omega,trivial⟩),(8,AR (VB (Cz id fi ok oi ik ii low mx last told kl ((Aa xs).1) ((Aa xs).2.1) ((Aa xs).2.2.1) ((Aa xs).2.2.2.1) ((Aa xs).2.2.2.2.1) ((Aa xs).2.2.2.2.2)) (List.replicate 12 (0:Int)) ((Aa xs).1) ((Aa xs).2.2.2.2.2) (KD BC Ac hK).2 (by have :=Cy (xs:=xs) BC;omega) (by have :=Cy (xs:=xs) BC;omega) (by simp)))] [] 5 hS fun hS=>Ej ?_
   by_cases h3:tL ((C9 (Cz id fi ok oi ik ii low mx last told kl ((Aa xs).1) ((Aa xs).2.1) ((Aa xs).2.2.1) ((Aa xs).2.2.2.1) ((Aa xs).2.2.2.2.1) ((Aa xs).2.2.2.2.2)) (List.replicate 12 (0:Int)) ((Aa xs).1) ((Aa xs).2.2.2.2.2)).2)=true
   ·refine Av [(1,AR (Qg ((C9 (Cz id fi ok oi ik ii low mx last told kl ((Aa xs).1) ((Aa xs).2.1) ((Aa xs).2.2.1) ((Aa xs).2.2.2.1) ((Aa xs).2.2.2.2.1) ((Aa xs).2.2.2.2.2)) (List.replicate 12 (0:Int)) ((Aa xs).1) ((Aa xs).2.2.2.2.2)).2) h3))] [] 5 hS fun hS=>Ej ?_
    have hpl:=Cy (xs:=xs) BC
    have hof:=(KD BC Ac hK).1
    refine Av [(2,AO (xU id fi ok oi ik ii low mx last told kl ((Aa xs).1) ((Aa xs).2.1) ((Aa xs).2.2.1) ((Aa xs).2.2.2.1) ((Aa xs).2.2.2.2.1) ((Aa xs).2.2.2.2.2) AD AD Ac Ac MW (by first |assumption|(intro j;simp<;>omega)) Ac BC Ac Ac BC) [(0,0),(1,1),(2,2),(3,3)] [(4,5)])] [] 6 hS fun hS=>Ab (Ay [(7,Rmx told ((Aa xs).2.2.2.1))] [] 6 hS fun hS=>Au (Ae [] 6 hS fun hS=>Ai hS (B5 (Ae [6] 6 hS fun hS=>AU ?_))))
    obtain⟨gs,hS⟩:=hS.rx [(0,0),(1,1),(2,2),(3,3),(4,5)] [6,7] [0,1,2,4] 5 hg0
    exact Bh (iZ ..) hS
   ·have hK:ID id fi ok oi ik ii low mx last told kl xs rand=false:=(N5 id fi ok oi ik ii low mx last told kl xs rand).trans ((if_pos h1).trans ((if_pos h2).trans (if_neg h3)))
    rw[hK]at hk
    cases hk
  ·have hpl:=Cy (xs:=xs) BC
   have hK:ID id fi ok oi ik ii low mx last told kl xs rand=false:=(N5 id fi ok oi ik ii low mx last told kl xs rand).trans ((if_pos h1).trans (if_neg h2))
   rw[hK]at hk
   cases hk
 ·have hK:ID id fi ok oi ik ii low mx last told kl xs rand=false:=(N5 id fi ok oi ik ii low mx last told kl xs rand).trans (if_neg h1)
  rw[hK]at hk
  cases hk
end
end
end Go.Sx.Tryz
namespace Go.Sx.Tryz
open Go.Mi Go.RowKit Go.Sx Go.Proofs
noncomputable section
def rQ:Con:=⟨[.v (.pointer none)],[],.v (.pointer none),[]⟩
theorem d4:ConOk Tryz.prog 62 (rQ):=by
 exact cy 0 Tryz.func62 rfl Tryz.ntmps62 fun hg0 hS=>Ae [] 0 hS fun hS=>Au (Ae [] 0 hS fun hS=>AQ hS (Ae [] 0 hS fun hS=>AU (Ah (Ci hS))))
section
variable (id:List Int) (fi:Bool) (ok:List Int) (oi:Nat) (ik:List Int) (ii low:Nat) (mx:List (List Int)) (last told:Nat) (kl:List KR)
def yW:Con:=⟨[.cp 0 0],[(0,HE id fi false 1 2 low mx last told kl),(1,Ao ok oi),(2,Ao ik ii)],.cp 3 0,[(0,HE id fi false 1 2 low mx last told kl),(1,Ao ok oi),(2,Ao ik ii),(3,XD id fi false 4 5 low mx last told 6),(4,Ao ok oi),(5,Ao ik ii),(6,.sl 86 [.int .i64,.int .i64,.sl (.sl (.int .u8))] kl)]⟩
theorem j8 (hok:ok.length=32) (hik:ik.length=32) (hoi:oi≤100000000000) (hii:ii≤100000000000) (hm1:1≤mx.length∧mx.length≤100000) (hm2:∀j,(mx.getD j (rz [.sl (.int .u8)])).length≤32) (hlow:low≤100000000000) (hK:N2 kl):ConOk Tryz.prog 30 (yW id fi ok oi ik ii low mx last told kl):=by
 refine cy 3 Tryz.func30 rfl Tryz.ntmps30 fun hg0 hS=>Ae [] 3 hS fun hS=>Au (Ay [(1,Lc (BN) [0,1] [.im (chain [.top,.top,.top,.im (chain []) 0,.top,.top,.top,.top,.top,.top,.top]) 0])] [] 3 hS fun hS=>Ai hS (B5 (Ae [3] 4 hS fun hS=>Ay [(4,AO (Jj ok oi AD) [(0,1)] [(1,4)]),(9,AO (Jj ik ii AD) [(0,2)] [(1,5)]),(14,AR (d4))] [] 6 hS fun hS=>Au ?_)))
 have hkl:=hK.1
 exact Av [(4,AR (gS mx AD)),(9,AO (Gc kl AD) [] [(0,6)])] [] 7 hS fun hS=>Ab (Ae [] 7 hS fun hS=>AU (Ci hS))
end
end
end Go.Sx.Tryz
namespace Go.Sx.Tryz
open Go.Mi Go.RowKit Go.Sx Go.Proofs
noncomputable section
def XC (x0:List Int):O:= .ob 22 (chain [lb x0])
def Afs:O:= .ob 22 (chain [.v (.slice none 0 0)])
section
variable (t:List Int) (i:Nat)
def UW:Con:=⟨[.cp 0 0,.cp 1 0,.cp 2 0],[(0,XC t),(1,MR i),(2,EA)],.tu (chain []),[(0,XC t),(1,MR i),(2,EA)]⟩
theorem V3:Rj Tryz.prog 38 .returning .returning (UW t i):=by
 refine UL rfl (nb:=3) (t0:=6) (t1:=3) Tryz.func38 rfl rfl Tryz.ntmps38 rfl rfl rfl rfl rfl rfl fun g0 w0 ac gs ws hg0 hS=> ?_
 have hS:=hS.sp
 exact Ay [(1,U6 .nn [] trivial)] [] 3 hS fun hS=>Ai hS (cnb (fiN hS))
end
section
variable (id:List Int) (fi:Bool) (ok:List Int) (oi:Nat) (ik:List Int) (ii low:Nat) (mx:List (List Int)) (last told:Nat) (kl:List KR) (xs rand:List Int)
def Kz:Bool:=if ID id fi ok oi ik ii low mx last told kl xs (rand.drop 64)=true then true else false
def Jy:Bool:=AJ (Kz id fi ok oi ik ii low mx last told kl xs rand)
theorem PG:Jy id fi ok oi ik ii low mx last told kl xs rand=Kz id fi ok oi ik ii low mx last told kl xs rand:=Af _
def Na:(List Int)×Nat×Nat×Nat×(List (Int×Int×(List (List Int))))×(List Int)×Nat:=((Bi id fi ok oi ik ii low mx last told kl xs (rand.drop 64)).2.2.2.1,((Bi id fi ok oi ik ii low mx last told kl xs (rand.drop 64)).2.2.2.2.1),((Bi id fi ok oi ik ii low mx last told kl xs (rand.drop 64)).1),((Bi id fi ok oi ik ii low mx last told kl xs (rand.drop 64)).2.1),(Bi id fi ok oi ik ii low mx last told kl xs (rand.drop 64)).2.2.1,(Bi id fi ok oi ik ii low mx last told kl xs (rand.drop 64)).2.2.2.2.2.1,((Bi id fi ok oi ik ii low mx last told kl xs (rand.drop 64)).2.2.2.2.2.2))
def Cx:(List Int)×Nat×Nat×Nat×(List (Int×Int×(List (List Int))))×(List Int)×Nat:=AJ (Na id fi ok oi ik ii low mx last told kl xs rand)
theorem Si:Cx id fi ok oi ik ii low mx last told kl xs rand=Na id fi ok oi ik ii low mx last told kl xs rand:=Af _
def Tc (z_:(List Int)×Nat×Nat×Nat×(List (Int×Int×(List (List Int))))×(List Int)×Nat:=Cx id fi ok oi ik ii low mx last told kl xs rand):Con:=⟨[.cp 0 0,lb xs,lb rand],[(0,HE id fi false 1 2 low mx last told kl),(1,Ao ok oi),(2,Ao ik ii)],.tu (chain [lb (z_.2.2.2.2.2.1),vi ((z_.2.2.2.2.2.2:Nat):Int),vi 0]),[(0,HE id fi false 7 8 low mx z_.2.2.1 z_.2.2.2.1 (z_.2.2.2.2.1)),(1,Ao ok oi),(2,Ao ik ii),(7,Ao ok oi),(8,Ao (z_.1) z_.2.1)]⟩
theorem X_ (hok:ok.length=32) (hik:ik.length=32) (hoi:oi≤100000000000) (hii:ii≤100000000000) (hm1:1≤mx.length∧mx.length≤100000) (hm2:∀j,(mx.getD j (rz [.sl (.int .u8)])).length≤32) (hlow:low≤100000000000) (hK:N2 kl) (hll:low≤last∧last≤100000000000) (htd:told≤100000000000) (hf:xs.length≤50000) (hr:rand.length=128) (hk:Jy id fi ok oi ik ii low mx last told kl xs rand=true):ConOk Tryz.prog 19 (Tc id fi ok oi ik ii low mx last told kl xs rand):=by
 refine Fj rfl (nb:=3) Tryz.func19 rfl rfl Tryz.ntmps19 rfl rfl rfl fun g0 w0 ac gs ws hg0 hS=> ?_
 have Bf:xs.length≤9223372036854775807:=hS.len 1 rfl
 have CF:rand.length≤9223372036854775807:=hS.len 2 rfl
 have hS:=hS.sp
 have hr1:((rand.length:Nat):Int)=128:=Ac
 refine Ae [] 6 hS fun hS=>Au (Ay [(1,Lc (BN) [0,1] [.im (chain [.top,.top,.top,.im (chain []) 0,.top,.top,.top,.top,.top,.top,.top]) 0]),(5,Ik hr1)] [] 6 hS fun hS=>Ai hS (EK ?_))
 have hS:=hS.rv [(0,.cp 0 0),(1,lb xs),(2,lb rand),(6,.cp 3 0),(7,.cp 4 0),(8,.cp 5 0),(16,.v (.bool false))] [(0,some (HE id fi false 1 2 low mx last told kl)),(1,some (Ao ok oi)),(2,some (Ao ik ii)),(3,some (Afs)),(4,some (.ob 3 (chain [vi 0]))),(5,some (EA))]
 refine JL rfl hS (cs:=[.cp 3 0,.cp 4 0,.cp 5 0]) rfl rfl rfl fun D vds ac hD hcv hB hS=> ?_
 have hS:=hS.sp
 refine Ab (Ay [(1,AO (j8 id fi ok oi ik ii low mx last told kl AD AD Ac Ac MW (by first |assumption|(intro j;simp<;>omega)) Ac BC) [(0,0),(1,1),(2,2)] [(3,6),(4,7),(5,8),(6,9)])] [] 10 hS fun hS=>Au ?_)
 by_cases h1:ID id fi ok oi ik ii low mx last told kl xs (rand.drop 64)=true
 ·refine Av [(3,ON 64 rand.length),(4,AO (t6 id fi ok oi ik ii low mx last told kl xs (rand.drop 64) AD AD Ac Ac MW (by first |assumption|(intro j;simp<;>omega)) Ac BC Ac Ac AD h1) [(0,6),(1,7),(2,8),(3,9)] [(4,10)])] [] 11 hS fun hS=>Ej (Dn [] 11 hS fun hS=> ?_)
  obtain⟨gs,hS⟩:=hS.fz 10
  refine Ab (Ae [] 11 hS fun hS=>AU ?_)
  have hM:Cx id fi ok oi ik ii low mx last told kl xs rand=((Bi id fi ok oi ik ii low mx last told kl xs (rand.drop 64)).2.2.2.1,((Bi id fi ok oi ik ii low mx last told kl xs (rand.drop 64)).2.2.2.2.1),((Bi id fi ok oi ik ii low mx last told kl xs (rand.drop 64)).1),((Bi id fi ok oi ik ii low mx last told kl xs (rand.drop 64)).2.1),(Bi id fi ok oi ik ii low mx last told kl xs (rand.drop 64)).2.2.1,(Bi id fi ok oi ik ii low mx last told kl xs (rand.drop 64)).2.2.2.2.2.1,((Bi id fi ok oi ik ii low mx last told kl xs (rand.drop 64)).2.2.2.2.2.2)):=Si id fi ok oi ik ii low mx last told kl xs rand
  have hS:=hS.rv [(6,.cp 3 0),(7,.cp 4 0),(8,.cp 5 0)] [(0,some (HE id fi false 7 8 low mx ((Bi id fi ok oi ik ii low mx last told kl xs (rand.drop 64)).1) ((Bi id fi ok oi ik ii low mx last told kl xs (rand.drop 64)).2.1) ((Bi id fi ok oi ik ii low mx last told kl xs (rand.drop 64)).2.2.1))),(1,some (Ao ok oi)),(2,some (Ao ik ii)),(3,some (XC ((Bi id fi ok oi ik ii low mx last told kl xs (rand.drop 64)).2.2.2.2.2.1))),(4,some (MR ((Bi id fi ok oi ik ii low mx last told kl xs (rand.drop 64)).2.2.2.2.2.2))),(5,some (EA)),(7,some (Ao ok oi)),(8,some (Ao ((Bi id fi ok oi ik ii low mx last told kl xs (rand.drop 64)).2.2.2.1) ((Bi id fi ok oi ik ii low mx last told kl xs (rand.drop 64)).2.2.2.2.1)))]
  exact Qx (.inr rfl) hS hD (Gt ⟨38,(UW ((Bi id fi ok oi ik ii low mx last told kl xs (rand.drop 64)).2.2.2.2.2.1) ((Bi id fi ok oi ik ii low mx last told kl xs (rand.drop 64)).2.2.2.2.2.2)),[(0,3),(1,4),(2,5)],[]⟩ [(3,some (XC ((Bi id fi ok oi ik ii low mx last told kl xs (rand.drop 64)).2.2.2.2.2.1))),(4,some (MR ((Bi id fi ok oi ik ii low mx last told kl xs (rand.drop 64)).2.2.2.2.2.2))),(5,some (EA)),(0,some (HE id fi false 7 8 low mx ((Bi id fi ok oi ik ii low mx last told kl xs (rand.drop 64)).1) ((Bi id fi ok oi ik ii low mx last told kl xs (rand.drop 64)).2.1) ((Bi id fi ok oi ik ii low mx last told kl xs (rand.drop 64)).2.2.1))),(1,some (Ao ok oi)),(2,some (Ao ik ii)),(3,some (XC ((Bi id fi ok oi ik ii low mx last told kl xs (rand.drop 64)).2.2.2.2.2.1))),(4,some (MR ((Bi id fi ok oi ik ii low mx last told kl xs (rand.drop 64)).2.2.2.2.2.2))),(5,some (EA)),(7,some (Ao ok oi)),(8,some (Ao ((Bi id fi ok oi ik ii low mx last told kl xs (rand.drop 64)).2.2.2.1) ((Bi id fi ok oi ik ii low mx last told kl xs (rand.drop 64)).2.2.2.2.1)))] hB hS hcv (show FrameMode.returning≠ .run from nofun) rfl rfl rfl (V3 ((Bi id fi ok oi ik ii low mx last told kl xs (rand.drop 64)).2.2.2.2.2.1) ((Bi id fi ok oi ik ii low mx last told kl xs (rand.drop 64)).2.2.2.2.2.2)) rfl ⟨rfl,rfl,rfl,trivial⟩ rfl (ds:=[lb ((Bi id fi ok oi ik ii low mx last told kl xs (rand.drop 64)).2.2.2.2.2.1),vi ((((Bi id fi ok oi ik ii low mx last told kl xs (rand.drop 64)).2.2.2.2.2.2):Nat):Int),vi 0]) (by kernel_rfl) (by show weak _ (.tu (chain [lb ((Cx id fi ok oi ik ii low mx last told kl xs rand).2.2.2.2.2.1),vi (((Cx id fi ok oi ik ii low mx last told kl xs rand).2.2.2.2.2.2:Nat):Int),vi 0]))=(.tu (chain [lb ((Cx id fi ok oi ik ii low mx last told kl xs rand).2.2.2.2.2.1),vi (((Cx id fi ok oi ik ii low mx last told kl xs rand).2.2.2.2.2.2:Nat):Int),vi 0]));first |rfl|(rw[hM];first |(simp only[];rfl)|(simp only[];done)|rfl)) (by show DK _ [(0,HE id fi false 7 8 low mx ((Cx id fi ok oi ik ii low mx last told kl xs rand).2.2.1) ((Cx id fi ok oi ik ii low mx last told kl xs rand).2.2.2.1) ((Cx id fi ok oi ik ii low mx last told kl xs rand).2.2.2.2.1)),(1,Ao ok oi),(2,Ao ik ii),(7,Ao ok oi),(8,Ao ((Cx id fi ok oi ik ii low mx last told kl xs rand).1) ((Cx id fi ok oi ik ii low mx last told kl xs rand).2.1))] true;first |exact⟨rfl,rfl,rfl,rfl,rfl,trivial⟩|(rw[hM];first |(simp only[];exact⟨rfl,rfl,rfl,rfl,rfl,trivial⟩)|exact⟨rfl,rfl,rfl,rfl,rfl,trivial⟩)))
 ·have hK:Jy id fi ok oi ik ii low mx last told kl xs rand=false:=(PG id fi ok oi ik ii low mx last told kl xs rand).trans (if_neg h1)
  rw[hK]at hk
  cases hk
end
end
end Go.Sx.Tryz
namespace Go.Sx.Tryz
open Go.Mi Go.RowKit Go.Sx Go.Proofs
noncomputable section
theorem HZ (fi:Bool) (low len told:Nat) (h:1≤len):AV fi low len told<low+len:=by
 unfold AV;split<;>omega
@[simp] theorem IJ (key num data text:List Int):(C_ key num data text).length=text.length+32:=by
 rw[X2];unfold Tz;rw[OI];unfold MD;rw[List.length_append,Fh,Pj]
section
variable (id:List Int) (fi:Bool) (ok:List Int) (oi:Nat) (ik:List Int) (ii low:Nat) (mx:List (List Int)) (last told:Nat) (kl:List KR) (text rand:List Int)
def X0 (id:List Int) (fi:Bool) (ok:List Int) (oi:Nat) (ik:List Int) (ii low:Nat) (mx:List (List Int)) (last told:Nat) (kl:List KR) (text rand:List Int):(List Int)×Nat×(List Int):=(P9 ok,(oi+1),((((([]:List Int)++Aj (((((([]:List Int)++Aj oi)++Aj (AV fi low mx.length told))++Aj (low+mx.length-1))++Aj ([]:List Int).length)++([]:List Int)).length)++(((((([]:List Int)++Aj oi)++Aj (AV fi low mx.length told))++Aj (low+mx.length-1))++Aj ([]:List Int).length)++([]:List Int)))++Aj (C_ (AI (J6 ok) (mx.getD ((AV fi low mx.length told)-low) (rz [.sl (.int .u8)])) [109,101,115,115,97,103,101]) (List.replicate 12 (0:Int)) (((((([]:List Int)++Aj oi)++Aj (AV fi low mx.length told))++Aj (low+mx.length-1))++Aj ([]:List Int).length)++([]:List Int)) text).length)++(C_ (AI (J6 ok) (mx.getD ((AV fi low mx.length told)-low) (rz [.sl (.int .u8)])) [109,101,115,115,97,103,101]) (List.replicate 12 (0:Int)) (((((([]:List Int)++Aj oi)++Aj (AV fi low mx.length told))++Aj (low+mx.length-1))++Aj ([]:List Int).length)++([]:List Int)) text)))
def X1:(List Int)×Nat×(List Int):=AJ (X0 id fi ok oi ik ii low mx last told kl text rand)
theorem jY:X1 id fi ok oi ik ii low mx last told kl text rand=X0 id fi ok oi ik ii low mx last told kl text rand:=Af _
def qZ (z_:(List Int)×Nat×(List Int):=X1 id fi ok oi ik ii low mx last told kl text rand):Con:=⟨[.cp 0 0,lb text,lb rand],[(0,HE id fi false 1 2 low mx last told kl),(1,Ao ok oi),(2,Ao ik ii)],.tu (chain [lb (z_.2.2),vi (oi:Int),vi 0]),[(0,HE id fi false 1 2 low mx last told kl),(1,Ao (z_.1) z_.2.1),(2,Ao ik ii)]⟩
theorem uI (hok:ok.length=32) (hik:ik.length=32) (hoi:oi≤100000000000) (hii:ii≤100000000000) (hm1:1≤mx.length∧mx.length≤100000) (hm2:∀j,(mx.getD j (rz [.sl (.int .u8)])).length≤32) (hlow:low≤100000000000) (hmn:low≤AV fi low mx.length told) (htx:text.length≤500) (hr:rand.length=128):ConOk Tryz.prog 24 (qZ id fi ok oi ik ii low mx last told kl text rand):=by
 refine cy 3 Tryz.func24 rfl Tryz.ntmps24 fun hg0 hS=> ?_
 have Bf:text.length≤9223372036854775807:=hS.len 1 rfl
 have CF:rand.length≤9223372036854775807:=hS.len 2 rfl
 have hr1:((rand.length:Nat):Int)=128:=Ac
 have hx1:¬(500:Int)<((text.length:Nat):Int):=Ac
 refine Ae [] 3 hS fun hS=>Au (Br (Ay [(1,Lc (BN) [0,1] [.im (chain [.top,.top,.top,.im (chain []) 0,.top,.top,.top,.top,.top,.top,.top]) 0]),(5,Ik hr1)] [] 3 hS fun hS=>Ai hS (Ay [(2,Ez hx1)] [] 3 hS fun hS=>Ai hS (Iu (Ae [] 3 hS fun hS=>Au (Ae [] 3 hS fun hS=>Ai hS (B5 (Ay [(4,AO (CM ok oi) [(0,1)] [])] [] 3 hS fun hS=>Ay [(1,Lc (KF fi low mx told MW Ac) [0,1] [.im (chain [.top,.v (.bool fi),.top,.im (chain []) 0,.top,.top,vi (low:Int),.ls false [.sl (.int .u8)] mx,.top,vi (told:Int),.top]) 0])] [] 3 hS fun hS=>Ae [] 4 hS fun hS=>Au ?_))))))))
 have hmx:=HZ fi low mx.length told Ac
 have hw1:=AH (n:=oi) Ac
 have hw2:=AH (n:=AV fi low mx.length told) Ac
 have hw3:=AH (n:=low+mx.length-1) Ac
 have hw4:=AH (n:=([]:List Int).length) (by decide)
 have hw4b:=AH (n:=0) (by decide)
 refine Av [(2,Xx oi),(3,AO (Lg oi Ac) [(0,3)] [(1,4)]),(5,Xx (AV fi low mx.length told)),(6,AO (HG (([]:List Int)++Aj oi) (AV fi low mx.length told) AD Ac) [(0,3),(1,4)] [(2,5)]),(8,Lc (Dv low mx MW Ac) [0,1] [.im (chain [.top,.top,.top,.im (chain []) 0,.top,.top,vi (low:Int),.ls false [.sl (.int .u8)] mx,.top,.top,.top]) 0]),(9,Xx (low+mx.length-1)),(10,AO (HG ((([]:List Int)++Aj oi)++Aj (AV fi low mx.length told)) (low+mx.length-1) AD Ac) [(0,3),(1,5)] [(2,6)]),(12,AO (F5 (((([]:List Int)++Aj oi)++Aj (AV fi low mx.length told))++Aj (low+mx.length-1)) ([]:List Int) AD AD) [(0,3),(1,6)] [(2,7)]),(13,AO (G4 (((((([]:List Int)++Aj oi)++Aj (AV fi low mx.length told))++Aj (low+mx.length-1))++Aj ([]:List Int).length)++([]:List Int)) AD) [(0,3),(1,7)] [])] [] 8 hS fun hS=>Ej ?_
 have hmx:=HZ fi low mx.length told Ac
 have hw1:=AH (n:=oi) Ac
 have hw2:=AH (n:=AV fi low mx.length told) Ac
 have hw3:=AH (n:=low+mx.length-1) Ac
 have hw4:=AH (n:=([]:List Int).length) (by decide)
 have hw4b:=AH (n:=0) (by decide)
 have hhd:(((((([]:List Int)++Aj oi)++Aj (AV fi low mx.length told))++Aj (low+mx.length-1))++Aj ([]:List Int).length)++([]:List Int)).length≤50:=by simp only[List.length_append,List.length_nil];omega
 refine Av [(5,AO (HC ok oi AD Ac) [(0,1)] []),(7,AO (uG id fi (P9 ok) (oi+1) ik ii low mx last told kl (J6 ok) (AV fi low mx.length told) MW (by first |assumption|(intro j;simp<;>omega)) Ac AD Ac) [(0,0),(1,1),(2,2)] []),(8,U6 .mf [(12:Int)=12,(0:Int)≤12,1*12≤281474976710656,(12:Int)≤9223372036854775807] ⟨rfl,by omega,by omega,by omega,trivial⟩),(11,AR (ZE (AI (J6 ok) (mx.getD ((AV fi low mx.length told)-low) (rz [.sl (.int .u8)])) [109,101,115,115,97,103,101]) (List.replicate 12 (0:Int)) (((((([]:List Int)++Aj oi)++Aj (AV fi low mx.length told))++Aj (low+mx.length-1))++Aj ([]:List Int).length)++([]:List Int)) text AD AD AD AD))] [] 8 hS fun hS=>Ej ?_
 have hmx:=HZ fi low mx.length told Ac
 have hw1:=AH (n:=oi) Ac
 have hw2:=AH (n:=AV fi low mx.length told) Ac
 have hw3:=AH (n:=low+mx.length-1) Ac
 have hw4:=AH (n:=([]:List Int).length) (by decide)
 have hw4b:=AH (n:=0) (by decide)
 have hhd:(((((([]:List Int)++Aj oi)++Aj (AV fi low mx.length told))++Aj (low+mx.length-1))++Aj ([]:List Int).length)++([]:List Int)).length≤50:=by simp only[List.length_append,List.length_nil];omega
 have hw5:=AH (n:=(((((([]:List Int)++Aj oi)++Aj (AV fi low mx.length told))++Aj (low+mx.length-1))++Aj ([]:List Int).length)++([]:List Int)).length) Ac
 have hw5s:=hw5
 simp only[List.length_append,List.length_nil]at hw5s
 have hsl:(C_ (AI (J6 ok) (mx.getD ((AV fi low mx.length told)-low) (rz [.sl (.int .u8)])) [109,101,115,115,97,103,101]) (List.replicate 12 (0:Int)) (((((([]:List Int)++Aj oi)++Aj (AV fi low mx.length told))++Aj (low+mx.length-1))++Aj ([]:List Int).length)++([]:List Int)) text).length=text.length+32:=IJ ..
 have hw6:=AH (n:=(C_ (AI (J6 ok) (mx.getD ((AV fi low mx.length told)-low) (rz [.sl (.int .u8)])) [109,101,115,115,97,103,101]) (List.replicate 12 (0:Int)) (((((([]:List Int)++Aj oi)++Aj (AV fi low mx.length told))++Aj (low+mx.length-1))++Aj ([]:List Int).length)++([]:List Int)) text).length) Ac
 have hw5t:=hw5
 simp at hw5t
 have hw6t:=hw6
 simp at hw6t
 exact Av [(2,AO (Kk (((((([]:List Int)++Aj oi)++Aj (AV fi low mx.length told))++Aj (low+mx.length-1))++Aj ([]:List Int).length)++([]:List Int)) AD) [(0,8)] [(1,9)]),(4,AO (F5 ((([]:List Int)++Aj (((((([]:List Int)++Aj oi)++Aj (AV fi low mx.length told))++Aj (low+mx.length-1))++Aj ([]:List Int).length)++([]:List Int)).length)++(((((([]:List Int)++Aj oi)++Aj (AV fi low mx.length told))++Aj (low+mx.length-1))++Aj ([]:List Int).length)++([]:List Int))) (C_ (AI (J6 ok) (mx.getD ((AV fi low mx.length told)-low) (rz [.sl (.int .u8)])) [109,101,115,115,97,103,101]) (List.replicate 12 (0:Int)) (((((([]:List Int)++Aj oi)++Aj (AV fi low mx.length told))++Aj (low+mx.length-1))++Aj ([]:List Int).length)++([]:List Int)) text) AD AD) [(0,8),(1,9)] [(2,10)]),(5,AO (G4 ((((([]:List Int)++Aj (((((([]:List Int)++Aj oi)++Aj (AV fi low mx.length told))++Aj (low+mx.length-1))++Aj ([]:List Int).length)++([]:List Int)).length)++(((((([]:List Int)++Aj oi)++Aj (AV fi low mx.length told))++Aj (low+mx.length-1))++Aj ([]:List Int).length)++([]:List Int)))++Aj (C_ (AI (J6 ok) (mx.getD ((AV fi low mx.length told)-low) (rz [.sl (.int .u8)])) [109,101,115,115,97,103,101]) (List.replicate 12 (0:Int)) (((((([]:List Int)++Aj oi)++Aj (AV fi low mx.length told))++Aj (low+mx.length-1))++Aj ([]:List Int).length)++([]:List Int)) text).length)++(C_ (AI (J6 ok) (mx.getD ((AV fi low mx.length told)-low) (rz [.sl (.int .u8)])) [109,101,115,115,97,103,101]) (List.replicate 12 (0:Int)) (((((([]:List Int)++Aj oi)++Aj (AV fi low mx.length told))++Aj (low+mx.length-1))++Aj ([]:List Int).length)++([]:List Int)) text)) AD) [(0,8),(1,10)] [])] [7] 11 hS fun hS=>D6 (Bh (jY ..) hS)
end
end
end Go.Sx.Tryz
namespace Go.Sx.Tryz
open Go.Mi Go.RowKit Go.Sx Go.Proofs
noncomputable section
theorem Vz (s:ByteArray):(Ft s).length=s.size:=by unfold Ft;rw[List.length_map,Array.length_toList];rfl
section
variable (root:List Int) (nm:ByteArray)
def mE:(List Int):=AI ([]:List Int) root (Ft nm)
def BZ:(List Int):=AJ (mE root nm)
theorem mF:BZ root nm=mE root nm:=Af _
end
@[simp] theorem P4 (root:List Int) (nm:ByteArray):(BZ root nm).length=32:=by rw[mF];exact EZ ..
section
variable (root:List Int)
def Ac9 (nm:ByteArray) (z_:(List Int):=BZ root nm):Con:=⟨[lb root,.v (.string nm)],[],lb z_,[]⟩
theorem Ep (nm:ByteArray) (hr:root.length=32) (hn:nm.size≤1000):ConOk Tryz.prog 42 (Ac9 root nm):=by
 refine cy 0 Tryz.func42 rfl Tryz.ntmps42 fun hg0 hS=> ?_
 have A6:root.length≤9223372036854775807:=hS.len 0 rfl
 refine Ae [] 0 hS fun hS=>Au ?_
 have hsn:=Vz nm
 exact Av [(2,OL (nm.size≤140737488355328)),(3,AR (EJ ([]:List Int) root (Ft nm) AD AD AD))] [] 0 hS fun hS=>D6 (Bh (mF ..) hS)
def Ts (fi:Bool):(List Int)×(List Int)×(List Int)×(List (List Int)):=if(!fi)=true then(BZ root (ByteArray.mk #[112,97,105,114]),BZ root (ByteArray.mk #[111,116,104,101,114]),BZ root (ByteArray.mk #[102,105,114,115,116]),[BZ root (ByteArray.mk #[109,105,120])])else(BZ root (ByteArray.mk #[112,97,105,114]),BZ root (ByteArray.mk #[102,105,114,115,116]),BZ root (ByteArray.mk #[111,116,104,101,114]),[BZ root (ByteArray.mk #[109,105,120])])
def FL (fi:Bool):(List Int)×(List Int)×(List Int)×(List (List Int)):=AJ (Ts root fi)
theorem Tu (fi:Bool):FL root fi=Ts root fi:=Af _
def AcO (fi:Bool) (z_:(List Int)×(List Int)×(List Int)×(List (List Int)):=FL root fi):Con:=⟨[lb root,.v (.bool fi),.v (.bool false)],[],.tu (chain [.cp 0 0,vi 0]),[(0,.ob 80 (chain [lb (z_.1),.v (.bool fi),.v (.bool false),.cp 1 0,.cp 2 0,.v (.pointer none),vi 0,.ls true [.sl (.int .u8)] (z_.2.2.2),vi 0,vi 0,.v (.slice none 0 0)])),(1,C8 (z_.2.1)),(2,C8 (z_.2.2.1))]⟩
theorem Zz (fi:Bool) (hr:root.length=32):ConOk Tryz.prog 23 (AcO root fi):=by
 refine cy 0 Tryz.func23 rfl Tryz.ntmps23 fun hg0 hS=> ?_
 have A6:root.length≤9223372036854775807:=hS.len 0 rfl
 have hr1:((root.length:Nat):Int)=32:=Ac
 refine Ae [] 0 hS fun hS=>Au (Ay [(2,Ik hr1)] [] 0 hS fun hS=>Ai hS (B5 (Ay [(1,AR (Ep root (ByteArray.mk #[112,97,105,114]) AD (by decide))),(5,AR (Ep root (ByteArray.mk #[109,105,120]) AD (by decide)))] [] 1 hS fun hS=>Ay [(2,AR (Ep root (ByteArray.mk #[102,105,114,115,116]) AD (by decide))),(3,AO (JO (BZ root (ByteArray.mk #[102,105,114,115,116])) AD) [] [(0,1)])] [] 2 hS fun hS=>Ay [(2,AR (Ep root (ByteArray.mk #[111,116,104,101,114]) AD (by decide))),(3,AO (JO (BZ root (ByteArray.mk #[111,116,104,101,114])) AD) [] [(0,2)])] [] 3 hS fun hS=>Au (Ae [] 3 hS fun hS=>WG (!fi) hS (fun h1=> ?_) (fun h1=> ?_)))))
 ·refine Dn [] 3 hS fun hS=>Ej (Ae [] 3 hS fun hS=>Ai hS (B5 (Ae [] 3 hS fun hS=>AU ?_)))
  obtain⟨gs,hS⟩:=hS.rx [(0,0),(1,2),(2,1)] [6,7] [0,1,2] 3 hg0
  exact Bh (.trans (Tu ..) (if_pos h1)) hS
 ·exact EK (Ae [] 3 hS fun hS=>Ai hS (B5 (Ae [] 3 hS fun hS=>AU (Bh (.trans (Tu ..) (if_neg (NV h1))) hS))))
end
section
variable (id:List Int) (fi:Bool) (ok:List Int) (oi:Nat) (ik:List Int) (ii low:Nat) (mx:List (List Int)) (last told:Nat) (kl:List KR)
def yJ:Con:=Cq [.cp 0 0] [(0,HE id fi false 1 2 low mx last told kl),(1,Ao ok oi),(2,Ao ik ii)] (vi (oi:Int))
theorem jJ:ConOk Tryz.prog 32 (yJ id fi ok oi ik ii low mx last told kl):=by
 exact cy 3 Tryz.func32 rfl Tryz.ntmps32 fun hg0 hS=>Ae [] 3 hS fun hS=>Au (Ay [(1,Lc (BN) [0,1] [.im (chain [.top,.top,.top,.im (chain []) 0,.top,.top,.top,.top,.top,.top,.top]) 0])] [] 3 hS fun hS=>Ai hS (B5 (Ay [(4,AO (CM ok oi) [(0,1)] [])] [] 3 hS fun hS=>AU (Ci hS))))
def yM:Con:=Cq [.cp 0 0] [(0,HE id fi false 1 2 low mx last told kl),(1,Ao ok oi),(2,Ao ik ii)] (vi (ii:Int))
theorem jN:ConOk Tryz.prog 20 (yM id fi ok oi ik ii low mx last told kl):=by
 exact cy 3 Tryz.func20 rfl Tryz.ntmps20 fun hg0 hS=>Ae [] 3 hS fun hS=>Au (Ay [(1,Lc (BN) [0,1] [.im (chain [.top,.top,.top,.im (chain []) 0,.top,.top,.top,.top,.top,.top,.top]) 0])] [] 3 hS fun hS=>Ai hS (B5 (Ay [(4,AO (CM ik ii) [(0,2)] [])] [] 3 hS fun hS=>AU (Ci hS))))
end
end
end Go.Sx.Tryz
namespace Go.Sx.Tryz
open Go.Mi Go.RowKit Go.Sx Go.Proofs
noncomputable section
def Ve (l:List KR):List Int:=l.map (·.1)
def Pr (kl:List KR) (x12:Nat):(List Int)→(List Int):=fun x2=>x2++[((kl.getD x12 (rz [.int .i64,.int .i64,.sl (.sl (.int .u8))])).1)]
def IH (kl:List KR):Nat→(List Int)
 |0=>[]
 |x12+1=>Pr kl x12 (IH kl x12)
section
variable (id:List Int) (fi:Bool) (ok:List Int) (oi:Nat) (ik:List Int) (ii low:Nat) (mx:List (List Int)) (last told:Nat) (kl:List KR)
def Tx (id:List Int) (fi:Bool) (ok:List Int) (oi:Nat) (ik:List Int) (ii low:Nat) (mx:List (List Int)) (last told:Nat) (kl:List KR):(List Int):=IH kl kl.length
def Lw:(List Int):=AJ (Tx id fi ok oi ik ii low mx last told kl)
theorem ZB:Lw id fi ok oi ik ii low mx last told kl=Tx id fi ok oi ik ii low mx last told kl:=Af _
def yS (z_:(List Int):=Lw id fi ok oi ik ii low mx last told kl):Con:=⟨[.cp 0 0],[(0,HE id fi false 1 2 low mx last told kl),(1,Ao ok oi),(2,Ao ik ii)],.sk 3,[(0,HE id fi false 1 2 low mx last told kl),(1,Ao ok oi),(2,Ao ik ii),(3,.sl 3 [.int .i64] z_)]⟩
theorem jU (hK:N2 kl):ConOk Tryz.prog 21 (yS id fi ok oi ik ii low mx last told kl):=by
 refine cy 3 Tryz.func21 rfl Tryz.ntmps21 fun hg0 hS=>Ae [] 3 hS fun hS=>Au (Ay [(1,Lc (BN) [0,1] [.im (chain [.top,.top,.top,.im (chain []) 0,.top,.top,.top,.top,.top,.top,.top]) 0])] [] 3 hS fun hS=>Ai hS (EK (Ae [10] 3 hS fun hS=>Br ?_)))
 obtain⟨gs,hS⟩:=hS.nilk 2 3 [.int .i64]
 refine Ar (ι:=Nat×(List Int)) hg0 hS (fun(x12,x2)=>(kl.length-x12,[(12,vi ((x12:Nat):Int))],[(3,.sl 3 [.int .i64] x2)],(x12≤kl.length)∧(x2=IH kl x12)∧(x2.length=x12∧kl.length≤1000)∧True)) [2,10,11] [0,1,2] 4 (0,[]) [(0,0),(1,1),(2,2),(3,3)] ⟨Ac,rfl,⟨rfl,hK.1⟩,trivial⟩ ?_
 rintro⟨x12,x2⟩ ac gs ws ⟨hx12,hq1,p1,_⟩ hS
 refine Ae [] 4 hS fun hS=>Au (AB ((x12:Int)<((kl.length:Nat):Int)) hS (fun h1=> ?_) (fun h1=> ?_))
 ·exact BG (Ay [(0,AG x12 kl.length)] [4] 5 hS fun hS=>Av [(4,Ge x2.length 1 8)] [2] 6 hS fun hS=>BV (Av [(0,BQ x12)] [12] 6 hS fun hS=>Ab (Am hg0 hS (x12+1,x2++[((kl.getD x12 (rz [.int .i64,.int .i64,.sl (.sl (.int .u8))])).1)]) [(0,0),(1,1),(2,2),(3,5)] ⟨Ac,(A2 (st:=Pr _) hq1 rfl rfl),(by rw[List.length_append,List.length_cons,List.length_nil];omega),trivial⟩)))
 ·have hT:=hS
  obtain rfl:kl.length=x12:=by omega
  obtain rfl:=hq1.symm
  have hS:=hT
  exact CX (Ae [2] 4 hS fun hS=>AU (Bh (ZB ..) hS))
end
section
variable (id:List Int) (low:Nat) (mx:List (List Int)) (idb:List Int) (lowb:Nat) (mxb:List (List Int))
def U4:Bool:=if id=idb then(if((min (low+mx.length-1) (lowb+mxb.length-1):Nat):Int)<(low:Int)then true else(if((min (low+mx.length-1) (lowb+mxb.length-1):Nat):Int)<(lowb:Int)then true else decide ((mx.getD ((min (low+mx.length-1) (lowb+mxb.length-1))-low) (rz [.sl (.int .u8)]))=(mxb.getD ((min (low+mx.length-1) (lowb+mxb.length-1))-lowb) (rz [.sl (.int .u8)])))))else false
def U5:Bool:=AJ (U4 id low mx idb lowb mxb)
theorem MM:U5 id low mx idb lowb mxb=U4 id low mx idb lowb mxb:=Af _
end
section
variable (id ok:List Int) (oi:Nat) (ik:List Int) (ii low:Nat) (mx:List (List Int)) (last told:Nat) (kl:List KR) (idb okb:List Int) (oib:Nat) (ikb:List Int) (iib lowb:Nat) (mxb:List (List Int)) (lastb toldb:Nat) (klb:List KR)
def bV (z_:Bool:=U5 id low mx idb lowb mxb):Con:=Cq [.cp 0 0,.cp 3 0] [(0,HE id true false 1 2 low mx last told kl),(1,Ao ok oi),(2,Ao ik ii),(3,HE idb false false 4 5 lowb mxb lastb toldb klb),(4,Ao okb oib),(5,Ao ikb iib)] (.v (.bool z_))
theorem sY (hm1:1≤mx.length∧mx.length≤100000) (hlow:low≤100000000000) (hm1b:1≤mxb.length∧mxb.length≤100000) (hlowb:lowb≤100000000000):ConOk Tryz.prog 17 (bV id ok oi ik ii low mx last told kl idb okb oib ikb iib lowb mxb lastb toldb klb):=by
 refine cy 6 Tryz.func17 rfl Tryz.ntmps17 fun hg0 hS=>Ae [] 6 hS fun hS=>Au (Ay [(1,Lc (BN) [0,1] [.im (chain [.top,.top,.top,.im (chain []) 0,.top,.top,.top,.top,.top,.top,.top]) 0]),(4,Lc (BN) [3,4] [.im (chain [.top,.top,.top,.im (chain []) 0,.top,.top,.top,.top,.top,.top,.top]) 0]),(37,AR (Ei id idb))] [] 6 hS fun hS=>Is (id=idb) hS (fun h1=> ?_) (fun h1=> ?_))
 ·exact Ae [] 6 hS fun hS=>AU (Ah (Bh (.trans (MM ..) (if_neg h1)) hS))
 ·refine B5 (Ay [(1,Lc (Dv low mx MW Ac) [0,1] [.im (chain [.top,.top,.top,.im (chain []) 0,.top,.top,vi (low:Int),.ls false [.sl (.int .u8)] mx,.top,.top,.top]) 0]),(3,Lc (Dv lowb mxb MW Ac) [3,4] [.im (chain [.top,.top,.top,.im (chain []) 0,.top,.top,vi (lowb:Int),.ls false [.sl (.int .u8)] mxb,.top,.top,.top]) 0]),(4,Rmn (low+mx.length-1) (lowb+mxb.length-1))] [] 6 hS fun hS=>Au ?_)
  by_cases h2:((min (low+mx.length-1) (lowb+mxb.length-1):Nat):Int)<(low:Int)
  ·exact Av [(5,Iw h2)] [] 6 hS fun hS=>D6 (Bh (.trans (MM ..) ((if_pos h1).trans (if_pos h2))) hS)
  ·by_cases h3:((min (low+mx.length-1) (lowb+mxb.length-1):Nat):Int)<(lowb:Int)
   ·exact Av [(5,Ez h2),(12,Iw h3)] [] 6 hS fun hS=>D6 (Bh (.trans (MM ..) ((if_pos h1).trans ((if_neg h2).trans (if_pos h3)))) hS)
   ·exact Av [(5,Ez h2),(12,Ez h3),(24,GD (min (low+mx.length-1) (lowb+mxb.length-1)) low ((min (low+mx.length-1) (lowb+mxb.length-1))-low)),(25,AG ((min (low+mx.length-1) (lowb+mxb.length-1))-low) mx.length),(36,GD (min (low+mx.length-1) (lowb+mxb.length-1)) lowb ((min (low+mx.length-1) (lowb+mxb.length-1))-lowb)),(37,AG ((min (low+mx.length-1) (lowb+mxb.length-1))-lowb) mxb.length),(39,AR (Ei (mx.getD ((min (low+mx.length-1) (lowb+mxb.length-1))-low) (rz [.sl (.int .u8)])) (mxb.getD ((min (low+mx.length-1) (lowb+mxb.length-1))-lowb) (rz [.sl (.int .u8)]))))] [] 6 hS fun hS=>D6 (Bh (.trans (MM ..) ((if_pos h1).trans ((if_neg h2).trans (if_neg h3)))) hS)
end
end
end Go.Sx.Tryz
namespace Go.Sx.Tryz
open Go.Mi Go.RowKit Go.Sx Go.Proofs
noncomputable section
theorem nS {α:Type} {l:List α} {j:Nat} {z:α} (h:j<l.length):l.getD j z∈l:=by
 rw[List.getD_eq_getElem?_getD,List.getElem?_eq_getElem h];exact List.getElem_mem h
theorem Uw {α:Type} {p:α→Prop} {a:α} {l:List α} (h1:p a) (h2:∀x∈l,p x):∀x∈a::l,p x:=List.forall_mem_cons.2 ⟨h1,h2⟩
theorem Yt:∀x∈([]:List (List Int)),x.length≤3000:=fun _ h=>nomatch h
theorem Uv {l:List (List Int)} (h:∀x∈l,x.length≤3000) (j:Nat):(l.getD j (rz [.sl (.int .u8)])).length≤3000:=by
 show(List.getD (α:=List Int) l j []).length≤3000
 by_cases hj:j<l.length
 ·exact h _ (nS hj)
 ·rw[List.getD_eq_getElem?_getD,List.getElem?_eq_none Ac];decide
section
variable (x:Int) (n:Nat)
def kG:Int:=(C7 .u32 (AY .u32 x (n:Int)) (Bd .u32 x (32-(n:Int))))
def B6:Int:=AJ (kG x n)
theorem Abn:B6 x n=kG x n:=Af _
def AcU (z_:Int:=B6 x n):Con:=⟨[.v (.int .u32 x),vi (n:Int)],[],.v (.int .u32 z_),[]⟩
theorem Fw (hn:n≤32):ConOk Tryz.prog 138 (AcU x n):=by
 exact cy 0 Tryz.func138 rfl Tryz.ntmps138 fun hg0 hS=>Ae [] 0 hS fun hS=>Ay [(2,EL n),(5,gV 32 (n:Int)),(6,OL ((0:Int)≤(32-(n:Int))))] [] 0 hS fun hS=>AU (Bh (Abn ..) hS)
end
section
variable (v:Int) (n:Nat)
def Sq (x6:Nat):(List Int)→(List Int):=fun x5=>x5.set (Int.toNat (((n:Int)-1)-(x6:Int))) (IntKind.wrap .u8 (AY .u64 v ((8*x6:Nat):Int)))
def Oi (v:Int) (n:Nat):Nat→(List Int)
 |0=>List.replicate n (0:Int)
 |x6+1=>Sq v n x6 (Oi v n x6)
def lS:(List Int):=Oi v n n
def C0:(List Int):=AJ (lS v n)
theorem lT:C0 v n=lS v n:=Af _
def Ac3 (z_:(List Int):=C0 v n):Con:=⟨[.v (.int .u64 v),vi (n:Int)],[],.sk 0,[(0,.sl 5 [.int .u8] z_)]⟩
theorem TU (hn:n≤1000):ConOk Tryz.prog 34 (Ac3 v n):=by
 refine cy 0 Tryz.func34 rfl Tryz.ntmps34 fun hg0 hS=>Ae [] 0 hS fun hS=>Ay [(1,g8 n 1)] [] 1 hS fun hS=>Au (Ae [] 1 hS fun hS=>Br (Ar (ι:=Nat×(List Int)) hg0 hS (fun(x6,x5)=>(n-x6,[(6,vi ((x6:Nat):Int))],[(0,.sl 5 [.int .u8] x5)],(x6≤n)∧(x5=Oi v n x6)∧(x5.length=n)∧True)) [0,1,4,5] [] 1 (0,List.replicate n (0:Int)) [(0,0)] ⟨Ac,rfl,(by simp),trivial⟩ ?_))
 rintro⟨x6,x5⟩ ac gs ws ⟨hx6,hq1,p1,_⟩ hS
 refine Au (Ae [] 1 hS fun hS=>AB ((x6:Int)<(n:Int)) hS (fun h1=> ?_) (fun h1=> ?_))
 ·exact BG (Av [(2,gV (n:Int) 1),(4,gV ((n:Int)-1) (x6:Int)),(7,GE 8 x6 (8*x6)),(8,EL (8*x6)),(10,XF (((n:Int)-1)-(x6:Int)) x5.length)] [] 1 hS fun hS=>BV (Av [(1,BQ x6)] [6] 1 hS fun hS=>Ab (Am hg0 hS (x6+1,x5.set (Int.toNat (((n:Int)-1)-(x6:Int))) (IntKind.wrap .u8 (AY .u64 v ((8*x6:Nat):Int)))) [(0,0)] ⟨Ac,(A2 (st:=Sq _ _) hq1 rfl rfl),(by rw[List.length_set];exact p1),trivial⟩)))
 ·have hT:=hS
  obtain rfl:n=x6:=by omega
  obtain rfl:=hq1.symm
  have hS:=hT
  exact CX (Ae [] 1 hS fun hS=>AU (Bh (lT ..) hS))
end
section
variable (xs:List Int)
def HN (x6:Nat):Int→Int:=fun x5=>if(x6:Int)<((xs.length:Nat):Int)then(C7 .u64 (Bd .u64 x5 8) (IntKind.wrap .u64 (xs.getD x6 0)))else(Bd .u64 x5 8)
def Kw (xs:List Int):Nat→Int
 |0=>0
 |x6+1=>HN xs x6 (Kw xs x6)
def Se (n:Nat):Int:=(Kw xs n)
def Jv (n:Nat):Int:=AJ (Se xs n)
theorem dG (n:Nat):Jv xs n=Se xs n:=Af _
def fQ (n:Nat) (z_:Int:=Jv xs n):Con:=⟨[lb xs,vi (n:Int)],[],.v (.int .u64 z_),[]⟩
theorem X5 (n:Nat) (hn:n≤1000):ConOk Tryz.prog 137 (fQ xs n):=by
 refine cy 0 Tryz.func137 rfl Tryz.ntmps137 fun hg0 hS=> ?_
 have A6:xs.length≤9223372036854775807:=hS.len 0 rfl
 refine Ae [] 0 hS fun hS=>Ae [] 0 hS fun hS=>Au (Ae [] 0 hS fun hS=>Br (Ar (ι:=Nat×Int) hg0 hS (fun(x6,x5)=>(n-x6,[(5,.v (.int .u64 x5)),(6,vi ((x6:Nat):Int))],[],(x6≤n)∧(x5=Kw xs x6)∧True)) [0,1,4] [] 0 (0,0) [] ⟨Ac,rfl,trivial⟩ ?_))
 rintro⟨x6,x5⟩ ac gs ws ⟨hx6,hq1,_⟩ hS
 refine Au (Ae [] 0 hS fun hS=>AB ((x6:Int)<(n:Int)) hS (fun h1=> ?_) (fun h1=> ?_))
 ·refine BG (Ay [(1,EL 8)] [5] 0 hS fun hS=>Ae [] 0 hS fun hS=>AB ((x6:Int)<((xs.length:Nat):Int)) hS (fun h2=> ?_) (fun h2=> ?_))
  ·exact Av [(3,AG x6 xs.length)] [5] 0 hS fun hS=>BV (Av [(1,BQ x6)] [6] 0 hS fun hS=>Ab (Am hg0 hS (x6+1,(C7 .u64 (Bd .u64 x5 8) (IntKind.wrap .u64 (xs.getD x6 0)))) [] ⟨Ac,(A2 (st:=HN _) hq1 rfl (Eq.symm (if_pos h2))),trivial⟩))
  ·exact Iu (Av [(1,BQ x6)] [6] 0 hS fun hS=>Ab (Am hg0 hS (x6+1,(Bd .u64 x5 8)) [] ⟨Ac,(A2 (st:=HN _) hq1 rfl (Eq.symm (if_neg h2))),trivial⟩))
 ·have hT:=hS
  obtain rfl:n=x6:=by omega
  obtain rfl:=hq1.symm
  have hS:=hT
  exact CX (Ae [] 0 hS fun hS=>AU (Bh (dG ..) hS))
def TJ (n:Nat):(List Int):=xs.take (List.replicate n (0:Int)).length++(List.replicate n (0:Int)).drop xs.length
def FV (n:Nat):(List Int):=AJ (TJ xs n)
theorem ZP (n:Nat):FV xs n=TJ xs n:=Af _
def y7 (n:Nat) (z_:(List Int):=FV xs n):Con:=⟨[lb xs,vi (n:Int)],[],.sk 0,[(0,.sl 5 [.int .u8] z_)]⟩
theorem kW (n:Nat) (hn:n≤1000):ConOk Tryz.prog 100 (y7 xs n):=by
 refine cy 0 Tryz.func100 rfl Tryz.ntmps100 fun hg0 hS=> ?_
 have A6:xs.length≤9223372036854775807:=hS.len 0 rfl
 exact Ae [] 0 hS fun hS=>Ay [(1,g8 n 1)] [] 1 hS fun hS=>Ae [] 1 hS fun hS=>Ae [] 1 hS fun hS=>AU (Bh (ZP ..) hS)
end
section
variable (l:List (List Int))
def Sk (x4:Nat):(List Int)→(List Int):=fun x3=>x3++(l.getD x4 (rz [.sl (.int .u8)]))
def LM (l:List (List Int)):Nat→(List Int)
 |0=>[]
 |x4+1=>Sk l x4 (LM l x4)
def lP:(List Int):=LM l l.length
def Dz:(List Int):=AJ (lP l)
theorem lQ:Dz l=lP l:=Af _
def Ac2 (z_:(List Int):=Dz l):Con:=⟨[.ls false [.sl (.int .u8)] l],[],.sk 0,[(0,.sl 5 [.int .u8] z_)]⟩
theorem u4 (hn:l.length≤1000) (hm:∀j,(l.getD j (rz [.sl (.int .u8)])).length≤3000):ConOk Tryz.prog 98 (Ac2 l):=by
 refine cy 0 Tryz.func98 rfl Tryz.ntmps98 fun hg0 hS=> ?_
 have A6:l.length≤9223372036854775807:=hS.len 0 rfl
 refine Ae [] 0 hS fun hS=>Ae [] 0 hS fun hS=>Au (Ae [] 0 hS fun hS=>Br ?_)
 obtain⟨gs,hS⟩:=hS.nilk 3 5 [.int .u8]
 refine Ar (ι:=Nat×(List Int)) hg0 hS (fun(x4,x3)=>(l.length-x4,[(4,vi ((x4:Nat):Int))],[(0,.sl 5 [.int .u8] x3)],(x4≤l.length)∧(x3=LM l x4)∧(x3.length≤3000*x4)∧True)) [0,2,3] [] 1 (0,[]) [(0,0)] ⟨Ac,rfl,(by simp),trivial⟩ ?_
 rintro⟨x4,x3⟩ ac gs ws ⟨hx4,hq1,p1,_⟩ hS
 refine Au (Ae [] 1 hS fun hS=>AB ((x4:Int)<((l.length:Nat):Int)) hS (fun h1=> ?_) (fun h1=> ?_))
 ·refine BG ?_
  have hmx:=hm x4
  exact Av [(3,AG x4 l.length),(5,Ge x3.length ((l.getD x4 (rz [.sl (.int .u8)])).length) 1 Ac)] [3] 2 hS fun hS=>BV (Av [(1,BQ x4)] [4] 2 hS fun hS=>Ab (Am hg0 hS (x4+1,x3++(l.getD x4 (rz [.sl (.int .u8)]))) [(0,1)] ⟨Ac,(A2 (st:=Sk _) hq1 rfl rfl),(by rw[List.length_append];have :=hm x4;omega),trivial⟩))
 ·have hT:=hS
  obtain rfl:l.length=x4:=by omega
  obtain rfl:=hq1.symm
  have hS:=hT
  exact CX (Ae [] 1 hS fun hS=>AU (Bh (lQ ..) hS))
theorem dM:Dz l=l.flatten:=by
 have key:∀i,i≤l.length→LM l i=(l.take i).flatten:=by
  intro i
  induction i with
  |zero=>intro _;rfl
  |succ i ih=>
   intro hi
   show LM l i++List.getD (α:=List Int) l i []=_
   rw[ih Ac,List.take_succ_eq_append_getElem Ac,List.flatten_append,List.getD_eq_getElem?_getD,List.getElem?_eq_getElem Ac]
   simp
 rw[lQ]
 exact(key _ (Nat.le_refl _)).trans (by rw[List.take_length])
end
@[simp] theorem Ad3 (l:List (List Int)):(Dz l).length=l.flatten.length:=by rw[dM]
def Sa:(Nat→Int):=upd (upd (upd (upd (upd (upd (upd (upd (upd (upd (upd (upd (upd (upd (upd (upd (upd (upd (upd (upd (upd (upd (upd (upd (upd (upd (upd (upd (upd (upd (upd (upd (upd (upd (upd (upd (upd (upd (upd (upd (upd (upd (upd (upd (upd (upd (upd (upd (upd (upd (upd (upd (upd (upd (upd (upd (upd (upd (upd (upd (upd (upd (upd (upd (upd (upd (upd (upd (upd (upd (upd (upd (upd (upd (upd (upd (upd (upd (upd (upd (fun _=>0) 0 4794697086780616226) 1 8158064640168781261) 2 13096744586834688815) 3 16840607885511220156) 4 4131703408338449720) 5 6480981068601479193) 6 10538285296894168987) 7 12329834152419229976) 8 15566598209576043074) 9 1334009975649890238) 10 2608012711638119052) 11 6128411473006802146) 12 8268148722764581231) 13 9286055187155687089) 14 11230858885718282805) 15 13951009754708518548) 16 16472876342353939154) 17 17275323862435702243) 18 1135362057144423861) 19 2597628984639134821) 20 3308224258029322869) 21 5365058923640841347) 22 6679025012923562964) 23 8573033837759648693) 24 10970295158949994411) 25 12119686244451234320) 26 12683024718118986047) 27 13788192230050041572) 28 14330467153632333762) 29 15395433587784984357) 30 489312712824947311) 31 1452737877330783856) 32 2861767655752347644) 33 3322285676063803686) 34 5560940570517711597) 35 5996557281743188959) 36 7280758554555802590) 37 8532644243296465576) 38 9350256976987008742) 39 10552545826968843579) 40 11727347734174303076) 41 12113106623233404929) 42 14000437183269869457) 43 14369950271660146224) 44 15101387698204529176) 45 15463397548674623760) 46 17586052441742319658) 47 1182934255886127544) 48 1847814050463011016) 49 2177327727835720531) 50 2830643537854262169) 51 3796741975233480872) 52 4115178125766777443) 53 5681478168544905931) 54 6601373596472566643) 55 7507060721942968483) 56 8399075790359081724) 57 8693463985226723168) 58 9568029438360202098) 59 10144078919501101548) 60 10430055236837252648) 61 11840083180663258601) 62 13761210420658862357) 63 14299343276471374635) 64 14566680578165727644) 65 15097957966210449927) 66 16922976911328602910) 67 17689382322260857208) 68 500013540394364858) 69 748580250866718886) 70 1242879168328830382) 71 1977374033974150939) 72 2944078676154940804) 73 3659926193048069267) 74 4368137639120453308) 75 4836135668995329356) 76 5532061633213252278) 77 6448918945643986474) 78 6902733635092675308) 79 7801388544844847127
def F9:(Nat→Int):=AJ (Sa)
theorem dB:F9=Sa:=Af _
def fP (z_:(Nat→Int):=F9):Con:=⟨[],[],.ar .u64 80 z_,[]⟩
theorem X3:ConOk Tryz.prog 135 (fP):=by
 exact cy 0 Tryz.func135 rfl Tryz.ntmps135 fun hg0 hS=>Ae [] 1 hS fun hS=>Ae [] 1 hS fun hS=>AU (Bh (dB ..) hS)
def VM:(Nat→Int):=upd (upd (upd (upd (upd (upd (upd (upd (fun _=>0) 0 7640891576956012808) 1 13503953896175478587) 2 4354685564936845355) 3 11912009170470909681) 4 5840696475078001361) 5 11170449401992604703) 6 2270897969802886507) 7 6620516959819538809
def LA:(Nat→Int):=AJ (VM)
theorem kF:LA=VM:=Af _
def q8 (z_:(Nat→Int):=LA):Con:=⟨[],[],.ar .u64 8 z_,[]⟩
theorem dA:ConOk Tryz.prog 136 (q8):=by
 exact cy 0 Tryz.func136 rfl Tryz.ntmps136 fun hg0 hS=>Ae [] 1 hS fun hS=>Ae [] 1 hS fun hS=>AU (Bh (kF ..) hS)
end
end Go.Sx.Tryz
namespace Go.Sx.Tryz
open Go.Mi Go.RowKit Go.Sx Go.Proofs
noncomputable section
@[simp] theorem PX (v:Int) (n:Nat):(C0 v n).length=n:=by
 have key:∀i,(Oi v n i).length=n:=by
  intro i
  induction i with
  |zero=>exact List.length_replicate
  |succ i ih=>exact(List.length_set ..).trans ih
 rw[lT]
 exact key n
def R_ (x6:Nat):(Nat→Int)→(Nat→Int):=fun o5_0=>upd o5_0 x6 (IntKind.wrap .u32 (AY .u64 (LA x6) 32))
def Of:Nat→(Nat→Int)
 |0=>fun _=>0
 |x6+1=>R_ x6 (Of x6)
def R9 (k2:Nat):(List Int)→(List Int):=fun x7=>x7++([0]:List Int)
def BY (xs:List Int):Nat→(List Int)
 |0=>([]++xs)++([128]:List Int)
 |k2+1=>R9 k2 (BY xs k2)
def Da:(List Int)→Prop:=fun x7=>¬(((x7.length%64:Nat):Int)=56)
def R7 (xs:List Int) (x8 x10:Nat):(Nat→Int)→(Nat→Int):=fun o9_0=>upd o9_0 x10 (IntKind.wrap .u32 (Jv ((((BY xs (CU fun j=>Da (BY xs j)))++(C0 (BJ .u64 ((xs.length:Nat):Int) 8) 8)).take ((x8+(4*x10))+4)).drop (x8+(4*x10))) 4))
def Oe (xs:List Int) (x8:Nat):Nat→(Nat→Int)
 |0=>fun _=>0
 |x10+1=>R7 xs x8 x10 (Oe xs x8 x10)
def R6 (k5:Nat):(Nat×(Nat→Int))→(Nat×(Nat→Int)):=fun(x11,o9_0)=>(x11+1,upd o9_0 x11 (AZ .u32 (AZ .u32 (AZ .u32 (o9_0 (x11-16)) (AK .u32 (AK .u32 (B6 (o9_0 (x11-15)) 7) (B6 (o9_0 (x11-15)) 18)) (AY .u32 (o9_0 (x11-15)) 3))) (o9_0 (x11-7))) (AK .u32 (AK .u32 (B6 (o9_0 (x11-2)) 17) (B6 (o9_0 (x11-2)) 19)) (AY .u32 (o9_0 (x11-2)) 10))))
def EQ (xs:List Int) (x8:Nat):Nat→Nat×(Nat→Int)
 |0=>(16,Oe xs x8 16)
 |k5+1=>R6 k5 (EQ xs x8 k5)
def Hd:(Nat×(Nat→Int))→Prop:=fun(x11,o9_0)=>((x11:Nat):Int)<64
section
variable (xs:List Int)
def R5 (x8 x15:Nat):(Nat→Int)→(Nat→Int):=fun o14_0=>upd (upd (upd (upd (upd (upd (upd (upd (fun _=>0) 0 (AZ .u32 (AZ .u32 (AZ .u32 (AZ .u32 (AZ .u32 (o14_0 7) (AK .u32 (AK .u32 (B6 (o14_0 4) 6) (B6 (o14_0 4) 11)) (B6 (o14_0 4) 25))) (AK .u32 (A5 .u32 (o14_0 4) (o14_0 5)) (A5 .u32 (KM .u32 (o14_0 4)) (o14_0 6)))) (IntKind.wrap .u32 (AY .u64 (F9 x15) 32))) (((EQ xs x8 (CU fun j=>Hd (EQ xs x8 j))).2) x15)) (AZ .u32 (AK .u32 (AK .u32 (B6 (o14_0 0) 2) (B6 (o14_0 0) 13)) (B6 (o14_0 0) 22)) (AK .u32 (AK .u32 (A5 .u32 (o14_0 0) (o14_0 1)) (A5 .u32 (o14_0 0) (o14_0 2))) (A5 .u32 (o14_0 1) (o14_0 2)))))) 1 (o14_0 0)) 2 (o14_0 1)) 3 (o14_0 2)) 4 (AZ .u32 (o14_0 3) (AZ .u32 (AZ .u32 (AZ .u32 (AZ .u32 (o14_0 7) (AK .u32 (AK .u32 (B6 (o14_0 4) 6) (B6 (o14_0 4) 11)) (B6 (o14_0 4) 25))) (AK .u32 (A5 .u32 (o14_0 4) (o14_0 5)) (A5 .u32 (KM .u32 (o14_0 4)) (o14_0 6)))) (IntKind.wrap .u32 (AY .u64 (F9 x15) 32))) (((EQ xs x8 (CU fun j=>Hd (EQ xs x8 j))).2) x15)))) 5 (o14_0 4)) 6 (o14_0 5)) 7 (o14_0 6)
def Od (xs:List Int) (x8:Nat) (o5_0:Nat→Int):Nat→(Nat→Int)
 |0=>o5_0
 |x15+1=>R5 xs x8 x15 (Od xs x8 o5_0 x15)
def R4 (x8:Nat) (o5_0:Nat→Int) (x20:Nat):(Nat→Int)→(Nat→Int):=fun o5_0_7=>upd o5_0_7 x20 (AZ .u32 (o5_0_7 x20) ((Od xs x8 o5_0 64) x20))
def Oc (xs:List Int) (x8:Nat) (o5_0:Nat→Int):Nat→(Nat→Int)
 |0=>o5_0
 |x20+1=>R4 xs x8 o5_0 x20 (Oc xs x8 o5_0 x20)
def R8 (k3:Nat):(Nat×(Nat→Int))→(Nat×(Nat→Int)):=fun(x8,o5_0)=>(x8+64,Oc xs x8 o5_0 8)
def ER (xs:List Int):Nat→Nat×(Nat→Int)
 |0=>(0,Of 8)
 |k3+1=>R8 xs k3 (ER xs k3)
def He:(Nat×(Nat→Int))→Prop:=fun(x8,o5_0)=>((x8:Nat):Int)<((((BY xs (CU fun j=>Da (BY xs j)))++(C0 (BJ .u64 ((xs.length:Nat):Int) 8) 8)).length:Nat):Int)
def R3 (x22:Nat):(List Int)→(List Int):=fun x21=>x21++(C0 (IntKind.wrap .u64 (((ER xs (CU fun j=>He xs (ER xs j))).2) x22)) 4)
def Oa (xs:List Int):Nat→(List Int)
 |0=>[]
 |x22+1=>R3 xs x22 (Oa xs x22)
def kC:(List Int):=Oa xs 8
def HM:(List Int):=AJ (kC xs)
theorem kE:HM xs=kC xs:=Af _
def AcT (z_:(List Int):=HM xs):Con:=⟨[lb xs],[],.sk 0,[(0,.sl 5 [.int .u8] z_)]⟩
theorem uN (hx:xs.length≤1000000):ConOk Tryz.prog 99 (AcT xs):=by
 refine cy 0 Tryz.func99 rfl Tryz.ntmps99 fun hg0 hS=> ?_
 have A6:xs.length≤9223372036854775807:=hS.len 0 rfl
 refine Ae [] 0 hS fun hS=>Ay [(0,AR (X3))] [3] 1 hS fun hS=>Ay [(0,AR (dA))] [4] 2 hS fun hS=>Ae [] 3 hS fun hS=>Au (Ae [] 3 hS fun hS=>Br (Ar (ι:=Nat×(Nat→Int)) hg0 hS (fun(x6,o5_0)=>(8-x6,[(6,vi ((x6:Nat):Int))],[(2,Ob9 o5_0)],(x6≤8)∧(o5_0=Of x6)∧True)) [0,2,3,4,5] [0,1] 3 (0,fun _=>0) [(0,0),(1,1),(2,2)] ⟨Ac,rfl,trivial⟩ ?_))
 rintro⟨x6,o5_0⟩ ac gs ws ⟨hx6,hq1,_⟩ hS
 refine Au (Ae [] 3 hS fun hS=>AB ((x6:Int)<8) hS (fun h1=> ?_) (fun h1=> ?_))
 ·exact BG (Av [(2,AG x6 8),(4,EL 32),(6,AG x6 8)] [] 3 hS fun hS=>BV (Av [(1,BQ x6)] [6] 3 hS fun hS=>Ab (Am hg0 hS (x6+1,upd o5_0 x6 (IntKind.wrap .u32 (AY .u64 (LA x6) 32))) [(0,0),(1,1),(2,2)] ⟨Ac,(A2 (st:=R_) hq1 rfl rfl),trivial⟩)))
 ·have hT:=hS
  obtain rfl:8=x6:=by omega
  obtain rfl:=hq1.symm
  have hS:=hT
  refine CX (Ay [(0,Row),(2,Ge 0 xs.length 1),(4,Ge (([]++xs).length) 1 1)] [] 6 hS fun hS=>Au (Br (Ar (ι:=Nat×(List Int)) hg0 hS (fun(k2,x7)=>((120-x7.length%64)%64,[],[(5,.sl 5 [.int .u8] x7)],(x7=BY xs k2)∧(∀j,j<k2→Da (BY xs j))∧(x7.length+(120-x7.length%64)%64≤xs.length+65)∧True)) [0,2,3,5,7] [0,2] 6 (0,([]++xs)++([128]:List Int)) [(0,0),(2,2),(5,5)] ⟨rfl,(fun j h=>absurd h (Nat.not_lt_zero j)),(by rw[List.length_append,List.length_append,List.length_cons,List.length_nil];omega),trivial⟩ ?_)))
  rintro⟨k2,x7⟩ ac gs ws ⟨hq2,hj2,p1,_⟩ hS
  refine Au (Ay [(2,Lb x7.length 64)] [] 6 hS fun hS=>Is (((x7.length%64:Nat):Int)=56) hS (fun h2=> ?_) (fun h2=> ?_))
  ·exact B5 (Br (Av [(2,Ge x7.length 1 1)] [7] 7 hS fun hS=>BV (Am hg0 hS (k2+1,x7++([0]:List Int)) [(0,0),(2,2),(5,6)] ⟨(A2 (st:=R9) hq2 rfl rfl),(A1 hj2 (by rw[←hq2];exact h2)),(by rw[List.length_append,List.length_cons,List.length_nil];omega),trivial⟩ (by show(120-(x7++[0]).length%64)%64<(120-x7.length%64)%64;rw[List.length_append,List.length_cons,List.length_nil];omega))))
  ·have hT:=hS
   obtain rfl:=BP (by rw[←hq2];first |exact h2|exact not_not_intro h2) hj2
   obtain rfl:=hq2.symm
   have hS:=hT
   refine CX (Ay [(3,Xx xs.length),(5,AO (TU (BJ .u64 ((xs.length:Nat):Int) 8) 8 Ac) [] [(0,6)]),(6,Ge ((BY xs (CU fun j=>Da (BY xs j))).length) ((C0 (BJ .u64 ((xs.length:Nat):Int) 8) 8).length) 1)] [7] 8 hS fun hS=>JN ?_)
   obtain⟨gs,hS⟩:=hS.fz 7
   have hml:((BY xs (CU fun j=>Da (BY xs j)))++(C0 (BJ .u64 ((xs.length:Nat):Int) 8) 8)).length%64=0∧((BY xs (CU fun j=>Da (BY xs j)))++(C0 (BJ .u64 ((xs.length:Nat):Int) 8) 8)).length≤2000000:=by rw[List.length_append,PX];omega
   refine Dn [] 8 hS fun hS=>Ab (Br (Ar (ι:=Nat×Nat×(Nat→Int)) hg0 hS (fun(k3,x8,o5_0)=>(((BY xs (CU fun j=>Da (BY xs j)))++(C0 (BJ .u64 ((xs.length:Nat):Int) 8) 8)).length-x8,[(8,vi (x8:Int))],[(2,Ob9 o5_0)],((x8,o5_0)=ER xs k3)∧(∀j,j<k3→He xs (ER xs j))∧(x8%64=0)∧True)) [2,3,5,7] [0] 3 (0,0,Of 8) [(0,0),(2,2)] ⟨rfl,(fun j h=>absurd h (Nat.not_lt_zero j)),(by simp),trivial⟩ ?_))
   rintro⟨k3,x8,o5_0⟩ ac gs ws ⟨hq3,hj3,p2,_⟩ hS
   refine Au (Ae [] 3 hS fun hS=>AB ((x8:Int)<((((BY xs (CU fun j=>Da (BY xs j)))++(C0 (BJ .u64 ((xs.length:Nat):Int) 8) 8)).length:Nat):Int)) hS (fun h3=> ?_) (fun h3=> ?_))
   ·refine BG (Ae [] 4 hS fun hS=>Au (Ae [] 4 hS fun hS=>Br (Ar (ι:=Nat×(Nat→Int)) hg0 hS (fun(x10,o9_0)=>(16-x10,[(10,vi ((x10:Nat):Int))],[(3,AdM o9_0)],(x10≤16)∧(o9_0=Oe xs x8 x10)∧True)) [2,3,5,7,8,9] [0,2] 4 (0,fun _=>0) [(0,0),(2,2),(3,3)] ⟨Ac,rfl,trivial⟩ ?_)))
    rintro⟨x10,o9_0⟩ ac gs ws ⟨hx10,hq4,_⟩ hS
    refine Au (Ae [] 4 hS fun hS=>AB ((x10:Int)<16) hS (fun h4=> ?_) (fun h4=> ?_))
    ·exact BG (Av [(4,GE 4 x10 (4*x10)),(5,DI x8 (4*x10) (x8+(4*x10))),(8,GE 4 x10 (4*x10)),(9,DI x8 (4*x10) (x8+(4*x10))),(10,DI (x8+(4*x10)) 4 ((x8+(4*x10))+4)),(11,Rbk (x8+(4*x10)) ((x8+(4*x10))+4) ((BY xs (CU fun j=>Da (BY xs j)))++(C0 (BJ .u64 ((xs.length:Nat):Int) 8) 8)).length),(12,AR (X5 ((((BY xs (CU fun j=>Da (BY xs j)))++(C0 (BJ .u64 ((xs.length:Nat):Int) 8) 8)).take ((x8+(4*x10))+4)).drop (x8+(4*x10))) 4 Ac)),(14,AG x10 64)] [] 4 hS fun hS=>BV (Av [(1,BQ x10)] [10] 4 hS fun hS=>Ab (Am hg0 hS (x10+1,upd o9_0 x10 (IntKind.wrap .u32 (Jv ((((BY xs (CU fun j=>Da (BY xs j)))++(C0 (BJ .u64 ((xs.length:Nat):Int) 8) 8)).take ((x8+(4*x10))+4)).drop (x8+(4*x10))) 4))) [(0,0),(2,2),(3,3)] ⟨Ac,(A2 (st:=R7 _ _) hq4 rfl rfl),trivial⟩)))
    ·have hT:=hS
     obtain rfl:16=x10:=by omega
     obtain rfl:=hq4.symm
     have hS:=hT
     refine MY (Ae [] 4 hS fun hS=>Br (Ar (ι:=Nat×Nat×(Nat→Int)) hg0 hS (fun(k5,x11,o9_0)=>(64-x11,[(11,vi (x11:Int))],[(3,AdM o9_0)],((x11,o9_0)=EQ xs x8 k5)∧(∀j,j<k5→Hd (EQ xs x8 j))∧(16≤x11∧x11≤64)∧True)) [2,3,5,7,8,9] [0,2] 4 (0,16,Oe xs x8 16) [(0,0),(2,2),(3,3)] ⟨rfl,(fun j h=>absurd h (Nat.not_lt_zero j)),Ac,trivial⟩ ?_))
     rintro⟨k5,x11,o9_0⟩ ac gs ws ⟨hq5,hj5,p3,_⟩ hS
     refine Au (Ae [] 4 hS fun hS=>AB ((x11:Int)<64) hS (fun h5=> ?_) (fun h5=> ?_))
     ·exact BG (Ay [(1,GD x11 15 (x11-15)),(2,AG (x11-15) 64),(4,AR (Fw (o9_0 (x11-15)) 7 Ac)),(6,GD x11 15 (x11-15)),(7,AG (x11-15) 64),(9,AR (Fw (o9_0 (x11-15)) 18 Ac)),(12,GD x11 15 (x11-15)),(13,AG (x11-15) 64),(15,EL 3)] [] 4 hS fun hS=>Ay [(1,GD x11 2 (x11-2)),(2,AG (x11-2) 64),(4,AR (Fw (o9_0 (x11-2)) 17 Ac)),(6,GD x11 2 (x11-2)),(7,AG (x11-2) 64),(9,AR (Fw (o9_0 (x11-2)) 19 Ac)),(12,GD x11 2 (x11-2)),(13,AG (x11-2) 64),(15,EL 10)] [] 4 hS fun hS=>Av [(2,GD x11 16 (x11-16)),(3,AG (x11-16) 64),(8,GD x11 7 (x11-7)),(9,AG (x11-7) 64),(14,AG x11 64)] [] 4 hS fun hS=>BV (Av [(1,BQ x11)] [11] 4 hS fun hS=>Ab (Am hg0 hS (k5+1,x11+1,upd o9_0 x11 (AZ .u32 (AZ .u32 (AZ .u32 (o9_0 (x11-16)) (AK .u32 (AK .u32 (B6 (o9_0 (x11-15)) 7) (B6 (o9_0 (x11-15)) 18)) (AY .u32 (o9_0 (x11-15)) 3))) (o9_0 (x11-7))) (AK .u32 (AK .u32 (B6 (o9_0 (x11-2)) 17) (B6 (o9_0 (x11-2)) 19)) (AY .u32 (o9_0 (x11-2)) 10)))) [(0,0),(2,2),(3,3)] ⟨(A2 (st:=R6) hq5 rfl rfl),(A1 hj5 (by rw[←hq5];exact h5)),Ac,trivial⟩)))
     ·have hT:=hS
      obtain rfl:=BP (by rw[←hq5];first |exact h5|exact not_not_intro h5) hj5
      obtain⟨rfl,rfl⟩:=TZ hq5
      have hS:=hT
      refine CX (Ae [14] 5 hS fun hS=>Au (Ae [] 5 hS fun hS=>Br (Ar (ι:=Nat×(Nat→Int)) hg0 hS (fun(x15,o14_0)=>(64-x15,[(15,vi ((x15:Nat):Int))],[(4,Ob9 o14_0)],(x15≤64)∧(o14_0=Od xs x8 o5_0 x15)∧True)) [2,3,5,7,8,9,14] [0,2,3] 5 (0,o5_0) [(0,0),(2,2),(3,3),(4,4)] ⟨Ac,rfl,trivial⟩ ?_)))
      rintro⟨x15,o14_0⟩ ac gs ws ⟨hx15,hq6,_⟩ hS
      refine Au (Ae [] 5 hS fun hS=>AB ((x15:Int)<64) hS (fun h6=> ?_) (fun h6=> ?_))
      ·exact BG (Ay [(0,AG 4 8)] [] 5 hS fun hS=>Ay [(0,AG 0 8)] [] 5 hS fun hS=>Ay [(0,AG 7 8),(3,AR (Fw (o14_0 4) 6 Ac)),(5,AR (Fw (o14_0 4) 11 Ac)),(8,AR (Fw (o14_0 4) 25 Ac)),(12,AG 5 8),(17,AG 6 8),(23,AG x15 80),(25,EL 32),(29,AG x15 64)] [] 5 hS fun hS=>Ay [(1,AR (Fw (o14_0 0) 2 Ac)),(3,AR (Fw (o14_0 0) 13 Ac)),(6,AR (Fw (o14_0 0) 22 Ac)),(9,AG 1 8),(13,AG 2 8),(17,AG 1 8),(19,AG 2 8)] [] 5 hS fun hS=>Av [(3,AG 0 8),(5,AG 1 8),(7,AG 2 8),(9,AG 3 8),(13,AG 4 8),(15,AG 5 8),(17,AG 6 8)] [] 5 hS fun hS=>BV (Av [(1,BQ x15)] [15] 5 hS fun hS=>Ab (Am hg0 hS (x15+1,upd (upd (upd (upd (upd (upd (upd (upd (fun _=>0) 0 (AZ .u32 (AZ .u32 (AZ .u32 (AZ .u32 (AZ .u32 (o14_0 7) (AK .u32 (AK .u32 (B6 (o14_0 4) 6) (B6 (o14_0 4) 11)) (B6 (o14_0 4) 25))) (AK .u32 (A5 .u32 (o14_0 4) (o14_0 5)) (A5 .u32 (KM .u32 (o14_0 4)) (o14_0 6)))) (IntKind.wrap .u32 (AY .u64 (F9 x15) 32))) (((EQ xs x8 (CU fun j=>Hd (EQ xs x8 j))).2) x15)) (AZ .u32 (AK .u32 (AK .u32 (B6 (o14_0 0) 2) (B6 (o14_0 0) 13)) (B6 (o14_0 0) 22)) (AK .u32 (AK .u32 (A5 .u32 (o14_0 0) (o14_0 1)) (A5 .u32 (o14_0 0) (o14_0 2))) (A5 .u32 (o14_0 1) (o14_0 2)))))) 1 (o14_0 0)) 2 (o14_0 1)) 3 (o14_0 2)) 4 (AZ .u32 (o14_0 3) (AZ .u32 (AZ .u32 (AZ .u32 (AZ .u32 (o14_0 7) (AK .u32 (AK .u32 (B6 (o14_0 4) 6) (B6 (o14_0 4) 11)) (B6 (o14_0 4) 25))) (AK .u32 (A5 .u32 (o14_0 4) (o14_0 5)) (A5 .u32 (KM .u32 (o14_0 4)) (o14_0 6)))) (IntKind.wrap .u32 (AY .u64 (F9 x15) 32))) (((EQ xs x8 (CU fun j=>Hd (EQ xs x8 j))).2) x15)))) 5 (o14_0 4)) 6 (o14_0 5)) 7 (o14_0 6)) [(0,0),(2,2),(3,3),(4,4)] ⟨Ac,(A2 (st:=R5 _ _) hq6 rfl rfl),trivial⟩)))
      ·have hT:=hS
       obtain rfl:64=x15:=by omega
       obtain rfl:=hq6.symm
       have hS:=hT
       refine CX (Ae [] 5 hS fun hS=>Br (Ar (ι:=Nat×(Nat→Int)) hg0 hS (fun(x20,o5_0_7)=>(8-x20,[(20,vi ((x20:Nat):Int))],[(2,Ob9 o5_0_7)],(x20≤8)∧(o5_0_7=Oc xs x8 o5_0 x20)∧True)) [2,3,5,7,8,14] [0,4] 5 (0,o5_0) [(0,0),(2,2),(4,4)] ⟨Ac,rfl,trivial⟩ ?_))
       rintro⟨x20,o5_0_7⟩ ac gs ws ⟨hx20,hq7,_⟩ hS
       refine Au (Ae [] 5 hS fun hS=>AB ((x20:Int)<8) hS (fun h7=> ?_) (fun h7=> ?_))
       ·exact BG (Av [(2,AG x20 8),(5,AG x20 8),(8,AG x20 8)] [] 5 hS fun hS=>BV (Av [(1,BQ x20)] [20] 5 hS fun hS=>Ab (Am hg0 hS (x20+1,upd o5_0_7 x20 (AZ .u32 (o5_0_7 x20) ((Od xs x8 o5_0 64) x20))) [(0,0),(2,2),(4,4)] ⟨Ac,(A2 (st:=R4 _ _ _) hq7 rfl rfl),trivial⟩)))
       ·have hT:=hS
        obtain rfl:8=x20:=by omega
        obtain rfl:=hq7.symm
        have hS:=hT
        exact Vh (Av [(1,DI x8 64 (x8+64))] [8] 5 hS fun hS=>Ab (Am hg0 hS (k3+1,x8+64,Oc xs x8 o5_0 8) [(0,0),(2,2)] ⟨(A2 (st:=R8 _) hq3 rfl rfl),(A1 hj3 (by rw[←hq3];exact h3)),Ac,trivial⟩))
   ·have hT:=hS
    obtain rfl:=BP (by rw[←hq3];first |exact h3|exact not_not_intro h3) hj3
    obtain⟨rfl,rfl⟩:=TZ hq3
    have hS:=hT
    refine CX (Ae [] 3 hS fun hS=>Au (Ae [] 3 hS fun hS=>Br ?_))
    obtain⟨gs,hS⟩:=hS.nilk 21 5 [.int .u8]
    refine Ar (ι:=Nat×(List Int)) hg0 hS (fun(x22,x21)=>(8-x22,[(22,vi ((x22:Nat):Int))],[(3,.sl 5 [.int .u8] x21)],(x22≤8)∧(x21=Oa xs x22)∧(x21.length=4*x22)∧True)) [2,5,21] [2] 4 (0,[]) [(2,2),(3,3)] ⟨Ac,rfl,rfl,trivial⟩ ?_
    rintro⟨x22,x21⟩ ac gs ws ⟨hx22,hq8,p4,_⟩ hS
    refine Au (Ae [] 4 hS fun hS=>AB ((x22:Int)<8) hS (fun h8=> ?_) (fun h8=> ?_))
    ·exact BG (Av [(2,AG x22 8),(5,AO (TU (IntKind.wrap .u64 (((ER xs (CU fun j=>He xs (ER xs j))).2) x22)) 4 Ac) [] [(0,4)]),(6,Ge x21.length ((C0 (IntKind.wrap .u64 (((ER xs (CU fun j=>He xs (ER xs j))).2) x22)) 4).length) 1)] [21] 6 hS fun hS=>BV (Av [(1,BQ x22)] [22] 6 hS fun hS=>Ab (Am hg0 hS (x22+1,x21++(C0 (IntKind.wrap .u64 (((ER xs (CU fun j=>He xs (ER xs j))).2) x22)) 4)) [(2,2),(3,5)] ⟨Ac,(A2 (st:=R3 _) hq8 rfl rfl),(by rw[List.length_append,PX];omega),trivial⟩)))
    ·have hT:=hS
     obtain rfl:8=x22:=by omega
     obtain rfl:=hq8.symm
     have hS:=hT
     refine CX (Ae [] 4 hS fun hS=>AU ?_)
     obtain⟨gs,hS⟩:=hS.rx [(0,3)] [2] [0] 1 hg0
     exact Bh (kE ..) hS
end
@[simp] theorem kD (xs:List Int):(HM xs).length=32:=by
 have key:∀i,(Oa xs i).length=4*i:=by
  intro i
  induction i with
  |zero=>rfl
  |succ i ih=>
   show(_++C0 _ _).length=_
   rw[List.length_append,PX,ih];omega
 rw[kE]
 exact key 8
end
end Go.Sx.Tryz
namespace Go.Sx.Tryz
open Go.Mi Go.RowKit Go.Sx Go.Proofs
noncomputable section
@[simp] theorem Sf (xs:List Int) (n:Nat) (h:xs.length≤n):(FV xs n).length=n:=by
 rw[ZP];unfold TJ
 rw[List.length_append,List.length_take,List.length_drop,List.length_replicate];omega
def zA (l:List (List Int)):Con:=⟨[.ls false [.sl (.int .u8)] l],[],lb (Dz l),[]⟩
theorem PV (l:List (List Int)) (hn:l.length≤1000) (hm:∀j,(l.getD j (rz [.sl (.int .u8)])).length≤3000):ConOk Tryz.prog 98 (zA l):=ConOk.frz [] 0 5 [.int .u8] (Dz l) (u4 l hn hm) (by kernel_rfl)
def yX (xs:List Int):Con:=⟨[lb xs],[],lb (HM xs),[]⟩
theorem VL (xs:List Int) (hx:xs.length≤1000000):ConOk Tryz.prog 99 (yX xs):=ConOk.frz [] 0 5 [.int .u8] (HM xs) (uN xs hx) (by kernel_rfl)
section
variable (k:List Int)
def Sb (x8:Nat):((List Int)×(List Int))→((List Int)×(List Int)):=fun(x6,x7)=>(x6.set x8 (AK .u8 ((FV k 64).getD x8 0) 54),x7.set x8 (AK .u8 ((FV k 64).getD x8 0) 92))
def Fx (k:List Int):Nat→(List Int)×(List Int)
 |0=>(List.replicate 64 (0:Int),List.replicate 64 (0:Int))
 |x8+1=>Sb k x8 (Fx k x8)
def kR (xs:List Int):(List Int):=HM (Dz [(Fx k 64).2,HM (Dz [(Fx k 64).1,xs])])
def Gj (xs:List Int):(List Int):=AJ (kR k xs)
theorem kS (xs:List Int):Gj k xs=kR k xs:=Af _
end
@[simp] theorem PE (k xs:List Int):(Gj k xs).length=32:=by rw[kS];exact kD ..
section
variable (k xs:List Int)
def AcW (z_:(List Int):=Gj k xs):Con:=⟨[lb k,lb xs],[],lb z_,[]⟩
theorem ZN (hk:k.length≤64) (hx:xs.length≤900):ConOk Tryz.prog 66 (AcW k xs):=by
 refine cy 0 Tryz.func66 rfl Tryz.ntmps66 fun hg0 hS=> ?_
 have A6:k.length≤9223372036854775807:=hS.len 0 rfl
 have Bf:xs.length≤9223372036854775807:=hS.len 1 rfl
 have hk1:¬(64:Int)<((k.length:Nat):Int):=Ac
 refine Ae [] 0 hS fun hS=>Au (Ay [(2,Ez hk1)] [] 0 hS fun hS=>Ai hS (B5 (Ay [(1,AO (kW k 64 Ac) [] [(0,0)])] [] 1 hS fun hS=>Ay [(0,g8 64 1)] [] 2 hS fun hS=>Ay [(0,g8 64 1)] [] 3 hS fun hS=>Au (Ae [] 3 hS fun hS=>Br (Ar (ι:=Nat×(List Int)×(List Int)) hg0 hS (fun(x8,x6,x7)=>(64-x8,[(8,vi ((x8:Nat):Int))],[(1,.sl 5 [.int .u8] x6),(2,.sl 5 [.int .u8] x7)],(x8≤64)∧((x6,x7)=Fx k x8)∧(x6.length=64∧x7.length=64)∧True)) [1,4,5,6,7] [0] 3 (0,List.replicate 64 (0:Int),List.replicate 64 (0:Int)) [(0,0),(1,1),(2,2)] ⟨Ac,rfl,(by simp),trivial⟩ ?_)))))
 rintro⟨x8,x6,x7⟩ ac gs ws ⟨hx8,hq1,p1,_⟩ hS
 refine Au (Ae [] 3 hS fun hS=>AB ((x8:Int)<64) hS (fun h1=> ?_) (fun h1=> ?_))
 ·refine BG (Au ?_)
  have hfl:=Sf k 64 hk
  refine Av [(4,AG x8 ((FV k 64).length)),(7,AG x8 x6.length)] [] 3 hS fun hS=>Ab ?_
  have hfl:=Sf k 64 hk
  exact Av [(4,AG x8 ((FV k 64).length)),(7,AG x8 x7.length)] [] 3 hS fun hS=>BV (Av [(1,BQ x8)] [8] 3 hS fun hS=>Ab (Am hg0 hS (x8+1,x6.set x8 (AK .u8 ((FV k 64).getD x8 0) 54),x7.set x8 (AK .u8 ((FV k 64).getD x8 0) 92)) [(0,0),(1,1),(2,2)] ⟨Ac,(A2 (st:=Sb _) hq1 rfl rfl),(by rw[List.length_set,List.length_set];exact p1),trivial⟩))
 ·have hT:=hS
  obtain rfl:64=x8:=by omega
  obtain⟨rfl,rfl⟩:=TZ hq1
  have hS:=hT
  refine MY ?_
  obtain⟨gs,hS⟩:=hS.fz 1
  obtain⟨gs,hS⟩:=hS.fz 2
  exact Av [(4,AR (PV [(Fx k 64).1,xs] AD (Uv (by repeat (first |exact Yt|(apply Uw;focus (first |omega|(simp<;>omega)))))))),(5,AR (VL (Dz [(Fx k 64).1,xs]) AD)),(7,AR (PV [(Fx k 64).2,HM (Dz [(Fx k 64).1,xs])] AD (Uv (by repeat (first |exact Yt|(apply Uw;focus (first |omega|(simp<;>omega)))))))),(8,AR (VL (Dz [(Fx k 64).2,HM (Dz [(Fx k 64).1,xs])]) AD))] [] 3 hS fun hS=>D6 (Bh (kS ..) hS)
def M_ (k1:Nat):(Nat×(List Int)×(List Int))→(Nat×(List Int)×(List Int)):=fun(x9,x7,x8)=>(x9+1,x7++(Gj k (Dz [x8,xs,[(IntKind.wrap .u8 ((x9:Nat):Int))]])),Gj k (Dz [x8,xs,[(IntKind.wrap .u8 ((x9:Nat):Int))]]))
end
def DC (k xs:List Int):Nat→Nat×(List Int)×(List Int)
 |0=>(1,[],[])
 |k1+1=>M_ k xs k1 (DC k xs k1)
def F_:(Nat×(List Int)×(List Int))→Prop:=fun(x9,x7,x8)=>((x7.length:Nat):Int)<128
section
variable (k xs:List Int)
def X6:(List Int):=((DC k xs (CU fun j=>F_ (DC k xs j))).2.1).take 128
def TK:(List Int):=AJ (X6 k xs)
theorem kY:TK k xs=X6 k xs:=Af _
def AcX (z_:(List Int):=TK k xs):Con:=⟨[lb k,lb xs,vi 128],[],lb z_,[]⟩
theorem uY (hk:k.length≤64) (hx:xs.length≤100):ConOk Tryz.prog 65 (AcX k xs):=by
 refine cy 0 Tryz.func65 rfl Tryz.ntmps65 fun hg0 hS=> ?_
 have A6:k.length≤9223372036854775807:=hS.len 0 rfl
 have Bf:xs.length≤9223372036854775807:=hS.len 1 rfl
 refine Ae [] 0 hS fun hS=>Au (Ae [] 0 hS fun hS=>Ai hS (B5 (Ae [] 0 hS fun hS=>Au (Ae [] 0 hS fun hS=>Br ?_))))
 obtain⟨gs,hS⟩:=hS.nilk 7 5 [.int .u8]
 have hS:=hS.wk 8 (lb [])
 refine Ar (ι:=Nat×Nat×(List Int)×(List Int)) hg0 hS (fun(k1,x9,x7,x8)=>(128-x7.length,[(8,lb x8),(9,vi (x9:Int))],[(0,.sl 5 [.int .u8] x7)],((x9,x7,x8)=DC k xs k1)∧(∀j,j<k1→F_ (DC k xs j))∧(x7.length≤160∧x8.length≤32∧x9≤1+x7.length)∧True)) [0,1,2,6,7] [] 1 (0,1,[],[]) [(0,0)] ⟨rfl,(fun j h=>absurd h (Nat.not_lt_zero j)),(by simp),trivial⟩ ?_
 rintro⟨k1,x9,x7,x8⟩ ac gs ws ⟨hq1,hj1,p5,_⟩ hS
 refine Au (Ae [] 1 hS fun hS=>AB (((x7.length:Nat):Int)<128) hS (fun h1=> ?_) (fun h1=> ?_))
 ·exact BG (Ay [(7,AR (PV [x8,xs,[(IntKind.wrap .u8 ((x9:Nat):Int))]] AD (Uv (by repeat (first |exact Yt|(apply Uw;focus (first |omega|(simp<;>omega)))))))),(8,AR (ZN k (Dz [x8,xs,[(IntKind.wrap .u8 ((x9:Nat):Int))]]) AD AD))] [8] 1 hS fun hS=>Av [(2,Ge x7.length ((Gj k (Dz [x8,xs,[(IntKind.wrap .u8 (x9:Int))]])).length) 1)] [7] 2 hS fun hS=>BV (Av [(1,BQ x9)] [9] 2 hS fun hS=>Ab (Am hg0 hS (k1+1,x9+1,x7++(Gj k (Dz [x8,xs,[(IntKind.wrap .u8 (x9:Int))]])),Gj k (Dz [x8,xs,[(IntKind.wrap .u8 (x9:Int))]])) [(0,1)] ⟨(A2 (st:=M_ _ _) hq1 rfl rfl),(A1 hj1 (by rw[←hq1];exact h1)),(by rw[List.length_append,PE];omega),trivial⟩ (by show 128-(x7++_).length<128-x7.length;rw[List.length_append,PE];omega))))
 ·have hT:=hS
  obtain rfl:=BP (by rw[←hq1];first |exact h1|exact not_not_intro h1) hj1
  obtain⟨rfl,rfl,rfl⟩:=lX hq1
  have hS:=hT
  refine MY ?_
  obtain⟨gs,hS⟩:=hS.fz 0
  exact Av [(2,g9 128 ((DC k xs (CU fun j=>F_ (DC k xs j))).2.1).length)] [] 1 hS fun hS=>D6 (Bh (kY ..) hS)
def lI:(List Int):=TK (Gj ([]:List Int) k) xs
def TN:(List Int):=AJ (lI k xs)
theorem lK:TN k xs=lI k xs:=Af _
def Ac0 (z_:(List Int):=TN k xs):Con:=⟨[.v (.slice none 0 0),lb k,lb xs,vi 128],[],lb z_,[]⟩
theorem uZ (hk:k.length≤900) (hx:xs.length≤100):ConOk Tryz.prog 33 (Ac0 k xs):=by
 refine cy 0 Tryz.func33 rfl Tryz.ntmps33 fun hg0 hS=> ?_
 have Bf:k.length≤9223372036854775807:=hS.len 1 rfl
 have CF:xs.length≤9223372036854775807:=hS.len 2 rfl
 exact Ae [] 0 hS fun hS=>Ay [(2,AR (ZN ([]:List Int) k AD AD)),(5,AR (uY (Gj ([]:List Int) k) xs AD AD))] [] 0 hS fun hS=>AU (Bh (lK ..) hS)
end
end
end Go.Sx.Tryz
