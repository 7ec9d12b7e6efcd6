/- General lemmas, walks. -/
import Derived.Test.YtmkplecnmklbfaaGreatJ6PPlays
set_option maxRecDepth 100000
set_option maxHeartbeats 1000000
set_option linter.unusedSimpArgs false
set_option linter.unusedVariables false
set_option linter.unnecessarySimpa false
set_option linter.unusedSectionVars false
namespace Go.Sx.Tryz
open Go.Mi Go.RowKit Go.Sx Go.Proofs Go.Proofs.Tryz
noncomputable section
open List (replicate map_drop take_left drop_left range'_concat)
def U7:O:= .ob 133 (Jg [vi 0,vi 0,vi 0,.v (.slice none 0 0)])
section
variable (x0:Nat)
def Pp (x1 x2:Nat) (x3:Ad):O:= .ob 133 (Jg [vi ((x0:Nat):Int),vi ((x1:Nat):Int),vi ((x2:Nat):Int),lb x3])
def Po (x1 x2:Nat):O:= .ob 133 (Jg [vi ((x0:Nat):Int),vi ((x1:Nat):Int),vi ((x2:Nat):Int),.v (.slice none 0 0)])
def Ac9:O:= .ob 133 (Jg [vi ((x0:Nat):Int),vi 0,vi 0,.v (.slice none 0 0)])
def Ac8 (x1:Nat):O:= .ob 133 (Jg [vi ((x0:Nat):Int),vi ((x1:Nat):Int),vi 0,.v (.slice none 0 0)])
end
theorem K3 {x:Int} (h:0<=x) (h2:¬1073741824<x):IntKind.wrap .i64 x=((x.toNat:Nat):Int):=by
 rw[EI Ac Ac];omega
section
variable (xs:Ad)
def Gu:Bool:=AV (if Gn xs=true then(if(1073741824:Int)<(Af xs).1 then false else(if Gn (Af xs).2=true then(if(1073741824:Int)<((Af (Af xs).2).1)then false else(if Gn ((Af (Af xs).2).2)=true then(if(1073741824:Int)<((Af ((Af (Af xs).2).2)).1)then false else(if BA ((Af ((Af (Af xs).2).2)).2) 1000=true then true else false))else false))else false))else false)
def AQ:Nat×Nat×Nat×Nat:=AV (if Gn xs=true then(if(1073741824:Int)<(Af xs).1 then(2,0,0,0)else(if Gn (Af xs).2=true then(if(1073741824:Int)<((Af (Af xs).2).1)then(2,((Af xs).1.toNat),0,0)else(if Gn ((Af (Af xs).2).2)=true then(if(1073741824:Int)<((Af ((Af (Af xs).2).2)).1)then(2,((Af xs).1.toNat),((((Af (Af xs).2).1)).toNat),0)else((BQ ((Af ((Af (Af xs).2).2)).2) 1000),((Af xs).1.toNat),((((Af (Af xs).2).1)).toNat),((((Af ((Af (Af xs).2).2)).1)).toNat)))else(2,((Af xs).1.toNat),((((Af (Af xs).2).1)).toNat),0)))else(2,((Af xs).1.toNat),0,0)))else(2,0,0,0))
def Cd:Ad×Nat×Nat×Nat×Ad:=AV (((((Af ((Af ((Af (Af xs).2).2)).2)).2).drop (((Af ((Af ((Af (Af xs).2).2)).2)).1).toNat)),((Af xs).1.toNat),((((Af (Af xs).2).1)).toNat),((((Af ((Af (Af xs).2).2)).1)).toNat),(((Af ((Af ((Af (Af xs).2).2)).2)).2).take (((Af ((Af ((Af (Af xs).2).2)).2)).1).toNat))))
def AcX (z_:Ad×Nat×Nat×Nat×Ad:=Cd xs):Con:=⟨[.cp 0 0,.cp 1 0],[(0,C8 xs),(1,U7)],.tu (Jg []),[(0,C8 (z_.1)),(1,Pp z_.2.1 z_.2.2.1 z_.2.2.2.1 (z_.2.2.2.2))]⟩
theorem nY (h:xs.length<=100000000000000) (hk:Gu xs=true):AP 141 (AcX xs):=by
 refine cy 2 func141 rfl ntmps141 λY V=>Ii ?_
 have hnn:=(AU xs).2
 have hn2:=CK xs
 have hn3:=Cs xs
 refine Dl [9] 2 V λV=>Ae (BC (wp_loop_rounds 4 (Bc (n:=3) (Aj [] 2 V λV=>Ar (AG V (B3 (Ay [(0,AH 0 3)] [13,14] 2 V λV=>Ar ?_)))))))
 by_cases h1:Gn xs=true
 ·refine Aw [(1,AA (HZ xs Ax h1) [(0,0)] [])] [15,16] 2 V λV=>CQ (Aj [17] 2 V λV=>AJ ((1073741824:Int)<(Af xs).1) V (λh2=> ?_) (λh2=> ?_))
  ·have hK:Gu xs=false:=(Ab _).trans ((ah h1).trans (ah h2))
   rw[hK]at hk
   cases hk
  ·refine Cb (Aw [(2,Ly (((Af xs).1.toNat:Nat):Int) [IntKind.wrap .i64 (Af xs).1=(((Af xs).1.toNat:Nat):Int)] ⟨K3 (AU _).1 h2,aa⟩)] [20,21,22,23] 2 V λV=>Ck (Dl [11,24] 2 V λV=>Ae (Bc (n:=2) (Aj [] 2 V λV=>Ar (AG V (B3 (Ay [(0,AH 1 3)] [13,14] 2 V λV=>Ar ?_)))))))
   by_cases h3:Gn (Af xs).2=true
   ·refine Aw [(1,AA (HZ (Af xs).2 Ax h3) [(0,0)] [])] [15,16] 2 V λV=>CQ (Aj [17] 2 V λV=>AJ ((1073741824:Int)<((Af (Af xs).2).1)) V (λh4=> ?_) (λh4=> ?_))
    ·have hK:Gu xs=false:=(Ab _).trans ((ah h1).trans ((aj h2).trans ((ah h3).trans (ah h4))))
     rw[hK]at hk
     cases hk
    ·refine Cb (Aw [(2,Ly (((((Af (Af xs).2).1)).toNat:Nat):Int) [IntKind.wrap .i64 (((Af (Af xs).2).1))=(((((Af (Af xs).2).1)).toNat:Nat):Int)] ⟨K3 (AU _).1 h4,aa⟩)] [20,21,22,23] 2 V λV=>Ck (Dl [11,24] 2 V λV=>Ae (Bc (n:=1) (Aj [] 2 V λV=>Ar (AG V (B3 (Ay [(0,AH 2 3)] [13,14] 2 V λV=>Ar ?_)))))))
     by_cases h5:Gn ((Af (Af xs).2).2)=true
     ·refine Aw [(1,AA (HZ ((Af (Af xs).2).2) Ax h5) [(0,0)] [])] [15,16] 2 V λV=>CQ (Aj [17] 2 V λV=>AJ ((1073741824:Int)<((Af ((Af (Af xs).2).2)).1)) V (λh6=> ?_) (λh6=> ?_))
      ·have hK:Gu xs=false:=(Ab _).trans ((ah h1).trans ((aj h2).trans ((ah h3).trans ((aj h4).trans ((ah h5).trans (ah h6))))))
       rw[hK]at hk
       cases hk
      ·refine Cb (Aw [(2,Ly (((((Af ((Af (Af xs).2).2)).1)).toNat:Nat):Int) [IntKind.wrap .i64 (((Af ((Af (Af xs).2).2)).1))=(((((Af ((Af (Af xs).2).2)).1)).toNat:Nat):Int)] ⟨K3 (AU _).1 h6,aa⟩)] [20,21,22,23] 2 V λV=>Ck (Dl [11,24] 2 V λV=>Ae (Bc (n:=0) (Aj [] 2 V λV=>Ar (Ai V (Dw ?_))))))
       by_cases h7:BA ((Af ((Af (Af xs).2).2)).2) 1000=true
       ·exact Aw [(1,AA (Eg ((Af ((Af (Af xs).2).2)).2) 1000 Ax Ac h7) [(0,0)] [])] [] 2 V λV=>l8 (Ab _) V
       ·have hK:Gu xs=false:=(Ab _).trans ((ah h1).trans ((aj h2).trans ((ah h3).trans ((aj h4).trans ((ah h5).trans ((aj h6).trans (aj h7)))))))
        rw[hK]at hk
        cases hk
     ·have hK:Gu xs=false:=(Ab _).trans ((ah h1).trans ((aj h2).trans ((ah h3).trans ((aj h4).trans (aj h5)))))
      rw[hK]at hk
      cases hk
   ·have hK:Gu xs=false:=(Ab _).trans ((ah h1).trans ((aj h2).trans (aj h3)))
    rw[hK]at hk
    cases hk
 ·have hK:Gu xs=false:=(Ab _).trans (aj h1)
  rw[hK]at hk
  cases hk
def bC:Con:=⟨[.cp 0 0,.cp 1 0],[(0,C8 xs),(1,U7)],.v (.iface 44 (.int .i64 (((AQ xs).1:Nat):Int))),[(1,Po (AQ xs).2.1 (AQ xs).2.2.1 (AQ xs).2.2.2)]⟩
theorem nW (h:xs.length<=100000000000000) (hk:Gu xs=false):EB Tryz.prog 141 (bC xs):=by
 refine C4 rfl (nb:=2) func141 rfl rfl ntmps141 rfl rfl rfl λg0 w0 ac gs ws Y V=> ?_
 have V:=V.sp
 refine Ii ?_
 have hnn:=(AU xs).2
 have hn2:=CK xs
 have hn3:=Cs xs
 refine Dl [9] 2 V λV=>Ae (BC (wp_loop_rounds 4 (Bc (n:=3) (Aj [] 2 V λV=>Ar (AG V (B3 (Ay [(0,AH 0 3)] [13,14] 2 V λV=>Ar ?_)))))))
 by_cases h1:Gn xs=true
 ·refine Aw [(1,AA (HZ xs Ax h1) [(0,0)] [])] [15,16] 2 V λV=>CQ (Aj [17] 2 V λV=>AJ ((1073741824:Int)<(Af xs).1) V (λh2=> ?_) (λh2=> ?_))
  ·refine Fl (E:=E0) hZ [] aa none (λr hr=>by cases hr) 1 0 (λ_=>[]) (.v (.iface 44 (.int .i64 2))) [] [1] [] [(1,some (U7))] 2 (by kernel_rfl) aa V.st λac gs ws pv V hpv=>AE (B1 (AE (AE (B1 (AE ?_)))))
   have hM:AQ xs=(2,0,0,0):=(Ab _).trans ((ah h1).trans (ah h2))
   exact Ml rfl V hpv (by show _=(.v (.iface 44 (.int .i64 (((AQ xs).1:Nat):Int))):D);rw[hM]<;>rfl) (by show E6 _ [(1,Po (AQ xs).2.1 (AQ xs).2.2.1 (AQ xs).2.2.2)] true;rw[hM];first |(simp only[];exact⟨rfl,aa⟩)|exact⟨rfl,aa⟩)
  ·refine Cb (Aw [(2,Ly (((Af xs).1.toNat:Nat):Int) [IntKind.wrap .i64 (Af xs).1=(((Af xs).1.toNat:Nat):Int)] ⟨K3 (AU _).1 h2,aa⟩)] [20,21,22,23] 2 V λV=>Ck (Dl [11,24] 2 V λV=>Ae (Bc (n:=2) (Aj [] 2 V λV=>Ar (AG V (B3 (Ay [(0,AH 1 3)] [13,14] 2 V λV=>Ar ?_)))))))
   by_cases h3:Gn (Af xs).2=true
   ·refine Aw [(1,AA (HZ (Af xs).2 Ax h3) [(0,0)] [])] [15,16] 2 V λV=>CQ (Aj [17] 2 V λV=>AJ ((1073741824:Int)<((Af (Af xs).2).1)) V (λh4=> ?_) (λh4=> ?_))
    ·refine Fl (E:=E0) hZ [] aa none (λr hr=>by cases hr) 1 0 (λ_=>[]) (.v (.iface 44 (.int .i64 2))) [] [1] [] [(1,some (Ac9 ((Af xs).1.toNat)))] 2 (by kernel_rfl) aa V.st λac gs ws pv V hpv=>AE (B1 (AE (AE (B1 (AE ?_)))))
     have hM:AQ xs=(2,((Af xs).1.toNat),0,0):=(Ab _).trans ((ah h1).trans ((aj h2).trans ((ah h3).trans (ah h4))))
     exact Ml rfl V hpv (by show _=(.v (.iface 44 (.int .i64 (((AQ xs).1:Nat):Int))):D);rw[hM]<;>rfl) (by show E6 _ [(1,Po (AQ xs).2.1 (AQ xs).2.2.1 (AQ xs).2.2.2)] true;rw[hM];first |(simp only[];exact⟨rfl,aa⟩)|exact⟨rfl,aa⟩)
    ·refine Cb (Aw [(2,Ly (((((Af (Af xs).2).1)).toNat:Nat):Int) [IntKind.wrap .i64 (((Af (Af xs).2).1))=(((((Af (Af xs).2).1)).toNat:Nat):Int)] ⟨K3 (AU _).1 h4,aa⟩)] [20,21,22,23] 2 V λV=>Ck (Dl [11,24] 2 V λV=>Ae (Bc (n:=1) (Aj [] 2 V λV=>Ar (AG V (B3 (Ay [(0,AH 2 3)] [13,14] 2 V λV=>Ar ?_)))))))
     by_cases h5:Gn ((Af (Af xs).2).2)=true
     ·refine Aw [(1,AA (HZ ((Af (Af xs).2).2) Ax h5) [(0,0)] [])] [15,16] 2 V λV=>CQ (Aj [17] 2 V λV=>AJ ((1073741824:Int)<((Af ((Af (Af xs).2).2)).1)) V (λh6=> ?_) (λh6=> ?_))
      ·refine Fl (E:=E0) hZ [] aa none (λr hr=>by cases hr) 1 0 (λ_=>[]) (.v (.iface 44 (.int .i64 2))) [] [1] [] [(1,some (Ac8 ((Af xs).1.toNat) ((((Af (Af xs).2).1)).toNat)))] 2 (by kernel_rfl) aa V.st λac gs ws pv V hpv=>AE (B1 (AE (AE (B1 (AE ?_)))))
       have hM:AQ xs=(2,((Af xs).1.toNat),((((Af (Af xs).2).1)).toNat),0):=(Ab _).trans ((ah h1).trans ((aj h2).trans ((ah h3).trans ((aj h4).trans ((ah h5).trans (ah h6))))))
       exact Ml rfl V hpv (by show _=(.v (.iface 44 (.int .i64 (((AQ xs).1:Nat):Int))):D);rw[hM]<;>rfl) (by show E6 _ [(1,Po (AQ xs).2.1 (AQ xs).2.2.1 (AQ xs).2.2.2)] true;rw[hM];first |(simp only[];exact⟨rfl,aa⟩)|exact⟨rfl,aa⟩)
      ·refine Cb (Aw [(2,Ly (((((Af ((Af (Af xs).2).2)).1)).toNat:Nat):Int) [IntKind.wrap .i64 (((Af ((Af (Af xs).2).2)).1))=(((((Af ((Af (Af xs).2).2)).1)).toNat:Nat):Int)] ⟨K3 (AU _).1 h6,aa⟩)] [20,21,22,23] 2 V λV=>Ck (Dl [11,24] 2 V λV=>Ae (Bc (n:=0) (Aj [] 2 V λV=>Ar (Ai V (Dw ?_))))))
       by_cases h7:BA ((Af ((Af (Af xs).2).2)).2) 1000=true
       ·refine Aw [(1,AA (Eg ((Af ((Af (Af xs).2).2)).2) 1000 Ax Ac h7) [(0,0)] [])] [] 2 V λV=> ?_
        have hK:Gu xs=true:=(Ab _).trans ((ah h1).trans ((aj h2).trans ((ah h3).trans ((aj h4).trans ((ah h5).trans ((aj h6).trans (ah h7)))))))
        rw[hK]at hk
        cases hk
       ·refine Fl (E:=E0) hZ [] aa (some ⟨102,(G_ ((Af ((Af (Af xs).2).2)).2) 1000),[(0,0)],[]⟩) (λr hr=>by cases hr;exact Hs ((Af ((Af (Af xs).2).2)).2) 1000 Ax Ac (Cj h7)) 1 12 (λ_=>[nd [.cp 0 0,vi 1000] [some (C8 ((Af ((Af (Af xs).2).2)).2))]]) (.v (.iface 44 (.int .i64 ((BQ ((Af ((Af (Af xs).2).2)).2) 1000:Nat):Int)))) [] [1] [] [(1,some (Po ((Af xs).1.toNat) ((((Af (Af xs).2).1)).toNat) ((((Af ((Af (Af xs).2).2)).1)).toNat)))] 2 (by kernel_rfl) ⟨rfl,aa⟩ V.st λac gs ws pv V hpv=> ?_
        have hM:AQ xs=((BQ ((Af ((Af (Af xs).2).2)).2) 1000),((Af xs).1.toNat),((((Af (Af xs).2).1)).toNat),((((Af ((Af (Af xs).2).2)).1)).toNat)):=(Ab _).trans ((ah h1).trans ((aj h2).trans ((ah h3).trans ((aj h4).trans ((ah h5).trans (aj h6))))))
        exact Ml rfl V hpv (by show _=(.v (.iface 44 (.int .i64 (((AQ xs).1:Nat):Int))):D);rw[hM]<;>rfl) (by show E6 _ [(1,Po (AQ xs).2.1 (AQ xs).2.2.1 (AQ xs).2.2.2)] true;rw[hM];first |(simp only[];exact⟨rfl,aa⟩)|exact⟨rfl,aa⟩)
     ·refine Fl (E:=E0) hZ [] aa (some ⟨126,(Ls ((Af (Af xs).2).2)),[(0,0)],[]⟩) (λr hr=>by cases hr;exact Km ((Af (Af xs).2).2) Ax (Cj h5)) 1 4 (λ_=>[nd [.cp 0 0] [some (C8 ((Af (Af xs).2).2))]]) (.v (.iface 44 (.int .i64 2))) [] [1] [] [(1,some (Ac8 ((Af xs).1.toNat) ((((Af (Af xs).2).1)).toNat)))] 2 (by kernel_rfl) ⟨rfl,aa⟩ V.st λac gs ws pv V hpv=>AE (B1 (AE (AE (B1 (AE ?_)))))
      have hM:AQ xs=(2,((Af xs).1.toNat),((((Af (Af xs).2).1)).toNat),0):=(Ab _).trans ((ah h1).trans ((aj h2).trans ((ah h3).trans ((aj h4).trans (aj h5)))))
      exact Ml rfl V hpv (by show _=(.v (.iface 44 (.int .i64 (((AQ xs).1:Nat):Int))):D);rw[hM]<;>rfl) (by show E6 _ [(1,Po (AQ xs).2.1 (AQ xs).2.2.1 (AQ xs).2.2.2)] true;rw[hM];first |(simp only[];exact⟨rfl,aa⟩)|exact⟨rfl,aa⟩)
   ·refine Fl (E:=E0) hZ [] aa (some ⟨126,(Ls (Af xs).2),[(0,0)],[]⟩) (λr hr=>by cases hr;exact Km (Af xs).2 Ax (Cj h3)) 1 4 (λ_=>[nd [.cp 0 0] [some (C8 (Af xs).2)]]) (.v (.iface 44 (.int .i64 2))) [] [1] [] [(1,some (Ac9 ((Af xs).1.toNat)))] 2 (by kernel_rfl) ⟨rfl,aa⟩ V.st λac gs ws pv V hpv=>AE (B1 (AE (AE (B1 (AE ?_)))))
    have hM:AQ xs=(2,((Af xs).1.toNat),0,0):=(Ab _).trans ((ah h1).trans ((aj h2).trans (aj h3)))
    exact Ml rfl V hpv (by show _=(.v (.iface 44 (.int .i64 (((AQ xs).1:Nat):Int))):D);rw[hM]<;>rfl) (by show E6 _ [(1,Po (AQ xs).2.1 (AQ xs).2.2.1 (AQ xs).2.2.2)] true;rw[hM];first |(simp only[];exact⟨rfl,aa⟩)|exact⟨rfl,aa⟩)
 ·refine Fl (E:=E0) hZ [] aa (some ⟨126,(Ls xs),[(0,0)],[]⟩) (λr hr=>by cases hr;exact Km xs Ax (Cj h1)) 1 4 (λ_=>[nd [.cp 0 0] [some (C8 xs)]]) (.v (.iface 44 (.int .i64 2))) [] [1] [] [(1,some (U7))] 2 (by kernel_rfl) ⟨rfl,aa⟩ V.st λac gs ws pv V hpv=>AE (B1 (AE (AE (B1 (AE ?_)))))
  have hM:AQ xs=(2,0,0,0):=(Ab _).trans (aj h1)
  exact Ml rfl V hpv (by show _=(.v (.iface 44 (.int .i64 (((AQ xs).1:Nat):Int))):D);rw[hM]<;>rfl) (by show E6 _ [(1,Po (AQ xs).2.1 (AQ xs).2.2.1 (AQ xs).2.2.2)] true;rw[hM];first |(simp only[];exact⟨rfl,aa⟩)|exact⟨rfl,aa⟩)
theorem Lm:(Cd xs).1.length<=xs.length:=by
 have h3:=Cs xs
 have h4:=(AU (Af (Af (Af xs).2).2).2).2
 unfold Cd;rw[Ab]
 show(List.drop _ _).length<=_
 rw[av]
 omega
theorem GO:0<(AQ xs).1:=by
 unfold AQ;rw[Ab]
 repeat' (first |exact(by decide:(0:Nat)<2)|exact IE _ _|split)
def Kj:Bool:=AV (if Gu xs=true then(if Er (Cd xs).1=true then true else false)else false)
def B6:Nat×Nat×Nat×Nat×Ad:=AV (if Gu xs=true then(2,(Cd xs).2.1,(Cd xs).2.2.1,(Cd xs).2.2.2.1,(Cd xs).2.2.2.2)else((AQ xs).1,(AQ xs).2.1,(AQ xs).2.2.1,(AQ xs).2.2.2,[]))
def CP:Nat×Nat×Nat×Ad:=AV (((Cd xs).2.1,(Cd xs).2.2.1,(Cd xs).2.2.2.1,(Cd xs).2.2.2.2))
def AcP (z_:Nat×Nat×Nat×Ad:=CP xs):Con:=⟨[lb xs,.fn 141 (Jg []) (Jg [.cp 0 0])],[(0,U7)],vi 0,[(0,Pp z_.1 z_.2.1 z_.2.2.1 (z_.2.2.2))]⟩
theorem yQ (h:xs.length<=100000000000000) (hk:Kj xs=true):AP 59 (AcP xs):=by
 refine Du rfl (nb:=1) func59 rfl rfl ntmps59 rfl rfl rfl λg0 w0 ac gs ws Y V=> ?_
 have V:=V.sp
 refine Aj [] 2 V λV=>Ar ?_
 have V:=V.rv [(0,lb xs),(1,.fn 141 (Jg []) (Jg [.cp 0 0])),(4,.cp 1 0)] [(0,some (U7)),(1,some (Da))]
 refine FM rfl V (cs:=[.cp 1 0]) rfl rfl rfl λD vds ac hD hcv hB V=> ?_
 have V:=V.sp
 refine Ae (Ay [(1,AA (G5 xs Ax) [] [(0,2)])] [] 3 V λV=>Ar (Aj [] 3 V λV=>AG V ?_))
 have hz:=GO xs
 by_cases h1:Gu xs=true
 ·have hz:=GO xs
  refine Aw [(2,AA (nY xs Ax h1) [(0,2),(1,0)] [])] [] 3 V λV=>CQ ?_
  have hpl:=Lm xs
  by_cases h2:Er (Cd xs).1=true
  ·have hpl:=Lm xs
   refine Aw [(1,AA (It (Cd xs).1 h2) [(0,2)] [])] [] 3 V λV=>Ae (Aj [] 3 V λV=>AY ?_)
   have hM:CP xs=((Cd xs).2.1,(Cd xs).2.2.1,(Cd xs).2.2.2.1,(Cd xs).2.2.2.2):=Ab _
   have V:=V.rv [(4,.cp 1 0)] [(0,some (Pp (Cd xs).2.1 (Cd xs).2.2.1 (Cd xs).2.2.2.1 (Cd xs).2.2.2.2)),(1,some (Da))]
   exact Mm (.inr rfl) V hD (DT ⟨88,(Lr),[(0,1)],[]⟩ [(1,some (Da)),(0,some (Pp (Cd xs).2.1 (Cd xs).2.2.1 (Cd xs).2.2.2.1 (Cd xs).2.2.2.2)),(1,some (Da))] hB V hcv (show FrameMode.returning≠ .run from nofun) rfl rfl rfl (Kh) rfl ⟨rfl,aa⟩ rfl (ds:=[vi 0]) (by kernel_rfl) rfl (by show E6 _ [(0,Pp (CP xs).1 (CP xs).2.1 (CP xs).2.2.1 (CP xs).2.2.2)] true;first |exact⟨rfl,aa⟩|(rw[hM];first |(simp only[];exact⟨rfl,aa⟩)|exact⟨rfl,aa⟩)))
  ·have hpl:=Lm xs
   have hK:Kj xs=false:=(Ab _).trans ((ah h1).trans (aj h2))
   rw[hK]at hk
   cases hk
 ·have hz:=GO xs
  have hK:Kj xs=false:=(Ab _).trans (aj h1)
  rw[hK]at hk
  cases hk
theorem iY (h:xs.length<=100000000000000) (hk:Kj xs=false):AP 59 ⟨[lb xs,.fn 141 (Jg []) (Jg [.cp 0 0])],[(0,U7)],vi (((B6 xs).1:Nat):Int),[(0,Pp (B6 xs).2.1 (B6 xs).2.2.1 (B6 xs).2.2.2.1 (B6 xs).2.2.2.2)]⟩:=by
 refine Du rfl (nb:=1) func59 rfl rfl ntmps59 rfl rfl rfl λg0 w0 ac gs ws Y V=> ?_
 have V:=V.sp
 refine Aj [] 2 V λV=>Ar ?_
 have V:=V.rv [(0,lb xs),(1,.fn 141 (Jg []) (Jg [.cp 0 0])),(4,.cp 1 0)] [(0,some (U7)),(1,some (Da))]
 refine FM rfl V (cs:=[.cp 1 0]) rfl rfl rfl λD vds ac hD hcv hB V=> ?_
 have V:=V.sp
 refine Ae (Ay [(1,AA (G5 xs Ax) [] [(0,2)])] [] 3 V λV=>Ar (Aj [] 3 V λV=>AG V ?_))
 have hz:=GO xs
 by_cases h1:Gu xs=true
 ·have hz:=GO xs
  refine Aw [(2,AA (nY xs Ax h1) [(0,2),(1,0)] [])] [] 3 V λV=>CQ ?_
  have hpl:=Lm xs
  by_cases h2:Er (Cd xs).1=true
  ·have hpl:=Lm xs
   refine Aw [(1,AA (It (Cd xs).1 h2) [(0,2)] [])] [] 3 V λV=>Ae (Aj [] 3 V λV=>AY ?_)
   have hK:Kj xs=true:=(Ab _).trans ((ah h1).trans (ah h2))
   rw[hK]at hk
   cases hk
  ·have hpl:=Lm xs
   refine Fl (E:=E0) hZ [] aa (some ⟨90,(NQ (Cd xs).1),[(0,2)],[]⟩) (λr hr=>by cases hr;exact Oo (Cd xs).1 (Cj h2)) 1 0 (λ_=>[nd [.cp 2 0] [some (C8 (Cd xs).1)]]) (.v (.iface 44 (.int .i64 2))) [4] [0,1] [(4,.cp 1 0)] [(0,some (Pp (Cd xs).2.1 (Cd xs).2.2.1 (Cd xs).2.2.2.1 (Cd xs).2.2.2.2)),(1,some (Da))] 3 (by kernel_rfl) ⟨rfl,aa⟩ V.st λac gs ws pv V hpv=>AE ?_
   obtain rfl:=hpv.v_of
   have hM:B6 xs=(2,(Cd xs).2.1,(Cd xs).2.2.1,(Cd xs).2.2.2.1,(Cd xs).2.2.2.2):=(Ab _).trans (ah h1)
   exact KB V hD (DT ⟨88,(JK 2),[(0,1)],[]⟩ [(1,some (Abp)),(0,some (Pp (Cd xs).2.1 (Cd xs).2.2.1 (Cd xs).2.2.2.1 (Cd xs).2.2.2.2)),(1,some (Da))] hB V hcv (show FrameMode.panicking _≠ .run from nofun) rfl rfl rfl (I3 2 Ac) rfl ⟨rfl,aa⟩ rfl (ds:=[vi 2]) (by kernel_rfl) (by show weak _ (vi (((B6 xs).1:Nat):Int))=(vi (((B6 xs).1:Nat):Int));first |rfl|(rw[hM];first |(simp only[];rfl)|(simp only[];done)|rfl)) (by show E6 _ [(0,Pp (B6 xs).2.1 (B6 xs).2.2.1 (B6 xs).2.2.2.1 (B6 xs).2.2.2.2)] true;first |exact⟨rfl,aa⟩|(rw[hM];first |(simp only[];exact⟨rfl,aa⟩)|exact⟨rfl,aa⟩)))
 ·have hz:=GO xs
  refine Fl (E:=E0) hZ [] aa (some ⟨141,(bC xs),[(0,2),(1,0)],[]⟩) (λr hr=>by cases hr;exact nW xs Ax (Cj h1)) 2 0 (λ_=>[nd [.cp 2 0,.cp 0 0] [some (C8 xs),some (U7)]]) (.v (.iface 44 (.int .i64 (((AQ xs).1:Nat):Int)))) [4] [0,1] [(4,.cp 1 0)] [(0,some (Po (AQ xs).2.1 (AQ xs).2.2.1 (AQ xs).2.2.2)),(1,some (Da))] 3 (by kernel_rfl) ⟨rfl,aa⟩ V.st λac gs ws pv V hpv=>AE ?_
  have V:=V.wko 0 [.top,.top,.top,lb []] rfl (H':=[(0,some (Pp (AQ xs).2.1 (AQ xs).2.2.1 (AQ xs).2.2.2 [])),(0,some (Po (AQ xs).2.1 (AQ xs).2.2.1 (AQ xs).2.2.2)),(1,some (Da))]) (by kernel_rfl)
  obtain rfl:=hpv.v_of
  have hM:B6 xs=((AQ xs).1,(AQ xs).2.1,(AQ xs).2.2.1,(AQ xs).2.2.2,[]):=(Ab _).trans (aj h1)
  exact KB V hD (DT ⟨88,(JK (AQ xs).1),[(0,1)],[]⟩ [(1,some (Y1 (AQ xs).1)),(0,some (Pp (AQ xs).2.1 (AQ xs).2.2.1 (AQ xs).2.2.2 [])),(0,some (Po (AQ xs).2.1 (AQ xs).2.2.1 (AQ xs).2.2.2)),(1,some (Da))] hB V hcv (show FrameMode.panicking _≠ .run from nofun) rfl rfl rfl (I3 (AQ xs).1 Ac) rfl ⟨rfl,aa⟩ rfl (ds:=[vi (((AQ xs).1:Nat):Int)]) (by kernel_rfl) (by show weak _ (vi (((B6 xs).1:Nat):Int))=(vi (((B6 xs).1:Nat):Int));first |rfl|(rw[hM];first |(simp only[];rfl)|(simp only[];done)|rfl)) (by show E6 _ [(0,Pp (B6 xs).2.1 (B6 xs).2.2.1 (B6 xs).2.2.2.1 (B6 xs).2.2.2.2)] true;first |exact⟨rfl,aa⟩|(rw[hM];first |(simp only[];exact⟨rfl,aa⟩)|exact⟨rfl,aa⟩)))
end
theorem TW {ys:Ad} {m:Nat} (h:BA ys m=true):(Af ys).1.toNat<=m:=by
 unfold BA at h;rw[Ab]at h
 split at h
 ·rename_i h1
  unfold D9 at h1;rw[Ab]at h1
  split at h1
  ·split at h1
   ·cases h1
   ·omega
  ·cases h1
 ·cases h
def Uk (i a c:Nat) (d:Ad):Prop:=(i<=100000000000/\a<=100000000000/\c<=100000000000)/\d.length<=100000
theorem nZ {xs:Ad} (hk:Gu xs=true):Uk (Cd xs).2.1 (Cd xs).2.2.1 (Cd xs).2.2.2.1 (Cd xs).2.2.2.2:=by
 unfold Cd;rw[Ab];unfold Gu at hk;rw[Ab]at hk
 split at hk
 ·split at hk
  ·cases hk
  ·split at hk
   ·split at hk
    ·cases hk
    ·split at hk
     ·split at hk
      ·cases hk
      ·split at hk
       ·rename_i h7
        have h8:=TW h7
        refine⟨⟨?_,?_,?_⟩,?_⟩
        ·show Int.toNat _<=_;omega
        ·show Int.toNat _<=_;omega
        ·show Int.toNat _<=_;omega
        ·show(List.take _ _).length<=_
         rw[ap];omega
       ·cases hk
     ·cases hk
   ·cases hk
 ·cases hk
theorem nX (xs:Ad):Uk (AQ xs).2.1 (AQ xs).2.2.1 (AQ xs).2.2.2 []:=by
 unfold AQ;rw[Ab]
 have z:(0:Nat)<=100000000000:=by decide
 have f:∀y:Int,¬1073741824<y->y.toNat<=100000000000:=λy hy=>by omega
 repeat' (first |exact⟨⟨z,z,z⟩,by decide⟩|exact⟨⟨f _ A_,z,z⟩,by decide⟩|exact⟨⟨f _ A_,f _ A_,z⟩,by decide⟩|exact⟨⟨f _ A_,f _ A_,f _ A_⟩,by decide⟩|split)
theorem yR {xs:Ad} (hk:Kj xs=true):Uk (CP xs).1 (CP xs).2.1 (CP xs).2.2.1 (CP xs).2.2.2:=by
 unfold CP;rw[Ab];unfold Kj at hk;rw[Ab]at hk
 split at hk
 ·rename_i h;exact nZ h
 ·cases hk
section
variable (xs:Ad)
theorem iZ:Uk (B6 xs).2.1 (B6 xs).2.2.1 (B6 xs).2.2.2.1 (B6 xs).2.2.2.2:=by
 unfold B6;rw[Ab]
 split
 ·rename_i h;exact nZ h
 ·exact nX xs
theorem cH:0<(B6 xs).1:=by
 unfold B6;rw[Ab]
 split
 ·exact(by decide:(0:Nat)<2)
 ·exact GO xs
def RD:Nat×Nat×Nat×Ad×Nat:=AV (if Kj xs=true then(if(((G9 (CP xs).1 (CP xs).2.1 (CP xs).2.2.1 (CP xs).2.2.2).2:Nat):Int)=0 then(if((G9 (CP xs).1 (CP xs).2.1 (CP xs).2.2.1 (CP xs).2.2.2).1)=xs then((CP xs).1,(CP xs).2.1,(CP xs).2.2.1,(CP xs).2.2.2,0)else(0,0,0,[],2))else(0,0,0,[],2))else(0,0,0,[],2))
def Xc (z_:Nat×Nat×Nat×Ad×Nat:=RD xs):Con:=⟨[lb xs],[],.tu (Jg [.ag (Jg [vi ((z_.1:Nat):Int),vi ((z_.2.1:Nat):Int),vi ((z_.2.2.1:Nat):Int),lb (z_.2.2.2.1)]),vi ((z_.2.2.2.2:Nat):Int)]),[]⟩
theorem dX (h:xs.length<=100000000000000):AP 108 (Xc xs):=by
 refine cy 0 func108 rfl ntmps108 λY V=>Aj [] 1 V λV=>Aj [] 2 V λV=>Ar ?_
 by_cases h1:Kj xs=true
 ·refine Aw [(2,AA (yQ xs Ax h1) [(0,1)] [])] [] 2 V λV=> ?_
  have hpb:=yR h1
  have hpc:=hpb.1
  have hpd:=hpb.2
  refine Ae (Ay [(1,AS (OE (CP xs).1 (CP xs).2.1 (CP xs).2.2.1 (CP xs).2.2.2 Ac Ax))] [] 2 V λV=>Ii ?_)
  by_cases h2:(((G9 (CP xs).1 (CP xs).2.1 (CP xs).2.2.1 (CP xs).2.2.2).2:Nat):Int)=0
  ·refine Aw [(4,Ha h2),(9,AS (Ew ((G9 (CP xs).1 (CP xs).2.1 (CP xs).2.2.1 (CP xs).2.2.2).1) xs))] [] 2 V λV=>Ae (IH (((G9 (CP xs).1 (CP xs).2.1 (CP xs).2.2.1 (CP xs).2.2.2).1)=xs) V (λh3=> ?_) (λh3=> ?_))
   ·refine Aj [] 2 V λV=>AY (Ao ?_)
    have V:=V.wko 0 [.top,.top,.top,lb []]
    exact BV (.trans (Ab _) ((ah h1).trans ((ah h2).trans (aj h3)))) V
   ·exact Cb (Aj [] 2 V λV=>AY (BV (.trans (Ab _) ((ah h1).trans ((ah h2).trans (ah h3)))) V))
  ·refine Aw [(4,sT h2)] [] 2 V λV=>Ae (AG V (Aj [] 2 V λV=>AY (Ao ?_)))
   have V:=V.wko 0 [.top,.top,.top,lb []]
   exact BV (.trans (Ab _) ((ah h1).trans (aj h2))) V
 ·refine Aw [(2,AA (iY xs Ax (Cj h1)) [(0,1)] [])] [] 2 V λV=> ?_
  have hpb:=iZ xs
  have hpc:=hpb.1
  have hpd:=hpb.2
  have hpp:=cH xs
  have hp0:¬(((B6 xs).1:Nat):Int)=0:=by omega
  refine Ae (Ay [(1,AS (OE (B6 xs).2.1 (B6 xs).2.2.1 (B6 xs).2.2.2.1 (B6 xs).2.2.2.2 Ac Ax))] [] 2 V λV=>Ar (Ay [(1,sT hp0)] [] 2 V λV=>AG V (Aj [] 2 V λV=>AY (Ao ?_))))
  have V:=V.wko 0 [.top,.top,.top,lb []]
  exact BV (.trans (Ab _) (aj h1)) V
end
section
variable (x0:Nat)
def Abo:O:= .ob 126 (Jg [vi ((x0:Nat):Int),vi 1,vi 0,vi 0,.v (.slice none 0 0),.v (.slice none 0 0),.v (.pointer none),.v (.slice none 0 0)])
def Abn (x1 x2:Nat):O:= .ob 187 (Jg [vi ((x0:Nat):Int),vi ((x1:Nat):Int),vi 1088,.sk x2])
def Abm:O:= .ob 126 (Jg [vi ((x0:Nat):Int),vi 2,vi 0,vi 0,.v (.slice none 0 0),.v (.slice none 0 0),.v (.pointer none),.v (.slice none 0 0)])
def Abl (x1 x2:Nat):O:= .ob 187 (Jg [vi ((x0:Nat):Int),vi ((x1:Nat):Int),vi 1184,.sk x2])
end
theorem d5 {ln sz:Nat} (h:1<=ln/\ln<=10000) (hz:1<=sz):1<=(ln+sz-1)/sz/\(ln+sz-1)/sz<=10000:=
 ⟨(Nat.le_div_iff_mul_le Ac).2 Ac,ca (Yv hz) h.2⟩
section
variable (sz ep:Nat)
theorem dV (hz:1<=sz/\sz<=1000) (he:ep<=500000000):AP 114 ⟨[.cp 0 0,vi (ep:Int)],[(0,Abo sz)],.cp 1 0,[(0,Abo sz),(1,Abn ((2*ep)+1) sz 2),(2,.sl 22 Bq (replicate (((1088+sz)-1)/sz) none))]⟩:=by
 refine cy 1 func114 rfl ntmps114 λY V=>C9 [] 1 V λV=>D8 [(1,IC 2 ep (2*ep))] [] 1 V λV=>Ar (C9 [] 1 V λV=>AG V (G0 [(1,IC 2 ep (2*ep)),(2,FW (2*ep) 1 ((2*ep)+1))] [] 1 V λV=>CQ ?_))
 have hcb:=d5 (ln:=1088) (sz:=sz) (by decide) hz.1
 exact G0 [(6,FW 1088 sz (1088+sz)),(7,IM (1088+sz) 1 ((1088+sz)-1)),(12,Vk ((1088+sz)-1) sz),(18,AA (JM ((2*ep)+1) (((1088+sz)-1)/sz) sz 1088 Ac Ac) [] [(0,1),(1,2)])] [] 3 V λV=>Ae (C9 [] 3 V λV=>AY (BW V))
theorem dU (hz:1<=sz/\sz<=1000) (he:ep<=500000000):AP 114 ⟨[.cp 0 0,vi (ep:Int)],[(0,Abm sz)],.cp 1 0,[(0,Abm sz),(1,Abl (2*ep) sz 2),(2,.sl 22 Bq (replicate (((1184+sz)-1)/sz) none))]⟩:=by
 refine cy 1 func114 rfl ntmps114 λY V=>C9 [] 1 V λV=>D8 [(1,IC 2 ep (2*ep))] [] 1 V λV=>Ar (C9 [] 1 V λV=>Ai V (DG ?_))
 have hcb:=d5 (ln:=1184) (sz:=sz) (by decide) hz.1
 exact G0 [(6,FW 1184 sz (1184+sz)),(7,IM (1184+sz) 1 ((1184+sz)-1)),(12,Vk ((1184+sz)-1) sz),(18,AA (JM (2*ep) (((1184+sz)-1)/sz) sz 1184 Ac Ac) [] [(0,1),(1,2)])] [] 3 V λV=>Ae (C9 [] 3 V λV=>AY (BW V))
theorem dJ (hz:1<=sz/\sz<=1000) (he:ep<=500000000):AP 77 ⟨[.cp 0 0,vi (ep:Int)],[(0,Abo sz)],.cp 0 0,[(0,.ob 126 (Jg [vi (sz:Int),vi 1,vi (ep:Int),vi 0,.v (.slice none 0 0),.v (.slice none 0 0),.cp 1 0,.v (.slice none 0 0)])),(1,Abn ((2*ep)+1) sz 2),(2,.sl 22 Bq (replicate (((1088+sz)-1)/sz) none))]⟩:=by
 exact cy 1 func77 rfl ntmps77 λY V=>C9 [] 1 V λV=>D8 [(8,AA (dV sz ep Ac Ac) [(0,0)] [(1,1),(2,2)])] [] 3 V λV=>C9 [] 3 V λV=>AY (BW V)
theorem dG (hz:1<=sz/\sz<=1000) (he:ep<=500000000):AP 77 ⟨[.cp 0 0,vi (ep:Int)],[(0,Abm sz)],.cp 0 0,[(0,.ob 126 (Jg [vi (sz:Int),vi 2,vi (ep:Int),vi 0,.v (.slice none 0 0),.v (.slice none 0 0),.cp 1 0,.v (.slice none 0 0)])),(1,Abl (2*ep) sz 2),(2,.sl 22 Bq (replicate (((1184+sz)-1)/sz) none))]⟩:=by
 exact cy 1 func77 rfl ntmps77 λY V=>C9 [] 1 V λV=>D8 [(8,AA (dU sz ep Ac Ac) [(0,0)] [(1,1),(2,2)])] [] 3 V λV=>C9 [] 3 V λV=>AY (BW V)
end
theorem Ju (sz:Nat) (hz:10<=sz/\sz<=1000):AP 44 ⟨[.v (.bool true),vi (sz:Int)],[],.tu (Jg [.cp 0 0,vi 0]),[(0,.ob 126 (Jg [vi (sz:Int),vi 1,vi 0,vi 0,.v (.slice none 0 0),.v (.slice none 0 0),.cp 1 0,.v (.slice none 0 0)])),(1,Abn ((2*0)+1) sz 2),(2,.sl 22 Bq (replicate (((1088+sz)-1)/sz) none))]⟩:=by
 refine cy 0 func44 rfl ntmps44 λY V=> ?_
 have hs1:¬(sz:Int)<10:=Ac
 have hs2:¬(1000:Int)<(sz:Int):=Ac
 exact C9 [] 0 V λV=>Ar (D8 [(1,Do hs1),(4,Do hs2)] [] 0 V λV=>Ai V (Cb (C9 [] 1 V λV=>Ar (C9 [] 1 V λV=>AG V (g5 [] 1 V λV=>Ae (D8 [(1,AA (dJ sz 0 Ac Ac) [(0,0)] [(1,1),(2,2)])] [] 3 V λV=>AY (BW V)))))))
theorem sP (sz:Nat) (hz:10<=sz/\sz<=1000):AP 44 ⟨[.v (.bool false),vi (sz:Int)],[],.tu (Jg [.cp 0 0,vi 0]),[(0,.ob 126 (Jg [vi (sz:Int),vi 2,vi 0,vi 0,.v (.slice none 0 0),.v (.slice none 0 0),.cp 1 0,.v (.slice none 0 0)])),(1,Abl (2*0) sz 2),(2,.sl 22 Bq (replicate (((1184+sz)-1)/sz) none))]⟩:=by
 refine cy 0 func44 rfl ntmps44 λY V=> ?_
 have hs1:¬(sz:Int)<10:=Ac
 have hs2:¬(1000:Int)<(sz:Int):=Ac
 exact C9 [] 0 V λV=>Ar (D8 [(1,Do hs1),(4,Do hs2)] [] 0 V λV=>Ai V (Cb (C9 [] 1 V λV=>Ar (C9 [] 1 V λV=>Ai V (Cb (D8 [(1,AA (dG sz 0 Ac Ac) [(0,0)] [(1,1),(2,2)])] [] 3 V λV=>AY (BW V)))))))
theorem wV {l:List tJ} {j:Nat} {x:tJ} (z:tJ) (h:l[j]? =some x):l.getD j z=x:=by
 rw[al,h];rfl
section
variable (id:Nat) (xs:Ad)
theorem y9 (sz n j:Nat) (hj:j<n):(PG id xs sz (List.range n))[j]? =some ((id:Int),(j:Int),(0:Int),(xs.drop (j*sz)).take sz):=by
 unfold PG
 rw[am (by rw[List.length_mapIdx,d_];exact hj),List.getElem_mapIdx,List.getElem_range]
theorem XB (id:Nat) (xs:Ad) (sz:Nat):∀i,(EL id xs sz i).length=(xs.length+sz-1)/sz/\∀j,j<(xs.length+sz-1)/sz->(EL id xs sz i)[j]? =some ((id:Int),((j:Nat):Int),((if j<i then(xs.length+sz-1)/sz else 0:Nat):Int),(xs.drop (j*sz)).take sz)
 | 0 => ⟨by show (PG ..).length = _; rw [Ni, d_], λj hj => by
   rw[aj (be j)]
   exact y9 id xs sz _ j hj⟩
 |i+1=>by
  obtain⟨h1,h2⟩:=XB id xs sz i
  have e:∃v:tJ,EL id xs sz (i+1)=(EL id xs sz i).set i v/\∀x:tJ,(EL id xs sz i)[i]? =some x->v=(x.1,x.2.1,(((EL id xs sz i).length:Nat):Int),x.2.2.2):=⟨_,rfl,λx hx=>dp (λq:tJ=>(q.1,q.2.1,(((EL id xs sz i).length:Nat):Int),q.2.2.2)) (wV _ hx)⟩
  obtain⟨v,e,hv⟩:=e
  rw[e]
  refine⟨by rw[da,h1],λj hj=> ?_⟩
  by_cases hji:i=j
  ·subst hji
   rw[List.getElem?_set_self (by rw[h1];exact hj),hv _ (h2 i hj),h1,ah (dn i)]
  ·rw[List.getElem?_set_ne hji,h2 j hj]
   by_cases h3:j<i
   ·rw[ah h3,ah Ac]
   ·rw[aj h3,aj Ac]
theorem Iq (sz:Nat):(Av id xs sz).length=(xs.length+sz-1)/sz:=by
 unfold Av;rw[Ab];exact(XB id xs sz _).1
theorem Pv (sz i:Nat) (hi:i<(Av id xs sz).length):(Av id xs sz).getD i C5=((id:Int),(i:Int),(((Av id xs sz).length:Nat):Int),(xs.drop (i*sz)).take sz):=by
 refine wV _ ?_
 rw[Iq]at hi
 rw[Iq];unfold Av;rw[Ab]
 rw[(XB id xs sz _).2 i hi,ah (by rw[Ni,d_];exact hi)]
end
def B7 (id ai ct:Nat) (d:Ad):Ad:=Ah id++Ah ai++Ah ct++Ah d.length++d
theorem WQ {id ai ct:Nat} {d:Ad} (h:id<=1073741824/\ct<=1073741824/\ai<ct) (hd:1<=d.length/\d.length<=1000):G9 id ai ct d=(B7 id ai ct d,0):=by
 unfold G9;rw[Ab]
 rw[ah (Qh ⟨by omega,by omega⟩),ah (Qh ⟨by omega,by omega⟩),ah (Qh ⟨by omega,by omega⟩),aj Ac,aj Ac]
 rfl
theorem GJ (id ai ct:Nat) (d:Ad) (h:id<=1073741824/\ct<=1073741824/\ai<ct) (hd:1<=d.length/\d.length<=1000):AP 80 ⟨[.ag (Jg [vi (id:Int),vi (ai:Int),vi (ct:Int),lb d])],[],.tu (Jg [lb (B7 id ai ct d),vi 0]),[]⟩:=by
 have h1:=OE id ai ct d Ac Ac
 unfold Xb at h1
 rw[WQ h hd]at h1
 exact h1
theorem TF {xs:Ad} {sz i:Nat} (hz:1<=sz) (hi:i<(xs.length+sz-1)/sz):1<=((xs.drop (i*sz)).take sz).length/\((xs.drop (i*sz)).take sz).length<=sz:=by
 have h:=(UO (len:=xs.length) hz i).1 hi
 rw[ap,av];omega
theorem cU (l:CB) (h:l.length<=100000000):AP 63 ⟨[.ls true Bq l],[],.sk 0,[(0,.sl 22 Bq l)]⟩:=by
 refine cy 0 func63 rfl ntmps63 λY V=>C9 [] 0 V λV=>Ar (C9 [] 0 V λV=>Ai V (Cb (D8 [(0,Np),(2,Gt 0 l.length 24)] [] 2 V λV=>AY ?_)))
 obtain⟨gs,V⟩:=V.rx [(0,1)] [2] [0] 1 Y
 exact BW V
theorem nM:AP 96 ⟨[.v (.slice none 0 0),.v .nilFunc],[],.v (.slice none 0 0),[]⟩:=by
 exact cy 0 func96 rfl ntmps96 λY V=>Aj [] 0 V λV=>Ar (Aj [] 0 V λV=>AG V (Dl [] 0 V λV=>CQ (Aj [9] 0 V λV=>BC (wp_loop_rounds 1 (Bc (n:=0) (Aj [] 0 V λV=>Ar (Ai V (Dw (Aj [4] 0 V λV=>AY (BW V))))))))))
end
end Go.Sx.Tryz
namespace Go.Sx
open Go.Mi Go.RowKit
variable [Dfr]
theorem ConOk.args {P:Program} {f:FuncId} {ays as':List D} {H0 H1:Hc} {r:D} (h:ConOk P f ⟨ays,H0,r,H1⟩) (hw:∀(g:G) (w:World) (vs:List Value),C1 g.X g.N w (Jg as') true vs->C1 g.X g.N w (Jg ays) true vs):ConOk P f ⟨as',H0,r,H1⟩:=
 ⟨h.1,λvs g w V hN hv=>(h.2 vs g w V hN (hw g w vs hv)).mono λr w' ⟨v,e,g',hp⟩=>⟨v,e,g',⟨hp.go,hp.r,hp.hs,hp.fp⟩⟩⟩
section
variable {X:Nat->Prop} {N:Nat->Option Value} {w:World}
theorem w7 {e:Fk} {o:Option (List e.T)} {v:Value} (h:fS X N w (.os e) o v):fS X N w (.sl e) (o.getD []) v:=by
 cases o with
 |none=>
  have h:v=vN:=h
  subst h
  exact⟨[],Lsl.nil,aa⟩
 |some xs=>
  obtain⟨vs,h1,h2⟩:=h
  exact⟨vs,h1.gen,h2⟩
theorem AbR {e:Fk}:∀{xs:List e.T} {vs:List Value},Fa2 (fS X N w e) xs vs->Fa2 (rS X N w [e]) (xs:List (RT [e])) (vs.map λv=>[v])
 |[],[],_=>trivial
 |_::_,v::_,h=>⟨⟨v,rfl,h.1⟩,AbR h.2⟩
theorem mD:∀(vs:List Value),(vs.map λv=>[v]).flatten=vs
 |[]=>rfl
 |v::vs=>by rw[bh,bd,mD vs];rfl
theorem yJ {e:Fk} {o:Option (List e.T)} {m:Bool} {l:List Value} (h:C1 X N w (.os e o) m l):C1 X N w (.ls false [e] (o.getD []:List e.T)) m l:=by
 obtain⟨v,rfl,h⟩:=h
 obtain⟨vs,h1,h2⟩:=w7 h
 exact⟨v,vs.map λv=>[v],rfl,(mD vs).symm▸h1,AbR h2⟩
theorem Zp {e:Fk}:∀{xs:List (RT [.os e])} {ls:List (List Value)},Fa2 (rS X N w [.os e]) xs ls->Fa2 (rS X N w [.sl e]) ((xs.map λ(o:Option (List e.T))=>o.getD []:List (List e.T)):List (RT [.sl e])) ls
 |[],[],_=>trivial
 | _ :: _, _ :: _, h => ⟨by
   obtain⟨v,rfl,h1⟩:=h.1
   exact⟨v,rfl,w7 h1⟩,Zp h.2⟩
theorem rF {e:Fk} {nn:Bool} {xs:List (Option (List e.T))} {m:Bool} {l:List Value} (h:C1 X N w (.ls nn [.os e] xs) m l):C1 X N w (.ls nn [.sl e] (xs.map λo=>o.getD [])) m l:=by
 obtain⟨v,ls,rfl,h1,h2⟩:=h
 exact⟨v,ls,rfl,by
  have q:(xs.map λ(o:Option (List e.T))=>o.getD []).length=xs.length:=cg _
  exact q.symm▸h1,Zp h2⟩
end
theorem ConOk.os0 {P:Program} {f:FuncId} {ays:List D} {H0 H1:Hc} {r:D} {e:Fk} (o:Option (List e.T)) (h:ConOk P f ⟨.ls false [e] (o.getD []:List e.T)::ays,H0,r,H1⟩):ConOk P f ⟨.os e o::ays,H0,r,H1⟩:=
 h.args λ_ _ _ ⟨l1,l2,e,k1,k2⟩=>⟨l1,l2,e,yJ k1,k2⟩
theorem ConOk.oss0 {P:Program} {f:FuncId} {ays:List D} {H0 H1:Hc} {r:D} {e:Fk} {nn:Bool} (xs:List (Option (List e.T))) (h:ConOk P f ⟨.ls nn [.sl e] (xs.map λo=>o.getD []:List (List e.T))::ays,H0,r,H1⟩):ConOk P f ⟨.ls nn [.os e] (xs:List (Option (List e.T)))::ays,H0,r,H1⟩:=
 h.args λ_ _ _ ⟨l1,l2,e,k1,k2⟩=>⟨l1,l2,e,rF k1,k2⟩
theorem ConOk.nnr {P:Program} {f:FuncId} {ays:List D} {H0 H1:Hc} {e:List Fk} {xs:List (RT e)} (h:ConOk P f ⟨ays,H0,.ls false e xs,H1⟩) (hx:xs≠[]):ConOk P f ⟨ays,H0,.ls true e xs,H1⟩:=
 ⟨h.1,λvs g w V hN hv=>(h.2 vs g w V hN hv).mono λr w' ⟨v,e,g',hp⟩=>⟨v,e,g',⟨hp.go,by
  obtain⟨u,ls,h1,h2,h3⟩:=hp.r
  refine⟨u,ls,h1,⟨h2.le,h2.len,?_⟩,h3⟩
  rcases h2.at' with⟨h4,_⟩|h4
  ·exact absurd (bm h4) hx
  ·exact .inr h4,hp.hs,hp.fp⟩⟩⟩
end Go.Sx
namespace Go.Sx.Tryz
open Go.Mi Go.RowKit Go.Sx Go.Proofs Go.Proofs.Tryz
noncomputable section
open List (replicate map_drop take_left drop_left range'_concat)
theorem dS (o:Option Ad) (ys:Ad):AP 37 ⟨[.os (.int .u8) o,lb ys],[],.v (.bool (decide (o.getD []=ys))),[]⟩:=ConOk.os0 (e:= .int .u8) o (Ew (o.getD []) ys)
theorem OF (xs:Ad) (h:1<=xs.length/\xs.length<=100000000000000):AP 81 ⟨[lb xs],[],.ls true Bg xs,[]⟩:=(Ee xs h.2).nnr (λe=>by rw[e]at h;exact absurd h.1 (by decide))
theorem Aca {a b q:Nat} (hq:q=a*b) (h:q<=1000000000):(BN .i64 (a:Int)<|(b:Int))=(q:Int):=by
 rw[hq,lL (by rw[<-eO,<-hq];omega) (by rw[<-eO,<-hq];omega)]
 exact(eO _ _).symm
section
variable (id sz ln:Nat) (bx:CB) (pa ct q:Nat) (d:Ad)
def YS (id sz ln:Nat) (bx:CB) (pa ct q:Nat) (d:Ad):CB×Nat:=AV (if((d.length:Nat):Int)=(min (sz:Int) ((ln:Int)-(q:Int)))then(if((bx.getD pa Oi).isNone)=true then(bx.set pa (some d),0)else(if(bx.getD pa Oi).getD []=d then(bx,8)else(bx,2)))else(bx,2))
def pK (z_:CB×Nat:=YS id sz ln bx pa ct q d):Con:=⟨[.cp 0 0,.ag (Jg [vi (id:Int),vi (pa:Int),vi (ct:Int),lb d])],[(0,Sq id sz ln 1),(1,.sl 22 Bq bx)],vi ((z_.2:Nat):Int),[(0,Sq id sz ln 1),(1,.sl 22 Bq (z_.1))]⟩
theorem vO (hb:bx.length<=10000) (hz:sz<=1000/\ln<=10000) (hq:q=pa*sz) (hql:q<ln) (hpa:pa<bx.length) (hct:ct=bx.length) (hdl:d.length=min sz (ln-q)) (hd:1<=d.length/\d.length<=100000):AP 133 (pK id sz ln bx pa ct q d):=by
 refine cy 2 func133 rfl ntmps133 λY V=> ?_
 have hf0:(id:Int)=(id:Int):=rfl
 have hf1:(ct:Int)=((bx.length:Nat):Int):=Ac
 have hf2:wB (pa:Int) 0 ((bx.length-1:Nat):Int)=true:=(Qh ⟨by omega,by omega⟩)
 refine C9 [] 3 V λV=>Ar (BC (C9 [] 3 V λV=>Ai V (D8 [(6,Ha hf0),(15,Ha hf1),(25,IM bx.length 1 (bx.length-1)),(26,AS (D7 (pa:Int) 0 ((bx.length-1:Nat):Int) hf2)),(47,Ly (q:Int) [BN .i64 (pa:Int) (sz:Int)=(q:Int)] ⟨Aca hq Ac,aa⟩),(48,Ly ((ln:Int)-(q:Int)) [FC .i64 (ln:Int) (q:Int)=(ln:Int)-(q:Int)] ⟨OD Ac Ac,aa⟩),(49,Ly (min (sz:Int) ((ln:Int)-(q:Int))) [(if((ln:Int)-(q:Int))<(sz:Int)then((ln:Int)-(q:Int))else(sz:Int))=(min (sz:Int) ((ln:Int)-(q:Int)))] ⟨by split<;>omega,aa⟩)] [] 3 V λV=>IH (((d.length:Nat):Int)=(min (sz:Int) ((ln:Int)-(q:Int)))) V (λh1=> ?_) (λh1=> ?_))))
 ·exact C9 [] 3 V λV=>AY (AN (Ao (BV (.trans (Ab _) (aj h1)) V)))
 ·refine D8 [(6,AH pa bx.length)] [] 3 V λV=>Sd ((bx.getD pa Oi).isNone) V (λh2=> ?_) (λh2=> ?_)
  ·exact D8 [(8,AS (OF d Ax)),(9,AH pa bx.length)] [] 3 V λV=>C9 [] 3 V λV=>AY (AN (Ao (BV (.trans (Ab _) ((ah h1).trans (ah h2))) V)))
  ·refine D8 [(6,AH pa bx.length),(10,AS (dS (bx.getD pa Oi) d))] [] 3 V λV=>AJ ((bx.getD pa Oi).getD []=d) V (λh3=> ?_) (λh3=> ?_)
   ·exact C9 [] 3 V λV=>AY (AN (Ao (BV (.trans (Ab _) ((ah h1).trans ((aj (LQ h2)).trans (ah h3)))) V)))
   ·exact FN (C9 [] 3 V λV=>AY (BV (.trans (Ab _) ((ah h1).trans ((aj (LQ h2)).trans (aj h3)))) V))
end
def Mx (bx:CB) (x12:Nat):Ad->Ad:=λx2=>if((bx.getD x12 Oi).isNone)=true then x2++[(x12:Int)]else x2
def Ie (bx:CB):Nat->Ad
 |0=>[]
 |x12+1=>Mx bx x12 (Ie bx x12)
section
variable (id sz ln:Nat) (bx:CB)
def JO (id sz ln:Nat) (bx:CB):Ad:=AV (Ie bx bx.length)
def vI (z_:Ad:=JO id sz ln bx):Con:=Cq [.cp 0 0] [(0,Sq id sz ln 1),(1,.sl 22 Bq bx)] (.ls false El z_)
theorem Xf (hb:1<=bx.length/\bx.length<=10000):AP 167 (vI id sz ln bx):=by
 refine cy 2 func167 rfl ntmps167 λY V=>C9 [] 2 V λV=>Ar (C9 [] 2 V λV=>Ai V (DG (C9 [10] 2 V λV=>BC ?_)))
 obtain⟨gs,V⟩:=V.nilk 2 3 El
 refine AC (ι:=Nat×Ad) Y V (λ(x12,x2)=>(bx.length-x12,[(12,vi ((x12:Nat):Int))],[(2,.sl 3 El x2)],(x12<=bx.length)/\(x2=Ie bx x12)/\(x2.length<=x12)/\True)) [2,10,11] [0,1] 3 (0,[]) [(0,0),(1,1),(2,2)] ⟨Ac,rfl,(by simp),aa⟩ ?_
 rintro⟨x12,x2⟩ ac gs ws ⟨hx12,hq1,p1,_⟩ V
 refine C9 [] 3 V λV=>Ar (AJ ((x12:Int)<((bx.length:Nat):Int)) V (λh1=> ?_) (λh1=> ?_))
 ·refine B3 (D8 [(1,AH x12 bx.length)] [] 3 V λV=>C9 [] 3 V λV=>Sd ((bx.getD x12 Oi).isNone) V (λh2=> ?_) (λh2=> ?_))
  ·exact G0 [(3,Gt x2.length 1 8)] [2] 4 V λV=>Ck (G0 [(0,Cu x12)] [12] 4 V λV=>Ae (As Y V (x12+1,x2++[(x12:Int)]) [(0,0),(1,1),(2,3)] ⟨Ac,(Bm (st:=Mx _) hq1 rfl (Eq.symm (ah h2))),(by first |(rw[ab];simp;omega)|omega),aa⟩))
  ·exact FN (G0 [(0,Cu x12)] [12] 3 V λV=>Ae (As Y V (x12+1,x2) [(0,0),(1,1),(2,2)] ⟨Ac,(Bm (st:=Mx _) hq1 rfl (Eq.symm (aj (LQ h2)))),(by first |(rw[ab];simp;omega)|omega),aa⟩))
 ·have hT:=V
  obtain rfl:bx.length=x12:=by omega
  obtain rfl:=hq1.symm
  have V:=hT
  refine Dw (C9 [2] 3 V λV=>AY ?_)
  obtain⟨gs,V⟩:=V.fz 2
  exact BV (Ab _) V
end
section
variable (bx:CB)
abbrev II:AZ:=bx.map λo=>o.getD []
def KI:Bool:=bx.all Option.isSome
end
theorem bF (id sz ln:Nat) (bx:CB):(JO id sz ln bx).length=0↔KI bx=true:=by
 have key:∀i,i<=bx.length->((Ie bx i).length=0↔∀j,j<i->(List.getD (α:=Option Ad) bx j none).isSome=true):=by
  intro i
  induction i with
  |zero=>exact λ_=>⟨λ_ j hj=>absurd hj (be j),λ_=>rfl⟩
  |succ i ih=>
   intro hi
   have ih:=ih Ac
   have e:Ie bx (i+1)=if(List.getD (α:=Option Ad) bx i none).isNone=true then Ie bx i++[(i:Int)]else Ie bx i:=rfl
   rw[e]
   cases hg:List.getD (α:=Option Ad) bx i none with
   |none=>
    rw[ah (show(none:Option Ad).isNone=true from rfl)]
    refine⟨λh=>by rw[ab,aw]at h;omega,λh=> ?_⟩
    have :=h i Ac
    rw[hg]at this;cases this
   |some x=>
    rw[aj (by simp)]
    refine ih.trans ⟨λh j hj=> ?_,λh j hj=>h j Ac⟩
    by_cases hji:j=i
    ·rw[hji,hg];rfl
    ·exact h j Ac
 unfold JO;rw[Ab]
 refine(key bx.length (an _)).trans ?_
 unfold KI
 rw[ax]
 refine⟨λh x hx=> ?_,λh j hj=> ?_⟩
 ·obtain⟨j,hj,rfl⟩:=List.mem_iff_getElem.1 hx
  have :=h j hj
  rw[al,am hj]at this
  exact this
 ·rw[al,am hj]
  exact h _ (fv hj)
theorem uP (l:AZ) (h:l.flatten.length<=140737488355328):AP 154 ⟨[.ls false A8 l],[],lb l.flatten,[]⟩:=ConOk.frz [] 0 5 Bg l.flatten (RJ l h) (by kernel_rfl)
theorem uO (l:CB) (h:(II l).flatten.length<=140737488355328):AP 154 ⟨[.ls false Bq l],[],lb ((II l).flatten),[]⟩:=ConOk.oss0 (e:= .int .u8) (nn:=false) l (uP (II l) h)
section
variable (id sz ln:Nat) (bx:CB)
theorem GR (hb:1<=bx.length/\bx.length<=10000) (hf:KI bx=false):AP 134 (Cq [.cp 0 0] [(0,Sq id sz ln 1),(1,.sl 22 Bq bx)] (.tu (Jg [.v (.slice none 0 0),.v (.bool false)]))):=by
 refine cy 2 func134 rfl ntmps134 λY V=> ?_
 have hf1:¬((bx.length:Nat):Int)=0:=Ac
 refine C9 [] 2 V λV=>Ii ?_
 have hbm:=(bF id sz ln bx)
 have hbm2:(JO id sz ln bx).length≠0:=λe=>by rw[hbm.1 e]at hf;cases hf
 have hk1:(0:Int)<(((JO id sz ln bx).length:Nat):Int):=Ac
 exact G0 [(8,Do hf1),(12,AA (Xf id sz ln bx Ax) [(0,0),(1,1)] []),(14,Gv hk1)] [] 2 V λV=>Ae (AG V (C9 [] 2 V λV=>AY (Ao (BW V))))
theorem eX (hb:1<=bx.length/\bx.length<=10000) (hf:KI bx=true) (hl:(II bx).flatten.length<=100000):AP 134 ⟨[.cp 0 0],[(0,Sq id sz ln 1),(1,.sl 22 Bq bx)],.tu (Jg [lb ((II bx).flatten),.v (.bool true)]),[(0,.ob 187 (Jg [vi (id:Int),vi (sz:Int),vi (ln:Int),.ls false Bq bx]))]⟩:=by
 refine cy 2 func134 rfl ntmps134 λY V=> ?_
 have hf1:¬((bx.length:Nat):Int)=0:=Ac
 refine C9 [] 2 V λV=>Ii ?_
 have hbm2:(JO id sz ln bx).length=0:=(bF id sz ln bx).2 hf
 have hk1:¬(0:Int)<(((JO id sz ln bx).length:Nat):Int):=by omega
 refine G0 [(8,Do hf1),(12,AA (Xf id sz ln bx Ax) [(0,0),(1,1)] []),(14,Do hk1)] [] 2 V λV=>Ae (Ai V (DG ?_))
 obtain⟨gs,V⟩:=V.fz 1
 exact G0 [(4,AS (uO bx (by first |assumption|omega)))] [] 2 V λV=>EY (BW V)
end
section
variable (bx:CB) (pa:Nat)
def Bf (d:Ad):CB:=bx.set pa (some d)
def Lz (d:Ad):Prop:=List.getD (α:=Option Ad) bx pa none=none\/List.getD (α:=Option Ad) bx pa none=some d
def KW:Nat:=if(List.getD (α:=Option Ad) bx pa none).isNone=true then 0 else 8
theorem Xh:¬((KW bx pa:Nat):Int)=2:=by unfold KW;split<;>decide
theorem EO (d:Ad):(Bf bx pa d).length=bx.length:=da
end
theorem Abc {id sz ln:Nat} {bx:CB} {pa ct q:Nat} {d:Ad} (hpa:pa<bx.length) (hq:q<ln) (hdl:d.length=min sz (ln-q)) (hf:Lz bx pa d):YS id sz ln bx pa ct q d=(Bf bx pa d,KW bx pa):=by
 unfold YS;rw[Ab];unfold Bf KW
 rw[ah Ac]
 show(if(List.getD (α:=Option Ad) bx pa none).isNone=true then _ else(if(List.getD (α:=Option Ad) bx pa none).getD []=d then _ else _))=_
 rcases hf with h|h
 ·rw[h];rfl
 ·rw[h]
  have e:bx.set pa (some d)=bx:=by
   rw[al,am hpa]at h
   have h:bx[pa]=some d:=h
   rw[<-h,List.set_getElem_self]
  rw[e]
  simp
theorem pY (id sz ln:Nat) (bx:CB) (pa ct q:Nat) (d:Ad) (hb:bx.length<=10000) (hz:sz<=1000/\ln<=10000) (hq:q=pa*sz) (hql:q<ln) (hpa:pa<bx.length) (hct:ct=bx.length) (hdl:d.length=min sz (ln-q)) (hft:Lz bx pa d) (hd:1<=d.length/\d.length<=100000):AP 133 ⟨[.cp 0 0,.ag (Jg [vi (id:Int),vi (pa:Int),vi (ct:Int),lb d])],[(0,Sq id sz ln 1),(1,.sl 22 Bq bx)],vi ((KW bx pa:Nat):Int),[(0,Sq id sz ln 1),(1,.sl 22 Bq (Bf bx pa d))]⟩:=by
 have h:=vO id sz ln bx pa ct q d hb hz hq hql hpa hct hdl hd
 unfold pK at h
 rw[Abc hpa hql hdl hft]at h
 exact h
def NJ (ct:Ad) (x15:Nat):(Nat->Int)->(Nat->Int):=λo5_0=>Ey o5_0 (x15*256) 256 (Wg (CU (CH 10 (ct.drop (320*x15))) 10))
def Ce (ct:Ad):Nat->(Nat->Int)
 |0=>λ_=>0
 |x15+1=>NJ ct x15 (Ce ct x15)
def CI (dk ct:Ad):Ad:=AV (C3 (C0 (MV (CU (CH 4 (ct.drop 960)) 4) (A2 (Cm (Ba dk) (Ce ct 3)))) 1) 1)
@[simp] theorem WW (dk ct:Ad):(CI dk ct).length=32:=by unfold CI;rw[Ab];exact Dj _ _
section
variable (dk ct:Ad)
def eU (z_:Ad:=CI dk ct):Con:=⟨[lb dk,lb ct],[],.sk 0,[(0,.sl 5 Bg z_)]⟩
theorem Yt (hd:dk.length=2400) (hc:ct.length=1088):AP 169 (eU dk ct):=by
 refine cy 0 func169 rfl ntmps169 λY V=> ?_
 have Bj:dk.length<=9223372036854775807:=V.len 0 rfl
 have BJ:ct.length<=9223372036854775807:=V.len 1 rfl
 refine Aj [] 0 V λV=>Aj [] 1 V λV=>Ar (Aj [] 1 V λV=>BC (AC (ι:=Nat×(Nat->Int)) Y V (λ(x15,o5_0)=>(3-x15,[(15,vi ((x15:Nat):Int))],[(0,xU o5_0)],(x15<=3)/\(o5_0=Ce ct x15)/\True)) [0,1,4,5] [] 1 (0,λ_=>0) [(0,0)] ⟨Ac,rfl,aa⟩ ?_))
 rintro⟨x15,o5_0⟩ ac gs ws ⟨hx15,hq1,_⟩ V
 refine Aj [] 1 V λV=>Ar (AJ ((x15:Int)<3) V (λh1=> ?_) (λh1=> ?_))
 ·exact B3 (Aj [] 1 V λV=>Ay [(2,IC 320 x15 (320*x15)),(3,ON (320*x15) ct.length),(4,AS (GM 10 (ct.drop (320*x15)) Ac (by first |omega|(simp only[ab,av,ap,aw,au];omega)))),(5,J0 (Hy (CH 10 (ct.drop (320*x15))) 10 Ac) [] [] [.ar .u16 256 (CH 10 (ct.drop (320*x15))),vi 10] [])] [7] 2 V λV=>Aw [(1,Ik (.ar .u16 256 (CU (CH 10 (ct.drop (320*x15))) 10)) [(.ar .u16 256 (CU (CH 10 (ct.drop (320*x15))) 10):D)=(.ar .u16 256 (CU (CH 10 (ct.drop (320*x15))) 10))] ⟨rfl,aa⟩),(2,AS (kA (CU (CH 10 (ct.drop (320*x15))) 10))),(3,AH x15 3)] [] 2 V λV=>Ck (Aw [(0,Cu x15)] [15] 2 V λV=>Ae (As Y V (x15+1,Ey o5_0 (x15*256) 256 (Wg (CU (CH 10 (ct.drop (320*x15))) 10))) [(0,0)] ⟨Ac,(Bm (st:=NJ _) hq1 rfl rfl),aa⟩)))
 ·have hT:=V
  obtain rfl:3=x15:=by omega
  obtain rfl:=hq1.symm
  have V:=hT
  refine Dw (Ay [(1,ON 960 ct.length),(2,AS (GM 4 (ct.drop 960) Ac (by first |omega|(simp only[ab,av,ap,aw,au];omega)))),(3,J0 (Hy (CH 4 (ct.drop 960)) 4 Ac) [] [] [.ar .u16 256 (CH 4 (ct.drop 960)),vi 4] [])] [9] 2 V λV=>Ay [(0,Ik (.ar .u16 256 (CU (CH 4 (ct.drop 960)) 4)) [(.ar .u16 256 (CU (CH 4 (ct.drop 960)) 4):D)=(.ar .u16 256 (CU (CH 4 (ct.drop 960)) 4))] ⟨rfl,aa⟩),(2,AS (M5 dk Ax)),(3,Ik (.ar .u16 768 (Ce ct 3)) [(.ar .u16 768 (Ce ct 3):D)=(.ar .u16 768 (Ce ct 3))] ⟨rfl,aa⟩),(4,J0 (UI (Ba dk) (Ce ct 3)) [] [] [.ar .u16 768 (Ba dk),.ar .u16 768 (Ce ct 3)] []),(5,AS (Ma (Cm (Ba dk) (Ce ct 3)))),(6,J0 (yC (CU (CH 4 (ct.drop 960)) 4) (A2 (Cm (Ba dk) (Ce ct 3)))) [] [] [.ar .u16 256 (CU (CH 4 (ct.drop 960)) 4),.ar .u16 256 (A2 (Cm (Ba dk) (Ce ct 3)))] []),(7,J0 (IA (MV (CU (CH 4 (ct.drop 960)) 4) (A2 (Cm (Ba dk) (Ce ct 3)))) 1 Ac) [] [] [.ar .u16 256 (MV (CU (CH 4 (ct.drop 960)) 4) (A2 (Cm (Ba dk) (Ce ct 3)))),vi 1] [])] [11] 3 V λV=>Ay [(0,Ik (.ar .u16 256 (C0 (MV (CU (CH 4 (ct.drop 960)) 4) (A2 (Cm (Ba dk) (Ce ct 3)))) 1)) [(.ar .u16 256 (C0 (MV (CU (CH 4 (ct.drop 960)) 4) (A2 (Cm (Ba dk) (Ce ct 3)))) 1):D)=(.ar .u16 256 (C0 (MV (CU (CH 4 (ct.drop 960)) 4) (A2 (Cm (Ba dk) (Ce ct 3)))) 1))] ⟨rfl,aa⟩),(1,J0 (Im (C0 (MV (CU (CH 4 (ct.drop 960)) 4) (A2 (Cm (Ba dk) (Ce ct 3)))) 1) 1 Ac) [] [(0,3)] [.ar .u16 256 (C0 (MV (CU (CH 4 (ct.drop 960)) 4) (A2 (Cm (Ba dk) (Ce ct 3)))) 1),vi 1] [])] [] 4 V λV=>Aj [] 4 V λV=>AY ?_)
  obtain⟨gs,V⟩:=V.rx [(0,3)] [4] [0] 1 Y
  exact BV (Ab _) V
end
theorem WO (ek m r:Ad) (he:ek.length=1184) (hm:m.length=32) (hr:r.length=32):AP 170 ⟨[lb ek,lb m,lb r],[],lb (ET ek m r),[]⟩:=ConOk.frz [] 0 5 Bg (ET ek m r) (Mq ek m r he hm hr) (by kernel_rfl)
section
variable (dk ct:Ad)
def Je:Ad×Nat:=AV (if((FF dk:Nat):Int)=0 then(if(ET ((dk.take 2336).drop 1152) (CI dk ct) ((AM [CI dk ct,(dk.take 2368).drop 2336]).drop 32))=ct then((AM [CI dk ct,(dk.take 2368).drop 2336]).take 32,0)else(IV [dk.drop 2368,ct],0))else([],(FF dk)))
def pI (z_:Ad×Nat:=Je dk ct):Con:=⟨[lb dk,lb ct],[],.tu (Jg [lb (z_.1),vi ((z_.2:Nat):Int)]),[]⟩
theorem dY (hc:ct.length=1088):AP 143 (pI dk ct):=by
 refine cy 0 func143 rfl ntmps143 λY V=> ?_
 have Bj:dk.length<=9223372036854775807:=V.len 0 rfl
 have BJ:ct.length<=9223372036854775807:=V.len 1 rfl
 have hk2:((ct.length:Nat):Int)=1088:=Ac
 refine Aj [] 0 V λV=>Ar (Ay [(1,AS (Yy dk))] [] 0 V λV=>Aj [] 0 V λV=>IH (((FF dk:Nat):Int)=0) V (λh1=> ?_) (λh1=> ?_))
 ·refine Aj [] 0 V λV=>AY (Ao ?_)
  have V:=V.wk 4 (lb [])
  exact BV (.trans (Ab _) (aj h1)) V
 ·refine DG (Ay [(2,Ha hk2)] [] 0 V λV=>Ai V (DG ?_))
  have hd:=eA (xs:=dk) Ac
  refine Aw [(1,tH 1152 2336 dk.length),(3,ON 2368 dk.length)] [] 0 V λV=>Ae (Ay [(2,AA (Yt dk ct Ax Ax) [] [(0,0)])] [] 1 V λV=>Ar ?_)
  have hdl:=WW dk ct
  obtain⟨gs,V⟩:=V.fz 0
  refine Aw [(2,tH 2336 2368 dk.length),(4,AS (K7 [CI dk ct,(dk.take 2368).drop 2336] (by first |omega|(simp only[bd,ce,ab,aw,au,ap,av,az]<;>omega)|(simp<;>omega))))] [] 1 V λV=>CQ (Ar ?_)
  have hsl:=E9 [CI dk ct,(dk.take 2368).drop 2336]
  refine Aw [(3,ON 32 (AM [CI dk ct,(dk.take 2368).drop 2336]).length),(4,AS (WO ((dk.take 2336).drop 1152) (CI dk ct) ((AM [CI dk ct,(dk.take 2368).drop 2336]).drop 32) Ax Ax Ax)),(6,AS (Ew (ET ((dk.take 2336).drop 1152) (CI dk ct) ((AM [CI dk ct,(dk.take 2368).drop 2336]).drop 32)) ct))] [] 1 V λV=>Ae (IH ((ET ((dk.take 2336).drop 1152) (CI dk ct) ((AM [CI dk ct,(dk.take 2368).drop 2336]).drop 32))=ct) V (λh2=> ?_) (λh2=> ?_))
  ·exact Ay [(3,AS (XF [dk.drop 2368,ct] (by first |omega|(simp only[bd,ce,ab,aw,au,ap,av,az]<;>omega)|(simp<;>omega))))] [] 1 V λV=>AY (Ao (BV (.trans (Ab _) ((ah h1).trans (aj h2))) V))
  ·exact Cb (Ay [(1,P8 (FU none (some 32) (some 32) (AM [CI dk ct,(dk.take 2368).drop 2336]).length (AM [CI dk ct,(dk.take 2368).drop 2336]).length) ⟨by simp only[GE]<;>omega,by simp only[GE]<;>omega,by simp only[GE]<;>omega,by simp,by simp only[bl]<;>omega,by simp only[bl]<;>omega,by simp only[bl]<;>omega⟩)] [] 1 V λV=>AY (BV (.trans (Ab _) ((ah h1).trans (ah h2))) V))
end
theorem iS (k xs:Ad):(TS k xs).length=128:=by
 have key:∀j,(EZ k xs j).2.1.length=32*j:=by
  intro j
  induction j with
  |zero=>rfl
  |succ j ih=>
   show(On k xs j (EZ k xs j)).2.1.length=_
   generalize EZ k xs j=z at ih⊢
   obtain⟨a,b,c⟩:=z
   show(b++HT _ _).length=_
   rw[ab,QK]
   have ih:b.length=32*j:=ih
   omega
 have hc:∀j,HE (EZ k xs j)↔32*j<128:=by
  intro j
  have hj:=key j
  generalize EZ k xs j=z at hj⊢
  obtain⟨a,b,c⟩:=z
  show((b.length:Nat):Int)<128↔_
  have hj:b.length=32*j:=hj
  omega
 have hl:4=D3 λj=>HE (EZ k xs j):=CE (P:=λj=>HE (EZ k xs j)) (λh=>absurd ((hc 4).1 h) (by decide)) (λj hj=>(hc j).2 Ac)
 unfold TS;rw[Ab]
 rw[<-hl,ap,key];rfl
@[simp] theorem jA (k xs:Ad):(TU k xs).length=128:=by unfold TU;rw[Ab];exact iS ..
theorem jH (v:Int) (n:Nat) (hn:n<=1000):AP 34 ⟨[.v (.int .u64 v),vi (n:Int)],[],lb (Eh v n),[]⟩:=ConOk.frz [] 0 5 Bg (Eh v n) (TX v n hn) (by kernel_rfl)
def Al (n:Int):Ad:=AV (TU [100,114,97,119] (Eh (IntKind.wrap .u64 n) 8))
@[simp] theorem CL (n:Int):(Al n).length=128:=by unfold Al;rw[Ab];exact jA ..
def Aa1 (n:Int) (z_:Ad:=Al n):Con:=⟨[vi n],[],lb z_,[]⟩
theorem DF (n:Int):AP 15 (Aa1 n):=by
 exact cy 0 func15 rfl ntmps15 λY V=>Aj [] 0 V λV=>Ay [(0,Np),(1,P8 (0<[100,114,97,119].length) (by decide)),(4,AS (jH (IntKind.wrap .u64 n) 8 Ac)),(5,AS (rU [100,114,97,119] (Eh (IntKind.wrap .u64 n) 8) Ax Ax))] [] 1 V λV=>AY (BV (Ab _) V)
section
variable (k:Int)
theorem I_ {n:Nat} (h:0<n): -(n:Int)<Eb k n/\Eb k n<n:=by
 have h1:=Int.tmod_lt_of_pos k (b:=(n:Int)) Ac
 have h2:=Int.lt_tmod_of_pos k (b:=(n:Int)) Ac
 exact⟨h2,h1⟩
def AK (n:Nat):Nat:=(k%(n:Int)).toNat
theorem D1 {n:Nat} (h:0<n):AK k n<n:=by
 have h1:=Int.emod_lt_of_pos k (b:=(n:Int)) Ac
 unfold AK;omega
def TN (n:Nat):Int:=AV (if(Eb k (n:Int))<0 then((Eb k (n:Int))+(n:Int))else(Eb k (n:Int)))
def aS (n:Nat) (z_:Int:=TN k n):Con:=⟨[vi k,vi (n:Int)],[],vi z_,[]⟩
theorem iO (n:Nat) (hn:0<n/\n<=2000000):AP 13 (aS k n):=by
 refine cy 0 func13 rfl ntmps13 λY V=>Aj [] 0 V λV=>Ar ?_
 have hib:=I_ k hn.1
 refine Aw [(2,Pe (((n:Int):Int)≠0))] [0] 0 V λV=>CQ (Ar ?_)
 have hib:=I_ k hn.1
 refine Dl [] 0 V λV=>Ae (AJ ((Eb k (n:Int))<0) V (λh1=> ?_) (λh1=> ?_))
 ·have hib:=I_ k hn.1
  refine Aw [(2,MQ (Eb k (n:Int)) (n:Int))] [0] 0 V λV=>CQ ?_
  have hib:=I_ k hn.1
  exact Dl [] 0 V λV=>EY (BV (.trans (Ab _) (ah h1)) V)
 ·refine DG ?_
  have hib:=I_ k hn.1
  exact Dl [] 0 V λV=>EY (BV (.trans (Ab _) (aj h1)) V)
theorem rL (n:Nat) (hn:0<n):TN k n=((AK k n:Nat):Int):=by
 have h2:=Int.emod_nonneg k (b:=(n:Int)) Ac
 have h3:Eb k n=k.tmod n:=rfl
 have h4:=Int.tmod_eq_emod (a:=k) (b:=(n:Int))
 have hb:=I_ k hn
 have h5:=Int.emod_lt_of_pos k (b:=(n:Int)) Ac
 unfold TN;rw[Ab];unfold AK
 rw[Int.toNat_of_nonneg h2]
 rw[h3]at hb⊢
 by_cases hc:0<=k\/(n:Int)∣k
 ·rw[ah hc]at h4
  rw[aj Ac];omega
 ·rw[aj hc]at h4
  by_cases hq:k.tmod n<0
  ·rw[ah hq];omega
  ·exfalso
   have :k.tmod n<=0:=by omega
   have hz:k.tmod n=0:=by omega
   exact hc (.inr (Int.dvd_of_tmod_eq_zero hz))
theorem A1 (n:Nat) (hn:0<n/\n<=2000000):AP 13 ⟨[vi k,vi (n:Int)],[],vi ((AK k n:Nat):Int),[]⟩:=by
 have h:=iO k n hn
 unfold aS at h
 rw[rL k n hn.1]at h
 exact h
end
section
variable (xs ys:Ad)
def pG:Con:=⟨[.ls false El xs,.ls false El ys],[],.v (.bool (decide (xs=ys))),[]⟩
theorem Z6:AP 31 (pG xs ys):=by
 refine cy 0 func31 rfl ntmps31 λY V=> ?_
 have Bj:xs.length<=9223372036854775807:=V.len 0 rfl
 have BJ:ys.length<=9223372036854775807:=V.len 1 rfl
 refine Aj [] 0 V λV=>Ar (Aj [] 0 V λV=>IH (((xs.length:Nat):Int)=((ys.length:Nat):Int)) V (λh1=> ?_) (λh1=> ?_))
 ·exact Aj [] 0 V λV=>AY (Ao (Ec rfl (.inr rfl) V [.v (.bool false)] [] (by show weak _ (.v (.bool (decide (xs=ys))))= .v (.bool (decide (xs=ys)));rw[nD h1];rfl) aa))
 ·refine DG (Aj [] 0 V λV=>BC (AC (ι:=Nat) Y V (λi=>(xs.length-i,[(5,vi ((i:Nat):Int))],[],(i<=xs.length)/\(∀j,j<i->xs.getD j 0=ys.getD j 0)/\True)) [0,1] [] 0 0 [] ⟨Ac,(λj h=>absurd h (be j)),aa⟩ ?_))
  rintro i ac gs ws ⟨hi,pm,_⟩ V
  refine Ar (Aj [] 0 V λV=>AJ ((i:Int)<((xs.length:Nat):Int)) V (λh2=> ?_) (λh2=> ?_))
  ·refine B3 (Ay [(2,AH i xs.length),(6,AH i ys.length)] [] 0 V λV=>IH ((xs.getD i 0)=(ys.getD i 0)) V (λh3=> ?_) (λh3=> ?_))
   ·exact Aj [] 0 V λV=>AY (AN (Ao (Ao (AN (Ao (Ec rfl (.inr rfl) V [.v (.bool false)] [] (by show weak _ (.v (.bool (decide (xs=ys))))= .v (.bool (decide (xs=ys)));rw[nC h3];rfl) aa))))))
   ·exact FN (Aw [(1,Cu i)] [5] 0 V λV=>Ae (As Y V (i+1) [] ⟨Ac,(Br pm A_),aa⟩))
  ·have hT:=V
   obtain rfl:xs.length=i:=by omega
   have V:=hT
   exact Dw (Aj [] 0 V λV=>AY (Ec rfl (.inr rfl) V [.v (.bool true)] [] (by show weak _ (.v (.bool (decide (xs=ys))))= .v (.bool (decide (xs=ys)));rw[nB h1 pm];rfl) aa))
end
def IN (wk:Ad) (i x8:Nat):(Bool×Ad)->(Bool×Ad):=λ(x7,x6)=>if(wk.getD x8 0)=(i:Int)then(true,x6)else(x7,x6++[(wk.getD x8 0)])
def Jh (a b:Nat) (wk:Ad) (i:Nat):Nat->Bool×Ad
 |0=>(false,[])
 |x8+1=>IN wk i x8 (Jh a b wk i x8)
def KY (k2:Nat):(Nat×Ad)->(Nat×Ad):=λ(x10,o3)=>(x10+1,o3++[((x10:Nat):Int)])
def Cw (a b:Nat) (wk:Ad) (i:Nat):Nat->Nat×Ad
 |0=>(b,[]++wk)
 |k2+1=>KY k2 (Cw a b wk i k2)
def Dp (i:Nat):(Nat×Ad)->Prop:=λ(x10,o3)=>((x10:Nat):Int)<(i:Int)
section
variable (a b:Nat) (wk:Ad) (i:Nat)
def Xs:Nat×Ad×Nat:=AV (if(i:Int)<(b:Int)then(if(!(Jh a b wk i wk.length).1)=true then(b,wk,5)else(b,(Jh a b wk i wk.length).2,0))else(if(40:Int)<((i-b:Nat):Int)then(b,wk,6)else(if(60:Int)<((((Cw a b wk i (D3 λj=>Dp i (Cw a b wk i j))).2).length:Nat):Int)then((i+1),((Cw a b wk i (D3 λj=>Dp i (Cw a b wk i j))).2).drop ((((Cw a b wk i (D3 λj=>Dp i (Cw a b wk i j))).2).length)-60),0)else((i+1),(Cw a b wk i (D3 λj=>Dp i (Cw a b wk i j))).2,0))))
def YB (z_:Nat×Ad×Nat:=Xs a b wk i):Con:=⟨[.ag (Jg [vi (a:Int),vi (b:Int),.ls false El wk]),vi (i:Int)],[],.tu (Jg [.ag (Jg [vi (a:Int),vi ((z_.1:Nat):Int),.ls false El (z_.2.1)]),vi ((z_.2.2:Nat):Int)]),[]⟩
theorem Y6 (hk:wk.length<=1000) (hi:i<=1000000/\b<=1000000):AP 35 (YB a b wk i):=by
 refine cy 0 func35 rfl ntmps35 λY V=>Aj [] 2 V λV=>Ar (Aj [] 2 V λV=>AJ ((i:Int)<(b:Int)) V (λh1=> ?_) (λh1=> ?_))
 ·refine Aj [] 2 V λV=>Aj [] 2 V λV=>Ar (Aj [] 2 V λV=>BC ?_)
  obtain⟨gs,V⟩:=V.nilk 6 3 El
  refine AC (ι:=Nat×Bool×Ad) Y V (λ(x8,x7,x6)=>(wk.length-x8,[(7,.v (.bool x7)),(8,vi ((x8:Nat):Int))],[(2,.sl 3 El x6)],(x8<=wk.length)/\((x7,x6)=Jh a b wk i x8)/\(x6.length<=x8)/\True)) [1,2,4,5,6] [0,1] 3 (0,false,[]) [(0,0),(1,1),(2,2)] ⟨Ac,rfl,(by simp),aa⟩ ?_
  rintro⟨x8,x7,x6⟩ ac gs ws ⟨hx8,hq1,p1,_⟩ V
  refine Ar (Aj [] 3 V λV=>AJ ((x8:Int)<((wk.length:Nat):Int)) V (λh2=> ?_) (λh2=> ?_))
  ·refine B3 (Ay [(3,AH x8 wk.length)] [] 3 V λV=>AJ ((wk.getD x8 0)=(i:Int)) V (λh3=> ?_) (λh3=> ?_))
   ·exact Dl [] 3 V λV=>Ck (Aw [(1,Cu x8)] [8] 3 V λV=>Ae (As Y V (x8+1,true,x6) [(0,0),(1,1),(2,2)] ⟨Ac,(Bm (st:=IN _ _) hq1 rfl (Eq.symm (ah h3))),(by first |omega|(rw[ab,aw,au];omega)),aa⟩))
   ·exact Aw [(4,AH x8 wk.length),(7,Gt x6.length 1 8)] [6] 4 V λV=>Ck (Aw [(1,Cu x8)] [8] 4 V λV=>Ae (As Y V (x8+1,x7,x6++[(wk.getD x8 0)]) [(0,0),(1,1),(2,3)] ⟨Ac,(Bm (st:=IN _ _) hq1 rfl (Eq.symm (aj h3))),(by first |omega|(rw[ab,aw,au];omega)),aa⟩))
  ·have hT:=V
   obtain rfl:wk.length=x8:=by omega
   obtain⟨rfl,rfl⟩:=T1 hq1
   have V:=hT
   refine JH (Aj [] 3 V λV=>Sd (!(Jh a b wk i wk.length).1) V (λh4=> ?_) (λh4=> ?_))
   ·exact Aj [] 3 V λV=>AY (Ao (Ao (BV (.trans (Ab _) ((ah h1).trans (ah h4))) V)))
   ·refine Cb (Aj [] 3 V λV=>AY (Ao ?_))
    obtain⟨gs,V⟩:=V.fz 2
    exact BV (.trans (Ab _) ((ah h1).trans (aj (LQ h4)))) V
 ·refine DG (Ay [(3,IM i b (i-b))] [] 2 V λV=>AJ ((40:Int)<((i-b:Nat):Int)) V (λh5=> ?_) (λh5=> ?_))
  ·exact Aj [] 2 V λV=>AY (Ao (BV (.trans (Ab _) ((aj h1).trans (ah h5))) V))
  ·refine Cb (Ay [(3,Cu i),(4,Np),(7,Gt 0 wk.length 8)] [9] 5 V λV=>Ar (Aj [] 5 V λV=>BC (AC (ι:=Nat×Nat×Ad) Y V (λ(k2,x10,o3)=>(i-x10,[(10,vi (x10:Int))],[(3,.sl 3 El o3)],((x10,o3)=Cw a b wk i k2)/\(∀j,j<k2->Dp i (Cw a b wk i j))/\(b<=x10/\x10<=i/\i<=b+40/\o3.length+b=wk.length+x10)/\True)) [1,4,5,9] [1,4] 5 (0,b,[]++wk) [(1,1),(3,3),(4,4)] ⟨rfl,(λj h=>absurd h (be j)),(by simp;omega),aa⟩ ?_)))
   rintro⟨k2,x10,o3⟩ ac gs ws ⟨hq2,hj2,p2,_⟩ V
   refine Ar (Aj [] 5 V λV=>AJ ((x10:Int)<(i:Int)) V (λh6=> ?_) (λh6=> ?_))
   ·exact B3 (Aw [(4,Gt o3.length 1 8)] [] 6 V λV=>Ck (Aw [(1,Cu x10)] [10] 6 V λV=>Ae (As Y V (k2+1,x10+1,o3++[(x10:Int)]) [(1,1),(3,5),(4,4)] ⟨(Bm (st:=KY) hq2 rfl rfl),(Br hj2 (by rw[<-hq2];exact h6)),(by rw[ab,aw,au];omega),aa⟩)))
   ·have hT:=V
    obtain rfl:=CE (by rw[<-hq2];first |exact h6|exact cq h6) hj2
    obtain⟨rfl,rfl⟩:=T1 hq2
    have V:=hT
    refine JH (Aj [] 5 V λV=>AJ ((60:Int)<((((Cw a b wk i (D3 λj=>Dp i (Cw a b wk i j))).2).length:Nat):Int)) V (λh7=> ?_) (λh7=> ?_))
    ·obtain⟨gs,V⟩:=V.fz 3
     exact Aw [(5,IM (((Cw a b wk i (D3 λj=>Dp i (Cw a b wk i j))).2).length) 60 ((((Cw a b wk i (D3 λj=>Dp i (Cw a b wk i j))).2).length)-60)),(6,ON ((((Cw a b wk i (D3 λj=>Dp i (Cw a b wk i j))).2).length)-60) ((Cw a b wk i (D3 λj=>Dp i (Cw a b wk i j))).2).length)] [] 5 V λV=>Ae (Aj [] 5 V λV=>AY (BV (.trans (Ab _) ((aj h1).trans ((aj h5).trans (ah h7)))) V))
    ·refine Cb (Aj [] 5 V λV=>AY ?_)
     obtain⟨gs,V⟩:=V.fz 3
     exact BV (.trans (Ab _) ((aj h1).trans ((aj h5).trans (aj h7)))) V
end
def Abk (x0 x1:Nat) (x2 x3:Ad) (x4:Nat):O:= .ob 39 (Jg [.cp x0 0,.cp x1 0,vi 0,vi 0,.ls false El x2,vi 0,vi 0,.ls false El x3,.sk x4])
def A4 (x0:Ad) (x1 x2:Bool) (x3 x4:Nat) (x5:AZ) (x6:List (Int×Int×AZ)):O:= .ob 80 (Jg [lb x0,.v (.bool x1),.v (.bool x2),.cp x3 0,.cp x4 0,.v (.pointer none),vi 0,.ls false A8 x5,vi 0,vi 0,.ls false CM x6])
section
variable (rX:Ad)
def Ux:Ad×Ad×Ad×AZ×Ad×Ad×Ad×AZ:=AV (((GA rX true).1,(GA rX true).2.1,(GA rX true).2.2.1,(GA rX true).2.2.2,(GA rX false).1,(GA rX false).2.1,(GA rX false).2.2.1,(GA rX false).2.2.2))
def UX (z_:Ad×Ad×Ad×AZ×Ad×Ad×Ad×AZ:=Ux rX):Con:=⟨[lb rX,.v (.bool false)],[],.tu (Jg [.cp 0 0,.v (.bool true)]),[(0,Abk 1 4 [] [] 7),(1,A4 (z_.1) true false 2 3 (z_.2.2.2.1) []),(2,En (z_.2.1)),(3,En (z_.2.2.1)),(4,A4 (z_.2.2.2.2.1) false false 5 6 (z_.2.2.2.2.2.2.2) []),(5,En (z_.2.2.2.2.2.1)),(6,En (z_.2.2.2.2.2.2.1)),(7,.sl 48 Bp [])]⟩
theorem WB (hr:rX.length=32):AP 12 (UX rX):=by
 refine cy 0 func12 rfl ntmps12 λY V=>Aj [] 0 V λV=>Aj [] 1 V λV=>Ar (Aj [] 1 V λV=>BC (wp_loop_rounds 3 (Bc (n:=2) (Ar (Aj [12] 1 V λV=>AG V (B3 (Ay [(4,AA (Zh rX true Ax) [] [(0,1),(1,2),(2,3)])] [16,17,18,19,20,21,22,23] 4 V λV=>Ar (Aj [24,25,26,27,28] 4 V λV=>Ai V (Cb (Aw [(5,AH 0 2)] [30,31,32,33,34,35] 4 V λV=>Ck (Dl [7,14,15] 4 V λV=>Ae (Bc (n:=1) (Ar (Aj [12] 4 V λV=>AG V (B3 (Ay [(4,AA (Zh rX false Ax) [] [(0,4),(1,5),(2,6)])] [16,17,18,19,20,21,22,23] 7 V λV=>Ar (Aj [24,25,26,27,28] 7 V λV=>Ai V (Cb (Aw [(5,AH 1 2)] [30,31,32,33,34,35] 7 V λV=>Ck (Dl [7,14,15] 7 V λV=>Ae (Bc (n:=0) (Ar (Aj [] 7 V λV=>Ai V (JH ?_))))))))))))))))))))))))
 have V:=V.wko 0 [.top,.top,.top,.top,.ls false El [],.top,.top,.ls false El [],.top]
 obtain⟨gs,V⟩:=V.nilob 0 8 48 Bp
 have V:=V.wko 1 [.top,.top,.top,.top,.top,.top,.top,.ls false A8 [],.top,.top,.ls false CM []]
 have V:=V.wko 4 [.top,.top,.top,.top,.top,.top,.top,.ls false A8 [],.top,.top,.ls false CM []]
 exact Dl [0,1,6,7,8,9,13,14,15,16,17,18,19,20,21,22,23,24,25,26,27,28,29,30,31,32,33,34,35] 8 V λV=>EY (BV (Ab _) V)
def Pj:Ad:=CX rX (ByteArray.mk #[112,97,105,114])
def pM:Ad:=CX rX (ByteArray.mk #[109,105,120])
def pA:Ad:=CX rX (ByteArray.mk #[102,105,114,115,116])
def pB:Ad:=CX rX (ByteArray.mk #[111,116,104,101,114])
end
@[simp] theorem Q0 (rX:Ad):(pA rX).length=32:=Kk ..
@[simp] theorem QZ (rX:Ad):(pB rX).length=32:=Kk ..
@[simp] theorem XX (rX:Ad):(pM rX).length=32:=Kk ..
theorem WC (rX:Ad):Ux rX=(Pj rX,pA rX,pB rX,[pM rX],Pj rX,pB rX,pA rX,[pM rX]):=by
 have h1:GA rX true=(Pj rX,pA rX,pB rX,[pM rX]):=by unfold GA;rw[Ab];first |rfl|(simp;rfl)
 have h2:GA rX false=(Pj rX,pB rX,pA rX,[pM rX]):=by unfold GA;rw[Ab];first |rfl|(simp;rfl)
 unfold Ux;rw[Ab];rw[h1,h2]
theorem ZM {a:Int} (ha:0<=a/\a<18446744073709551616):(BitVec.ofInt 64 a).toNat=a.toNat:=by rw[eS];omega
theorem N7 {x:Int} (h:0<=x/\x<18446744073709551616):IntKind.wrap .u64 x=x:=by
 have :IntKind.wrap .u64 x=x%18446744073709551616:=by simp [IntKind.wrap,IntKind.bits,IntKind.signed]
 rw[this];omega
theorem xK {a b:Int} (ha:0<=a/\a<18446744073709551616) (hb:0<=b/\b<18446744073709551616):Em .u64 a b=((a.toNat|||b.toNat:Nat):Int):=by
 have h:a.toNat|||b.toNat<2^64:=gw Ac Ac
 unfold Em
 rw[N7]
 ·show(((BitVec.ofInt 64 a|||BitVec.ofInt 64 b).toNat:Nat):Int)=_
  rw[BitVec.toNat_or,ZM ha,ZM hb]
 ·show 0<=(((BitVec.ofInt 64 a|||BitVec.ofInt 64 b).toNat:Nat):Int)/\(((BitVec.ofInt 64 a|||BitVec.ofInt 64 b).toNat:Nat):Int)<_
  rw[BitVec.toNat_or,ZM ha,ZM hb]
  omega
theorem Ab1:((List.range 256).all λc=>decide (Fu .u8 ((c:Nat):Int) 128=((c%128:Nat):Int)))=true:=by kernel_rfl
theorem Ab2 (c:Nat) (h:c<256):Fu .u8 (c:Int) 128=((c%128:Nat):Int):=cj (ax.1 Ab1 c (eo.2 h))
theorem Abz:((List.range 256).all λc=>decide (Em .u8 ((c:Nat):Int) 128=((128+c%128:Nat):Int)))=true:=by kernel_rfl
theorem Adc (c:Nat) (h:c<256):Em .u8 (c:Int) 128=((128+c%128:Nat):Int):=cj (ax.1 Abz c (eo.2 h))
theorem KC {v x i:Nat} (hv:v<2^(7*i)) (hx:x<128) (hl:x*2^(7*i)+v<2^62) (c:Int) (hc:Fu .u8 c 128=(x:Nat)):Em .u64 (v:Int) (BX .u64 (IntKind.wrap .u64 (Fu .u8 c 128)) ((7*i:Nat):Int))=((x*2^(7*i)+v:Nat):Int):=by
 rw[hc,N7 Ac]
 by_cases hi:7*i<=64
 ·have h1 : BX .u64 (x : Int) ((7 * i : Nat) : Int) = ((x * 2 ^ (7 * i) : Nat) : Int) := by
   unfold BX
   rw[show min ((7*i:Nat):Int).toNat (IntKind.bits .u64)=7*i by simp [IntKind.bits];omega,show(x:Int)*2^(7*i)=((x*2^(7*i):Nat):Int) by simp]
   exact N7 Ac
  rw[h1,xK Ac Ac,bc,bc]
  congr 1
  rw[Nat.or_comm,Nat.mul_comm x]
  exact(Nat.two_pow_add_eq_or_of_lt hv x).symm
 ·have h2:2^62<=2^(7*i):=gy (by decide) Ac
  have hx0:x=0:=by
   rcases eR x with h|h
   ·exact h
   ·have :1*2^(7*i)<=x*2^(7*i):=cz _ h
    omega
  subst hx0
  have h1:BX .u64 ((0:Nat):Int) ((7*i:Nat):Int)=((0:Nat):Int):=by
   unfold BX
   rw[show((0:Nat):Int)=0 from rfl,Int.zero_mul];rfl
  rw[h1,xK Ac Ac,bc,bc,Nat.or_zero,io,br]
theorem zH (r:Ad):∀(m i v:Nat),v<2^(7*i)->m*2^(7*i)+v<2^62->i<=9->(0<i->0<m)->Q6 (10-i) i ((v:Nat):Int) (Ah m++r)=some (((m*2^(7*i)+v:Nat):Int),r):=by
 intro m
 induction m using Nat.strongRecOn with
 |_ m ih=>
  intro i v hv hl hi hp
  obtain⟨k,hk⟩:∃k,10-i=k+1:=⟨9-i,by omega⟩
  have hw:IntKind.wrap .u8 (m:Int)=((m%256:Nat):Int):=by rw[Gb];omega
  by_cases h:128<=m
  ·have h2:128*2^(7*i)<=m*2^(7*i):=cz _ h
   have hi2:i<=7:=by
    rcases ci 7 i with h3|h3
    ·have :2^56<=2^(7*i):=gy (by decide) Ac
     omega
    ·exact h3
   have hc:Em .u8 (IntKind.wrap .u8 (m:Int)) 128=((128+m%128:Nat):Int):=by
    rw[hw]
    have :=Adc (m%256) (di _ (by decide))
    rw[show(m%256)%128=m%128 by omega]at this
    exact this
   have hlo:Fu .u8 ((128+m%128:Nat):Int) 128=((m%128:Nat):Int):=by
    have :=Ab2 (128+m%128) Ac
    rw[show(128+m%128)%128=m%128 by omega]at this
    exact this
   have hmul:m*2^(7*i)=m/128*2^(7*(i+1))+m%128*2^(7*i):=by
    rw[show 7*(i+1)=7+7*i by omega,Nat.pow_add,show(2:Nat)^7=128 from rfl,<-Nat.mul_assoc,<-ir]
    congr 1;omega
   rw[Oz h,gh,hk,hc]
   show(if(128:Int)<=((128+m%128:Nat):Int)then Q6 k (i+1) (Em .u64 _ (BX .u64 (IntKind.wrap .u64 (Fu .u8 _ 128)) _)) (Ah (m/128)++r)else _)=_
   rw[ah Ac,KC hv (di _ (by decide)) Ac _ hlo]
   have hv2:m%128*2^(7*i)+v<2^(7*(i+1)):=by
    rw[show 7*(i+1)=7+7*i by omega,Nat.pow_add,show(2:Nat)^7=128 from rfl]
    have :m%128*2^(7*i)<=127*2^(7*i):=cz _ Ac
    omega
   have :=ih (m/128) Ac (i+1) (m%128*2^(7*i)+v) hv2 Ac Ac (λ_=>by omega)
   rw[show 10-(i+1)=k by omega]at this
   rw[this,hmul,gp]
  ·have hc:IntKind.wrap .u8 (m:Int)=(m:Int):=by rw[hw];omega
   have hlo:Fu .u8 (m:Int) 128=(m:Int):=by
    have :=Ab2 m Ac
    rw[show m%128=m by omega]at this
    exact this
   rw[Q5 h,hk,hc]
   show(if(128:Int)<=(m:Int)then _ else if i=9/\(1:Int)<(m:Int)then none else if 0<i/\(m:Int)=0 then none else some (Em .u64 _ (BX .u64 (IntKind.wrap .u64 (Fu .u8 _ 128)) _),r))=_
   have h9:¬(i=9/\(1:Int)<(m:Int)):=λ⟨e,h1⟩=>by
    subst e
    have :1*2^63<=m*2^(7*9):=cz _ Ac
    omega
   rw[aj Ac,aj h9,aj (λ⟨a,b⟩=>by have :=hp a;omega),KC hv Ac hl _ hlo]
theorem Gm {n:Nat} (h:n<2^62) (r:Ad):JV (Ah n++r)=some ((n:Int),r):=by
 have :=zH r n 0 0 (by decide) (by simpa using h) (by decide) (λh=>absurd h (by decide))
 unfold JV
 simpa using this
theorem IF {n:Nat} (h:n<2^62) (r:Ad):Af (Ah n++r)=((n:Int),r):=F2 (Gm h r)
theorem Ko {n:Nat} (h:n<2^62) (r:Ad):Gn (Ah n++r)=true:=Kn (Gm h r)
theorem rB {n m:Nat} (h:n<2^62) (hm:n<=m) (r:Ad):D9 (Ah n++r) m=true:=by
 unfold D9;rw[Ab]
 rw[Ko h,IF h,ah rfl,aj (by show¬(m:Int)<(n:Int);omega)]
theorem iQ {xs:Ad} {n:Nat} (h:n<=xs.length):CJ xs n=true:=by
 cases hk:CJ xs n with
 |true=>rfl
 |false=>exact absurd (I1 (by rw[hk];decide)) Ac
theorem cN {d:Ad} {m:Nat} (h:d.length<=m) (hm:m<2^62):BA (Ah d.length++d) m=true:=by
 unfold BA;rw[Ab]
 rw[rB Ac h,ah rfl,IF Ac]
 show(if CJ d ((d.length:Nat):Int).toNat=true then true else false)=true
 rw[bc,iQ (an _),ah rfl]
theorem Ack {id ai ct:Nat} {d:Ad} (h:id<=1073741824/\ai<=1073741824/\ct<=1073741824) (hd:d.length<=1000):Gu (B7 id ai ct d)=true/\Cd (B7 id ai ct d)=([],id,ai,ct,d):=by
 have e:B7 id ai ct d=Ah id++(Ah ai++(Ah ct++(Ah d.length++d))):=by unfold B7;simp only[bu]
 have q1:=IF (n:=id) Ac (Ah ai++(Ah ct++(Ah d.length++d)))
 have q2:=IF (n:=ai) Ac (Ah ct++(Ah d.length++d))
 have q3:=IF (n:=ct) Ac (Ah d.length++d)
 have q4:=IF (n:=d.length) Ac d
 have b1:=Ko (n:=id) Ac (Ah ai++(Ah ct++(Ah d.length++d)))
 have b2:=Ko (n:=ai) Ac (Ah ct++(Ah d.length++d))
 have b3:=Ko (n:=ct) Ac (Ah d.length++d)
 rw[e]
 constructor
 ·unfold Gu;rw[Ab]
  simp only[q1,q2,q3,b1,b2,b3,cN hd (show 1000<2^62 by decide),if_true]
  rw[aj Ac,aj Ac,aj Ac]
 ·unfold Cd;rw[Ab]
  simp only[q1,q2,q3,q4,bc]
  rw[bp (an _),List.drop_of_length_le (an _)]
theorem uL {id ai ct:Nat} {d:Ad} (h:id<=1073741824/\ct<=1073741824/\ai<ct) (hd:1<=d.length/\d.length<=1000):RD (B7 id ai ct d)=(id,ai,ct,d,0):=by
 obtain⟨h1,h2⟩:=Ack (id:=id) (ai:=ai) (ct:=ct) (d:=d) Ac hd.2
 have h3:Kj (B7 id ai ct d)=true:=by
  unfold Kj;rw[Ab]
  rw[h1,ah rfl,h2];unfold Er;rw[Ab]
  rfl
 have h4:CP (B7 id ai ct d)=(id,ai,ct,d):=by unfold CP;rw[Ab];rw[h2]
 unfold RD;rw[Ab]
 rw[h3,ah rfl,h4]
 simp only[WQ h hd]
 rw[ah (by rfl),ah aa]
end
end Go.Sx.Tryz
namespace Go.Sx
open Go.Mi Go.RowKit
variable [Dfr]
def UQ (ρ:OM) (ks0:List Nat) (L':DL) (H':Hc) (nb':Nat):Bool:=
 let a:=AB ρ
 H3 a&&H3 (H'.map λp=>rn ρ p.1)&&(ks0.all λk=>CG k a&&Nat.beq (rn ρ k) k)&&(L'.all λp=>Fv a p.2)&&(H'.all λp=>CG p.1 a&&Fz a p.2)&&(a.all (Nat.blt · nb'))
section
variable {P:Program} {n:Nat} {L:DL} {H:Hp} {S0:Nat->Prop} {g0 g:G} {w0 w:World} {nb:Nat} {a:Act}
theorem St.ren2 {ks0:List Nat} {nm:Nat->Prop} (Y:∀k v,g0.N k=some v->k∈ks0) (V:SS n S0 g0 w0 (Ej L) (A7 H) nm a g w) (ρ:OM) (L':DL) (H':Hc) (nb':Nat) (hc:UQ ρ ks0 L' H' nb'=true) (hL:BG L (AB L')=L'.map λp=>(p.1,p.2.ren (rn ρ))) (hH:R6 H (rn ρ) H'):∃g',St n S0 g0 w0 L' (Hv H') nb' a g' w:=by
 simp only[UQ,ao,ax]at hc
 obtain⟨⟨⟨⟨⟨c1,c2⟩,c3⟩,c4⟩,c5⟩,c6⟩:=hc
 have c1:=F3 c1
 have c2:=F3 c2
 have nm:∀{ks:List Nat} {d:D},Fv ks d=true->d.plain=true/\∀k∈d.nm,k∈ks:=λ{ks d} h=>by
  simp only[Fv,ao,ax]at h
  exact⟨h.1,λk hk=>A5.1 (h.2 k hk)⟩
 have nmO:∀{ks:List Nat} {d:O},Fz ks d=true->d.plain=true/\∀k∈d.nm,k∈ks:=λ{ks d} h=>by
  simp only[Fz,ao,ax]at h
  exact⟨h.1,λk hk=>A5.1 (h.2 k hk)⟩
 let g':G:=⟨λk=>if k∈AB ρ then g.N (rn ρ k)else none,λk=>g.F (rn ρ k),g.X⟩
 have gN:∀k∈AB ρ,g'.N k=g.N (rn ρ k):=λk hk=>ah hk
 have hk0:∀k∈ks0,k∈AB ρ/\rn ρ k=k:=λk hk=>by
  have :=c3 k hk
  exact⟨A5.1 this.1,aq this.2⟩
 have hob:∀k o,A7 (Hv H') k=some o->k∈AB ρ/\o.plain=true/\(∀j∈o.nm,j∈AB ρ)/\A7 H (rn ρ k)=some (o.ren (rn ρ)):=λk o ho=>by
  rw[Hu]at ho
  have :=c5 _ (Lf ho)
  simp only at this
  exact⟨A5.1 this.1,(nmO this.2).1,(nmO this.2).2,N3 hH ho⟩
 have hinj:∀i∈AB H',∀j∈AB H',rn ρ i=rn ρ j->i=j:=by
  have key:∀(l:Hc),List.Nodup (l.map λp=>rn ρ p.1)->∀i∈AB l,∀j∈AB l,rn ρ i=rn ρ j->i=j:=by
   intro l
   induction l with
   |nil=>intro _ i hi;cases hi
   |cons p l ih=>
    intro hn i hi j hj e
    rw[bh,gl]at hn
    simp only[AB,bh,eD]at hi hj
    have inn:∀x,x∈l.map (·.1)->rn ρ x∈l.map λp=>rn ρ p.1:=λx hx=>by
     obtain⟨q,hq,rfl⟩:=cr.1 hx
     exact cr.2 ⟨q,hq,rfl⟩
    rcases hi with rfl|hi
    ·rcases hj with rfl|hj
     ·rfl
     ·exact absurd (e▸inn j hj) hn.1
    ·rcases hj with rfl|hj
     ·exact absurd (e▸inn i hi) hn.1
     ·exact ih hn.2 i hi j hj e
  exact key H' c2
 have kin:∀k o,A7 (Hv H') k=some o->k∈AB H':=λk o ho=>by
  rw[Hu]at ho
  exact cr.2 ⟨_,Lf ho,rfl⟩
 refine⟨g',V.size,V.defers,λt d ht=> ?_,⟨V.hs.wf,λk o ho=> ?_,λk o ho b hb=> ?_,λk o k' o' ho ho' hne b hb hb'=> ?_⟩,⟨V.go.ch,V.go.s,V.go.x,V.go.k,λk v hk=> ?_,λk v hk=> ?_⟩,V.wf0,λk o ho b hb=> ?_,λk v hk=> ?_⟩
 ·have h1:Ej (BG L (AB L')) t=some (d.ren (rn ρ)):=by rw[hL,PK,ht];rfl
  have h2:=V.fr t _ (Fb h1).2
  obtain⟨p1,p2⟩:=nm (c4 _ (PI ht))
  exact(GV d _ _ p1 λk hk=>gN k (p2 k hk)).1 h2
 ·obtain⟨h1,h2,h3,h4⟩:=hob k o ho
  exact(KX h2 (λj hj=>gN j (h3 j hj)) (gN k h1) rfl rfl).1 (V.hs.os _ _ h4)
 ·exact V.hs.own _ _ (hob k o ho).2.2.2 b hb
 ·exact V.hs.dis _ _ _ _ (hob k o ho).2.2.2 (hob k' o' ho').2.2.2 (λe=>hne (hinj k (kin k o ho) k' (kin k' o' ho') e)) b hb hb'
 ·obtain⟨h1,h2⟩:=hk0 k (Y k v hk)
  rw[gN k h1,h2]
  exact V.go.n k v hk
 ·obtain⟨h1,h2⟩:=hk0 k (Y k v hk)
  show g.F (rn ρ k)=_
  rw[h2]
  exact V.go.f k v hk
 ·exact V.fp _ _ (hob k o ho).2.2.2 b hb
 ·by_cases h:k∈AB ρ
  ·have :=c6 k h
   rw[ay]at this
   exact this
  ·rw[show g'.N k=none from aj h]at hk;cases hk
end
section
variable {n:Nat} {σ:Sg} {S0:Nat->Prop} {g0 g:G} {w0 w:World} {nb:Nat} {a:Act}
theorem Sp.rn2 {ks0:List Nat} (V:Sp n S0 g0 w0 σ nb a g w) (ρ:OM) (L':DL) (H':Hc) (nb':Nat) (Y:∀k v,g0.N k=some v->k∈ks0) (hc:UQ ρ ks0 L' H' nb'=true:=by kernel_rfl) (hL:BG σ.1 (AB L')=L'.map λp=>(p.1,p.2.ren (Go.Sx.rn ρ)):=by kernel_rfl) (hH:(H'.map λp=>A7 σ.2 (Go.Sx.rn ρ p.1))=(H'.map λp=>some (p.2.ren (Go.Sx.rn ρ))):=by kernel_rfl):∃g',Sp n S0 g0 w0 (L',Hv H') nb' a g' w:=
 St.ren2 Y V.st ρ L' H' nb' hc hL (by
  clear hc hL
  induction H' with
  |nil=>trivial
  |cons p r ih=>
   obtain⟨j,o⟩:=p
   simp only[bh,List.cons.injEq]at hH
   exact⟨hH.1,ih hH.2⟩)
end
end Go.Sx
namespace Go.Sx.Tryz
open Go.Mi Go.RowKit Go.Sx Go.Proofs Go.Proofs.Tryz
noncomputable section
open List (replicate map_drop take_left drop_left range'_concat)
theorem Ry {id ai ct:Nat} {d:Ad} (h:1<=d.length):1<=(B7 id ai ct d).length:=by unfold B7;rw[ab];omega
theorem UK (id ai ct:Nat) (d:Ad) (h:id<=1073741824/\ct<=1073741824/\ai<ct) (hd:1<=d.length/\d.length<=1000):AP 108 ⟨[lb (B7 id ai ct d)],[],.tu (Jg [.ag (Jg [vi (id:Int),vi (ai:Int),vi (ct:Int),lb d]),vi 0]),[]⟩:=by
 have hl:(B7 id ai ct d).length<=100000000000000:=by
  have h1:=Aq (n:=id) Ac
  have h2:=Aq (n:=ai) Ac
  have h3:=Aq (n:=ct) Ac
  have h4:=Aq (n:=d.length) Ac
  unfold B7
  simp only[ab];omega
 have h1:=dX (B7 id ai ct d) hl
 unfold Xc at h1
 rw[uL h hd]at h1
 exact h1
section
variable (x0 x1:Nat)
def JY (x2:Nat) (x3 x4:Ad) (x5 x6:Nat):O:= .ob 126 (Jg [vi 1000,vi ((x0:Nat):Int),vi ((x1:Nat):Int),vi ((x2:Nat):Int),lb x3,lb x4,.cp x5 0,.sk x6])
def U6 (x2:CB):O:= .ob 187 (Jg [vi ((x0:Nat):Int),vi 1000,vi ((x1:Nat):Int),.ls false Bq x2])
def fI:O:= .ob 187 (Jg [vi ((x0:Nat):Int),vi 1000,vi 1088,.sk x1])
def YZ:O:= .ob 187 (Jg [vi ((x0:Nat):Int),vi 1000,vi 1184,.sk x1])
def AL (x2:Nat) (x3 x4:Ad) (x5:Nat):O:= .ob 126 (Jg [vi 1000,vi ((x0:Nat):Int),vi ((x1:Nat):Int),vi ((x2:Nat):Int),lb x3,lb x4,.cp x5 0,.v (.slice none 0 0)])
def Dg (x2:Nat):O:= .ob 187 (Jg [vi ((x0:Nat):Int),vi 1000,vi ((x1:Nat):Int),.sk x2])
def Ac7 (x2 x3:Nat):O:= .ob 126 (Jg [vi 1000,vi ((x0:Nat):Int),vi ((x1:Nat):Int),vi 0,.v (.slice none 0 0),.v (.slice none 0 0),.cp x2 0,.sk x3])
def Abj (x2:Nat):O:= .ob 126 (Jg [vi 1000,vi ((x0:Nat):Int),vi ((x1:Nat):Int),vi 0,.v (.slice none 0 0),.v (.slice none 0 0),.cp x2 0,.v (.slice none 0 0)])
end
theorem NX (id sz ln:Nat) (bx:CB) (pid pa:Nat) (ct q:Nat) (d:Ad) (hb:bx.length<=10000) (hz:sz<=1000/\ln<=10000) (hpid:pid=id) (hq:q=pa*sz) (hql:q<ln) (hpa:pa<bx.length) (hct:ct=bx.length) (hdl:d.length=min sz (ln-q)) (hft:Lz bx pa d) (hd:1<=d.length/\d.length<=100000):AP 133 ⟨[.cp 0 0,.ag (Jg [vi (pid:Int),vi (pa:Int),vi (ct:Int),lb d])],[(0,Sq id sz ln 1),(1,.sl 22 Bq bx)],vi ((KW bx pa:Nat):Int),[(0,Sq id sz ln 1),(1,.sl 22 Bq (Bf bx pa d))]⟩:=by
 subst hpid
 exact pY pid sz ln bx pa ct q d hb hz hq hql hpa hct hdl hft hd
section
variable (st ep aD:Nat) (sd tx:Ad) (id ln:Nat) (bx:CB)
theorem Yp (sec:AZ) (e2:Nat) (hst:st=1) (he2:e2<=500000000):AP 114 ⟨[.cp 0 0,vi (e2:Int)],[(0,JY st ep aD sd tx 1 2),(1,U6 id ln bx),(2,.sl 22 A8 sec)],.cp 3 0,[(0,JY st ep aD sd tx 1 2),(1,U6 id ln bx),(2,.sl 22 A8 sec),(3,fI ((2*e2)+1) 4),(4,.sl 22 Bq (replicate 2 none))]⟩:=by
 refine cy 3 func114 rfl ntmps114 λY V=> ?_
 have hs1:(st:Int)=1:=Ac
 exact C9 [] 3 V λV=>D8 [(1,IC 2 e2 (2*e2))] [] 3 V λV=>Ar (D8 [(4,Gv hs1)] [] 3 V λV=>AG V (G0 [(1,IC 2 e2 (2*e2)),(2,FW (2*e2) 1 ((2*e2)+1))] [] 3 V λV=>Ae (D8 [(12,Pe ((1000:Int)≠0)),(18,AA (JM ((2*e2)+1) 2 1000 1088 Ac Ac) [] [(0,3),(1,4)])] [] 5 V λV=>C9 [] 5 V λV=>AY (BW V))))
theorem Yo (sec:AZ) (e2:Nat) (hst:st=2) (he2:e2<=500000000):AP 114 ⟨[.cp 0 0,vi (e2:Int)],[(0,JY st ep aD sd tx 1 2),(1,U6 id ln bx),(2,.sl 22 A8 sec)],.cp 3 0,[(0,JY st ep aD sd tx 1 2),(1,U6 id ln bx),(2,.sl 22 A8 sec),(3,YZ (2*e2) 4),(4,.sl 22 Bq (replicate 2 none))]⟩:=by
 refine cy 3 func114 rfl ntmps114 λY V=> ?_
 have hs1:¬(st:Int)=1:=Ac
 exact C9 [] 3 V λV=>D8 [(1,IC 2 e2 (2*e2))] [] 3 V λV=>Ar (D8 [(4,Do hs1)] [] 3 V λV=>Ai V (Cb (D8 [(12,Pe ((1000:Int)≠0)),(18,AA (JM (2*e2) 2 1000 1184 Ac Ac) [] [(0,3),(1,4)])] [] 5 V λV=>C9 [] 5 V λV=>AY (BW V))))
theorem Yn (e2:Nat) (hst:st=2) (he2:e2<=500000000):AP 114 ⟨[.cp 0 0,vi (e2:Int)],[(0,AL st ep aD sd tx 1),(1,Dg id ln 2),(2,.sl 22 Bq bx)],.cp 3 0,[(0,AL st ep aD sd tx 1),(1,Dg id ln 2),(2,.sl 22 Bq bx),(3,YZ (2*e2) 4),(4,.sl 22 Bq (replicate 2 none))]⟩:=by
 refine cy 3 func114 rfl ntmps114 λY V=> ?_
 have hs1:¬(st:Int)=1:=Ac
 exact C9 [] 3 V λV=>D8 [(1,IC 2 e2 (2*e2))] [] 3 V λV=>Ar (D8 [(4,Do hs1)] [] 3 V λV=>Ai V (Cb (D8 [(12,Pe ((1000:Int)≠0)),(18,AA (JM (2*e2) 2 1000 1184 Ac Ac) [] [(0,3),(1,4)])] [] 5 V λV=>C9 [] 5 V λV=>AY (BW V))))
theorem X7 (sec:AZ) (e2:Nat) (hst:st=1) (he2:e2<=500000000):AP 77 ⟨[.cp 0 0,vi (e2:Int)],[(0,JY st ep aD sd tx 1 2),(1,U6 id ln bx),(2,.sl 22 A8 sec)],.cp 0 0,[(0,Ac7 st e2 3 2),(1,U6 id ln bx),(2,.sl 22 A8 sec),(3,fI ((2*e2)+1) 4),(4,.sl 22 Bq (replicate 2 none))]⟩:=by
 exact cy 3 func77 rfl ntmps77 λY V=>C9 [] 3 V λV=>D8 [(8,AA (Yp st ep aD sd tx id ln bx sec e2 Ac Ac) [(0,0),(1,1),(2,2)] [(3,3),(4,4)])] [] 5 V λV=>C9 [] 5 V λV=>AY (BW V)
theorem X6 (e2:Nat) (hst:st=2) (he2:e2<=500000000):AP 77 ⟨[.cp 0 0,vi (e2:Int)],[(0,AL st ep aD sd tx 1),(1,Dg id ln 2),(2,.sl 22 Bq bx)],.cp 0 0,[(0,Abj st e2 3),(1,Dg id ln 2),(2,.sl 22 Bq bx),(3,YZ (2*e2) 4),(4,.sl 22 Bq (replicate 2 none))]⟩:=by
 exact cy 3 func77 rfl ntmps77 λY V=>C9 [] 3 V λV=>D8 [(8,AA (Yn st ep aD sd tx id ln bx e2 Ac Ac) [(0,0),(1,1),(2,2)] [(3,3),(4,4)])] [] 5 V λV=>C9 [] 5 V λV=>AY (BW V)
theorem Xj (pid pa:Nat) (ct q:Nat) (d:Ad) (hb:1<=bx.length/\bx.length<=10000) (hz:ln<=10000) (hpid:pid=id) (hq:q=pa*1000) (hql:q<ln) (hpa:pa<bx.length) (hct:ct=bx.length) (hdl:d.length=min 1000 (ln-q)) (hft:Lz bx pa d) (hd:1<=d.length/\d.length<=1000) (hf:KI (Bf bx pa d)=false):AP 142 ⟨[.cp 0 0,.ag (Jg [vi (pid:Int),vi (pa:Int),vi (ct:Int),lb d])],[(0,AL st ep aD sd tx 1),(1,Dg id ln 2),(2,.sl 22 Bq bx)],.tu (Jg [.v (.slice none 0 0),vi 0]),[(0,AL st ep aD sd tx 1),(1,Dg id ln 2),(2,.sl 22 Bq (Bf bx pa d))]⟩:=by
 refine cy 3 func142 rfl ntmps142 λY V=> ?_
 have hbe:¬((KW bx pa:Nat):Int)=2:=(Xh bx pa)
 refine Aj [] 4 V λV=>Ar (Ay [(5,AA (NX id 1000 ln bx pid pa ct q d Ax Ac Ac A_ Ac Ac Ac A_ (by first |assumption|exact hft Ac) Ax) [(0,1),(1,2)] []),(6,Do hbe)] [] 4 V λV=>Ai V (DG ?_))
 have hpl:=EO bx pa d
 exact Aw [(4,AA (GR id 1000 ln (Bf bx pa d) Ax A_) [(0,1),(1,2)] [])] [] 4 V λV=>Ae (Aj [] 4 V λV=>AY (BW V))
theorem Xi (pid pa:Nat) (ct q:Nat) (d:Ad) (hb:1<=bx.length/\bx.length<=10000) (hz:ln<=10000) (hpid:pid=id) (hq:q=pa*1000) (hql:q<ln) (hpa:pa<bx.length) (hct:ct=bx.length) (hdl:d.length=min 1000 (ln-q)) (hft:Lz bx pa d) (hd:1<=d.length/\d.length<=1000) (hf:KI (Bf bx pa d)=true) (hl:((II (Bf bx pa d)).flatten).length<=100000):AP 142 ⟨[.cp 0 0,.ag (Jg [vi (pid:Int),vi (pa:Int),vi (ct:Int),lb d])],[(0,AL st ep aD sd tx 1),(1,Dg id ln 2),(2,.sl 22 Bq bx)],.tu (Jg [lb ((II (Bf bx pa d)).flatten),vi 0]),[(0,AL st ep aD sd tx 1),(1,U6 id ln (Bf bx pa d))]⟩:=by
 refine cy 3 func142 rfl ntmps142 λY V=> ?_
 have hbe:¬((KW bx pa:Nat):Int)=2:=(Xh bx pa)
 refine Aj [] 4 V λV=>Ar (Ay [(5,AA (NX id 1000 ln bx pid pa ct q d Ax Ac Ac A_ Ac Ac Ac A_ (by first |assumption|exact hft Ac) Ax) [(0,1),(1,2)] []),(6,Do hbe)] [] 4 V λV=>Ai V (DG ?_))
 have hpl:=EO bx pa d
 exact Aw [(4,AA (eX id 1000 ln (Bf bx pa d) Ax A_ A_) [(0,1),(1,2)] [])] [] 4 V λV=>Ae (Aj [] 4 V λV=>AY (BW V))
end
section
variable (st ep aD:Nat) (sd tx:Ad) (id ln:Nat) (bx:CB) (pid pa:Nat) (ct q:Nat) (d:Ad)
theorem Qp (r:Ad) (hb:1<=bx.length/\bx.length<=10000) (hz:ln<=10000) (hpid:pid=id) (hq:q=pa*1000) (hql:q<ln) (hpa:pa<bx.length) (hct:ct=bx.length) (hdl:d.length=min 1000 (ln-q)) (hft:Lz bx pa d) (hd:1<=d.length/\d.length<=1000) (hst:st=2) (hf:KI (Bf bx pa d)=false):AP 110 ⟨[.cp 0 0,.ag (Jg [vi (pid:Int),vi (pa:Int),vi (ct:Int),lb d]),lb r],[(0,AL st ep aD sd tx 1),(1,Dg id ln 2),(2,.sl 22 Bq bx)],vi 0,[(0,AL st ep aD sd tx 1),(1,Dg id ln 2),(2,.sl 22 Bq (Bf bx pa d))]⟩:=by
 exact cy 3 func110 rfl ntmps110 λY V=>Aj [] 4 V λV=>Ay [(2,AA (Xj st ep aD sd tx id ln bx pid pa ct q d Ax Ac Ac A_ Ac Ac Ac A_ (by first |assumption|exact hft Ac) Ax A_) [(0,0),(1,1),(2,2)] [])] [] 4 V λV=>Ar (Aj [] 4 V λV=>AG V (Aj [] 4 V λV=>AY (Ao (BW V))))
theorem Xx (r:Ad) (hb:1<=bx.length/\bx.length<=10000) (hz:ln<=10000) (hpid:pid=id) (hq:q=pa*1000) (hql:q<ln) (hpa:pa<bx.length) (hct:ct=bx.length) (hdl:d.length=min 1000 (ln-q)) (hft:Lz bx pa d) (hd:1<=d.length/\d.length<=1000) (hst:st=2) (hck:chk ((II (Bf bx pa d)).flatten)=0) (hFl:((II (Bf bx pa d)).flatten).length=1184) (hr:r.length=64) (he:ep<=400000000) (hf:KI (Bf bx pa d)=true):AP 110 ⟨[.cp 0 0,.ag (Jg [vi (pid:Int),vi (pa:Int),vi (ct:Int),lb d]),lb r],[(0,AL st ep aD sd tx 1),(1,Dg id ln 2),(2,.sl 22 Bq bx)],vi 0,[(0,.ob 126 (Jg [vi 1000,vi 3,vi (ep:Int),vi 0,lb sd,.sk 3,.cp 4 0,.sk 6])),(1,U6 id ln (Bf bx pa d)),(3,.sl 5 Bg ((EV ((II (Bf bx pa d)).flatten) (r.take 32)).2)),(4,YZ (2*ep) 5),(5,.sl 22 Bq (replicate 2 none)),(6,.sl 22 A8 ([]++[(EV ((II (Bf bx pa d)).flatten) (r.take 32)).1]))]⟩:=by
 refine cy 3 func110 rfl ntmps110 λY V=> ?_
 have hf1:¬((((II (Bf bx pa d)).flatten).length:Nat):Int)=0:=Ac
 refine Aj [] 4 V λV=>Ar ?_
 have hl5:((II (Bf bx pa d)).flatten).length<=100000:=by omega
 refine Aw [(2,AA (Xi st ep aD sd tx id ln bx pid pa ct q d Ax Ac Ac A_ Ac Ac Ac A_ (by first |assumption|exact hft Ac) Ax A_ A_) [(0,0),(1,1),(2,2)] [])] [] 4 V λV=>CQ (Ay [(5,Do hf1)] [] 4 V λV=>Ai V (Cb (Ay [(2,fE 32 r.length),(3,AA (Yl ((II (Bf bx pa d)).flatten) (r.take 32) Ac Ax) [] [(0,4)])] [] 5 V λV=>Ar (Aj [] 5 V λV=>Ai V (Cb (Ay [(7,Gt 0 1 24)] [] 6 V λV=>Ay [(10,AA (Yo st ep aD sd tx id ln (Bf bx pa d) ([]++[(EV ((II (Bf bx pa d)).flatten) (r.take 32)).1]) ep Ac Ac) [(0,0),(1,1),(2,5)] [(3,6),(4,7)])] [] 8 V λV=>Aj [] 8 V λV=>AY ?_))))))
 obtain⟨gs,V⟩:=V.rx [(0,0),(1,1),(2,2),(3,4),(4,6),(5,7),(6,5)] [6] [0,1,3,4,5,6] 7 Y
 exact BW V
theorem X5 (hb:1<=bx.length/\bx.length<=10000) (hz:ln<=10000) (hpid:pid=id) (hq:q=pa*1000) (hql:q<ln) (hpa:pa<bx.length) (hct:ct=bx.length) (hdl:d.length=min 1000 (ln-q)) (hft:Lz bx pa d) (hd:1<=d.length/\d.length<=1000) (hst:st=1) (hid:id=2*ep+1) (htx:1<=tx.length) (he:ep<=400000000) (hf:KI (Bf bx pa d)=false):AP 109 ⟨[.cp 0 0,.ag (Jg [vi (pid:Int),vi (pa:Int),vi (ct:Int),lb d])],[(0,AL st ep aD sd tx 1),(1,Dg id ln 2),(2,.sl 22 Bq bx)],vi 0,[(0,AL st ep aD sd tx 1),(1,Dg id ln 2),(2,.sl 22 Bq (Bf bx pa d))]⟩:=by
 refine cy 3 func109 rfl ntmps109 λY V=> ?_
 have hg1:(pid:Int)=(((2*ep)+1:Nat):Int):=Ac
 have hg2:¬((tx.length:Nat):Int)=0:=Ac
 exact Aj [] 4 V λV=>Ar (Ay [(6,IC 2 ep (2*ep)),(7,FW (2*ep) 1 ((2*ep)+1)),(8,Ha hg1),(15,Do hg2)] [] 4 V λV=>Ai V (Cb (Ay [(2,AA (Xj st ep aD sd tx id ln bx pid pa ct q d Ax Ac Ac A_ Ac Ac Ac A_ (by first |assumption|exact hft Ac) Ax A_) [(0,0),(1,1),(2,2)] [])] [] 4 V λV=>Ar (Aj [] 4 V λV=>AG V (Aj [] 4 V λV=>AY (Ao (BW V)))))))
theorem X4 (hb:1<=bx.length/\bx.length<=10000) (hz:ln<=10000) (hpid:pid=id) (hq:q=pa*1000) (hql:q<ln) (hpa:pa<bx.length) (hct:ct=bx.length) (hdl:d.length=min 1000 (ln-q)) (hft:Lz bx pa d) (hd:1<=d.length/\d.length<=1000) (hst:st=1) (hid:id=2*ep+1) (htx:1<=tx.length) (he:ep<=400000000) (hFl:((II (Bf bx pa d)).flatten).length=1088) (hsd:sd.length=64) (hf:KI (Bf bx pa d)=true):AP 109 ⟨[.cp 0 0,.ag (Jg [vi (pid:Int),vi (pa:Int),vi (ct:Int),lb d])],[(0,AL st ep aD sd tx 1),(1,Dg id ln 2),(2,.sl 22 Bq bx)],vi 0,[(0,Ac7 st (ep+1) 3 5),(1,U6 id ln (Bf bx pa d)),(3,fI ((2*(ep+1))+1) 4),(4,.sl 22 Bq (replicate 2 none)),(5,.sl 22 A8 ([]++[(Je ((AO (sd.take 32) (sd.drop 32)).2) ((II (Bf bx pa d)).flatten)).1]))]⟩:=by
 refine cy 3 func109 rfl ntmps109 λY V=> ?_
 have hg1:(pid:Int)=(((2*ep)+1:Nat):Int):=Ac
 have hg2:¬((tx.length:Nat):Int)=0:=Ac
 have hf1:¬((((II (Bf bx pa d)).flatten).length:Nat):Int)=0:=Ac
 refine Aj [] 4 V λV=>Ar (Ay [(6,IC 2 ep (2*ep)),(7,FW (2*ep) 1 ((2*ep)+1)),(8,Ha hg1),(15,Do hg2)] [] 4 V λV=>Ai V (DG ?_))
 have hl5:((II (Bf bx pa d)).flatten).length<=100000:=by omega
 refine Aw [(2,AA (Xi st ep aD sd tx id ln bx pid pa ct q d Ax Ac Ac A_ Ac Ac Ac A_ (by first |assumption|exact hft Ac) Ax A_ A_) [(0,0),(1,1),(2,2)] [])] [] 4 V λV=>CQ (Ay [(5,Do hf1)] [] 4 V λV=>Ai V (Cb (Ay [(4,fE 32 sd.length),(9,ON 32 sd.length),(10,AA (Ur (sd.take 32) (sd.drop 32) Ax Ax) [] [(0,4)])] [] 5 V λV=>Ar ?_)))
 obtain⟨gs,V⟩:=V.fz 4
 refine Aw [(2,AS (dY ((AO (sd.take 32) (sd.drop 32)).2) ((II (Bf bx pa d)).flatten) Ax))] [] 5 V λV=>Ae (Ay [(7,Gt 0 1 24)] [] 6 V λV=>Ay [(5,Cu ep),(6,AA (X7 st ep aD sd tx id ln (Bf bx pa d) ([]++[(Je ((AO (sd.take 32) (sd.drop 32)).2) ((II (Bf bx pa d)).flatten)).1]) (ep+1) Ac Ac) [(0,0),(1,1),(2,5)] [(3,6),(4,7)])] [] 8 V λV=>Aj [] 8 V λV=>AY ?_)
 obtain⟨gs,V⟩:=V.rx [(0,0),(1,1),(2,2),(3,6),(4,7),(5,5)] [4] [0,1,3,4,5] 6 Y
 exact BW V
end
theorem AbF {pa:Nat} (h:pa<2):List.getD (α:=Option Ad) (replicate 2 none) pa none=none:=by
 have :pa=0\/pa=1:=by omega
 rcases this with rfl|rfl<;>rfl
theorem AbG {pa:Nat} (d:Ad) (h:pa<2):KI (Bf (replicate 2 none) pa d)=false:=by
 have :pa=0\/pa=1:=by omega
 rcases this with rfl|rfl<;>rfl
section
variable (st ep aD:Nat) (sd tx:Ad) (id ln:Nat) (bx:CB) (pid pa:Nat)
def O6 (ct q:Nat) (d r:Ad):Nat×Nat×Nat×Ad×Ad×Nat×Nat×CB×AZ:=AV (if(st:Int)=1 then(if(pid:Int)<=((2*ep:Nat):Int)then(st,ep,aD,sd,tx,id,ln,bx,[])else(if(pid:Int)<((2*ep:Nat):Int)then(st,ep,aD,sd,tx,id,ln,bx,[])else(if KI (Bf bx pa d)=true then(st,(ep+1),0,[],[],((2*(ep+1))+1),1088,(replicate 2 none),([]++[(Je ((AO (sd.take 32) (sd.drop 32)).2) ((II (Bf bx pa d)).flatten)).1]))else(st,ep,aD,sd,tx,id,ln,(Bf bx pa d),[]))))else(if(pid:Int)<((2*ep:Nat):Int)then(st,ep,aD,sd,tx,id,ln,bx,[])else(if(pid:Int)=((2*ep:Nat):Int)then(if(st:Int)=3 then(st,ep,aD,sd,tx,id,ln,bx,[])else(if KI (Bf bx pa d)=true then(3,ep,0,sd,((EV ((II (Bf bx pa d)).flatten) (r.take 32)).2),(2*ep),1184,(replicate 2 none),([]++[(EV ((II (Bf bx pa d)).flatten) (r.take 32)).1]))else(st,ep,aD,sd,tx,id,ln,(Bf bx pa d),[])))else(2,(ep+1),0,[],[],(2*(ep+1)),1184,(Bf (replicate 2 none) pa d),[]))))
def xJ (ct q:Nat) (d r:Ad) (z_:Nat×Nat×Nat×Ad×Ad×Nat×Nat×CB×AZ:=O6 st ep aD sd tx id ln bx pid pa ct q d r):Con:=⟨[.cp 0 0,lb (B7 pid pa ct d),lb r],[(0,AL st ep aD sd tx 1),(1,Dg id ln 2),(2,.sl 22 Bq bx)],vi 0,[(0,JY z_.1 z_.2.1 z_.2.2.1 (z_.2.2.2.1) (z_.2.2.2.2.1) 3 5),(3,Dg z_.2.2.2.2.2.1 z_.2.2.2.2.2.2.1 4),(4,.sl 22 Bq (z_.2.2.2.2.2.2.2.1)),(5,.sl 22 A8 (z_.2.2.2.2.2.2.2.2))]⟩
theorem z6 (ct q:Nat) (d r:Ad) (hb:bx.length=2) (hln:ln=(if st=1 then 1088 else 1184)) (hid:id=(if st=1 then 2*ep+1 else 2*ep)) (hst:st=1\/st=2\/st=3) (hpi:(st=1/\pid<=2*ep+1)\/(st≠1/\pid<=2*ep)\/(st=3/\pid=2*ep+2)) (hq:q=pa*1000) (hql:q<1088) (hpa:pa<2/\ct=2) (hdl:d.length=min 1000 ((if st=1 then 1088 else 1184)-q)) (hft:pid=id->st≠3->Lz bx pa d) (hd:1<=d.length/\d.length<=1000) (hr:r.length=64) (he:ep<=400000000/\pid<=1000000000) (htx:st=1->pid=id->1<=tx.length/\sd.length=64) (hEt0:st≠1->pid=2*ep->KI (Bf bx pa d)=true->chk ((II (Bf bx pa d)).flatten)=0/\((II (Bf bx pa d)).flatten).length=1184) (hEg0:st=1->pid=2*ep+1->KI (Bf bx pa d)=true->((II (Bf bx pa d)).flatten).length=1088):AP 73 (xJ st ep aD sd tx id ln bx pid pa ct q d r):=by
 refine cy 3 func73 rfl ntmps73 λY V=> ?_
 have hf2:((r.length:Nat):Int)=64:=Ac
 have hf3:¬(((B7 pid pa ct d).length:Nat):Int)=0:=(by have :=Ry (id:=pid) (ai:=pa) (ct:=ct) hd.1;omega)
 refine Aj [] 3 V λV=>Ii ?_
 have hst1:st=1->ln=1088/\id=2*ep+1/\d.length=min 1000 (1088-q):=λh=>by rw[ah h]at hln hid hdl;exact⟨hln,hid,hdl⟩
 have hst2:st≠1->ln=1184/\id=2*ep/\d.length=min 1000 (1184-q):=λh=>by rw[aj h]at hln hid hdl;exact⟨hln,hid,hdl⟩
 refine Aw [(12,Ha hf2)] [] 3 V λV=>Ae (Ai V (DG (Ay [(2,Do hf3)] [] 3 V λV=>Ai V (Cb (Ay [(1,AS (UK pid pa ct d Ac Ax))] [7] 4 V λV=>Ar (Aj [] 4 V λV=>Ai V (Cb (Ay [(4,IC 2 ep (2*ep))] [] 4 V λV=>Ar (BC (Ii ?_))))))))))
 by_cases h1:(st:Int)=1
 ·refine Aw [(4,Gv h1)] [] 4 V λV=>Ae (AJ ((pid:Int)<=((2*ep:Nat):Int)) V (λh2=> ?_) (λh2=> ?_))
  ·refine Cb (AJ ((pid:Int)<=((2*ep:Nat):Int)) V (λh3=> ?_) (λh3=> ?_))
   ·refine Ar ?_
    obtain⟨gs,V⟩:=V.nilob 0 7 22 A8
    refine Dl [] 5 V λV=>EY (AN (Ao ?_))
    obtain⟨gs,V⟩:=V.rn2 [(0,0),(1,1),(2,2),(3,1),(4,2),(5,4)] [(6,vi 0)] [(0,JY st ep aD sd tx 3 5),(3,Dg id ln 4),(4,.sl 22 Bq bx),(5,.sl 22 A8 [])] 6 Y
    exact BV (.trans (Ab _) ((ah h1).trans (ah h2))) V
   ·exact absurd h2 h3
  ·refine Dl [] 4 V λV=>Ae (AJ ((pid:Int)<((2*ep:Nat):Int)) V (λh4=> ?_) (λh4=> ?_))
   ·refine Ar ?_
    obtain⟨gs,V⟩:=V.nilob 0 7 22 A8
    refine Dl [] 5 V λV=>EY (AN (Ao ?_))
    obtain⟨gs,V⟩:=V.rn2 [(0,0),(1,1),(2,2),(3,1),(4,2),(5,4)] [(6,vi 0)] [(0,JY st ep aD sd tx 3 5),(3,Dg id ln 4),(4,.sl 22 Bq bx),(5,.sl 22 A8 [])] 6 Y
    exact BV (.trans (Ab _) ((ah h1).trans ((aj h2).trans (ah h4)))) V
   ·refine Ay [(4,Gv h1)] [] 4 V λV=>AG V (Ar ?_)
    have hs1:=hst1 Ac
    have htx1:=htx Ac Ac
    have hft1:=hft Ac Ac
    have hdl1:d.length=min 1000 (ln-q):=by rw[hs1.1];exact hs1.2.2
    have hEg:st=1->KI (Bf bx pa d)=true->((II (Bf bx pa d)).flatten).length=1088:=λh=>hEg0 h Ac
    by_cases h5:KI (Bf bx pa d)=true
    ·have hs1:=hst1 Ac
     have htx1:=htx Ac Ac
     have hft1:=hft Ac Ac
     have hdl1:d.length=min 1000 (ln-q):=by rw[hs1.1];exact hs1.2.2
     have hEg:st=1->KI (Bf bx pa d)=true->((II (Bf bx pa d)).flatten).length=1088:=λh=>hEg0 h Ac
     refine Aw [(2,AA (X4 st ep aD sd tx id ln bx pid pa ct q d Ax Ac Ac A_ Ac Ac Ac A_ (by first |assumption|exact hft Ac) Ax Ac Ac Ax Ac (hEg Ac A_) Ax h5) [(0,0),(1,1),(2,2)] [(3,4),(4,5),(5,6)])] [] 7 V λV=>EY (AN (Ao ?_))
     have V:=V.wko 0 [.top,.top,.top,.top,lb [],lb [],.top,.top]
     obtain⟨gs,V⟩:=V.rx [(0,0),(1,1),(2,2),(3,4),(4,5),(5,6)] [6] [0,3,4,5] 6 Y
     exact BV (.trans (Ab _) ((ah h1).trans ((aj h2).trans ((aj h4).trans (ah h5))))) V
    ·have hs1:=hst1 Ac
     have htx1:=htx Ac Ac
     have hft1:=hft Ac Ac
     have hdl1:d.length=min 1000 (ln-q):=by rw[hs1.1];exact hs1.2.2
     have hEg:st=1->KI (Bf bx pa d)=true->((II (Bf bx pa d)).flatten).length=1088:=λh=>hEg0 h Ac
     refine Aw [(2,AA (X5 st ep aD sd tx id ln bx pid pa ct q d Ax Ac Ac A_ Ac Ac Ac A_ (by first |assumption|exact hft Ac) Ax Ac Ac Ax Ac (Cj h5)) [(0,0),(1,1),(2,2)] [])] [] 4 V λV=> ?_
     obtain⟨gs,V⟩:=V.nilob 0 7 22 A8
     refine EY (AN (Ao ?_))
     obtain⟨gs,V⟩:=V.rn2 [(0,0),(1,1),(2,2),(3,1),(4,2),(5,4)] [(6,vi 0)] [(0,JY st ep aD sd tx 3 5),(3,Dg id ln 4),(4,.sl 22 Bq (Bf bx pa d)),(5,.sl 22 A8 [])] 6 Y
     exact BV (.trans (Ab _) ((ah h1).trans ((aj h2).trans ((aj h4).trans (aj h5))))) V
 ·refine Aw [(4,Do h1)] [] 4 V λV=>Ae (Ai V (Dl [] 4 V λV=>Ae (AJ ((pid:Int)<((2*ep:Nat):Int)) V (λh6=> ?_) (λh6=> ?_))))
  ·refine Ar ?_
   obtain⟨gs,V⟩:=V.nilob 0 7 22 A8
   refine Dl [] 5 V λV=>EY (AN (Ao ?_))
   obtain⟨gs,V⟩:=V.rn2 [(0,0),(1,1),(2,2),(3,1),(4,2),(5,4)] [(6,vi 0)] [(0,JY st ep aD sd tx 3 5),(3,Dg id ln 4),(4,.sl 22 Bq bx),(5,.sl 22 A8 [])] 6 Y
   exact BV (.trans (Ab _) ((aj h1).trans (ah h6))) V
  ·refine Ay [(4,Do h1)] [] 4 V λV=>Ai V (Ar ?_)
   by_cases h7:(pid:Int)=((2*ep:Nat):Int)
   ·refine Aw [(3,Gv h7)] [] 4 V λV=>Ae (AJ ((st:Int)=3) V (λh8=> ?_) (λh8=> ?_))
    ·refine Ar ?_
     obtain⟨gs,V⟩:=V.nilob 0 7 22 A8
     refine Dl [] 5 V λV=>EY (AN (Ao ?_))
     obtain⟨gs,V⟩:=V.rn2 [(0,0),(1,1),(2,2),(3,1),(4,2),(5,4)] [(6,vi 0)] [(0,JY st ep aD sd tx 3 5),(3,Dg id ln 4),(4,.sl 22 Bq bx),(5,.sl 22 A8 [])] 6 Y
     exact BV (.trans (Ab _) ((aj h1).trans ((aj h6).trans ((ah h7).trans (ah h8))))) V
    ·refine Ay [(3,Gv h7)] [] 4 V λV=>AG V (Ar ?_)
     have hs1:=hst2 Ac
     have hft1:=hft Ac Ac
     have hdl1:d.length=min 1000 (ln-q):=by rw[hs1.1];exact hs1.2.2
     have hEt:st=2->KI (Bf bx pa d)=true->chk ((II (Bf bx pa d)).flatten)=0/\((II (Bf bx pa d)).flatten).length=1184:=λh=>hEt0 Ac Ac
     by_cases h9:KI (Bf bx pa d)=true
     ·have hs1:=hst2 Ac
      have hft1:=hft Ac Ac
      have hdl1:d.length=min 1000 (ln-q):=by rw[hs1.1];exact hs1.2.2
      have hEt:st=2->KI (Bf bx pa d)=true->chk ((II (Bf bx pa d)).flatten)=0/\((II (Bf bx pa d)).flatten).length=1184:=λh=>hEt0 Ac Ac
      refine Aw [(3,AA (Xx st ep aD sd tx id ln bx pid pa ct q d r Ax Ac Ac A_ Ac Ac Ac A_ (by first |assumption|exact hft Ac) Ax Ac (hEt Ac A_).1 (hEt Ac A_).2 Ax Ac h9) [(0,0),(1,1),(2,2)] [(3,4),(4,5),(5,6),(6,7)])] [] 8 V λV=>EY (AN (Ao ?_))
      obtain⟨gs,V⟩:=V.fz 4
      obtain⟨gs,V⟩:=V.rx [(0,0),(1,1),(2,2),(3,5),(4,6),(5,7)] [6] [0,3,4,5] 6 Y
      exact BV (.trans (Ab _) ((aj h1).trans ((aj h6).trans ((ah h7).trans ((aj h8).trans (ah h9)))))) V
     ·have hs1:=hst2 Ac
      have hft1:=hft Ac Ac
      have hdl1:d.length=min 1000 (ln-q):=by rw[hs1.1];exact hs1.2.2
      have hEt:st=2->KI (Bf bx pa d)=true->chk ((II (Bf bx pa d)).flatten)=0/\((II (Bf bx pa d)).flatten).length=1184:=λh=>hEt0 Ac Ac
      refine Aw [(3,AA (Qp st ep aD sd tx id ln bx pid pa ct q d r Ax Ac Ac A_ Ac Ac Ac A_ (by first |assumption|exact hft Ac) Ax Ac (Cj h9)) [(0,0),(1,1),(2,2)] [])] [] 4 V λV=> ?_
      obtain⟨gs,V⟩:=V.nilob 0 7 22 A8
      refine EY (AN (Ao ?_))
      obtain⟨gs,V⟩:=V.rn2 [(0,0),(1,1),(2,2),(3,1),(4,2),(5,4)] [(6,vi 0)] [(0,JY st ep aD sd tx 3 5),(3,Dg id ln 4),(4,.sl 22 Bq (Bf bx pa d)),(5,.sl 22 A8 [])] 6 Y
      exact BV (.trans (Ab _) ((aj h1).trans ((aj h6).trans ((ah h7).trans ((aj h8).trans (aj h9)))))) V
   ·refine Aw [(3,Do h7)] [] 4 V λV=>Ae (Ai V (Ay [(3,Do h7)] [] 4 V λV=>Ai V (Ar ?_)))
    by_cases h10:(pid:Int)=(((2*ep)+2:Nat):Int)
    ·refine Aw [(3,FW (2*ep) 2 ((2*ep)+2)),(4,Gv h10)] [] 4 V λV=>Ae (AJ ((st:Int)=3) V (λh11=> ?_) (λh11=> ?_))
     ·refine Aj [10] 5 V λV=>Aj [] 5 V λV=>Ay [(4,Cu ep),(5,AA (X6 2 ep aD sd tx id ln bx (ep+1) Ac Ac) [(0,4),(1,1),(2,2)] [(3,5),(4,6)])] [] 7 V λV=>Ii ?_
      have hs1:=hst2 Ac
      have hpa2:pa<2:=by omega
      have hft2:Lz (replicate 2 none) pa d:= .inl (AbF hpa2)
      have hfl2:¬KI (Bf (replicate 2 none) pa d)=true:=by rw[AbG d hpa2];decide
      have hrl:(replicate 2 (none:Option Ad)).length=2:=rfl
      have hdl1:d.length=min 1000 (1184-q):=hs1.2.2
      have V:=V.wko 4 [.top,.top,.top,.top,lb [],.top,.top,.top]
      have V:=V.wko 4 [.top,.top,.top,.top,.top,lb [],.top,.top]
      refine Aw [(2,AA (Qp 2 (ep+1) 0 ([]:Ad) ([]:Ad) (2*(ep+1)) 1184 (replicate 2 none) pid pa ct q d r Ax Ac Ac A_ Ac Ac Ac A_ (by first |assumption|exact hft Ac) Ax Ac (Cj hfl2)) [(0,4),(1,5),(2,6)] [])] [] 7 V λV=>Ae (Aj [] 7 V λV=>Ai V (Cb (Aj [] 7 V λV=>Ar ?_)))
      obtain⟨gs,V⟩:=V.nilob 0 7 22 A8
      refine Dl [] 8 V λV=>EY (AN (Ao ?_))
      obtain⟨gs,V⟩:=V.rx [(0,0),(1,1),(2,2),(3,5),(4,6),(5,7)] [6] [0,3,4,5] 6 Y
      exact BV (.trans (Ab _) ((aj h1).trans ((aj h6).trans (aj h7)))) V
     ·refine FN (Ar ?_)
      exfalso
      omega
    ·refine Aw [(3,FW (2*ep) 2 ((2*ep)+2)),(4,Do h10)] [] 4 V λV=>Ae (Ai V (FN (Ar ?_)))
     exfalso
     omega
end
def AT (x0 x1:Nat) (x2:CB):O:= .ob 187 (Jg [vi ((x0:Nat):Int),vi 1000,vi ((x1:Nat):Int),.ls true Bq x2])
section
variable (st ep aD:Nat) (sd tx:Ad) (id ln:Nat) (bx:CB)
theorem SV (s:Ad) (hs:s.length=64):AP 78 ⟨[.cp 0 0,lb s],[(0,AL st ep aD sd tx 1),(1,AT id ln bx)],.tu (Jg []),[(0,.ob 126 (Jg [vi 1000,vi (st:Int),vi (ep:Int),vi (aD:Int),.ls true Bg s,lb ((AO (s.take 32) (s.drop 32)).1),.cp 1 0,.v (.slice none 0 0)])),(1,AT id ln bx)]⟩:=by
 exact cy 2 func78 rfl ntmps78 λY V=>D8 [(2,AS (OF s Ax))] [] 2 V λV=>G0 [(2,fE 32 s.length),(4,ON 32 s.length),(5,AA (Ur (s.take 32) (s.drop 32) Ax Ax) [] [(0,2)])] [] 3 V λV=>fQ V
def Bl (st ep aD:Nat) (sd tx:Ad) (id ln:Nat) (bx:CB) (r:Ad):Nat×Ad×Ad×Ad:=AV (if(st:Int)=2 then(aD,sd,tx,[])else(if(st:Int)=3 then(if((tx.length:Nat):Int)=0 then((aD+1),r,((AO (r.take 32) (r.drop 32)).1),B7 ((2*ep)+1) (aD%((Av ((2*ep)+1) ((AO (r.take 32) (r.drop 32)).1) 1000).length)) ((Av ((2*ep)+1) ((AO (r.take 32) (r.drop 32)).1) 1000).length) ((((AO (r.take 32) (r.drop 32)).1).drop ((aD%((Av ((2*ep)+1) ((AO (r.take 32) (r.drop 32)).1) 1000).length))*1000)).take 1000))else((aD+1),sd,tx,B7 ((2*ep)+1) (aD%((Av ((2*ep)+1) tx 1000).length)) ((Av ((2*ep)+1) tx 1000).length) ((tx.drop ((aD%((Av ((2*ep)+1) tx 1000).length))*1000)).take 1000)))else(if((tx.length:Nat):Int)=0 then((aD+1),r,((AO (r.take 32) (r.drop 32)).1),B7 (2*ep) (aD%((Av (2*ep) ((AO (r.take 32) (r.drop 32)).1) 1000).length)) ((Av (2*ep) ((AO (r.take 32) (r.drop 32)).1) 1000).length) ((((AO (r.take 32) (r.drop 32)).1).drop ((aD%((Av (2*ep) ((AO (r.take 32) (r.drop 32)).1) 1000).length))*1000)).take 1000))else((aD+1),sd,tx,B7 (2*ep) (aD%((Av (2*ep) tx 1000).length)) ((Av (2*ep) tx 1000).length) ((tx.drop ((aD%((Av (2*ep) tx 1000).length))*1000)).take 1000)))))
def AaU (r:Ad) (z_:Nat×Ad×Ad×Ad:=Bl st ep aD sd tx id ln bx r):Con:=⟨[.cp 0 0,lb r],[(0,AL st ep aD sd tx 1),(1,AT id ln bx)],.tu (Jg [lb (z_.2.2.2),vi 0]),[(0,AL st ep z_.1 (z_.2.1) (z_.2.2.1) 1),(1,AT id ln bx)]⟩
theorem sF (r:Ad) (hst:st=1\/st=2\/st=3) (hr:r.length=64) (he:ep<=400000000) (ha:aD<=1000000000) (ht:(st=1->tx.length=0\/tx.length=1184)/\(st=3->tx.length=1088)):AP 45 (AaU st ep aD sd tx id ln bx r):=by
 refine cy 2 func45 rfl ntmps45 λY V=> ?_
 have hf2:((r.length:Nat):Int)=64:=Ac
 refine C9 [] 2 V λV=>Ar (D8 [(12,Ha hf2)] [] 2 V λV=>Ai V (Cb (D8 [(4,IC 2 ep (2*ep))] [] 2 V λV=>Ar (C9 [] 2 V λV=>BC (C9 [] 2 V λV=>AJ ((st:Int)=2) V (λh1=> ?_) (λh1=> ?_))))))
 ·refine C9 [] 2 V λV=>AY (AN (Ao ?_))
  have V:=V.wk 4 (lb [])
  exact BV (.trans (Ab _) (ah h1)) V
 ·refine C9 [] 2 V λV=>AJ ((st:Int)=3) V (λh2=> ?_) (λh2=> ?_)
  ·refine G0 [(1,FW (2*ep) 1 ((2*ep)+1))] [6] 2 V λV=>Ck (Ar (C9 [] 2 V λV=>AJ (((tx.length:Nat):Int)=0) V (λh3=> ?_) (λh3=> ?_)))
   ·refine G0 [(2,AA (SV st ep aD sd tx id ln bx r Ax) [(0,0),(1,1)] [])] [] 2 V λV=>CQ ?_
    have hkl:=H8 (r.take 32) (r.drop 32) (by rw[av];omega)
    refine G0 [(9,AA (MW ((2*ep)+1) ((AO (r.take 32) (r.drop 32)).1) 1000 Ac Ax Ac) [] [(0,2)])] [] 3 V λV=>CQ ?_
    have hcb:=d5 (ln:=((AO (r.take 32) (r.drop 32)).1).length) (sz:=1000) Ac Ac
    have hsl:=Iq ((2*ep)+1) ((AO (r.take 32) (r.drop 32)).1) 1000
    have hix:aD%(Av ((2*ep)+1) ((AO (r.take 32) (r.drop 32)).1) 1000).length<(Av ((2*ep)+1) ((AO (r.take 32) (r.drop 32)).1) 1000).length:=di _ Ac
    have hRow:=Pv ((2*ep)+1) ((AO (r.take 32) (r.drop 32)).1) 1000 _ hix
    have hdl:=TF (xs:=((AO (r.take 32) (r.drop 32)).1)) (sz:=1000) (i:=aD%(Av ((2*ep)+1) ((AO (r.take 32) (r.drop 32)).1) 1000).length) Ac (by rw[<-hsl];exact hix)
    refine G0 [(7,MA aD ((Av ((2*ep)+1) ((AO (r.take 32) (r.drop 32)).1) 1000).length)),(8,AH (aD%((Av ((2*ep)+1) ((AO (r.take 32) (r.drop 32)).1) 1000).length)) ((Av ((2*ep)+1) ((AO (r.take 32) (r.drop 32)).1) 1000).length)),(9,Ik (.ag (Jg [vi (((2*ep)+1:Nat):Int),vi (((aD%((Av ((2*ep)+1) ((AO (r.take 32) (r.drop 32)).1) 1000).length)):Nat):Int),vi (((Av ((2*ep)+1) ((AO (r.take 32) (r.drop 32)).1) 1000).length:Nat):Int),lb ((((AO (r.take 32) (r.drop 32)).1).drop ((aD%((Av ((2*ep)+1) ((AO (r.take 32) (r.drop 32)).1) 1000).length))*1000)).take 1000)])) [(.ag (Jg [vi (((Av ((2*ep)+1) ((AO (r.take 32) (r.drop 32)).1) 1000).getD (aD%((Av ((2*ep)+1) ((AO (r.take 32) (r.drop 32)).1) 1000).length)) C5).1),vi ((((Av ((2*ep)+1) ((AO (r.take 32) (r.drop 32)).1) 1000).getD (aD%((Av ((2*ep)+1) ((AO (r.take 32) (r.drop 32)).1) 1000).length)) C5).2).1),vi (((((Av ((2*ep)+1) ((AO (r.take 32) (r.drop 32)).1) 1000).getD (aD%((Av ((2*ep)+1) ((AO (r.take 32) (r.drop 32)).1) 1000).length)) C5).2).2).1),lb (((((Av ((2*ep)+1) ((AO (r.take 32) (r.drop 32)).1) 1000).getD (aD%((Av ((2*ep)+1) ((AO (r.take 32) (r.drop 32)).1) 1000).length)) C5).2).2).2)]):D)= .ag (Jg [vi (((2*ep)+1:Nat):Int),vi (((aD%((Av ((2*ep)+1) ((AO (r.take 32) (r.drop 32)).1) 1000).length)):Nat):Int),vi (((Av ((2*ep)+1) ((AO (r.take 32) (r.drop 32)).1) 1000).length:Nat):Int),lb ((((AO (r.take 32) (r.drop 32)).1).drop ((aD%((Av ((2*ep)+1) ((AO (r.take 32) (r.drop 32)).1) 1000).length))*1000)).take 1000)])] ⟨(by first |(rw[hRow];done)|(rw[hRow];rfl)),aa⟩)] [9] 4 V λV=>Ae (D8 [(4,Cu aD)] [] 4 V λV=>D8 [(1,AS (GJ ((2*ep)+1) (aD%((Av ((2*ep)+1) ((AO (r.take 32) (r.drop 32)).1) 1000).length)) ((Av ((2*ep)+1) ((AO (r.take 32) (r.drop 32)).1) 1000).length) ((((AO (r.take 32) (r.drop 32)).1).drop ((aD%((Av ((2*ep)+1) ((AO (r.take 32) (r.drop 32)).1) 1000).length))*1000)).take 1000) Ac Ac))] [] 4 V λV=>AY ?_)
    have V:=V.wko 0 [.top,.top,.top,.top,lb [],.top,.top,.top]
    exact BV (.trans (Ab _) ((aj h1).trans ((ah h2).trans (ah h3)))) V
   ·refine DG ?_
    have hkl:=H8 (r.take 32) (r.drop 32) (by rw[av];omega)
    refine G0 [(9,AA (MW ((2*ep)+1) tx 1000 Ac Ax Ac) [] [(0,2)])] [] 3 V λV=>CQ ?_
    have hcb:=d5 (ln:=tx.length) (sz:=1000) Ac Ac
    have hsl:=Iq ((2*ep)+1) tx 1000
    have hix:aD%(Av ((2*ep)+1) tx 1000).length<(Av ((2*ep)+1) tx 1000).length:=di _ Ac
    have hRow:=Pv ((2*ep)+1) tx 1000 _ hix
    have hdl:=TF (xs:=tx) (sz:=1000) (i:=aD%(Av ((2*ep)+1) tx 1000).length) Ac (by rw[<-hsl];exact hix)
    exact G0 [(7,MA aD ((Av ((2*ep)+1) tx 1000).length)),(8,AH (aD%((Av ((2*ep)+1) tx 1000).length)) ((Av ((2*ep)+1) tx 1000).length)),(9,Ik (.ag (Jg [vi (((2*ep)+1:Nat):Int),vi (((aD%((Av ((2*ep)+1) tx 1000).length)):Nat):Int),vi (((Av ((2*ep)+1) tx 1000).length:Nat):Int),lb ((tx.drop ((aD%((Av ((2*ep)+1) tx 1000).length))*1000)).take 1000)])) [(.ag (Jg [vi (((Av ((2*ep)+1) tx 1000).getD (aD%((Av ((2*ep)+1) tx 1000).length)) C5).1),vi ((((Av ((2*ep)+1) tx 1000).getD (aD%((Av ((2*ep)+1) tx 1000).length)) C5).2).1),vi (((((Av ((2*ep)+1) tx 1000).getD (aD%((Av ((2*ep)+1) tx 1000).length)) C5).2).2).1),lb (((((Av ((2*ep)+1) tx 1000).getD (aD%((Av ((2*ep)+1) tx 1000).length)) C5).2).2).2)]):D)= .ag (Jg [vi (((2*ep)+1:Nat):Int),vi (((aD%((Av ((2*ep)+1) tx 1000).length)):Nat):Int),vi (((Av ((2*ep)+1) tx 1000).length:Nat):Int),lb ((tx.drop ((aD%((Av ((2*ep)+1) tx 1000).length))*1000)).take 1000)])] ⟨(by first |(rw[hRow];done)|(rw[hRow];rfl)),aa⟩)] [9] 4 V λV=>Ae (D8 [(4,Cu aD)] [] 4 V λV=>D8 [(1,AS (GJ ((2*ep)+1) (aD%((Av ((2*ep)+1) tx 1000).length)) ((Av ((2*ep)+1) tx 1000).length) ((tx.drop ((aD%((Av ((2*ep)+1) tx 1000).length))*1000)).take 1000) Ac Ac))] [] 4 V λV=>AY (BV (.trans (Ab _) ((aj h1).trans ((ah h2).trans (aj h3)))) V))
  ·refine FN (Ar (C9 [] 2 V λV=>AJ (((tx.length:Nat):Int)=0) V (λh4=> ?_) (λh4=> ?_)))
   ·refine G0 [(2,AA (SV st ep aD sd tx id ln bx r Ax) [(0,0),(1,1)] [])] [] 2 V λV=>CQ ?_
    have hkl:=H8 (r.take 32) (r.drop 32) (by rw[av];omega)
    refine G0 [(9,AA (MW (2*ep) ((AO (r.take 32) (r.drop 32)).1) 1000 Ac Ax Ac) [] [(0,2)])] [] 3 V λV=>CQ ?_
    have hcb:=d5 (ln:=((AO (r.take 32) (r.drop 32)).1).length) (sz:=1000) Ac Ac
    have hsl:=Iq (2*ep) ((AO (r.take 32) (r.drop 32)).1) 1000
    have hix:aD%(Av (2*ep) ((AO (r.take 32) (r.drop 32)).1) 1000).length<(Av (2*ep) ((AO (r.take 32) (r.drop 32)).1) 1000).length:=di _ Ac
    have hRow:=Pv (2*ep) ((AO (r.take 32) (r.drop 32)).1) 1000 _ hix
    have hdl:=TF (xs:=((AO (r.take 32) (r.drop 32)).1)) (sz:=1000) (i:=aD%(Av (2*ep) ((AO (r.take 32) (r.drop 32)).1) 1000).length) Ac (by rw[<-hsl];exact hix)
    refine G0 [(7,MA aD ((Av (2*ep) ((AO (r.take 32) (r.drop 32)).1) 1000).length)),(8,AH (aD%((Av (2*ep) ((AO (r.take 32) (r.drop 32)).1) 1000).length)) ((Av (2*ep) ((AO (r.take 32) (r.drop 32)).1) 1000).length)),(9,Ik (.ag (Jg [vi ((2*ep:Nat):Int),vi (((aD%((Av (2*ep) ((AO (r.take 32) (r.drop 32)).1) 1000).length)):Nat):Int),vi (((Av (2*ep) ((AO (r.take 32) (r.drop 32)).1) 1000).length:Nat):Int),lb ((((AO (r.take 32) (r.drop 32)).1).drop ((aD%((Av (2*ep) ((AO (r.take 32) (r.drop 32)).1) 1000).length))*1000)).take 1000)])) [(.ag (Jg [vi (((Av (2*ep) ((AO (r.take 32) (r.drop 32)).1) 1000).getD (aD%((Av (2*ep) ((AO (r.take 32) (r.drop 32)).1) 1000).length)) C5).1),vi ((((Av (2*ep) ((AO (r.take 32) (r.drop 32)).1) 1000).getD (aD%((Av (2*ep) ((AO (r.take 32) (r.drop 32)).1) 1000).length)) C5).2).1),vi (((((Av (2*ep) ((AO (r.take 32) (r.drop 32)).1) 1000).getD (aD%((Av (2*ep) ((AO (r.take 32) (r.drop 32)).1) 1000).length)) C5).2).2).1),lb (((((Av (2*ep) ((AO (r.take 32) (r.drop 32)).1) 1000).getD (aD%((Av (2*ep) ((AO (r.take 32) (r.drop 32)).1) 1000).length)) C5).2).2).2)]):D)= .ag (Jg [vi ((2*ep:Nat):Int),vi (((aD%((Av (2*ep) ((AO (r.take 32) (r.drop 32)).1) 1000).length)):Nat):Int),vi (((Av (2*ep) ((AO (r.take 32) (r.drop 32)).1) 1000).length:Nat):Int),lb ((((AO (r.take 32) (r.drop 32)).1).drop ((aD%((Av (2*ep) ((AO (r.take 32) (r.drop 32)).1) 1000).length))*1000)).take 1000)])] ⟨(by first |(rw[hRow];done)|(rw[hRow];rfl)),aa⟩)] [9] 4 V λV=>Ae (D8 [(4,Cu aD)] [] 4 V λV=>D8 [(1,AS (GJ (2*ep) (aD%((Av (2*ep) ((AO (r.take 32) (r.drop 32)).1) 1000).length)) ((Av (2*ep) ((AO (r.take 32) (r.drop 32)).1) 1000).length) ((((AO (r.take 32) (r.drop 32)).1).drop ((aD%((Av (2*ep) ((AO (r.take 32) (r.drop 32)).1) 1000).length))*1000)).take 1000) Ac Ac))] [] 4 V λV=>AY ?_)
    have V:=V.wko 0 [.top,.top,.top,.top,lb [],.top,.top,.top]
    exact BV (.trans (Ab _) ((aj h1).trans ((aj h2).trans (ah h4)))) V
   ·refine DG ?_
    have hkl:=H8 (r.take 32) (r.drop 32) (by rw[av];omega)
    refine G0 [(9,AA (MW (2*ep) tx 1000 Ac Ax Ac) [] [(0,2)])] [] 3 V λV=>CQ ?_
    have hcb:=d5 (ln:=tx.length) (sz:=1000) Ac Ac
    have hsl:=Iq (2*ep) tx 1000
    have hix:aD%(Av (2*ep) tx 1000).length<(Av (2*ep) tx 1000).length:=di _ Ac
    have hRow:=Pv (2*ep) tx 1000 _ hix
    have hdl:=TF (xs:=tx) (sz:=1000) (i:=aD%(Av (2*ep) tx 1000).length) Ac (by rw[<-hsl];exact hix)
    exact G0 [(7,MA aD ((Av (2*ep) tx 1000).length)),(8,AH (aD%((Av (2*ep) tx 1000).length)) ((Av (2*ep) tx 1000).length)),(9,Ik (.ag (Jg [vi ((2*ep:Nat):Int),vi (((aD%((Av (2*ep) tx 1000).length)):Nat):Int),vi (((Av (2*ep) tx 1000).length:Nat):Int),lb ((tx.drop ((aD%((Av (2*ep) tx 1000).length))*1000)).take 1000)])) [(.ag (Jg [vi (((Av (2*ep) tx 1000).getD (aD%((Av (2*ep) tx 1000).length)) C5).1),vi ((((Av (2*ep) tx 1000).getD (aD%((Av (2*ep) tx 1000).length)) C5).2).1),vi (((((Av (2*ep) tx 1000).getD (aD%((Av (2*ep) tx 1000).length)) C5).2).2).1),lb (((((Av (2*ep) tx 1000).getD (aD%((Av (2*ep) tx 1000).length)) C5).2).2).2)]):D)= .ag (Jg [vi ((2*ep:Nat):Int),vi (((aD%((Av (2*ep) tx 1000).length)):Nat):Int),vi (((Av (2*ep) tx 1000).length:Nat):Int),lb ((tx.drop ((aD%((Av (2*ep) tx 1000).length))*1000)).take 1000)])] ⟨(by first |(rw[hRow];done)|(rw[hRow];rfl)),aa⟩)] [9] 4 V λV=>Ae (D8 [(4,Cu aD)] [] 4 V λV=>D8 [(1,AS (GJ (2*ep) (aD%((Av (2*ep) tx 1000).length)) ((Av (2*ep) tx 1000).length) ((tx.drop ((aD%((Av (2*ep) tx 1000).length))*1000)).take 1000) Ac Ac))] [] 4 V λV=>AY (BV (.trans (Ab _) ((aj h1).trans ((aj h2).trans (aj h4)))) V))
end
theorem eY (id ln:Nat) (bx:CB) (hbl:bx.length<=100000000):AP 97 ⟨[.cp 0 0],[(0,AT id ln bx)],.cp 1 0,[(0,AT id ln bx),(1,Dg id ln 2),(2,.sl 22 Bq bx)]⟩:=by
 exact cy 1 func97 rfl ntmps97 λY V=>C9 [] 1 V λV=>Ar (C9 [] 1 V λV=>Ai V (Cb (C9 [3] 2 V λV=>D8 [(4,AA (cU bx Ax) [] [(0,2)])] [] 3 V λV=>C9 [] 3 V λV=>AY (BW V))))
theorem cJ (st ep aD:Nat) (sd tx:Ad) (id ln:Nat) (bx:CB) (hbl:bx.length<=100000000):AP 62 ⟨[.cp 0 0],[(0,AL st ep aD sd tx 1),(1,AT id ln bx)],.cp 2 0,[(0,AL st ep aD sd tx 1),(1,AT id ln bx),(2,AL st ep aD sd tx 3),(3,Dg id ln 4),(4,.sl 22 Bq bx)]⟩:=by
 exact cy 2 func62 rfl ntmps62 λY V=>C9 [] 2 V λV=>Ar (C9 [] 2 V λV=>Ai V (Cb (C9 [3] 3 V λV=>D8 [(4,AS (nM))] [] 3 V λV=>D8 [(4,AA (eY id ln bx Ax) [(0,1)] [(1,3),(2,4)])] [] 5 V λV=>C9 [] 5 V λV=>AY (BW V))))
section
variable (l:AZ)
def RA (x11:Nat):AZ->AZ:=λx4=>x4++[l.getD x11 AW]
def Jd (l:AZ):Nat->AZ
 |0=>[]
 |x11+1=>RA l x11 (Jd l x11)
def UH:AZ:=AV (Jd l l.length)
def bA (z_:AZ:=UH l):Con:=Cq [.sk 0,.v .nilFunc] [(0,.sl 22 A8 l)] (.ls false A8 z_)
theorem nK (hl:l.length<=1000) (hm:∀j,(l.getD j AW).length<=10000):AP 96 (bA l):=by
 refine cy 1 func96 rfl ntmps96 λY V=>Aj [] 1 V λV=>Ar (Aj [] 1 V λV=>AG V (Dl [] 1 V λV=>CQ (Aj [9] 1 V λV=>BC ?_)))
 obtain⟨gs,V⟩:=V.nilk 4 22 A8
 refine AC (ι:=Nat×AZ) Y V (λ(x11,x4)=>(l.length-x11,[(11,vi ((x11:Nat):Int))],[(1,.sl 22 A8 x4)],(x11<=l.length)/\(x4=Jd l x11)/\(x4.length=x11)/\True)) [1,4,9,10] [0] 2 (0,[]) [(0,0),(1,1)] ⟨Ac,rfl,rfl,aa⟩ ?_
 rintro⟨x11,x4⟩ ac gs ws ⟨hx11,hq1,p1,_⟩ V
 refine Aj [] 2 V λV=>Ar (AJ ((x11:Int)<((l.length:Nat):Int)) V (λh1=> ?_) (λh1=> ?_))
 ·refine B3 (Ay [(0,AH x11 l.length)] [] 2 V λV=> ?_)
  have hmx:=hm x11
  exact Aw [(3,AS (Ee (l.getD x11 AW) Ax)),(4,AS (Ee (l.getD x11 AW) Ax)),(6,Gt x4.length 1 24)] [4] 3 V λV=>Ck (Aw [(0,Cu x11)] [11] 3 V λV=>Ae (As Y V (x11+1,x4++[l.getD x11 AW]) [(0,0),(1,2)] ⟨Ac,(Bm (st:=RA _) hq1 rfl rfl),(by rw[ab];simp;omega),aa⟩))
 ·have hT:=V
  obtain rfl:l.length=x11:=by omega
  obtain rfl:=hq1.symm
  have V:=hT
  refine Dw (Aj [4] 2 V λV=>AY ?_)
  obtain⟨gs,V⟩:=V.fz 1
  exact BV (Ab _) V
theorem nL:UH l=l:=by
 have key:∀i,i<=l.length->Jd l i=l.take i:=by
  intro i
  induction i with
  |zero=>intro _;rfl
  |succ i ih=>
   intro hi
   have e:Jd l (i+1)=Jd l i++[List.getD (α:=Ad) l i []]:=rfl
   rw[e,ih Ac,cw Ac,al,am Ac]
   rfl
 unfold UH;rw[Ab]
 exact(key _ (an _)).trans (eh)
theorem nH (hl:l.length<=1000) (hm:∀j,(l.getD j AW).length<=10000):AP 96 ⟨[.sk 0,.v .nilFunc],[(0,.sl 22 A8 l)],.ls false A8 l,[(0,.sl 22 A8 l)]⟩:=by
 have h:=nK l hl hm
 unfold bA at h
 rw[nL]at h
 exact h
end
section
variable (st ep aD:Nat) (sd tx:Ad) (id ln:Nat) (bx:CB) (sec:AZ)
theorem iG (hl:sec.length<=1000) (hm:∀j,(sec.getD j AW).length<=10000):AP 145 (Cq [.cp 0 0] [(0,JY st ep aD sd tx 1 2),(1,Dg id ln 3),(2,.sl 22 A8 sec),(3,.sl 22 Bq bx)] (.ls false A8 sec)):=by
 exact cy 4 func145 rfl ntmps145 λY V=>Aj [] 4 V λV=>Ar (Aj [] 4 V λV=>Ai V (Cb (Ay [(4,AA (nH sec Ax A_) [(0,2)] [])] [] 4 V λV=>AY (BW V))))
theorem iB (hl:sec.length<=1000) (hm:∀j,(sec.getD j AW).length<=10000):AP 111 ⟨[.cp 0 0],[(0,JY st ep aD sd tx 1 2),(1,Dg id ln 3),(2,.sl 22 A8 sec),(3,.sl 22 Bq bx)],.ls false A8 sec,[(0,AL st ep aD sd tx 1),(1,Dg id ln 3),(2,.sl 22 A8 sec),(3,.sl 22 Bq bx)]⟩:=by
 exact cy 4 func111 rfl ntmps111 λY V=>Aj [] 4 V λV=>Ay [(1,AA (iG st ep aD sd tx id ln bx sec Ax A_) [(0,0),(1,1),(2,2),(3,3)] [])] [] 4 V λV=>Ar (Aj [] 4 V λV=>AG V (Dl [] 4 V λV=>Ae (Aj [] 4 V λV=>AY (BW V))))
end
section
variable (st ep aD:Nat) (sd tx:Ad) (id ln:Nat) (bx:CB) (b r:Ad)
def pF:Con:=⟨[.cp 0 0,lb b,lb r],[(0,AL st ep aD sd tx 1),(1,Dg id ln 2),(2,.sl 22 Bq bx)],vi 0,[(0,JY st ep aD sd tx 3 5),(3,Dg id ln 4),(4,.sl 22 Bq bx),(5,.sl 22 A8 ([]:AZ))]⟩
theorem tF (hb:b.length=0) (hr:r.length=64):AP 73 (pF st ep aD sd tx id ln bx b r):=by
 refine cy 3 func73 rfl ntmps73 λY V=> ?_
 have hf2:((r.length:Nat):Int)=64:=Ac
 have hf3:((b.length:Nat):Int)=0:=Ac
 refine Aj [] 3 V λV=>Ar (Ay [(12,Ha hf2)] [] 3 V λV=>Ai V (DG (Ay [(2,Gv hf3)] [] 3 V λV=>AG V (Ar ?_))))
 obtain⟨gs,V⟩:=V.nilob 0 7 22 A8
 refine Dl [] 4 V λV=>EY (Ao ?_)
 obtain⟨gs,V⟩:=V.rn2 [(0,0),(1,1),(2,2),(3,1),(4,2),(5,3)] [(6,vi 0)] [(0,JY st ep aD sd tx 3 5),(3,Dg id ln 4),(4,.sl 22 Bq bx),(5,.sl 22 A8 [])] 6 Y
 exact BW V
end
def R4 (st ep:Nat) (sd tx:Ad) (bx:CB) (b:Ad) (pid pa:Nat) (d:Ad):Prop:=
 b=[]\/(b=B7 pid pa 2 d/\pa<2/\(1<=d.length/\d.length<=1000)/\pid<=1000000000/\d.length=min 1000 ((if st=1 then 1088 else 1184)-pa*1000)
  /\((st=1/\pid<=2*ep+1)\/(st≠1/\pid<=2*ep)\/(st=3/\pid=2*ep+2))
  /\(pid=(if st=1 then 2*ep+1 else 2*ep)->st≠3->Lz bx pa d)
  /\(st=1->pid=2*ep+1->1<=tx.length/\sd.length=64)
  /\(st≠1->pid=2*ep->KI (Bf bx pa d)=true->chk ((II (Bf bx pa d)).flatten)=0/\((II (Bf bx pa d)).flatten).length=1184)
  /\(st=1->pid=2*ep+1->KI (Bf bx pa d)=true->((II (Bf bx pa d)).flatten).length=1088))
def F5 (st ep aD:Nat) (sd tx:Ad) (id ln:Nat) (bx:CB) (b:Ad) (pid pa:Nat) (d r:Ad):Nat×Nat×Nat×Ad×Ad×Nat×Nat×CB×AZ:=
 AV (if b=[]then(st,ep,aD,sd,tx,id,ln,bx,[])else O6 st ep aD sd tx id ln bx pid pa 2 (pa*1000) d r)
theorem Z8 (st ep aD:Nat) (sd tx:Ad) (id ln:Nat) (bx:CB) (pid pa:Nat) (d r:Ad):F5 st ep aD sd tx id ln bx [] pid pa d r=(st,ep,aD,sd,tx,id,ln,bx,[]):=(Ab _).trans (ah rfl)
theorem Wx (st ep aD:Nat) (sd tx:Ad) (id ln:Nat) (bx:CB) {b:Ad} (h:b≠[]) (pid pa:Nat) (d r:Ad):F5 st ep aD sd tx id ln bx b pid pa d r=O6 st ep aD sd tx id ln bx pid pa 2 (pa*1000) d r:=(Ab _).trans (aj h)
section
variable (st ep aD:Nat) (sd tx:Ad) (id ln:Nat) (bx:CB) (b:Ad) (pid pa:Nat) (d r:Ad)
def aZ:Con:=⟨[.cp 0 0,lb b,lb r],[(0,AL st ep aD sd tx 1),(1,Dg id ln 2),(2,.sl 22 Bq bx)],vi 0,[(0,JY (F5 st ep aD sd tx id ln bx b pid pa d r).1 (F5 st ep aD sd tx id ln bx b pid pa d r).2.1 (F5 st ep aD sd tx id ln bx b pid pa d r).2.2.1 (F5 st ep aD sd tx id ln bx b pid pa d r).2.2.2.1 (F5 st ep aD sd tx id ln bx b pid pa d r).2.2.2.2.1 3 5),(3,Dg (F5 st ep aD sd tx id ln bx b pid pa d r).2.2.2.2.2.1 (F5 st ep aD sd tx id ln bx b pid pa d r).2.2.2.2.2.2.1 4),(4,.sl 22 Bq (F5 st ep aD sd tx id ln bx b pid pa d r).2.2.2.2.2.2.2.1),(5,.sl 22 A8 (F5 st ep aD sd tx id ln bx b pid pa d r).2.2.2.2.2.2.2.2)]⟩
theorem X2 (hst:st=1\/st=2\/st=3) (hln:ln=(if st=1 then 1088 else 1184)) (hid:id=(if st=1 then 2*ep+1 else 2*ep)) (hb:bx.length=2) (hr:r.length=64) (he:ep<=400000000) (hpc:R4 st ep sd tx bx b pid pa d):AP 73 (aZ st ep aD sd tx id ln bx b pid pa d r):=by
 by_cases h0:b=[]
 ·subst h0
  have h:=tF st ep aD sd tx id ln bx [] r rfl hr
  unfold pF at h
  unfold aZ
  rw[Z8]
  exact h
 ·rcases hpc with h|⟨hb1,hpa,hd,hpi2,hdl,hpi,hft,htx,hEt,hEg⟩
  ·exact absurd h h0
  ·have h:=z6 st ep aD sd tx id ln bx pid pa 2 (pa*1000) d r hb hln hid hst hpi rfl Ac ⟨hpa,rfl⟩ hdl (λh=>hft (h.trans hid)) hd hr ⟨he,hpi2⟩ (λh1 h2=>htx h1 (by rw[ah h1]at hid;omega)) hEt hEg
   unfold xJ at h
   unfold aZ
   rw[Wx st ep aD sd tx id ln bx h0,hb1]
   exact h
end
def Pn (x0:Ad) (x1 x2:Bool) (x3:Nat) (x4 x5:Nat) (x6 x7:Nat) (x8 x9 x10:Nat):O:= .ob 80 (Jg [lb x0,.v (.bool x1),.v (.bool x2),.cp x3 0,.cp x4 0,.cp x5 0,vi ((x6:Nat):Int),.sk x7,vi ((x8:Nat):Int),vi ((x9:Nat):Int),.sk x10])
section
variable (id:Ad) (fi:Bool) (ok:Ad) (oi:Nat) (ik:Ad) (ii lT:Nat) (mx:AZ) (lD tD:Nat) (kl:List KR) (st:Nat) (ep aD:Nat) (sd tx:Ad) (rD rT:Nat) (bx:CB)
theorem QA (k:Ad) (n:Nat) (hm1:1<=mx.length/\mx.length<=100000) (hm2:∀j,(mx.getD j AW).length<=32) (hlow:lT<=100000000000) (hk:k.length=32) (hn:lT<=n/\n<lT+mx.length):AP 51 (Cq [.cp 0 0,lb k,vi (n:Int)] [(0,Pn id fi true 1 2 5 lT 4 lD tD 3),(1,Ag ok oi),(2,Ag ik ii),(3,.sl 86 CM kl),(4,.sl 22 A8 mx),(5,AL st ep aD sd tx 6),(6,Dg rD rT 7),(7,.sl 22 Bq bx)] (lb (AX k (mx.getD (n-lT) AW) [109,101,115,115,97,103,101]))):=by
 refine cy 8 func51 rfl ntmps51 λY V=>Aj [] 8 V λV=>Ar ?_
 have hmk:=hm2 (n-lT)
 exact Aw [(10,IM n lT (n-lT)),(11,AH (n-lT) mx.length),(13,Np),(14,P8 (0<[109,101,115,115,97,103,101].length) (by decide)),(15,AS (F9 k (mx.getD (n-lT) AW) [109,101,115,115,97,103,101] Ax Ax Ax))] [] 9 V λV=>EY (BW V)
theorem Ou (i:Nat):AP 94 (Cq [.cp 0 0,vi (i:Int)] [(0,Pn id fi true 1 2 5 lT 4 lD tD 3),(1,Ag ok oi),(2,Ag ik ii),(3,.sl 86 CM kl),(4,.sl 22 A8 mx),(5,AL st ep aD sd tx 6),(6,Dg rD rT 7),(7,.sl 22 Bq bx)] (vi (CV kl (i:Int)))):=by
 exact cy 8 func94 rfl ntmps94 λY V=>Aj [] 9 V λV=>Ay [(5,AA (Uq kl i) [(0,3),(1,8)] [])] [] 9 V λV=>AY (BW V)
end
section
variable (id:Ad) (fi:Bool) (ok:Ad) (oi:Nat) (ik:Ad) (ii lT:Nat) (mx:AZ) (lD tD:Nat) (kl:List KR) (st:Nat) (ep aD:Nat) (sd tx:Ad) (rD rT:Nat) (bx:CB) (hb:Ad) (hi hn hh:Nat) (hp hx:Ad)
def BR (id:Ad) (fi:Bool) (ok:Ad) (oi:Nat) (ik:Ad) (ii lT:Nat) (mx:AZ) (lD tD:Nat) (kl:List KR) (st:Nat) (ep aD:Nat) (sd tx:Ad) (rD rT:Nat) (bx:CB) (hb:Ad) (hi hn hh:Nat) (hp hx:Ad):Bool:=AV (if(hi:Int)<(ii:Int)then(if(CV kl (hi:Int))<0 then false else(if(hn:Int)<(((kl.getD (Int.toNat (CV kl (hi:Int))) Bi).2).1)then false else(if(((((kl.getD (Int.toNat (CV kl (hi:Int))) Bi).2).2).length:Nat):Int)<=((hn:Int)-(((kl.getD (Int.toNat (CV kl (hi:Int))) Bi).2).1))then false else true)))else(if Vi ii hi=true then(if(hn:Int)<(lD:Int)then false else(if((lT+mx.length-1:Nat):Int)<(hn:Int)then false else true))else false))
def BK (id:Ad) (fi:Bool) (ok:Ad) (oi:Nat) (ik:Ad) (ii lT:Nat) (mx:AZ) (lD tD:Nat) (kl:List KR) (st:Nat) (ep aD:Nat) (sd tx:Ad) (rD rT:Nat) (bx:CB) (hb:Ad) (hi hn hh:Nat) (hp hx:Ad):Nat:=AV (if(hi:Int)<(ii:Int)then(if(CV kl (hi:Int))<0 then 5 else(if(hn:Int)<(((kl.getD (Int.toNat (CV kl (hi:Int))) Bi).2).1)then 2 else 2))else(if Vi ii hi=true then(if(hn:Int)<(lD:Int)then 2 else 2)else(Dv ik ii hi)))
def BI (id:Ad) (fi:Bool) (ok:Ad) (oi:Nat) (ik:Ad) (ii lT:Nat) (mx:AZ) (lD tD:Nat) (kl:List KR) (st:Nat) (ep aD:Nat) (sd tx:Ad) (rD rT:Nat) (bx:CB) (hb:Ad) (hi hn hh:Nat) (hp hx:Ad):Ad:=AV (if(hi:Int)<(ii:Int)then(((kl.getD (Int.toNat (CV kl (hi:Int))) Bi).2).2).getD (Int.toNat ((hn:Int)-(((kl.getD (Int.toNat (CV kl (hi:Int))) Bi).2).1))) AW else(AX (Lw (Am ik (hi-ii))) (mx.getD (hn-lT) AW) [109,101,115,115,97,103,101]))
def YG (z_:Ad:=BI id fi ok oi ik ii lT mx lD tD kl st ep aD sd tx rD rT bx hb hi hn hh hp hx):Con:=Cq [.cp 0 0,.ag (Jg [lb hb,vi (hi:Int),vi (hn:Int),vi (hh:Int),lb hp,lb hx])] [(0,Pn id fi true 1 2 5 lT 4 lD tD 3),(1,Ag ok oi),(2,Ag ik ii),(3,.sl 86 CM kl),(4,.sl 22 A8 mx),(5,AL st ep aD sd tx 6),(6,Dg rD rT 7),(7,.sl 22 Bq bx)] (lb z_)
theorem O1 (hok:ok.length=32) (hik:ik.length=32) (hoi:oi<=100000000000) (hii:ii<=100000000000) (hm1:1<=mx.length/\mx.length<=100000) (hm2:∀j,(mx.getD j AW).length<=32) (hlow:lT<=100000000000) (hK:KOk kl) (hll:lT<=lD/\lD<=100000000000) (hhn:hn<=10000000000/\hi<=10000000000) (hk:BR id fi ok oi ik ii lT mx lD tD kl st ep aD sd tx rD rT bx hb hi hn hh hp hx=true):AP 70 (YG id fi ok oi ik ii lT mx lD tD kl st ep aD sd tx rD rT bx hb hi hn hh hp hx):=by
 refine cy 8 func70 rfl ntmps70 λY V=>Aj [] 9 V λV=>Ar (Ay [(6,AA (Cn ik ii) [(0,2)] [])] [] 9 V λV=>AJ ((hi:Int)<(ii:Int)) V (λh1=> ?_) (λh1=> ?_))
 ·refine Ay [(3,AA (Ou id fi ok oi ik ii lT mx lD tD kl st ep aD sd tx rD rT bx hi) [(0,0),(1,1),(2,2),(3,3),(4,4),(5,5),(6,6),(7,7)] [])] [] 9 V λV=>Ar (Aj [] 9 V λV=>AJ ((CV kl (hi:Int))<0) V (λh2=> ?_) (λh2=> ?_))
  ·have hK:BR id fi ok oi ik ii lT mx lD tD kl st ep aD sd tx rD rT bx hb hi hn hh hp hx=false:=(Ab _).trans ((ah h1).trans (ah h2))
   rw[hK]at hk
   cases hk
  ·refine DG ?_
   have hpl:=QV (l:=kl) (i:=(hi:Int)) A_
   have hkr:=hK.2 (CV kl (hi:Int)).toNat Ac
   have hkf:0<=(kl.getD (Int.toNat (CV kl (hi:Int))) Bi).2.1/\(kl.getD (Int.toNat (CV kl (hi:Int))) Bi).2.1<=1000000000000:=hkr.2.1
   refine Aw [(5,Ty (CV kl (hi:Int)) kl.length)] [6] 10 V λV=>CQ (Ar ?_)
   by_cases h3:(hn:Int)<(((kl.getD (Int.toNat (CV kl (hi:Int))) Bi).2).1)
   ·refine Aw [(4,Gv h3)] [] 10 V λV=>Ae (AG V ?_)
    have hK:BR id fi ok oi ik ii lT mx lD tD kl st ep aD sd tx rD rT bx hb hi hn hh hp hx=false:=(Ab _).trans ((ah h1).trans ((aj h2).trans (ah h3)))
    rw[hK]at hk
    cases hk
   ·refine Aw [(4,Do h3),(10,Xl (hn:Int) (((kl.getD (Int.toNat (CV kl (hi:Int))) Bi).2).1))] [] 10 V λV=>Ae (AJ ((((((kl.getD (Int.toNat (CV kl (hi:Int))) Bi).2).2).length:Nat):Int)<=((hn:Int)-(((kl.getD (Int.toNat (CV kl (hi:Int))) Bi).2).1))) V (λh4=> ?_) (λh4=> ?_))
    ·have hK:BR id fi ok oi ik ii lT mx lD tD kl st ep aD sd tx rD rT bx hb hi hn hh hp hx=false:=(Ab _).trans ((ah h1).trans ((aj h2).trans ((aj h3).trans (ah h4))))
     rw[hK]at hk
     cases hk
    ·exact Cb (Ay [(6,Xl (hn:Int) (((kl.getD (Int.toNat (CV kl (hi:Int))) Bi).2).1)),(7,Ty ((hn:Int)-(((kl.getD (Int.toNat (CV kl (hi:Int))) Bi).2).1)) ((((kl.getD (Int.toNat (CV kl (hi:Int))) Bi).2).2).length))] [] 10 V λV=>AY (Ao (BV (.trans (Ab _) (ah h1)) V)))
 ·refine DG ?_
  by_cases h5:Vi ii hi=true
  ·refine Aw [(6,AA (NN ik ii hi Ax Ac h5) [(0,2)] [])] [] 9 V λV=>Ae (Ay [(1,AS (G6))] [] 9 V λV=>Ii ?_)
   by_cases h6:(hn:Int)<(lD:Int)
   ·refine Aw [(6,Gv h6)] [] 9 V λV=>Ae (AG V ?_)
    have hK:BR id fi ok oi ik ii lT mx lD tD kl st ep aD sd tx rD rT bx hb hi hn hh hp hx=false:=(Ab _).trans ((aj h1).trans ((ah h5).trans (ah h6)))
    rw[hK]at hk
    cases hk
   ·refine Aw [(6,Do h6),(11,Ig (Ds lT mx GG Ac) [0,1,4] [.im (Jg [.top,.top,.top,.im (Jg []) 0,.top,.top,vi (lT:Int),.ls false A8 mx,.top,.top,.top]) 0])] [] 9 V λV=>Ae (AJ (((lT+mx.length-1:Nat):Int)<(hn:Int)) V (λh7=> ?_) (λh7=> ?_))
    ·have hK:BR id fi ok oi ik ii lT mx lD tD kl st ep aD sd tx rD rT bx hb hi hn hh hp hx=false:=(Ab _).trans ((aj h1).trans ((ah h5).trans ((aj h6).trans (ah h7))))
     rw[hK]at hk
     cases hk
    ·exact Cb (Ay [(4,AA (QA id fi ok oi ik ii lT mx lD tD kl st ep aD sd tx rD rT bx (Lw (Am ik (hi-ii))) hn GG (by first |assumption|(intro j;simp<;>omega)) Ac Ax Ac) [(0,0),(1,1),(2,2),(3,3),(4,4),(5,5),(6,6),(7,7)] [])] [] 9 V λV=>AY (BV (.trans (Ab _) (aj h1)) V))
  ·refine Aw [(6,AA (NM ik ii hi Ax Ac (Cj h5)) [(0,2)] [])] [] 9 V λV=>CQ ?_
   have hK:BR id fi ok oi ik ii lT mx lD tD kl st ep aD sd tx rD rT bx hb hi hn hh hp hx=false:=(Ab _).trans ((aj h1).trans (aj h5))
   rw[hK]at hk
   cases hk
def NS:Con:=⟨[.cp 0 0,.ag (Jg [lb hb,vi (hi:Int),vi (hn:Int),vi (hh:Int),lb hp,lb hx])],[(0,Pn id fi true 1 2 5 lT 4 lD tD 3),(1,Ag ok oi),(2,Ag ik ii),(3,.sl 86 CM kl),(4,.sl 22 A8 mx),(5,AL st ep aD sd tx 6),(6,Dg rD rT 7),(7,.sl 22 Bq bx)],.v (.iface 44 (.int .i64 ((BK id fi ok oi ik ii lT mx lD tD kl st ep aD sd tx rD rT bx hb hi hn hh hp hx:Nat):Int))),[]⟩
theorem Sa (hok:ok.length=32) (hik:ik.length=32) (hoi:oi<=100000000000) (hii:ii<=100000000000) (hm1:1<=mx.length/\mx.length<=100000) (hm2:∀j,(mx.getD j AW).length<=32) (hlow:lT<=100000000000) (hK:KOk kl) (hll:lT<=lD/\lD<=100000000000) (hhn:hn<=10000000000/\hi<=10000000000) (hk:BR id fi ok oi ik ii lT mx lD tD kl st ep aD sd tx rD rT bx hb hi hn hh hp hx=false):EB Tryz.prog 70 (NS id fi ok oi ik ii lT mx lD tD kl st ep aD sd tx rD rT bx hb hi hn hh hp hx):=by
 refine C4 rfl (nb:=8) func70 rfl rfl ntmps70 rfl rfl rfl λg0 w0 ac gs ws Y V=> ?_
 have V:=V.sp
 refine Aj [] 9 V λV=>Ar (Ay [(6,AA (Cn ik ii) [(0,2)] [])] [] 9 V λV=>AJ ((hi:Int)<(ii:Int)) V (λh1=> ?_) (λh1=> ?_))
 ·refine Ay [(3,AA (Ou id fi ok oi ik ii lT mx lD tD kl st ep aD sd tx rD rT bx hi) [(0,0),(1,1),(2,2),(3,3),(4,4),(5,5),(6,6),(7,7)] [])] [] 9 V λV=>Ar (Aj [] 9 V λV=>AJ ((CV kl (hi:Int))<0) V (λh2=> ?_) (λh2=> ?_))
  ·refine Bd (E:=E0) mo hZ [] aa none (λr hr=>by cases hr) 1 0 (λ_=>[]) (.v (.iface 44 (.int .i64 5))) (by kernel_rfl) aa V.st λac gs ws pv V hpv=>AE (AE ?_)
   have hM:BK id fi ok oi ik ii lT mx lD tD kl st ep aD sd tx rD rT bx hb hi hn hh hp hx=5:=(Ab _).trans ((ah h1).trans (ah h2))
   exact CN rfl V hpv (by show _=(.v (.iface 44 (.int .i64 ((BK id fi ok oi ik ii lT mx lD tD kl st ep aD sd tx rD rT bx hb hi hn hh hp hx:Nat):Int))):D);rw[hM]<;>rfl) rfl
  ·refine DG ?_
   have hpl:=QV (l:=kl) (i:=(hi:Int)) A_
   have hkr:=hK.2 (CV kl (hi:Int)).toNat Ac
   have hkf:0<=(kl.getD (Int.toNat (CV kl (hi:Int))) Bi).2.1/\(kl.getD (Int.toNat (CV kl (hi:Int))) Bi).2.1<=1000000000000:=hkr.2.1
   refine Aw [(5,Ty (CV kl (hi:Int)) kl.length)] [6] 10 V λV=>CQ (Ar ?_)
   by_cases h3:(hn:Int)<(((kl.getD (Int.toNat (CV kl (hi:Int))) Bi).2).1)
   ·refine Aw [(4,Gv h3)] [] 10 V λV=>Ae (AG V (Bd (E:=E0) mo hZ [] aa none (λr hr=>by cases hr) 1 0 (λ_=>[]) (.v (.iface 44 (.int .i64 2))) (by kernel_rfl) aa V.st λac gs ws pv V hpv=>AE (AE ?_)))
    have hM:BK id fi ok oi ik ii lT mx lD tD kl st ep aD sd tx rD rT bx hb hi hn hh hp hx=2:=(Ab _).trans ((ah h1).trans ((aj h2).trans (ah h3)))
    exact CN rfl V hpv (by show _=(.v (.iface 44 (.int .i64 ((BK id fi ok oi ik ii lT mx lD tD kl st ep aD sd tx rD rT bx hb hi hn hh hp hx:Nat):Int))):D);rw[hM]<;>rfl) rfl
   ·refine Aw [(4,Do h3),(10,Xl (hn:Int) (((kl.getD (Int.toNat (CV kl (hi:Int))) Bi).2).1))] [] 10 V λV=>Ae (AJ ((((((kl.getD (Int.toNat (CV kl (hi:Int))) Bi).2).2).length:Nat):Int)<=((hn:Int)-(((kl.getD (Int.toNat (CV kl (hi:Int))) Bi).2).1))) V (λh4=> ?_) (λh4=> ?_))
    ·refine Bd (E:=E0) mo hZ [] aa none (λr hr=>by cases hr) 1 0 (λ_=>[]) (.v (.iface 44 (.int .i64 2))) (by kernel_rfl) aa V.st λac gs ws pv V hpv=>AE (AE ?_)
     have hM:BK id fi ok oi ik ii lT mx lD tD kl st ep aD sd tx rD rT bx hb hi hn hh hp hx=2:=(Ab _).trans ((ah h1).trans ((aj h2).trans (aj h3)))
     exact CN rfl V hpv (by show _=(.v (.iface 44 (.int .i64 ((BK id fi ok oi ik ii lT mx lD tD kl st ep aD sd tx rD rT bx hb hi hn hh hp hx:Nat):Int))):D);rw[hM]<;>rfl) rfl
    ·refine Cb (Ay [(6,Xl (hn:Int) (((kl.getD (Int.toNat (CV kl (hi:Int))) Bi).2).1)),(7,Ty ((hn:Int)-(((kl.getD (Int.toNat (CV kl (hi:Int))) Bi).2).1)) ((((kl.getD (Int.toNat (CV kl (hi:Int))) Bi).2).2).length))] [] 10 V λV=>AY (Ao ?_))
     have hK:BR id fi ok oi ik ii lT mx lD tD kl st ep aD sd tx rD rT bx hb hi hn hh hp hx=true:=(Ab _).trans ((ah h1).trans ((aj h2).trans ((aj h3).trans (aj h4))))
     rw[hK]at hk
     cases hk
 ·refine DG ?_
  by_cases h5:Vi ii hi=true
  ·refine Aw [(6,AA (NN ik ii hi Ax Ac h5) [(0,2)] [])] [] 9 V λV=>Ae (Ay [(1,AS (G6))] [] 9 V λV=>Ii ?_)
   by_cases h6:(hn:Int)<(lD:Int)
   ·refine Aw [(6,Gv h6)] [] 9 V λV=>Ae (AG V (Bd (E:=E0) mo hZ [] aa none (λr hr=>by cases hr) 1 0 (λ_=>[]) (.v (.iface 44 (.int .i64 2))) (by kernel_rfl) aa V.st λac gs ws pv V hpv=>AE ?_))
    have hM:BK id fi ok oi ik ii lT mx lD tD kl st ep aD sd tx rD rT bx hb hi hn hh hp hx=2:=(Ab _).trans ((aj h1).trans ((ah h5).trans (ah h6)))
    exact CN rfl V hpv (by show _=(.v (.iface 44 (.int .i64 ((BK id fi ok oi ik ii lT mx lD tD kl st ep aD sd tx rD rT bx hb hi hn hh hp hx:Nat):Int))):D);rw[hM]<;>rfl) rfl
   ·refine Aw [(6,Do h6),(11,Ig (Ds lT mx GG Ac) [0,1,4] [.im (Jg [.top,.top,.top,.im (Jg []) 0,.top,.top,vi (lT:Int),.ls false A8 mx,.top,.top,.top]) 0])] [] 9 V λV=>Ae (AJ (((lT+mx.length-1:Nat):Int)<(hn:Int)) V (λh7=> ?_) (λh7=> ?_))
    ·refine Bd (E:=E0) mo hZ [] aa none (λr hr=>by cases hr) 1 0 (λ_=>[]) (.v (.iface 44 (.int .i64 2))) (by kernel_rfl) aa V.st λac gs ws pv V hpv=>AE ?_
     have hM:BK id fi ok oi ik ii lT mx lD tD kl st ep aD sd tx rD rT bx hb hi hn hh hp hx=2:=(Ab _).trans ((aj h1).trans ((ah h5).trans (aj h6)))
     exact CN rfl V hpv (by show _=(.v (.iface 44 (.int .i64 ((BK id fi ok oi ik ii lT mx lD tD kl st ep aD sd tx rD rT bx hb hi hn hh hp hx:Nat):Int))):D);rw[hM]<;>rfl) rfl
    ·refine Cb (Ay [(4,AA (QA id fi ok oi ik ii lT mx lD tD kl st ep aD sd tx rD rT bx (Lw (Am ik (hi-ii))) hn GG (by first |assumption|(intro j;simp<;>omega)) Ac Ax Ac) [(0,0),(1,1),(2,2),(3,3),(4,4),(5,5),(6,6),(7,7)] [])] [] 9 V λV=>AY ?_)
     have hK:BR id fi ok oi ik ii lT mx lD tD kl st ep aD sd tx rD rT bx hb hi hn hh hp hx=true:=(Ab _).trans ((aj h1).trans ((ah h5).trans ((aj h6).trans (aj h7))))
     rw[hK]at hk
     cases hk
  ·refine Aw [(6,AA (NM ik ii hi Ax Ac (Cj h5)) [(0,2)] [])] [] 9 V λV=>CQ ?_
   have hcm:=W0 (Cj h5) ik
   refine Bd (E:=E0) mo hZ [] aa (some ⟨71,(HC (Dv ik ii hi)),[],[]⟩) (λr hr=>by cases hr;exact Ks (Dv ik ii hi) Ac) 1 0 (λ_=>[nd [vi (((Dv ik ii hi):Nat):Int)] []]) (.v (.iface 44 (.int .i64 (((Dv ik ii hi):Nat):Int)))) (by kernel_rfl) ⟨rfl,aa⟩ V.st λac gs ws pv V hpv=>AE ?_
   have hM:BK id fi ok oi ik ii lT mx lD tD kl st ep aD sd tx rD rT bx hb hi hn hh hp hx=(Dv ik ii hi):=(Ab _).trans ((aj h1).trans (aj h5))
   exact CN rfl V hpv (by show _=(.v (.iface 44 (.int .i64 ((BK id fi ok oi ik ii lT mx lD tD kl st ep aD sd tx rD rT bx hb hi hn hh hp hx:Nat):Int))):D);rw[hM]<;>rfl) rfl
end
def Mt (ik:Ad) (ii lT:Nat) (mx:AZ) (hi x53 k2:Nat):(Nat×AZ)->(Nat×AZ):=λ(x11,o12)=>(x11+1,o12++[(AX ((G1 ik (hi-ii)).getD x53 AW) (mx.getD (x11-lT) AW) [109,101,115,115,97,103,101])])
def FG (id:Ad) (fi:Bool) (ok:Ad) (oi:Nat) (ik:Ad) (ii lT:Nat) (mx:AZ) (lD tD:Nat) (kl:List KR) (st:Nat) (ep aD:Nat) (sd tx:Ad) (rD rT:Nat) (bx:CB) (hb:Ad) (hi hn hh:Nat) (hp hx:Ad) (x53:Nat) (o10:List (Int×Int×AZ)):Nat->Nat×AZ
 |0=>(lD,[])
 |k2+1=>Mt ik ii lT mx hi x53 k2 (FG id fi ok oi ik ii lT mx lD tD kl st ep aD sd tx rD rT bx hb hi hn hh hp hx x53 o10 k2)
def JI (hn:Nat):(Nat×AZ)->Prop:=λ(x11,o12)=>((x11:Nat):Int)<=(hn:Int)
section
variable (id:Ad) (fi:Bool) (ok:Ad) (oi:Nat) (ik:Ad) (ii lT:Nat) (mx:AZ) (lD tD:Nat) (kl:List KR) (st:Nat) (ep aD:Nat) (sd tx:Ad) (rD rT:Nat) (bx:CB) (hb:Ad) (hi hn hh:Nat) (hp hx:Ad)
def D6 (x53:Nat):(List (Int×Int×AZ))->(List (Int×Int×AZ)):=λo10=>o10++[(((ii+x53:Nat):Int),(lD:Int),(FG id fi ok oi ik ii lT mx lD tD kl st ep aD sd tx rD rT bx hb hi hn hh hp hx x53 o10 (D3 λj=>JI hn (FG id fi ok oi ik ii lT mx lD tD kl st ep aD sd tx rD rT bx hb hi hn hh hp hx x53 o10 j))).2)]
def Dy (id:Ad) (fi:Bool) (ok:Ad) (oi:Nat) (ik:Ad) (ii lT:Nat) (mx:AZ) (lD tD:Nat) (kl:List KR) (st:Nat) (ep aD:Nat) (sd tx:Ad) (rD rT:Nat) (bx:CB) (hb:Ad) (hi hn hh:Nat) (hp hx:Ad):Nat->(List (Int×Int×AZ))
 |0=>kl
 |x53+1=>D6 id fi ok oi ik ii lT mx lD tD kl st ep aD sd tx rD rT bx hb hi hn hh hp hx x53 (Dy id fi ok oi ik ii lT mx lD tD kl st ep aD sd tx rD rT bx hb hi hn hh hp hx x53)
def Cz:Nat×(List (Int×Int×AZ))×Ad×Nat:=AV (if(hi:Int)<(ii:Int)then(lD,kl.take ((CV kl (hi:Int)).toNat)++kl.drop (((CV kl (hi:Int)).toNat)+1),ik,ii)else(hn,(Dy id fi ok oi ik ii lT mx lD tD kl st ep aD sd tx rD rT bx hb hi hn hh hp hx ((G1 ik (hi-ii)).length)).drop (Int.toNat (max ((((Dy id fi ok oi ik ii lT mx lD tD kl st ep aD sd tx rD rT bx hb hi hn hh hp hx ((G1 ik (hi-ii)).length)).length:Nat):Int)-60) 0)),Sb (Am ik (hi-ii)),(hi+1)))
def vF (z_:Nat×(List (Int×Int×AZ))×Ad×Nat:=Cz id fi ok oi ik ii lT mx lD tD kl st ep aD sd tx rD rT bx hb hi hn hh hp hx):Con:=⟨[.cp 0 0,.ag (Jg [lb hb,vi (hi:Int),vi (hn:Int),vi (hh:Int),lb hp,lb hx])],[(0,Pn id fi true 1 2 5 lT 4 lD tD 3),(1,Ag ok oi),(2,Ag ik ii),(3,.sl 86 CM kl),(4,.sl 22 A8 mx),(5,AL st ep aD sd tx 6),(6,Dg rD rT 7),(7,.sl 22 Bq bx)],.tu (Jg []),[(0,Pn id fi true 1 2 5 lT 4 z_.1 tD 8),(1,Ag ok oi),(2,Ag (z_.2.2.1) z_.2.2.2),(4,.sl 22 A8 mx),(5,AL st ep aD sd tx 6),(6,Dg rD rT 7),(7,.sl 22 Bq bx),(8,.sl 86 CM (z_.2.1))]⟩
theorem W8 (hok:ok.length=32) (hik:ik.length=32) (hoi:oi<=100000000000) (hii:ii<=100000000000) (hm1:1<=mx.length/\mx.length<=100000) (hm2:∀j,(mx.getD j AW).length<=32) (hlow:lT<=100000000000) (hK:KOk kl) (hll:lT<=lD/\lD<=100000000000) (hhn:hn<=10000000000/\hi<=10000000000) (hc:(hi<ii/\0<=CV kl (hi:Int))\/(ii<=hi/\hi<=ii+40/\lD<=hn/\hn+1<=lT+mx.length)):AP 72 (vF id fi ok oi ik ii lT mx lD tD kl st ep aD sd tx rD rT bx hb hi hn hh hp hx):=by
 refine cy 8 func72 rfl ntmps72 λY V=>Aj [] 9 V λV=>Ar (Ay [(6,AA (Cn ik ii) [(0,2)] [])] [] 9 V λV=>AJ ((hi:Int)<(ii:Int)) V (λh1=> ?_) (λh1=> ?_))
 ·refine Ar ?_
  have hpg:=Ot (l:=kl) (hi:Int)
  have hkl:=hK.1
  refine Aw [(3,AA (Ou id fi ok oi ik ii lT mx lD tD kl st ep aD sd tx rD rT bx hi) [(0,0),(1,1),(2,2),(3,3),(4,4),(5,5),(6,6),(7,7)] []),(4,Ly ((((CV kl (hi:Int)).toNat):Nat):Int) [(CV kl (hi:Int))=((((CV kl (hi:Int)).toNat):Nat):Int)] ⟨by omega,aa⟩)] [] 9 V λV=>CQ ?_
  have hpg:=Ot (l:=kl) (hi:Int)
  have hkl:=hK.1
  obtain⟨gs,V⟩:=V.fz 3
  refine Aw [(5,AA (HJ kl Ax) [] [(0,9)]),(8,FW ((CV kl (hi:Int)).toNat) 1 (((CV kl (hi:Int)).toNat)+1)),(9,AA (Z1 kl ((CV kl (hi:Int)).toNat) (((CV kl (hi:Int)).toNat)+1) Ac) [(0,9)] [(1,10)])] [] 11 V λV=>EY (Ao ?_)
  obtain⟨gs,V⟩:=V.rx [(0,0),(1,1),(2,2),(3,3),(4,4),(5,5),(6,6),(7,7),(8,10)] [] [0,1,2,4,5,6,7,8] 9 Y
  exact BV (.trans (Ab _) (ah h1)) V
 ·refine Cb (Ay [(4,AA (Cn ik ii) [(0,2)] [])] [] 9 V λV=>Ay [(6,AA (RF ik ii hi Ax Ac Ac) [(0,2)] [(1,9)])] [] 10 V λV=>Ii ?_)
  obtain⟨gs,V⟩:=V.alias 3
  have hpg:=Ot (l:=kl) (hi:Int)
  have hkl:=hK.1
  have hsl:=Hm ik (hi-ii)
  refine Dl [51] 11 V λV=>Ae (BC (AC (ι:=Nat×(List (Int×Int×AZ))) Y V (λ(x53,o10)=>((G1 ik (hi-ii)).length-x53,[(53,vi ((x53:Nat):Int))],[(10,.sl 86 CM o10)],(x53<=(G1 ik (hi-ii)).length)/\(o10=Dy id fi ok oi ik ii lT mx lD tD kl st ep aD sd tx rD rT bx hb hi hn hh hp hx x53)/\(o10.length<=kl.length+x53)/\True)) [0,3,5,51,52] [0,1,2,4,5,6,7,8,9] 11 (0,kl) [(0,0),(1,1),(2,2),(3,3),(4,4),(5,5),(6,6),(7,7),(8,8),(9,9),(10,10)] ⟨Ac,rfl,Ac,aa⟩ ?_))
  rintro⟨x53,o10⟩ ac gs ws ⟨hx53,hq1,p1,_⟩ V
  refine Aj [] 11 V λV=>Ar (AJ ((x53:Int)<(((G1 ik (hi-ii)).length:Nat):Int)) V (λh2=> ?_) (λh2=> ?_))
  ·refine B3 (Ay [(1,AH x53 ((G1 ik (hi-ii)).length))] [] 11 V λV=>Ay [(2,FW ii x53 (ii+x53))] [10] 12 V λV=>Ii ?_)
   obtain⟨gs,V⟩:=V.nilob 11 2 22 A8
   refine Dl [] 13 V λV=>Ae (BC (AC (ι:=Nat×Nat×AZ) Y V (λ(k2,x11,o12)=>(hn+1-x11,[(11,vi (x11:Int))],[(12,.sl 22 A8 o12)],((x11,o12)=FG id fi ok oi ik ii lT mx lD tD kl st ep aD sd tx rD rT bx hb hi hn hh hp hx x53 o10 k2)/\(∀j,j<k2->JI hn (FG id fi ok oi ik ii lT mx lD tD kl st ep aD sd tx rD rT bx hb hi hn hh hp hx x53 o10 j))/\(lD<=x11/\x11<=hn+1)/\(o12.length+lD=x11)/\True)) [0,3,5,9,10,51,52,53] [0,1,2,4,5,6,7,8,9,10,11] 13 (0,lD,[]) [(0,0),(1,1),(2,2),(3,3),(4,4),(5,5),(6,6),(7,7),(8,8),(9,9),(10,10),(11,11),(12,12)] ⟨rfl,(λj h=>absurd h (be j)),Ac,(by simp),aa⟩ ?_))
   rintro⟨k2,x11,o12⟩ ac gs ws ⟨hq2,hj2,p2,p3,_⟩ V
   refine Ar (Aj [] 13 V λV=>AJ ((x11:Int)<=(hn:Int)) V (λh3=> ?_) (λh3=> ?_))
   ·refine B3 ?_
    have hsk:=SF (key:=ik) (n:=hi-ii) (j:=x53) Ac
    exact Aw [(5,AA (QA id fi ok oi (Am ik (hi-ii)) hi lT mx lD tD o10 st ep aD sd tx rD rT bx ((G1 ik (hi-ii)).getD x53 AW) x11 GG (by first |assumption|(intro j;simp<;>omega)) Ac Ax Ac) [(0,0),(1,1),(2,2),(3,10),(4,4),(5,5),(6,6),(7,7)] []),(7,Gt o12.length 1 24 (by(first |omega|(simp only[aw,au];omega))))] [] 14 V λV=>Ck (Aw [(1,Cu x11)] [11] 14 V λV=>Ae (As Y V (k2+1,x11+1,o12++[(AX ((G1 ik (hi-ii)).getD x53 AW) (mx.getD (x11-lT) AW) [109,101,115,115,97,103,101])]) [(0,0),(1,1),(2,2),(3,3),(4,4),(5,5),(6,6),(7,7),(8,8),(9,9),(10,10),(11,11),(12,13)] ⟨(Bm (st:=Mt _ _ _ _ _ _) hq2 rfl rfl),(Br hj2 (by rw[<-hq2];exact h3)),Ac,(by rw[ab,aw,au];omega),aa⟩))
   ·have hT:=V
    obtain rfl:=CE (by rw[<-hq2];first |exact h3|exact cq h3) hj2
    obtain⟨rfl,rfl⟩:=T1 hq2
    have V:=hT
    refine Dw ?_
    obtain⟨gs,V⟩:=V.fz 12
    exact Aw [(7,Gt o10.length 1 40 (by(first |omega|(simp only[aw,au];omega))))] [] 14 V λV=>Ck (Aw [(0,Cu x53)] [53] 14 V λV=>Ae (As Y V (x53+1,o10++[(((ii+x53:Nat):Int),(lD:Int),(FG id fi ok oi ik ii lT mx lD tD kl st ep aD sd tx rD rT bx hb hi hn hh hp hx x53 o10 (D3 λj=>JI hn (FG id fi ok oi ik ii lT mx lD tD kl st ep aD sd tx rD rT bx hb hi hn hh hp hx x53 o10 j))).2)]) [(0,0),(1,1),(2,2),(3,3),(4,4),(5,5),(6,6),(7,7),(8,8),(9,9),(10,13)] ⟨Ac,(Bm (st:=D6 _ _ _ _ _ _ _ _ _ _ _ _ _ _ _ _ _ _ _ _ _ _ _ _ _) hq1 rfl rfl),(by rw[ab,aw,au];omega),aa⟩))
  ·have hT:=V
   obtain rfl:(G1 ik (hi-ii)).length=x53:=by omega
   obtain rfl:=hq1.symm
   have V:=hT
   refine JH ?_
   obtain⟨gs,V⟩:=V.fz 10
   refine Aw [(10,Xl (((Dy id fi ok oi ik ii lT mx lD tD kl st ep aD sd tx rD rT bx hb hi hn hh hp hx ((G1 ik (hi-ii)).length)).length:Nat):Int) 60),(11,Ly (max ((((Dy id fi ok oi ik ii lT mx lD tD kl st ep aD sd tx rD rT bx hb hi hn hh hp hx ((G1 ik (hi-ii)).length)).length:Nat):Int)-60) 0) [(if 0>((((Dy id fi ok oi ik ii lT mx lD tD kl st ep aD sd tx rD rT bx hb hi hn hh hp hx ((G1 ik (hi-ii)).length)).length:Nat):Int)-60)then 0 else((((Dy id fi ok oi ik ii lT mx lD tD kl st ep aD sd tx rD rT bx hb hi hn hh hp hx ((G1 ik (hi-ii)).length)).length:Nat):Int)-60))=(max ((((Dy id fi ok oi ik ii lT mx lD tD kl st ep aD sd tx rD rT bx hb hi hn hh hp hx ((G1 ik (hi-ii)).length)).length:Nat):Int)-60) 0)] ⟨by split<;>omega,aa⟩),(12,P8 (FU (some (max ((((Dy id fi ok oi ik ii lT mx lD tD kl st ep aD sd tx rD rT bx hb hi hn hh hp hx ((G1 ik (hi-ii)).length)).length:Nat):Int)-60) 0)) none none (Dy id fi ok oi ik ii lT mx lD tD kl st ep aD sd tx rD rT bx hb hi hn hh hp hx ((G1 ik (hi-ii)).length)).length (Dy id fi ok oi ik ii lT mx lD tD kl st ep aD sd tx rD rT bx hb hi hn hh hp hx ((G1 ik (hi-ii)).length)).length) ⟨by simp only[GE]<;>omega,by simp only[GE]<;>omega,by simp only[GE]<;>omega,by simp,by simp only[bl]<;>omega,by simp only[bl]<;>omega,by simp only[bl]<;>omega⟩),(13,AA (HJ ((Dy id fi ok oi ik ii lT mx lD tD kl st ep aD sd tx rD rT bx hb hi hn hh hp hx ((G1 ik (hi-ii)).length)).drop (Int.toNat (max ((((Dy id fi ok oi ik ii lT mx lD tD kl st ep aD sd tx rD rT bx hb hi hn hh hp hx ((G1 ik (hi-ii)).length)).length:Nat):Int)-60) 0))) Ax) [] [(0,11)])] [] 12 V λV=>CQ ?_
   have hnl:=Cf hik (hi-ii)
   refine Aw [(4,AA (Jf (Am ik (hi-ii)) hi Ax Ac) [(0,2)] [])] [] 12 V λV=>Ae (Dl [] 12 V λV=> ?_)
   obtain⟨gs,V⟩:=V.rx [(0,0),(1,1),(2,2),(3,3),(4,4),(5,5),(6,6),(7,7),(8,11)] [] [0,1,2,4,5,6,7,8] 9 Y
   exact l8 (.trans (Ab _) (aj h1)) V
end
theorem Tb {l:AZ} {c:Nat} (h:∀j,(l.getD j AW).length<=c) {x:Ad} (hx:x.length<=c) (j:Nat):((l++[x]).getD j AW).length<=c:=by
 have h:=h j
 show(List.getD (α:=Ad) (l++[x]) j []).length<=c
 have h:(List.getD (α:=Ad) l j []).length<=c:=h
 rw[al]at h⊢
 by_cases h1:j<l.length
 ·rw[dj h1];exact h
 ·by_cases h2:j=l.length
  ·subst h2;rw[df (an _),Nat.sub_self];exact hx
  ·rw[bg (by simp;omega)];exact bw _
theorem ZP {fi:Bool} {lT len tD:Nat} (h:lT<=A6 fi lT len tD) {len':Nat} (hl:len<=len') (h1:1<=len):lT<=A6 fi lT len' tD/\A6 fi lT len' tD<lT+len':=by
 unfold A6 at h⊢
 split at h
 ·rename_i e;rw[ah e];omega
 ·rename_i e;rw[aj e];omega
def Lc (sec:AZ) (x11:Nat):AZ->AZ:=λo9=>o9++[AX (o9.getD (o9.length-1) AW) (sec.getD x11 AW) [109,105,120]]
section
variable (id:Ad) (fi:Bool) (ok:Ad) (oi:Nat) (ik:Ad) (ii lT:Nat) (mx:AZ) (lD tD:Nat) (kl:List KR) (st:Nat) (ep aD:Nat) (sd tx:Ad) (rD rT:Nat) (bx:CB) (sec:AZ)
def C7 (id:Ad) (fi:Bool) (ok:Ad) (oi:Nat) (ik:Ad) (ii lT:Nat) (mx:AZ) (lD tD:Nat) (kl:List KR) (st:Nat) (ep aD:Nat) (sd tx:Ad) (rD rT:Nat) (bx:CB) (sec:AZ):Nat->AZ
 |0=>mx
 |x11+1=>Lc sec x11 (C7 id fi ok oi ik ii lT mx lD tD kl st ep aD sd tx rD rT bx sec x11)
theorem Ku (id:Ad) (fi:Bool) (ok:Ad) (oi:Nat) (ik:Ad) (ii lT:Nat) (mx:AZ) (lD tD:Nat) (kl:List KR) (st:Nat) (ep aD:Nat) (sd tx:Ad) (rD rT:Nat) (bx:CB) (sec:AZ):∀i,(C7 id fi ok oi ik ii lT mx lD tD kl st ep aD sd tx rD rT bx sec i).length=mx.length+i
 |0=>rfl
 |i+1=>by
  show(C7 id fi ok oi ik ii lT mx lD tD kl st ep aD sd tx rD rT bx sec i++[_]).length=_
  rw[ab,Ku id fi ok oi ik ii lT mx lD tD kl st ep aD sd tx rD rT bx sec i];rfl
def Re:Nat×AZ:=AV (((min lD (A6 fi lT (C7 id fi ok oi ik ii lT mx lD tD kl st ep aD sd tx rD rT bx sec sec.length).length tD)),(C7 id fi ok oi ik ii lT mx lD tD kl st ep aD sd tx rD rT bx sec sec.length).drop ((min lD (A6 fi lT (C7 id fi ok oi ik ii lT mx lD tD kl st ep aD sd tx rD rT bx sec sec.length).length tD))-lT)))
def AaV (z_:Nat×AZ:=Re id fi ok oi ik ii lT mx lD tD kl st ep aD sd tx rD rT bx sec):Con:=⟨[.cp 0 0],[(0,Pn id fi true 1 2 5 lT 4 lD tD 3),(1,Ag ok oi),(2,Ag ik ii),(3,.sl 86 CM kl),(4,.sl 22 A8 mx),(5,JY st ep aD sd tx 6 8),(6,Dg rD rT 7),(7,.sl 22 Bq bx),(8,.sl 22 A8 sec)],.tu (Jg []),[(0,.ob 80 (Jg [lb id,.v (.bool fi),.v (.bool true),.cp 1 0,.cp 2 0,.cp 5 0,vi ((z_.1:Nat):Int),.ls false A8 (z_.2),vi (lD:Int),vi (tD:Int),.sk 3])),(1,Ag ok oi),(2,Ag ik ii),(3,.sl 86 CM kl),(5,AL st ep aD sd tx 6),(6,Dg rD rT 7),(7,.sl 22 Bq bx),(8,.sl 22 A8 sec)]⟩
theorem ZQ (hm1:1<=mx.length/\mx.length<=90000) (hm2:∀j,(mx.getD j AW).length<=32) (hlow:lT<=100000000000) (hs1:sec.length<=10) (hs2:∀j,(sec.getD j AW).length<=900) (hll:lT<=lD/\lD<=100000000000) (hmn:lT<=A6 fi lT mx.length tD) (htd:tD<=100000000000):AP 74 (AaV id fi ok oi ik ii lT mx lD tD kl st ep aD sd tx rD rT bx sec):=by
 refine cy 9 func74 rfl ntmps74 λY V=>Ii ?_
 have hs3:∀j,(sec.getD j AW).length<=10000:=λj=>by have :=hs2 j;omega
 obtain⟨gs,V⟩:=V.alias 4
 refine Aw [(4,AA (iB st ep aD sd tx rD rT bx sec Ax A_) [(0,5),(1,6),(2,8),(3,7)] [])] [9] 10 V λV=>Ae (BC (AC (ι:=Nat×AZ) Y V (λ(x11,o9)=>(sec.length-x11,[(11,vi ((x11:Nat):Int))],[(9,.sl 22 A8 o9)],(x11<=sec.length)/\(o9=C7 id fi ok oi ik ii lT mx lD tD kl st ep aD sd tx rD rT bx sec x11)/\(o9.length=mx.length+x11)/\(∀j,(o9.getD j AW).length<=32)/\True)) [0,9,10] [0,1,2,3,5,6,7,8] 10 (0,mx) [(0,0),(1,1),(2,2),(3,3),(4,4),(5,5),(6,6),(7,7),(8,8),(9,9)] ⟨Ac,rfl,Ac,hm2,aa⟩ ?_))
 rintro⟨x11,o9⟩ ac gs ws ⟨hx11,hq1,p1,p2,_⟩ V
 refine Aj [] 10 V λV=>Ar (AJ ((x11:Int)<((sec.length:Nat):Int)) V (λh1=> ?_) (λh1=> ?_))
 ·refine B3 (Ay [(0,AH x11 sec.length)] [] 10 V λV=> ?_)
  have hp2:=p2 (o9.length-1)
  have hs4:=hs2 x11
  exact Aw [(14,IM o9.length 1 (o9.length-1)),(15,AH (o9.length-1) o9.length),(18,Np),(19,P8 (0<[109,105,120].length) (by decide)),(20,AS (F9 (o9.getD (o9.length-1) AW) (sec.getD x11 AW) [109,105,120] Ax Ax Ax)),(22,Gt o9.length 1 24)] [] 12 V λV=>Ck (Aw [(0,Cu x11)] [11] 12 V λV=>Ae (As Y V (x11+1,o9++[AX (o9.getD (o9.length-1) AW) (sec.getD x11 AW) [109,105,120]]) [(0,0),(1,1),(2,2),(3,3),(4,4),(5,5),(6,6),(7,7),(8,8),(9,11)] ⟨Ac,(Bm (st:=Lc _) hq1 rfl rfl),(by rw[ab,aw,au];omega),(Tb p2 (Nat.le_of_eq (Fq ..))),aa⟩))
 ·have hT:=V
  obtain rfl:sec.length=x11:=by omega
  obtain rfl:=hq1.symm
  have V:=hT
  refine JH ?_
  have hml:=Ku id fi ok oi ik ii lT mx lD tD kl st ep aD sd tx rD rT bx sec sec.length
  have hmg:=ZP hmn (len':=(C7 id fi ok oi ik ii lT mx lD tD kl st ep aD sd tx rD rT bx sec sec.length).length) Ac hm1.1
  have hmc:1<=(C7 id fi ok oi ik ii lT mx lD tD kl st ep aD sd tx rD rT bx sec sec.length).length/\(C7 id fi ok oi ik ii lT mx lD tD kl st ep aD sd tx rD rT bx sec sec.length).length<=100000:=by omega
  refine Aw [(5,Ig (H4 fi lT (C7 id fi ok oi ik ii lT mx lD tD kl st ep aD sd tx rD rT bx sec sec.length) tD GG Ac) [0,1,9] [.im (Jg [.top,.v (.bool fi),.top,.im (Jg []) 0,.top,.top,vi (lT:Int),.ls false A8 (C7 id fi ok oi ik ii lT mx lD tD kl st ep aD sd tx rD rT bx sec sec.length),.top,vi (tD:Int),.top]) 0]),(6,Q2 lD (A6 fi lT (C7 id fi ok oi ik ii lT mx lD tD kl st ep aD sd tx rD rT bx sec sec.length).length tD))] [] 10 V λV=>Ae ?_
  have hml:=Ku id fi ok oi ik ii lT mx lD tD kl st ep aD sd tx rD rT bx sec sec.length
  have hmg:=ZP hmn (len':=(C7 id fi ok oi ik ii lT mx lD tD kl st ep aD sd tx rD rT bx sec sec.length).length) Ac hm1.1
  have hmc:1<=(C7 id fi ok oi ik ii lT mx lD tD kl st ep aD sd tx rD rT bx sec sec.length).length/\(C7 id fi ok oi ik ii lT mx lD tD kl st ep aD sd tx rD rT bx sec sec.length).length<=100000:=by omega
  obtain⟨gs,V⟩:=V.fz 9
  exact Aw [(11,IM (min lD (A6 fi lT (C7 id fi ok oi ik ii lT mx lD tD kl st ep aD sd tx rD rT bx sec sec.length).length tD)) lT ((min lD (A6 fi lT (C7 id fi ok oi ik ii lT mx lD tD kl st ep aD sd tx rD rT bx sec sec.length).length tD))-lT)),(12,ON ((min lD (A6 fi lT (C7 id fi ok oi ik ii lT mx lD tD kl st ep aD sd tx rD rT bx sec sec.length).length tD))-lT) (C7 id fi ok oi ik ii lT mx lD tD kl st ep aD sd tx rD rT bx sec sec.length).length)] [] 10 V λV=>l8 (Ab _) V
end
theorem Kl {id:Ad} {fi:Bool} {ok:Ad} {oi:Nat} {ik:Ad} {ii:Nat} {lT:Nat} {mx:AZ} {lD:Nat} {tD:Nat} {kl:List KR} {st:Nat} {ep:Nat} {aD:Nat} {sd:Ad} {tx:Ad} {rD:Nat} {rT:Nat} {bx:CB} {hb:Ad} {hi:Nat} {hn:Nat} {hh:Nat} {hp:Ad} {hx:Ad}:BR id fi ok oi ik ii lT mx lD tD kl st ep aD sd tx rD rT bx hb hi hn hh hp hx=BZ id fi ok oi ik ii lT mx lD tD kl hb hi hn hh hp hx/\BI id fi ok oi ik ii lT mx lD tD kl st ep aD sd tx rD rT bx hb hi hn hh hp hx=BU id fi ok oi ik ii lT mx lD tD kl hb hi hn hh hp hx/\BK id fi ok oi ik ii lT mx lD tD kl st ep aD sd tx rD rT bx hb hi hn hh hp hx=Bw id fi ok oi ik ii lT mx lD tD kl hb hi hn hh hp hx:=by
 refine⟨?_,?_,?_⟩
 ·unfold BR;rw[Ab];unfold BZ;rw[Ab];try rfl
 ·unfold BI;rw[Ab];unfold BU;rw[Ab];try rfl
 ·unfold BK;rw[Ab];unfold Bw;rw[Ab];try rfl
theorem O9 {id:Ad} {fi:Bool} {ok:Ad} {oi:Nat} {ik:Ad} {ii:Nat} {lT:Nat} {mx:AZ} {lD:Nat} {tD:Nat} {kl:List KR} {st:Nat} {ep:Nat} {aD:Nat} {sd:Ad} {tx:Ad} {rD:Nat} {rT:Nat} {bx:CB} {hb:Ad} {hi:Nat} {hn:Nat} {hh:Nat} {hp:Ad} {hx:Ad} (x:Nat) (o o':List (Int×Int×AZ)):∀j,FG id fi ok oi ik ii lT mx lD tD kl st ep aD sd tx rD rT bx hb hi hn hh hp hx x o j=DY id fi ok oi ik ii lT mx lD tD kl hb hi hn hh hp hx x o' j
 |0=>rfl
 |j+1=>by
  show Mt ik ii lT mx hi x j (FG id fi ok oi ik ii lT mx lD tD kl st ep aD sd tx rD rT bx hb hi hn hh hp hx x o j)=_
  rw[O9 x o o' j];rfl
theorem O_ {id:Ad} {fi:Bool} {ok:Ad} {oi:Nat} {ik:Ad} {ii:Nat} {lT:Nat} {mx:AZ} {lD:Nat} {tD:Nat} {kl:List KR} {st:Nat} {ep:Nat} {aD:Nat} {sd:Ad} {tx:Ad} {rD:Nat} {rT:Nat} {bx:CB} {hb:Ad} {hi:Nat} {hn:Nat} {hh:Nat} {hp:Ad} {hx:Ad}:∀j,Dy id fi ok oi ik ii lT mx lD tD kl st ep aD sd tx rD rT bx hb hi hn hh hp hx j=Cr id fi ok oi ik ii lT mx lD tD kl hb hi hn hh hp hx j
 |0=>rfl
 |j+1=>by
  show D6 id fi ok oi ik ii lT mx lD tD kl st ep aD sd tx rD rT bx hb hi hn hh hp hx j (Dy id fi ok oi ik ii lT mx lD tD kl st ep aD sd tx rD rT bx hb hi hn hh hp hx j)=Lq id fi ok oi ik ii lT mx lD tD kl hb hi hn hh hp hx j (Cr id fi ok oi ik ii lT mx lD tD kl hb hi hn hh hp hx j)
  rw[O_ j]
  unfold D6 Lq
  have e:FG id fi ok oi ik ii lT mx lD tD kl st ep aD sd tx rD rT bx hb hi hn hh hp hx j (Cr id fi ok oi ik ii lT mx lD tD kl hb hi hn hh hp hx j)=DY id fi ok oi ik ii lT mx lD tD kl hb hi hn hh hp hx j (Cr id fi ok oi ik ii lT mx lD tD kl hb hi hn hh hp hx j):=funext λi=>O9 j _ _ i
  have ec:JI hn=Fs id fi ok oi ik ii lT mx lD tD kl hb hi hn hh hp hx j (Cr id fi ok oi ik ii lT mx lD tD kl hb hi hn hh hp hx j):=rfl
  simp only[e,ec]
theorem oI {id:Ad} {fi:Bool} {ok:Ad} {oi:Nat} {ik:Ad} {ii:Nat} {lT:Nat} {mx:AZ} {lD:Nat} {tD:Nat} {kl:List KR} {st:Nat} {ep:Nat} {aD:Nat} {sd:Ad} {tx:Ad} {rD:Nat} {rT:Nat} {bx:CB} {hb:Ad} {hi:Nat} {hn:Nat} {hh:Nat} {hp:Ad} {hx:Ad}:Cz id fi ok oi ik ii lT mx lD tD kl st ep aD sd tx rD rT bx hb hi hn hh hp hx=Ic id fi ok oi ik ii lT mx lD tD kl hb hi hn hh hp hx:=by
 unfold Cz;rw[Ab];unfold Ic;rw[Ab]
 rw[O_]
theorem F1 {id:Ad} {fi:Bool} {ok:Ad} {oi:Nat} {ik:Ad} {ii:Nat} {lT:Nat} {mx:AZ} {lD:Nat} {tD:Nat} {kl:List KR} {st:Nat} {ep:Nat} {aD:Nat} {sd:Ad} {tx:Ad} {rD:Nat} {rT:Nat} {bx:CB} {hb:Ad} {hi:Nat} {hn:Nat} {hh:Nat} {hp:Ad} {hx:Ad} (h:BR id fi ok oi ik ii lT mx lD tD kl st ep aD sd tx rD rT bx hb hi hn hh hp hx=true) (hm:1<=mx.length) (hK:KOk kl):((hi<ii/\0<=CV kl (hi:Int))\/(ii<=hi/\hi<=ii+40/\lD<=hn/\hn+1<=lT+mx.length))/\(BI id fi ok oi ik ii lT mx lD tD kl st ep aD sd tx rD rT bx hb hi hn hh hp hx).length=32:=by
 have e:=Kl (id:=id) (fi:=fi) (ok:=ok) (oi:=oi) (ik:=ik) (ii:=ii) (lT:=lT) (mx:=mx) (lD:=lD) (tD:=tD) (kl:=kl) (st:=st) (ep:=ep) (aD:=aD) (sd:=sd) (tx:=tx) (rD:=rD) (rT:=rT) (bx:=bx) (hb:=hb) (hi:=hi) (hn:=hn) (hh:=hh) (hp:=hp) (hx:=hx)
 rw[e.1]at h
 rw[e.2.1]
 exact HW h hm hK
theorem RL {id:Ad} {fi:Bool} {ok:Ad} {oi:Nat} {ik:Ad} {ii:Nat} {lT:Nat} {mx:AZ} {lD:Nat} {tD:Nat} {kl:List KR} {st:Nat} {ep:Nat} {aD:Nat} {sd:Ad} {tx:Ad} {rD:Nat} {rT:Nat} {bx:CB} {hb:Ad} {hi:Nat} {hn:Nat} {hh:Nat} {hp:Ad} {hx:Ad} (h:hi<ii\/lD<=hn):lD<=(Cz id fi ok oi ik ii lT mx lD tD kl st ep aD sd tx rD rT bx hb hi hn hh hp hx).1/\((Cz id fi ok oi ik ii lT mx lD tD kl st ep aD sd tx rD rT bx hb hi hn hh hp hx).1<=lD\/(Cz id fi ok oi ik ii lT mx lD tD kl st ep aD sd tx rD rT bx hb hi hn hh hp hx).1<=hn):=by
 unfold Cz;rw[Ab]
 split
 ·exact⟨an _,.inl (an _)⟩
 ·exact⟨by show lD<=hn;omega,.inr (an _)⟩
theorem Ta {fi:Bool} {lT len tD:Nat} (h:lT<=A6 fi lT len tD) (t:Nat):lT<=A6 fi lT len (max tD t):=by
 unfold A6 at h⊢
 split
 ·rename_i e;rw[ah e]at h;exact h
 ·rename_i e;rw[aj e]at h;omega
theorem dT (ek m:Ad):(EV ek m).1.length<=64:=by
 unfold EV;rw[Ab]
 have :=E9 [m,B8 [ek]]
 simp only[ap];omega
theorem nV (dk ct:Ad):(Je dk ct).1.length<=64:=by
 unfold Je;rw[Ab]
 have :=E9 [CI dk ct,(dk.take 2368).drop 2336]
 split
 ·split
  ·simp only[ap];omega
  ·show(IV _).length<=64;rw[VF];decide
 ·exact bw _
theorem wA {x:Ad} (h:x.length<=64):([]++[x]:AZ).length<=10/\∀j,(([]++[x]:AZ).getD j AW).length<=900:=
 ⟨by simp,λj=>by
  have :=Tb (l:=[]) (c:=64) (λj=>by show(List.getD (α:=Ad) [] j []).length<=64;simp) h j
  omega⟩
theorem wC:([]:AZ).length<=10/\∀j,(([]:AZ).getD j AW).length<=900:=⟨by simp,λj=>by show(List.getD (α:=Ad) [] j []).length<=900;simp⟩
theorem Z7 (st ep aD:Nat) (sd tx:Ad) (id ln:Nat) (bx:CB) (b:Ad) (pid pa:Nat) (d r:Ad):(F5 st ep aD sd tx id ln bx b pid pa d r).2.2.2.2.2.2.2.2.length<=10/\∀j,((F5 st ep aD sd tx id ln bx b pid pa d r).2.2.2.2.2.2.2.2.getD j AW).length<=900:=by
 by_cases h:b=[]
 ·subst h;rw[Z8];exact wC
 ·rw[Wx _ _ _ _ _ _ _ _ h];unfold O6;rw[Ab]
  repeat' (first |exact wC|exact wA (dT _ _)|exact wA (nV _ _)|split)
section
variable (id:Ad) (fi:Bool) (ok:Ad) (oi:Nat) (ik:Ad) (ii lT:Nat) (mx:AZ) (lD tD:Nat) (kl:List KR) (st:Nat) (ep aD:Nat) (sd tx:Ad) (rD rT:Nat) (bx:CB) (xs:Ad)
def FI:Bool:=AV (if B_ xs=true then(if BR id fi ok oi ik ii lT mx lD tD kl st ep aD sd tx rD rT bx (Aa xs).1 (Aa xs).2.1 (Aa xs).2.2.1 (Aa xs).2.2.2.1 (Aa xs).2.2.2.2.1 (Aa xs).2.2.2.2.2=true then(if S_ ((BS (BI id fi ok oi ik ii lT mx lD tD kl st ep aD sd tx rD rT bx (Aa xs).1 (Aa xs).2.1 (Aa xs).2.2.1 (Aa xs).2.2.2.1 (Aa xs).2.2.2.2.1 (Aa xs).2.2.2.2.2) (replicate 12 (0:Int)) (Aa xs).1 (Aa xs).2.2.2.2.2).2)=true then(if S_ 0=true then true else false)else false)else false)else false)
def Cx:Nat:=AV (if B_ xs=true then(if BR id fi ok oi ik ii lT mx lD tD kl st ep aD sd tx rD rT bx (Aa xs).1 (Aa xs).2.1 (Aa xs).2.2.1 (Aa xs).2.2.2.1 (Aa xs).2.2.2.2.1 (Aa xs).2.2.2.2.2=true then(if S_ ((BS (BI id fi ok oi ik ii lT mx lD tD kl st ep aD sd tx rD rT bx (Aa xs).1 (Aa xs).2.1 (Aa xs).2.2.1 (Aa xs).2.2.2.1 (Aa xs).2.2.2.2.1 (Aa xs).2.2.2.2.2) (replicate 12 (0:Int)) (Aa xs).1 (Aa xs).2.2.2.2.2).2)=true then 0 else((BS (BI id fi ok oi ik ii lT mx lD tD kl st ep aD sd tx rD rT bx (Aa xs).1 (Aa xs).2.1 (Aa xs).2.2.1 (Aa xs).2.2.2.1 (Aa xs).2.2.2.2.1 (Aa xs).2.2.2.2.2) (replicate 12 (0:Int)) (Aa xs).1 (Aa xs).2.2.2.2.2).2))else(BK id fi ok oi ik ii lT mx lD tD kl st ep aD sd tx rD rT bx (Aa xs).1 (Aa xs).2.1 (Aa xs).2.2.1 (Aa xs).2.2.2.1 (Aa xs).2.2.2.2.1 (Aa xs).2.2.2.2.2))else(De xs))
def AI (rQ:Ad) (pid pa:Nat) (d:Ad):Nat×AZ×Nat×Nat×(List (Int×Int×AZ))×Ad×Nat×Nat×Nat×Nat×Ad×Ad×Nat×Nat×CB×Ad×Nat:=AV ((((Re id fi ok oi ((Cz id fi ok oi ik ii lT mx lD tD kl st ep aD sd tx rD rT bx (Aa xs).1 (Aa xs).2.1 (Aa xs).2.2.1 (Aa xs).2.2.2.1 (Aa xs).2.2.2.2.1 (Aa xs).2.2.2.2.2).2.2.1) ((Cz id fi ok oi ik ii lT mx lD tD kl st ep aD sd tx rD rT bx (Aa xs).1 (Aa xs).2.1 (Aa xs).2.2.1 (Aa xs).2.2.2.1 (Aa xs).2.2.2.2.1 (Aa xs).2.2.2.2.2).2.2.2) lT mx ((Cz id fi ok oi ik ii lT mx lD tD kl st ep aD sd tx rD rT bx (Aa xs).1 (Aa xs).2.1 (Aa xs).2.2.1 (Aa xs).2.2.2.1 (Aa xs).2.2.2.2.1 (Aa xs).2.2.2.2.2).1) (max tD (Aa xs).2.2.2.1) ((Cz id fi ok oi ik ii lT mx lD tD kl st ep aD sd tx rD rT bx (Aa xs).1 (Aa xs).2.1 (Aa xs).2.2.1 (Aa xs).2.2.2.1 (Aa xs).2.2.2.2.1 (Aa xs).2.2.2.2.2).2.1) ((F5 st ep aD sd tx rD rT bx (Aa xs).2.2.2.2.1 pid pa d rQ).1) ((F5 st ep aD sd tx rD rT bx (Aa xs).2.2.2.2.1 pid pa d rQ).2.1) ((F5 st ep aD sd tx rD rT bx (Aa xs).2.2.2.2.1 pid pa d rQ).2.2.1) ((F5 st ep aD sd tx rD rT bx (Aa xs).2.2.2.2.1 pid pa d rQ).2.2.2.1) ((F5 st ep aD sd tx rD rT bx (Aa xs).2.2.2.2.1 pid pa d rQ).2.2.2.2.1) ((F5 st ep aD sd tx rD rT bx (Aa xs).2.2.2.2.1 pid pa d rQ).2.2.2.2.2.1) ((F5 st ep aD sd tx rD rT bx (Aa xs).2.2.2.2.1 pid pa d rQ).2.2.2.2.2.2.1) ((F5 st ep aD sd tx rD rT bx (Aa xs).2.2.2.2.1 pid pa d rQ).2.2.2.2.2.2.2.1) ((F5 st ep aD sd tx rD rT bx (Aa xs).2.2.2.2.1 pid pa d rQ).2.2.2.2.2.2.2.2)).1),(Re id fi ok oi ((Cz id fi ok oi ik ii lT mx lD tD kl st ep aD sd tx rD rT bx (Aa xs).1 (Aa xs).2.1 (Aa xs).2.2.1 (Aa xs).2.2.2.1 (Aa xs).2.2.2.2.1 (Aa xs).2.2.2.2.2).2.2.1) ((Cz id fi ok oi ik ii lT mx lD tD kl st ep aD sd tx rD rT bx (Aa xs).1 (Aa xs).2.1 (Aa xs).2.2.1 (Aa xs).2.2.2.1 (Aa xs).2.2.2.2.1 (Aa xs).2.2.2.2.2).2.2.2) lT mx ((Cz id fi ok oi ik ii lT mx lD tD kl st ep aD sd tx rD rT bx (Aa xs).1 (Aa xs).2.1 (Aa xs).2.2.1 (Aa xs).2.2.2.1 (Aa xs).2.2.2.2.1 (Aa xs).2.2.2.2.2).1) (max tD (Aa xs).2.2.2.1) ((Cz id fi ok oi ik ii lT mx lD tD kl st ep aD sd tx rD rT bx (Aa xs).1 (Aa xs).2.1 (Aa xs).2.2.1 (Aa xs).2.2.2.1 (Aa xs).2.2.2.2.1 (Aa xs).2.2.2.2.2).2.1) ((F5 st ep aD sd tx rD rT bx (Aa xs).2.2.2.2.1 pid pa d rQ).1) ((F5 st ep aD sd tx rD rT bx (Aa xs).2.2.2.2.1 pid pa d rQ).2.1) ((F5 st ep aD sd tx rD rT bx (Aa xs).2.2.2.2.1 pid pa d rQ).2.2.1) ((F5 st ep aD sd tx rD rT bx (Aa xs).2.2.2.2.1 pid pa d rQ).2.2.2.1) ((F5 st ep aD sd tx rD rT bx (Aa xs).2.2.2.2.1 pid pa d rQ).2.2.2.2.1) ((F5 st ep aD sd tx rD rT bx (Aa xs).2.2.2.2.1 pid pa d rQ).2.2.2.2.2.1) ((F5 st ep aD sd tx rD rT bx (Aa xs).2.2.2.2.1 pid pa d rQ).2.2.2.2.2.2.1) ((F5 st ep aD sd tx rD rT bx (Aa xs).2.2.2.2.1 pid pa d rQ).2.2.2.2.2.2.2.1) ((F5 st ep aD sd tx rD rT bx (Aa xs).2.2.2.2.1 pid pa d rQ).2.2.2.2.2.2.2.2)).2,((Cz id fi ok oi ik ii lT mx lD tD kl st ep aD sd tx rD rT bx (Aa xs).1 (Aa xs).2.1 (Aa xs).2.2.1 (Aa xs).2.2.2.1 (Aa xs).2.2.2.2.1 (Aa xs).2.2.2.2.2).1),(max tD (Aa xs).2.2.2.1),(Cz id fi ok oi ik ii lT mx lD tD kl st ep aD sd tx rD rT bx (Aa xs).1 (Aa xs).2.1 (Aa xs).2.2.1 (Aa xs).2.2.2.1 (Aa xs).2.2.2.2.1 (Aa xs).2.2.2.2.2).2.1,(Cz id fi ok oi ik ii lT mx lD tD kl st ep aD sd tx rD rT bx (Aa xs).1 (Aa xs).2.1 (Aa xs).2.2.1 (Aa xs).2.2.2.1 (Aa xs).2.2.2.2.1 (Aa xs).2.2.2.2.2).2.2.1,((Cz id fi ok oi ik ii lT mx lD tD kl st ep aD sd tx rD rT bx (Aa xs).1 (Aa xs).2.1 (Aa xs).2.2.1 (Aa xs).2.2.2.1 (Aa xs).2.2.2.2.1 (Aa xs).2.2.2.2.2).2.2.2),((F5 st ep aD sd tx rD rT bx (Aa xs).2.2.2.2.1 pid pa d rQ).1),((F5 st ep aD sd tx rD rT bx (Aa xs).2.2.2.2.1 pid pa d rQ).2.1),((F5 st ep aD sd tx rD rT bx (Aa xs).2.2.2.2.1 pid pa d rQ).2.2.1),(F5 st ep aD sd tx rD rT bx (Aa xs).2.2.2.2.1 pid pa d rQ).2.2.2.1,(F5 st ep aD sd tx rD rT bx (Aa xs).2.2.2.2.1 pid pa d rQ).2.2.2.2.1,((F5 st ep aD sd tx rD rT bx (Aa xs).2.2.2.2.1 pid pa d rQ).2.2.2.2.2.1),((F5 st ep aD sd tx rD rT bx (Aa xs).2.2.2.2.1 pid pa d rQ).2.2.2.2.2.2.1),(F5 st ep aD sd tx rD rT bx (Aa xs).2.2.2.2.1 pid pa d rQ).2.2.2.2.2.2.2.1,(BS (BI id fi ok oi ik ii lT mx lD tD kl st ep aD sd tx rD rT bx (Aa xs).1 (Aa xs).2.1 (Aa xs).2.2.1 (Aa xs).2.2.2.1 (Aa xs).2.2.2.2.1 (Aa xs).2.2.2.2.2) (replicate 12 (0:Int)) (Aa xs).1 (Aa xs).2.2.2.2.2).1,(Aa xs).2.1))
def uV (rQ:Ad) (pid pa:Nat) (d:Ad) (z_:Nat×AZ×Nat×Nat×(List (Int×Int×AZ))×Ad×Nat×Nat×Nat×Nat×Ad×Ad×Nat×Nat×CB×Ad×Nat:=AI id fi ok oi ik ii lT mx lD tD kl st ep aD sd tx rD rT bx xs rQ pid pa d):Con:=⟨[.cp 0 0,lb xs,lb rQ],[(0,Pn id fi true 1 2 5 lT 4 lD tD 3),(1,Ag ok oi),(2,Ag ik ii),(3,.sl 86 CM kl),(4,.sl 22 A8 mx),(5,AL st ep aD sd tx 6),(6,Dg rD rT 7),(7,.sl 22 Bq bx)],.tu (Jg [lb (z_.2.2.2.2.2.2.2.2.2.2.2.2.2.2.2.1),vi ((z_.2.2.2.2.2.2.2.2.2.2.2.2.2.2.2.2:Nat):Int)]),[(0,.ob 80 (Jg [lb id,.v (.bool fi),.v (.bool true),.cp 1 0,.cp 2 0,.cp 5 0,vi ((z_.1:Nat):Int),.ls false A8 (z_.2.1),vi ((z_.2.2.1:Nat):Int),vi ((z_.2.2.2.1:Nat):Int),.sk 8])),(1,Ag ok oi),(2,Ag (z_.2.2.2.2.2.1) z_.2.2.2.2.2.2.1),(5,AL z_.2.2.2.2.2.2.2.1 z_.2.2.2.2.2.2.2.2.1 z_.2.2.2.2.2.2.2.2.2.1 (z_.2.2.2.2.2.2.2.2.2.2.1) (z_.2.2.2.2.2.2.2.2.2.2.2.1) 9),(8,.sl 86 CM (z_.2.2.2.2.1)),(9,Dg z_.2.2.2.2.2.2.2.2.2.2.2.2.1 z_.2.2.2.2.2.2.2.2.2.2.2.2.2.1 10),(10,.sl 22 Bq (z_.2.2.2.2.2.2.2.2.2.2.2.2.2.2.1))]⟩
theorem Vx (rQ:Ad) (pid pa:Nat) (d:Ad) (hok:ok.length=32) (hik:ik.length=32) (hoi:oi<=100000000000) (hii:ii<=100000000000) (hm1:1<=mx.length/\mx.length<=90000) (hm2:∀j,(mx.getD j AW).length<=32) (hlow:lT<=100000000000) (hK:KOk kl) (hll:lT<=lD/\lD<=100000000) (htd:tD<=100000000) (hmn:lT<=A6 fi lT mx.length tD) (hst:st=1\/st=2\/st=3) (hrln:rT=(if st=1 then 1088 else 1184)) (hrid:rD=(if st=1 then 2*ep+1 else 2*ep)) (hbx:bx.length=2) (hep:ep<=400000000) (hpc:B_ xs=true->BR id fi ok oi ik ii lT mx lD tD kl st ep aD sd tx rD rT bx (Aa xs).1 (Aa xs).2.1 (Aa xs).2.2.1 (Aa xs).2.2.2.1 (Aa xs).2.2.2.2.1 (Aa xs).2.2.2.2.2=true->S_ ((BS (BI id fi ok oi ik ii lT mx lD tD kl st ep aD sd tx rD rT bx (Aa xs).1 (Aa xs).2.1 (Aa xs).2.2.1 (Aa xs).2.2.2.1 (Aa xs).2.2.2.2.1 (Aa xs).2.2.2.2.2) (replicate 12 (0:Int)) (Aa xs).1 (Aa xs).2.2.2.2.2).2)=true->R4 st ep sd tx bx (Aa xs).2.2.2.2.1 pid pa d) (hf:xs.length<=50000) (hr:rQ.length=64) (hk:FI id fi ok oi ik ii lT mx lD tD kl st ep aD sd tx rD rT bx xs=true):AP 39 (uV id fi ok oi ik ii lT mx lD tD kl st ep aD sd tx rD rT bx xs rQ pid pa d):=by
 refine cy 8 func39 rfl ntmps39 λY V=>Aj [] 8 V λV=>Ar ?_
 have hm100:1<=mx.length/\mx.length<=100000:=by omega
 by_cases h1:B_ xs=true
 ·have hm100:1<=mx.length/\mx.length<=100000:=by omega
  refine Aw [(1,AS (Lb xs Ax h1))] [8] 9 V λV=>CQ ?_
  have hpl:=BL (xs:=xs) A_
  by_cases h2:BR id fi ok oi ik ii lT mx lD tD kl st ep aD sd tx rD rT bx (Aa xs).1 (Aa xs).2.1 (Aa xs).2.2.1 (Aa xs).2.2.2.1 (Aa xs).2.2.2.2.1 (Aa xs).2.2.2.2.2=true
  ·have hpl:=BL (xs:=xs) A_
   refine Aw [(2,AA (O1 id fi ok oi ik ii lT mx lD tD kl st ep aD sd tx rD rT bx (Aa xs).1 (Aa xs).2.1 (Aa xs).2.2.1 (Aa xs).2.2.2.1 (Aa xs).2.2.2.2.1 (Aa xs).2.2.2.2.2 Ax Ax Ac Ac GG (by first |assumption|(intro j;simp<;>omega)) Ac A_ Ac Ac h2) [(0,0),(1,1),(2,2),(3,3),(4,4),(5,5),(6,6),(7,7)] []),(3,R8 .mf [(12:Int)=12,(0:Int)<=12,1*12<=281474976710656,(12:Int)<=9223372036854775807] ⟨rfl,by omega,by omega,by omega,aa⟩),(8,AS (MX (BI id fi ok oi ik ii lT mx lD tD kl st ep aD sd tx rD rT bx (Aa xs).1 (Aa xs).2.1 (Aa xs).2.2.1 (Aa xs).2.2.2.1 (Aa xs).2.2.2.2.1 (Aa xs).2.2.2.2.2) (replicate 12 (0:Int)) (Aa xs).1 (Aa xs).2.2.2.2.2 (F1 A_ Ac hK).2 (by have :=BL (xs:=xs) A_;omega) (by have :=BL (xs:=xs) A_;omega) (by simp)))] [] 9 V λV=>CQ ?_
   by_cases h3:S_ ((BS (BI id fi ok oi ik ii lT mx lD tD kl st ep aD sd tx rD rT bx (Aa xs).1 (Aa xs).2.1 (Aa xs).2.2.1 (Aa xs).2.2.2.1 (Aa xs).2.2.2.2.1 (Aa xs).2.2.2.2.2) (replicate 12 (0:Int)) (Aa xs).1 (Aa xs).2.2.2.2.2).2)=true
   ·refine Aw [(1,AS (FB ((BS (BI id fi ok oi ik ii lT mx lD tD kl st ep aD sd tx rD rT bx (Aa xs).1 (Aa xs).2.1 (Aa xs).2.2.1 (Aa xs).2.2.2.1 (Aa xs).2.2.2.2.1 (Aa xs).2.2.2.2.2) (replicate 12 (0:Int)) (Aa xs).1 (Aa xs).2.2.2.2.2).2) h3))] [] 9 V λV=>CQ ?_
    have hpl:=BL (xs:=xs) A_
    have hof:=(F1 A_ Ac hK).1
    refine Aw [(2,AA (W8 id fi ok oi ik ii lT mx lD tD kl st ep aD sd tx rD rT bx (Aa xs).1 (Aa xs).2.1 (Aa xs).2.2.1 (Aa xs).2.2.2.1 (Aa xs).2.2.2.2.1 (Aa xs).2.2.2.2.2 Ax Ax Ac Ac GG (by first |assumption|(intro j;simp<;>omega)) Ac A_ Ac Ac A_) [(0,0),(1,1),(2,2),(3,3),(4,4),(5,5),(6,6),(7,7)] [(8,9)])] [] 10 V λV=>Ae (Ay [(7,Q1 tD (Aa xs).2.2.2.1)] [] 10 V λV=>Ar (Aj [] 10 V λV=>AG V (Aj [] 10 V λV=>Ar ?_)))
    have hpcx:=hpc A_ A_ A_
    by_cases h4:S_ 0=true
    ·have hpcx:=hpc A_ A_ A_
     refine Aw [(4,AA (X2 st ep aD sd tx rD rT bx (Aa xs).2.2.2.2.1 pid pa d rQ A_ A_ A_ Ac Ax Ac A_) [(0,5),(1,6),(2,7)] [(3,10),(4,11),(5,12)]),(5,AS (FB 0 h4))] [] 13 V λV=>Ae ?_
     have hsec:=Z7 st ep aD sd tx rD rT bx (Aa xs).2.2.2.2.1 pid pa d rQ
     have hof:=(F1 A_ Ac hK).1
     have hpl:=BL (xs:=xs) A_
     have hcl:=RL (id:=id) (fi:=fi) (ok:=ok) (oi:=oi) (ik:=ik) (ii:=ii) (lT:=lT) (mx:=mx) (lD:=lD) (tD:=tD) (kl:=kl) (st:=st) (ep:=ep) (aD:=aD) (sd:=sd) (tx:=tx) (rD:=rD) (rT:=rT) (bx:=bx) (hb:=(Aa xs).1) (hi:=(Aa xs).2.1) (hn:=(Aa xs).2.2.1) (hh:=(Aa xs).2.2.2.1) (hp:=(Aa xs).2.2.2.2.1) (hx:=(Aa xs).2.2.2.2.2) Ac
     have hmt:=Ta hmn (Aa xs).2.2.2.1
     have hs2:=hsec.2
     refine Aw [(1,AA (ZQ id fi ok oi ((Cz id fi ok oi ik ii lT mx lD tD kl st ep aD sd tx rD rT bx (Aa xs).1 (Aa xs).2.1 (Aa xs).2.2.1 (Aa xs).2.2.2.1 (Aa xs).2.2.2.2.1 (Aa xs).2.2.2.2.2).2.2.1) ((Cz id fi ok oi ik ii lT mx lD tD kl st ep aD sd tx rD rT bx (Aa xs).1 (Aa xs).2.1 (Aa xs).2.2.1 (Aa xs).2.2.2.1 (Aa xs).2.2.2.2.1 (Aa xs).2.2.2.2.2).2.2.2) lT mx ((Cz id fi ok oi ik ii lT mx lD tD kl st ep aD sd tx rD rT bx (Aa xs).1 (Aa xs).2.1 (Aa xs).2.2.1 (Aa xs).2.2.2.1 (Aa xs).2.2.2.2.1 (Aa xs).2.2.2.2.2).1) (max tD (Aa xs).2.2.2.1) ((Cz id fi ok oi ik ii lT mx lD tD kl st ep aD sd tx rD rT bx (Aa xs).1 (Aa xs).2.1 (Aa xs).2.2.1 (Aa xs).2.2.2.1 (Aa xs).2.2.2.2.1 (Aa xs).2.2.2.2.2).2.1) ((F5 st ep aD sd tx rD rT bx (Aa xs).2.2.2.2.1 pid pa d rQ).1) ((F5 st ep aD sd tx rD rT bx (Aa xs).2.2.2.2.1 pid pa d rQ).2.1) ((F5 st ep aD sd tx rD rT bx (Aa xs).2.2.2.2.1 pid pa d rQ).2.2.1) ((F5 st ep aD sd tx rD rT bx (Aa xs).2.2.2.2.1 pid pa d rQ).2.2.2.1) ((F5 st ep aD sd tx rD rT bx (Aa xs).2.2.2.2.1 pid pa d rQ).2.2.2.2.1) ((F5 st ep aD sd tx rD rT bx (Aa xs).2.2.2.2.1 pid pa d rQ).2.2.2.2.2.1) ((F5 st ep aD sd tx rD rT bx (Aa xs).2.2.2.2.1 pid pa d rQ).2.2.2.2.2.2.1) ((F5 st ep aD sd tx rD rT bx (Aa xs).2.2.2.2.1 pid pa d rQ).2.2.2.2.2.2.2.1) ((F5 st ep aD sd tx rD rT bx (Aa xs).2.2.2.2.1 pid pa d rQ).2.2.2.2.2.2.2.2) GG (by first |assumption|(intro j;simp<;>omega)) Ac Ax A_ Ac A_ Ac) [(0,0),(1,1),(2,2),(3,9),(4,4),(5,5),(6,10),(7,11),(8,12)] [])] [] 13 V λV=>Ae (Aj [6] 13 V λV=>AY ?_)
     obtain⟨gs,V⟩:=V.rx [(0,0),(1,1),(2,2),(3,3),(4,4),(5,5),(6,6),(7,7),(8,9),(9,10),(10,11)] [6,7] [0,1,2,5,8,9,10] 11 Y
     exact BV (Ab _) V
    ·have hpcx:=hpc A_ A_ A_
     have hK:FI id fi ok oi ik ii lT mx lD tD kl st ep aD sd tx rD rT bx xs=false:=(Ab _).trans ((ah h1).trans ((ah h2).trans ((ah h3).trans (aj h4))))
     rw[hK]at hk
     cases hk
   ·have hK:FI id fi ok oi ik ii lT mx lD tD kl st ep aD sd tx rD rT bx xs=false:=(Ab _).trans ((ah h1).trans ((ah h2).trans (aj h3)))
    rw[hK]at hk
    cases hk
  ·have hpl:=BL (xs:=xs) A_
   have hK:FI id fi ok oi ik ii lT mx lD tD kl st ep aD sd tx rD rT bx xs=false:=(Ab _).trans ((ah h1).trans (aj h2))
   rw[hK]at hk
   cases hk
 ·have hm100:1<=mx.length/\mx.length<=100000:=by omega
  have hK:FI id fi ok oi ik ii lT mx lD tD kl st ep aD sd tx rD rT bx xs=false:=(Ab _).trans (aj h1)
  rw[hK]at hk
  cases hk
def Ts (rQ:Ad) (pid pa:Nat) (d:Ad):Con:=⟨[.cp 0 0,lb xs,lb rQ],[(0,Pn id fi true 1 2 5 lT 4 lD tD 3),(1,Ag ok oi),(2,Ag ik ii),(3,.sl 86 CM kl),(4,.sl 22 A8 mx),(5,AL st ep aD sd tx 6),(6,Dg rD rT 7),(7,.sl 22 Bq bx)],.v (.iface 44 (.int .i64 ((Cx id fi ok oi ik ii lT mx lD tD kl st ep aD sd tx rD rT bx xs:Nat):Int))),[]⟩
theorem Xy (rQ:Ad) (pid pa:Nat) (d:Ad) (hok:ok.length=32) (hik:ik.length=32) (hoi:oi<=100000000000) (hii:ii<=100000000000) (hm1:1<=mx.length/\mx.length<=90000) (hm2:∀j,(mx.getD j AW).length<=32) (hlow:lT<=100000000000) (hK:KOk kl) (hll:lT<=lD/\lD<=100000000) (htd:tD<=100000000) (hmn:lT<=A6 fi lT mx.length tD) (hst:st=1\/st=2\/st=3) (hrln:rT=(if st=1 then 1088 else 1184)) (hrid:rD=(if st=1 then 2*ep+1 else 2*ep)) (hbx:bx.length=2) (hep:ep<=400000000) (hpc:B_ xs=true->BR id fi ok oi ik ii lT mx lD tD kl st ep aD sd tx rD rT bx (Aa xs).1 (Aa xs).2.1 (Aa xs).2.2.1 (Aa xs).2.2.2.1 (Aa xs).2.2.2.2.1 (Aa xs).2.2.2.2.2=true->S_ ((BS (BI id fi ok oi ik ii lT mx lD tD kl st ep aD sd tx rD rT bx (Aa xs).1 (Aa xs).2.1 (Aa xs).2.2.1 (Aa xs).2.2.2.1 (Aa xs).2.2.2.2.1 (Aa xs).2.2.2.2.2) (replicate 12 (0:Int)) (Aa xs).1 (Aa xs).2.2.2.2.2).2)=true->R4 st ep sd tx bx (Aa xs).2.2.2.2.1 pid pa d) (hf:xs.length<=50000) (hr:rQ.length=64) (hk:FI id fi ok oi ik ii lT mx lD tD kl st ep aD sd tx rD rT bx xs=false):EB Tryz.prog 39 (Ts id fi ok oi ik ii lT mx lD tD kl st ep aD sd tx rD rT bx xs rQ pid pa d):=by
 refine C4 rfl (nb:=8) func39 rfl rfl ntmps39 rfl rfl rfl λg0 w0 ac gs ws Y V=> ?_
 have V:=V.sp
 refine Aj [] 8 V λV=>Ar ?_
 have hm100:1<=mx.length/\mx.length<=100000:=by omega
 by_cases h1:B_ xs=true
 ·have hm100:1<=mx.length/\mx.length<=100000:=by omega
  refine Aw [(1,AS (Lb xs Ax h1))] [8] 9 V λV=>CQ ?_
  have hpl:=BL (xs:=xs) A_
  by_cases h2:BR id fi ok oi ik ii lT mx lD tD kl st ep aD sd tx rD rT bx (Aa xs).1 (Aa xs).2.1 (Aa xs).2.2.1 (Aa xs).2.2.2.1 (Aa xs).2.2.2.2.1 (Aa xs).2.2.2.2.2=true
  ·have hpl:=BL (xs:=xs) A_
   refine Aw [(2,AA (O1 id fi ok oi ik ii lT mx lD tD kl st ep aD sd tx rD rT bx (Aa xs).1 (Aa xs).2.1 (Aa xs).2.2.1 (Aa xs).2.2.2.1 (Aa xs).2.2.2.2.1 (Aa xs).2.2.2.2.2 Ax Ax Ac Ac GG (by first |assumption|(intro j;simp<;>omega)) Ac A_ Ac Ac h2) [(0,0),(1,1),(2,2),(3,3),(4,4),(5,5),(6,6),(7,7)] []),(3,R8 .mf [(12:Int)=12,(0:Int)<=12,1*12<=281474976710656,(12:Int)<=9223372036854775807] ⟨rfl,by omega,by omega,by omega,aa⟩),(8,AS (MX (BI id fi ok oi ik ii lT mx lD tD kl st ep aD sd tx rD rT bx (Aa xs).1 (Aa xs).2.1 (Aa xs).2.2.1 (Aa xs).2.2.2.1 (Aa xs).2.2.2.2.1 (Aa xs).2.2.2.2.2) (replicate 12 (0:Int)) (Aa xs).1 (Aa xs).2.2.2.2.2 (F1 A_ Ac hK).2 (by have :=BL (xs:=xs) A_;omega) (by have :=BL (xs:=xs) A_;omega) (by simp)))] [] 9 V λV=>CQ ?_
   by_cases h3:S_ ((BS (BI id fi ok oi ik ii lT mx lD tD kl st ep aD sd tx rD rT bx (Aa xs).1 (Aa xs).2.1 (Aa xs).2.2.1 (Aa xs).2.2.2.1 (Aa xs).2.2.2.2.1 (Aa xs).2.2.2.2.2) (replicate 12 (0:Int)) (Aa xs).1 (Aa xs).2.2.2.2.2).2)=true
   ·refine Aw [(1,AS (FB ((BS (BI id fi ok oi ik ii lT mx lD tD kl st ep aD sd tx rD rT bx (Aa xs).1 (Aa xs).2.1 (Aa xs).2.2.1 (Aa xs).2.2.2.1 (Aa xs).2.2.2.2.1 (Aa xs).2.2.2.2.2) (replicate 12 (0:Int)) (Aa xs).1 (Aa xs).2.2.2.2.2).2) h3))] [] 9 V λV=>CQ ?_
    have hpl:=BL (xs:=xs) A_
    have hof:=(F1 A_ Ac hK).1
    refine Aw [(2,AA (W8 id fi ok oi ik ii lT mx lD tD kl st ep aD sd tx rD rT bx (Aa xs).1 (Aa xs).2.1 (Aa xs).2.2.1 (Aa xs).2.2.2.1 (Aa xs).2.2.2.2.1 (Aa xs).2.2.2.2.2 Ax Ax Ac Ac GG (by first |assumption|(intro j;simp<;>omega)) Ac A_ Ac Ac A_) [(0,0),(1,1),(2,2),(3,3),(4,4),(5,5),(6,6),(7,7)] [(8,9)])] [] 10 V λV=>Ae (Ay [(7,Q1 tD (Aa xs).2.2.2.1)] [] 10 V λV=>Ar (Aj [] 10 V λV=>AG V (Aj [] 10 V λV=>Ar ?_)))
    have hpcx:=hpc A_ A_ A_
    by_cases h4:S_ 0=true
    ·have hpcx:=hpc A_ A_ A_
     refine Aw [(4,AA (X2 st ep aD sd tx rD rT bx (Aa xs).2.2.2.2.1 pid pa d rQ A_ A_ A_ Ac Ax Ac A_) [(0,5),(1,6),(2,7)] [(3,10),(4,11),(5,12)]),(5,AS (FB 0 h4))] [] 13 V λV=>Ae ?_
     have hsec:=Z7 st ep aD sd tx rD rT bx (Aa xs).2.2.2.2.1 pid pa d rQ
     have hof:=(F1 A_ Ac hK).1
     have hpl:=BL (xs:=xs) A_
     have hcl:=RL (id:=id) (fi:=fi) (ok:=ok) (oi:=oi) (ik:=ik) (ii:=ii) (lT:=lT) (mx:=mx) (lD:=lD) (tD:=tD) (kl:=kl) (st:=st) (ep:=ep) (aD:=aD) (sd:=sd) (tx:=tx) (rD:=rD) (rT:=rT) (bx:=bx) (hb:=(Aa xs).1) (hi:=(Aa xs).2.1) (hn:=(Aa xs).2.2.1) (hh:=(Aa xs).2.2.2.1) (hp:=(Aa xs).2.2.2.2.1) (hx:=(Aa xs).2.2.2.2.2) Ac
     have hmt:=Ta hmn (Aa xs).2.2.2.1
     have hs2:=hsec.2
     refine Aw [(1,AA (ZQ id fi ok oi ((Cz id fi ok oi ik ii lT mx lD tD kl st ep aD sd tx rD rT bx (Aa xs).1 (Aa xs).2.1 (Aa xs).2.2.1 (Aa xs).2.2.2.1 (Aa xs).2.2.2.2.1 (Aa xs).2.2.2.2.2).2.2.1) ((Cz id fi ok oi ik ii lT mx lD tD kl st ep aD sd tx rD rT bx (Aa xs).1 (Aa xs).2.1 (Aa xs).2.2.1 (Aa xs).2.2.2.1 (Aa xs).2.2.2.2.1 (Aa xs).2.2.2.2.2).2.2.2) lT mx ((Cz id fi ok oi ik ii lT mx lD tD kl st ep aD sd tx rD rT bx (Aa xs).1 (Aa xs).2.1 (Aa xs).2.2.1 (Aa xs).2.2.2.1 (Aa xs).2.2.2.2.1 (Aa xs).2.2.2.2.2).1) (max tD (Aa xs).2.2.2.1) ((Cz id fi ok oi ik ii lT mx lD tD kl st ep aD sd tx rD rT bx (Aa xs).1 (Aa xs).2.1 (Aa xs).2.2.1 (Aa xs).2.2.2.1 (Aa xs).2.2.2.2.1 (Aa xs).2.2.2.2.2).2.1) ((F5 st ep aD sd tx rD rT bx (Aa xs).2.2.2.2.1 pid pa d rQ).1) ((F5 st ep aD sd tx rD rT bx (Aa xs).2.2.2.2.1 pid pa d rQ).2.1) ((F5 st ep aD sd tx rD rT bx (Aa xs).2.2.2.2.1 pid pa d rQ).2.2.1) ((F5 st ep aD sd tx rD rT bx (Aa xs).2.2.2.2.1 pid pa d rQ).2.2.2.1) ((F5 st ep aD sd tx rD rT bx (Aa xs).2.2.2.2.1 pid pa d rQ).2.2.2.2.1) ((F5 st ep aD sd tx rD rT bx (Aa xs).2.2.2.2.1 pid pa d rQ).2.2.2.2.2.1) ((F5 st ep aD sd tx rD rT bx (Aa xs).2.2.2.2.1 pid pa d rQ).2.2.2.2.2.2.1) ((F5 st ep aD sd tx rD rT bx (Aa xs).2.2.2.2.1 pid pa d rQ).2.2.2.2.2.2.2.1) ((F5 st ep aD sd tx rD rT bx (Aa xs).2.2.2.2.1 pid pa d rQ).2.2.2.2.2.2.2.2) GG (by first |assumption|(intro j;simp<;>omega)) Ac Ax A_ Ac A_ Ac) [(0,0),(1,1),(2,2),(3,9),(4,4),(5,5),(6,10),(7,11),(8,12)] [])] [] 13 V λV=>Ae (Aj [6] 13 V λV=>AY ?_)
     have hK:FI id fi ok oi ik ii lT mx lD tD kl st ep aD sd tx rD rT bx xs=true:=(Ab _).trans ((ah h1).trans ((ah h2).trans ((ah h3).trans (ah h4))))
     rw[hK]at hk
     cases hk
    ·have hpcx:=hpc A_ A_ A_
     refine Bd (E:=E0) mo hZ [(4,.call ⟨73,(aZ st ep aD sd tx rD rT bx (Aa xs).2.2.2.2.1 pid pa d rQ),[(0,5),(1,6),(2,7)],[(3,10),(4,11),(5,12)]⟩)] ⟨X2 _ _ _ _ _ _ _ _ _ _ _ _ _ A_ A_ A_ Ac Ax Ac A_,aa⟩ (some ⟨71,(HC 0),[],[]⟩) (λr hr=>by cases hr;exact Ra 0 (Cj h4)) 5 0 (λC=>[kF C 4,nd [vi 0] []]) (.v (.iface 44 (.int .i64 0))) (by kernel_rfl) ⟨rfl,rfl,aa⟩ V.st λac gs ws pv V hpv=>AE (AE ?_)
     have hM:Cx id fi ok oi ik ii lT mx lD tD kl st ep aD sd tx rD rT bx xs=0:=(Ab _).trans ((ah h1).trans ((ah h2).trans (ah h3)))
     exact CN rfl V hpv (by show _=(.v (.iface 44 (.int .i64 ((Cx id fi ok oi ik ii lT mx lD tD kl st ep aD sd tx rD rT bx xs:Nat):Int))):D);rw[hM]<;>rfl) rfl
   ·refine Bd (E:=E0) mo hZ [] aa (some ⟨71,(HC ((BS (BI id fi ok oi ik ii lT mx lD tD kl st ep aD sd tx rD rT bx (Aa xs).1 (Aa xs).2.1 (Aa xs).2.2.1 (Aa xs).2.2.2.1 (Aa xs).2.2.2.2.1 (Aa xs).2.2.2.2.2) (replicate 12 (0:Int)) (Aa xs).1 (Aa xs).2.2.2.2.2).2)),[],[]⟩) (λr hr=>by cases hr;exact Ra ((BS (BI id fi ok oi ik ii lT mx lD tD kl st ep aD sd tx rD rT bx (Aa xs).1 (Aa xs).2.1 (Aa xs).2.2.1 (Aa xs).2.2.2.1 (Aa xs).2.2.2.2.1 (Aa xs).2.2.2.2.2) (replicate 12 (0:Int)) (Aa xs).1 (Aa xs).2.2.2.2.2).2) (Cj h3)) 1 0 (λ_=>[nd [vi ((((BS (BI id fi ok oi ik ii lT mx lD tD kl st ep aD sd tx rD rT bx (Aa xs).1 (Aa xs).2.1 (Aa xs).2.2.1 (Aa xs).2.2.2.1 (Aa xs).2.2.2.2.1 (Aa xs).2.2.2.2.2) (replicate 12 (0:Int)) (Aa xs).1 (Aa xs).2.2.2.2.2).2):Nat):Int)] []]) (.v (.iface 44 (.int .i64 ((((BS (BI id fi ok oi ik ii lT mx lD tD kl st ep aD sd tx rD rT bx (Aa xs).1 (Aa xs).2.1 (Aa xs).2.2.1 (Aa xs).2.2.2.1 (Aa xs).2.2.2.2.1 (Aa xs).2.2.2.2.2) (replicate 12 (0:Int)) (Aa xs).1 (Aa xs).2.2.2.2.2).2):Nat):Int)))) (by kernel_rfl) ⟨rfl,aa⟩ V.st λac gs ws pv V hpv=>AE ?_
    have hM:Cx id fi ok oi ik ii lT mx lD tD kl st ep aD sd tx rD rT bx xs=((BS (BI id fi ok oi ik ii lT mx lD tD kl st ep aD sd tx rD rT bx (Aa xs).1 (Aa xs).2.1 (Aa xs).2.2.1 (Aa xs).2.2.2.1 (Aa xs).2.2.2.2.1 (Aa xs).2.2.2.2.2) (replicate 12 (0:Int)) (Aa xs).1 (Aa xs).2.2.2.2.2).2):=(Ab _).trans ((ah h1).trans ((ah h2).trans (aj h3)))
    exact CN rfl V hpv (by show _=(.v (.iface 44 (.int .i64 ((Cx id fi ok oi ik ii lT mx lD tD kl st ep aD sd tx rD rT bx xs:Nat):Int))):D);rw[hM]<;>rfl) rfl
  ·have hpl:=BL (xs:=xs) A_
   refine Bd (E:=E0) mo hZ [] aa (some ⟨70,(NS id fi ok oi ik ii lT mx lD tD kl st ep aD sd tx rD rT bx (Aa xs).1 (Aa xs).2.1 (Aa xs).2.2.1 (Aa xs).2.2.2.1 (Aa xs).2.2.2.2.1 (Aa xs).2.2.2.2.2),[(0,0),(1,1),(2,2),(3,3),(4,4),(5,5),(6,6),(7,7)],[]⟩) (λr hr=>by cases hr;exact Sa id fi ok oi ik ii lT mx lD tD kl st ep aD sd tx rD rT bx (Aa xs).1 (Aa xs).2.1 (Aa xs).2.2.1 (Aa xs).2.2.2.1 (Aa xs).2.2.2.2.1 (Aa xs).2.2.2.2.2 Ax Ax Ac Ac GG (by first |assumption|(intro j;simp<;>omega)) Ac A_ Ac Ac (Cj h2)) 2 16128 (λ_=>[nd [.cp 0 0,.ag (Jg [lb (Aa xs).1,vi (((Aa xs).2.1:Nat):Int),vi (((Aa xs).2.2.1:Nat):Int),vi (((Aa xs).2.2.2.1:Nat):Int),lb (Aa xs).2.2.2.2.1,lb (Aa xs).2.2.2.2.2])] [some (Pn id fi true 1 2 5 lT 4 lD tD 3),some (Ag ok oi),some (Ag ik ii),some (.sl 86 CM kl),some (.sl 22 A8 mx),some (AL st ep aD sd tx 6),some (Dg rD rT 7),some (.sl 22 Bq bx)],(12:Int)=12,(0:Int)<=12,1*12<=281474976710656,(12:Int)<=9223372036854775807]) (.v (.iface 44 (.int .i64 ((BK id fi ok oi ik ii lT mx lD tD kl st ep aD sd tx rD rT bx (Aa xs).1 (Aa xs).2.1 (Aa xs).2.2.1 (Aa xs).2.2.2.1 (Aa xs).2.2.2.2.1 (Aa xs).2.2.2.2.2:Nat):Int)))) (by kernel_rfl) ⟨rfl,rfl,by omega,by omega,by omega,aa⟩ V.st λac gs ws pv V hpv=>AE ?_
   have hM:Cx id fi ok oi ik ii lT mx lD tD kl st ep aD sd tx rD rT bx xs=(BK id fi ok oi ik ii lT mx lD tD kl st ep aD sd tx rD rT bx (Aa xs).1 (Aa xs).2.1 (Aa xs).2.2.1 (Aa xs).2.2.2.1 (Aa xs).2.2.2.2.1 (Aa xs).2.2.2.2.2):=(Ab _).trans ((ah h1).trans (aj h2))
   exact CN rfl V hpv (by show _=(.v (.iface 44 (.int .i64 ((Cx id fi ok oi ik ii lT mx lD tD kl st ep aD sd tx rD rT bx xs:Nat):Int))):D);rw[hM]<;>rfl) rfl
 ·have hm100:1<=mx.length/\mx.length<=100000:=by omega
  refine Bd (E:=E0) mo hZ [] aa (some ⟨68,(Mw xs),[],[]⟩) (λr hr=>by cases hr;exact O0 xs Ax (Cj h1)) 1 12 (λ_=>[nd [lb xs] []]) (.v (.iface 44 (.int .i64 ((De xs:Nat):Int)))) (by kernel_rfl) ⟨rfl,aa⟩ V.st λac gs ws pv V hpv=>AE ?_
  have hM:Cx id fi ok oi ik ii lT mx lD tD kl st ep aD sd tx rD rT bx xs=(De xs):=(Ab _).trans (aj h1)
  exact CN rfl V hpv (by show _=(.v (.iface 44 (.int .i64 ((Cx id fi ok oi ik ii lT mx lD tD kl st ep aD sd tx rD rT bx xs:Nat):Int))):D);rw[hM]<;>rfl) rfl
end
def A3 (x0:Ad) (x1 x2:Bool) (x3:Nat) (x4 x5 x6:Nat) (x7:AZ) (x8 x9:Nat) (x10:List (Int×Int×AZ)):O:= .ob 80 (Jg [lb x0,.v (.bool x1),.v (.bool x2),.cp x3 0,.cp x4 0,.cp x5 0,vi ((x6:Nat):Int),.ls false A8 x7,vi ((x8:Nat):Int),vi ((x9:Nat):Int),.ls false CM x10])
theorem YR (l:AZ) (hl:l.length<=100000):AP 63 ⟨[.ls false A8 l],[],.sk 0,[(0,.sl 22 A8 l)]⟩:=by
 refine cy 0 func63 rfl ntmps63 λY V=>Aj [] 0 V λV=>Ii ?_
 rcases V.nilor 0 A8 l with⟨hn1,V⟩|V
 ·subst hn1
  refine Dl [] 0 V λV=>Ae (AG V (Aj [] 0 V λV=>AY (Ao ?_)))
  obtain⟨gs,V⟩:=V.nilk 2 22 A8
  exact BW V
 ·refine Dl [] 0 V λV=>Ae (Ai V (Cb (Ay [(0,Np),(2,Gt 0 l.length 24)] [] 2 V λV=>AY ?_)))
  obtain⟨gs,V⟩:=V.rx [(0,1)] [2] [0] 1 Y
  exact BW V
theorem SG (id:Ad) (fi:Bool) (ok:Ad) (oi:Nat) (ik:Ad) (ii lT:Nat) (mx:AZ) (lD tD:Nat) (kl:List KR) (st:Nat) (ep aD:Nat) (sd tx:Ad) (rD rT:Nat) (bx:CB) (hok:ok.length=32) (hik:ik.length=32) (hoi:oi<=100000000000) (hii:ii<=100000000000) (hm1:1<=mx.length/\mx.length<=100000) (hm2:∀j,(mx.getD j AW).length<=32) (hlow:lT<=100000000000) (hK:KOk kl) (hbx:bx.length=2):AP 30 ⟨[.cp 0 0],[(0,A3 id fi true 1 2 3 lT mx lD tD kl),(1,Ag ok oi),(2,Ag ik ii),(3,AL st ep aD sd tx 4),(4,AT rD rT bx)],.cp 5 0,[(0,A3 id fi true 1 2 3 lT mx lD tD kl),(1,Ag ok oi),(2,Ag ik ii),(3,AL st ep aD sd tx 4),(4,AT rD rT bx),(5,Pn id fi true 6 7 8 lT 11 lD tD 12),(6,Ag ok oi),(7,Ag ik ii),(8,AL st ep aD sd tx 9),(9,Dg rD rT 10),(10,.sl 22 Bq bx),(11,.sl 22 A8 mx),(12,.sl 86 CM kl)]⟩:=by
 refine cy 5 func30 rfl ntmps30 λY V=>Aj [] 5 V λV=>Ar (Ay [(1,Ig (B4) [0,1] [.im (Jg [.top,.top,.top,.im (Jg []) 0,.top,.top,.top,.top,.top,.top,.top]) 0])] [] 5 V λV=>Ai V (Cb (Aj [3] 6 V λV=>Ay [(4,AA (KT ok oi Ax) [(0,1)] [(1,6)]),(9,AA (KT ik ii Ax) [(0,2)] [(1,7)]),(14,AA (cJ st ep aD sd tx rD rT bx Ax) [(0,3),(1,4)] [(2,8),(3,9),(4,10)])] [] 11 V λV=>Ar ?_)))
 have hkl:=hK.1
 exact Aw [(4,AA (YR mx Ax) [] [(0,11)]),(9,AA (HJ kl Ax) [] [(0,12)])] [] 13 V λV=>Ae (Aj [] 13 V λV=>AY (BW V))
theorem z7 (st ep aD:Nat) (sd tx:Ad) (id ln:Nat) (bx:CB) (pid pa ct q:Nat) (d r:Ad) (h:bx.length=2):(O6 st ep aD sd tx id ln bx pid pa ct q d r).2.2.2.2.2.2.2.1.length=2:=by
 unfold O6;rw[Ab]
 repeat' (first |exact h|rfl|exact(EO ..).trans h|exact EO (replicate 2 none) _ _|split)
theorem lK (st ep aD:Nat) (sd tx:Ad) (id ln:Nat) (bx:CB) (b:Ad) (pid pa:Nat) (d r:Ad) (h:bx.length=2):(F5 st ep aD sd tx id ln bx b pid pa d r).2.2.2.2.2.2.2.1.length=2:=by
 by_cases h0:b=[]
 ·subst h0;rw[Z8];exact h
 ·rw[Wx _ _ _ _ _ _ _ _ h0];exact z7 _ _ _ _ _ _ _ _ _ _ _ _ _ _ h
section
variable (id:Ad) (fi:Bool) (ok:Ad) (oi:Nat) (ik:Ad) (ii lT:Nat) (mx:AZ) (lD tD:Nat) (kl:List KR) (st:Nat) (ep aD:Nat) (sd tx:Ad) (rD rT:Nat) (bx:CB) (xs:Ad)
def E_:Bool:=AV (if FI id fi ok oi ik ii lT mx lD tD kl st ep aD sd tx rD rT bx xs=true then true else false)
def BH (rQ:Ad) (pid pa:Nat) (d:Ad):Ad×Nat×Nat×Nat×Nat×Ad×Ad×Nat×Nat×CB×Nat×AZ×Nat×Nat×(List (Int×Int×AZ))×Ad×Nat:=AV (((AI id fi ok oi ik ii lT mx lD tD kl st ep aD sd tx rD rT bx xs (rQ.drop 64) pid pa d).2.2.2.2.2.1,((AI id fi ok oi ik ii lT mx lD tD kl st ep aD sd tx rD rT bx xs (rQ.drop 64) pid pa d).2.2.2.2.2.2.1),((AI id fi ok oi ik ii lT mx lD tD kl st ep aD sd tx rD rT bx xs (rQ.drop 64) pid pa d).2.2.2.2.2.2.2.1),((AI id fi ok oi ik ii lT mx lD tD kl st ep aD sd tx rD rT bx xs (rQ.drop 64) pid pa d).2.2.2.2.2.2.2.2.1),((AI id fi ok oi ik ii lT mx lD tD kl st ep aD sd tx rD rT bx xs (rQ.drop 64) pid pa d).2.2.2.2.2.2.2.2.2.1),(AI id fi ok oi ik ii lT mx lD tD kl st ep aD sd tx rD rT bx xs (rQ.drop 64) pid pa d).2.2.2.2.2.2.2.2.2.2.1,(AI id fi ok oi ik ii lT mx lD tD kl st ep aD sd tx rD rT bx xs (rQ.drop 64) pid pa d).2.2.2.2.2.2.2.2.2.2.2.1,((AI id fi ok oi ik ii lT mx lD tD kl st ep aD sd tx rD rT bx xs (rQ.drop 64) pid pa d).2.2.2.2.2.2.2.2.2.2.2.2.1),((AI id fi ok oi ik ii lT mx lD tD kl st ep aD sd tx rD rT bx xs (rQ.drop 64) pid pa d).2.2.2.2.2.2.2.2.2.2.2.2.2.1),(AI id fi ok oi ik ii lT mx lD tD kl st ep aD sd tx rD rT bx xs (rQ.drop 64) pid pa d).2.2.2.2.2.2.2.2.2.2.2.2.2.2.1,((AI id fi ok oi ik ii lT mx lD tD kl st ep aD sd tx rD rT bx xs (rQ.drop 64) pid pa d).1),(AI id fi ok oi ik ii lT mx lD tD kl st ep aD sd tx rD rT bx xs (rQ.drop 64) pid pa d).2.1,((AI id fi ok oi ik ii lT mx lD tD kl st ep aD sd tx rD rT bx xs (rQ.drop 64) pid pa d).2.2.1),((AI id fi ok oi ik ii lT mx lD tD kl st ep aD sd tx rD rT bx xs (rQ.drop 64) pid pa d).2.2.2.1),(AI id fi ok oi ik ii lT mx lD tD kl st ep aD sd tx rD rT bx xs (rQ.drop 64) pid pa d).2.2.2.2.1,(AI id fi ok oi ik ii lT mx lD tD kl st ep aD sd tx rD rT bx xs (rQ.drop 64) pid pa d).2.2.2.2.2.2.2.2.2.2.2.2.2.2.2.1,((AI id fi ok oi ik ii lT mx lD tD kl st ep aD sd tx rD rT bx xs (rQ.drop 64) pid pa d).2.2.2.2.2.2.2.2.2.2.2.2.2.2.2.2)))
def RO (rQ:Ad) (pid pa:Nat) (d:Ad) (z_:Ad×Nat×Nat×Nat×Nat×Ad×Ad×Nat×Nat×CB×Nat×AZ×Nat×Nat×(List (Int×Int×AZ))×Ad×Nat:=BH id fi ok oi ik ii lT mx lD tD kl st ep aD sd tx rD rT bx xs rQ pid pa d):Con:=⟨[.cp 0 0,lb xs,lb rQ],[(0,A3 id fi true 1 2 3 lT mx lD tD kl),(1,Ag ok oi),(2,Ag ik ii),(3,AL st ep aD sd tx 4),(4,AT rD rT bx)],.tu (Jg [lb (z_.2.2.2.2.2.2.2.2.2.2.2.2.2.2.2.1),vi ((z_.2.2.2.2.2.2.2.2.2.2.2.2.2.2.2.2:Nat):Int),vi 0]),[(0,A3 id fi true 9 10 11 z_.2.2.2.2.2.2.2.2.2.2.1 (z_.2.2.2.2.2.2.2.2.2.2.2.1) z_.2.2.2.2.2.2.2.2.2.2.2.2.1 z_.2.2.2.2.2.2.2.2.2.2.2.2.2.1 (z_.2.2.2.2.2.2.2.2.2.2.2.2.2.2.1)),(1,Ag ok oi),(2,Ag ik ii),(3,AL st ep aD sd tx 4),(4,AT rD rT bx),(9,Ag ok oi),(10,Ag (z_.1) z_.2.1),(11,AL z_.2.2.1 z_.2.2.2.1 z_.2.2.2.2.1 (z_.2.2.2.2.2.1) (z_.2.2.2.2.2.2.1) 17),(17,AT z_.2.2.2.2.2.2.2.1 z_.2.2.2.2.2.2.2.2.1 (z_.2.2.2.2.2.2.2.2.2.1))]⟩
theorem VV (rQ:Ad) (pid pa:Nat) (d:Ad) (hok:ok.length=32) (hik:ik.length=32) (hoi:oi<=100000000000) (hii:ii<=100000000000) (hm1:1<=mx.length/\mx.length<=90000) (hm2:∀j,(mx.getD j AW).length<=32) (hlow:lT<=100000000000) (hK:KOk kl) (hll:lT<=lD/\lD<=100000000) (htd:tD<=100000000) (hmn:lT<=A6 fi lT mx.length tD) (hst:st=1\/st=2\/st=3) (hrln:rT=(if st=1 then 1088 else 1184)) (hrid:rD=(if st=1 then 2*ep+1 else 2*ep)) (hbx:bx.length=2) (hep:ep<=400000000) (hpc:B_ xs=true->BR id fi ok oi ik ii lT mx lD tD kl st ep aD sd tx rD rT bx (Aa xs).1 (Aa xs).2.1 (Aa xs).2.2.1 (Aa xs).2.2.2.1 (Aa xs).2.2.2.2.1 (Aa xs).2.2.2.2.2=true->S_ ((BS (BI id fi ok oi ik ii lT mx lD tD kl st ep aD sd tx rD rT bx (Aa xs).1 (Aa xs).2.1 (Aa xs).2.2.1 (Aa xs).2.2.2.1 (Aa xs).2.2.2.2.1 (Aa xs).2.2.2.2.2) (replicate 12 (0:Int)) (Aa xs).1 (Aa xs).2.2.2.2.2).2)=true->R4 st ep sd tx bx (Aa xs).2.2.2.2.1 pid pa d) (hf:xs.length<=50000) (hr:rQ.length=128) (hk:E_ id fi ok oi ik ii lT mx lD tD kl st ep aD sd tx rD rT bx xs=true):AP 19 (RO id fi ok oi ik ii lT mx lD tD kl st ep aD sd tx rD rT bx xs rQ pid pa d):=by
 refine Du rfl (nb:=5) func19 rfl rfl ntmps19 rfl rfl rfl λg0 w0 ac gs ws Y V=> ?_
 have V:=V.sp
 have hr1:((rQ.length:Nat):Int)=128:=Ac
 refine Aj [] 8 V λV=>Ar (Ay [(1,Ig (B4) [0,1] [.im (Jg [.top,.top,.top,.im (Jg []) 0,.top,.top,.top,.top,.top,.top,.top]) 0]),(5,Ha hr1)] [] 8 V λV=>Ai V (DG ?_))
 have V:=V.rv [(0,.cp 0 0),(1,lb xs),(2,lb rQ),(6,.cp 5 0),(7,.cp 6 0),(8,.cp 7 0),(16,.v (.bool false))] [(0,some (A3 id fi true 1 2 3 lT mx lD tD kl)),(1,some (Ag ok oi)),(2,some (Ag ik ii)),(3,some (AL st ep aD sd tx 4)),(4,some (AT rD rT bx)),(5,some (Pr)),(6,some (Pq)),(7,some (Da))]
 refine FM rfl V (cs:=[.cp 5 0,.cp 6 0,.cp 7 0]) rfl rfl rfl λD vds ac hD hcv hB V=> ?_
 have V:=V.sp
 refine CQ ?_
 have hm100:1<=mx.length/\mx.length<=100000:=by omega
 refine Aw [(1,AA (SG id fi ok oi ik ii lT mx lD tD kl st ep aD sd tx rD rT bx Ax Ax Ac Ac GG (by first |assumption|(intro j;simp<;>omega)) Ac A_ Ax) [(0,0),(1,1),(2,2),(3,3),(4,4)] [(5,8),(6,9),(7,10),(8,11),(9,12),(10,13),(11,14),(12,15)])] [] 16 V λV=>CQ ?_
 have hm100:1<=mx.length/\mx.length<=100000:=by omega
 by_cases h1:FI id fi ok oi ik ii lT mx lD tD kl st ep aD sd tx rD rT bx xs=true
 ·have hm100:1<=mx.length/\mx.length<=100000:=by omega
  refine Aw [(3,ON 64 rQ.length),(4,AA (Vx id fi ok oi ik ii lT mx lD tD kl st ep aD sd tx rD rT bx xs (rQ.drop 64) pid pa d Ax Ax Ac Ac GG (by first |assumption|(intro j;simp<;>omega)) Ac A_ Ac Ac A_ A_ A_ A_ Ac Ac A_ Ax Ax h1) [(0,8),(1,9),(2,10),(3,15),(4,14),(5,11),(6,12),(7,13)] [(8,16),(9,17),(10,18)])] [] 19 V λV=>CQ (Dl [] 19 V λV=> ?_)
  obtain⟨gs,V⟩:=V.fz 16
  have hbxl:((AI id fi ok oi ik ii lT mx lD tD kl st ep aD sd tx rD rT bx xs (rQ.drop 64) pid pa d).2.2.2.2.2.2.2.2.2.2.2.2.2.2.1).length=2:=by unfold AI;rw[Ab];exact lK _ _ _ _ _ _ _ _ _ _ _ _ _ hbx
  have hbxn:((AI id fi ok oi ik ii lT mx lD tD kl st ep aD sd tx rD rT bx xs (rQ.drop 64) pid pa d).2.2.2.2.2.2.2.2.2.2.2.2.2.2.1)≠[]:=λe=>by rw[e]at hbxl;cases hbxl
  obtain⟨gs,V⟩:=V.fy 18 22 Bq ((AI id fi ok oi ik ii lT mx lD tD kl st ep aD sd tx rD rT bx xs (rQ.drop 64) pid pa d).2.2.2.2.2.2.2.2.2.2.2.2.2.2.1) ((show true=true->((AI id fi ok oi ik ii lT mx lD tD kl st ep aD sd tx rD rT bx xs (rQ.drop 64) pid pa d).2.2.2.2.2.2.2.2.2.2.2.2.2.2.1)≠[]from λ_=>hbxn) rfl)
  refine Ae (Aj [] 19 V λV=>AY ?_)
  have hM:BH id fi ok oi ik ii lT mx lD tD kl st ep aD sd tx rD rT bx xs rQ pid pa d=((AI id fi ok oi ik ii lT mx lD tD kl st ep aD sd tx rD rT bx xs (rQ.drop 64) pid pa d).2.2.2.2.2.1,((AI id fi ok oi ik ii lT mx lD tD kl st ep aD sd tx rD rT bx xs (rQ.drop 64) pid pa d).2.2.2.2.2.2.1),((AI id fi ok oi ik ii lT mx lD tD kl st ep aD sd tx rD rT bx xs (rQ.drop 64) pid pa d).2.2.2.2.2.2.2.1),((AI id fi ok oi ik ii lT mx lD tD kl st ep aD sd tx rD rT bx xs (rQ.drop 64) pid pa d).2.2.2.2.2.2.2.2.1),((AI id fi ok oi ik ii lT mx lD tD kl st ep aD sd tx rD rT bx xs (rQ.drop 64) pid pa d).2.2.2.2.2.2.2.2.2.1),(AI id fi ok oi ik ii lT mx lD tD kl st ep aD sd tx rD rT bx xs (rQ.drop 64) pid pa d).2.2.2.2.2.2.2.2.2.2.1,(AI id fi ok oi ik ii lT mx lD tD kl st ep aD sd tx rD rT bx xs (rQ.drop 64) pid pa d).2.2.2.2.2.2.2.2.2.2.2.1,((AI id fi ok oi ik ii lT mx lD tD kl st ep aD sd tx rD rT bx xs (rQ.drop 64) pid pa d).2.2.2.2.2.2.2.2.2.2.2.2.1),((AI id fi ok oi ik ii lT mx lD tD kl st ep aD sd tx rD rT bx xs (rQ.drop 64) pid pa d).2.2.2.2.2.2.2.2.2.2.2.2.2.1),(AI id fi ok oi ik ii lT mx lD tD kl st ep aD sd tx rD rT bx xs (rQ.drop 64) pid pa d).2.2.2.2.2.2.2.2.2.2.2.2.2.2.1,((AI id fi ok oi ik ii lT mx lD tD kl st ep aD sd tx rD rT bx xs (rQ.drop 64) pid pa d).1),(AI id fi ok oi ik ii lT mx lD tD kl st ep aD sd tx rD rT bx xs (rQ.drop 64) pid pa d).2.1,((AI id fi ok oi ik ii lT mx lD tD kl st ep aD sd tx rD rT bx xs (rQ.drop 64) pid pa d).2.2.1),((AI id fi ok oi ik ii lT mx lD tD kl st ep aD sd tx rD rT bx xs (rQ.drop 64) pid pa d).2.2.2.1),(AI id fi ok oi ik ii lT mx lD tD kl st ep aD sd tx rD rT bx xs (rQ.drop 64) pid pa d).2.2.2.2.1,(AI id fi ok oi ik ii lT mx lD tD kl st ep aD sd tx rD rT bx xs (rQ.drop 64) pid pa d).2.2.2.2.2.2.2.2.2.2.2.2.2.2.2.1,((AI id fi ok oi ik ii lT mx lD tD kl st ep aD sd tx rD rT bx xs (rQ.drop 64) pid pa d).2.2.2.2.2.2.2.2.2.2.2.2.2.2.2.2)):=Ab _
  have V:=V.rv [(6,.cp 5 0),(7,.cp 6 0),(8,.cp 7 0)] [(0,some (A3 id fi true 9 10 11 ((AI id fi ok oi ik ii lT mx lD tD kl st ep aD sd tx rD rT bx xs (rQ.drop 64) pid pa d).1) ((AI id fi ok oi ik ii lT mx lD tD kl st ep aD sd tx rD rT bx xs (rQ.drop 64) pid pa d).2.1) ((AI id fi ok oi ik ii lT mx lD tD kl st ep aD sd tx rD rT bx xs (rQ.drop 64) pid pa d).2.2.1) ((AI id fi ok oi ik ii lT mx lD tD kl st ep aD sd tx rD rT bx xs (rQ.drop 64) pid pa d).2.2.2.1) ((AI id fi ok oi ik ii lT mx lD tD kl st ep aD sd tx rD rT bx xs (rQ.drop 64) pid pa d).2.2.2.2.1))),(1,some (Ag ok oi)),(2,some (Ag ik ii)),(3,some (AL st ep aD sd tx 4)),(4,some (AT rD rT bx)),(5,some (Xo ((AI id fi ok oi ik ii lT mx lD tD kl st ep aD sd tx rD rT bx xs (rQ.drop 64) pid pa d).2.2.2.2.2.2.2.2.2.2.2.2.2.2.2.1))),(6,some (N2 ((AI id fi ok oi ik ii lT mx lD tD kl st ep aD sd tx rD rT bx xs (rQ.drop 64) pid pa d).2.2.2.2.2.2.2.2.2.2.2.2.2.2.2.2))),(7,some (Da)),(9,some (Ag ok oi)),(10,some (Ag ((AI id fi ok oi ik ii lT mx lD tD kl st ep aD sd tx rD rT bx xs (rQ.drop 64) pid pa d).2.2.2.2.2.1) ((AI id fi ok oi ik ii lT mx lD tD kl st ep aD sd tx rD rT bx xs (rQ.drop 64) pid pa d).2.2.2.2.2.2.1))),(11,some (AL ((AI id fi ok oi ik ii lT mx lD tD kl st ep aD sd tx rD rT bx xs (rQ.drop 64) pid pa d).2.2.2.2.2.2.2.1) ((AI id fi ok oi ik ii lT mx lD tD kl st ep aD sd tx rD rT bx xs (rQ.drop 64) pid pa d).2.2.2.2.2.2.2.2.1) ((AI id fi ok oi ik ii lT mx lD tD kl st ep aD sd tx rD rT bx xs (rQ.drop 64) pid pa d).2.2.2.2.2.2.2.2.2.1) ((AI id fi ok oi ik ii lT mx lD tD kl st ep aD sd tx rD rT bx xs (rQ.drop 64) pid pa d).2.2.2.2.2.2.2.2.2.2.1) ((AI id fi ok oi ik ii lT mx lD tD kl st ep aD sd tx rD rT bx xs (rQ.drop 64) pid pa d).2.2.2.2.2.2.2.2.2.2.2.1) 17)),(17,some (AT ((AI id fi ok oi ik ii lT mx lD tD kl st ep aD sd tx rD rT bx xs (rQ.drop 64) pid pa d).2.2.2.2.2.2.2.2.2.2.2.2.1) ((AI id fi ok oi ik ii lT mx lD tD kl st ep aD sd tx rD rT bx xs (rQ.drop 64) pid pa d).2.2.2.2.2.2.2.2.2.2.2.2.2.1) ((AI id fi ok oi ik ii lT mx lD tD kl st ep aD sd tx rD rT bx xs (rQ.drop 64) pid pa d).2.2.2.2.2.2.2.2.2.2.2.2.2.2.1)))]
  exact Mm (.inr rfl) V hD (DT ⟨38,(UV ((AI id fi ok oi ik ii lT mx lD tD kl st ep aD sd tx rD rT bx xs (rQ.drop 64) pid pa d).2.2.2.2.2.2.2.2.2.2.2.2.2.2.2.1) ((AI id fi ok oi ik ii lT mx lD tD kl st ep aD sd tx rD rT bx xs (rQ.drop 64) pid pa d).2.2.2.2.2.2.2.2.2.2.2.2.2.2.2.2)),[(0,5),(1,6),(2,7)],[]⟩ [(5,some (Xo ((AI id fi ok oi ik ii lT mx lD tD kl st ep aD sd tx rD rT bx xs (rQ.drop 64) pid pa d).2.2.2.2.2.2.2.2.2.2.2.2.2.2.2.1))),(6,some (N2 ((AI id fi ok oi ik ii lT mx lD tD kl st ep aD sd tx rD rT bx xs (rQ.drop 64) pid pa d).2.2.2.2.2.2.2.2.2.2.2.2.2.2.2.2))),(7,some (Da)),(0,some (A3 id fi true 9 10 11 ((AI id fi ok oi ik ii lT mx lD tD kl st ep aD sd tx rD rT bx xs (rQ.drop 64) pid pa d).1) ((AI id fi ok oi ik ii lT mx lD tD kl st ep aD sd tx rD rT bx xs (rQ.drop 64) pid pa d).2.1) ((AI id fi ok oi ik ii lT mx lD tD kl st ep aD sd tx rD rT bx xs (rQ.drop 64) pid pa d).2.2.1) ((AI id fi ok oi ik ii lT mx lD tD kl st ep aD sd tx rD rT bx xs (rQ.drop 64) pid pa d).2.2.2.1) ((AI id fi ok oi ik ii lT mx lD tD kl st ep aD sd tx rD rT bx xs (rQ.drop 64) pid pa d).2.2.2.2.1))),(1,some (Ag ok oi)),(2,some (Ag ik ii)),(3,some (AL st ep aD sd tx 4)),(4,some (AT rD rT bx)),(5,some (Xo ((AI id fi ok oi ik ii lT mx lD tD kl st ep aD sd tx rD rT bx xs (rQ.drop 64) pid pa d).2.2.2.2.2.2.2.2.2.2.2.2.2.2.2.1))),(6,some (N2 ((AI id fi ok oi ik ii lT mx lD tD kl st ep aD sd tx rD rT bx xs (rQ.drop 64) pid pa d).2.2.2.2.2.2.2.2.2.2.2.2.2.2.2.2))),(7,some (Da)),(9,some (Ag ok oi)),(10,some (Ag ((AI id fi ok oi ik ii lT mx lD tD kl st ep aD sd tx rD rT bx xs (rQ.drop 64) pid pa d).2.2.2.2.2.1) ((AI id fi ok oi ik ii lT mx lD tD kl st ep aD sd tx rD rT bx xs (rQ.drop 64) pid pa d).2.2.2.2.2.2.1))),(11,some (AL ((AI id fi ok oi ik ii lT mx lD tD kl st ep aD sd tx rD rT bx xs (rQ.drop 64) pid pa d).2.2.2.2.2.2.2.1) ((AI id fi ok oi ik ii lT mx lD tD kl st ep aD sd tx rD rT bx xs (rQ.drop 64) pid pa d).2.2.2.2.2.2.2.2.1) ((AI id fi ok oi ik ii lT mx lD tD kl st ep aD sd tx rD rT bx xs (rQ.drop 64) pid pa d).2.2.2.2.2.2.2.2.2.1) ((AI id fi ok oi ik ii lT mx lD tD kl st ep aD sd tx rD rT bx xs (rQ.drop 64) pid pa d).2.2.2.2.2.2.2.2.2.2.1) ((AI id fi ok oi ik ii lT mx lD tD kl st ep aD sd tx rD rT bx xs (rQ.drop 64) pid pa d).2.2.2.2.2.2.2.2.2.2.2.1) 17)),(17,some (AT ((AI id fi ok oi ik ii lT mx lD tD kl st ep aD sd tx rD rT bx xs (rQ.drop 64) pid pa d).2.2.2.2.2.2.2.2.2.2.2.2.1) ((AI id fi ok oi ik ii lT mx lD tD kl st ep aD sd tx rD rT bx xs (rQ.drop 64) pid pa d).2.2.2.2.2.2.2.2.2.2.2.2.2.1) ((AI id fi ok oi ik ii lT mx lD tD kl st ep aD sd tx rD rT bx xs (rQ.drop 64) pid pa d).2.2.2.2.2.2.2.2.2.2.2.2.2.2.1)))] hB V hcv (show FrameMode.returning≠ .run from nofun) rfl rfl rfl (V2 ((AI id fi ok oi ik ii lT mx lD tD kl st ep aD sd tx rD rT bx xs (rQ.drop 64) pid pa d).2.2.2.2.2.2.2.2.2.2.2.2.2.2.2.1) ((AI id fi ok oi ik ii lT mx lD tD kl st ep aD sd tx rD rT bx xs (rQ.drop 64) pid pa d).2.2.2.2.2.2.2.2.2.2.2.2.2.2.2.2)) rfl ⟨rfl,rfl,rfl,aa⟩ rfl (ds:=[lb ((AI id fi ok oi ik ii lT mx lD tD kl st ep aD sd tx rD rT bx xs (rQ.drop 64) pid pa d).2.2.2.2.2.2.2.2.2.2.2.2.2.2.2.1),vi ((((AI id fi ok oi ik ii lT mx lD tD kl st ep aD sd tx rD rT bx xs (rQ.drop 64) pid pa d).2.2.2.2.2.2.2.2.2.2.2.2.2.2.2.2):Nat):Int),vi 0]) (by kernel_rfl) (by show weak _ (.tu (Jg [lb (BH id fi ok oi ik ii lT mx lD tD kl st ep aD sd tx rD rT bx xs rQ pid pa d).2.2.2.2.2.2.2.2.2.2.2.2.2.2.2.1,vi (((BH id fi ok oi ik ii lT mx lD tD kl st ep aD sd tx rD rT bx xs rQ pid pa d).2.2.2.2.2.2.2.2.2.2.2.2.2.2.2.2:Nat):Int),vi 0]))=(.tu (Jg [lb (BH id fi ok oi ik ii lT mx lD tD kl st ep aD sd tx rD rT bx xs rQ pid pa d).2.2.2.2.2.2.2.2.2.2.2.2.2.2.2.1,vi (((BH id fi ok oi ik ii lT mx lD tD kl st ep aD sd tx rD rT bx xs rQ pid pa d).2.2.2.2.2.2.2.2.2.2.2.2.2.2.2.2:Nat):Int),vi 0]));first |rfl|(rw[hM];first |(simp only[];rfl)|(simp only[];done)|rfl)) (by show E6 _ [(0,A3 id fi true 9 10 11 (BH id fi ok oi ik ii lT mx lD tD kl st ep aD sd tx rD rT bx xs rQ pid pa d).2.2.2.2.2.2.2.2.2.2.1 (BH id fi ok oi ik ii lT mx lD tD kl st ep aD sd tx rD rT bx xs rQ pid pa d).2.2.2.2.2.2.2.2.2.2.2.1 (BH id fi ok oi ik ii lT mx lD tD kl st ep aD sd tx rD rT bx xs rQ pid pa d).2.2.2.2.2.2.2.2.2.2.2.2.1 (BH id fi ok oi ik ii lT mx lD tD kl st ep aD sd tx rD rT bx xs rQ pid pa d).2.2.2.2.2.2.2.2.2.2.2.2.2.1 (BH id fi ok oi ik ii lT mx lD tD kl st ep aD sd tx rD rT bx xs rQ pid pa d).2.2.2.2.2.2.2.2.2.2.2.2.2.2.1),(1,Ag ok oi),(2,Ag ik ii),(3,AL st ep aD sd tx 4),(4,AT rD rT bx),(9,Ag ok oi),(10,Ag (BH id fi ok oi ik ii lT mx lD tD kl st ep aD sd tx rD rT bx xs rQ pid pa d).1 (BH id fi ok oi ik ii lT mx lD tD kl st ep aD sd tx rD rT bx xs rQ pid pa d).2.1),(11,AL (BH id fi ok oi ik ii lT mx lD tD kl st ep aD sd tx rD rT bx xs rQ pid pa d).2.2.1 (BH id fi ok oi ik ii lT mx lD tD kl st ep aD sd tx rD rT bx xs rQ pid pa d).2.2.2.1 (BH id fi ok oi ik ii lT mx lD tD kl st ep aD sd tx rD rT bx xs rQ pid pa d).2.2.2.2.1 (BH id fi ok oi ik ii lT mx lD tD kl st ep aD sd tx rD rT bx xs rQ pid pa d).2.2.2.2.2.1 (BH id fi ok oi ik ii lT mx lD tD kl st ep aD sd tx rD rT bx xs rQ pid pa d).2.2.2.2.2.2.1 17),(17,AT (BH id fi ok oi ik ii lT mx lD tD kl st ep aD sd tx rD rT bx xs rQ pid pa d).2.2.2.2.2.2.2.1 (BH id fi ok oi ik ii lT mx lD tD kl st ep aD sd tx rD rT bx xs rQ pid pa d).2.2.2.2.2.2.2.2.1 (BH id fi ok oi ik ii lT mx lD tD kl st ep aD sd tx rD rT bx xs rQ pid pa d).2.2.2.2.2.2.2.2.2.1)] true;first |exact⟨rfl,rfl,rfl,rfl,rfl,rfl,rfl,rfl,rfl,aa⟩|(rw[hM];first |(simp only[];exact⟨rfl,rfl,rfl,rfl,rfl,rfl,rfl,rfl,rfl,aa⟩)|exact⟨rfl,rfl,rfl,rfl,rfl,rfl,rfl,rfl,rfl,aa⟩)))
 ·have hm100:1<=mx.length/\mx.length<=100000:=by omega
  have hK:E_ id fi ok oi ik ii lT mx lD tD kl st ep aD sd tx rD rT bx xs=false:=(Ab _).trans (aj h1)
  rw[hK]at hk
  cases hk
def NR (rQ:Ad) (pid pa:Nat) (d:Ad):Con:=Cq [.cp 0 0,lb xs,lb rQ] [(0,A3 id fi true 1 2 3 lT mx lD tD kl),(1,Ag ok oi),(2,Ag ik ii),(3,AL st ep aD sd tx 4),(4,AT rD rT bx)] (.tu (Jg [.v (.slice none 0 0),vi 0,vi ((Cx id fi ok oi ik ii lT mx lD tD kl st ep aD sd tx rD rT bx xs:Nat):Int)]))
theorem R9 (rQ:Ad) (pid pa:Nat) (d:Ad) (hok:ok.length=32) (hik:ik.length=32) (hoi:oi<=100000000000) (hii:ii<=100000000000) (hm1:1<=mx.length/\mx.length<=90000) (hm2:∀j,(mx.getD j AW).length<=32) (hlow:lT<=100000000000) (hK:KOk kl) (hll:lT<=lD/\lD<=100000000) (htd:tD<=100000000) (hmn:lT<=A6 fi lT mx.length tD) (hst:st=1\/st=2\/st=3) (hrln:rT=(if st=1 then 1088 else 1184)) (hrid:rD=(if st=1 then 2*ep+1 else 2*ep)) (hbx:bx.length=2) (hep:ep<=400000000) (hpc:B_ xs=true->BR id fi ok oi ik ii lT mx lD tD kl st ep aD sd tx rD rT bx (Aa xs).1 (Aa xs).2.1 (Aa xs).2.2.1 (Aa xs).2.2.2.1 (Aa xs).2.2.2.2.1 (Aa xs).2.2.2.2.2=true->S_ ((BS (BI id fi ok oi ik ii lT mx lD tD kl st ep aD sd tx rD rT bx (Aa xs).1 (Aa xs).2.1 (Aa xs).2.2.1 (Aa xs).2.2.2.1 (Aa xs).2.2.2.2.1 (Aa xs).2.2.2.2.2) (replicate 12 (0:Int)) (Aa xs).1 (Aa xs).2.2.2.2.2).2)=true->R4 st ep sd tx bx (Aa xs).2.2.2.2.1 pid pa d) (hf:xs.length<=50000) (hr:rQ.length=128) (hk:E_ id fi ok oi ik ii lT mx lD tD kl st ep aD sd tx rD rT bx xs=false):AP 19 (NR id fi ok oi ik ii lT mx lD tD kl st ep aD sd tx rD rT bx xs rQ pid pa d):=by
 refine Du rfl (nb:=5) func19 rfl rfl ntmps19 rfl rfl rfl λg0 w0 ac gs ws Y V=> ?_
 have V:=V.sp
 have hr1:((rQ.length:Nat):Int)=128:=Ac
 refine Aj [] 8 V λV=>Ar (Ay [(1,Ig (B4) [0,1] [.im (Jg [.top,.top,.top,.im (Jg []) 0,.top,.top,.top,.top,.top,.top,.top]) 0]),(5,Ha hr1)] [] 8 V λV=>Ai V (DG ?_))
 have V:=V.rv [(0,.cp 0 0),(1,lb xs),(2,lb rQ),(6,.cp 5 0),(7,.cp 6 0),(8,.cp 7 0),(16,.v (.bool false))] [(0,some (A3 id fi true 1 2 3 lT mx lD tD kl)),(1,some (Ag ok oi)),(2,some (Ag ik ii)),(3,some (AL st ep aD sd tx 4)),(4,some (AT rD rT bx)),(5,some (Pr)),(6,some (Pq)),(7,some (Da))]
 refine FM rfl V (cs:=[.cp 5 0,.cp 6 0,.cp 7 0]) rfl rfl rfl λD vds ac hD hcv hB V=> ?_
 have V:=V.sp
 refine CQ ?_
 have hm100:1<=mx.length/\mx.length<=100000:=by omega
 refine Aw [(1,AA (SG id fi ok oi ik ii lT mx lD tD kl st ep aD sd tx rD rT bx Ax Ax Ac Ac GG (by first |assumption|(intro j;simp<;>omega)) Ac A_ Ax) [(0,0),(1,1),(2,2),(3,3),(4,4)] [(5,8),(6,9),(7,10),(8,11),(9,12),(10,13),(11,14),(12,15)])] [] 16 V λV=>CQ ?_
 have hm100:1<=mx.length/\mx.length<=100000:=by omega
 by_cases h1:FI id fi ok oi ik ii lT mx lD tD kl st ep aD sd tx rD rT bx xs=true
 ·have hm100:1<=mx.length/\mx.length<=100000:=by omega
  refine Aw [(3,ON 64 rQ.length),(4,AA (Vx id fi ok oi ik ii lT mx lD tD kl st ep aD sd tx rD rT bx xs (rQ.drop 64) pid pa d Ax Ax Ac Ac GG (by first |assumption|(intro j;simp<;>omega)) Ac A_ Ac Ac A_ A_ A_ A_ Ac Ac A_ Ax Ax h1) [(0,8),(1,9),(2,10),(3,15),(4,14),(5,11),(6,12),(7,13)] [(8,16),(9,17),(10,18)])] [] 19 V λV=>CQ (Dl [] 19 V λV=> ?_)
  obtain⟨gs,V⟩:=V.fz 16
  have hbxl:((AI id fi ok oi ik ii lT mx lD tD kl st ep aD sd tx rD rT bx xs (rQ.drop 64) pid pa d).2.2.2.2.2.2.2.2.2.2.2.2.2.2.1).length=2:=by unfold AI;rw[Ab];exact lK _ _ _ _ _ _ _ _ _ _ _ _ _ hbx
  have hbxn:((AI id fi ok oi ik ii lT mx lD tD kl st ep aD sd tx rD rT bx xs (rQ.drop 64) pid pa d).2.2.2.2.2.2.2.2.2.2.2.2.2.2.1)≠[]:=λe=>by rw[e]at hbxl;cases hbxl
  obtain⟨gs,V⟩:=V.fy 18 22 Bq ((AI id fi ok oi ik ii lT mx lD tD kl st ep aD sd tx rD rT bx xs (rQ.drop 64) pid pa d).2.2.2.2.2.2.2.2.2.2.2.2.2.2.1) ((show true=true->((AI id fi ok oi ik ii lT mx lD tD kl st ep aD sd tx rD rT bx xs (rQ.drop 64) pid pa d).2.2.2.2.2.2.2.2.2.2.2.2.2.2.1)≠[]from λ_=>hbxn) rfl)
  refine Ae (Aj [] 19 V λV=>AY ?_)
  have hK:E_ id fi ok oi ik ii lT mx lD tD kl st ep aD sd tx rD rT bx xs=true:=(Ab _).trans (ah h1)
  rw[hK]at hk
  cases hk
 ·have hm100:1<=mx.length/\mx.length<=100000:=by omega
  refine HF (E:=E0) mo hZ [] aa (some ⟨39,(Ts id fi ok oi ik ii lT mx lD tD kl st ep aD sd tx rD rT bx xs (rQ.drop 64) pid pa d),[(0,8),(1,9),(2,10),(3,15),(4,14),(5,11),(6,12),(7,13)],[]⟩) (λr hr=>by cases hr;exact Xy id fi ok oi ik ii lT mx lD tD kl st ep aD sd tx rD rT bx xs (rQ.drop 64) pid pa d Ax Ax Ac Ac GG (by first |assumption|(intro j;simp<;>omega)) Ac A_ Ac Ac A_ A_ A_ A_ Ac Ac A_ Ax Ax (Cj h1)) 4 992 (λ_=>[FU (some 64) none none rQ.length rQ.length,nd [.cp 8 0,lb xs,lb (rQ.drop 64)] [some (Pn id fi true 9 10 11 lT 14 lD tD 15),some (Ag ok oi),some (Ag ik ii),some (.sl 86 CM kl),some (.sl 22 A8 mx),some (AL st ep aD sd tx 12),some (Dg rD rT 13),some (.sl 22 Bq bx)]]) (.v (.iface 44 (.int .i64 ((Cx id fi ok oi ik ii lT mx lD tD kl st ep aD sd tx rD rT bx xs:Nat):Int)))) [6,7,8] [0,1,2,3,4,5,6,7] [(6,.cp 5 0),(7,.cp 6 0),(8,.cp 7 0)] [(0,some (A3 id fi true 1 2 3 lT mx lD tD kl)),(1,some (Ag ok oi)),(2,some (Ag ik ii)),(3,some (AL st ep aD sd tx 4)),(4,some (AT rD rT bx)),(5,some (Pr)),(6,some (Pq)),(7,some (Da))] (by kernel_rfl) ⟨⟨by simp only[GE]<;>omega,by simp only[GE]<;>omega,by simp only[GE]<;>omega,by simp,by simp only[bl]<;>omega,by simp only[bl]<;>omega,by simp only[bl]<;>omega⟩,rfl,aa⟩ (by kernel_rfl) (by kernel_rfl) V.st λac gs ws pv V hpv=>AE ?_
  obtain rfl:=hpv.v_of
  exact KB V hD (DT ⟨38,(UW (Cx id fi ok oi ik ii lT mx lD tD kl st ep aD sd tx rD rT bx xs)),[(0,5),(1,6),(2,7)],[]⟩ [(5,some (Pr)),(6,some (Pq)),(7,some (Y1 (Cx id fi ok oi ik ii lT mx lD tD kl st ep aD sd tx rD rT bx xs))),(0,some (A3 id fi true 1 2 3 lT mx lD tD kl)),(1,some (Ag ok oi)),(2,some (Ag ik ii)),(3,some (AL st ep aD sd tx 4)),(4,some (AT rD rT bx)),(5,some (Pr)),(6,some (Pq)),(7,some (Da))] hB V hcv (show FrameMode.panicking _≠ .run from nofun) rfl rfl rfl (V3 (Cx id fi ok oi ik ii lT mx lD tD kl st ep aD sd tx rD rT bx xs)) rfl ⟨rfl,rfl,rfl,aa⟩ rfl (ds:=[.v (.slice none 0 0),vi 0,vi (((Cx id fi ok oi ik ii lT mx lD tD kl st ep aD sd tx rD rT bx xs):Nat):Int)]) (by kernel_rfl) (by show weak _ (.tu (Jg [.v (.slice none 0 0),vi 0,vi ((Cx id fi ok oi ik ii lT mx lD tD kl st ep aD sd tx rD rT bx xs:Nat):Int)]))=(.tu (Jg [.v (.slice none 0 0),vi 0,vi ((Cx id fi ok oi ik ii lT mx lD tD kl st ep aD sd tx rD rT bx xs:Nat):Int)]));first |rfl|(rw[hM];first |(simp only[];rfl)|(simp only[];done)|rfl)) ⟨rfl,rfl,rfl,rfl,rfl,aa⟩)
end
theorem HB {id ai ct:Nat} {d:Ad} (h:id<2^62/\ai<2^62/\ct<2^62) (hd:d.length<=1000):(B7 id ai ct d).length<=1040:=by
 have h1:=Aq (n:=id) Ac
 have h2:=Aq (n:=ai) Ac
 have h3:=Aq (n:=ct) Ac
 have h4:=Aq (n:=d.length) Ac
 unfold B7
 simp only[ab];omega
theorem PH (st ep aD:Nat) (sd tx:Ad) (id ln:Nat) (bx:CB) (r:Ad) (he:ep<=400000000) (hx:tx.length<=10000) (hr:r.length=64) (hat:aD<2^62):(Bl st ep aD sd tx id ln bx r).2.2.2.length<=1040:=by
 have hkl:=(H8 (r.take 32) (r.drop 32) (by rw[av];omega)).1
 have key:∀(i:Nat) (t:Ad),i<=1000000000->t.length<=10000->(B7 i (aD%(Av i t 1000).length) (Av i t 1000).length ((t.drop ((aD%(Av i t 1000).length)*1000)).take 1000)).length<=1040:=by
  intro i t hi ht
  have hs:=Iq i t 1000
  have hm:aD%(Av i t 1000).length<2^62:=by
   by_cases h0:(Av i t 1000).length=0
   ·have ht0:(t.length+1000-1)/1000=0:=by rw[<-hs];exact h0
    have :Av i t 1000=[]:=bm h0
    rw[h0,Nat.mod_zero]
    exact hat
   ·have :=di aD (Nat.pos_of_ne_zero h0);omega
  exact HB ⟨by omega,hm,by omega⟩ (by rw[ap];omega)
 unfold Bl;rw[Ab]
 split
 ·exact bw _
 ·split
  ·split
   ·exact key _ _ Ac (by rw[hkl];decide)
   ·exact key _ _ Ac hx
  ·split
   ·exact key _ _ Ac (by rw[hkl];decide)
   ·exact key _ _ Ac hx
theorem bY (id:Ad) (fi:Bool) (ok:Ad) (oi:Nat) (ik:Ad) (ii lT:Nat) (mx:AZ) (lD tD:Nat) (kl:List KR) (st:Nat) (ep aD:Nat) (sd tx:Ad) (rD rT:Nat) (bx:CB) (k:Ad) (n:Nat) (hm1:1<=mx.length/\mx.length<=100000) (hm2:∀j,(mx.getD j AW).length<=32) (hlow:lT<=100000000000) (hk:k.length=32) (hn:lT<=n/\n<lT+mx.length):AP 51 (Cq [.cp 0 0,lb k,vi (n:Int)] [(0,A3 id fi true 1 2 3 lT mx lD tD kl),(1,Ag ok oi),(2,Ag ik ii),(3,AL st ep aD sd tx 4),(4,AT rD rT bx)] (lb (AX k (mx.getD (n-lT) AW) [109,101,115,115,97,103,101]))):=by
 refine cy 5 func51 rfl ntmps51 λY V=>Aj [] 5 V λV=>Ar ?_
 have hmk:=hm2 (n-lT)
 exact Aw [(10,IM n lT (n-lT)),(11,AH (n-lT) mx.length),(13,Np),(14,P8 (0<[109,101,115,115,97,103,101].length) (by decide)),(15,AS (F9 k (mx.getD (n-lT) AW) [109,101,115,115,97,103,101] Ax Ax Ax))] [] 6 V λV=>EY (BW V)
def hS (fi:Bool) (ok:Ad) (oi lT:Nat) (mx:AZ) (tD:Nat) (st ep aD:Nat) (sd tx:Ad) (rD rT:Nat) (bx:CB) (tT rQ:Ad):Ad×Nat×Nat×Ad×Ad×Ad:=AV ((Sb ok,(oi+1),((Bl st ep aD sd tx rD rT bx (rQ.take 64)).1),(Bl st ep aD sd tx rD rT bx (rQ.take 64)).2.1,(Bl st ep aD sd tx rD rT bx (rQ.take 64)).2.2.1,(((([]++Ah ((((([]++Ah oi)++Ah (A6 fi lT mx.length tD))++Ah (lT+mx.length-1))++Ah ((Bl st ep aD sd tx rD rT bx (rQ.take 64)).2.2.2).length)++((Bl st ep aD sd tx rD rT bx (rQ.take 64)).2.2.2)).length)++((((([]++Ah oi)++Ah (A6 fi lT mx.length tD))++Ah (lT+mx.length-1))++Ah ((Bl st ep aD sd tx rD rT bx (rQ.take 64)).2.2.2).length)++((Bl st ep aD sd tx rD rT bx (rQ.take 64)).2.2.2)))++Ah (Ef (AX (Lw ok) (mx.getD ((A6 fi lT mx.length tD)-lT) AW) [109,101,115,115,97,103,101]) (replicate 12 (0:Int)) ((((([]++Ah oi)++Ah (A6 fi lT mx.length tD))++Ah (lT+mx.length-1))++Ah ((Bl st ep aD sd tx rD rT bx (rQ.take 64)).2.2.2).length)++((Bl st ep aD sd tx rD rT bx (rQ.take 64)).2.2.2)) tT).length)++(Ef (AX (Lw ok) (mx.getD ((A6 fi lT mx.length tD)-lT) AW) [109,101,115,115,97,103,101]) (replicate 12 (0:Int)) ((((([]++Ah oi)++Ah (A6 fi lT mx.length tD))++Ah (lT+mx.length-1))++Ah ((Bl st ep aD sd tx rD rT bx (rQ.take 64)).2.2.2).length)++((Bl st ep aD sd tx rD rT bx (rQ.take 64)).2.2.2)) tT))))
section
variable (id:Ad) (fi:Bool) (ok:Ad) (oi:Nat) (ik:Ad) (ii lT:Nat) (mx:AZ) (lD tD:Nat) (kl:List KR) (st:Nat) (ep aD:Nat) (sd tx:Ad) (rD rT:Nat) (bx:CB) (tT rQ:Ad)
def oS (z_:Ad×Nat×Nat×Ad×Ad×Ad:=hS fi ok oi lT mx tD st ep aD sd tx rD rT bx tT rQ):Con:=⟨[.cp 0 0,lb tT,lb rQ],[(0,A3 id fi true 1 2 3 lT mx lD tD kl),(1,Ag ok oi),(2,Ag ik ii),(3,AL st ep aD sd tx 4),(4,AT rD rT bx)],.tu (Jg [lb (z_.2.2.2.2.2),vi (oi:Int),vi 0]),[(0,A3 id fi true 1 2 3 lT mx lD tD kl),(1,Ag (z_.1) z_.2.1),(2,Ag ik ii),(3,AL st ep z_.2.2.1 (z_.2.2.2.1) (z_.2.2.2.2.1) 4),(4,AT rD rT bx)]⟩
theorem rA (hok:ok.length=32) (hik:ik.length=32) (hoi:oi<=100000000000) (hii:ii<=100000000000) (hm1:1<=mx.length/\mx.length<=100000) (hm2:∀j,(mx.getD j AW).length<=32) (hlow:lT<=100000000000) (hmn:lT<=A6 fi lT mx.length tD) (htx0:tT.length<=500) (hr0:rQ.length=128) (hst:st=1\/st=2\/st=3) (he:ep<=400000000) (ha:aD<=1000000000) (ht:(st=1->tx.length=0\/tx.length=1184)/\(st=3->tx.length=1088)) (htl:tx.length<=10000):AP 24 (oS id fi ok oi ik ii lT mx lD tD kl st ep aD sd tx rD rT bx tT rQ):=by
 refine cy 5 func24 rfl ntmps24 λY V=> ?_
 have hr1:((rQ.length:Nat):Int)=128:=Ac
 have hx1:¬(500:Int)<((tT.length:Nat):Int):=Ac
 refine Aj [] 5 V λV=>Ar (BC (Ay [(1,Ig (B4) [0,1] [.im (Jg [.top,.top,.top,.im (Jg []) 0,.top,.top,.top,.top,.top,.top,.top]) 0]),(5,Ha hr1)] [] 5 V λV=>Ai V (Ay [(2,Do hx1)] [] 5 V λV=>Ai V (FN (Aj [] 5 V λV=>Ar (Aj [] 5 V λV=>AG V (Aj [] 5 V λV=>Aw [(2,fE 64 rQ.length),(3,AA (sF st ep aD sd tx rD rT bx (rQ.take 64) A_ Ax Ac Ac A_) [(0,3),(1,4)] [])] [] 5 V λV=>Ae (Ay [(4,AA (Cn ok oi) [(0,1)] [])] [] 5 V λV=>Ay [(1,Ig (H4 fi lT mx tD GG Ac) [0,1] [.im (Jg [.top,.v (.bool fi),.top,.im (Jg []) 0,.top,.top,vi (lT:Int),.ls false A8 mx,.top,vi (tD:Int),.top]) 0])] [] 5 V λV=>Aj [] 6 V λV=>Ar ?_))))))))
 have hmx:=Jv fi lT mx.length tD Ac
 have hw1:=Aq (n:=oi) Ac
 have hw2:=Aq (n:=A6 fi lT mx.length tD) Ac
 have hw3:=Aq (n:=lT+mx.length-1) Ac
 have hpcl:=PH st ep aD sd tx rD rT bx (rQ.take 64) he htl (by rw[ap];omega) Ac
 have hw4:=Aq (n:=((Bl st ep aD sd tx rD rT bx (rQ.take 64)).2.2.2).length) Ac
 refine Aw [(2,JZ oi),(3,AA (MK oi Ac) [(0,5)] [(1,6)]),(5,JZ (A6 fi lT mx.length tD)),(6,AA (BP ([]++Ah oi) (A6 fi lT mx.length tD) Ax Ac) [(0,5),(1,6)] [(2,7)]),(8,Ig (Ds lT mx GG Ac) [0,1] [.im (Jg [.top,.top,.top,.im (Jg []) 0,.top,.top,vi (lT:Int),.ls false A8 mx,.top,.top,.top]) 0]),(9,JZ (lT+mx.length-1)),(10,AA (BP (([]++Ah oi)++Ah (A6 fi lT mx.length tD)) (lT+mx.length-1) Ax Ac) [(0,5),(1,7)] [(2,8)]),(12,AA (Dq ((([]++Ah oi)++Ah (A6 fi lT mx.length tD))++Ah (lT+mx.length-1)) ((Bl st ep aD sd tx rD rT bx (rQ.take 64)).2.2.2) Ax Ax) [(0,5),(1,8)] [(2,9)]),(13,AA (Gd ((((([]++Ah oi)++Ah (A6 fi lT mx.length tD))++Ah (lT+mx.length-1))++Ah ((Bl st ep aD sd tx rD rT bx (rQ.take 64)).2.2.2).length)++((Bl st ep aD sd tx rD rT bx (rQ.take 64)).2.2.2)) Ax) [(0,5),(1,9)] [])] [] 10 V λV=>CQ ?_
 have hmx:=Jv fi lT mx.length tD Ac
 have hw1:=Aq (n:=oi) Ac
 have hw2:=Aq (n:=A6 fi lT mx.length tD) Ac
 have hw3:=Aq (n:=lT+mx.length-1) Ac
 have hpcl:=PH st ep aD sd tx rD rT bx (rQ.take 64) he htl (by rw[ap];omega) Ac
 have hw4:=Aq (n:=((Bl st ep aD sd tx rD rT bx (rQ.take 64)).2.2.2).length) Ac
 have hhd:((((([]++Ah oi)++Ah (A6 fi lT mx.length tD))++Ah (lT+mx.length-1))++Ah ((Bl st ep aD sd tx rD rT bx (rQ.take 64)).2.2.2).length)++((Bl st ep aD sd tx rD rT bx (rQ.take 64)).2.2.2)).length<=1200:=by simp only[ab,au];omega
 refine Aw [(5,AA (Jf ok oi Ax Ac) [(0,1)] []),(7,AA (bY id fi (Sb ok) (oi+1) ik ii lT mx lD tD kl st ep ((Bl st ep aD sd tx rD rT bx (rQ.take 64)).1) ((Bl st ep aD sd tx rD rT bx (rQ.take 64)).2.1) ((Bl st ep aD sd tx rD rT bx (rQ.take 64)).2.2.1) rD rT bx (Lw ok) (A6 fi lT mx.length tD) GG (by first |assumption|(intro j;simp<;>omega)) Ac Ax Ac) [(0,0),(1,1),(2,2),(3,3),(4,4)] []),(8,R8 .mf [(12:Int)=12,(0:Int)<=12,1*12<=281474976710656,(12:Int)<=9223372036854775807] ⟨rfl,by omega,by omega,by omega,aa⟩),(11,AS (Zm (AX (Lw ok) (mx.getD ((A6 fi lT mx.length tD)-lT) AW) [109,101,115,115,97,103,101]) (replicate 12 (0:Int)) ((((([]++Ah oi)++Ah (A6 fi lT mx.length tD))++Ah (lT+mx.length-1))++Ah ((Bl st ep aD sd tx rD rT bx (rQ.take 64)).2.2.2).length)++((Bl st ep aD sd tx rD rT bx (rQ.take 64)).2.2.2)) tT Ax Ax Ax Ax))] [] 10 V λV=>CQ ?_
 have hmx:=Jv fi lT mx.length tD Ac
 have hw1:=Aq (n:=oi) Ac
 have hw2:=Aq (n:=A6 fi lT mx.length tD) Ac
 have hw3:=Aq (n:=lT+mx.length-1) Ac
 have hpcl:=PH st ep aD sd tx rD rT bx (rQ.take 64) he htl (by rw[ap];omega) Ac
 have hw4:=Aq (n:=((Bl st ep aD sd tx rD rT bx (rQ.take 64)).2.2.2).length) Ac
 have hhd:((((([]++Ah oi)++Ah (A6 fi lT mx.length tD))++Ah (lT+mx.length-1))++Ah ((Bl st ep aD sd tx rD rT bx (rQ.take 64)).2.2.2).length)++((Bl st ep aD sd tx rD rT bx (rQ.take 64)).2.2.2)).length<=1200:=by simp only[ab,au];omega
 have hw5:=Aq (n:=((((([]++Ah oi)++Ah (A6 fi lT mx.length tD))++Ah (lT+mx.length-1))++Ah ((Bl st ep aD sd tx rD rT bx (rQ.take 64)).2.2.2).length)++((Bl st ep aD sd tx rD rT bx (rQ.take 64)).2.2.2)).length) Ac
 have hw5s:=hw5
 simp only[ab,au]at hw5s
 have hsl:(Ef (AX (Lw ok) (mx.getD ((A6 fi lT mx.length tD)-lT) AW) [109,101,115,115,97,103,101]) (replicate 12 (0:Int)) ((((([]++Ah oi)++Ah (A6 fi lT mx.length tD))++Ah (lT+mx.length-1))++Ah ((Bl st ep aD sd tx rD rT bx (rQ.take 64)).2.2.2).length)++((Bl st ep aD sd tx rD rT bx (rQ.take 64)).2.2.2)) tT).length=tT.length+32:=Ka ..
 have hw6:=Aq (n:=(Ef (AX (Lw ok) (mx.getD ((A6 fi lT mx.length tD)-lT) AW) [109,101,115,115,97,103,101]) (replicate 12 (0:Int)) ((((([]++Ah oi)++Ah (A6 fi lT mx.length tD))++Ah (lT+mx.length-1))++Ah ((Bl st ep aD sd tx rD rT bx (rQ.take 64)).2.2.2).length)++((Bl st ep aD sd tx rD rT bx (rQ.take 64)).2.2.2)) tT).length) Ac
 have hw5t:=hw5
 simp at hw5t
 have hw6t:=hw6
 simp at hw6t
 exact Aw [(2,AA (Jj ((((([]++Ah oi)++Ah (A6 fi lT mx.length tD))++Ah (lT+mx.length-1))++Ah ((Bl st ep aD sd tx rD rT bx (rQ.take 64)).2.2.2).length)++((Bl st ep aD sd tx rD rT bx (rQ.take 64)).2.2.2)) Ax) [(0,10)] [(1,11)]),(4,AA (Dq (([]++Ah ((((([]++Ah oi)++Ah (A6 fi lT mx.length tD))++Ah (lT+mx.length-1))++Ah ((Bl st ep aD sd tx rD rT bx (rQ.take 64)).2.2.2).length)++((Bl st ep aD sd tx rD rT bx (rQ.take 64)).2.2.2)).length)++((((([]++Ah oi)++Ah (A6 fi lT mx.length tD))++Ah (lT+mx.length-1))++Ah ((Bl st ep aD sd tx rD rT bx (rQ.take 64)).2.2.2).length)++((Bl st ep aD sd tx rD rT bx (rQ.take 64)).2.2.2))) (Ef (AX (Lw ok) (mx.getD ((A6 fi lT mx.length tD)-lT) AW) [109,101,115,115,97,103,101]) (replicate 12 (0:Int)) ((((([]++Ah oi)++Ah (A6 fi lT mx.length tD))++Ah (lT+mx.length-1))++Ah ((Bl st ep aD sd tx rD rT bx (rQ.take 64)).2.2.2).length)++((Bl st ep aD sd tx rD rT bx (rQ.take 64)).2.2.2)) tT) Ax Ax) [(0,10),(1,11)] [(2,12)]),(5,AA (Gd (((([]++Ah ((((([]++Ah oi)++Ah (A6 fi lT mx.length tD))++Ah (lT+mx.length-1))++Ah ((Bl st ep aD sd tx rD rT bx (rQ.take 64)).2.2.2).length)++((Bl st ep aD sd tx rD rT bx (rQ.take 64)).2.2.2)).length)++((((([]++Ah oi)++Ah (A6 fi lT mx.length tD))++Ah (lT+mx.length-1))++Ah ((Bl st ep aD sd tx rD rT bx (rQ.take 64)).2.2.2).length)++((Bl st ep aD sd tx rD rT bx (rQ.take 64)).2.2.2)))++Ah (Ef (AX (Lw ok) (mx.getD ((A6 fi lT mx.length tD)-lT) AW) [109,101,115,115,97,103,101]) (replicate 12 (0:Int)) ((((([]++Ah oi)++Ah (A6 fi lT mx.length tD))++Ah (lT+mx.length-1))++Ah ((Bl st ep aD sd tx rD rT bx (rQ.take 64)).2.2.2).length)++((Bl st ep aD sd tx rD rT bx (rQ.take 64)).2.2.2)) tT).length)++(Ef (AX (Lw ok) (mx.getD ((A6 fi lT mx.length tD)-lT) AW) [109,101,115,115,97,103,101]) (replicate 12 (0:Int)) ((((([]++Ah oi)++Ah (A6 fi lT mx.length tD))++Ah (lT+mx.length-1))++Ah ((Bl st ep aD sd tx rD rT bx (rQ.take 64)).2.2.2).length)++((Bl st ep aD sd tx rD rT bx (rQ.take 64)).2.2.2)) tT)) Ax) [(0,10),(1,12)] [])] [7] 13 V λV=>EY (BV (Ab _) V)
end
theorem hO (rX:Ad) (hr:rX.length=32):AP 23 ⟨[lb rX,.v (.bool true),.v (.bool true)],[],.tu (Jg [.cp 0 0,vi 0]),[(0,.ob 80 (Jg [lb (CX rX (ByteArray.mk #[112,97,105,114])),.v (.bool true),.v (.bool true),.cp 1 0,.cp 2 0,.cp 3 0,vi 0,.ls true A8 [CX rX (ByteArray.mk #[109,105,120])],vi 0,vi 0,.v (.slice none 0 0)])),(1,En (CX rX (ByteArray.mk #[102,105,114,115,116]))),(2,En (CX rX (ByteArray.mk #[111,116,104,101,114]))),(3,.ob 126 (Jg [vi 1000,vi 1,vi 0,vi 0,.v (.slice none 0 0),.v (.slice none 0 0),.cp 4 0,.v (.slice none 0 0)])),(4,fI ((2*0)+1) 5),(5,.sl 22 Bq (replicate (((1088+1000)-1)/1000) none))]⟩:=by
 refine cy 0 func23 rfl ntmps23 λY V=> ?_
 have hr1:((rX.length:Nat):Int)=32:=Ac
 exact Aj [] 0 V λV=>Ar (Ay [(2,Ha hr1)] [] 0 V λV=>Ai V (Cb (Ay [(1,AS (FK rX (ByteArray.mk #[112,97,105,114]) Ax (by decide))),(5,AS (FK rX (ByteArray.mk #[109,105,120]) Ax (by decide)))] [] 1 V λV=>Ay [(2,AS (FK rX (ByteArray.mk #[102,105,114,115,116]) Ax (by decide))),(3,AA (Lp (CX rX (ByteArray.mk #[102,105,114,115,116])) Ax) [] [(0,1)])] [] 2 V λV=>Ay [(2,AS (FK rX (ByteArray.mk #[111,116,104,101,114]) Ax (by decide))),(3,AA (Lp (CX rX (ByteArray.mk #[111,116,104,101,114])) Ax) [] [(0,2)])] [] 3 V λV=>Ar (Aj [] 3 V λV=>Ai V (DG (Aj [] 3 V λV=>AG V (Aw [(2,AA (Ju 1000 Ac) [] [(0,3),(1,4),(2,5)])] [] 6 V λV=>Ae (Aj [] 6 V λV=>AY (BW V)))))))))
theorem g8 (rX:Ad) (hr:rX.length=32):AP 23 ⟨[lb rX,.v (.bool false),.v (.bool true)],[],.tu (Jg [.cp 0 0,vi 0]),[(0,.ob 80 (Jg [lb (CX rX (ByteArray.mk #[112,97,105,114])),.v (.bool false),.v (.bool true),.cp 1 0,.cp 2 0,.cp 3 0,vi 0,.ls true A8 [CX rX (ByteArray.mk #[109,105,120])],vi 0,vi 0,.v (.slice none 0 0)])),(1,En (CX rX (ByteArray.mk #[111,116,104,101,114]))),(2,En (CX rX (ByteArray.mk #[102,105,114,115,116]))),(3,.ob 126 (Jg [vi 1000,vi 2,vi 0,vi 0,.v (.slice none 0 0),.v (.slice none 0 0),.cp 4 0,.v (.slice none 0 0)])),(4,YZ (2*0) 5),(5,.sl 22 Bq (replicate (((1184+1000)-1)/1000) none))]⟩:=by
 refine cy 0 func23 rfl ntmps23 λY V=> ?_
 have hr1:((rX.length:Nat):Int)=32:=Ac
 refine Aj [] 0 V λV=>Ar (Ay [(2,Ha hr1)] [] 0 V λV=>Ai V (Cb (Ay [(1,AS (FK rX (ByteArray.mk #[112,97,105,114]) Ax (by decide))),(5,AS (FK rX (ByteArray.mk #[109,105,120]) Ax (by decide)))] [] 1 V λV=>Ay [(2,AS (FK rX (ByteArray.mk #[102,105,114,115,116]) Ax (by decide))),(3,AA (Lp (CX rX (ByteArray.mk #[102,105,114,115,116])) Ax) [] [(0,1)])] [] 2 V λV=>Ay [(2,AS (FK rX (ByteArray.mk #[111,116,104,101,114]) Ax (by decide))),(3,AA (Lp (CX rX (ByteArray.mk #[111,116,104,101,114])) Ax) [] [(0,2)])] [] 3 V λV=>Ar (Aj [] 3 V λV=>AG V (Dl [] 3 V λV=>CQ (Aj [] 3 V λV=>AG V (Aw [(2,AA (sP 1000 Ac) [] [(0,3),(1,4),(2,5)])] [] 6 V λV=>Ae (Aj [] 6 V λV=>AY ?_))))))))
 obtain⟨gs,V⟩:=V.rx [(0,0),(1,2),(2,1),(3,3),(4,4),(5,5)] [6,7] [0,1,2,3,4,5] 6 Y
 exact BW V
def MD (n:Nat):Ad:=Ah n++(Ah 0++(Ah 0++Ah 0))
section
variable (mx:AZ) (key:Ad)
def sQ:Ad:=AX (Lw key) (mx.getD 0 AW) [109,101,115,115,97,103,101]
def N6 (n:Nat) (tT:Ad):Ad:=Ef (sQ mx key) (replicate 12 (0:Int)) (MD n) tT
def frm (n:Nat) (tT:Ad):Ad:=Ah (MD n).length++(MD n++(Ah (N6 mx key n tT).length++N6 mx key n tT))
end
@[simp] theorem Jl (mx:AZ) (key:Ad):(sQ mx key).length=32:=Fq ..
@[simp] theorem PV (mx:AZ) (key:Ad) (n:Nat) (tT:Ad):(N6 mx key n tT).length=tT.length+32:=Ka ..
theorem mI {n:Nat} (h:n<2^31):(MD n).length<=40:=by
 have h1:=Aq (n:=n) Ac
 have h2:=Aq (n:=0) (by decide)
 unfold MD
 rw[ab,ab,ab];omega
theorem NB (mx:AZ) (key:Ad) {n:Nat} {tT:Ad} (hn:n<2^31) (ht:tT.length<=500):0<(frm mx key n tT).length/\(frm mx key n tT).length<=4000:=by
 have h1:=mI hn
 have h2:=Aq (n:=(MD n).length) Ac
 have h3:=Aq (n:=(N6 mx key n tT).length) (by rw[PV];omega)
 unfold frm
 rw[ab,ab,ab,PV]
 rw[PV]at h3
 omega
theorem zP (fi:Bool):A6 fi 0 1 0=0:=by cases fi<;>rfl
theorem iC (id:Ad) (fi:Bool) (ok:Ad) (oi:Nat) (ik:Ad) (ii:Nat) {mx:AZ} (lD:Nat) (kl:List KR) (tT rQ:Ad) (hm:mx.length=1):XG id fi ok oi ik ii 0 mx lD 0 kl tT rQ=(Sb ok,oi+1,frm mx ok oi tT):=by
 unfold XG;rw[Ab]
 simp only[hm,zP,dw,ez,br,Nat.sub_self,au]
 unfold frm N6 sQ MD
 simp only[bu]
theorem S5 {xs:Ad} {m n:Nat} {r:Ad} (h:JV xs=some ((n:Int),r)) (h1:n<=m) (h2:n<=r.length):BA xs m=true:=by
 have hB:=Kn h
 have hV:=F2 h
 have hs:D9 xs m=true:=by unfold D9;rw[Ab];rw[ah hB,hV,aj (by show¬(m:Int)<(n:Int);omega)]
 unfold BA;rw[Ab]
 rw[ah hs,hV]
 have hf:CJ r n=true:=by unfold CJ;rw[Ab];rw[aj Ac]
 show(if CJ r (n:Int).toNat=true then true else false)=true
 rw[bc,ah hf]
theorem SC {xs:Ad} {n:Nat} {r:Ad} (h:JV xs=some ((n:Int),r)) (h1:n<=2147483648):DO xs=true:=by
 unfold DO;rw[Ab]
 rw[ah (Kn h),F2 h,aj (by show¬(2147483648:Int)<(n:Int);omega)]
theorem M6:Er []=true:=by unfold Er;rw[Ab];rfl
theorem ZN:JV (Ah 0)=some (((0:Nat):Int),[]):=by
 have :=Gm (n:=0) (by decide) []
 rwa [ez]at this
theorem tO {n:Nat} (hn:n<=2147483648) (ba bb:Ad):HU (MD n) ba bb=true/\FZ (MD n) ba bb=(n,0,0,[]):=by
 have m1:=Gm (n:=n) Ac (Ah 0++(Ah 0++Ah 0))
 have m2:=Gm (n:=0) (by decide) (Ah 0++Ah 0)
 have m3:=Gm (n:=0) (by decide) (Ah 0)
 have v1:Af (MD n)=_:=F2 m1
 have v2:=F2 m2
 have v3:=F2 m3
 have v4:=F2 ZN
 have hp:G2 (MD n) ba bb=true:=by
  unfold G2;rw[Ab]
  rw[v1];simp only[]
  rw[v2];simp only[]
  rw[v3];simp only[]
  have hs0:DO (MD n)=true:=SC m1 hn
  rw[ah hs0,ah (SC m2 (by decide)),ah (SC m3 (by decide)),ah (S5 ZN (by decide) (by decide))]
 have hm:Di (MD n) ba bb=([],n,0,0,[]):=by
  unfold Di;rw[Ab]
  rw[v1];simp only[]
  rw[v2];simp only[]
  rw[v3];simp only[]
  rw[v4];simp
 constructor
 ·unfold HU;rw[Ab]
  rw[ah hp,hm,ah M6]
 ·unfold FZ;rw[Ab]
  rw[hm]
theorem Aab (mx:AZ) (key:Ad) {n:Nat} {tT:Ad} (hn:n<2^31) (ht:tT.length<=500):B_ (frm mx key n tT)=true/\Aa (frm mx key n tT)=(MD n,n,0,0,[],N6 mx key n tT):=by
 have hl:=mI hn
 have hb:(N6 mx key n tT).length=tT.length+32:=PV ..
 have m1:=Gm (n:=(MD n).length) Ac (MD n++(Ah (N6 mx key n tT).length++N6 mx key n tT))
 have m2:=Gm (n:=(N6 mx key n tT).length) Ac (N6 mx key n tT)
 have v1:Af (frm mx key n tT)=_:=F2 m1
 have v2:=F2 m2
 have hh:=tO (n:=n) Ac (MD n) (N6 mx key n tT)
 have t1:List.take (MD n).length (MD n++(Ah (N6 mx key n tT).length++N6 mx key n tT))=MD n:=take_left
 have t2:List.drop (MD n).length (MD n++(Ah (N6 mx key n tT).length++N6 mx key n tT))=Ah (N6 mx key n tT).length++N6 mx key n tT:=drop_left
 have r1:BA (frm mx key n tT) 4000=true:=S5 m1 Ac (by rw[ab];omega)
 have r2:BA (Ah (N6 mx key n tT).length++N6 mx key n tT) 4000=true:=S5 m2 Ac Ac
 have hp:I5 (frm mx key n tT)=true:=by
  unfold I5;rw[Ab]
  simp only[v1,bc,t2,r1,r2,if_true]
 have hr:I4 (frm mx key n tT)=true:=by
  unfold I4;rw[Ab]
  simp only[hp,v1,bc,t2,v2,List.drop_length,M6,if_true]
 have e1:((([]++Ah (MD n).length)++MD n)++Ah (N6 mx key n tT).length)++N6 mx key n tT=frm mx key n tT:=by
  unfold frm
  simp only[dw,bu]
 constructor
 ·unfold B_;rw[Ab]
  simp only[hr,v1,bc,t1,t2,v2,eh,hh.1,e1,if_true]
 ·unfold Aa;rw[Ab]
  simp only[v1,bc,t1,t2,v2,eh,hh.2]
theorem S8 (key num data:Ad) {tT:Ad} (h:By tT):BS key num data (Ef key num data tT)=(tT,0):=by
 have hb:∀(k:Ad) (u1:Nat->Int) (r1:Ad) (n1:Int) (u2:Nat->Int) (r2:Ad) (n2:Int),NT k u1 r1 n1 u2 r2 n2 num data (JL k u1 r1 n1 u2 r2 n2 num data tT)=(tT,0):=by
  intro k u1 r1 n1 u2 r2 n2
  have hl:(JL k u1 r1 n1 u2 r2 n2 num data tT).length=tT.length+32:=by
   unfold JL;rw[Ab];rw[ab,GP,Qr]
  unfold NT;rw[Ab]
  rw[hl,aj Ac,show(((tT.length+32:Nat):Int)-32).toNat=(E5 k num tT).length by rw[GP];omega];unfold JL;rw[Ab]
  rw[take_left,drop_left,ah rfl,d3 k num h]
 unfold BS;rw[Ab];unfold Ef;rw[Ab]
 rw[hb]
theorem HX (A:Ad) (m:Nat):∀n,Am (Am A m) n=Am A (m+n)
 |0=>rfl
 |n+1=>by
  show Sb (Am (Am A m) n)=Sb (Am A (m+n))
  rw[HX A m n]
section
variable (mx:AZ) (A:Ad)
def cY (j:Nat):KR:=((j:Int),(0:Int),[sQ mx (Am A j)])
def BO (js:List Nat):List KR:=js.map (cY mx A)
end
structure RI (ii:Nat) (js:List Nat):Prop where
 len:js.length<=60
 nd:js.Nodup
 lt:∀j,j∈js->j<ii
def EN (ii:Nat) (js:List Nat) (i:Nat):Bool:=if i<ii then decide (i∈js)else decide (i<=ii+40)
def LF (ii i:Nat):Nat:=if i<ii then 5 else 6
def nI (ii i:Nat):Nat:=if i<ii then ii else i+1
def nJ (ii:Nat) (js:List Nat) (i:Nat):List Nat:=if i<ii then js.filter (· !=i)else(js++List.range' ii (i-ii)).drop ((js++List.range' ii (i-ii)).length-60)
section
variable (mx:AZ) (A:Ad)
theorem H7 {js:List Nat} {p:Nat} (h:p<js.length):(BO mx A js).getD p kz=cY mx A (js[p]):=by
 unfold BO
 rw[al,eu,am h];rfl
theorem Iy (js:List Nat):(BO mx A js).length=js.length:=cg ..
theorem T2 {js:List Nat} {i:Nat} (h:i∉js):CV (BO mx A js) (i:Int)= -1:=by
 refine XR λj hj e=> ?_
 rw[Iy]at hj
 rw[H7 mx A hj]at e
 have e:((js[j]:Nat):Int)=(i:Int):=e
 have :js[j]=i:=by omega
 exact h (this▸fv hj)
theorem XS {js:List Nat} {i:Nat} (hn:js.Nodup) (h:i∈js):∃p,p<js.length/\CV (BO mx A js) (i:Int)=((p:Nat):Int)/\(BO mx A js).getD p kz=cY mx A i/\(BO mx A js).take p++(BO mx A js).drop (p+1)=BO mx A (js.filter (· !=i)):=by
 have hp:=List.idxOf_lt_length_iff.2 h
 have he:js[js.idxOf i]=i:=List.getElem_idxOf hp
 refine⟨js.idxOf i,hp,XT (by rw[Iy];exact hp) (λj hj e=> ?_) ?_,?_,?_⟩
 ·have hj2:j<js.length:=by omega
  rw[H7 mx A hj2]at e
  have e:((js[j]:Nat):Int)=(i:Int):=e
  have e:js[j]=i:=by omega
  have :=List.not_of_lt_findIdx (p:=(· ==i)) (xs:=js) hj
  simp [e]at this
 ·rw[H7 mx A hp,he];rfl
 ·rw[H7 mx A hp,he]
 ·rw[<-hn.erase_eq_filter i]
  unfold BO
  rw[List.erase_eq_eraseIdx_of_idxOf rfl,List.eraseIdx_eq_take_drop_succ,cb,List.map_take,map_drop]
theorem X1 {ii:Nat} {js:List Nat} (h:RI ii js) (hi:ii<=1000000000000):KOk (BO mx A js):=by
 refine⟨by rw[Iy];have :=h.len;omega,λj hj=> ?_⟩
 rw[Iy]at hj
 rw[H7 mx A hj]
 have :=h.lt _ (fv hj)
 refine⟨⟨?_,?_⟩,⟨?_,?_⟩,?_,?_⟩
 ·show(0:Int)<=((js[j]:Nat):Int);omega
 ·show((js[j]:Nat):Int)<=1000000000000;omega
 ·exact Int.le_refl 0
 ·show(0:Int)<=1000000000000;decide
 ·show(1:Nat)<=100000;decide
 ·intro k hk
  have hk:k=sQ mx (Am A js[j]):=bn.1 hk
  rw[hk];exact Jl ..
end
section
variable (id:Ad) (fi:Bool) (ok:Ad) (oi:Nat) {mx:AZ} {A:Ad} {ii:Nat} {js:List Nat} {i:Nat} (hb hp hx:Ad)
theorem zC (hm:mx.length=1) (hR:RI ii js):BZ id fi ok oi (Am A ii) ii 0 mx 0 0 (BO mx A js) hb i 0 0 hp hx=EN ii js i:=by
 unfold BZ;rw[Ab];unfold EN
 by_cases h:i<ii
 ·rw[ah Ac,ah h]
  by_cases hj:i∈js
  ·obtain⟨p,h1,h2,h3,_⟩:=XS mx A hR.nd hj
   have h3':(BO mx A js).getD p Bi=cY mx A i:=h3
   simp only[h2,bc,h3']
   rw[aj Ac,aj (by show¬(((0:Nat):Int)<(0:Int));omega),aj (by show¬(((1:Nat):Int)<=((0:Nat):Int)-0);omega),decide_eq_true hj]
  ·rw[T2 mx A hj,ah (by decide),decide_eq_false hj]
 ·rw[aj Ac,aj h]
  by_cases h2:i<=ii+40
  ·rw[ah (show Vi ii i=true from decide_eq_true ⟨by omega,h2⟩),aj Ac,aj Ac,decide_eq_true h2]
  ·have :Vi ii i=false:=decide_eq_false λhh=>h2 hh.2
   rw[this,decide_eq_false h2];rfl
theorem zD (hf:EN ii js i=false):Bw id fi ok oi (Am A ii) ii 0 mx 0 0 (BO mx A js) hb i 0 0 hp hx=LF ii i:=by
 unfold EN at hf
 unfold Bw;rw[Ab];unfold LF
 by_cases h:i<ii
 ·rw[ah h]at hf⊢
  rw[ah Ac,T2 mx A (of_decide_eq_false hf),ah (by decide)]
 ·rw[aj h]at hf⊢
  have h2:=of_decide_eq_false hf
  have :Vi ii i=false:=decide_eq_false λhh=>h2 hh.2
  rw[aj Ac,this]
  exact Yw (key:=Am A ii) Ac
theorem zB (hR:RI ii js) (hf:EN ii js i=true):BU id fi ok oi (Am A ii) ii 0 mx 0 0 (BO mx A js) hb i 0 0 hp hx=sQ mx (Am A i):=by
 unfold EN at hf
 unfold BU;rw[Ab]
 by_cases h:i<ii
 ·rw[ah h]at hf
  obtain⟨p,h1,h2,h3,_⟩:=XS mx A hR.nd (cj hf)
  have h3':(BO mx A js).getD p Bi=cY mx A i:=h3
  rw[ah Ac]
  simp only[h2,bc,h3']
  rfl
 ·rw[aj Ac,HX,show ii+(i-ii)=i by omega];rfl
theorem AaD (h:ii<=i) (x:Nat) (hx1:x<i-ii) (o6:List KR):(DY id fi ok oi (Am A ii) ii 0 mx 0 0 (BO mx A js) hb i 0 0 hp hx x o6 (D3 λj=>Fs id fi ok oi (Am A ii) ii 0 mx 0 0 (BO mx A js) hb i 0 0 hp hx x o6 (DY id fi ok oi (Am A ii) ii 0 mx 0 0 (BO mx A js) hb i 0 0 hp hx x o6 j))).2=[sQ mx (Am A (ii+x))]:=by
 have hl:1=D3 λj=>Fs id fi ok oi (Am A ii) ii 0 mx 0 0 (BO mx A js) hb i 0 0 hp hx x o6 (DY id fi ok oi (Am A ii) ii 0 mx 0 0 (BO mx A js) hb i 0 0 hp hx x o6 j):=by
  refine CE (P:=λj=>Fs id fi ok oi (Am A ii) ii 0 mx 0 0 (BO mx A js) hb i 0 0 hp hx x o6 (DY id fi ok oi (Am A ii) ii 0 mx 0 0 (BO mx A js) hb i 0 0 hp hx x o6 j)) ?_ ?_
  ·show¬(((0+1:Nat):Int)<=((0:Nat):Int));omega
  ·intro j hj
   have :j=0:=by omega
   subst this
   show((0:Nat):Int)<=((0:Nat):Int);omega
 rw[<-hl]
 show[AX ((G1 (Am A ii) (i-ii)).getD x AW) (mx.getD (0-0) AW) [109,101,115,115,97,103,101]]=_
 rw[TK _ hx1,HX];rfl
theorem oJ (h:ii<=i):∀x,x<=i-ii->Cr id fi ok oi (Am A ii) ii 0 mx 0 0 (BO mx A js) hb i 0 0 hp hx x=BO mx A (js++List.range' ii x)
 |0,_=>by
  show BO mx A js=_
  rw[List.range'_zero,ez]
 |x+1,hx1=>by
  show Cr id fi ok oi (Am A ii) ii 0 mx 0 0 (BO mx A js) hb i 0 0 hp hx x++[(((ii+x:Nat):Int),((0:Nat):Int),_)]=_
  rw[AaD id fi ok oi hb hp hx h x Ac,oJ h x Ac,range'_concat,<-bu]
  show _=(((js++List.range' ii x)++[ii+1*x]).map (cY mx A))
  rw[cb,fu];rfl
theorem uQ (hR:RI ii js) (hf:EN ii js i=true):Ic id fi ok oi (Am A ii) ii 0 mx 0 0 (BO mx A js) hb i 0 0 hp hx=(0,BO mx A (nJ ii js i),Am A (nI ii i),nI ii i):=by
 unfold EN at hf
 unfold Ic;rw[Ab];unfold nJ nI
 by_cases h:i<ii
 ·rw[ah h]at hf
  obtain⟨p,h1,h2,h3,h4⟩:=XS mx A hR.nd (cj hf)
  rw[ah Ac,ah h,ah h]
  simp only[h2,bc,h4]
 ·rw[aj Ac,aj h,aj h,Hm,oJ id fi ok oi hb hp hx Ac _ (an _),HX,show ii+(i-ii)=i by omega]
  rw[Iy,show(max (((js++List.range' ii (i-ii)).length:Nat)-60:Int) 0).toNat=(js++List.range' ii (i-ii)).length-60 by omega]
  unfold BO
  rw[map_drop];rfl
end
section
variable (id:Ad) (fi:Bool) (ok:Ad) (oi:Nat) {mx:AZ} {A:Ad} {ii:Nat} {js:List Nat} {i:Nat} {tT:Ad} (rQ:Ad)
theorem Vy (hm : mx.length = 1) (hR : RI ii js) (hi : i < 2 ^ 31) (ht : tT.length <= 500) (hy : By tT) :
  HN id fi ok oi (Am A ii) ii 0 mx 0 0 (BO mx A js) (frm mx (Am A i) i tT) rQ=EN ii js i
  /\(EN ii js i=false->Dm id fi ok oi (Am A ii) ii 0 mx 0 0 (BO mx A js) (frm mx (Am A i) i tT) rQ=LF ii i)
  /\(EN ii js i=true->B5 id fi ok oi (Am A ii) ii 0 mx 0 0 (BO mx A js) (frm mx (Am A i) i tT) rQ=(0,0,BO mx A (nJ ii js i),Am A (nI ii i),nI ii i,tT,i)):=by
 obtain⟨h1,h2⟩:=Aab mx (Am A i) hi ht
 have hk:=zC id fi ok oi (A:=A) (i:=i) (MD i) [] (N6 mx (Am A i) i tT) hm hR
 have hs:EN ii js i=true->BS (BU id fi ok oi (Am A ii) ii 0 mx 0 0 (BO mx A js) (MD i) i 0 0 [] (N6 mx (Am A i) i tT)) (replicate 12 (0:Int)) (MD i) (N6 mx (Am A i) i tT)=(tT,0):=λhf=>by
  rw[zB id fi ok oi (MD i) [] (N6 mx (Am A i) i tT) hR hf]
  exact S8 _ _ _ hy
 refine⟨?_,λhf=> ?_,λhf=> ?_⟩
 ·unfold HN;rw[Ab]
  simp only[h1,h2,hk,if_true]
  cases hf:EN ii js i with
  |false=>rfl
  |true=>simp only[hs hf,if_true];rfl
 ·unfold Dm;rw[Ab]
  simp only[h1,h2,hk,hf,if_true]
  exact zD id fi ok oi (MD i) [] (N6 mx (Am A i) i tT) hf
 ·unfold B5;rw[Ab]
  simp only[h2,hs hf,uQ id fi ok oi (MD i) [] (N6 mx (Am A i) i tT) hR hf]
  rfl
theorem Zz (hm : mx.length = 1) (hR : RI ii js) (hi : i < 2 ^ 31) (ht : tT.length <= 500) (hy : By tT) :
  HG id fi ok oi (Am A ii) ii 0 mx 0 0 (BO mx A js) (frm mx (Am A i) i tT) rQ=EN ii js i
  /\(EN ii js i=true->DK id fi ok oi (Am A ii) ii 0 mx 0 0 (BO mx A js) (frm mx (Am A i) i tT) rQ=(Am A (nI ii i),nI ii i,0,0,BO mx A (nJ ii js i),tT,i)):=by
 obtain⟨h1,_,h3⟩:=Vy id fi ok oi (A:=A) (rQ.drop 64) hm hR hi ht hy
 constructor
 ·unfold HG;rw[Ab]
  rw[h1];cases EN ii js i<;>rfl
 ·intro hf
  unfold DK;rw[Ab]
  rw[h3 hf]
end
theorem kG (ii i:Nat):nI ii i<=max ii (i+1):=by unfold nI;split<;>omega
theorem RI.next {ii:Nat} {js:List Nat} {i:Nat} (h:RI ii js):RI (nI ii i) (nJ ii js i):=by
 unfold nI nJ
 by_cases hi:i<ii
 ·rw[ah hi,ah hi]
  exact⟨ca (List.length_filter_le ..) h.len,h.nd.filter _,λj hj=>h.lt j (gk.1 hj).1⟩
 ·rw[aj hi,aj hi]
  refine⟨by rw[av];omega,List.Pairwise.drop ?_,λj hj=> ?_⟩
  ·refine gv.2 ⟨h.nd,List.nodup_range' ..,λa ha b hb e=> ?_⟩
   have :=h.lt a ha
   rw[List.mem_range'_1]at hb
   omega
  ·rcases bo.1 (cx hj)with h1|h1
   ·have :=h.lt j h1;omega
   ·rw[List.mem_range'_1]at h1;omega
theorem RI.nil:RI 0 []:=⟨by decide,List.nodup_nil,λ_ h=>by cases h⟩
def ints (l:List Nat):Ad:=l.map λj=>((j:Nat):Int)
theorem s9 (mx:AZ) (A:Ad) (js:List Nat):O5 (BO mx A js)=ints js:=by
 unfold O5 BO ints
 rw[ig];rfl
theorem b9 (id:Ad) (fi:Bool) (ok:Ad) (oi:Nat) (ik:Ad) (ii lT:Nat) (mx:AZ) (lD tD:Nat) (kl:List KR):MZ id fi ok oi ik ii lT mx lD tD kl=O5 kl:=by
 have key:∀n,n<=kl.length->J9 kl n=O5 (kl.take n):=by
  intro n
  induction n with
  |zero=>intro _;rfl
  |succ n ih=>
   intro hn
   show J9 kl n++[(kl.getD n kz).1]=_
   rw[ih Ac,cw Ac,al,am Ac]
   unfold O5
   rw[cb];rfl
 unfold MZ;rw[Ab]
 rw[key _ (an _),eh]
theorem dD {js:List Nat} {n:Nat} (h:n<js.length):(ints js).getD n 0=((js[n]:Nat):Int):=by
 unfold ints
 rw[al,eu,am h];rfl
theorem vZ (a ii:Nat) (js:List Nat) (i:Nat):∀n,n<=js.length->Jh a ii (ints js) i n=(decide (i∈js.take n),ints ((js.take n).filter (· !=i)))
 |0,_=>by simp [ints];rfl
 |n+1,h=>by
  have hn:n<js.length:=by omega
  show IN (ints js) i n (Jh a ii (ints js) i n)=_
  rw[vZ a ii js i n Ac,cw hn,List.filter_append]
  unfold IN
  simp only[dD hn]
  by_cases e:js[n]=i
  ·rw[ah Ac]
   simp [e]
  ·rw[aj Ac]
   have e2:¬i=js[n]:=λh=>e h.symm
   simp [e,e2,ints,-List.take_append_getElem]
theorem Za (a ii:Nat) (js:List Nat) (i:Nat):∀k,Cw a ii (ints js) i k=(ii+k,ints (js++List.range' ii k))
 |0=>by
  show(ii,[]++ints js)=_
  simp
 |k+1=>by
  show KY k (Cw a ii (ints js) i k)=_
  rw[Za a ii js i k,range'_concat]
  unfold KY
  simp [ints,gp]
theorem Y_ (a:Nat) {ii:Nat} {js:List Nat} (i:Nat) (hR:RI ii js):Xs a ii (ints js) i=if EN ii js i=true then(nI ii i,ints (nJ ii js i),0)else(ii,ints js,LF ii i):=by
 have hl:(ints js).length=js.length:=cg ..
 unfold Xs;rw[Ab];unfold EN nI nJ LF
 by_cases h:i<ii
 ·rw[ah Ac,hl,vZ a ii js i _ (an _),eh]
  simp only[ah h]
  by_cases hj:i∈js<;>simp [hj]
 ·rw[aj Ac]
  simp only[aj h]
  by_cases h2:i<=ii+40
  ·have hlst : i - ii = D3 λj => Dp i (Cw a ii (ints js) i j) := by
    refine CE (P:=λj=>Dp i (Cw a ii (ints js) i j)) ?_ ?_
    ·show¬Dp i (Cw a ii (ints js) i (i-ii))
     rw[Za]
     show¬(((ii+(i-ii):Nat):Int)<(i:Int));omega
    ·intro j hj
     show Dp i (Cw a ii (ints js) i j)
     rw[Za]
     show(((ii+j:Nat):Int)<(i:Int));omega
   rw[aj Ac,<-hlst,Za]
   have hli:(ints (js++List.range' ii (i-ii))).length=(js++List.range' ii (i-ii)).length:=cg ..
   simp only[hli,decide_eq_true h2,if_true]
   have hd:ints ((js++List.range' ii (i-ii)).drop ((js++List.range' ii (i-ii)).length-60))=(ints (js++List.range' ii (i-ii))).drop ((js++List.range' ii (i-ii)).length-60):=by unfold ints;rw[map_drop]
   by_cases h6:(60:Int)<(((js++List.range' ii (i-ii)).length:Nat):Int)
   ·rw[ah h6,hd]
   ·rw[aj h6,hd,show(js++List.range' ii (i-ii)).length-60=0 by omega,gx]
  ·rw[ah Ac,decide_eq_false h2];rfl
structure EndH where
 ok:Ad
 oi:Nat
 ik:Ad
 ii:Nat
 lT:Nat
 mx:AZ
 lD:Nat
 tD:Nat
 kl:List KR
 st:Nat
 ep:Nat
 aD:Nat
 sd:Ad
 tx:Ad
 rD:Nat
 rT:Nat
 bx:CB
def R7 (n m l:Nat) (pc:Ad):Ad:=((((([]++Ah n)++Ah m)++Ah l)++Ah pc.length)++pc)
def WG (ok mix:Ad) (n m l:Nat) (pc tT:Ad):Ad:=Ef (AX (Lw ok) mix [109,101,115,115,97,103,101]) (replicate 12 (0:Int)) (R7 n m l pc) tT
def Uy (ok mix:Ad) (n m l:Nat) (pc tT:Ad):Ad:=(([]++Ah (R7 n m l pc).length)++R7 n m l pc)++Ah (WG ok mix n m l pc tT).length++WG ok mix n m l pc tT
def EndH.num (e:EndH) (fi:Bool):Nat:=A6 fi e.lT e.mx.length e.tD
def EndH.pc (e:EndH) (rQ:Ad):Nat×Ad×Ad×Ad:=Bl e.st e.ep e.aD e.sd e.tx e.rD e.rT e.bx (rQ.take 64)
structure SndOk (fi:Bool) (e:EndH):Prop where
 ok:e.ok.length=32
 ik:e.ik.length=32
 oi:e.oi<=1000000
 ii:e.ii<=1000000
 m1:1<=e.mx.length/\e.mx.length<=80000
 m2:∀j,(e.mx.getD j AW).length<=32
 lT:e.lT<=10000000
 mn:e.lT<=A6 fi e.lT e.mx.length e.tD
 st:e.st=1\/e.st=2\/e.st=3
 ep:e.ep<=100000000
 aD:e.aD<=100000000
 tx:(e.st=1->e.tx.length=0\/e.tx.length=1184)/\(e.st=3->e.tx.length=1088)
 txl:e.tx.length<=10000
theorem j9 (n:Nat):0<(Ah n).length:=by
 rw[Ah]
 split<;>simp
theorem EndH.pc_le {fi:Bool} {e:EndH} (h:SndOk fi e) {rQ:Ad} (hr:rQ.length=128):(e.pc rQ).2.2.2.length<=1040:=
 PH e.st e.ep e.aD e.sd e.tx e.rD e.rT e.bx (rQ.take 64) (by have :=h.ep;omega) h.txl (by rw[ap];omega) (by have :=h.aD;omega)
theorem NC {ok mix:Ad} {n m l:Nat} {pc tT:Ad} (h:n<2^62/\m<2^62/\l<2^62) (hp:pc.length<=1040) (ht:tT.length<=500):0<(Uy ok mix n m l pc tT).length/\(Uy ok mix n m l pc tT).length<=4000:=by
 unfold Uy WG R7
 have w1:=Aq (n:=n) Ac
 have w2:=Aq (n:=m) Ac
 have w3:=Aq (n:=l) Ac
 have w4:=Aq (n:=pc.length) Ac
 generalize hH:(((([]++Ah n)++Ah m)++Ah l)++Ah pc.length)++pc=H
 have hl:H.length<=1200:=by rw[<-hH];simp only[ab,au];omega
 have w5:=Aq (n:=H.length) Ac
 have w6:=Aq (n:=tT.length+32) Ac
 simp only[ab,au,Ka]
 omega
theorem EndH.num_le {fi:Bool} {e:EndH} (h:SndOk fi e):e.num fi<=20000000:=by
 have :=Jv fi e.lT e.mx.length e.tD h.m1.1
 have h2:=h.m1
 have h3:=h.lT
 unfold EndH.num
 omega
structure PS where
 ida:Ad
 idb:Ad
 a:EndH
 b:EndH
 na:Nat
 ia:Nat
 ja:List Nat
 nb:Nat
 ib:Nat
 jb:List Nat
 fl:yW
end
end Go.Sx.Tryz
