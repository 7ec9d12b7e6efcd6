/- Texts that belong together: Tf, W1, W2, W3, W4, W5, W6, H6. General lemmas and walks; no conditions. -/
import Derived.Test.YtoefhjabaanokaaDoorB2
import Derived.Test.YtoefhjabaanokaaDoorProg
import Derived.KernelRfl
set_option linter.unusedSimpArgs false
set_option linter.unusedVariables false
set_option linter.unnecessarySimpa false
namespace Go.Mi.Term
open Go.Mi Go.Proofs
theorem u26:type_of%Tryd.underlying26:=Tryd.underlying26
theorem u24:type_of%Tryd.underlying24:=Tryd.underlying24
theorem eD:type_of%Tryd.underlying132:=Tryd.underlying132
theorem u9:type_of%Tryd.underlying9:=Tryd.underlying9
theorem dO:type_of%Tryd.underlying110:=Tryd.underlying110
theorem u83:type_of%Tryd.underlying83:=Tryd.underlying83
theorem cP:type_of%Tryd.underlying112:=Tryd.underlying112
theorem u4:type_of%Tryd.underlying4:=Tryd.underlying4
theorem u31:type_of%Tryd.underlying31:=Tryd.underlying31
theorem iM:type_of%Tryd.underlying114:=Tryd.underlying114
theorem lH:type_of%Tryd.underlying118:=Tryd.underlying118
theorem u36:type_of%Tryd.underlying36:=Tryd.underlying36
theorem u90:type_of%Tryd.underlying90:=Tryd.underlying90
theorem u53:type_of%Tryd.underlying53:=Tryd.underlying53
theorem u56:type_of%Tryd.underlying56:=Tryd.underlying56
theorem u99:type_of%Tryd.underlying99:=Tryd.underlying99
theorem u58:type_of%Tryd.underlying58:=Tryd.underlying58
theorem u97:type_of%Tryd.underlying97:=Tryd.underlying97
theorem u89:type_of%Tryd.underlying89:=Tryd.underlying89
theorem u42:type_of%Tryd.underlying42:=Tryd.underlying42
theorem u92:type_of%Tryd.underlying92:=Tryd.underlying92
theorem u47:type_of%Tryd.underlying47:=Tryd.underlying47
theorem u52:type_of%Tryd.underlying52:=Tryd.underlying52
theorem u51:type_of%Tryd.underlying51:=Tryd.underlying51
theorem u65:type_of%Tryd.underlying65:=Tryd.underlying65
theorem u66:type_of%Tryd.underlying66:=Tryd.underlying66
theorem u67:type_of%Tryd.underlying67:=Tryd.underlying67
theorem u22:type_of%Tryd.underlying22:=Tryd.underlying22
theorem u103:type_of%Tryd.underlying103:=Tryd.underlying103
theorem mo:Tryd.prog.follows .mixedOrders=true:=by kernel_rfl
theorem c3:bV Tryd.prog 3:=⟨_,Tryd.func3,by kernel_rfl,by kernel_rfl⟩
theorem c4:bV Tryd.prog 4:=⟨_,Tryd.func4,by kernel_rfl,by kernel_rfl⟩
theorem c5:bV Tryd.prog 5:=⟨_,Tryd.func5,by kernel_rfl,by kernel_rfl⟩
theorem c6:bV Tryd.prog 6:=⟨_,Tryd.func6,by kernel_rfl,by kernel_rfl⟩
theorem c7:bV Tryd.prog 7:=⟨_,Tryd.func7,by kernel_rfl,by kernel_rfl⟩
theorem c8:bV Tryd.prog 8:=⟨_,Tryd.func8,by kernel_rfl,by kernel_rfl⟩
theorem c9:bV Tryd.prog 9:=⟨_,Tryd.func9,by kernel_rfl,by kernel_rfl⟩
theorem c19:bV Tryd.prog 19:=⟨_,Tryd.func19,by kernel_rfl,by kernel_rfl⟩
theorem c22:bV Tryd.prog 22:=⟨_,Tryd.func22,by kernel_rfl,by kernel_rfl⟩
theorem c24:bV Tryd.prog 24:=⟨_,Tryd.func24,by kernel_rfl,by kernel_rfl⟩
theorem c25:bV Tryd.prog 25:=⟨_,Tryd.func25,by kernel_rfl,by kernel_rfl⟩
theorem c27:bV Tryd.prog 27:=⟨_,Tryd.func27,by kernel_rfl,by kernel_rfl⟩
theorem c28:bV Tryd.prog 28:=⟨_,Tryd.func28,by kernel_rfl,by kernel_rfl⟩
theorem c29:bV Tryd.prog 29:=⟨_,Tryd.func29,by kernel_rfl,by kernel_rfl⟩
theorem c30:bV Tryd.prog 30:=⟨_,Tryd.func30,by kernel_rfl,by kernel_rfl⟩
theorem c32:bV Tryd.prog 32:=⟨_,Tryd.func32,by kernel_rfl,by kernel_rfl⟩
theorem c33:bV Tryd.prog 33:=⟨_,Tryd.func33,by kernel_rfl,by kernel_rfl⟩
theorem c34:bV Tryd.prog 34:=⟨_,Tryd.func34,by kernel_rfl,by kernel_rfl⟩
theorem c35:bV Tryd.prog 35:=⟨_,Tryd.func35,by kernel_rfl,by kernel_rfl⟩
theorem c36:bV Tryd.prog 36:=⟨_,Tryd.func36,by kernel_rfl,by kernel_rfl⟩
theorem c37:bV Tryd.prog 37:=⟨_,Tryd.func37,by kernel_rfl,by kernel_rfl⟩
theorem c38:bV Tryd.prog 38:=⟨_,Tryd.func38,by kernel_rfl,by kernel_rfl⟩
theorem c39:bV Tryd.prog 39:=⟨_,Tryd.func39,by kernel_rfl,by kernel_rfl⟩
theorem c42:bV Tryd.prog 42:=⟨_,Tryd.func42,by kernel_rfl,by kernel_rfl⟩
theorem c43:bV Tryd.prog 43:=⟨_,Tryd.func43,by kernel_rfl,by kernel_rfl⟩
theorem c44:bV Tryd.prog 44:=⟨_,Tryd.func44,by kernel_rfl,by kernel_rfl⟩
theorem c45:bV Tryd.prog 45:=⟨_,Tryd.func45,by kernel_rfl,by kernel_rfl⟩
theorem c46:bV Tryd.prog 46:=⟨_,Tryd.func46,by kernel_rfl,by kernel_rfl⟩
theorem c49:bV Tryd.prog 49:=⟨_,Tryd.func49,by kernel_rfl,by kernel_rfl⟩
theorem c51:bV Tryd.prog 51:=⟨_,Tryd.func51,by kernel_rfl,by kernel_rfl⟩
theorem c52:bV Tryd.prog 52:=⟨_,Tryd.func52,by kernel_rfl,by kernel_rfl⟩
theorem c53:bV Tryd.prog 53:=⟨_,Tryd.func53,by kernel_rfl,by kernel_rfl⟩
theorem c54:bV Tryd.prog 54:=⟨_,Tryd.func54,by kernel_rfl,by kernel_rfl⟩
theorem c55:bV Tryd.prog 55:=⟨_,Tryd.func55,by kernel_rfl,by kernel_rfl⟩
theorem c56:bV Tryd.prog 56:=⟨_,Tryd.func56,by kernel_rfl,by kernel_rfl⟩
theorem c57:bV Tryd.prog 57:=⟨_,Tryd.func57,by kernel_rfl,by kernel_rfl⟩
theorem c58:bV Tryd.prog 58:=⟨_,Tryd.func58,by kernel_rfl,by kernel_rfl⟩
theorem c59:bV Tryd.prog 59:=⟨_,Tryd.func59,by kernel_rfl,by kernel_rfl⟩
theorem c60:bV Tryd.prog 60:=⟨_,Tryd.func60,by kernel_rfl,by kernel_rfl⟩
theorem c61:bV Tryd.prog 61:=⟨_,Tryd.func61,by kernel_rfl,by kernel_rfl⟩
theorem c62:bV Tryd.prog 62:=⟨_,Tryd.func62,by kernel_rfl,by kernel_rfl⟩
theorem c63:bV Tryd.prog 63:=⟨_,Tryd.func63,by kernel_rfl,by kernel_rfl⟩
theorem c64:bV Tryd.prog 64:=⟨_,Tryd.func64,by kernel_rfl,by kernel_rfl⟩
theorem c65:bV Tryd.prog 65:=⟨_,Tryd.func65,by kernel_rfl,by kernel_rfl⟩
theorem c66:bV Tryd.prog 66:=⟨_,Tryd.func66,by kernel_rfl,by kernel_rfl⟩
theorem c67:bV Tryd.prog 67:=⟨_,Tryd.func67,by kernel_rfl,by kernel_rfl⟩
theorem c68:bV Tryd.prog 68:=⟨_,Tryd.func68,by kernel_rfl,by kernel_rfl⟩
theorem c69:bV Tryd.prog 69:=⟨_,Tryd.func69,by kernel_rfl,by kernel_rfl⟩
theorem c70:bV Tryd.prog 70:=⟨_,Tryd.func70,by kernel_rfl,by kernel_rfl⟩
theorem c71:bV Tryd.prog 71:=⟨_,Tryd.func71,by kernel_rfl,by kernel_rfl⟩
theorem c72:bV Tryd.prog 72:=⟨_,Tryd.func72,by kernel_rfl,by kernel_rfl⟩
theorem c73:bV Tryd.prog 73:=⟨_,Tryd.func73,by kernel_rfl,by kernel_rfl⟩
theorem c74:bV Tryd.prog 74:=⟨_,Tryd.func74,by kernel_rfl,by kernel_rfl⟩
theorem c77:bV Tryd.prog 77:=⟨_,Tryd.func77,by kernel_rfl,by kernel_rfl⟩
theorem c78:bV Tryd.prog 78:=⟨_,Tryd.func78,by kernel_rfl,by kernel_rfl⟩
theorem c79:bV Tryd.prog 79:=⟨_,Tryd.func79,by kernel_rfl,by kernel_rfl⟩
theorem c80:bV Tryd.prog 80:=⟨_,Tryd.func80,by kernel_rfl,by kernel_rfl⟩
theorem c81:bV Tryd.prog 81:=⟨_,Tryd.func81,by kernel_rfl,by kernel_rfl⟩
theorem c82:bV Tryd.prog 82:=⟨_,Tryd.func82,by kernel_rfl,by kernel_rfl⟩
theorem c83:bV Tryd.prog 83:=⟨_,Tryd.func83,by kernel_rfl,by kernel_rfl⟩
theorem c86:bV Tryd.prog 86:=⟨_,Tryd.func86,by kernel_rfl,by kernel_rfl⟩
theorem c87:bV Tryd.prog 87:=⟨_,Tryd.func87,by kernel_rfl,by kernel_rfl⟩
theorem c88:bV Tryd.prog 88:=⟨_,Tryd.func88,by kernel_rfl,by kernel_rfl⟩
theorem c89:bV Tryd.prog 89:=⟨_,Tryd.func89,by kernel_rfl,by kernel_rfl⟩
theorem c90:bV Tryd.prog 90:=⟨_,Tryd.func90,by kernel_rfl,by kernel_rfl⟩
theorem c91:bV Tryd.prog 91:=⟨_,Tryd.func91,by kernel_rfl,by kernel_rfl⟩
theorem c93:bV Tryd.prog 93:=⟨_,Tryd.func93,by kernel_rfl,by kernel_rfl⟩
theorem c95:bV Tryd.prog 95:=⟨_,Tryd.func95,by kernel_rfl,by kernel_rfl⟩
theorem c96:bV Tryd.prog 96:=⟨_,Tryd.func96,by kernel_rfl,by kernel_rfl⟩
theorem c97:bV Tryd.prog 97:=⟨_,Tryd.func97,by kernel_rfl,by kernel_rfl⟩
theorem c98:bV Tryd.prog 98:=⟨_,Tryd.func98,by kernel_rfl,by kernel_rfl⟩
theorem c99:bV Tryd.prog 99:=⟨_,Tryd.func99,by kernel_rfl,by kernel_rfl⟩
theorem zn:bV Tryd.prog 100:=⟨_,Tryd.func100,by kernel_rfl,by kernel_rfl⟩
theorem yu:bV Tryd.prog 101:=⟨_,Tryd.func101,by kernel_rfl,by kernel_rfl⟩
theorem zm:bV Tryd.prog 102:=⟨_,Tryd.func102,by kernel_rfl,by kernel_rfl⟩
theorem zl:bV Tryd.prog 107:=⟨_,Tryd.func107,by kernel_rfl,by kernel_rfl⟩
theorem zk:bV Tryd.prog 108:=⟨_,Tryd.func108,by kernel_rfl,by kernel_rfl⟩
theorem sz3:(Tryd.prog.info? 3).map (·.size)=some 1:=by kernel_rfl
theorem ii3:(Tryd.prog.info? 3).map (λi=>(i.size,i.bytes,i.zero))=some (1,8,some (vI 0)):=by kernel_rfl
theorem zz3:(Tryd.prog.info? 3).map (λi=>(i.size,i.zero))=some (1,some (vI 0)):=by kernel_rfl
theorem sz4:(Tryd.prog.info? 4).map (·.size)=some 1:=by kernel_rfl
theorem ii4:(Tryd.prog.info? 4).map (λi=>(i.size,i.bytes,i.zero))=some (1,1,some vf):=by kernel_rfl
theorem zz4:(Tryd.prog.info? 4).map (λi=>(i.size,i.zero))=some (1,some vf):=by kernel_rfl
theorem sz9:(Tryd.prog.info? 9).map (·.size)=some 1:=by kernel_rfl
theorem ii9:(Tryd.prog.info? 9).map (λi=>(i.size,i.bytes,i.zero))=some (1,16,some (vT [])):=by kernel_rfl
theorem zz9:(Tryd.prog.info? 9).map (λi=>(i.size,i.zero))=some (1,some (vT [])):=by kernel_rfl
theorem xw:(Tryd.prog.info? 22).map (·.size)=some 1:=by kernel_rfl
theorem fM:(Tryd.prog.info? 24).map (·.size)=some 1:=by kernel_rfl
theorem yG:(Tryd.prog.info? 24).map (λi=>(i.size,i.zero))=some (1,some vN):=by kernel_rfl
theorem b6:(Tryd.prog.info? 26).map (·.size)=some 3:=by kernel_rfl
theorem kR:(Tryd.prog.info? 26).map (λi=>(i.size,i.bytes,i.zero))=some (3,40,some (.agg #[(vI 0),(vI 0),vN])):=by kernel_rfl
theorem qG:(Tryd.prog.info? 26).map (λi=>(i.size,i.zero))=some (3,some (.agg #[(vI 0),(vI 0),vN])):=by kernel_rfl
theorem z26:(Tryd.prog.info? 26).bind (·.zero)=some (.agg #[(vI 0),(vI 0),vN]):=by kernel_rfl
theorem jx:(Tryd.prog.info? 31).map (·.size)=some 2:=by kernel_rfl
theorem z31:(Tryd.prog.info? 31).bind (·.zero)=some (.agg #[vf,vf]):=by kernel_rfl
theorem xv:(Tryd.prog.info? 36).map (·.size)=some 1:=by kernel_rfl
theorem z46:(Tryd.prog.info? 46).bind (·.zero)=some (.agg #[(vI 0),(vI 0),vf]):=by kernel_rfl
theorem z47:(Tryd.prog.info? 47).bind (·.zero)=some (.agg #[(vI 0),(vI 0),vf]):=by kernel_rfl
theorem tj:(Tryd.prog.info? 52).map (·.size)=some 3:=by kernel_rfl
theorem xu:(Tryd.prog.info? 53).map (·.size)=some 1:=by kernel_rfl
theorem nW:(Tryd.prog.info? 58).map (·.size)=some 6:=by kernel_rfl
theorem yd:(Tryd.prog.info? 58).map (λi=>(i.size,i.bytes,i.zero))=some (6,64,some (.agg #[(vI 0),(vI 0),vN,(vI 0),(vI 0),(vI 0)])):=by kernel_rfl
theorem w7:(Tryd.prog.info? 58).map (λi=>(i.size,i.zero))=some (6,some (.agg #[(vI 0),(vI 0),vN,(vI 0),(vI 0),(vI 0)])):=by kernel_rfl
theorem z58:(Tryd.prog.info? 58).bind (·.zero)=some (.agg #[(vI 0),(vI 0),vN,(vI 0),(vI 0),(vI 0)]):=by kernel_rfl
theorem xr:(Tryd.prog.info? 65).map (·.size)=some 1:=by kernel_rfl
theorem xq:(Tryd.prog.info? 66).map (·.size)=some 1:=by kernel_rfl
theorem xo:(Tryd.prog.info? 67).map (·.size)=some 1:=by kernel_rfl
theorem vm:(Tryd.prog.info? 73).map (·.size)=some 6:=by kernel_rfl
theorem y0:(Tryd.prog.info? 73).map (λi=>(i.size,i.bytes,i.zero))=some (6,64,some (.agg #[(vI 0),(vI 0),vN,(vI 0),(vI 0),(vI 0)])):=by kernel_rfl
theorem yF:(Tryd.prog.info? 73).map (λi=>(i.size,i.zero))=some (6,some (.agg #[(vI 0),(vI 0),vN,(vI 0),(vI 0),(vI 0)])):=by kernel_rfl
theorem z73:(Tryd.prog.info? 73).bind (·.zero)=some (.agg #[(vI 0),(vI 0),vN,(vI 0),(vI 0),(vI 0)]):=by kernel_rfl
theorem yK:(Tryd.prog.info? 80).map (·.size)=some 1:=by kernel_rfl
theorem jw:(Tryd.prog.info? 83).map (·.size)=some 1:=by kernel_rfl
theorem yc:(Tryd.prog.info? 83).map (λi=>(i.size,i.bytes,i.zero))=some (1,8,some (Value.pointer none)):=by kernel_rfl
theorem mA:(Tryd.prog.info? 83).map (λi=>(i.size,i.zero))=some (1,some (Value.pointer none)):=by kernel_rfl
theorem yJ:(Tryd.prog.info? 89).map (·.size)=some 1:=by kernel_rfl
theorem xn:(Tryd.prog.info? 90).map (·.size)=some 1:=by kernel_rfl
theorem xm:(Tryd.prog.info? 97).map (·.size)=some 1:=by kernel_rfl
theorem vl:(Tryd.prog.info? 99).map (·.size)=some 3:=by kernel_rfl
theorem yZ:(Tryd.prog.info? 99).map (λi=>(i.size,i.bytes,i.zero))=some (3,32,some (.agg #[vN,vf,vf])):=by kernel_rfl
theorem yE:(Tryd.prog.info? 99).map (λi=>(i.size,i.zero))=some (3,some (.agg #[vN,vf,vf])):=by kernel_rfl
theorem z99:(Tryd.prog.info? 99).bind (·.zero)=some (.agg #[vN,vf,vf]):=by kernel_rfl
theorem kX:(Tryd.prog.info? 103).map (·.size)=some 3:=by kernel_rfl
theorem yf:(Tryd.prog.info? 103).map (λi=>(i.size,i.bytes,i.zero))=some (3,32,some (.agg #[vN,vf,vf])):=by kernel_rfl
theorem w9:(Tryd.prog.info? 103).map (λi=>(i.size,i.zero))=some (3,some (.agg #[vN,vf,vf])):=by kernel_rfl
theorem xf:(Tryd.prog.info? 103).bind (·.zero)=some (.agg #[vN,vf,vf]):=by kernel_rfl
theorem qO:(Tryd.prog.info? 107).map (·.size)=some 2:=by kernel_rfl
theorem ye:(Tryd.prog.info? 107).map (λi=>(i.size,i.bytes,i.zero))=some (2,16,some (.agg #[(vI 0),vf])):=by kernel_rfl
theorem w8:(Tryd.prog.info? 107).map (λi=>(i.size,i.zero))=some (2,some (.agg #[(vI 0),vf])):=by kernel_rfl
theorem xd:(Tryd.prog.info? 107).bind (·.zero)=some (.agg #[(vI 0),vf]):=by kernel_rfl
theorem dd:(Tryd.prog.info? 110).map (·.size)=some 1:=by kernel_rfl
theorem xc:(Tryd.prog.info? 112).bind (·.zero)=some (.agg #[(vI 0),(vI 0),vN,(vT [])]):=by kernel_rfl
theorem mP:(Tryd.prog.info? 114).map (·.size)=some 1:=by kernel_rfl
theorem yH:(Tryd.prog.info? 116).bind (·.zero)=some (.agg #[vf,vf,(Value.pointer none),(Value.map none)]):=by kernel_rfl
theorem xa:(Tryd.prog.info? 118).bind (·.zero)=some (.agg #[vN,(Value.map none)]):=by kernel_rfl
theorem z171:(Tryd.prog.info? 171).bind (·.zero)=some (.agg #[(Value.pointer none),(Value.pointer none),(Value.pointer none),(vT [])]):=by kernel_rfl
end Go.Mi.Term
namespace Go.Mi.Term
open Go.Mi Go.Proofs Go.RowKit
set_option maxRecDepth 100000 in
theorem mr {k nm:Int} {ks:List Tm} (ih:∀t,t∈ks->∀(X:List Nat) (vs:List Value) (n:Nat) (w:World),IsT w X t vs->n<=5000->Calls Tryd.prog 93 (List.toArray [.agg vs.toArray,.int .i64 n]) w (Ret λv w'=>v= .int .i64 (cnt t n)/\Gr w w'))
 {X:List Nat} {ad:Option Addr} {cap:Nat} {xs:List Value} (n:Nat) (hn:n<=5000) (w0:World) (hsl:0<ks.length->∃b o,ad=some ⟨b,o,none⟩/\b∉X/\At w0 b o xs) (hks:IsTs w0 X ks xs):
 Calls Tryd.prog 93 (List.toArray [.agg #[.int .i64 k,.int .i64 nm,.slice ad ks.length cap],.int .i64 n]) w0 (Ret λv w'=>v= .int .i64 (eZ ks (n+1))/\Gr w0 w'):=by
 refine cq Tryd.func93 rfl Tryd.ntmps93 rfl λa hF=> ?_;have hM:=Mem.start w0;have hF:=hF.sub (L':=[(0,(Value.agg (#[(vI k),(vI nm),(Value.slice ad ks.length cap)]))),(1,(vI (n:Int)))]) ⟨rfl,rfl,zo⟩;refine wp_seq ?_;refine wp_region_lit ?_;refine wlR (dG rfl) rfl hF ?_;rintro _ w a ⟨b1,rfl,hnb_⟩ hF;have hM:Mem w0 w [(b1,#[(vI k),(vI nm),(Value.slice ad ks.length cap)],26)]:=hM.alloc hnb_;refine wl (bz rfl) rfl hF (λa hF=> ?_);refine bx ?_;refine wp_seq ?_;refine wp_region_lit ?_;refine wl (bD rfl) rfl hF (λa hF=> ?_);refine wl (ci rfl rfl (bK (by omega) (by omega))) rfl hF (λa hF=> ?_);refine wl (bz rfl) rfl hF (λa hF=> ?_);refine bx ?_;refine wp_seq ?_;refine wp_seq ?_;refine wp_region_lit ?_;refine wl (bG u26 (m:=0) fM rfl rfl rfl) rfl hF (λa hF=> ?_);refine wl (bJ u24 rfl rfl (hM.cell 0 rfl rfl)) rfl hF (λa hF=> ?_);refine wl (bW u24 rfl) rfl hF (λa hF=> ?_);refine wl (bD rfl) rfl hF (λa hF=> ?_);refine bx ?_;refine bA ?_;refine wp_block ?_;refine ca (λr a w=>∃(i m:Nat),r=ks.length-i/\(i<=ks.length)/\(m<=5001)/\(eZ (ks.drop i) m=eZ ks (n+1))/\(i<=m)/\Frm a 23 [(1,(vI (m:Int))),(2,(vp b1)),(10,(Value.slice ad ks.length cap)),(11,(vI (ks.length:Int))),(12,(vI (i:Int)))]/\Mem w0 w [(b1,#[(vI k),(vI nm),(Value.slice ad ks.length cap)],26)]) _ ⟨0,n+1,rfl,(by omega),(by omega),rfl,(by omega),hF.sub ⟨rfl,rfl,rfl,rfl,rfl,zo⟩,?_⟩ ?_
 ·exact hM
 rintro _ a w ⟨i,m,rfl,hl1_0,hl1_1,hl1_2,hl1_3,hF,hM⟩;refine wp_seq ?_;refine wp_region_lit ?_;refine wl (eH rfl rfl) rfl hF (λa hF=> ?_);refine bx ?_;refine wp_seq ?_;refine cr hF rfl (λh=> ?_) (λh=> ?_)
 ·have s:=zB h;clear h;obtain⟨b0,o0,u,hb0,q⟩:=hsl (by omega);obtain⟨t1,hi⟩:∃t,ks[i]? =some t:=⟨_,zp (by omega)⟩;have l:t1∈ks:=zC hi;obtain⟨a1,j,p⟩:=hks.at q i t1 hi;obtain⟨k1,f,e,l1,d,rfl⟩:=j.form;refine wp_skip ?_;refine wp_seq ?_;refine wp_block ?_;refine wp_seq ?_;refine wp_region_lit ?_;refine wl (dU (b:=b0) (o:=o0) u24 b6 (by rw[<-u];rfl) rfl rfl (by omega)) rfl hF (λa hF=> ?_);refine wl (cb u26 rfl b6 rfl (p.mv (Gr.ch hM.below) (by simp)) rfl) rfl hF (λa hF=> ?_);refine wlR (ez z26) rfl hF ?_;rintro _ w a ⟨b2,rfl,hnb_⟩ hF;have hM:Mem w0 w [(b1,#[(vI k),(vI nm),(Value.slice ad ks.length cap)],26),(b2,#[(vI 0),(vI 0),vN],26)]:=hM.alloc hnb_;refine lE (dM (c':= #[(vI k1),(vI f),(Value.slice e l1 d)]) b6 rfl rfl rfl (λv hv=>by simp at hv;rcases hv with rfl|rfl|rfl<;>rfl) (hM.at 1 rfl) rfl) hF ?_;rintro w a hu hF;have hM:Mem w0 w [(b1,#[(vI k),(vI nm),(Value.slice ad ks.length cap)],26),(b2,#[(vI k1),(vI f),(Value.slice e l1 d)],26)]:=hM.upd 1 rfl hu;refine bx ?_;refine wp_seq ?_;refine wp_seq ?_;refine wp_region_lit ?_;refine wl (bD rfl) rfl hF (λa hF=> ?_);refine wl (jr rfl rfl) rfl hF (λa hF=> ?_);refine bx ?_;refine bA ?_;refine cr hF rfl (λh=> ?_) (λh=> ?_)
  ·have g:=zB h;clear h;have c:m=eZ ks (n+1):=by rw[<-hl1_2,sI (by omega)]
   refine wp_exit ?_;refine bM ?_;refine kU (by decide) ?_;refine bM ?_;refine bM ?_;refine bZ ?_;refine wp_seq ?_;refine wp_region_lit ?_;refine wl (bD rfl) rfl hF (λa hF=> ?_);refine wl (bz rfl) rfl hF (λa hF=> ?_);refine bx ?_;refine wp_ret ?_;refine bv hF (bw Tryd.results93 (RV.tmp hF rfl)) ?_;exact⟨by rw[c],hM.below⟩
  ·have g:=of_decide_eq_false h;clear h;refine wp_skip ?_;refine bA ?_;refine wp_region_lit ?_;refine wl (eA u26 rfl b6 rfl (hM.at 1 rfl) rfl) rfl hF (λa hF=> ?_);refine wl (bD rfl) rfl hF (λa hF=> ?_);refine wlR (a_ c93 rfl (ih t1 l X _ m _ (IsT.mv (Gr.ch hM.below) (by simp) (λx hx=> .inl hx) t1 _ j) (by omega))) rfl hF ?_;rintro _ w a ⟨rfl,hg⟩ hF;have hM:=hM.call hg;refine wl (bz rfl) rfl hF (λa hF=> ?_);refine bx ?_;refine bR ?_;refine bA ?_;refine wp_region_lit ?_;refine wl (ci rfl rfl (bK (by omega) (by omega))) rfl hF (λa hF=> ?_);refine wl (bD rfl) rfl hF (λa hF=> ?_);refine bx ?_;refine bA ?_;refine⟨_,?_,i+1,cnt t1 m,rfl,(by omega),(by have :=sF t1 m;omega),(by rw[qz hi (by omega)];exact hl1_2),(by have :=sG t1 m;omega),hF.sub ⟨rfl,rfl,rfl,rfl,rfl,zo⟩,?_⟩
   ·omega
   exact hM.sub (by simp)
 ·have s:=of_decide_eq_false h;clear h;have hi:i=ks.length:=by omega
  have c:m=eZ ks (n+1):=by rw[<-hl1_2,hi,AM];rfl
  refine wp_exit ?_;refine bM ?_;refine bM ?_;refine bZ ?_;refine wp_seq ?_;refine wp_region_lit ?_;refine wl (bD rfl) rfl hF (λa hF=> ?_);refine wl (bz rfl) rfl hF (λa hF=> ?_);refine bx ?_;refine wp_ret ?_;refine bv hF (bw Tryd.results93 (RV.tmp hF rfl)) ?_;exact⟨by rw[c],hM.below⟩
theorem kS (t:Tm):∀(X:List Nat) (vs:List Value) (n:Nat) (w:World),IsT w X t vs->n<=5000->Calls Tryd.prog 93 (List.toArray [.agg vs.toArray,.int .i64 n]) w (Ret λv w'=>v= .int .i64 (cnt t n)/\Gr w w'):=by refine Tm.ind (p:=λt=>∀(X:List Nat) (vs:List Value) (n:Nat) (w:World),IsT w X t vs->n<=5000->Calls Tryd.prog 93 (List.toArray [.agg vs.toArray,.int .i64 n]) w (Ret λv w'=>v= .int .i64 (cnt t n)/\Gr w w')) ?_ t;intro k nm ks ih X vs n w ht hn;simp only[IsT]at ht;obtain⟨sl,xs,rfl,h1,h2⟩:=ht;obtain⟨ad,cap,rfl,h3⟩:=h1.form;exact mr ih n hn w h3 h2
end Go.Mi.Term
namespace Go.Mi.Term
open Go.Mi Go.Proofs Go.RowKit
set_option maxRecDepth 100000 in
theorem oM {t:Tm} {X:List Nat} {k nm:Int} {ad:Option Addr} {l cap:Nat} (w0:World) (ht:IsT w0 X t [.int .i64 k,.int .i64 nm,.slice ad l cap]):Calls Tryd.prog 77 (List.toArray [.agg #[.int .i64 k,.int .i64 nm,.slice ad l cap]]) w0 (Ret λv w'=>v= .int .i64 (size t)/\Gr w0 w'):=by refine cq Tryd.func77 rfl Tryd.ntmps77 rfl λa hF=> ?_;have hM:=Mem.start w0;have hF:=hF.sub (L':=[(0,(Value.agg (#[(vI k),(vI nm),(Value.slice ad l cap)])))]) ⟨rfl,zo⟩;refine wp_seq ?_;refine wp_region_lit ?_;refine wlR (dG rfl) rfl hF ?_;rintro _ w a ⟨b1,rfl,hnb_⟩ hF;have hM:Mem w0 w [(b1,#[(vI k),(vI nm),(Value.slice ad l cap)],26)]:=hM.alloc hnb_;refine wl (bz rfl) rfl hF (λa hF=> ?_);refine bx ?_;refine wp_seq ?_;refine wp_region_lit ?_;refine wl (eA u26 rfl b6 rfl (hM.at 0 rfl) rfl) rfl hF (λa hF=> ?_);refine wlR (a_ c93 rfl (kS t X _ 0 _ (IsT.mv (Gr.ch hM.below) (by simp) (λx hx=> .inl hx) t _ ht) (by omega))) rfl hF ?_;rintro _ w a ⟨rfl,hg⟩ hF;have hM:=hM.call hg;refine wl (u8 (r:=((size t:Nat):Int)) rfl rfl (by simp only[size];split<;>omega)) rfl hF (λa hF=> ?_);refine wl (bz rfl) rfl hF (λa hF=> ?_);refine bx ?_;refine wp_ret ?_;refine bv hF (bw Tryd.results77 (RV.tmp hF rfl)) ?_;exact⟨rfl,hM.below⟩
set_option maxRecDepth 100000 in
theorem mR {k nm:Int} {ks:List Tm} (ih:∀t,t∈ks->∀(X:List Nat) (vs:List Value) (d:Nat) (w:World),IsT w X t vs->d<=1000->Calls Tryd.prog 78 (List.toArray [.agg vs.toArray,.int .i64 d]) w (Ret λv w'=>v= .bool (cy t d)/\Gr w w'))
 {X:List Nat} {ad:Option Addr} {cap:Nat} {xs:List Value} (d:Nat) (hd:d<=1000) (w0:World) (hsl:0<ks.length->∃b o,ad=some ⟨b,o,none⟩/\b∉X/\At w0 b o xs) (hks:IsTs w0 X ks xs):
 Calls Tryd.prog 78 (List.toArray [.agg #[.int .i64 k,.int .i64 nm,.slice ad ks.length cap],.int .i64 d]) w0 (Ret λv w'=>v= .bool (cy (.mk k nm ks) d)/\Gr w0 w'):=by
 refine cq Tryd.func78 rfl Tryd.ntmps78 rfl λa hF=> ?_;have hM:=Mem.start w0;have hF:=hF.sub (L':=[(0,(Value.agg (#[(vI k),(vI nm),(Value.slice ad ks.length cap)]))),(1,(vI (d:Int)))]) ⟨rfl,rfl,zo⟩;refine wp_seq ?_;refine wp_region_lit ?_;refine wlR (dG rfl) rfl hF ?_;rintro _ w a ⟨b1,rfl,hnb_⟩ hF;have hM:Mem w0 w [(b1,#[(vI k),(vI nm),(Value.slice ad ks.length cap)],26)]:=hM.alloc hnb_;refine wl (bz rfl) rfl hF (λa hF=> ?_);refine bx ?_;refine wp_seq ?_;refine wp_region_lit ?_;refine wl (bz rfl) rfl hF (λa hF=> ?_);refine wl (bz rfl) rfl hF (λa hF=> ?_);refine bx ?_;refine wp_seq ?_;refine wp_seq ?_;refine wp_region_lit ?_;refine wl (bG u26 (m:=0) sz3 rfl rfl rfl) rfl hF (λa hF=> ?_);refine wl (bJ Tryd.underlying3 rfl rfl (hM.cell 0 rfl rfl)) rfl hF (λa hF=> ?_);refine bx ?_;refine bA ?_;refine wp_block ?_;refine wp_seq ?_;refine wp_region_lit ?_;refine wl (dQ rfl rfl) rfl hF (λa hF=> ?_);refine wl (bz rfl) rfl hF (λa hF=> ?_);refine bx ?_;refine bA ?_;refine cr hF rfl (λh=> ?_) (λh=> ?_)
 ·have E:=zB h;clear h;have g:low k=0:=(by simp [low,dZ,E]);have j:dZ k=0:=(by simp [low,dZ,E]);refine wp_seq ?_;refine wp_region_lit ?_;refine wl (bz rfl) rfl hF (λa hF=> ?_);refine wl (bz rfl) rfl hF (λa hF=> ?_);refine bx ?_;refine wp_seq ?_;refine wp_region_lit ?_;refine wl (bG u26 (m:=0) sz3 rfl rfl rfl) rfl hF (λa hF=> ?_);refine wl (bJ Tryd.underlying3 rfl rfl (hM.cell 0 rfl rfl)) rfl hF (λa hF=> ?_);refine wl (eH rfl rfl) rfl hF (λa hF=> ?_);refine wl (bD rfl) rfl hF (λa hF=> ?_);by_cases hnm:nm<0
  ·have e:decide (nm<0)=true:=decide_eq_true hnm;rw[e]at hF;refine cL (c:=true) rfl rfl rfl hF (λa hF=> ?_);refine cL (c:=true) rfl rfl rfl hF (λa hF=> ?_);refine cL (c:=true) rfl rfl rfl hF (λa hF=> ?_);refine wl (cQ (b:=true) rfl rfl) rfl hF (λa hF=> ?_);refine bx ?_;refine wp_cond_true (hF.eval rfl) ?_;refine wp_seq ?_;refine wp_region_lit ?_;refine wl (bz rfl) rfl hF (λa hF=> ?_);refine bx ?_;refine wp_ret ?_;refine cd ?_;refine bO ?_;refine bv hF (bw Tryd.results78 (RV.tmp hF rfl)) ?_
   first |exact⟨by rw[cn (by omega)],hM.below⟩|exact⟨by rw[cm g j (by omega)],hM.below⟩|exact⟨by rw[ck f],hM.below⟩|exact⟨by rw[cj (by omega) g j (by omega) l],hM.below⟩
  ·have e:decide (nm<0)=false:=decide_eq_false hnm;rw[e]at hF;refine wlg rfl (bG u26 (m:=0) sz3 rfl rfl rfl) rfl hF (λa hF=> ?_);refine wlg rfl (bJ Tryd.underlying3 rfl rfl (hM.cell 0 rfl rfl)) rfl hF (λa hF=> ?_);refine wlg rfl (jr rfl rfl) rfl hF (λa hF=> ?_);refine wl (cQ (b:=false) rfl rfl) rfl hF (λa hF=> ?_);refine bx ?_;refine bA ?_;refine cr hF rfl (λh=> ?_) (λh=> ?_)
   ·have K:=zB h;clear h;refine wp_seq ?_;refine wp_region_lit ?_;refine wl (bz rfl) rfl hF (λa hF=> ?_);refine bx ?_;refine wp_ret ?_;refine cd ?_;refine bO ?_;refine bv hF (bw Tryd.results78 (RV.tmp hF rfl)) ?_
    first |exact⟨by rw[cn (by omega)],hM.below⟩|exact⟨by rw[cm g j (by omega)],hM.below⟩|exact⟨by rw[ck f],hM.below⟩|exact⟨by rw[cj (by omega) g j (by omega) l],hM.below⟩
   ·have K:=of_decide_eq_false h;clear h;refine wp_skip ?_;refine bR ?_;refine wp_seq ?_;refine wp_seq ?_;refine wp_region_lit ?_;refine wl (bD rfl) rfl hF (λa hF=> ?_);refine wl (lu rfl rfl) rfl hF (λa hF=> ?_);refine wl (bD rfl) rfl hF (λa hF=> ?_);by_cases hdd:100<=(d:Int)
    ·have e:decide (100<=(d:Int))=true:=decide_eq_true hdd;rw[e]at hF;refine cL (c:=true) rfl rfl rfl hF (λa hF=> ?_);refine cL (c:=true) rfl rfl rfl hF (λa hF=> ?_);refine cL (c:=true) rfl rfl rfl hF (λa hF=> ?_);refine cL (c:=true) rfl rfl rfl hF (λa hF=> ?_);refine cL (c:=true) rfl rfl rfl hF (λa hF=> ?_);refine wl (cQ (b:=true) rfl rfl) rfl hF (λa hF=> ?_);refine wl (bD rfl) rfl hF (λa hF=> ?_);refine cL (c:=true) rfl rfl rfl hF (λa hF=> ?_);refine cL (c:=true) rfl rfl rfl hF (λa hF=> ?_);refine cL (c:=true) rfl rfl rfl hF (λa hF=> ?_);refine cL (c:=true) rfl rfl rfl hF (λa hF=> ?_);refine cL (c:=true) rfl rfl rfl hF (λa hF=> ?_);refine wl (cQ (b:=true) rfl rfl) rfl hF (λa hF=> ?_);refine bx ?_;refine wp_cond_true (hF.eval rfl) ?_;refine wp_seq ?_;refine wp_region_lit ?_;refine wl (bz rfl) rfl hF (λa hF=> ?_);refine bx ?_;refine wp_ret ?_;refine bO ?_;refine bv hF (bw Tryd.results78 (RV.tmp hF rfl)) ?_
     first |exact⟨by rw[cn (by omega)],hM.below⟩|exact⟨by rw[cm g j (by omega)],hM.below⟩|exact⟨by rw[ck f],hM.below⟩|exact⟨by rw[cj (by omega) g j (by omega) l],hM.below⟩
    ·have e:decide (100<=(d:Int))=false:=decide_eq_false hdd;rw[e]at hF;refine wlg rfl (bG u26 (m:=0) fM rfl rfl rfl) rfl hF (λa hF=> ?_);refine wlg rfl (bJ u24 rfl rfl (hM.cell 0 rfl rfl)) rfl hF (λa hF=> ?_);refine wlg rfl (bW u24 rfl) rfl hF (λa hF=> ?_);refine wlg rfl (bD rfl) rfl hF (λa hF=> ?_);refine wlg rfl (eH rfl rfl) rfl hF (λa hF=> ?_);refine wl (cQ (b:=false) rfl rfl) rfl hF (λa hF=> ?_);refine wl (bD rfl) rfl hF (λa hF=> ?_);by_cases hlow:(ks.length:Int)<0
     ·have e:decide ((ks.length:Int)<0)=true:=decide_eq_true hlow;rw[e]at hF;refine cL (c:=true) rfl rfl rfl hF (λa hF=> ?_);refine cL (c:=true) rfl rfl rfl hF (λa hF=> ?_);refine cL (c:=true) rfl rfl rfl hF (λa hF=> ?_);refine cL (c:=true) rfl rfl rfl hF (λa hF=> ?_);refine cL (c:=true) rfl rfl rfl hF (λa hF=> ?_);refine wl (cQ (b:=true) rfl rfl) rfl hF (λa hF=> ?_);refine bx ?_;refine wp_cond_true (hF.eval rfl) ?_;refine wp_seq ?_;refine wp_region_lit ?_;refine wl (bz rfl) rfl hF (λa hF=> ?_);refine bx ?_;refine wp_ret ?_;refine bO ?_;refine bv hF (bw Tryd.results78 (RV.tmp hF rfl)) ?_
      first |exact⟨by rw[cn (by omega)],hM.below⟩|exact⟨by rw[cm g j (by omega)],hM.below⟩|exact⟨by rw[ck f],hM.below⟩|exact⟨by rw[cj (by omega) g j (by omega) l],hM.below⟩
     ·have e:decide ((ks.length:Int)<0)=false:=decide_eq_false hlow;rw[e]at hF;refine wlg rfl (bG u26 (m:=0) fM rfl rfl rfl) rfl hF (λa hF=> ?_);refine wlg rfl (bJ u24 rfl rfl (hM.cell 0 rfl rfl)) rfl hF (λa hF=> ?_);refine wlg rfl (bW u24 rfl) rfl hF (λa hF=> ?_);refine wlg rfl (bD rfl) rfl hF (λa hF=> ?_);refine wlg rfl (jr rfl rfl) rfl hF (λa hF=> ?_);refine wl (cQ (b:=false) rfl rfl) rfl hF (λa hF=> ?_);refine bx ?_;refine bA ?_;refine cr hF rfl (λh=> ?_) (λh=> ?_)
      ·have p:=zB h;clear h;refine wp_seq ?_;refine wp_region_lit ?_;refine wl (bz rfl) rfl hF (λa hF=> ?_);refine bx ?_;refine wp_ret ?_;refine bO ?_;refine bv hF (bw Tryd.results78 (RV.tmp hF rfl)) ?_
       first |exact⟨by rw[cn (by omega)],hM.below⟩|exact⟨by rw[cm g j (by omega)],hM.below⟩|exact⟨by rw[ck f],hM.below⟩|exact⟨by rw[cj (by omega) g j (by omega) l],hM.below⟩
      ·have p:=of_decide_eq_false h;clear h;refine wp_skip ?_;refine wp_seq ?_;refine wp_seq ?_;refine wp_region_lit ?_;refine wl (bG u26 (m:=0) fM rfl rfl rfl) rfl hF (λa hF=> ?_);refine wl (bJ u24 rfl rfl (hM.cell 0 rfl rfl)) rfl hF (λa hF=> ?_);refine wl (bW u24 rfl) rfl hF (λa hF=> ?_);refine wl (bD rfl) rfl hF (λa hF=> ?_);refine bx ?_;refine bA ?_;refine wp_block ?_;refine ca (λB a w=>∃(i:Nat),B=ks.length-i/\(i<=ks.length)/\(cA (ks.drop i) (d+1)=cA ks (d+1))/\Frm a 62 [(1,(vI (d:Int))),(2,(vp b1)),(50,(Value.slice ad ks.length cap)),(51,(vI (ks.length:Int))),(52,(vI (i:Int)))]/\Mem w0 w [(b1,#[(vI k),(vI nm),(Value.slice ad ks.length cap)],26)]) _ ⟨0,rfl,(by omega),rfl,hF.sub ⟨rfl,rfl,rfl,rfl,rfl,zo⟩,?_⟩ ?_
       ·exact hM
       rintro _ a w ⟨i,rfl,hl1_0,hl1_1,hF,hM⟩;have H:=hl1_0;have q:=hl1_1;refine wp_seq ?_;refine wp_region_lit ?_;refine wl (eH rfl rfl) rfl hF (λa hF=> ?_);refine bx ?_;refine wp_seq ?_;refine cr hF rfl (λh=> ?_) (λh=> ?_)
       ·have C:=zB h;clear h;obtain⟨b0,o0,D,I,A⟩:=hsl (by omega);obtain⟨t1,hi⟩:∃t,ks[i]? =some t:=⟨_,zp (by omega)⟩;have y:t1∈ks:=zC hi;obtain⟨a1,u,z⟩:=hks.at A i t1 hi;obtain⟨k1,s,r,l1,n,rfl⟩:=u.form;refine wp_skip ?_;refine wp_seq ?_;refine wp_block ?_;refine wp_seq ?_;refine wp_region_lit ?_;refine wl (dU (b:=b0) (o:=o0) u24 b6 (by rw[<-D];rfl) rfl rfl (by omega)) rfl hF (λa hF=> ?_);refine wl (cb u26 rfl b6 rfl (z.mv (Gr.ch hM.below) (by simp)) rfl) rfl hF (λa hF=> ?_);refine wlR (ez z26) rfl hF ?_;rintro _ w a ⟨b2,rfl,hnb_⟩ hF;have hM:Mem w0 w [(b1,#[(vI k),(vI nm),(Value.slice ad ks.length cap)],26),(b2,#[(vI 0),(vI 0),vN],26)]:=hM.alloc hnb_;refine lE (dM (c':= #[(vI k1),(vI s),(Value.slice r l1 n)]) b6 rfl rfl rfl (λv hv=>by simp at hv;rcases hv with rfl|rfl|rfl<;>rfl) (hM.at 1 rfl) rfl) hF ?_;rintro w a hu hF;have hM:Mem w0 w [(b1,#[(vI k),(vI nm),(Value.slice ad ks.length cap)],26),(b2,#[(vI k1),(vI s),(Value.slice r l1 n)],26)]:=hM.upd 1 rfl hu;refine bx ?_;refine wp_seq ?_;refine wp_region_lit ?_;refine wl (eA u26 rfl b6 rfl (hM.at 1 rfl) rfl) rfl hF (λa hF=> ?_);refine wl (bD rfl) rfl hF (λa hF=> ?_);refine wl (ci rfl rfl (bK (by omega) (by omega))) rfl hF (λa hF=> ?_);refine wlR (a_ c78 rfl (ih t1 y X _ (d+1) _ (IsT.mv (Gr.ch hM.below) (by simp) (λx hx=> .inl hx) t1 _ u) (by omega))) rfl hF ?_;rintro _ w a ⟨rfl,hg⟩ hF;have hM:=hM.call hg;refine wl (nC rfl) rfl hF (λa hF=> ?_);refine bx ?_;refine bA ?_;refine cr hF rfl (λh=> ?_) (λh=> ?_)
        ·have hs:=h;clear h;have f:cA ks (d+1)=false:=by rw[<-q,dy hi];simp at hs;simp [hs]
         refine wp_seq ?_;refine wp_region_lit ?_;refine wl (bz rfl) rfl hF (λa hF=> ?_);refine bx ?_;refine wp_ret ?_;refine cd ?_;refine bO ?_;refine bO ?_;refine cd ?_;refine bO ?_;refine bv hF (bw Tryd.results78 (RV.tmp hF rfl)) ?_
         first |exact⟨by rw[cn (by omega)],hM.below⟩|exact⟨by rw[cm g j (by omega)],hM.below⟩|exact⟨by rw[ck f],hM.below⟩|exact⟨by rw[cj (by omega) g j (by omega) l],hM.below⟩
        ·have hs:=h;clear h;have hs:cy t1 (d+1)=true:=by simpa using hs
         refine wp_skip ?_;refine bR ?_;refine bA ?_;refine wp_region_lit ?_;refine wl (ci rfl rfl (bK (by omega) (by omega))) rfl hF (λa hF=> ?_);refine wl (bD rfl) rfl hF (λa hF=> ?_);refine bx ?_;refine bA ?_;refine⟨_,?_,i+1,rfl,(by omega),(by rw[<-q,dy hi,hs,AX]),hF.sub ⟨rfl,rfl,rfl,rfl,rfl,zo⟩,?_⟩
         ·omega
         exact hM.sub (by simp)
       ·have C:=of_decide_eq_false h;clear h;have hi:i=ks.length:=by omega
        have l:cA ks (d+1)=true:=by rw[<-q,hi,AM];rfl
        refine wp_exit ?_;refine bM ?_;refine bM ?_;refine bZ ?_;refine wp_seq ?_;refine wp_region_lit ?_;refine wl (bz rfl) rfl hF (λa hF=> ?_);refine bx ?_;refine wp_ret ?_;refine bv hF (bw Tryd.results78 (RV.tmp hF rfl)) ?_
        first |exact⟨by rw[cn (by omega)],hM.below⟩|exact⟨by rw[cm g j (by omega)],hM.below⟩|exact⟨by rw[ck f],hM.below⟩|exact⟨by rw[cj (by omega) g j (by omega) l],hM.below⟩
 ·have E:=of_decide_eq_false h;clear h;refine wp_seq ?_;refine wp_region_lit ?_;refine wl (dQ rfl rfl) rfl hF (λa hF=> ?_);refine wl (bz rfl) rfl hF (λa hF=> ?_);refine bx ?_;refine bA ?_;refine cr hF rfl (λh=> ?_) (λh=> ?_)
  ·have G:=zB h;clear h;have g:low k=1:=(by simp [low,dZ,G]);have j:dZ k=1:=(by simp [low,dZ,G]);refine wp_region_lit ?_;refine wl (bz rfl) rfl hF (λa hF=> ?_);refine wl (bz rfl) rfl hF (λa hF=> ?_);refine bx ?_;refine bR ?_;refine wp_seq ?_;refine wp_seq ?_;refine wp_region_lit ?_;refine wl (bD rfl) rfl hF (λa hF=> ?_);refine wl (lu rfl rfl) rfl hF (λa hF=> ?_);refine wl (bD rfl) rfl hF (λa hF=> ?_);by_cases hdd:100<=(d:Int)
   ·have e:decide (100<=(d:Int))=true:=decide_eq_true hdd;rw[e]at hF;refine cL (c:=true) rfl rfl rfl hF (λa hF=> ?_);refine cL (c:=true) rfl rfl rfl hF (λa hF=> ?_);refine cL (c:=true) rfl rfl rfl hF (λa hF=> ?_);refine cL (c:=true) rfl rfl rfl hF (λa hF=> ?_);refine cL (c:=true) rfl rfl rfl hF (λa hF=> ?_);refine wl (cQ (b:=true) rfl rfl) rfl hF (λa hF=> ?_);refine wl (bD rfl) rfl hF (λa hF=> ?_);refine cL (c:=true) rfl rfl rfl hF (λa hF=> ?_);refine cL (c:=true) rfl rfl rfl hF (λa hF=> ?_);refine cL (c:=true) rfl rfl rfl hF (λa hF=> ?_);refine cL (c:=true) rfl rfl rfl hF (λa hF=> ?_);refine cL (c:=true) rfl rfl rfl hF (λa hF=> ?_);refine wl (cQ (b:=true) rfl rfl) rfl hF (λa hF=> ?_);refine bx ?_;refine wp_cond_true (hF.eval rfl) ?_;refine wp_seq ?_;refine wp_region_lit ?_;refine wl (bz rfl) rfl hF (λa hF=> ?_);refine bx ?_;refine wp_ret ?_;refine bO ?_;refine bv hF (bw Tryd.results78 (RV.tmp hF rfl)) ?_
    first |exact⟨by rw[cn (by omega)],hM.below⟩|exact⟨by rw[cm g j (by omega)],hM.below⟩|exact⟨by rw[ck f],hM.below⟩|exact⟨by rw[cj (by omega) g j (by omega) l],hM.below⟩
   ·have e:decide (100<=(d:Int))=false:=decide_eq_false hdd;rw[e]at hF;refine wlg rfl (bG u26 (m:=0) fM rfl rfl rfl) rfl hF (λa hF=> ?_);refine wlg rfl (bJ u24 rfl rfl (hM.cell 0 rfl rfl)) rfl hF (λa hF=> ?_);refine wlg rfl (bW u24 rfl) rfl hF (λa hF=> ?_);refine wlg rfl (bD rfl) rfl hF (λa hF=> ?_);refine wlg rfl (eH rfl rfl) rfl hF (λa hF=> ?_);refine wl (cQ (b:=false) rfl rfl) rfl hF (λa hF=> ?_);refine wl (bD rfl) rfl hF (λa hF=> ?_);by_cases hlow:(ks.length:Int)<1
    ·have e:decide ((ks.length:Int)<1)=true:=decide_eq_true hlow;rw[e]at hF;refine cL (c:=true) rfl rfl rfl hF (λa hF=> ?_);refine cL (c:=true) rfl rfl rfl hF (λa hF=> ?_);refine cL (c:=true) rfl rfl rfl hF (λa hF=> ?_);refine cL (c:=true) rfl rfl rfl hF (λa hF=> ?_);refine cL (c:=true) rfl rfl rfl hF (λa hF=> ?_);refine wl (cQ (b:=true) rfl rfl) rfl hF (λa hF=> ?_);refine bx ?_;refine wp_cond_true (hF.eval rfl) ?_;refine wp_seq ?_;refine wp_region_lit ?_;refine wl (bz rfl) rfl hF (λa hF=> ?_);refine bx ?_;refine wp_ret ?_;refine bO ?_;refine bv hF (bw Tryd.results78 (RV.tmp hF rfl)) ?_
     first |exact⟨by rw[cn (by omega)],hM.below⟩|exact⟨by rw[cm g j (by omega)],hM.below⟩|exact⟨by rw[ck f],hM.below⟩|exact⟨by rw[cj (by omega) g j (by omega) l],hM.below⟩
    ·have e:decide ((ks.length:Int)<1)=false:=decide_eq_false hlow;rw[e]at hF;refine wlg rfl (bG u26 (m:=0) fM rfl rfl rfl) rfl hF (λa hF=> ?_);refine wlg rfl (bJ u24 rfl rfl (hM.cell 0 rfl rfl)) rfl hF (λa hF=> ?_);refine wlg rfl (bW u24 rfl) rfl hF (λa hF=> ?_);refine wlg rfl (bD rfl) rfl hF (λa hF=> ?_);refine wlg rfl (jr rfl rfl) rfl hF (λa hF=> ?_);refine wl (cQ (b:=false) rfl rfl) rfl hF (λa hF=> ?_);refine bx ?_;refine bA ?_;refine cr hF rfl (λh=> ?_) (λh=> ?_)
     ·have p:=zB h;clear h;refine wp_seq ?_;refine wp_region_lit ?_;refine wl (bz rfl) rfl hF (λa hF=> ?_);refine bx ?_;refine wp_ret ?_;refine bO ?_;refine bv hF (bw Tryd.results78 (RV.tmp hF rfl)) ?_
      first |exact⟨by rw[cn (by omega)],hM.below⟩|exact⟨by rw[cm g j (by omega)],hM.below⟩|exact⟨by rw[ck f],hM.below⟩|exact⟨by rw[cj (by omega) g j (by omega) l],hM.below⟩
     ·have p:=of_decide_eq_false h;clear h;refine wp_skip ?_;refine wp_seq ?_;refine wp_seq ?_;refine wp_region_lit ?_;refine wl (bG u26 (m:=0) fM rfl rfl rfl) rfl hF (λa hF=> ?_);refine wl (bJ u24 rfl rfl (hM.cell 0 rfl rfl)) rfl hF (λa hF=> ?_);refine wl (bW u24 rfl) rfl hF (λa hF=> ?_);refine wl (bD rfl) rfl hF (λa hF=> ?_);refine bx ?_;refine bA ?_;refine wp_block ?_;refine ca (λB a w=>∃(i:Nat),B=ks.length-i/\(i<=ks.length)/\(cA (ks.drop i) (d+1)=cA ks (d+1))/\Frm a 62 [(1,(vI (d:Int))),(2,(vp b1)),(50,(Value.slice ad ks.length cap)),(51,(vI (ks.length:Int))),(52,(vI (i:Int)))]/\Mem w0 w [(b1,#[(vI k),(vI nm),(Value.slice ad ks.length cap)],26)]) _ ⟨0,rfl,(by omega),rfl,hF.sub ⟨rfl,rfl,rfl,rfl,rfl,zo⟩,?_⟩ ?_
      ·exact hM
      rintro _ a w ⟨i,rfl,hl2_0,hl2_1,hF,hM⟩;have H:=hl2_0;have q:=hl2_1;refine wp_seq ?_;refine wp_region_lit ?_;refine wl (eH rfl rfl) rfl hF (λa hF=> ?_);refine bx ?_;refine wp_seq ?_;refine cr hF rfl (λh=> ?_) (λh=> ?_)
      ·have C:=zB h;clear h;obtain⟨b0,o0,D,I,A⟩:=hsl (by omega);obtain⟨t1,hi⟩:∃t,ks[i]? =some t:=⟨_,zp (by omega)⟩;have y:t1∈ks:=zC hi;obtain⟨a1,u,z⟩:=hks.at A i t1 hi;obtain⟨k1,s,r,l1,n,rfl⟩:=u.form;refine wp_skip ?_;refine wp_seq ?_;refine wp_block ?_;refine wp_seq ?_;refine wp_region_lit ?_;refine wl (dU (b:=b0) (o:=o0) u24 b6 (by rw[<-D];rfl) rfl rfl (by omega)) rfl hF (λa hF=> ?_);refine wl (cb u26 rfl b6 rfl (z.mv (Gr.ch hM.below) (by simp)) rfl) rfl hF (λa hF=> ?_);refine wlR (ez z26) rfl hF ?_;rintro _ w a ⟨b3,rfl,hnb_⟩ hF;have hM:Mem w0 w [(b1,#[(vI k),(vI nm),(Value.slice ad ks.length cap)],26),(b3,#[(vI 0),(vI 0),vN],26)]:=hM.alloc hnb_;refine lE (dM (c':= #[(vI k1),(vI s),(Value.slice r l1 n)]) b6 rfl rfl rfl (λv hv=>by simp at hv;rcases hv with rfl|rfl|rfl<;>rfl) (hM.at 1 rfl) rfl) hF ?_;rintro w a hu hF;have hM:Mem w0 w [(b1,#[(vI k),(vI nm),(Value.slice ad ks.length cap)],26),(b3,#[(vI k1),(vI s),(Value.slice r l1 n)],26)]:=hM.upd 1 rfl hu;refine bx ?_;refine wp_seq ?_;refine wp_region_lit ?_;refine wl (eA u26 rfl b6 rfl (hM.at 1 rfl) rfl) rfl hF (λa hF=> ?_);refine wl (bD rfl) rfl hF (λa hF=> ?_);refine wl (ci rfl rfl (bK (by omega) (by omega))) rfl hF (λa hF=> ?_);refine wlR (a_ c78 rfl (ih t1 y X _ (d+1) _ (IsT.mv (Gr.ch hM.below) (by simp) (λx hx=> .inl hx) t1 _ u) (by omega))) rfl hF ?_;rintro _ w a ⟨rfl,hg⟩ hF;have hM:=hM.call hg;refine wl (nC rfl) rfl hF (λa hF=> ?_);refine bx ?_;refine bA ?_;refine cr hF rfl (λh=> ?_) (λh=> ?_)
       ·have hs:=h;clear h;have f:cA ks (d+1)=false:=by rw[<-q,dy hi];simp at hs;simp [hs]
        refine wp_seq ?_;refine wp_region_lit ?_;refine wl (bz rfl) rfl hF (λa hF=> ?_);refine bx ?_;refine wp_ret ?_;refine cd ?_;refine bO ?_;refine bO ?_;refine cd ?_;refine bO ?_;refine bv hF (bw Tryd.results78 (RV.tmp hF rfl)) ?_
        first |exact⟨by rw[cn (by omega)],hM.below⟩|exact⟨by rw[cm g j (by omega)],hM.below⟩|exact⟨by rw[ck f],hM.below⟩|exact⟨by rw[cj (by omega) g j (by omega) l],hM.below⟩
       ·have hs:=h;clear h;have hs:cy t1 (d+1)=true:=by simpa using hs
        refine wp_skip ?_;refine bR ?_;refine bA ?_;refine wp_region_lit ?_;refine wl (ci rfl rfl (bK (by omega) (by omega))) rfl hF (λa hF=> ?_);refine wl (bD rfl) rfl hF (λa hF=> ?_);refine bx ?_;refine bA ?_;refine⟨_,?_,i+1,rfl,(by omega),(by rw[<-q,dy hi,hs,AX]),hF.sub ⟨rfl,rfl,rfl,rfl,rfl,zo⟩,?_⟩
        ·omega
        exact hM.sub (by simp)
      ·have C:=of_decide_eq_false h;clear h;have hi:i=ks.length:=by omega
       have l:cA ks (d+1)=true:=by rw[<-q,hi,AM];rfl
       refine wp_exit ?_;refine bM ?_;refine bM ?_;refine bZ ?_;refine wp_seq ?_;refine wp_region_lit ?_;refine wl (bz rfl) rfl hF (λa hF=> ?_);refine bx ?_;refine wp_ret ?_;refine bv hF (bw Tryd.results78 (RV.tmp hF rfl)) ?_
       first |exact⟨by rw[cn (by omega)],hM.below⟩|exact⟨by rw[cm g j (by omega)],hM.below⟩|exact⟨by rw[ck f],hM.below⟩|exact⟨by rw[cj (by omega) g j (by omega) l],hM.below⟩
  ·have G:=of_decide_eq_false h;clear h;refine wp_seq ?_;refine wp_region_lit ?_;refine wl (dQ rfl rfl) rfl hF (λa hF=> ?_);refine wl (bz rfl) rfl hF (λa hF=> ?_);refine bx ?_;refine bA ?_;refine cr hF rfl (λh=> ?_) (λh=> ?_)
   ·have F:=zB h;clear h;have g:low k=1:=(by simp [low,dZ,F]);have j:dZ k=8:=(by simp [low,dZ,F]);refine wp_region_lit ?_;refine wl (bz rfl) rfl hF (λa hF=> ?_);refine wl (bz rfl) rfl hF (λa hF=> ?_);refine bx ?_;refine bR ?_;refine wp_seq ?_;refine wp_seq ?_;refine wp_region_lit ?_;refine wl (bD rfl) rfl hF (λa hF=> ?_);refine wl (lu rfl rfl) rfl hF (λa hF=> ?_);refine wl (bD rfl) rfl hF (λa hF=> ?_);by_cases hdd:100<=(d:Int)
    ·have e:decide (100<=(d:Int))=true:=decide_eq_true hdd;rw[e]at hF;refine cL (c:=true) rfl rfl rfl hF (λa hF=> ?_);refine cL (c:=true) rfl rfl rfl hF (λa hF=> ?_);refine cL (c:=true) rfl rfl rfl hF (λa hF=> ?_);refine cL (c:=true) rfl rfl rfl hF (λa hF=> ?_);refine cL (c:=true) rfl rfl rfl hF (λa hF=> ?_);refine wl (cQ (b:=true) rfl rfl) rfl hF (λa hF=> ?_);refine wl (bD rfl) rfl hF (λa hF=> ?_);refine cL (c:=true) rfl rfl rfl hF (λa hF=> ?_);refine cL (c:=true) rfl rfl rfl hF (λa hF=> ?_);refine cL (c:=true) rfl rfl rfl hF (λa hF=> ?_);refine cL (c:=true) rfl rfl rfl hF (λa hF=> ?_);refine cL (c:=true) rfl rfl rfl hF (λa hF=> ?_);refine wl (cQ (b:=true) rfl rfl) rfl hF (λa hF=> ?_);refine bx ?_;refine wp_cond_true (hF.eval rfl) ?_;refine wp_seq ?_;refine wp_region_lit ?_;refine wl (bz rfl) rfl hF (λa hF=> ?_);refine bx ?_;refine wp_ret ?_;refine bO ?_;refine bv hF (bw Tryd.results78 (RV.tmp hF rfl)) ?_
     first |exact⟨by rw[cn (by omega)],hM.below⟩|exact⟨by rw[cm g j (by omega)],hM.below⟩|exact⟨by rw[ck f],hM.below⟩|exact⟨by rw[cj (by omega) g j (by omega) l],hM.below⟩
    ·have e:decide (100<=(d:Int))=false:=decide_eq_false hdd;rw[e]at hF;refine wlg rfl (bG u26 (m:=0) fM rfl rfl rfl) rfl hF (λa hF=> ?_);refine wlg rfl (bJ u24 rfl rfl (hM.cell 0 rfl rfl)) rfl hF (λa hF=> ?_);refine wlg rfl (bW u24 rfl) rfl hF (λa hF=> ?_);refine wlg rfl (bD rfl) rfl hF (λa hF=> ?_);refine wlg rfl (eH rfl rfl) rfl hF (λa hF=> ?_);refine wl (cQ (b:=false) rfl rfl) rfl hF (λa hF=> ?_);refine wl (bD rfl) rfl hF (λa hF=> ?_);by_cases hlow:(ks.length:Int)<1
     ·have e:decide ((ks.length:Int)<1)=true:=decide_eq_true hlow;rw[e]at hF;refine cL (c:=true) rfl rfl rfl hF (λa hF=> ?_);refine cL (c:=true) rfl rfl rfl hF (λa hF=> ?_);refine cL (c:=true) rfl rfl rfl hF (λa hF=> ?_);refine cL (c:=true) rfl rfl rfl hF (λa hF=> ?_);refine cL (c:=true) rfl rfl rfl hF (λa hF=> ?_);refine wl (cQ (b:=true) rfl rfl) rfl hF (λa hF=> ?_);refine bx ?_;refine wp_cond_true (hF.eval rfl) ?_;refine wp_seq ?_;refine wp_region_lit ?_;refine wl (bz rfl) rfl hF (λa hF=> ?_);refine bx ?_;refine wp_ret ?_;refine bO ?_;refine bv hF (bw Tryd.results78 (RV.tmp hF rfl)) ?_
      first |exact⟨by rw[cn (by omega)],hM.below⟩|exact⟨by rw[cm g j (by omega)],hM.below⟩|exact⟨by rw[ck f],hM.below⟩|exact⟨by rw[cj (by omega) g j (by omega) l],hM.below⟩
     ·have e:decide ((ks.length:Int)<1)=false:=decide_eq_false hlow;rw[e]at hF;refine wlg rfl (bG u26 (m:=0) fM rfl rfl rfl) rfl hF (λa hF=> ?_);refine wlg rfl (bJ u24 rfl rfl (hM.cell 0 rfl rfl)) rfl hF (λa hF=> ?_);refine wlg rfl (bW u24 rfl) rfl hF (λa hF=> ?_);refine wlg rfl (bD rfl) rfl hF (λa hF=> ?_);refine wlg rfl (jr rfl rfl) rfl hF (λa hF=> ?_);refine wl (cQ (b:=false) rfl rfl) rfl hF (λa hF=> ?_);refine bx ?_;refine bA ?_;refine cr hF rfl (λh=> ?_) (λh=> ?_)
      ·have p:=zB h;clear h;refine wp_seq ?_;refine wp_region_lit ?_;refine wl (bz rfl) rfl hF (λa hF=> ?_);refine bx ?_;refine wp_ret ?_;refine bO ?_;refine bv hF (bw Tryd.results78 (RV.tmp hF rfl)) ?_
       first |exact⟨by rw[cn (by omega)],hM.below⟩|exact⟨by rw[cm g j (by omega)],hM.below⟩|exact⟨by rw[ck f],hM.below⟩|exact⟨by rw[cj (by omega) g j (by omega) l],hM.below⟩
      ·have p:=of_decide_eq_false h;clear h;refine wp_skip ?_;refine wp_seq ?_;refine wp_seq ?_;refine wp_region_lit ?_;refine wl (bG u26 (m:=0) fM rfl rfl rfl) rfl hF (λa hF=> ?_);refine wl (bJ u24 rfl rfl (hM.cell 0 rfl rfl)) rfl hF (λa hF=> ?_);refine wl (bW u24 rfl) rfl hF (λa hF=> ?_);refine wl (bD rfl) rfl hF (λa hF=> ?_);refine bx ?_;refine bA ?_;refine wp_block ?_;refine ca (λB a w=>∃(i:Nat),B=ks.length-i/\(i<=ks.length)/\(cA (ks.drop i) (d+1)=cA ks (d+1))/\Frm a 62 [(1,(vI (d:Int))),(2,(vp b1)),(50,(Value.slice ad ks.length cap)),(51,(vI (ks.length:Int))),(52,(vI (i:Int)))]/\Mem w0 w [(b1,#[(vI k),(vI nm),(Value.slice ad ks.length cap)],26)]) _ ⟨0,rfl,(by omega),rfl,hF.sub ⟨rfl,rfl,rfl,rfl,rfl,zo⟩,?_⟩ ?_
       ·exact hM
       rintro _ a w ⟨i,rfl,hl3_0,hl3_1,hF,hM⟩;have H:=hl3_0;have q:=hl3_1;refine wp_seq ?_;refine wp_region_lit ?_;refine wl (eH rfl rfl) rfl hF (λa hF=> ?_);refine bx ?_;refine wp_seq ?_;refine cr hF rfl (λh=> ?_) (λh=> ?_)
       ·have C:=zB h;clear h;obtain⟨b0,o0,D,I,A⟩:=hsl (by omega);obtain⟨t1,hi⟩:∃t,ks[i]? =some t:=⟨_,zp (by omega)⟩;have y:t1∈ks:=zC hi;obtain⟨a1,u,z⟩:=hks.at A i t1 hi;obtain⟨k1,s,r,l1,n,rfl⟩:=u.form;refine wp_skip ?_;refine wp_seq ?_;refine wp_block ?_;refine wp_seq ?_;refine wp_region_lit ?_;refine wl (dU (b:=b0) (o:=o0) u24 b6 (by rw[<-D];rfl) rfl rfl (by omega)) rfl hF (λa hF=> ?_);refine wl (cb u26 rfl b6 rfl (z.mv (Gr.ch hM.below) (by simp)) rfl) rfl hF (λa hF=> ?_);refine wlR (ez z26) rfl hF ?_;rintro _ w a ⟨b4,rfl,hnb_⟩ hF;have hM:Mem w0 w [(b1,#[(vI k),(vI nm),(Value.slice ad ks.length cap)],26),(b4,#[(vI 0),(vI 0),vN],26)]:=hM.alloc hnb_;refine lE (dM (c':= #[(vI k1),(vI s),(Value.slice r l1 n)]) b6 rfl rfl rfl (λv hv=>by simp at hv;rcases hv with rfl|rfl|rfl<;>rfl) (hM.at 1 rfl) rfl) hF ?_;rintro w a hu hF;have hM:Mem w0 w [(b1,#[(vI k),(vI nm),(Value.slice ad ks.length cap)],26),(b4,#[(vI k1),(vI s),(Value.slice r l1 n)],26)]:=hM.upd 1 rfl hu;refine bx ?_;refine wp_seq ?_;refine wp_region_lit ?_;refine wl (eA u26 rfl b6 rfl (hM.at 1 rfl) rfl) rfl hF (λa hF=> ?_);refine wl (bD rfl) rfl hF (λa hF=> ?_);refine wl (ci rfl rfl (bK (by omega) (by omega))) rfl hF (λa hF=> ?_);refine wlR (a_ c78 rfl (ih t1 y X _ (d+1) _ (IsT.mv (Gr.ch hM.below) (by simp) (λx hx=> .inl hx) t1 _ u) (by omega))) rfl hF ?_;rintro _ w a ⟨rfl,hg⟩ hF;have hM:=hM.call hg;refine wl (nC rfl) rfl hF (λa hF=> ?_);refine bx ?_;refine bA ?_;refine cr hF rfl (λh=> ?_) (λh=> ?_)
        ·have hs:=h;clear h;have f:cA ks (d+1)=false:=by rw[<-q,dy hi];simp at hs;simp [hs]
         refine wp_seq ?_;refine wp_region_lit ?_;refine wl (bz rfl) rfl hF (λa hF=> ?_);refine bx ?_;refine wp_ret ?_;refine cd ?_;refine bO ?_;refine bO ?_;refine cd ?_;refine bO ?_;refine bv hF (bw Tryd.results78 (RV.tmp hF rfl)) ?_
         first |exact⟨by rw[cn (by omega)],hM.below⟩|exact⟨by rw[cm g j (by omega)],hM.below⟩|exact⟨by rw[ck f],hM.below⟩|exact⟨by rw[cj (by omega) g j (by omega) l],hM.below⟩
        ·have hs:=h;clear h;have hs:cy t1 (d+1)=true:=by simpa using hs
         refine wp_skip ?_;refine bR ?_;refine bA ?_;refine wp_region_lit ?_;refine wl (ci rfl rfl (bK (by omega) (by omega))) rfl hF (λa hF=> ?_);refine wl (bD rfl) rfl hF (λa hF=> ?_);refine bx ?_;refine bA ?_;refine⟨_,?_,i+1,rfl,(by omega),(by rw[<-q,dy hi,hs,AX]),hF.sub ⟨rfl,rfl,rfl,rfl,rfl,zo⟩,?_⟩
         ·omega
         exact hM.sub (by simp)
       ·have C:=of_decide_eq_false h;clear h;have hi:i=ks.length:=by omega
        have l:cA ks (d+1)=true:=by rw[<-q,hi,AM];rfl
        refine wp_exit ?_;refine bM ?_;refine bM ?_;refine bZ ?_;refine wp_seq ?_;refine wp_region_lit ?_;refine wl (bz rfl) rfl hF (λa hF=> ?_);refine bx ?_;refine wp_ret ?_;refine bv hF (bw Tryd.results78 (RV.tmp hF rfl)) ?_
        first |exact⟨by rw[cn (by omega)],hM.below⟩|exact⟨by rw[cm g j (by omega)],hM.below⟩|exact⟨by rw[ck f],hM.below⟩|exact⟨by rw[cj (by omega) g j (by omega) l],hM.below⟩
   ·have F:=of_decide_eq_false h;clear h;refine wp_seq ?_;refine wp_region_lit ?_;refine wl (bG u26 (m:=0) sz3 rfl rfl rfl) rfl hF (λa hF=> ?_);refine wl (bJ Tryd.underlying3 rfl rfl (hM.cell 0 rfl rfl)) rfl hF (λa hF=> ?_);refine wl (eH rfl rfl) rfl hF (λa hF=> ?_);refine wl (bD rfl) rfl hF (λa hF=> ?_);by_cases hkl:k<1
    ·have e:decide (k<1)=true:=decide_eq_true hkl;rw[e]at hF;refine cL (c:=true) rfl rfl rfl hF (λa hF=> ?_);refine cL (c:=true) rfl rfl rfl hF (λa hF=> ?_);refine cL (c:=true) rfl rfl rfl hF (λa hF=> ?_);refine wl (cQ (b:=true) rfl rfl) rfl hF (λa hF=> ?_);refine bx ?_;refine wp_cond_true (hF.eval rfl) ?_;refine wp_seq ?_;refine wp_region_lit ?_;refine wl (bz rfl) rfl hF (λa hF=> ?_);refine bx ?_;refine wp_ret ?_;refine cd ?_;refine bO ?_;refine bv hF (bw Tryd.results78 (RV.tmp hF rfl)) ?_
     first |exact⟨by rw[cn (by omega)],hM.below⟩|exact⟨by rw[cm g j (by omega)],hM.below⟩|exact⟨by rw[ck f],hM.below⟩|exact⟨by rw[cj (by omega) g j (by omega) l],hM.below⟩
    ·have e:decide (k<1)=false:=decide_eq_false hkl;rw[e]at hF;refine wlg rfl (bG u26 (m:=0) sz3 rfl rfl rfl) rfl hF (λa hF=> ?_);refine wlg rfl (bJ Tryd.underlying3 rfl rfl (hM.cell 0 rfl rfl)) rfl hF (λa hF=> ?_);refine wlg rfl (jr rfl rfl) rfl hF (λa hF=> ?_);refine wl (cQ (b:=false) rfl rfl) rfl hF (λa hF=> ?_);refine bx ?_;refine bA ?_;refine cr hF rfl (λh=> ?_) (λh=> ?_)
     ·have J:=zB h;clear h;refine wp_seq ?_;refine wp_region_lit ?_;refine wl (bz rfl) rfl hF (λa hF=> ?_);refine bx ?_;refine wp_ret ?_;refine cd ?_;refine bO ?_;refine bv hF (bw Tryd.results78 (RV.tmp hF rfl)) ?_
      first |exact⟨by rw[cn (by omega)],hM.below⟩|exact⟨by rw[cm g j (by omega)],hM.below⟩|exact⟨by rw[ck f],hM.below⟩|exact⟨by rw[cj (by omega) g j (by omega) l],hM.below⟩
     ·have J:=of_decide_eq_false h;clear h;have g:low k=2:=(by simp [low,dZ,E,G,F]);have j:dZ k=2:=(by simp [low,dZ,E,G,F]);refine wp_skip ?_;refine bR ?_;refine wp_seq ?_;refine wp_seq ?_;refine wp_region_lit ?_;refine wl (bD rfl) rfl hF (λa hF=> ?_);refine wl (lu rfl rfl) rfl hF (λa hF=> ?_);refine wl (bD rfl) rfl hF (λa hF=> ?_);by_cases hdd:100<=(d:Int)
      ·have e:decide (100<=(d:Int))=true:=decide_eq_true hdd;rw[e]at hF;refine cL (c:=true) rfl rfl rfl hF (λa hF=> ?_);refine cL (c:=true) rfl rfl rfl hF (λa hF=> ?_);refine cL (c:=true) rfl rfl rfl hF (λa hF=> ?_);refine cL (c:=true) rfl rfl rfl hF (λa hF=> ?_);refine cL (c:=true) rfl rfl rfl hF (λa hF=> ?_);refine wl (cQ (b:=true) rfl rfl) rfl hF (λa hF=> ?_);refine wl (bD rfl) rfl hF (λa hF=> ?_);refine cL (c:=true) rfl rfl rfl hF (λa hF=> ?_);refine cL (c:=true) rfl rfl rfl hF (λa hF=> ?_);refine cL (c:=true) rfl rfl rfl hF (λa hF=> ?_);refine cL (c:=true) rfl rfl rfl hF (λa hF=> ?_);refine cL (c:=true) rfl rfl rfl hF (λa hF=> ?_);refine wl (cQ (b:=true) rfl rfl) rfl hF (λa hF=> ?_);refine bx ?_;refine wp_cond_true (hF.eval rfl) ?_;refine wp_seq ?_;refine wp_region_lit ?_;refine wl (bz rfl) rfl hF (λa hF=> ?_);refine bx ?_;refine wp_ret ?_;refine bO ?_;refine bv hF (bw Tryd.results78 (RV.tmp hF rfl)) ?_
       first |exact⟨by rw[cn (by omega)],hM.below⟩|exact⟨by rw[cm g j (by omega)],hM.below⟩|exact⟨by rw[ck f],hM.below⟩|exact⟨by rw[cj (by omega) g j (by omega) l],hM.below⟩
      ·have e:decide (100<=(d:Int))=false:=decide_eq_false hdd;rw[e]at hF;refine wlg rfl (bG u26 (m:=0) fM rfl rfl rfl) rfl hF (λa hF=> ?_);refine wlg rfl (bJ u24 rfl rfl (hM.cell 0 rfl rfl)) rfl hF (λa hF=> ?_);refine wlg rfl (bW u24 rfl) rfl hF (λa hF=> ?_);refine wlg rfl (bD rfl) rfl hF (λa hF=> ?_);refine wlg rfl (eH rfl rfl) rfl hF (λa hF=> ?_);refine wl (cQ (b:=false) rfl rfl) rfl hF (λa hF=> ?_);refine wl (bD rfl) rfl hF (λa hF=> ?_);by_cases hlow:(ks.length:Int)<2
       ·have e:decide ((ks.length:Int)<2)=true:=decide_eq_true hlow;rw[e]at hF;refine cL (c:=true) rfl rfl rfl hF (λa hF=> ?_);refine cL (c:=true) rfl rfl rfl hF (λa hF=> ?_);refine cL (c:=true) rfl rfl rfl hF (λa hF=> ?_);refine cL (c:=true) rfl rfl rfl hF (λa hF=> ?_);refine cL (c:=true) rfl rfl rfl hF (λa hF=> ?_);refine wl (cQ (b:=true) rfl rfl) rfl hF (λa hF=> ?_);refine bx ?_;refine wp_cond_true (hF.eval rfl) ?_;refine wp_seq ?_;refine wp_region_lit ?_;refine wl (bz rfl) rfl hF (λa hF=> ?_);refine bx ?_;refine wp_ret ?_;refine bO ?_;refine bv hF (bw Tryd.results78 (RV.tmp hF rfl)) ?_
        first |exact⟨by rw[cn (by omega)],hM.below⟩|exact⟨by rw[cm g j (by omega)],hM.below⟩|exact⟨by rw[ck f],hM.below⟩|exact⟨by rw[cj (by omega) g j (by omega) l],hM.below⟩
       ·have e:decide ((ks.length:Int)<2)=false:=decide_eq_false hlow;rw[e]at hF;refine wlg rfl (bG u26 (m:=0) fM rfl rfl rfl) rfl hF (λa hF=> ?_);refine wlg rfl (bJ u24 rfl rfl (hM.cell 0 rfl rfl)) rfl hF (λa hF=> ?_);refine wlg rfl (bW u24 rfl) rfl hF (λa hF=> ?_);refine wlg rfl (bD rfl) rfl hF (λa hF=> ?_);refine wlg rfl (jr rfl rfl) rfl hF (λa hF=> ?_);refine wl (cQ (b:=false) rfl rfl) rfl hF (λa hF=> ?_);refine bx ?_;refine bA ?_;refine cr hF rfl (λh=> ?_) (λh=> ?_)
        ·have p:=zB h;clear h;refine wp_seq ?_;refine wp_region_lit ?_;refine wl (bz rfl) rfl hF (λa hF=> ?_);refine bx ?_;refine wp_ret ?_;refine bO ?_;refine bv hF (bw Tryd.results78 (RV.tmp hF rfl)) ?_
         first |exact⟨by rw[cn (by omega)],hM.below⟩|exact⟨by rw[cm g j (by omega)],hM.below⟩|exact⟨by rw[ck f],hM.below⟩|exact⟨by rw[cj (by omega) g j (by omega) l],hM.below⟩
        ·have p:=of_decide_eq_false h;clear h;refine wp_skip ?_;refine wp_seq ?_;refine wp_seq ?_;refine wp_region_lit ?_;refine wl (bG u26 (m:=0) fM rfl rfl rfl) rfl hF (λa hF=> ?_);refine wl (bJ u24 rfl rfl (hM.cell 0 rfl rfl)) rfl hF (λa hF=> ?_);refine wl (bW u24 rfl) rfl hF (λa hF=> ?_);refine wl (bD rfl) rfl hF (λa hF=> ?_);refine bx ?_;refine bA ?_;refine wp_block ?_;refine ca (λB a w=>∃(i:Nat),B=ks.length-i/\(i<=ks.length)/\(cA (ks.drop i) (d+1)=cA ks (d+1))/\Frm a 62 [(1,(vI (d:Int))),(2,(vp b1)),(50,(Value.slice ad ks.length cap)),(51,(vI (ks.length:Int))),(52,(vI (i:Int)))]/\Mem w0 w [(b1,#[(vI k),(vI nm),(Value.slice ad ks.length cap)],26)]) _ ⟨0,rfl,(by omega),rfl,hF.sub ⟨rfl,rfl,rfl,rfl,rfl,zo⟩,?_⟩ ?_
         ·exact hM
         rintro _ a w ⟨i,rfl,hl4_0,hl4_1,hF,hM⟩;have H:=hl4_0;have q:=hl4_1;refine wp_seq ?_;refine wp_region_lit ?_;refine wl (eH rfl rfl) rfl hF (λa hF=> ?_);refine bx ?_;refine wp_seq ?_;refine cr hF rfl (λh=> ?_) (λh=> ?_)
         ·have C:=zB h;clear h;obtain⟨b0,o0,D,I,A⟩:=hsl (by omega);obtain⟨t1,hi⟩:∃t,ks[i]? =some t:=⟨_,zp (by omega)⟩;have y:t1∈ks:=zC hi;obtain⟨a1,u,z⟩:=hks.at A i t1 hi;obtain⟨k1,s,r,l1,n,rfl⟩:=u.form;refine wp_skip ?_;refine wp_seq ?_;refine wp_block ?_;refine wp_seq ?_;refine wp_region_lit ?_;refine wl (dU (b:=b0) (o:=o0) u24 b6 (by rw[<-D];rfl) rfl rfl (by omega)) rfl hF (λa hF=> ?_);refine wl (cb u26 rfl b6 rfl (z.mv (Gr.ch hM.below) (by simp)) rfl) rfl hF (λa hF=> ?_);refine wlR (ez z26) rfl hF ?_;rintro _ w a ⟨b5,rfl,hnb_⟩ hF;have hM:Mem w0 w [(b1,#[(vI k),(vI nm),(Value.slice ad ks.length cap)],26),(b5,#[(vI 0),(vI 0),vN],26)]:=hM.alloc hnb_;refine lE (dM (c':= #[(vI k1),(vI s),(Value.slice r l1 n)]) b6 rfl rfl rfl (λv hv=>by simp at hv;rcases hv with rfl|rfl|rfl<;>rfl) (hM.at 1 rfl) rfl) hF ?_;rintro w a hu hF;have hM:Mem w0 w [(b1,#[(vI k),(vI nm),(Value.slice ad ks.length cap)],26),(b5,#[(vI k1),(vI s),(Value.slice r l1 n)],26)]:=hM.upd 1 rfl hu;refine bx ?_;refine wp_seq ?_;refine wp_region_lit ?_;refine wl (eA u26 rfl b6 rfl (hM.at 1 rfl) rfl) rfl hF (λa hF=> ?_);refine wl (bD rfl) rfl hF (λa hF=> ?_);refine wl (ci rfl rfl (bK (by omega) (by omega))) rfl hF (λa hF=> ?_);refine wlR (a_ c78 rfl (ih t1 y X _ (d+1) _ (IsT.mv (Gr.ch hM.below) (by simp) (λx hx=> .inl hx) t1 _ u) (by omega))) rfl hF ?_;rintro _ w a ⟨rfl,hg⟩ hF;have hM:=hM.call hg;refine wl (nC rfl) rfl hF (λa hF=> ?_);refine bx ?_;refine bA ?_;refine cr hF rfl (λh=> ?_) (λh=> ?_)
          ·have hs:=h;clear h;have f:cA ks (d+1)=false:=by rw[<-q,dy hi];simp at hs;simp [hs]
           refine wp_seq ?_;refine wp_region_lit ?_;refine wl (bz rfl) rfl hF (λa hF=> ?_);refine bx ?_;refine wp_ret ?_;refine cd ?_;refine bO ?_;refine bO ?_;refine cd ?_;refine bO ?_;refine bv hF (bw Tryd.results78 (RV.tmp hF rfl)) ?_
           first |exact⟨by rw[cn (by omega)],hM.below⟩|exact⟨by rw[cm g j (by omega)],hM.below⟩|exact⟨by rw[ck f],hM.below⟩|exact⟨by rw[cj (by omega) g j (by omega) l],hM.below⟩
          ·have hs:=h;clear h;have hs:cy t1 (d+1)=true:=by simpa using hs
           refine wp_skip ?_;refine bR ?_;refine bA ?_;refine wp_region_lit ?_;refine wl (ci rfl rfl (bK (by omega) (by omega))) rfl hF (λa hF=> ?_);refine wl (bD rfl) rfl hF (λa hF=> ?_);refine bx ?_;refine bA ?_;refine⟨_,?_,i+1,rfl,(by omega),(by rw[<-q,dy hi,hs,AX]),hF.sub ⟨rfl,rfl,rfl,rfl,rfl,zo⟩,?_⟩
           ·omega
           exact hM.sub (by simp)
         ·have C:=of_decide_eq_false h;clear h;have hi:i=ks.length:=by omega
          have l:cA ks (d+1)=true:=by rw[<-q,hi,AM];rfl
          refine wp_exit ?_;refine bM ?_;refine bM ?_;refine bZ ?_;refine wp_seq ?_;refine wp_region_lit ?_;refine wl (bz rfl) rfl hF (λa hF=> ?_);refine bx ?_;refine wp_ret ?_;refine bv hF (bw Tryd.results78 (RV.tmp hF rfl)) ?_
          first |exact⟨by rw[cn (by omega)],hM.below⟩|exact⟨by rw[cm g j (by omega)],hM.below⟩|exact⟨by rw[ck f],hM.below⟩|exact⟨by rw[cj (by omega) g j (by omega) l],hM.below⟩
theorem lK (t:Tm):∀(X:List Nat) (vs:List Value) (d:Nat) (w:World),IsT w X t vs->d<=1000->Calls Tryd.prog 78 (List.toArray [.agg vs.toArray,.int .i64 d]) w (Ret λv w'=>v= .bool (cy t d)/\Gr w w'):=by refine Tm.ind (p:=λt=>∀(X:List Nat) (vs:List Value) (d:Nat) (w:World),IsT w X t vs->d<=1000->Calls Tryd.prog 78 (List.toArray [.agg vs.toArray,.int .i64 d]) w (Ret λv w'=>v= .bool (cy t d)/\Gr w w')) ?_ t;intro k nm ks ih X vs d w ht hd;simp only[IsT]at ht;obtain⟨sl,xs,rfl,h1,h2⟩:=ht;obtain⟨ad,cap,rfl,h3⟩:=h1.form;exact mR ih d hd w h3 h2
end Go.Mi.Term
namespace Go.Mi.Term
open Go.Mi Go.Proofs Go.RowKit
set_option maxRecDepth 100000 in
theorem je {t:Tm} {X:List Nat} {k nm:Int} {ad:Option Addr} {l cap:Nat} (w0:World) (ht:IsT w0 X t [.int .i64 k,.int .i64 nm,.slice ad l cap]):Calls Tryd.prog 42 (List.toArray [.agg #[.int .i64 k,.int .i64 nm,.slice ad l cap]]) w0 (Ret λv w'=>v= .bool (may t)/\Gr w0 w'):=by
 refine cq Tryd.func42 rfl Tryd.ntmps42 rfl λa hF=> ?_;have hM:=Mem.start w0;have hF:=hF.sub (L':=[(0,(Value.agg (#[(vI k),(vI nm),(Value.slice ad l cap)])))]) ⟨rfl,zo⟩;refine wp_seq ?_;refine wp_region_lit ?_;refine wlR (dG rfl) rfl hF ?_;rintro _ w a ⟨b1,rfl,hnb_⟩ hF;have hM:Mem w0 w [(b1,#[(vI k),(vI nm),(Value.slice ad l cap)],26)]:=hM.alloc hnb_;refine wl (bz rfl) rfl hF (λa hF=> ?_);refine bx ?_;refine wp_seq ?_;refine wp_region_lit ?_;refine wl (eA u26 rfl b6 rfl (hM.at 0 rfl) rfl) rfl hF (λa hF=> ?_);refine wlR (a_ c77 rfl (oM _ (IsT.mv (Gr.ch hM.below) (by simp) (λx hx=> .inl hx) t _ ht))) rfl hF ?_;rintro _ w a ⟨rfl,hg⟩ hF;have hM:=hM.call hg;refine wl (u_ rfl rfl) rfl hF (λa hF=> ?_);refine wl (bD rfl) rfl hF (λa hF=> ?_);by_cases hsz:((size t:Nat):Int)<=5000
 ·have d:decide (((size t:Nat):Int)<=5000)=true:=decide_eq_true hsz;rw[d]at hF;refine wlg rfl (eA u26 rfl b6 rfl (hM.at 0 rfl) rfl) rfl hF (λa hF=> ?_);refine yI rfl (a_ c78 rfl (lK t X _ 0 _ (IsT.mv (Gr.ch hM.below) (by simp) (λx hx=> .inl hx) t _ ht) (by omega))) rfl hF ?_;rintro _ w a ⟨rfl,hg⟩ hF;have hM:=hM.call hg;refine wl (cQ (b:=true) rfl rfl) rfl hF (λa hF=> ?_);refine wl (bz rfl) rfl hF (λa hF=> ?_);refine bx ?_;refine wp_ret ?_;refine bv hF (bw Tryd.results42 (RV.tmp hF rfl)) ?_
  first |exact⟨by rw[pi (by omega)],hM.below⟩|exact⟨by rw[rS (by omega)],hM.below⟩
 ·have d:decide (((size t:Nat):Int)<=5000)=false:=decide_eq_false hsz;rw[d]at hF;refine cL (c:=false) rfl rfl rfl hF (λa hF=> ?_);refine cL (c:=false) rfl rfl rfl hF (λa hF=> ?_);refine wl (cQ (b:=false) rfl rfl) rfl hF (λa hF=> ?_);refine wl (bz rfl) rfl hF (λa hF=> ?_);refine bx ?_;refine wp_ret ?_;refine bv hF (bw Tryd.results42 (RV.tmp hF rfl)) ?_
  first |exact⟨by rw[pi (by omega)],hM.below⟩|exact⟨by rw[rS (by omega)],hM.below⟩
end Go.Mi.Term
namespace Go.Mi.Term
open Go.Mi Go.Proofs Go.RowKit
set_option maxRecDepth 100000 in
theorem mK (w0:World):Calls Tryd.prog 97 (List.toArray [.int .i64 1]) w0 (Ret λv w'=>v= .string (bs (dB 1))/\Gr w0 w'):=by refine cq Tryd.func97 rfl Tryd.ntmps97 rfl λa hF=> ?_;have hM:=Mem.start w0;have hF:=hF.sub (L':=[(0,(vI 1))]) ⟨rfl,zo⟩;refine wp_seq ?_;refine wp_region_lit ?_;refine wl (bz rfl) rfl hF (λa hF=> ?_);refine bx ?_;refine wp_seq ?_;refine wp_region_lit ?_;refine wlR (bU (cells:= #[(vT []),(vT [110]),(vT [112,117,98]),(vT [100,104]),(vT [107,101,109]),(vT [99,116]),(vT [104]),(vT [101,110,99]),(vT [115,105,103]),(vT [112,97,105,114])]) eD zz9 rfl (by decide) (by decide) (by kernel_rfl)) rfl hF ?_;rintro _ w a ⟨b1,rfl,hnb_⟩ hF;have hM:Mem w0 w [(b1,#[(vT []),(vT [110]),(vT [112,117,98]),(vT [100,104]),(vT [107,101,109]),(vT [99,116]),(vT [104]),(vT [101,110,99]),(vT [115,105,103]),(vT [112,97,105,114])],9)]:=hM.alloc hnb_;refine wl (bz rfl) rfl hF (λa hF=> ?_);refine bx ?_;refine wp_seq ?_;refine wp_region_lit ?_;refine wl (bD rfl) rfl hF (λa hF=> ?_);refine wl (bD rfl) rfl hF (λa hF=> ?_);refine wl (ej (j:=1) eD sz9 rfl rfl rfl (by omega)) rfl hF (λa hF=> ?_);refine wl (bJ u9 rfl rfl (hM.cell 0 rfl rfl)) rfl hF (λa hF=> ?_);refine wl (bz rfl) rfl hF (λa hF=> ?_);refine bx ?_;refine wp_ret ?_;refine bv hF (bw Tryd.results97 (RV.tmp hF rfl)) ?_;exact⟨rfl,hM.below⟩
set_option maxRecDepth 100000 in
theorem mJ (w0:World):Calls Tryd.prog 97 (List.toArray [.int .i64 2]) w0 (Ret λv w'=>v= .string (bs (dB 2))/\Gr w0 w'):=by refine cq Tryd.func97 rfl Tryd.ntmps97 rfl λa hF=> ?_;have hM:=Mem.start w0;have hF:=hF.sub (L':=[(0,(vI 2))]) ⟨rfl,zo⟩;refine wp_seq ?_;refine wp_region_lit ?_;refine wl (bz rfl) rfl hF (λa hF=> ?_);refine bx ?_;refine wp_seq ?_;refine wp_region_lit ?_;refine wlR (bU (cells:= #[(vT []),(vT [110]),(vT [112,117,98]),(vT [100,104]),(vT [107,101,109]),(vT [99,116]),(vT [104]),(vT [101,110,99]),(vT [115,105,103]),(vT [112,97,105,114])]) eD zz9 rfl (by decide) (by decide) (by kernel_rfl)) rfl hF ?_;rintro _ w a ⟨b1,rfl,hnb_⟩ hF;have hM:Mem w0 w [(b1,#[(vT []),(vT [110]),(vT [112,117,98]),(vT [100,104]),(vT [107,101,109]),(vT [99,116]),(vT [104]),(vT [101,110,99]),(vT [115,105,103]),(vT [112,97,105,114])],9)]:=hM.alloc hnb_;refine wl (bz rfl) rfl hF (λa hF=> ?_);refine bx ?_;refine wp_seq ?_;refine wp_region_lit ?_;refine wl (bD rfl) rfl hF (λa hF=> ?_);refine wl (bD rfl) rfl hF (λa hF=> ?_);refine wl (ej (j:=2) eD sz9 rfl rfl rfl (by omega)) rfl hF (λa hF=> ?_);refine wl (bJ u9 rfl rfl (hM.cell 0 rfl rfl)) rfl hF (λa hF=> ?_);refine wl (bz rfl) rfl hF (λa hF=> ?_);refine bx ?_;refine wp_ret ?_;refine bv hF (bw Tryd.results97 (RV.tmp hF rfl)) ?_;exact⟨rfl,hM.below⟩
set_option maxRecDepth 100000 in
theorem mI (w0:World):Calls Tryd.prog 97 (List.toArray [.int .i64 3]) w0 (Ret λv w'=>v= .string (bs (dB 3))/\Gr w0 w'):=by refine cq Tryd.func97 rfl Tryd.ntmps97 rfl λa hF=> ?_;have hM:=Mem.start w0;have hF:=hF.sub (L':=[(0,(vI 3))]) ⟨rfl,zo⟩;refine wp_seq ?_;refine wp_region_lit ?_;refine wl (bz rfl) rfl hF (λa hF=> ?_);refine bx ?_;refine wp_seq ?_;refine wp_region_lit ?_;refine wlR (bU (cells:= #[(vT []),(vT [110]),(vT [112,117,98]),(vT [100,104]),(vT [107,101,109]),(vT [99,116]),(vT [104]),(vT [101,110,99]),(vT [115,105,103]),(vT [112,97,105,114])]) eD zz9 rfl (by decide) (by decide) (by kernel_rfl)) rfl hF ?_;rintro _ w a ⟨b1,rfl,hnb_⟩ hF;have hM:Mem w0 w [(b1,#[(vT []),(vT [110]),(vT [112,117,98]),(vT [100,104]),(vT [107,101,109]),(vT [99,116]),(vT [104]),(vT [101,110,99]),(vT [115,105,103]),(vT [112,97,105,114])],9)]:=hM.alloc hnb_;refine wl (bz rfl) rfl hF (λa hF=> ?_);refine bx ?_;refine wp_seq ?_;refine wp_region_lit ?_;refine wl (bD rfl) rfl hF (λa hF=> ?_);refine wl (bD rfl) rfl hF (λa hF=> ?_);refine wl (ej (j:=3) eD sz9 rfl rfl rfl (by omega)) rfl hF (λa hF=> ?_);refine wl (bJ u9 rfl rfl (hM.cell 0 rfl rfl)) rfl hF (λa hF=> ?_);refine wl (bz rfl) rfl hF (λa hF=> ?_);refine bx ?_;refine wp_ret ?_;refine bv hF (bw Tryd.results97 (RV.tmp hF rfl)) ?_;exact⟨rfl,hM.below⟩
set_option maxRecDepth 100000 in
theorem mH (w0:World):Calls Tryd.prog 97 (List.toArray [.int .i64 4]) w0 (Ret λv w'=>v= .string (bs (dB 4))/\Gr w0 w'):=by refine cq Tryd.func97 rfl Tryd.ntmps97 rfl λa hF=> ?_;have hM:=Mem.start w0;have hF:=hF.sub (L':=[(0,(vI 4))]) ⟨rfl,zo⟩;refine wp_seq ?_;refine wp_region_lit ?_;refine wl (bz rfl) rfl hF (λa hF=> ?_);refine bx ?_;refine wp_seq ?_;refine wp_region_lit ?_;refine wlR (bU (cells:= #[(vT []),(vT [110]),(vT [112,117,98]),(vT [100,104]),(vT [107,101,109]),(vT [99,116]),(vT [104]),(vT [101,110,99]),(vT [115,105,103]),(vT [112,97,105,114])]) eD zz9 rfl (by decide) (by decide) (by kernel_rfl)) rfl hF ?_;rintro _ w a ⟨b1,rfl,hnb_⟩ hF;have hM:Mem w0 w [(b1,#[(vT []),(vT [110]),(vT [112,117,98]),(vT [100,104]),(vT [107,101,109]),(vT [99,116]),(vT [104]),(vT [101,110,99]),(vT [115,105,103]),(vT [112,97,105,114])],9)]:=hM.alloc hnb_;refine wl (bz rfl) rfl hF (λa hF=> ?_);refine bx ?_;refine wp_seq ?_;refine wp_region_lit ?_;refine wl (bD rfl) rfl hF (λa hF=> ?_);refine wl (bD rfl) rfl hF (λa hF=> ?_);refine wl (ej (j:=4) eD sz9 rfl rfl rfl (by omega)) rfl hF (λa hF=> ?_);refine wl (bJ u9 rfl rfl (hM.cell 0 rfl rfl)) rfl hF (λa hF=> ?_);refine wl (bz rfl) rfl hF (λa hF=> ?_);refine bx ?_;refine wp_ret ?_;refine bv hF (bw Tryd.results97 (RV.tmp hF rfl)) ?_;exact⟨rfl,hM.below⟩
set_option maxRecDepth 100000 in
theorem mG (w0:World):Calls Tryd.prog 97 (List.toArray [.int .i64 5]) w0 (Ret λv w'=>v= .string (bs (dB 5))/\Gr w0 w'):=by refine cq Tryd.func97 rfl Tryd.ntmps97 rfl λa hF=> ?_;have hM:=Mem.start w0;have hF:=hF.sub (L':=[(0,(vI 5))]) ⟨rfl,zo⟩;refine wp_seq ?_;refine wp_region_lit ?_;refine wl (bz rfl) rfl hF (λa hF=> ?_);refine bx ?_;refine wp_seq ?_;refine wp_region_lit ?_;refine wlR (bU (cells:= #[(vT []),(vT [110]),(vT [112,117,98]),(vT [100,104]),(vT [107,101,109]),(vT [99,116]),(vT [104]),(vT [101,110,99]),(vT [115,105,103]),(vT [112,97,105,114])]) eD zz9 rfl (by decide) (by decide) (by kernel_rfl)) rfl hF ?_;rintro _ w a ⟨b1,rfl,hnb_⟩ hF;have hM:Mem w0 w [(b1,#[(vT []),(vT [110]),(vT [112,117,98]),(vT [100,104]),(vT [107,101,109]),(vT [99,116]),(vT [104]),(vT [101,110,99]),(vT [115,105,103]),(vT [112,97,105,114])],9)]:=hM.alloc hnb_;refine wl (bz rfl) rfl hF (λa hF=> ?_);refine bx ?_;refine wp_seq ?_;refine wp_region_lit ?_;refine wl (bD rfl) rfl hF (λa hF=> ?_);refine wl (bD rfl) rfl hF (λa hF=> ?_);refine wl (ej (j:=5) eD sz9 rfl rfl rfl (by omega)) rfl hF (λa hF=> ?_);refine wl (bJ u9 rfl rfl (hM.cell 0 rfl rfl)) rfl hF (λa hF=> ?_);refine wl (bz rfl) rfl hF (λa hF=> ?_);refine bx ?_;refine wp_ret ?_;refine bv hF (bw Tryd.results97 (RV.tmp hF rfl)) ?_;exact⟨rfl,hM.below⟩
set_option maxRecDepth 100000 in
theorem mF (w0:World):Calls Tryd.prog 97 (List.toArray [.int .i64 6]) w0 (Ret λv w'=>v= .string (bs (dB 6))/\Gr w0 w'):=by refine cq Tryd.func97 rfl Tryd.ntmps97 rfl λa hF=> ?_;have hM:=Mem.start w0;have hF:=hF.sub (L':=[(0,(vI 6))]) ⟨rfl,zo⟩;refine wp_seq ?_;refine wp_region_lit ?_;refine wl (bz rfl) rfl hF (λa hF=> ?_);refine bx ?_;refine wp_seq ?_;refine wp_region_lit ?_;refine wlR (bU (cells:= #[(vT []),(vT [110]),(vT [112,117,98]),(vT [100,104]),(vT [107,101,109]),(vT [99,116]),(vT [104]),(vT [101,110,99]),(vT [115,105,103]),(vT [112,97,105,114])]) eD zz9 rfl (by decide) (by decide) (by kernel_rfl)) rfl hF ?_;rintro _ w a ⟨b1,rfl,hnb_⟩ hF;have hM:Mem w0 w [(b1,#[(vT []),(vT [110]),(vT [112,117,98]),(vT [100,104]),(vT [107,101,109]),(vT [99,116]),(vT [104]),(vT [101,110,99]),(vT [115,105,103]),(vT [112,97,105,114])],9)]:=hM.alloc hnb_;refine wl (bz rfl) rfl hF (λa hF=> ?_);refine bx ?_;refine wp_seq ?_;refine wp_region_lit ?_;refine wl (bD rfl) rfl hF (λa hF=> ?_);refine wl (bD rfl) rfl hF (λa hF=> ?_);refine wl (ej (j:=6) eD sz9 rfl rfl rfl (by omega)) rfl hF (λa hF=> ?_);refine wl (bJ u9 rfl rfl (hM.cell 0 rfl rfl)) rfl hF (λa hF=> ?_);refine wl (bz rfl) rfl hF (λa hF=> ?_);refine bx ?_;refine wp_ret ?_;refine bv hF (bw Tryd.results97 (RV.tmp hF rfl)) ?_;exact⟨rfl,hM.below⟩
set_option maxRecDepth 100000 in
theorem mE (w0:World):Calls Tryd.prog 97 (List.toArray [.int .i64 7]) w0 (Ret λv w'=>v= .string (bs (dB 7))/\Gr w0 w'):=by refine cq Tryd.func97 rfl Tryd.ntmps97 rfl λa hF=> ?_;have hM:=Mem.start w0;have hF:=hF.sub (L':=[(0,(vI 7))]) ⟨rfl,zo⟩;refine wp_seq ?_;refine wp_region_lit ?_;refine wl (bz rfl) rfl hF (λa hF=> ?_);refine bx ?_;refine wp_seq ?_;refine wp_region_lit ?_;refine wlR (bU (cells:= #[(vT []),(vT [110]),(vT [112,117,98]),(vT [100,104]),(vT [107,101,109]),(vT [99,116]),(vT [104]),(vT [101,110,99]),(vT [115,105,103]),(vT [112,97,105,114])]) eD zz9 rfl (by decide) (by decide) (by kernel_rfl)) rfl hF ?_;rintro _ w a ⟨b1,rfl,hnb_⟩ hF;have hM:Mem w0 w [(b1,#[(vT []),(vT [110]),(vT [112,117,98]),(vT [100,104]),(vT [107,101,109]),(vT [99,116]),(vT [104]),(vT [101,110,99]),(vT [115,105,103]),(vT [112,97,105,114])],9)]:=hM.alloc hnb_;refine wl (bz rfl) rfl hF (λa hF=> ?_);refine bx ?_;refine wp_seq ?_;refine wp_region_lit ?_;refine wl (bD rfl) rfl hF (λa hF=> ?_);refine wl (bD rfl) rfl hF (λa hF=> ?_);refine wl (ej (j:=7) eD sz9 rfl rfl rfl (by omega)) rfl hF (λa hF=> ?_);refine wl (bJ u9 rfl rfl (hM.cell 0 rfl rfl)) rfl hF (λa hF=> ?_);refine wl (bz rfl) rfl hF (λa hF=> ?_);refine bx ?_;refine wp_ret ?_;refine bv hF (bw Tryd.results97 (RV.tmp hF rfl)) ?_;exact⟨rfl,hM.below⟩
set_option maxRecDepth 100000 in
theorem mD (w0:World):Calls Tryd.prog 97 (List.toArray [.int .i64 8]) w0 (Ret λv w'=>v= .string (bs (dB 8))/\Gr w0 w'):=by refine cq Tryd.func97 rfl Tryd.ntmps97 rfl λa hF=> ?_;have hM:=Mem.start w0;have hF:=hF.sub (L':=[(0,(vI 8))]) ⟨rfl,zo⟩;refine wp_seq ?_;refine wp_region_lit ?_;refine wl (bz rfl) rfl hF (λa hF=> ?_);refine bx ?_;refine wp_seq ?_;refine wp_region_lit ?_;refine wlR (bU (cells:= #[(vT []),(vT [110]),(vT [112,117,98]),(vT [100,104]),(vT [107,101,109]),(vT [99,116]),(vT [104]),(vT [101,110,99]),(vT [115,105,103]),(vT [112,97,105,114])]) eD zz9 rfl (by decide) (by decide) (by kernel_rfl)) rfl hF ?_;rintro _ w a ⟨b1,rfl,hnb_⟩ hF;have hM:Mem w0 w [(b1,#[(vT []),(vT [110]),(vT [112,117,98]),(vT [100,104]),(vT [107,101,109]),(vT [99,116]),(vT [104]),(vT [101,110,99]),(vT [115,105,103]),(vT [112,97,105,114])],9)]:=hM.alloc hnb_;refine wl (bz rfl) rfl hF (λa hF=> ?_);refine bx ?_;refine wp_seq ?_;refine wp_region_lit ?_;refine wl (bD rfl) rfl hF (λa hF=> ?_);refine wl (bD rfl) rfl hF (λa hF=> ?_);refine wl (ej (j:=8) eD sz9 rfl rfl rfl (by omega)) rfl hF (λa hF=> ?_);refine wl (bJ u9 rfl rfl (hM.cell 0 rfl rfl)) rfl hF (λa hF=> ?_);refine wl (bz rfl) rfl hF (λa hF=> ?_);refine bx ?_;refine wp_ret ?_;refine bv hF (bw Tryd.results97 (RV.tmp hF rfl)) ?_;exact⟨rfl,hM.below⟩
set_option maxRecDepth 100000 in
theorem mC (w0:World):Calls Tryd.prog 97 (List.toArray [.int .i64 9]) w0 (Ret λv w'=>v= .string (bs (dB 9))/\Gr w0 w'):=by refine cq Tryd.func97 rfl Tryd.ntmps97 rfl λa hF=> ?_;have hM:=Mem.start w0;have hF:=hF.sub (L':=[(0,(vI 9))]) ⟨rfl,zo⟩;refine wp_seq ?_;refine wp_region_lit ?_;refine wl (bz rfl) rfl hF (λa hF=> ?_);refine bx ?_;refine wp_seq ?_;refine wp_region_lit ?_;refine wlR (bU (cells:= #[(vT []),(vT [110]),(vT [112,117,98]),(vT [100,104]),(vT [107,101,109]),(vT [99,116]),(vT [104]),(vT [101,110,99]),(vT [115,105,103]),(vT [112,97,105,114])]) eD zz9 rfl (by decide) (by decide) (by kernel_rfl)) rfl hF ?_;rintro _ w a ⟨b1,rfl,hnb_⟩ hF;have hM:Mem w0 w [(b1,#[(vT []),(vT [110]),(vT [112,117,98]),(vT [100,104]),(vT [107,101,109]),(vT [99,116]),(vT [104]),(vT [101,110,99]),(vT [115,105,103]),(vT [112,97,105,114])],9)]:=hM.alloc hnb_;refine wl (bz rfl) rfl hF (λa hF=> ?_);refine bx ?_;refine wp_seq ?_;refine wp_region_lit ?_;refine wl (bD rfl) rfl hF (λa hF=> ?_);refine wl (bD rfl) rfl hF (λa hF=> ?_);refine wl (ej (j:=9) eD sz9 rfl rfl rfl (by omega)) rfl hF (λa hF=> ?_);refine wl (bJ u9 rfl rfl (hM.cell 0 rfl rfl)) rfl hF (λa hF=> ?_);refine wl (bz rfl) rfl hF (λa hF=> ?_);refine bx ?_;refine wp_ret ?_;refine bv hF (bw Tryd.results97 (RV.tmp hF rfl)) ?_;exact⟨rfl,hM.below⟩
def cK:Prop:=∀(lv:Value) (g c:Nat) (l:List Tx) (w:World),lv= .slice (some ⟨g,0,none⟩) l.length c->g<w.heap.size->l.length<=c->At w g 0 (l.map λx=>Value.string (bs x))->(Lib.join l [44]).length<=1099511627776->Calls Tryd.prog 99 (List.toArray [lv,.string (bs [44])]) w (Ret λv w'=>v= .string (bs (Lib.join l [44]))/\Gr w w')
theorem f9 {k:Int} (h:1<=k/\k<=9) (w0:World):Calls Tryd.prog 97 (List.toArray [.int .i64 k]) w0 (Ret λv w'=>v= .string (bs (dB k))/\Gr w0 w'):=by
 have :k=1\/k=2\/k=3\/k=4\/k=5\/k=6\/k=7\/k=8\/k=9:=by omega
 rcases this with rfl|rfl|rfl|rfl|rfl|rfl|rfl|rfl|rfl
 ·exact mK w0
 ·exact mJ w0
 ·exact mI w0
 ·exact mH w0
 ·exact mG w0
 ·exact mF w0
 ·exact mE w0
 ·exact mD w0
 ·exact mC w0
end Go.Mi.Term
namespace Go.Mi.Term
open Go.Mi Go.Proofs Go.RowKit
set_option maxRecDepth 100000 in
theorem lC {T0:World->Prop} {nb:Nat} (hT:∀w w',Below nb w w'->T0 w->T0 w') {n:Int} (hit:∀w,T0 w->Calls Tryd.prog 98 (List.toArray [.int .i64 n]) w (Ret λv w'=>v= .string (bs (Lib.itoa n))/\Gr w w')) {sv:Value} (hlen:(Lib.itoa n).length<=1000) (w0:World) (hnb:nb<=w0.heap.size) (hw0:T0 w0):Calls Tryd.prog 83 (List.toArray [.int .i64 1,.int .i64 n,sv]) w0 (Ret λv w'=>v= .string (bs (wtn 1 n []))/\Gr w0 w'):=by refine cq Tryd.func83 rfl Tryd.ntmps83 rfl λa hF=> ?_;have hM:=Mem.start w0;have hF:=hF.sub (L':=[(0,(vI 1)),(1,(vI n)),(2,sv)]) ⟨rfl,rfl,rfl,zo⟩;refine wp_seq ?_;refine wp_region_lit ?_;refine wl (bz rfl) rfl hF (λa hF=> ?_);refine bx ?_;refine wp_seq ?_;refine wp_seq ?_;refine wp_region_lit ?_;refine wl (bD rfl) rfl hF (λa hF=> ?_);refine wl (dV (c:=true) (dQ rfl rfl) (by decide)) rfl hF (λa hF=> ?_);refine bx ?_;refine wp_cond_true (hF.eval rfl) ?_;refine wp_seq ?_;refine wp_region_lit ?_;refine wl (bD rfl) rfl hF (λa hF=> ?_);refine wlR (a_ c97 rfl (f9 (by omega) _)) rfl hF ?_;rintro _ w a ⟨rfl,hg⟩ hF;have hM:=hM.call hg;refine wl (bD rfl) rfl hF (λa hF=> ?_);refine wlR (a_ c98 rfl (hit _ (hT _ _ (hM.below.mono hnb) hw0))) rfl hF ?_;rintro _ w a ⟨rfl,hg⟩ hF;have hM:=hM.call hg;refine wl (fT (s:=(dB 1)) (u:=(Lib.itoa n)) rfl rfl (by have :(dB 1).length=1:=rfl;omega)) rfl hF (λa hF=> ?_);refine wl (bz rfl) rfl hF (λa hF=> ?_);refine bx ?_;refine wp_ret ?_;refine bO ?_;refine bv hF (bw Tryd.results83 (RV.tmp hF rfl)) ?_;exact⟨rfl,hM.below⟩
set_option maxRecDepth 100000 in
theorem mB {k n:Int} {ks:List Tm} {X:List Nat} {ad:Option Addr} {cap:Nat} {xs:List Value} (hk:1<=k/\k<=9) (hk1:¬k=1) (hk3:¬k=3) (w0:World) (h1:0<ks.length) (h8:ks.length<=1000) (hlen:(Lib.join (ks.map txt) [44]).length<=1099511627776) (hsl:0<ks.length->∃b o,ad=some ⟨b,o,none⟩/\b∉X/\At w0 b o xs) (hks:IsNs w0 X ks xs) (hjoin:cK):
 Calls Tryd.prog 83 (List.toArray [.int .i64 k,.int .i64 n,.slice ad ks.length cap]) w0 (Ret λv w'=>v= .string (bs (wtn k n (jY ks)))/\Gr w0 w'):=by
 refine cq Tryd.func83 rfl Tryd.ntmps83 rfl λa hF=> ?_;have hM:=Mem.start w0;have hF:=hF.sub (L':=[(0,(vI k)),(1,(vI n)),(2,(Value.slice ad ks.length cap))]) ⟨rfl,rfl,rfl,zo⟩;refine wp_seq ?_;refine wp_region_lit ?_;refine wl (bz rfl) rfl hF (λa hF=> ?_);refine bx ?_;refine wp_seq ?_;refine wp_seq ?_;refine wp_region_lit ?_;refine wl (bD rfl) rfl hF (λa hF=> ?_);refine wl (dV (c:=false) (dQ rfl rfl) (decide_eq_false hk1)) rfl hF (λa hF=> ?_);refine bx ?_;refine wp_cond_false (hF.eval rfl) ?_;refine wp_skip ?_;refine wp_seq ?_;refine wp_region_lit ?_;refine wl (bz rfl) rfl hF (λa hF=> ?_);refine bx ?_;refine wp_seq ?_;refine wp_seq ?_;refine wp_region_lit ?_;refine wl (bD rfl) rfl hF (λa hF=> ?_);refine wl (bW dO rfl) rfl hF (λa hF=> ?_);refine wl (bD rfl) rfl hF (λa hF=> ?_);refine bx ?_;refine bA ?_;refine wp_block ?_;refine ca (λB a w=>∃(i:Nat) (lv:Value),B=ks.length-i/\(i<=ks.length)/\(Own w w0.heap.size 9 1 lv i ((ks.take i).map (λt=>Value.string (bs (txt t)))))/\Frm a 59 [(0,(vI k)),(7,lv),(17,(Value.slice ad ks.length cap)),(18,(vI (ks.length:Int))),(19,(vI (i:Int)))]/\Mem w0 w []) _ ⟨0,Value.slice none 0 0,rfl,(by omega),(Own.nil _ _ _ _),hF.sub ⟨rfl,rfl,rfl,rfl,rfl,zo⟩,?_⟩ ?_
 ·exact hM
 rintro _ a w ⟨i,lv,rfl,hl1_0,hl1_1,hF,hM⟩;have d:=hl1_1;refine wp_seq ?_;refine wp_region_lit ?_;refine wl (eH rfl rfl) rfl hF (λa hF=> ?_);refine bx ?_;refine wp_seq ?_;refine cr hF rfl (λh=> ?_) (λh=> ?_)
 ·have C:=zB h;clear h;obtain⟨b0,o0,D,hb0,z⟩:=hsl (by omega);obtain⟨t1,hi⟩:∃t,ks[i]? =some t:=⟨_,zp (by omega)⟩;obtain⟨v1,E,G⟩:=hks.at i t1 hi;obtain⟨bn,kn,nn,sn,rfl,hbn,r⟩:=G.form;refine wp_skip ?_;refine wp_seq ?_;refine wp_block ?_;refine wp_seq ?_;refine wp_region_lit ?_;refine wl (lr (b:=b0) (o:=o0) (j:=i) dO jw (by rw[<-D];rfl) rfl rfl (by omega)) rfl hF (λa hF=> ?_);refine wl (bJ u83 rfl rfl ((z.mv (Gr.ch hM.below) (by simp)) i _ E)) rfl hF (λa hF=> ?_);refine wl (bz rfl) rfl hF (λa hF=> ?_);refine bx ?_;refine bA ?_;refine wp_region_lit ?_;refine wl (bD rfl) rfl hF (λa hF=> ?_);refine wl (bD rfl) rfl hF (λa hF=> ?_);refine wl (d_nil rfl) rfl hF (λa hF=> ?_);refine wl (bG cP (m:=0) sz9 rfl rfl rfl) rfl hF (λa hF=> ?_);refine wl (bJ u9 rfl rfl ((r.mv (Gr.ch hM.below) (by simp)) 3 _ rfl)) rfl hF (λa hF=> ?_);refine wlR (bU (cells:= #[(vT (txt t1))]) eD zz9 rfl (by decide) (by decide) (by kernel_rfl)) rfl hF ?_;rintro _ w a ⟨b1,rfl,hnb_⟩ hF;have hM:Mem w0 w [(b1,#[(vT (txt t1))],9)]:=hM.alloc hnb_;have F:∀y,y∈bC lv->b1≠y:=λy hy=>by have h1_:=(d.lt y hy).2;have h2_:=hnb_.num;omega
  have d:=d.mv hnb_.ch (by simp);have l:=d;refine wlR (g9 (b:=b1) (u:=Value.string (bs (txt t1))) eD ii9 rfl rfl rfl l (At.of_blk (hM.at 0 rfl)) rfl (by omega) (by unfold maxLen;omega) hM.below.size) rfl hF ?_;rintro lv1 w a ⟨d,hch,hob⟩ hF;have hM:=jT hM hch (λy hy=>⟨(l.lt y hy).1,λe he=>by simp at he;subst he;exact F y hy⟩);refine wl (bz rfl) rfl hF (λa hF=> ?_);refine bx ?_;refine bR ?_;refine bA ?_;refine wp_region_lit ?_;refine wl (ci rfl rfl (bK (by omega) (by omega))) rfl hF (λa hF=> ?_);refine wl (bD rfl) rfl hF (λa hF=> ?_);refine bx ?_;refine bA ?_;refine⟨_,?_,i+1,lv1,rfl,(by omega),(by rw[fR hi];exact d),hF.sub ⟨rfl,rfl,rfl,rfl,rfl,zo⟩,?_⟩
  ·omega
  exact hM.sub (by simp)
 ·have C:=of_decide_eq_false h;clear h;have hi:i=ks.length:=by omega
  have d:Own w w0.heap.size 9 1 lv ks.length (ks.map (λt=>Value.string (bs (txt t)))):=by have h_:=d;rw[hi,Ae]at h_;exact h_
  refine wp_exit ?_;refine bM ?_;refine bM ?_;refine bZ ?_;refine wp_seq ?_;refine wp_seq ?_;refine eR Tt mo (λf w=>Mem w0 w (([[]]:List (List Blk)).getD f [])/\Own w w0.heap.size 9 1 lv ks.length (ks.map (λt=>Value.string (bs (txt t))))) [] (rows:=[⟨[],[(0,(vI k))],[0],.val (vI k)⟩,⟨[(0,31)],[],[0],.val vf⟩,⟨[(1,32)],[],[0],.val vf⟩,⟨[(2,33)],[(7,lv)],[0],.val undef⟩,⟨[(3,34),(2,33)],[],[0],.val undef⟩,⟨[(4,35),(2,33)],[],[0],.val undef⟩,⟨[(2,33)],[(7,lv)],[0],.val undef⟩,⟨[(6,37),(2,33)],[],[0],.val undef⟩,⟨[(7,38),(2,33)],[],[0],.val undef⟩,⟨[(5,36),(8,39),(2,33)],[],[0],.val undef⟩,⟨[(2,33),(9,40)],[],[0],.val vf⟩]) (by kernel_rfl) hF ⟨hM.drew,d.mv (Ch.drew _) (by simp)⟩ ?_ ?_
  ·refine⟨?_,?_,?_,?_,?_,?_,?_,?_,?_,?_,?_,zo⟩
   ·exact⟨⟨rfl,zo⟩,λf _ vs w hW _=>Det.ob hW (bD rfl)⟩
   ·exact⟨zo,λf _ vs w hW _=>Det.ob hW (dV (c:=false) (dQ rfl rfl) (decide_eq_false hk3))⟩
   ·exact⟨zo,λf _ vs w hW _=>Det.ob hW (bD rfl)⟩
   ·exact⟨⟨rfl,zo⟩,λf _ vs w hW _=>⟨false,_,rfl,rfl,rfl,rfl⟩⟩
   ·exact⟨zo,λf _ vs w hW _=>⟨false,_,rfl,rfl,rfl,rfl⟩⟩
   ·exact⟨zo,λf _ vs w hW _=>⟨false,_,rfl,rfl,rfl,rfl⟩⟩
   ·exact⟨⟨rfl,zo⟩,λf _ vs w hW _=>⟨false,_,rfl,rfl,rfl,rfl⟩⟩
   ·exact⟨zo,λf _ vs w hW _=>⟨false,_,rfl,rfl,rfl,rfl⟩⟩
   ·exact⟨zo,λf _ vs w hW _=>⟨false,_,rfl,rfl,rfl,rfl⟩⟩
   ·exact⟨zo,λf _ vs w hW _=>⟨false,_,rfl,rfl,rfl,rfl⟩⟩
   ·exact⟨zo,λf _ vs w hW _=>Det.ob hW (cQ (b:=false) rfl rfl)⟩
  ·intro a w vs hW _ hF;have hM:Mem w0 w []:=hW.1;have d:=hW.2;have hF:=hF.sub (L':=[(0,(vI k)),(7,lv),(17,(Value.slice ad ks.length cap)),(18,(vI (ks.length:Int))),(19,(vI (i:Int))),(20,(vB (decide ((i:Int)<(ks.length:Int))))),(41,vf)]) ⟨rfl,rfl,rfl,rfl,rfl,rfl,rfl,zo⟩;refine wp_cond_false (hF.eval rfl) ?_;refine wp_skip ?_;refine wp_seq ?_;have hwl:=jV k;have p:=d.at;obtain⟨g1,x,q,A,g⟩:∃b cap,lv= .slice (some ⟨b,0,none⟩) ks.length cap/\ks.length<=cap/\At _ b 0 (ks.map (λt=>Value.string (bs (txt t)))):=by rcases p with⟨_,h0,_⟩|h;omega;exact h
   refine wp_region_lit ?_;refine wl (bD rfl) rfl hF (λa hF=> ?_);refine wlR (a_ c97 rfl (f9 (by omega) _)) rfl hF ?_;rintro _ w a ⟨rfl,hg⟩ hF;have hM:=hM.call hg;have d:=d.mv (Gr.ch hg) (by simp);have g:=g.mv (Gr.ch hg) (by simp);refine wl (fT (s:=(dB k)) (u:=[40]) rfl rfl (by simp;omega)) rfl hF (λa hF=> ?_);refine wl (bD rfl) rfl hF (λa hF=> ?_);refine wlR (a_ c99 rfl (hjoin lv g1 x (ks.map txt) _ (by simpa using q) (d.lt g1 (by rw[q];simp [bC])).2 (by simpa using A) (by rw[List.map_map];exact g) hlen)) rfl hF ?_;rintro _ w a ⟨rfl,hg⟩ hF;have hM:=hM.call hg;refine wl (fT (s:=((dB k)++([40]))) (u:=(Lib.join (ks.map txt) [44])) rfl rfl (by simp;omega)) rfl hF (λa hF=> ?_);refine wl (fT (s:=(((dB k)++([40]))++(Lib.join (ks.map txt) [44]))) (u:=[41]) rfl rfl (by simp;omega)) rfl hF (λa hF=> ?_);refine wl (bz rfl) rfl hF (λa hF=> ?_);refine bx ?_;refine wp_ret ?_;refine bv hF (bw Tryd.results83 (RV.tmp hF rfl)) ?_;exact⟨by simp only[wtn,hk1,if_false,fY,hk3,ia],hM.below⟩
end Go.Mi.Term
namespace Go.Mi.Term
open Go.Mi Go.Proofs Go.RowKit
set_option maxRecDepth 100000 in
theorem nT {n:Int} {ks:List Tm} {X:List Nat} {ad:Option Addr} {cap:Nat} {xs:List Value} (w0:World) (h2:ks.length=2) (hlen:((ks.map txt).map List.length).sum<=1099511627000) (hsl:0<ks.length->∃b o,ad=some ⟨b,o,none⟩/\b∉X/\At w0 b o xs) (hks:IsNs w0 X ks xs) (hjoin:cK):
 Calls Tryd.prog 83 (List.toArray [.int .i64 3,.int .i64 n,.slice ad ks.length cap]) w0 (Ret λv w'=>v= .string (bs (wtn 3 n (jY ks)))/\Gr w0 w'):=by
 refine cq Tryd.func83 rfl Tryd.ntmps83 rfl λa hF=> ?_;have hM:=Mem.start w0;have hF:=hF.sub (L':=[(0,(vI 3)),(1,(vI n)),(2,(Value.slice ad ks.length cap))]) ⟨rfl,rfl,rfl,zo⟩;refine wp_seq ?_;refine wp_region_lit ?_;refine wl (bz rfl) rfl hF (λa hF=> ?_);refine bx ?_;refine wp_seq ?_;refine wp_seq ?_;refine wp_region_lit ?_;refine wl (bD rfl) rfl hF (λa hF=> ?_);refine wl (dV (c:=false) (dQ rfl rfl) (by decide)) rfl hF (λa hF=> ?_);refine bx ?_;refine wp_cond_false (hF.eval rfl) ?_;refine wp_skip ?_;refine wp_seq ?_;refine wp_region_lit ?_;refine wl (bz rfl) rfl hF (λa hF=> ?_);refine bx ?_;refine wp_seq ?_;refine wp_seq ?_;refine wp_region_lit ?_;refine wl (bD rfl) rfl hF (λa hF=> ?_);refine wl (bW dO rfl) rfl hF (λa hF=> ?_);refine wl (bD rfl) rfl hF (λa hF=> ?_);refine bx ?_;refine bA ?_;refine wp_block ?_;refine ca (λK a w=>∃(i:Nat) (lv:Value),K=ks.length-i/\(i<=ks.length)/\(Own w w0.heap.size 9 1 lv i ((ks.take i).map (λt=>Value.string (bs (txt t)))))/\Frm a 59 [(0,(vI 3)),(7,lv),(17,(Value.slice ad ks.length cap)),(18,(vI (ks.length:Int))),(19,(vI (i:Int)))]/\Mem w0 w []) _ ⟨0,Value.slice none 0 0,rfl,(by omega),(Own.nil _ _ _ _),hF.sub ⟨rfl,rfl,rfl,rfl,rfl,zo⟩,?_⟩ ?_
 ·exact hM
 rintro _ a w ⟨i,lv,rfl,hl1_0,hl1_1,hF,hM⟩;have g:=hl1_1;refine wp_seq ?_;refine wp_region_lit ?_;refine wl (eH rfl rfl) rfl hF (λa hF=> ?_);refine bx ?_;refine wp_seq ?_;refine cr hF rfl (λh=> ?_) (λh=> ?_)
 ·have L:=zB h;clear h;obtain⟨b0,o0,N,hb0,J⟩:=hsl (by omega);obtain⟨t1,hi⟩:∃t,ks[i]? =some t:=⟨_,zp (by omega)⟩;obtain⟨v1,P,R⟩:=hks.at i t1 hi;obtain⟨bn,kn,nn,sn,rfl,hbn,F⟩:=R.form;refine wp_skip ?_;refine wp_seq ?_;refine wp_block ?_;refine wp_seq ?_;refine wp_region_lit ?_;refine wl (lr (b:=b0) (o:=o0) (j:=i) dO jw (by rw[<-N];rfl) rfl rfl (by omega)) rfl hF (λa hF=> ?_);refine wl (bJ u83 rfl rfl ((J.mv (Gr.ch hM.below) (by simp)) i _ P)) rfl hF (λa hF=> ?_);refine wl (bz rfl) rfl hF (λa hF=> ?_);refine bx ?_;refine bA ?_;refine wp_region_lit ?_;refine wl (bD rfl) rfl hF (λa hF=> ?_);refine wl (bD rfl) rfl hF (λa hF=> ?_);refine wl (d_nil rfl) rfl hF (λa hF=> ?_);refine wl (bG cP (m:=0) sz9 rfl rfl rfl) rfl hF (λa hF=> ?_);refine wl (bJ u9 rfl rfl ((F.mv (Gr.ch hM.below) (by simp)) 3 _ rfl)) rfl hF (λa hF=> ?_);refine wlR (bU (cells:= #[(vT (txt t1))]) eD zz9 rfl (by decide) (by decide) (by kernel_rfl)) rfl hF ?_;rintro _ w a ⟨b1,rfl,hnb_⟩ hF;have hM:Mem w0 w [(b1,#[(vT (txt t1))],9)]:=hM.alloc hnb_;have Q:∀y,y∈bC lv->b1≠y:=λy hy=>by have h1_:=(g.lt y hy).2;have h2_:=hnb_.num;omega
  have g:=g.mv hnb_.ch (by simp);have p:=g;refine wlR (g9 (b:=b1) (u:=Value.string (bs (txt t1))) eD ii9 rfl rfl rfl p (At.of_blk (hM.at 0 rfl)) rfl (by omega) (by unfold maxLen;omega) hM.below.size) rfl hF ?_;rintro lv1 w a ⟨g,hch,hob⟩ hF;have hM:=jT hM hch (λy hy=>⟨(p.lt y hy).1,λe he=>by simp at he;subst he;exact Q y hy⟩);refine wl (bz rfl) rfl hF (λa hF=> ?_);refine bx ?_;refine bR ?_;refine bA ?_;refine wp_region_lit ?_;refine wl (ci rfl rfl (bK (by omega) (by omega))) rfl hF (λa hF=> ?_);refine wl (bD rfl) rfl hF (λa hF=> ?_);refine bx ?_;refine bA ?_;refine⟨_,?_,i+1,lv1,rfl,(by omega),(by rw[fR hi];exact g),hF.sub ⟨rfl,rfl,rfl,rfl,rfl,zo⟩,?_⟩
  ·omega
  exact hM.sub (by simp)
 ·have L:=of_decide_eq_false h;clear h;have hi:i=ks.length:=by omega
  have g:Own w w0.heap.size 9 1 lv ks.length (ks.map (λt=>Value.string (bs (txt t)))):=by have h_:=g;rw[hi,Ae]at h_;exact h_
  refine wp_exit ?_;refine bM ?_;refine bM ?_;refine bZ ?_;refine wp_seq ?_;refine wp_seq ?_;obtain⟨ta,tb,q⟩:∃a b,ks=[a,b]:=by match ks,h2 with |[a,b],_=>exact⟨a,b,rfl⟩
  have E:Own w w0.heap.size 9 1 lv 2 [Value.string (bs (txt ta)),Value.string (bs (txt tb))]:=by have h_:=g;rw[q]at h_;exact h_
  obtain⟨g1,x,f,l,M,H,r,A,z,hcs⟩:=tY E;have hM:Mem w0 w [(g1,f,9)]:=uH hM M H;have D:(Lib.join [txt ta,txt tb] [44]).length<=1099511627776:=by simp [Lib.join,List.intercalate];rw[q]at hlen;simp at hlen;omega
  have C:(Lib.join [txt tb,txt ta] [44]).length<=1099511627776:=by simp [Lib.join,List.intercalate];rw[q]at hlen;simp at hlen;omega
  have I:0<f.size:=by omega
  have G:1<f.size:=by omega
  refine eR Tt mo (λd w=>Mem w0 w (([[(g1,f,9)]]:List (List Blk)).getD d [])) [] (rows:=[⟨[],[(0,(vI 3))],[0],.val (vI 3)⟩,⟨[(0,31)],[],[0],.val vt⟩,⟨[(1,32)],[],[0],.val vt⟩,⟨[(2,33)],[(7,lv)],[0],.val lv⟩,⟨[(3,34),(2,33)],[],[0],.val (vP g1 1)⟩,⟨[(4,35),(2,33)],[],[0],.val (vT (txt tb))⟩,⟨[(2,33)],[(7,lv)],[0],.val lv⟩,⟨[(6,37),(2,33)],[],[0],.val (vp g1)⟩,⟨[(7,38),(2,33)],[],[0],.val (vT (txt ta))⟩,⟨[(5,36),(8,39),(2,33)],[],[0],.val (vB (eb (txt tb) (txt ta)))⟩,⟨[(2,33),(9,40)],[],[0],.val (vB (eb (txt tb) (txt ta)))⟩]) (by kernel_rfl) hF hM.drew ?_ ?_
  ·refine⟨?_,?_,?_,?_,?_,?_,?_,?_,?_,?_,?_,zo⟩
   ·exact⟨⟨rfl,zo⟩,λd _ vs w hW _=>Det.ob hW (bD rfl)⟩
   ·exact⟨zo,λd _ vs w hW _=>Det.ob hW (dV (c:=true) (dQ rfl rfl) (by decide))⟩
   ·exact⟨zo,λd _ vs w hW _=>Det.ob hW (bD rfl)⟩
   ·exact⟨⟨rfl,zo⟩,λd _ vs w hW _=>⟨true,_,rfl,rfl,Det.ob hW (bD rfl)⟩⟩
   ·exact⟨zo,λd _ vs w hW _=>⟨true,_,rfl,rfl,Det.ob hW (ej (j:=1) eD sz9 (by rw[<-l];rfl) rfl rfl (by omega))⟩⟩
   ·refine⟨zo,λd k vs w hW _=> ?_⟩;obtain rfl:=ce k;have hM:Mem w0 w [(g1,f,9)]:=hW;exact⟨true,_,rfl,rfl,Det.ob hW (bJ u9 rfl rfl (hM.cell 0 rfl z))⟩
   ·exact⟨⟨rfl,zo⟩,λd _ vs w hW _=>⟨true,_,rfl,rfl,Det.ob hW (bD rfl)⟩⟩
   ·exact⟨zo,λd _ vs w hW _=>⟨true,_,rfl,rfl,Det.ob hW (ej (j:=0) eD sz9 (by rw[<-l];rfl) rfl rfl (by omega))⟩⟩
   ·refine⟨zo,λd k vs w hW _=> ?_⟩;obtain rfl:=ce k;have hM:Mem w0 w [(g1,f,9)]:=hW;exact⟨true,_,rfl,rfl,Det.ob hW (bJ u9 rfl rfl (hM.cell 0 rfl A))⟩
   ·exact⟨zo,λd _ vs w hW _=>⟨true,_,rfl,rfl,Det.ob hW (wT (s:=(txt tb)) (u:=(txt ta)) rfl rfl)⟩⟩
   ·exact⟨zo,λd _ vs w hW _=>Det.ob hW (cQ (b:=true) rfl rfl)⟩
  ·intro a w vs hW _ hF;have hM:Mem w0 w [(g1,f,9)]:=hW;have hF:=hF.sub (L':=[(0,(vI 3)),(7,lv),(17,(Value.slice ad ks.length cap)),(18,(vI (ks.length:Int))),(19,(vI (i:Int))),(20,(vB (decide ((i:Int)<(ks.length:Int))))),(41,(vB (eb (txt tb) (txt ta))))]) ⟨rfl,rfl,rfl,rfl,rfl,rfl,rfl,zo⟩;refine bA ?_;refine cr hF rfl (λh=> ?_) (λh=> ?_)
   ·have B:=h;clear h;refine eR Tt mo (λd w=>Mem w0 w (([[(g1,f,9)],[(g1,(f.setIfInBounds 0 (vT (txt tb))),9)],[(g1,((f.setIfInBounds 0 (vT (txt tb))).setIfInBounds 1 (vT (txt ta))),9)]]:List (List Blk)).getD d [])) [9,11] (rows:=[⟨[],[(7,lv)],[0],.val lv⟩,⟨[],[(7,lv)],[0,1],.val lv⟩,⟨[],[(7,lv)],[0],.val lv⟩,⟨[(2,44)],[],[0],.val (vP g1 1)⟩,⟨[(3,45)],[],[0],.val (vT (txt tb))⟩,⟨[],[(7,lv)],[0],.val lv⟩,⟨[(5,47)],[],[0],.val (vp g1)⟩,⟨[(6,48)],[],[0],.val (vT (txt ta))⟩,⟨[(0,42)],[],[0],.val (vp g1)⟩,⟨[(8,50),(4,46)],[],[0],.rel (λ_ _=>True) (λ_ _ _ _ _=>trivial)⟩,⟨[(1,43)],[],[1],.val (vP g1 1)⟩,⟨[(10,51),(7,49)],[],[1],.rel (λ_ _=>True) (λ_ _ _ _ _=>trivial)⟩]) (by kernel_rfl) hF hM.drew ?_ ?_
    ·refine⟨?_,?_,?_,?_,?_,?_,?_,?_,?_,?_,?_,?_,zo⟩
     ·exact⟨⟨rfl,zo⟩,λd _ vs w hW _=>Det.ob hW (bD rfl)⟩
     ·exact⟨⟨rfl,zo⟩,λd _ vs w hW _=>Det.ob hW (bD rfl)⟩
     ·exact⟨⟨rfl,zo⟩,λd _ vs w hW _=>Det.ob hW (bD rfl)⟩
     ·exact⟨zo,λd _ vs w hW _=>Det.ob hW (ej (j:=1) eD sz9 (by rw[<-l];rfl) rfl rfl (by omega))⟩
     ·refine⟨zo,λd k vs w hW _=> ?_⟩;obtain rfl:=ce k;have hM:Mem w0 w [(g1,f,9)]:=hW;exact Det.ob hW (bJ u9 rfl rfl (hM.cell 0 rfl z))
     ·exact⟨⟨rfl,zo⟩,λd _ vs w hW _=>Det.ob hW (bD rfl)⟩
     ·exact⟨zo,λd _ vs w hW _=>Det.ob hW (ej (j:=0) eD sz9 (by rw[<-l];rfl) rfl rfl (by omega))⟩
     ·refine⟨zo,λd k vs w hW _=> ?_⟩;obtain rfl:=ce k;have hM:Mem w0 w [(g1,f,9)]:=hW;exact Det.ob hW (bJ u9 rfl rfl (hM.cell 0 rfl A))
     ·exact⟨zo,λd _ vs w hW _=>Det.ob hW (ej (j:=0) eD sz9 (by rw[<-l];rfl) rfl rfl (by omega))⟩
     ·refine⟨zo,λd k vs w hW _=> ?_⟩;obtain rfl:=ce k;have hM:Mem w0 w [(g1,f,9)]:=hW;exact Ok1.obs (λw' hu=>by exact hM.upd 0 rfl hu) (dk (v:=(vT (txt tb))) sz9 rfl rfl rfl (hM.at 0 rfl) (by first |omega|(simp;omega)))
     ·exact⟨zo,λd _ vs w hW _=>Det.ob hW (ej (j:=1) eD sz9 (by rw[<-l];rfl) rfl rfl (by omega))⟩
     ·refine⟨zo,λd k vs w hW _=> ?_⟩;obtain rfl:=ce k;have hM:Mem w0 w [(g1,(f.setIfInBounds 0 (vT (txt tb))),9)]:=hW;exact Ok1.obs (λw' hu=>by exact hM.upd 0 rfl hu) (dk (v:=(vT (txt ta))) sz9 rfl rfl rfl (hM.at 0 rfl) (by first |omega|(simp;omega)))
    ·intro a w vs hW _ hF;have hM:Mem w0 w [(g1,((f.setIfInBounds 0 (vT (txt tb))).setIfInBounds 1 (vT (txt ta))),9)]:=hW;have hF:=hF.sub (L':=[(0,(vI 3)),(7,lv),(17,(Value.slice ad ks.length cap)),(18,(vI (ks.length:Int))),(19,(vI (i:Int))),(20,(vB (decide ((i:Int)<(ks.length:Int))))),(41,(vB (eb (txt tb) (txt ta))))]) ⟨rfl,rfl,rfl,rfl,rfl,rfl,rfl,zo⟩;refine wp_seq ?_;have O:=jV 3;refine wp_region_lit ?_;refine wl (bD rfl) rfl hF (λa hF=> ?_);refine wlR (a_ c97 rfl (f9 (by omega) _)) rfl hF ?_;rintro _ w a ⟨rfl,hg⟩ hF;have hM:=hM.call hg;refine wl (fT (s:=(dB 3)) (u:=[40]) rfl rfl (by simp;omega)) rfl hF (λa hF=> ?_);refine wl (bD rfl) rfl hF (λa hF=> ?_);refine wlR (a_ c99 rfl (hjoin lv g1 x [txt tb,txt ta] _ l (hM.lt (zS ..)) r (sP (hM.at 0 rfl) (by simp [I]) (by simp [G])) C)) rfl hF ?_;rintro _ w a ⟨rfl,hg⟩ hF;have hM:=hM.call hg;refine wl (fT (s:=((dB 3)++([40]))) (u:=(Lib.join [txt tb,txt ta] [44])) rfl rfl (by simp;omega)) rfl hF (λa hF=> ?_);refine wl (fT (s:=(((dB 3)++([40]))++(Lib.join [txt tb,txt ta] [44]))) (u:=[41]) rfl rfl (by simp;omega)) rfl hF (λa hF=> ?_);refine wl (bz rfl) rfl hF (λa hF=> ?_);refine bx ?_;refine wp_ret ?_;refine bv hF (bw Tryd.results83 (RV.tmp hF rfl)) ?_
     first |exact⟨by rw[q];simp [wtn,fY,jY,B],hM.below⟩
   ·have B:=h;clear h;refine wp_skip ?_;refine wp_seq ?_;have O:=jV 3;refine wp_region_lit ?_;refine wl (bD rfl) rfl hF (λa hF=> ?_);refine wlR (a_ c97 rfl (f9 (by omega) _)) rfl hF ?_;rintro _ w a ⟨rfl,hg⟩ hF;have hM:=hM.call hg;refine wl (fT (s:=(dB 3)) (u:=[40]) rfl rfl (by simp;omega)) rfl hF (λa hF=> ?_);refine wl (bD rfl) rfl hF (λa hF=> ?_);refine wlR (a_ c99 rfl (hjoin lv g1 x [txt ta,txt tb] _ l (hM.lt (zS ..)) r (sP (hM.at 0 rfl) A z) D)) rfl hF ?_;rintro _ w a ⟨rfl,hg⟩ hF;have hM:=hM.call hg;refine wl (fT (s:=((dB 3)++([40]))) (u:=(Lib.join [txt ta,txt tb] [44])) rfl rfl (by simp;omega)) rfl hF (λa hF=> ?_);refine wl (fT (s:=(((dB 3)++([40]))++(Lib.join [txt ta,txt tb] [44]))) (u:=[41]) rfl rfl (by simp;omega)) rfl hF (λa hF=> ?_);refine wl (bz rfl) rfl hF (λa hF=> ?_);refine bx ?_;refine wp_ret ?_;refine bv hF (bw Tryd.results83 (RV.tmp hF rfl)) ?_
    first |exact⟨by rw[q];simp [wtn,fY,jY,B],hM.below⟩
end Go.Mi.Term
namespace Go.Mi.Term
open Go.Mi Go.Proofs Go.RowKit
section
variable {P:Program} {n:Nat} {L:List (Nat×Value)} {w:World} {ds:Option Nat} {ty:TypeId} {pos:String} {af:Array Edge} {gu:Option (Nat×Bool)}
theorem cM {t : TypeId} {fs : Array Field} {z : Value} {pl : Array (Nat × Nat)} {parts : Array (Nat × Operand)} {ps : List (Nat × Value)} {cells : Array Value} (ht : P.underlying t = some (.struct fs)) (hz : (P.info? t).bind (·.zero) = some z)
    (hpl:∀w,(fs.mapM λf=>(do pure (f.offset,<-sizeOf f.type):Sem (Nat×Nat))).run P w= .ok pl w) (hp:evp L parts.toList=some ps) (hf:Instr.fill (pl[·]?) z.cells ps=some cells):Det P ⟨ds,.build t parts,ty,pos,af,gu⟩ n L w (.agg cells) w:=
  Det.of_run λa hF => by
    obtain⟨inf,hi,hz'⟩:=As.1 hz;have he:(parts.map λp=>(p.1,a.eval p.2)).toList=ps:=by rw[z6];exact iD hF hp
    have hzr:(zeroValue t).run P w= .ok z w:=by simp [zeroValue,typeInfo,hi,hz']
    simp only[execOp,Instr.build,Sem.run_bind,hzr,bQ ht,Result.andThen_ok,hpl w,he,hf];rfl
end
theorem u0 {z0 z1 z2 z3 a b c d : Value} (ha : a.cells = #[a]) (hb : b.cells = #[b]) (hc : c.cells = #[c]) (hd : d.cells = #[d]) :
    Instr.fill ((#[(0,1),(1,1),(2,1),(3,1)]:Array (Nat×Nat))[·]?) #[z0,z1,z2,z3] [(0,a),(1,b),(2,c),(3,d)]=some #[a,b,c,d]:=by
  simp [Instr.fill,ha,hb,hc,hd]
theorem uO (w : World) : ∀ fs, Tryd.prog.underlying 112 = some (.struct fs) -> (fs.mapM λf => (do pure (f.offset, <- sizeOf f.type) : Sem (Nat × Nat))).run Tryd.prog w = .ok #[(0, 1), (1, 1), (2, 1), (3, 1)] w := by intro fs h;rw[cP]at h;cases h;obtain⟨i3,h3,e3⟩:=zq.1 sz3;obtain⟨i110,h110,e110⟩:=zq.1 dd;obtain⟨i9,h9,e9⟩:=zq.1 sz9;simp [sizeOf,typeInfo,h3,h110,h9,e3,e110,e9]
theorem IsN.cell1 {w : World} {X : List Nat} {t : Tm} {v : Value} (h : IsN w X t v) : v.oneCell' = true := by obtain⟨b,k,n,sl,rfl,_⟩:=h.form;rfl
theorem IsN.cellsv {w : World} {X : List Nat} {t : Tm} {v : Value} (h : IsN w X t v) : v.cells = #[v] := by obtain⟨b,k,n,sl,rfl,_⟩:=h.form;rfl
theorem kC {z a : Value} (ha : a.cells = #[a]) : Instr.fill (λi => some (i * 1, 1)) ((Array.range (1 * 1)).map (z.cells[· % z.cells.size]!)) [(0, a)] = some #[a] := by simp [Instr.fill,ha];apply Array.ext';simp [zO,z6,Ab,Ag]
theorem rO (ks : List Tm) : gS ks = ks.map nrm := by
  induction ks with
  |nil=>rfl
  |cons k ks ih=>simp [gS,ih]
mutual
theorem oR : (t : Tm) -> txt (nrm t) = txt t
  | .mk k n ks => by
    simp only[nrm,txt,mM ks];by_cases h:k=1
    · simp [h]
    · simp only[h,if_false,wtn]
theorem mM : (ks : List Tm) -> jY (gS ks) = jY ks
  |[]=>rfl
  |k::ks=>by simp only[gS,jY,oR k,mM ks]
end
def yD (T0:World->Prop) (n:Int):Prop:=(∀w,T0 w->Calls Tryd.prog 98 (List.toArray [.int .i64 n]) w (Ret λv w'=>v= .string (bs (Lib.itoa n))/\Gr w w'))/\(Lib.itoa n).length<=1000
def WrK (T0:World->Prop) (k n:Int) (ks:List Tm):Prop:=(1<=k/\k<=9)/\(k=1->yD T0 n/\ks=[])/\(k≠1->0<ks.length/\ks.length<=1000)/\(k=3->ks.length=2)/\((ks.map txt).map List.length).sum+ks.length<=1099511627000
theorem sc (l : List Tx) : (Lib.join l [44]).length <= (l.map List.length).sum + l.length := by
  induction l with
  |nil=>simp [Lib.join]
  | cons x l ih =>
    cases l with
    |nil=>simp [Lib.join,List.intercalate]
    | cons y l =>
      have h1:=Lib.join_cons x (y::l) [44];have h2:=Lib.join_cons y l [44];rw[h2]at ih;rw[h1];simp only[zP,Lib.joinTail,Ad,List.flatten_cons,zZ,List.sum_cons,Az]at ih⊢;omega
theorem fL {T0 : World -> Prop} {nb : Nat} (hT : ∀ w w', Below nb w w' -> T0 w -> T0 w') (hjoin : cK) {k n : Int} {ks : List Tm} (hw : WrK T0 k n ks) {X : List Nat} {ad : Option Addr} {cap : Nat} {xs : List Value} (w0 : World) (hnb : nb <= w0.heap.size) (hw0 : T0 w0)
    (hsl:0<ks.length->∃b o,ad=some ⟨b,o,none⟩/\b∉X/\At w0 b o xs) (hks:IsNs w0 X ks xs):
    Calls Tryd.prog 83 (List.toArray [.int .i64 k,.int .i64 n,.slice ad ks.length cap]) w0 (Ret λv w'=>v= .string (bs (txt (.mk k n ks)))/\Gr w0 w'):=by
  obtain⟨h1,h2,h3,h4,h5⟩:=hw;simp only[txt];by_cases hk:k=1
  · subst hk
    obtain⟨h6,rfl⟩:=h2 rfl;exact lC hT h6.1 h6.2 w0 hnb hw0
  · by_cases hk3 : k = 3
    · subst hk3
      exact nT w0 (h4 rfl) (by omega) hsl hks hjoin
    · have := sc (ks.map txt)
      simp only[z7]at this;exact mB h1 hk hk3 w0 (h3 hk).1 (h3 hk).2 (by omega) hsl hks hjoin
mutual
def WrT (T0 : World -> Prop) : Tm -> Prop
  | .mk k nm ks=>WrK T0 k (if k=1 then nm else 0) (ks.map nrm)/\ks.length<=1000/\WrTs T0 ks
def WrTs (T0 : World -> Prop) : List Tm -> Prop
  |[]=>True
  |t::ts=>WrT T0 t/\WrTs T0 ts
end
theorem WrTs.at {T0 : World -> Prop} : ∀ {ts : List Tm}, WrTs T0 ts -> ∀ t, t ∈ ts -> WrT T0 t
  |[],_,t,ht=>by simp at ht
  | u :: ts, h, t, ht => by
    simp only[WrTs]at h;rcases zx.1 ht with rfl|ht
    · exact h.1
    · exact WrTs.at h.2 t ht
theorem Own.cells1 {w : World} {base m n : Nat} {e : TypeId} {v : Value} {xs : List Value} (h : Own w base e m v n xs) : v.cells = #[v] := by
  rcases h.at with⟨rfl,_⟩|⟨b,cap,rfl,_⟩<;>rfl
theorem jf {T0 : World -> Prop} {nb : Nat} (hT : ∀ w w', Below nb w w' -> T0 w -> T0 w') (hjoin : cK) {k n : Int} {ks : List Tm} (hw : WrK T0 k n ks) {X : List Nat} {base m : Nat} {e : TypeId} {lv : Value} {ps : List Value} (w0 : World) (hnb : nb <= w0.heap.size) (hw0 : T0 w0)
    (hown:Own w0 base e 1 lv m ps) (hm:m=ks.length) (hks:IsNs w0 X ks ps):
    Calls Tryd.prog 83 (List.toArray [.int .i64 k,.int .i64 n,lv]) w0 (Ret λv w'=>v= .string (bs (txt (.mk k n ks)))/\Gr w0 w'):=by
  subst hm;have h0:IsNs w0 [] ks ps:=IsNs.mv (Ch.refl [] w0) (by simp) (by simp) ks ps hks;rcases hown.at with⟨rfl,h1,h2⟩|⟨b,cap,rfl,_,hat⟩
  · have h3 : ks = [] := zR h1
    subst h3;exact fL hT hjoin hw (ad:=none) (cap:=0) w0 hnb hw0 (by simp) h0
  · exact fL hT hjoin hw (ad:=some ⟨b,0,none⟩) (cap:=cap) w0 hnb hw0 (λ_=>⟨b,0,rfl,by simp,hat⟩) h0
theorem IsN.mk' {w : World} {X : List Nat} {b base : Nat} {k nm n0 : Int} {ks : List Tm} {lv : Value} {ps : List Value} {e t : TypeId} {f : Nat × Nat} (hb : b ∉ X) (hat : w.heap[b]? = some (.cells #[.int .i64 k, .int .i64 n0, lv, .string (bs (txt (.mk k n0 (ks.map nrm))))] t f))
    (hn:n0=if k=1 then nm else 0) (hown:Own w base e 1 lv ks.length ps) (hlo:∀y,y∈bC lv->y∉X) (hns:IsNs w X (ks.map nrm) ps):IsN w X (nrm (.mk k nm ks)) (.pointer (some ⟨b,0,none⟩)):=by
  simp only[nrm,rO,<-hn,IsN];refine⟨b,lv,ps,rfl,hb,At.of_blk hat,?_,hns⟩;simp only[z7];have hl:=hown.lt;rcases hown.at with⟨h1,h2,h3⟩|⟨g,cap,rfl,hc,ha⟩
  · exact .inl ⟨.inl h1,h2,h3⟩
  · obtain ⟨cap, rfl⟩ := Nat.le.dest hc
    exact .inr ⟨g,0,cap,rfl,hlo g (by simp [bC]),(hl g (by simp [bC])).2,ha⟩
end Go.Mi.Term
