/- 'missivelaw25.SessionSpoilt': the law returns true for every input. No conditions. -/
import Derived.Test.YtmkplecnmklbfaaGreatRows
import Derived.ChangeArms
import Derived.Deep.Grids
import Derived.WalkKit
import Derived.ProofKit
import Derived.OpenShut
import Derived.ShutString
import Derived.ChangeOld
import Derived.Below
import Derived.Test.YtmkplecnmklbfaaGreatJ9PSpoilt
set_option maxRecDepth 100000
set_option maxHeartbeats 1000000
set_option linter.unusedSimpArgs false
set_option linter.unusedVariables false
set_option linter.unnecessarySimpa false
set_option linter.unusedSectionVars false
namespace Go.Proofs.YtmkplecnmklbfaaGreat.sessionSpoilt
open Go.ChangeShapes Go.WideShapes Go.ChangeAt Go.RowKit
open Go.ChangeMaps (open_string shut_string)
open Go.Mi Go.Sx
set_option linter.unusedVariables false
theorem own:ownKnob Tryz.prog.godebug=none:=by kernel_rfl
theorem Tk:laidOutB Tryz.prog=true:=by kernel_rfl
set_option maxRecDepth 100000
theorem nG {w:World} {base:Nat} {a:Addr} {cs:List Value} (h:w.cells? base a 5=some cs):∀j,j<5->w.cell? (a.add j)=cs[j]? :=by
 unfold World.cells? at h;split at h
 ·exact λj hj=>mapM_some_get h j j (by simp [hj])
 ·cases h
theorem uU {H:Type} {enc:TypeId×Value->H} {w:World} {base fuel:Nat} {cs:List Value} {x:DataW H×List MemPlace} (h:DataW.trod enc Tryz.prog w base (λ_=>true) true fuel 63 cs=some x):StC w cs:=by
 obtain⟨xs,n,rfl,_,hl,hxl,hf⟩:=DataW.trod_struct Tryz.underlying63 h;have hc:Tryz.prog.cellsOf 63=5:=by kernel_rfl
 have hc3:Tryz.prog.cellsOf 3=1:=by kernel_rfl
 have hc4:Tryz.prog.cellsOf 22=1:=by kernel_rfl
 rw[hc]at hl
 match cs,hl with
 |[a,b,c,d,s],_=>
  have f0:DataW.trod enc Tryz.prog w base (λ_=>true) true n 3 (([a,b,c,d,s].drop 0).take (Tryz.prog.cellsOf 3))=xs[0]? :=hf 0 _ rfl;have f1:DataW.trod enc Tryz.prog w base (λ_=>true) true n 3 (([a,b,c,d,s].drop 1).take (Tryz.prog.cellsOf 3))=xs[1]? :=hf 1 _ rfl;have f2:DataW.trod enc Tryz.prog w base (λ_=>true) true n 3 (([a,b,c,d,s].drop 2).take (Tryz.prog.cellsOf 3))=xs[2]? :=hf 2 _ rfl;have f3:DataW.trod enc Tryz.prog w base (λ_=>true) true n 3 (([a,b,c,d,s].drop 3).take (Tryz.prog.cellsOf 3))=xs[3]? :=hf 3 _ rfl;have f4:DataW.trod enc Tryz.prog w base (λ_=>true) true n 22 (([a,b,c,d,s].drop 4).take (Tryz.prog.cellsOf 22))=xs[4]? :=hf 4 _ rfl;have hxl:xs.length=5:=hxl;rw[am (by omega)]at f0 f1 f2 f3 f4;simp only[hc3,hc4,ig,iu,gd,gl]at f0 f1 f2 f3 f4;obtain⟨_,h0,_,_⟩:=DataW.trod_int Tryz.underlying3 f0;obtain⟨_,h1,_,_⟩:=DataW.trod_int Tryz.underlying3 f1;obtain⟨_,h2,_,_⟩:=DataW.trod_int Tryz.underlying3 f2;obtain⟨_,h3,_,_⟩:=DataW.trod_int Tryz.underlying3 f3;cases h0;cases h1;cases h2;cases h3;rcases open_ints Tryz.underlying22 Tryz.underlying5 (by kernel_rfl) f4 with⟨hcs,_⟩|⟨x,l,c,zs,hcs,_,hl,hm,hz,_,hcell,hwz⟩
  ·cases hcs;exact⟨_,_,_,_,none,0,0,[],rfl,an _,br _,rfl,λ_=>rfl,λ_ hh=>by cases hh⟩
  ·cases hcs;have hz:zs.length=c:=by simpa using hz
   exact⟨_,_,_,_,some x,l,c,zs,rfl,hl,hm,hz,(λhh=>by cases hh),λa ha i hi=>by cases ha;exact hcell i (by omega)⟩
theorem uT {H:Type} {enc:TypeId×Value->H} {w:World} {base:Nat} {a:Option Addr} {len cap:Nat} {d:DataW H} {ps:List MemPlace} (h:DataW.Trod enc Tryz.prog w base (λ_=>true) true 59 (.slice a len cap) d ps) (ho:∀x,a=some x->x.spot=none/\x.block<w.heap.size/\len<=cap):∃l:List (Int×Int×Int×Int×List Int),Sm g00 w (.ls false KSt l) (.slice a len cap):=by
 obtain⟨fuel,h⟩:=h;rcases DataW.trod_slice Tryz.underlying59 h with⟨h1,_⟩|⟨a2,len2,cap2,elems,rest,n,h0,h1,hx,hb,hl,hm,hel,hall,_,_⟩
 ·cases(show[Value.slice a len cap]=[Value.slice none 0 0]from h1);exact⟨[],_,[],rfl,Lsl.nil,aa⟩
 ·cases h0;cases(show[Value.slice a len cap]=[Value.slice (some a2) len2 cap2]from h1);have hc:Tryz.prog.cellsOf 63=5:=by kernel_rfl
  rw[hc]at hall;obtain⟨o1,o2,_⟩:=ho _ rfl;refine uS hl hm ⟨o1,o2⟩ λi hi=> ?_;have h2:=hall i hi;have h3:elems[i]? =some (elems[i]'(by omega)):=am (by omega);rw[h3,be]at h2;obtain⟨cs,h4,h5⟩:=h2;exact⟨cs,uU h5,nG h4⟩
set_option maxRecDepth 100000 in
theorem wK (os : Os) (started : os.Started) (H : Type) (enc : TypeId × Value -> H) :
  ReturnsInHanded {} Tryz.checked os 9 .any (Rows.sessionSpoiltSpec.pre6 enc Tryz.prog Tryz.f9 Rows.sessionSpoiltRow.domain false) (Rows.sessionSpoiltSpec.post enc Tryz.prog Tryz.f9 false true false false):=by
 refine returnsInHanded_of_change (C:=Tryz.checked) own started (by kernel_rfl) Tryz.func9
  (ChangeSpec.witness6 (enc:=enc) (C:=Tryz.checked) false ⟨#[],#[.slice none 0 0,.bool false,.slice none 0 0,.int .i64 0,.slice none 0 0],[]⟩ 8 (by kernel_rfl) (by kernel_rfl) (by kernel_rfl) (by kernel_rfl)) ?_
 intro W base args ds gs before hval0 hW hcnd _;have hval:∀(j:Nat) t v,Tryz.f9.params[j]? =some t->args[j]? =some v->Value.okWide Tryz.prog W .any base t v:=hval0;have hW':=hW;obtain⟨p,q,hA0,hV,rfl,hfz,hnd⟩:=hW;have hA:DataW.TrodAll enc Tryz.prog W 0 (λ_=>true) true Tryz.f9.params.toList args.toList ds p:=hA0;rw[Tryz.params9]at hA hval;obtain⟨v0,vs0,d0,ds0,p0,q0,hargs,rfl,rfl,h0,r0⟩:=trodAll_cons hA;obtain⟨v1,vs1,d1,ds1,p1,q1,rfl,rfl,rfl,h1,r1⟩:=trodAll_cons r0;obtain⟨v2,vs2,d2,ds2,p2,q2,rfl,rfl,rfl,h2,r2⟩:=trodAll_cons r1;obtain⟨v3,vs3,d3,ds3,p3,q3,rfl,rfl,rfl,h3,r3⟩:=trodAll_cons r2;obtain⟨v4,vs4,d4,ds4,p4,q4,rfl,rfl,rfl,h4,r4⟩:=trodAll_cons r3;obtain⟨rfl,rfl,rfl⟩:=trodAll_nil r4;obtain rfl:args= #[v0,v1,v2,v3,v4]:=by cases args;simp_all
 obtain⟨rfl,rfl⟩:=trodVars_none hV;obtain⟨a0,len0,cap0,rfl⟩:=okWide_slice Tryz.underlying22 (hval 0 22 v0 rfl rfl);have k0:=h0;have lt0:∀x∈p0,x.block<W.heap.size:=by obtain⟨m,hm⟩:=k0;exact DataW.trod_lt m _ _ _ hm
 have ok0:∀x,a0=some x->x.spot=none/\x.block<W.heap.size/\len0<=cap0:=λx hx=>WC Tryz.underlying22 (by rw[<-hx];exact hval 0 22 _ rfl rfl);obtain⟨z0,w0⟩:∃zs,(a0=none/\len0=0/\cap0=0/\zs=[])\/∃x,a0=some x/\len0<=cap0/\cap0<=maxLen/\zs.length=cap0/\(∀i,i<zs.length->W.cell? (x.add i)=some (.int .u8 (zs.getD i 0)))/\∀n∈zs,(Lit.int .u8 n).wf=true:=by
  obtain⟨fuel,hf⟩:=h0;rcases open_ints Tryz.underlying22 Tryz.underlying5 (by kernel_rfl) hf with⟨hcs,_⟩|⟨x,l,c,zs,hcs,_,hl,hm,hz,_,hcell,hwz⟩
  ·simp [Value.cells]at hcs;obtain⟨rfl,rfl,rfl⟩:=hcs;exact⟨[],.inl ⟨rfl,rfl,rfl,rfl⟩⟩
  ·simp [Value.cells]at hcs;obtain⟨rfl,rfl,rfl⟩:=hcs;exact⟨zs,.inr ⟨_,rfl,hl,hm,by simpa using hz,hcell,hwz⟩⟩
 have s0:=d6 w0 ok0;obtain⟨a1,rfl,rfl,rfl⟩:=open_bool Tryz.underlying4 (hval 1 4 v1 rfl rfl) h1;obtain⟨a2,len2,cap2,rfl⟩:=okWide_slice Tryz.underlying59 (hval 2 59 v2 rfl rfl);have k2:=h2;have lt2:∀x∈p2,x.block<W.heap.size:=by obtain⟨m,hm⟩:=k2;exact DataW.trod_lt m _ _ _ hm
 have ok2:∀x,a2=some x->x.spot=none/\x.block<W.heap.size/\len2<=cap2:=λx hx=>WC Tryz.underlying59 (by rw[<-hx];exact hval 2 59 _ rfl rfl);obtain⟨l2,s2⟩:=uT h2 ok2;obtain⟨a3,rfl,rfl,rfl,w3⟩:=open_int Tryz.underlying3 (hval 3 3 v3 rfl rfl) h3;have b3: -9223372036854775808<=a3/\a3<=9223372036854775807:=by simpa[Lit.wf,IntKind.min,IntKind.max,IntKind.signed,IntKind.bits]using w3
 obtain⟨a4,len4,cap4,rfl⟩:=okWide_slice Tryz.underlying22 (hval 4 22 v4 rfl rfl);have k4:=h4;have lt4:∀x∈p4,x.block<W.heap.size:=by obtain⟨m,hm⟩:=k4;exact DataW.trod_lt m _ _ _ hm
 have ok4:∀x,a4=some x->x.spot=none/\x.block<W.heap.size/\len4<=cap4:=λx hx=>WC Tryz.underlying22 (by rw[<-hx];exact hval 4 22 _ rfl rfl);obtain⟨z4,w4⟩:∃zs,(a4=none/\len4=0/\cap4=0/\zs=[])\/∃x,a4=some x/\len4<=cap4/\cap4<=maxLen/\zs.length=cap4/\(∀i,i<zs.length->W.cell? (x.add i)=some (.int .u8 (zs.getD i 0)))/\∀n∈zs,(Lit.int .u8 n).wf=true:=by
  obtain⟨fuel,hf⟩:=h4;rcases open_ints Tryz.underlying22 Tryz.underlying5 (by kernel_rfl) hf with⟨hcs,_⟩|⟨x,l,c,zs,hcs,_,hl,hm,hz,_,hcell,hwz⟩
  ·simp [Value.cells]at hcs;obtain⟨rfl,rfl,rfl⟩:=hcs;exact⟨[],.inl ⟨rfl,rfl,rfl,rfl⟩⟩
  ·simp [Value.cells]at hcs;obtain⟨rfl,rfl,rfl⟩:=hcs;exact⟨zs,.inr ⟨_,rfl,hl,hm,by simpa using hz,hcell,hwz⟩⟩
 have s4:=d6 w4 ok4;clear hA0 hval0;refine(ZV (Go.Sx.Tryz.sspl_ok (z0.take len0:List Int) a1 l2 a3 (z4.take len4:List Int)) rfl rfl (vs:=[.slice a0 len0 cap0,.bool a1,.slice a2 len2 cap2,.int .i64 a3,.slice a4 len4 cap4]) ⟨[_],_,rfl,s0,⟨[_],_,rfl,rfl,⟨[_],_,rfl,s2,⟨[_],_,rfl,rfl,⟨[_],_,rfl,s4,rfl⟩⟩⟩⟩⟩).mono λe W' ⟨he,bel⟩=> ?_;subst he;exact⟨_,rfl,_,_,_,[],_,[],hW',trodAll_mk1 (shut_bool Tryz.underlying4 _),(trodAll_cons_mk (Below.trod Tk (by kernel_rfl) (cj (by kernel_rfl)) k0 bel lt0) (trodAll_cons_mk (shut_bool Tryz.underlying4 _) (trodAll_cons_mk (Below.trod Tk (by kernel_rfl) (cj (by kernel_rfl)) k2 bel lt2) (trodAll_cons_mk (shut_int Tryz.underlying3 w3) (trodAll_cons_mk (Below.trod Tk (by kernel_rfl) (cj (by kernel_rfl)) k4 bel lt4) trodAll_mk0))))),rfl,bel.frame _,λh=>by cases h⟩
theorem AbZ:Rows.sessionSpoiltRow.holds Tryz.pinned (OpenSpec.ofChange Rows.sessionSpoiltSpec):=
 OpenClaim.holds_of_wide 9 Tryz.f9 rfl rfl rfl rfl rfl rfl rfl ⟨rfl,rfl,rfl,rfl,rfl⟩ rfl rfl rfl rfl rfl (by kernel_rfl) Tryz.func9 (by kernel_rfl)
  (cj (by kernel_rfl)) (by unfold Func.isWrapper;first |(rw[ab (by decide+kernel)];kernel_rfl)|(rw[aj (by decide+kernel)];exact⟨rfl,rfl⟩))
  (λos started H enc _=>wK os started H enc)
theorem proved:Rows.SessionSpoiltSaid:=AbZ
end Go.Proofs.YtmkplecnmklbfaaGreat.sessionSpoilt
