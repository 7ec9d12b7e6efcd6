/- 'missivelaw25.SessionTalk': the law returns true for every input. No conditions. -/
import Derived.Test.YtmkplecnmklbfaaGreatRows
import Derived.Deep.Grids
import Derived.Deep.Matrix
import Derived.WalkKit
import Derived.ProofKit
import Derived.OpenShut
import Derived.ShutString
import Derived.ChangeOld
import Derived.Below
import Derived.Test.YtmkplecnmklbfaaGreatJ8PTalk
set_option maxRecDepth 100000
set_option maxHeartbeats 1000000
set_option linter.unusedSimpArgs false
set_option linter.unusedVariables false
set_option linter.unnecessarySimpa false
set_option linter.unusedSectionVars false
namespace Go.Proofs.YtmkplecnmklbfaaGreat.sessionTalk
open Go.ChangeShapes Go.WideShapes Go.ChangeAt Go.RowKit
open Go.ChangeMaps (open_string shut_string)
open Go.Mi Go.Sx
set_option linter.unusedVariables false
theorem own:ownKnob Tryz.prog.godebug=none:=by kernel_rfl
theorem UD:laidOutB Tryz.prog=true:=by kernel_rfl
set_option maxRecDepth 100000 in
theorem AcL (os : Os) (started : os.Started) (H : Type) (enc : TypeId × Value → H) :
  ReturnsInHanded {} Tryz.checked os 6 .any (Rows.sessionTalkSpec.pre6 enc Tryz.prog Tryz.f6 Rows.sessionTalkRow.domain false) (Rows.sessionTalkSpec.post enc Tryz.prog Tryz.f6 false true false false):=by
 refine returnsInHanded_of_change (C:=Tryz.checked) own started (by kernel_rfl) Tryz.func6
  (ChangeSpec.witness6 (enc:=enc) (C:=Tryz.checked) false ⟨#[],#[.slice none 0 0,.slice none 0 0,.slice none 0 0,.bool false],[]⟩ 8 (by kernel_rfl) (by kernel_rfl) (by kernel_rfl) (by kernel_rfl)) ?_
 intro W base args ds gs before hval0 hW hcnd _
 have hval:∀(j:Nat) t v,Tryz.f6.params[j]? =some t→args[j]? =some v→Value.okWide Tryz.prog W .any base t v:=hval0
 have hW':=hW
 obtain⟨p,q,hA0,hV,rfl,hfz,hnd⟩:=hW
 have hA:DataW.TrodAll enc Tryz.prog W 0 (fun _=>true) true Tryz.f6.params.toList args.toList ds p:=hA0
 rw[Tryz.params6]at hA hval
 obtain⟨v0,vs0,d0,ds0,p0,q0,hargs,rfl,rfl,h0,r0⟩:=trodAll_cons hA
 obtain⟨v1,vs1,d1,ds1,p1,q1,rfl,rfl,rfl,h1,r1⟩:=trodAll_cons r0
 obtain⟨v2,vs2,d2,ds2,p2,q2,rfl,rfl,rfl,h2,r2⟩:=trodAll_cons r1
 obtain⟨v3,vs3,d3,ds3,p3,q3,rfl,rfl,rfl,h3,r3⟩:=trodAll_cons r2
 obtain⟨rfl,rfl,rfl⟩:=trodAll_nil r3
 obtain rfl:args= #[v0,v1,v2,v3]:=by cases args;simp_all
 obtain⟨rfl,rfl⟩:=trodVars_none hV
 obtain⟨a0,len0,cap0,rfl⟩:=okWide_slice Tryz.underlying22 (hval 0 22 v0 rfl rfl)
 have k0:=h0
 have lt0:∀x∈p0,x.block<W.heap.size:=by obtain⟨m,hm⟩:=k0;exact DataW.trod_lt m _ _ _ hm
 have ok0:∀x,a0=some x→x.spot=none∧x.block<W.heap.size∧len0≤cap0:=fun x hx=>YE Tryz.underlying22 (by rw[←hx];exact hval 0 22 _ rfl rfl)
 obtain⟨z0,w0⟩:∃zs,(a0=none∧len0=0∧cap0=0∧zs=[])∨∃x,a0=some x∧len0≤cap0∧cap0≤maxLen∧zs.length=cap0∧(∀i,i<zs.length→W.cell? (x.add i)=some (.int .u8 (zs.getD i 0)))∧∀n∈zs,(Lit.int .u8 n).wf=true:=by
  obtain⟨fuel,hf⟩:=h0
  rcases open_ints Tryz.underlying22 Tryz.underlying5 (by kernel_rfl) hf with⟨hcs,_⟩|⟨x,l,c,zs,hcs,_,hl,hm,hz,_,hcell,hwz⟩
  ·simp [Value.cells]at hcs
   obtain⟨rfl,rfl,rfl⟩:=hcs
   exact⟨[],.inl ⟨rfl,rfl,rfl,rfl⟩⟩
  ·simp [Value.cells]at hcs
   obtain⟨rfl,rfl,rfl⟩:=hcs
   exact⟨zs,.inr ⟨_,rfl,hl,hm,by simpa using hz,hcell,hwz⟩⟩
 have s0:=AbW w0 ok0
 obtain⟨a1,len1,cap1,rfl⟩:=okWide_slice Tryz.underlying51 (hval 1 51 v1 rfl rfl)
 have k1:=h1
 have lt1:∀x∈p1,x.block<W.heap.size:=by obtain⟨m,hm⟩:=k1;exact DataW.trod_lt m _ _ _ hm
 have ok1:∀x,a1=some x→x.spot=none∧x.block<W.heap.size∧len1≤cap1:=fun x hx=>YE Tryz.underlying51 (by rw[←hx];exact hval 1 51 _ rfl rfl)
 obtain⟨z1,w1⟩:∃B:Nat→Bool,(a1=none∧len1=0∧cap1=0)∨∃x,a1=some x∧len1≤cap1∧cap1≤maxLen∧∀i,i<cap1→W.cell? (x.add i)=some (.bool (B i)):=by
  obtain⟨fuel,hf⟩:=h1
  rcases Go.Deep.open_bools Tryz.underlying51 Tryz.underlying4 (by kernel_rfl) hf with⟨hcs,_⟩|⟨x,l,c,B,hcs,_,hl,hm,_,hcell⟩
  ·simp [Value.cells]at hcs
   obtain⟨rfl,rfl,rfl⟩:=hcs
   exact⟨fun _=>false,.inl ⟨rfl,rfl,rfl⟩⟩
  ·simp [Value.cells]at hcs
   obtain⟨rfl,rfl,rfl⟩:=hcs
   exact⟨B,.inr ⟨_,rfl,hl,hm,hcell⟩⟩
 have s1:=AbX w1 ok1
 obtain⟨a2,len2,cap2,rfl⟩:=okWide_slice Tryz.underlying52 (hval 2 52 v2 rfl rfl)
 have k2:=h2
 have lt2:∀x∈p2,x.block<W.heap.size:=by obtain⟨m,hm⟩:=k2;exact DataW.trod_lt m _ _ _ hm
 have ok2:∀x,a2=some x→x.spot=none∧x.block<W.heap.size∧len2≤cap2:=fun x hx=>YE Tryz.underlying52 (by rw[←hx];exact hval 2 52 _ rfl rfl)
 obtain⟨A2,L2,C2,Z2,w2⟩:∃(A:Nat→Option Addr) (L C:Nat→Nat) (Z:Nat→List Int),((a2=none∧len2=0∧cap2=0)∨∃x,a2=some x∧len2≤cap2∧cap2≤maxLen∧∀r,r<cap2→W.cell? (x.add r)=some (.slice (A r) (L r) (C r))∧AaV W .u8 (A r) (L r) (C r) (Z r))∧∀r,r<len2→∀n∈Z r,(Lit.int .u8 n).wf=true:=by
  obtain⟨fuel,hf⟩:=h2
  rcases Go.Deep.open_int_rows Tryz.underlying52 Tryz.underlying22 Tryz.underlying5 (by kernel_rfl) (by kernel_rfl) hf with⟨hcs,_⟩|⟨x,l,c,A,L,C,Z,hcs,_,hl,hm,_,hrow⟩
  ·simp [Value.cells]at hcs
   obtain⟨rfl,rfl,rfl⟩:=hcs
   exact⟨fun _=>none,fun _=>0,fun _=>0,fun _=>[],.inl ⟨rfl,rfl,rfl⟩,fun r hr=>absurd hr (Nat.not_lt_zero r)⟩
  ·simp [Value.cells]at hcs
   obtain⟨rfl,rfl,rfl⟩:=hcs
   exact⟨A,L,C,Z,.inr ⟨_,rfl,hl,hm,fun r hr=>by obtain⟨q1,q2,q3,q4,_,q6,q7⟩:=hrow r hr;exact⟨q1,q2,q3,q4,q6,fun a ha=>(q7 a ha).2⟩⟩,fun r hr=>(hrow r (by omega)).2.2.2.2.1⟩
 have s2:=AbV w2.1 ok2
 have b2:∀t∈rws len2 Z2 L2,By t:=by
  intro t ht x hx
  obtain⟨r,hr,rfl⟩:=List.mem_map.1 ht
  have :=w2.2 r (List.mem_range.1 hr) x (List.mem_of_mem_take hx)
  simp [Lit.wf,IntKind.min,IntKind.max,IntKind.signed,IntKind.bits]at this
  omega
 obtain⟨a3,rfl,rfl,rfl⟩:=open_bool Tryz.underlying4 (hval 3 4 v3 rfl rfl) h3
 clear hA0 hval0
 refine(eW (Go.Sx.Tryz.stalk_ok (z0.take len0:List Int) ((List.range len1).map z1:List Bool) (rws len2 Z2 L2) a3 b2) rfl rfl (vs:=[.slice a0 len0 cap0,.slice a1 len1 cap1,.slice a2 len2 cap2,.bool a3]) ⟨[_],_,rfl,s0,⟨[_],_,rfl,s1,⟨[_],_,rfl,s2,⟨[_],_,rfl,rfl,rfl⟩⟩⟩⟩).mono fun e W' ⟨he,bel⟩=> ?_
 subst he
 exact⟨_,rfl,_,_,_,[],_,[],hW',trodAll_mk1 (shut_bool Tryz.underlying4 _),(trodAll_cons_mk (Below.trod UD (by kernel_rfl) (of_decide_eq_true (by kernel_rfl)) k0 bel lt0) (trodAll_cons_mk (Below.trod UD (by kernel_rfl) (of_decide_eq_true (by kernel_rfl)) k1 bel lt1) (trodAll_cons_mk (Below.trod UD (by kernel_rfl) (of_decide_eq_true (by kernel_rfl)) k2 bel lt2) (trodAll_cons_mk (shut_bool Tryz.underlying4 _) trodAll_mk0)))),rfl,bel.frame _,fun h=>by cases h⟩
theorem Agm:Rows.sessionTalkRow.holds Tryz.pinned (OpenSpec.ofChange Rows.sessionTalkSpec):=
 OpenClaim.holds_of_wide 6 Tryz.f6 rfl rfl rfl rfl rfl rfl rfl ⟨rfl,rfl,rfl,rfl,rfl⟩ rfl rfl rfl rfl rfl (by kernel_rfl) Tryz.func6 (by kernel_rfl)
  (of_decide_eq_true (by kernel_rfl)) (by unfold Func.isWrapper;first |(rw[if_pos (by decide+kernel)];kernel_rfl)|(rw[if_neg (by decide+kernel)];exact⟨rfl,rfl⟩))
  (fun os started H enc _=>AcL os started H enc)
theorem proved:Rows.SessionTalkSaid:=Agm
end Go.Proofs.YtmkplecnmklbfaaGreat.sessionTalk
