/- 'missivelaw18.SymbolPlays': the law returns true for every input, the tables of numerals laid as the program's text lays them (tied). No other conditions. -/
import Derived.Test.YtoefhjabaanokaaDoorM4
import Derived.Test.YtoefhjabaanokaaDoorF3
import Derived.Test.YtoefhjabaanokaaDoorTie
import Derived.Test.YtoefhjabaanokaaDoorCards
import Derived.WalkKit
import Derived.ProofKit
import Derived.Handy
import Derived.Lay
import Derived.OpenShut
import Derived.SevenTiedAt
set_option linter.unusedSimpArgs false
set_option linter.unusedVariables false
set_option linter.unnecessarySimpa false
namespace Go.Proofs.YtoefhjabaanokaaDoor.symbolPlays
open Go.ChangeShapes Go.WideShapes Go.ChangeAt Go.RowKit
open Go.Mi Go.Mi.Term
set_option linter.unusedVariables false
theorem laidOut:laidOutB Tryd.prog=true:=by kernel_rfl
theorem own:ownKnob Tryd.prog.godebug=none:=by kernel_rfl
theorem tabs {W:World} (h:laidMetH Tryd.prog Rows.symbolPlaysRow.laid W):T0 W:=
 T0.of_laid (a:=("math/bits.deBruijn32tab",Rows.laid_math_bits_deBruijn32tab)) (b:=("math/bits.deBruijn64tab",Rows.laid_math_bits_deBruijn64tab)) h (by rw[MakeChecks.laidMetH_plain _ _ _ (by kernel_rfl)])
set_option maxRecDepth 100000 in
theorem lifted (os : Os) (started : os.Started) (H : Type) (enc : TypeId × Value -> H) :
  ReturnsInHanded {} Tryd.checked os 11 .any (λw args=>(Rows.symbolPlaysSpec.pre enc Tryd.prog Tryd.f11 [] false w args/\laidMetH Tryd.prog Rows.symbolPlaysRow.laid w)/\sizedMet enc Tryd.prog Tryd.f11 (OpenSpec.ofChange Rows.symbolPlaysSpec) false w args)
   (Rows.symbolPlaysSpec.post enc Tryd.prog Tryd.f11 false true false false):=by
 refine returnsInHanded_of_change_and (C:=Tryd.checked) (X:=λw _=>laidMetH Tryd.prog Rows.symbolPlaysRow.laid w) (λ_ _ _ hh h=>h.of_heap hh) own started (by kernel_rfl) Tryd.func11
  (ChangeSpec.witness_shaped (enc:=enc) (C:=Tryd.checked) (os:=os) (X:=λw _=>laidMetH Tryd.prog Rows.symbolPlaysRow.laid w) false (World.laidAll Tryd.prog os Rows.symbolPlaysRow.laid) #[.bool false,.slice none 0 0] 8 (World.laidAll_os _ _ _)
   (World.shaped_of_ZipB (by kernel_rfl) (by kernel_rfl)) (by kernel_rfl) (by kernel_rfl) (by kernel_rfl)
   (by rw[MakeChecks.laidMetH_plain _ _ _ (by kernel_rfl)];exact laidMet_laidAll _ (by kernel_rfl) (by kernel_rfl))) ?_
 intro W c args ds gs before b hW _ _ hL _;have a:∀(j:Nat) t v,Tryd.f11.params[j]? =some t->args[j]? =some v->Value.okWide Tryd.prog W .any c t v:=b;have d:=hW;obtain⟨p,q,f,hV,rfl,hfz,hnd⟩:=hW;have hA:DataW.TrodAll enc Tryd.prog W 0 (λ_=>true) true Tryd.f11.params.toList args.toList ds p:=f;rw[Tryd.params11]at hA a;obtain⟨v0,vs0,d0,ds0,p0,q0,hargs,rfl,rfl,h0,r0⟩:=trodAll_cons hA;obtain⟨v1,vs1,d1,ds1,p1,q1,rfl,rfl,rfl,h1,r1⟩:=trodAll_cons r0;obtain⟨rfl,rfl,rfl⟩:=trodAll_nil r1;obtain rfl:args= #[v0,v1]:=by cases args;simp_all
 obtain⟨rfl,rfl⟩:=trodVars_none hV;obtain⟨a0,rfl,rfl,rfl⟩:=open_bool Tryd.underlying4 (a 0 4 v0 rfl rfl) h0;obtain⟨a1,len1,cap1,rfl⟩:=okWide_slice Tryd.underlying51 (a 1 51 v1 rfl rfl);have k1:=h1;have g:∀x∈p1,x.block<W.heap.size:=by obtain⟨m,hm⟩:=k1;exact DataW.trod_lt m _ _ _ hm
 obtain⟨l1,x1⟩:=ql h1 rfl;clear f b;simp only[AQ]at d;refine(n_ W (tabs hL) x1).mono λe W' ⟨v,he,hv,hg⟩=> ?_;subst he hv;exact⟨_,rfl,_,_,_,[],_,[],d,trodAll_mk1 (shut_bool Tryd.underlying4 _),(trodAll_cons_mk (shut_bool Tryd.underlying4 _) (trodAll_cons_mk (Below.trod laidOut (by kernel_rfl) (zB (by kernel_rfl)) k1 hg g) trodAll_mk0)),rfl,hg.frame _,λh=>by cases h⟩
theorem over:Rows.SymbolPlaysSaid:=
 OpenClaim.holds_of_wide 11 Tryd.f11 rfl rfl rfl rfl rfl rfl rfl ⟨rfl,rfl,rfl,rfl,rfl⟩ rfl rfl rfl rfl rfl (by kernel_rfl) Tryd.func11 (by kernel_rfl)
  (zB (by kernel_rfl)) (by unfold Func.isWrapper;first |(rw[zX (by decide+kernel)];kernel_rfl)|(rw[zK (by decide+kernel)];exact⟨rfl,rfl⟩))
  (λos started H enc _=>lifted os started H enc)
theorem proved:Rows.SymbolPlaysCardSaid:=
 Claim7.holds_tied_plain_at .later [] [.data,.data,.data] true (true, "55fd016c42503bf1be4062d5e21427a93878c87667ff21400da54f0a0321f930") true over (λ_ h=>by cases h) (by kernel_rfl) (λ_ h=>by cases h) symbolPlays_row_tie rfl ⟨rfl,rfl⟩ (by kernel_rfl) rfl
  (λf fn hf hfn=>by
   obtain rfl:f=11:=Option.some.inj ((show Tryd.prog.funcNamed "missive/missivelaw18.SymbolPlays" =some 11 by kernel_rfl).symm.trans hf)|>.symm
   obtain rfl:fn=Tryd.f11:=(Option.some.inj (Tryd.func11.symm.trans hfn)).symm;exact⟨by kernel_rfl,λj t ht=>by
    rw[Tryd.params11]at ht;have hm:t∈[4,51]:=by have :=Array.mem_of_getElem? ht;simp at this⊢;first |omega|(rcases this with rfl|rfl<;>simp)|(rcases this with rfl|rfl|rfl<;>simp)|(rcases this with rfl|rfl|rfl|rfl<;>simp)
    have hall:([4,51].all λu=> !Tryd.prog.wantsStandIn u)=true:=by kernel_rfl
    exact(show Tryd.prog.wantsStandIn t=false by simpa using AL.1 hall t hm)⟩)
  (by kernel_rfl)
end Go.Proofs.YtoefhjabaanokaaDoor.symbolPlays
