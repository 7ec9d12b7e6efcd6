/- Nothing as a run; what is broken, compared. General lemmas. -/
import Derived.Test.YtoefhjabaanokaaDoorH35
set_option linter.unusedSimpArgs false
set_option linter.unusedVariables false
set_option linter.unnecessarySimpa false
namespace Go.Mi.Term
open Go.Mi Go.Proofs Go.RowKit
set_option maxRecDepth 100000 in
theorem qW {a b a' b':Bool} (w:World):(binOp .eql 31 (.agg #[.bool a,.bool b]) (.agg #[.bool a',.bool b'])).run Tryd.prog w= .ok (.bool (a==a'&&b==b')) w:=by
 have hf:Tryd.prog.fieldsOf 31=(match Tryd.prog.underlying 31 with
  |some (.struct fs)=>fs
  |_=> #[]):=rfl
 have e1:=eJ (P:=Tryd.prog) (w:=w) 9998 (a:=a) (b:=a') u4;have e2:=eJ (P:=Tryd.prog) (w:=w) 9998 (a:=b) (b:=b') u4;have p:∀x y:Bool,(part 4 #[.bool x,.bool y] 0).run Tryd.prog w= .ok (.bool x) w/\(part 4 #[.bool x,.bool y] 1).run Tryd.prog w= .ok (.bool y) w:=λx y=>by constructor<;>simp [part,gx u4 rfl]
 rw[u31]at hf;rw[run_eql_struct,run_equalIn_struct w 9999 31 _ _ (by rw[u31,hf]) (by kernel_rfl),hf];simp only[Op.eqFields,Sem.run_bind,(p _ _).1,(p _ _).2,Result.andThen_ok,e1,e2,Sem.run_ite];cases a<;>cases a'<;>cases b<;>cases b'<;>rfl
theorem yX (w:World):∀fs,Tryd.prog.underlying 31=some (.struct fs)->(fs.mapM λf=>(do pure (f.offset,<-sizeOf f.type):Sem (Nat×Nat))).run Tryd.prog w= .ok #[(0,1),(1,1)] w:=by intro fs h;rw[u31]at h;cases h;obtain⟨i1,h1,e1⟩:=zq.1 sz4;simp [sizeOf,typeInfo,h1,e1]
section
set_option maxRecDepth 100000
variable {ops:List Oper} {n:Nat} {B:Nat->BX XX} {i p b k o base:Nat} {L:TL TT} {ph:List Nat} {ρ:RX} {ns:List (Nat×Sp TT)} {ds:Option Tmp} {ty:TypeId} {pos:String} {af:Array Edge} {gu:Option (Nat×Bool)} {t:TypeId} {x y z:Operand} {κ:RY} {r:Rn}
theorem xB {a b' a' b2:Bool} {c:Bool} {t':TypeId} (hop:ops.getD i default=⟨ds,.binOp .neq 31 x y t',t,pos,af,gu⟩) (hx:spO L x=some (agS (cxV [.bool a,.bool b']))) (hy:spO L y=some (agS (cxV [.bool a',.bool b2]))) (hc:(a==a'&&b'==b2)=c):EOb Tryd.prog n ops XX B ⟨i,L,eqS (.bool !c),ph,false⟩ p:=bN λξ g w hB hH=>by
 rw[hop];obtain⟨v1,h1,vs1,rfl,e1⟩:=bH hx hH;obtain⟨v2,h2,vs2,rfl,e2⟩:=bH hy hH;obtain rfl:vs1=[.bool a,.bool b']:=e1;obtain rfl:vs2=[.bool a',.bool b2]:=e2;refine⟨_,rfl,Det.of_run λac hF=> ?_⟩;have hg:=run_eqGuard_agg (P:=Tryd.prog) w .neq 31 x y [Value.bool a,.bool b'].toArray [Value.bool a',.bool b2].toArray (by kernel_rfl);have h3:=qW (a:=a) (b:=b') (a':=a') (b':=b2) w;rw[hc]at h3;have h4:(binOp .neq 31 (.agg #[.bool a,.bool b']) (.agg #[.bool a',.bool b2])).run Tryd.prog w= .ok (.bool !c) w:=by
  have e:(binOp .eql 31 (.agg #[.bool a,.bool b']) (.agg #[.bool a',.bool b2]))=(Op.equal 31 (.agg #[.bool a,.bool b']) (.agg #[.bool a',.bool b2])>>=λr=>pure (Value.bool r)):=rfl;rw[e,Sem.run_bind]at h3;show(Op.equal 31 (.agg #[.bool a,.bool b']) (.agg #[.bool a',.bool b2])>>=λr=>pure (Value.bool !r)).run Tryd.prog w=_;rw[Sem.run_bind];cases hr:(Op.equal 31 (.agg #[.bool a,.bool b']) (.agg #[.bool a',.bool b2])).run Tryd.prog w with
  |ok v w2=>
   rw[hr]at h3;simp only[Result.andThen_ok,Sem.run_pure,Result.ok.injEq,Value.bool.injEq]at h3⊢;rw[h3.1];exact⟨rfl,h3.2⟩
  |_=>rw[hr]at h3;cases h3
 simp [execOp,hF.eval h1,hF.eval h2,hg,h4]
end
end Go.Mi.Term
