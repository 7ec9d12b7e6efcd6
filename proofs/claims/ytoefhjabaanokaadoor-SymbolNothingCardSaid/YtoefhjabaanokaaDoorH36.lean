/- Nothing as a run; what is broken, compared. General lemmas. -/
import Derived.Test.YtoefhjabaanokaaDoorH35
set_option linter.unusedSimpArgs false
set_option linter.unusedVariables false
set_option linter.unnecessarySimpa false
namespace Go.Mi.Term
open Go.Mi Go.Proofs Go.RowKit
set_option maxRecDepth 100000 in
theorem run_eqlW {a b a' b' : Bool} (w : World) : (binOp .eql 31 (.agg #[.bool a, .bool b]) (.agg #[.bool a', .bool b'])).run Tryd.prog w = .ok (.bool (a == a' && b == b')) w := by
 have hf : Tryd.prog.fieldsOf 31 = (match Tryd.prog.underlying 31 with
  | some (.struct fs) => fs
  | _ => #[]) := rfl
 have e1 := run_equalIn_bool (P := Tryd.prog) (w := w) 9998 (a := a) (b := a') Tryd.underlying4
 have e2 := run_equalIn_bool (P := Tryd.prog) (w := w) 9998 (a := b) (b := b') Tryd.underlying4
 have p : ∀ x y : Bool, (part 4 #[.bool x, .bool y] 0).run Tryd.prog w = .ok (.bool x) w ∧ (part 4 #[.bool x, .bool y] 1).run Tryd.prog w = .ok (.bool y) w := fun x y => by
  constructor <;> simp [part, run_isAgg_flat Tryd.underlying4 rfl]
 rw [Tryd.underlying31] at hf
 rw [run_eql_struct, run_equalIn_struct w 9999 31 _ _ (by rw [Tryd.underlying31, hf]) (by kernel_rfl), hf]
 simp only [Op.eqFields, Sem.run_bind, (p _ _).1, (p _ _).2, Result.andThen_ok, e1, e2, Sem.run_ite]
 cases a <;> cases a' <;> cases b <;> cases b' <;> rfl
theorem pl31 (w : World) : ∀ fs, Tryd.prog.underlying 31 = some (.struct fs) → (fs.mapM fun f => (do pure (f.offset, ← sizeOf f.type) : Sem (Nat × Nat))).run Tryd.prog w = .ok #[(0, 1), (1, 1)] w := by
 intro fs h
 rw [Tryd.underlying31] at h
 cases h
 obtain ⟨i1, h1, e1⟩ := Option.map_eq_some_iff.1 sz4
 simp [sizeOf, typeInfo, h1, e1]
section
set_option maxRecDepth 100000
variable {ops : List Oper} {n : Nat} {B : Nat → BX XX} {i p b k o base : Nat} {L : TL TT} {ph : List Nat} {ρ : RX} {ns : List (Nat × Sp TT)} {ds : Option Tmp} {ty : TypeId} {pos : String} {af : Array Edge} {gu : Option (Nat × Bool)} {t : TypeId} {x y z : Operand} {κ : RY} {r : Rn}
theorem q_eqW {a b' a' b2 : Bool} {c : Bool} {t' : TypeId} (hop : ops.getD i default = ⟨ds, .binOp .eql 31 x y t', t, pos, af, gu⟩) (hx : spO L x = some (agS (cxV [.bool a, .bool b']))) (hy : spO L y = some (agS (cxV [.bool a', .bool b2]))) (hc : (a == a' && b' == b2) = c) : EOb Tryd.prog n ops XX B ⟨i, L, eqS (.bool c), ph, false⟩ p := q_val fun ξ g w hB hH => by
 rw [hop]
 obtain ⟨v1, h1, vs1, rfl, e1⟩ := spO_ev hx hH
 obtain ⟨v2, h2, vs2, rfl, e2⟩ := spO_ev hy hH
 obtain rfl : vs1 = [.bool a, .bool b'] := e1
 obtain rfl : vs2 = [.bool a', .bool b2] := e2
 refine ⟨_, rfl, Det.of_run fun ac hF => ?_⟩
 have hg := run_eqGuard_agg (P := Tryd.prog) w .eql 31 x y [Value.bool a, .bool b'].toArray [Value.bool a', .bool b2].toArray (by kernel_rfl)
 have h3 := run_eqlW (a := a) (b := b') (a' := a') (b' := b2) w
 rw [hc] at h3
 simp [execOp, hF.eval h1, hF.eval h2, hg, h3]
theorem q_w00 (hop : ops.getD i default = ⟨ds, .build 31 #[], t, pos, af, gu⟩) : EOb Tryd.prog n ops XX B ⟨i, L, agS (cxV [.bool false, .bool false]), ph, false⟩ p := q_val fun ξ g w hB hH => by
 rw [hop]
 exact ⟨_, ⟨_, rfl, rfl⟩, d_buildS (ps := []) Tryd.underlying31 z31 (fun w => pl31 w _ Tryd.underlying31) rfl rfl⟩
end
end Go.Mi.Term
