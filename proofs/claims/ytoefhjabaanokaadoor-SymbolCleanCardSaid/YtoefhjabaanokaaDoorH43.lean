/- Clean as a value. General lemmas. -/
import Derived.Test.YtoefhjabaanokaaDoorS13
import Derived.Test.YtoefhjabaanokaaDoorH38
set_option linter.unusedSimpArgs false
set_option linter.unusedVariables false
set_option linter.unnecessarySimpa false
namespace Go.Mi.Term
open Go.Mi Go.Proofs Go.RowKit
section
set_option maxRecDepth 100000
variable {ops : List Oper} {n : Nat} {B : Nat → BX XX} {i p b base : Nat} {L : TL TT} {ph : List Nat} {ns : List (Nat × Sp TT)} {ds : Option Tmp} {ty : TypeId} {pos : String} {af : Array Edge} {gu : Option (Nat × Bool)} {t : TypeId} {x y : Operand} {κ : RY} {r : Rn}
theorem vY (hop : ops.getD i default = ⟨ds, .makeFunc (.func 28) #[x] #[], t, pos, af, gu⟩) (hx : spO L x = some (eqS (vp b))) : EOb Tryd.prog n ops XX B ⟨i, L, eqS (.func (.func 28) #[vp b] #[]), ph, false⟩ p := bL fun ξ g w hB hH => by
 rw [hop]
 exact ⟨_, rfl, gI (us := [vp b]) (vs := []) (by simp only [evs, bJ hx]) rfl⟩
theorem pV {kk : Int} {c : Bool} {ts : Array TypeId} (hg : Good r) (hB0 : B p = stB (dJ κ base b r) ns) (hop : ops.getD i default = ⟨ds, .call ⟨.value x, #[y], ts⟩, t, pos, af, gu⟩) (hx : spO L x = some (eqS (.func (.func 28) #[vp b] #[]))) (hy : spO L y = some (eI kk)) (hc : r.cleanZ kk = c) : EOb Tryd.prog n ops XX B ⟨i, L, eqS (.bool c), ph, false⟩ p := eM fun ξ g w hB hH => by
 rw [hB0] at hB
 have hB : StB (dJ κ base b r) ns g w := hB
 rw [hop, ← hc]
 obtain ⟨p1, p2, p3, p4, p5, p6⟩ := hg.pre
 exact gX (first := #[vp b]) (captured := #[]) (vs := [vI kk]) (bJ hx) c28 (by simp only [evs, bJ hy]) (mJ w hB.wf.lt hB.run.2.2.2.2 iw p1 p2 p3 p4 p5 p6)
end
end Go.Mi.Term
