/- Comparisons of bools, strings and arrays; slices that came in. General lemmas. -/
import Derived.Test.YthnkcocemlcpgaaA7
namespace Go.Mi
open Go.RowKit
section
variable {P : Program} {w w0 : World} {n : Nat} {L : List (Nat × Value)} {ds : Option Tmp} {ty : TypeId} {pos : String} {af : Array Edge} {gu : Option (Nat × Bool)}

theorem run_equalIn_bool (d : Nat) {a b : Bool} {t : TypeId} (ht : P.underlying t = some .bool) : (Op.equalIn (d + 1) t (.bool a) (.bool b)).run P w = .ok (a == b) w := by
  simp [Op.equalIn, run_underlying' ht]
theorem run_equal_bool {a b : Bool} {t : TypeId} (ht : P.underlying t = some .bool) : (Op.equal t (.bool a) (.bool b)).run P w = .ok (a == b) w :=
  run_equalIn_bool 9999 ht
theorem d_eqlB {x y : Operand} {a b : Bool} {t t' : TypeId} (ht : P.underlying t = some .bool) (hx : ev L x = some (.bool a)) (hy : ev L y = some (.bool b)) : Det P ⟨ds, .binOp .eql t x y t', ty, pos, af, gu⟩ n L w (.bool (a == b)) w :=
  Det.of_run fun a' hF => by
    have h1 : (binOp .eql t (.bool a) (.bool b)).run P w = .ok (.bool (a == b)) w := by
      show (Op.equal t (.bool a) (.bool b) >>= fun r => pure (Value.bool r)).run P w = _
      rw [Sem.run_bind, run_equal_bool ht]; rfl
    simp [execOp, hF.eval hx, hF.eval hy, eqGuard, h1]
theorem d_neqB {x y : Operand} {a b : Bool} {t t' : TypeId} (ht : P.underlying t = some .bool) (hx : ev L x = some (.bool a)) (hy : ev L y = some (.bool b)) : Det P ⟨ds, .binOp .neq t x y t', ty, pos, af, gu⟩ n L w (.bool (!(a == b))) w :=
  Det.of_run fun a' hF => by
    have h1 : (binOp .neq t (.bool a) (.bool b)).run P w = .ok (.bool (!(a == b))) w := by
      show (Op.equal t (.bool a) (.bool b) >>= fun r => pure (Value.bool !r)).run P w = _
      rw [Sem.run_bind, run_equal_bool ht]; rfl
    simp [execOp, hF.eval hx, hF.eval hy, eqGuard, h1]
theorem d_eqlS {x y : Operand} {a b : ByteArray} {t t' : TypeId} (hx : ev L x = some (.string a)) (hy : ev L y = some (.string b)) : Det P ⟨ds, .binOp .eql t x y t', ty, pos, af, gu⟩ n L w (.bool (a.toList == b.toList)) w :=
  Det.of_run fun a' hF => by simp [execOp, hF.eval hx, hF.eval hy, eqGuard, binOp, Op.stringOp]
theorem d_neqS {x y : Operand} {a b : ByteArray} {t t' : TypeId} (hx : ev L x = some (.string a)) (hy : ev L y = some (.string b)) : Det P ⟨ds, .binOp .neq t x y t', ty, pos, af, gu⟩ n L w (.bool (!(a.toList == b.toList))) w :=
  Det.of_run fun a' hF => by simp [execOp, hF.eval hx, hF.eval hy, eqGuard, binOp, Op.stringOp]

/-- a slice of numbers that came in -/
structure Sl (w : World) (ad : Option Addr) (n : Nat) (k : IntKind) (X : Nat → Int) : Prop where
  h : n = 0 ∨ ∃ b o, ad = some ⟨b, o, none⟩ ∧ ∀ j, j < n → w.cell? ⟨b, o + j, none⟩ = some (.int k (X j))
theorem Sl.mem {ad : Option Addr} {m : Nat} {k : IntKind} {X : Nat → Int} {M : List Blk} (h : Sl w0 ad m k X) (hM : Mem w0 w M) : Sl w ad m k X := by
  refine ⟨h.h.imp id ?_⟩
  rintro ⟨b, o, h1, h2⟩
  exact ⟨b, o, h1, fun j hj => hM.old (h2 j hj)⟩

end
end Go.Mi
