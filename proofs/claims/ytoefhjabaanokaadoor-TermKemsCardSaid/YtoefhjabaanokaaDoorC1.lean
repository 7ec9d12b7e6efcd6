/- What maps.Clone returns. -/
import Derived.Test.YtoefhjabaanokaaDoorH11
import Derived.Shelf.SlMaps.Clone
namespace Go.Mi.Term
open Go.Mi Go.Proofs Go.RowKit
section
variable {P : Program} {n : Nat} {L : List (Nat × Value)} {w : World} {ds : Option Nat} {ty : TypeId} {pos : String} {af : Array Edge} {gu : Option (Nat × Bool)}
theorem d_eqlMapNil {x y : Operand} {t t' k e : TypeId} {b : Nat} (ht : P.underlying t = some (.map k e)) (hx : ev L x = some (.map (some b))) (hy : ev L y = some (.map none)) : Det P ⟨ds, .binOp .eql t x y t', ty, pos, af, gu⟩ n L w (.bool false) w :=
  Det.of_run fun a hF => by
    have h := run_eql_map_nil_sl (P := P) w t k e (some b) ht
    simp [execOp, hF.eval hx, hF.eval hy, eqGuard, h]
theorem d_makeIface {x : Operand} {t k e : TypeId} {v : Value} (ht : P.underlying t = some (.map k e)) (hx : ev L x = some v) : Det P ⟨ds, .makeInterface t x, ty, pos, af, gu⟩ n L w (.iface t v) w :=
  Det.of_run fun a hF => by simp [execOp, hF.eval hx, Instr.makeInterface, run_underlying' ht]
theorem d_assertMap {x : Operand} {t xT k e : TypeId} {v : Value} (ht : P.underlying t = some (.map k e)) (hx : ev L x = some (.iface t v)) : Det P ⟨ds, .typeAssert x xT t false, ty, pos, af, gu⟩ n L w v w :=
  Det.of_run fun a hF => by
    have h := run_typeAssert_map_sl (P := P) w t xT k e v ht
    simp [execOp, hF.eval hx, h]
theorem ok_clone {x : Operand} {ts : Array TypeId} {f : FuncId} {fn : Func} {t : TypeId} {b : Nat} {es : Array MapEntry} {clock : Nat} (hf : P.funcs[f]? = some fn) (hname : (fn.name == "runtime.NumGoroutine") = false) (hb : fn.body.isNone = true) (hn : Extern.findNext fn = none) (he : Extern.find fn = some Extern.MapsClone.clone)
    (hx : ev L x = some (.iface t (.map (some b)))) (hm : w.heap[b]? = some (.map es clock)) : Det P ⟨ds, .call ⟨.value (.func f), #[x], ts⟩, ty, pos, af, gu⟩ n L w (.iface t (.map (some w.heap.size))) (w.alloc (.map es clock)) :=
  Det.of_run fun a hF => by
    have h1 := run_callFunc_extern (P := P) hf hname hb hn he #[.iface t (.map (some b))] w
    rw [run_maps_clone_sl w t hm] at h1
    have hev : a.eval (.func f) = .func (.func f) #[] #[] := rfl
    simp only [execOp, resolve, hev, Deferred.ofValue, Sem.run_bind, Sem.run_pure, Result.andThen_ok, invoke, List.map_toArray, List.map_cons, List.map_nil, hF.eval hx]
    simp [h1, Result.andThen]
end
end Go.Mi.Term
