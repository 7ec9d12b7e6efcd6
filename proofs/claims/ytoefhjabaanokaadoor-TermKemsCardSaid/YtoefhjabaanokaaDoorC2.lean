/- Walks: what the laws' own functions return. -/
import Derived.Test.YtoefhjabaanokaaDoorC1
namespace Go.Mi.Term
open Go.Mi Go.Proofs Go.RowKit
set_option linter.unusedVariables false
set_option maxRecDepth 100000 in
set_option maxHeartbeats 4000000 in
theorem clone_walk {b : Nat} {es : Array MapEntry} {clock : Nat} (w0 : World) (hb : w0.heap[b]? = some (.map es clock)) : Calls Tryd.prog 80 (List.toArray [.map (some b)]) w0 (Ret fun v w' => v = .map (some w0.heap.size) ∧ w' = w0.alloc (.map es clock)) := by
  refine calls_of Tryd.func80 rfl Tryd.ntmps80 rfl fun ac hF => ?_
  have hC : Ch [] w0 w0 := Ch.refl _ _
  have hF := hF.sub (L' := [(0, (Value.map (some b)))]) ⟨rfl, trivial⟩
  refine wp_seq ?_
  refine wp_region_lit ?_
  refine wl (d_assign rfl) rfl hF (fun ac hF => ?_)
  refine wl_nil ?_
  have hF := hF.sub (L' := [(0, (Value.map (some b))), (2, (Value.map none))]) ⟨rfl, rfl, trivial⟩
  refine then_n ?_
  refine wp_seq ?_
  refine wp_seq ?_
  refine wp_region_lit ?_
  refine wl (d_move rfl) rfl hF (fun ac hF => ?_)
  refine wl (d_eqlMapNil Tryd.underlying114 rfl rfl) rfl hF (fun ac hF => ?_)
  refine wl_nil ?_
  have hF := hF.sub (L' := [(0, (Value.map (some b))), (2, (Value.map none)), (4, (Value.bool false))]) ⟨rfl, rfl, rfl, trivial⟩
  refine then_n ?_
  refine wp_cond_false (hF.eval rfl) ?_
  refine wp_skip ?_
  refine then_n ?_
  refine wp_seq ?_
  refine wp_region_lit ?_
  refine wl (d_move rfl) rfl hF (fun ac hF => ?_)
  refine wl (d_makeIface Tryd.underlying114 rfl) rfl hF (fun ac hF => ?_)
  refine wl (ok_clone (es := es) (clock := clock) Tryd.func94 (by kernel_rfl) (by kernel_rfl) (by kernel_rfl) (by kernel_rfl) rfl hb) rfl hF (fun ac hF => ?_)
  refine wl (d_assertMap Tryd.underlying114 rfl) rfl hF (fun ac hF => ?_)
  refine wl (d_assign rfl) rfl hF (fun ac hF => ?_)
  refine wl_nil ?_
  have hF := hF.sub (L' := [(0, (Value.map (some b))), (2, (Value.map (some w0.heap.size))), (4, (Value.bool false))]) ⟨rfl, rfl, rfl, trivial⟩
  refine then_n ?_
  refine wp_ret ?_
  refine body_ret hF (results1 Tryd.results80 (RV.tmp hF rfl)) ?_
  exact ⟨rfl, rfl⟩

theorem cloneOk : CloneOk := fun b es clock w hb => (clone_walk w hb).mono fun e w' ⟨v, he, hv, hw⟩ => ⟨by rw [he, hv], hw⟩
end Go.Mi.Term
