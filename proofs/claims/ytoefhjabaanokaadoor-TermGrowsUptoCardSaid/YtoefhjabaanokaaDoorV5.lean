/- Walks: what the laws' own functions return. -/
import Derived.Test.YtoefhjabaanokaaDoorV2
import Derived.Test.YtoefhjabaanokaaDoorT7
set_option linter.unusedSimpArgs false
set_option linter.unusedVariables false
set_option linter.unnecessarySimpa false
namespace Go.Mi.Term
open Go.Mi Go.Proofs Go.RowKit
set_option linter.unusedVariables false
theorem Round_pure {k n : Int} (hn : 0 < n) : (k.tmod n < 0 → k.tmod n + n = k % n) ∧ (¬ k.tmod n < 0 → k.tmod n = k % n) := ⟨round_neg hn, round_pos hn⟩
theorem old_cell {w0 w : World} (h : Ch [] w0 w) {b o : Nat} {v : Value} (hv : w0.cell? ⟨b, o, none⟩ = some v) : w.cell? ⟨b, o, none⟩ = some v := by
 have h2 := World.block_lt_of_cell? w0 _ hv
 have h3 := h.blk b h2 (by simp)
 simpa [World.cell?, h3] using hv

set_option maxRecDepth 100000 in
set_option maxHeartbeats 4000000 in
theorem Round_calls {k n : Int} (hn : 0 < n ∧ n ≤ 1000000) (hk : -9223372036854775808 ≤ k ∧ k ≤ 9223372036854775807) (w0 : World) : Calls Tryd.prog 17 (List.toArray [.int .i64 k, .int .i64 n]) w0 (Ret fun v w' => v = .int .i64 (k % n) ∧ Gr w0 w') := by
 have htm := tmod_b (k := k) hn.1
 refine calls_of Tryd.func17 rfl Tryd.ntmps17 rfl fun ac hF => ?_
 have hC : Ch [] w0 w0 := Ch.refl _ _
 have hF := hF.sub (L' := [(0, (vI k)), (1, (vI n))]) ⟨rfl, rfl, trivial⟩
 refine wp_seq ?_
 refine wp_region_lit ?_
 refine wl (d_assign rfl) rfl hF (fun ac hF => ?_)
 refine wl_nil ?_
 refine then_n ?_
 refine wp_seq ?_
 refine wp_region_lit ?_
 refine wl (d_move rfl) rfl hF (fun ac hF => ?_)
 refine wl (d_move rfl) rfl hF (fun ac hF => ?_)
 refine wl (d_rem rfl rfl (by omega) rfl) rfl hF (fun ac hF => ?_)
 refine wl (d_assign rfl) rfl hF (fun ac hF => ?_)
 refine wl_nil ?_
 refine then_n ?_
 refine wp_seq ?_
 refine wp_seq ?_
 refine wp_region_lit ?_
 refine wl (d_move rfl) rfl hF (fun ac hF => ?_)
 refine wl (d_lss rfl rfl) rfl hF (fun ac hF => ?_)
 refine wl_nil ?_
 refine then_n ?_
 refine wp_if hF rfl (fun h => ?_) (fun h => ?_)
 ·have hneg := of_decide_eq_true h
  clear h
  refine wp_region_lit ?_
  refine wl (d_move rfl) rfl hF (fun ac hF => ?_)
  refine wl (d_move rfl) rfl hF (fun ac hF => ?_)
  refine wl (d_add rfl rfl (wrap_i64 (by omega) (by omega))) rfl hF (fun ac hF => ?_)
  refine wl (d_assign rfl) rfl hF (fun ac hF => ?_)
  refine wl_nil ?_
  refine then_n ?_
  refine wp_seq ?_
  refine wp_region_lit ?_
  refine wl (d_move rfl) rfl hF (fun ac hF => ?_)
  refine wl (d_assign rfl) rfl hF (fun ac hF => ?_)
  refine wl_nil ?_
  refine then_n ?_
  refine wp_ret ?_
  refine body_ret hF (results1 Tryd.results17 (RV.tmp hF rfl)) ?_
  first | exact ⟨by rw [(Round_pure hn.1).1 hneg], hC.gr⟩ | exact ⟨by rw [(Round_pure hn.1).2 hneg], hC.gr⟩
 ·have hneg := of_decide_eq_false h
  clear h
  refine wp_skip ?_
  refine then_n ?_
  refine wp_seq ?_
  refine wp_region_lit ?_
  refine wl (d_move rfl) rfl hF (fun ac hF => ?_)
  refine wl (d_assign rfl) rfl hF (fun ac hF => ?_)
  refine wl_nil ?_
  refine then_n ?_
  refine wp_ret ?_
  refine body_ret hF (results1 Tryd.results17 (RV.tmp hF rfl)) ?_
  first | exact ⟨by rw [(Round_pure hn.1).1 hneg], hC.gr⟩ | exact ⟨by rw [(Round_pure hn.1).2 hneg], hC.gr⟩
end Go.Mi.Term
