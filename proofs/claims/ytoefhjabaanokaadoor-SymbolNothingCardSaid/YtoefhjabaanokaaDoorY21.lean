/- Walks: package symbol. -/
import Derived.Test.YtoefhjabaanokaaDoorH36
set_option linter.unusedSimpArgs false
set_option linter.unusedVariables false
set_option linter.unnecessarySimpa false
namespace Go.Mi.Term
open Go.Mi Go.Proofs Go.RowKit
set_option maxRecDepth 100000 in
set_option maxHeartbeats 4000000 in
theorem none0 (w0 : World) : Calls Tryd.prog 58 (List.toArray [.pointer none]) w0 (Ret fun v w' => Gr w0 w' ∧ v = .bool true) := by
 refine enter0 (X := []) [eqS (.pointer none)] (by simp) ⟨rfl, trivial⟩ Tryd.func58 rfl Tryd.ntmps58 rfl fun ac hS => ?_
 refine wp_seq ?_
 refine rgl0 hS [] [0, 2] (Lo := [(0, eqS (.pointer none)), (2, eqS vf)]) (by kernel_rfl) (by kernel_rfl) trivial fun ac g w hS => ?_
 refine then_n ?_
 refine wp_seq ?_
 refine rgl0 hS [e0 1 [(3, eqS (.pointer none))] (eqS vt)] [0, 2] (Lo := [(0, eqS (.pointer none)), (2, eqS vt)]) (by kernel_rfl) (by kernel_rfl) ⟨⟨q_ptr rfl rfl rfl rfl, trivial⟩, trivial⟩ fun ac g w hS => ?_
 refine then_n ?_
 refine wp_ret ?_
 exact body_ret hS.f.frm (results1 Tryd.results58 (RV.tmp hS.f.frm rfl)) ⟨hS.gr0, rfl⟩
set_option maxRecDepth 100000 in
set_option maxHeartbeats 4000000 in
theorem do0_a {kd wh : Int} {c : Bool} (w0 : World) (h : kd < 1) : Calls Tryd.prog 27 (List.toArray [.pointer none, .agg #[vI kd, vI wh, .bool c]]) w0 (Ret fun v w' => Gr w0 w' ∧ v = vI 1) := by
 refine enter0 (X := []) [eqS (.pointer none), agS (cxV [vI kd, vI wh, .bool c])] (by simp) ⟨rfl, ⟨_, rfl, rfl⟩, trivial⟩ Tryd.func27 rfl Tryd.ntmps27 rfl fun ac hS => ?_
 refine wp_seq ?_
 refine rgl [e1 0 [(1, agS (cxV [vI kd, vI wh, .bool c]))] (nwS 0)] [0, 1, 3, 4] (Bl [stB noR [], stB noR [(47, agS (cxV [vI kd, vI wh, .bool c]))]]) 1 (Lo := [(0, eqS (.pointer none)), (1, agS (cxV [vI kd, vI wh, .bool c])), (3, nwS 0), (4, eqS (vI 0))]) (by kernel_rfl) (by kernel_rfl) ⟨⟨m_box rfl rfl rfl rfl (agg_V3 _ _ _).sized rfl, trivial⟩, trivial⟩ hS rfl fun ac g w hS => ?_
 refine then_n ?_
 refine wp_seq ?_
 refine rgl0 hS [e0 0 [(3, nwS 0)] (nwO 0 0), e0 1 [(6, nwO 0 0)] (eqS (vI kd)), e0 2 [(7, eqS (vI kd))] (eqS vf)] [0, 1, 3, 4, 5] (Lo := [(0, eqS (.pointer none)), (1, agS (cxV [vI kd, vI wh, .bool c])), (3, nwS 0), (4, eqS (vI 0)), (5, eqS vf)]) (by kernel_rfl) (by kernel_rfl) ⟨⟨q_faN (k := 0) rfl rfl rfl rfl (by decide) (by kernel_rfl), trivial⟩, ⟨q_ldN (k := 0) (j := 0) rfl rfl rfl rfl (by decide) Tryd.underlying3 rfl rfl, trivial⟩, ⟨q_cmp rfl rfl rfl (congrArg some (decide_eq_false (by omega))), trivial⟩, trivial⟩ fun ac g w hS => ?_
 refine then_n ?_
 refine wp_seq ?_
 refine wp_seq ?_
 refine rgl0 hS [e0 1 [(14, eqS (.pointer none))] (eqS vt)] [0, 1, 3, 4, 5, 45] (Lo := [(0, eqS (.pointer none)), (1, agS (cxV [vI kd, vI wh, .bool c])), (3, nwS 0), (4, eqS (vI 0)), (5, eqS vf), (45, eqS vt)]) (by kernel_rfl) (by kernel_rfl) ⟨⟨q_st rfl fun ξ g w hB hH => ok_call c58 rfl (none0 w), trivial⟩, trivial⟩ fun ac g w hS => ?_
 refine then_n ?_
 refine wp_cond_true (hS.f.frm.eval rfl) ?_
 refine wp_seq ?_
 refine rgl0 hS [] [0, 1, 3, 4, 5, 45] (Lo := [(0, eqS (.pointer none)), (1, agS (cxV [vI kd, vI wh, .bool c])), (3, nwS 0), (4, eqS (vI 1)), (5, eqS vf), (45, eqS vt)]) (by kernel_rfl) (by kernel_rfl) trivial fun ac g w hS => ?_
 refine then_n ?_
 refine wp_ret ?_
 refine then_ret ?_
 exact body_ret hS.f.frm (results1 Tryd.results27 (RV.tmp hS.f.frm rfl)) ⟨hS.gr0, rfl⟩
set_option maxRecDepth 100000 in
set_option maxHeartbeats 4000000 in
theorem do0_b {kd wh : Int} {c : Bool} (w0 : World) (h : 1 ≤ kd) (h2 : kd ≤ 3) : Calls Tryd.prog 27 (List.toArray [.pointer none, .agg #[vI kd, vI wh, .bool c]]) w0 (Ret fun v w' => Gr w0 w' ∧ v = vI 1) := by
 refine enter0 (X := []) [eqS (.pointer none), agS (cxV [vI kd, vI wh, .bool c])] (by simp) ⟨rfl, ⟨_, rfl, rfl⟩, trivial⟩ Tryd.func27 rfl Tryd.ntmps27 rfl fun ac hS => ?_
 refine wp_seq ?_
 refine rgl [e1 0 [(1, agS (cxV [vI kd, vI wh, .bool c]))] (nwS 0)] [0, 1, 3, 4] (Bl [stB noR [], stB noR [(47, agS (cxV [vI kd, vI wh, .bool c]))]]) 1 (Lo := [(0, eqS (.pointer none)), (1, agS (cxV [vI kd, vI wh, .bool c])), (3, nwS 0), (4, eqS (vI 0))]) (by kernel_rfl) (by kernel_rfl) ⟨⟨m_box rfl rfl rfl rfl (agg_V3 _ _ _).sized rfl, trivial⟩, trivial⟩ hS rfl fun ac g w hS => ?_
 refine then_n ?_
 refine wp_seq ?_
 refine rgl0 hS [e0 0 [(3, nwS 0)] (nwO 0 0), e0 1 [(6, nwO 0 0)] (eqS (vI kd)), e0 2 [(7, eqS (vI kd))] (eqS vt), e0 4 [(9, eqS vt), (3, nwS 0)] (nwO 0 0), e0 5 [(9, eqS vt), (10, nwO 0 0)] (eqS (vI kd)), e0 6 [(9, eqS vt), (11, eqS (vI kd))] (eqS vt)] [0, 1, 3, 4, 5] (Lo := [(0, eqS (.pointer none)), (1, agS (cxV [vI kd, vI wh, .bool c])), (3, nwS 0), (4, eqS (vI 0)), (5, eqS vt)]) (by kernel_rfl) (by kernel_rfl) ⟨⟨q_faN (k := 0) rfl rfl rfl rfl (by decide) (by kernel_rfl), trivial⟩, ⟨q_ldN (k := 0) (j := 0) rfl rfl rfl rfl (by decide) Tryd.underlying3 rfl rfl, trivial⟩, ⟨q_cmp rfl rfl rfl (congrArg some (decide_eq_true (by omega))), trivial⟩, ⟨q_faN (k := 0) rfl rfl rfl rfl (by decide) (by kernel_rfl), trivial⟩, ⟨q_ldN (k := 0) (j := 0) rfl rfl rfl rfl (by decide) Tryd.underlying3 rfl rfl, trivial⟩, ⟨q_cmp rfl rfl rfl (congrArg some (decide_eq_true (by omega))), trivial⟩, trivial⟩ fun ac g w hS => ?_
 refine then_n ?_
 refine wp_seq ?_
 refine wp_seq ?_
 refine rgl0 hS [e0 1 [(14, eqS (.pointer none))] (eqS vt)] [0, 1, 3, 4, 5, 45] (Lo := [(0, eqS (.pointer none)), (1, agS (cxV [vI kd, vI wh, .bool c])), (3, nwS 0), (4, eqS (vI 0)), (5, eqS vt), (45, eqS vt)]) (by kernel_rfl) (by kernel_rfl) ⟨⟨q_st rfl fun ξ g w hB hH => ok_call c58 rfl (none0 w), trivial⟩, trivial⟩ fun ac g w hS => ?_
 refine then_n ?_
 refine wp_cond_true (hS.f.frm.eval rfl) ?_
 refine wp_seq ?_
 refine rgl0 hS [] [0, 1, 3, 4, 5, 45] (Lo := [(0, eqS (.pointer none)), (1, agS (cxV [vI kd, vI wh, .bool c])), (3, nwS 0), (4, eqS (vI 1)), (5, eqS vt), (45, eqS vt)]) (by kernel_rfl) (by kernel_rfl) trivial fun ac g w hS => ?_
 refine then_n ?_
 refine wp_ret ?_
 refine then_ret ?_
 exact body_ret hS.f.frm (results1 Tryd.results27 (RV.tmp hS.f.frm rfl)) ⟨hS.gr0, rfl⟩
set_option maxRecDepth 100000 in
set_option maxHeartbeats 4000000 in
theorem do0_c {kd wh : Int} {c : Bool} (w0 : World) (h : 3 < kd) : Calls Tryd.prog 27 (List.toArray [.pointer none, .agg #[vI kd, vI wh, .bool c]]) w0 (Ret fun v w' => Gr w0 w' ∧ v = vI 1) := by
 refine enter0 (X := []) [eqS (.pointer none), agS (cxV [vI kd, vI wh, .bool c])] (by simp) ⟨rfl, ⟨_, rfl, rfl⟩, trivial⟩ Tryd.func27 rfl Tryd.ntmps27 rfl fun ac hS => ?_
 refine wp_seq ?_
 refine rgl [e1 0 [(1, agS (cxV [vI kd, vI wh, .bool c]))] (nwS 0)] [0, 1, 3, 4] (Bl [stB noR [], stB noR [(47, agS (cxV [vI kd, vI wh, .bool c]))]]) 1 (Lo := [(0, eqS (.pointer none)), (1, agS (cxV [vI kd, vI wh, .bool c])), (3, nwS 0), (4, eqS (vI 0))]) (by kernel_rfl) (by kernel_rfl) ⟨⟨m_box rfl rfl rfl rfl (agg_V3 _ _ _).sized rfl, trivial⟩, trivial⟩ hS rfl fun ac g w hS => ?_
 refine then_n ?_
 refine wp_seq ?_
 refine rgl0 hS [e0 0 [(3, nwS 0)] (nwO 0 0), e0 1 [(6, nwO 0 0)] (eqS (vI kd)), e0 2 [(7, eqS (vI kd))] (eqS vt), e0 4 [(9, eqS vt), (3, nwS 0)] (nwO 0 0), e0 5 [(9, eqS vt), (10, nwO 0 0)] (eqS (vI kd)), e0 6 [(9, eqS vt), (11, eqS (vI kd))] (eqS vf)] [0, 1, 3, 4, 5] (Lo := [(0, eqS (.pointer none)), (1, agS (cxV [vI kd, vI wh, .bool c])), (3, nwS 0), (4, eqS (vI 0)), (5, eqS vf)]) (by kernel_rfl) (by kernel_rfl) ⟨⟨q_faN (k := 0) rfl rfl rfl rfl (by decide) (by kernel_rfl), trivial⟩, ⟨q_ldN (k := 0) (j := 0) rfl rfl rfl rfl (by decide) Tryd.underlying3 rfl rfl, trivial⟩, ⟨q_cmp rfl rfl rfl (congrArg some (decide_eq_true (by omega))), trivial⟩, ⟨q_faN (k := 0) rfl rfl rfl rfl (by decide) (by kernel_rfl), trivial⟩, ⟨q_ldN (k := 0) (j := 0) rfl rfl rfl rfl (by decide) Tryd.underlying3 rfl rfl, trivial⟩, ⟨q_cmp rfl rfl rfl (congrArg some (decide_eq_false (by omega))), trivial⟩, trivial⟩ fun ac g w hS => ?_
 refine then_n ?_
 refine wp_seq ?_
 refine wp_seq ?_
 refine rgl0 hS [e0 1 [(14, eqS (.pointer none))] (eqS vt)] [0, 1, 3, 4, 5, 45] (Lo := [(0, eqS (.pointer none)), (1, agS (cxV [vI kd, vI wh, .bool c])), (3, nwS 0), (4, eqS (vI 0)), (5, eqS vf), (45, eqS vt)]) (by kernel_rfl) (by kernel_rfl) ⟨⟨q_st rfl fun ξ g w hB hH => ok_call c58 rfl (none0 w), trivial⟩, trivial⟩ fun ac g w hS => ?_
 refine then_n ?_
 refine wp_cond_true (hS.f.frm.eval rfl) ?_
 refine wp_seq ?_
 refine rgl0 hS [] [0, 1, 3, 4, 5, 45] (Lo := [(0, eqS (.pointer none)), (1, agS (cxV [vI kd, vI wh, .bool c])), (3, nwS 0), (4, eqS (vI 1)), (5, eqS vf), (45, eqS vt)]) (by kernel_rfl) (by kernel_rfl) trivial fun ac g w hS => ?_
 refine then_n ?_
 refine wp_ret ?_
 refine then_ret ?_
 exact body_ret hS.f.frm (results1 Tryd.results27 (RV.tmp hS.f.frm rfl)) ⟨hS.gr0, rfl⟩
set_option maxRecDepth 100000 in
set_option maxHeartbeats 4000000 in
theorem cl0 {k : Int} (w0 : World) : Calls Tryd.prog 28 (List.toArray [.pointer none, vI k]) w0 (Ret fun v w' => Gr w0 w' ∧ v = .bool false) := by
 refine enter0 (X := []) [eqS (.pointer none), eqS (vI k)] (by simp) ⟨rfl, rfl, trivial⟩ Tryd.func28 rfl Tryd.ntmps28 rfl fun ac hS => ?_
 refine wp_seq ?_
 refine rgl0 hS [] [0, 1, 4] (Lo := [(0, eqS (.pointer none)), (1, eqS (vI k)), (4, eqS vf)]) (by kernel_rfl) (by kernel_rfl) trivial fun ac g w hS => ?_
 refine then_n ?_
 refine wp_seq ?_
 refine rgl0 hS [e0 1 [(5, eqS (.pointer none))] (eqS vt)] [0, 1, 4] (Lo := [(0, eqS (.pointer none)), (1, eqS (vI k)), (4, eqS vf)]) (by kernel_rfl) (by kernel_rfl) ⟨⟨q_st rfl fun ξ g w hB hH => ok_call c58 rfl (none0 w), trivial⟩, trivial⟩ fun ac g w hS => ?_
 refine then_n ?_
 refine wp_ret ?_
 exact body_ret hS.f.frm (results1 Tryd.results28 (RV.tmp hS.f.frm rfl)) ⟨hS.gr0, rfl⟩
set_option maxRecDepth 100000 in
set_option maxHeartbeats 4000000 in
theorem dv0 {k : Int} (w0 : World) : Calls Tryd.prog 29 (List.toArray [.pointer none, vI k]) w0 (Ret fun v w' => Gr w0 w' ∧ v = .bool false) := by
 refine enter0 (X := []) [eqS (.pointer none), eqS (vI k)] (by simp) ⟨rfl, rfl, trivial⟩ Tryd.func29 rfl Tryd.ntmps29 rfl fun ac hS => ?_
 refine wp_seq ?_
 refine rgl0 hS [] [0, 1, 4] (Lo := [(0, eqS (.pointer none)), (1, eqS (vI k)), (4, eqS vf)]) (by kernel_rfl) (by kernel_rfl) trivial fun ac g w hS => ?_
 refine then_n ?_
 refine wp_seq ?_
 refine rga0 mo hS [e0 1 [(5, eqS (.pointer none))] (eqS vt)] [0, 1, 4] (Lo := [(0, eqS (.pointer none)), (1, eqS (vI k)), (4, eqS vf)]) (by kernel_rfl) (by kernel_rfl) ⟨⟨q_st rfl fun ξ g w hB hH => ok_call c58 rfl (none0 w), trivial⟩, trivial⟩ fun ac g w hS => ?_
 refine then_n ?_
 refine wp_ret ?_
 exact body_ret hS.f.frm (results1 Tryd.results29 (RV.tmp hS.f.frm rfl)) ⟨hS.gr0, rfl⟩
set_option maxRecDepth 100000 in
set_option maxHeartbeats 4000000 in
theorem keys0 (w0 : World) : Calls Tryd.prog 30 (List.toArray [.pointer none]) w0 (Ret fun v w' => Gr w0 w' ∧ v = vN) := by
 refine enter0 (X := []) [eqS (.pointer none)] (by simp) ⟨rfl, trivial⟩ Tryd.func30 rfl Tryd.ntmps30 rfl fun ac hS => ?_
 refine wp_seq ?_
 refine rgl0 hS [] [0, 2] (Lo := [(0, eqS (.pointer none)), (2, eqS vN)]) (by kernel_rfl) (by kernel_rfl) trivial fun ac g w hS => ?_
 refine then_n ?_
 refine wp_seq ?_
 refine wp_seq ?_
 refine rgl0 hS [e0 1 [(5, eqS (.pointer none))] (eqS vt)] [0, 2, 6] (Lo := [(0, eqS (.pointer none)), (2, eqS vN), (6, eqS vt)]) (by kernel_rfl) (by kernel_rfl) ⟨⟨q_st rfl fun ξ g w hB hH => ok_call c58 rfl (none0 w), trivial⟩, trivial⟩ fun ac g w hS => ?_
 refine then_n ?_
 refine wp_cond_true (hS.f.frm.eval rfl) ?_
 refine wp_seq ?_
 refine rgl0 hS [] [0, 2, 6] (Lo := [(0, eqS (.pointer none)), (2, eqS vN), (6, eqS vt)]) (by kernel_rfl) (by kernel_rfl) trivial fun ac g w hS => ?_
 refine then_n ?_
 refine wp_ret ?_
 refine then_ret ?_
 exact body_ret hS.f.frm (results1 Tryd.results30 (RV.tmp hS.f.frm rfl)) ⟨hS.gr0, rfl⟩
set_option maxRecDepth 100000 in
set_option maxHeartbeats 4000000 in
theorem known0 (w0 : World) : Calls Tryd.prog 35 (List.toArray [.pointer none]) w0 (Ret fun v w' => Gr w0 w' ∧ v = vN) := by
 refine enter0 (X := []) [eqS (.pointer none)] (by simp) ⟨rfl, trivial⟩ Tryd.func35 rfl Tryd.ntmps35 rfl fun ac hS => ?_
 refine wp_seq ?_
 refine rgl0 hS [] [0, 2] (Lo := [(0, eqS (.pointer none)), (2, eqS vN)]) (by kernel_rfl) (by kernel_rfl) trivial fun ac g w hS => ?_
 refine then_n ?_
 refine wp_seq ?_
 refine wp_seq ?_
 refine rgl0 hS [e0 1 [(5, eqS (.pointer none))] (eqS vt)] [0, 2, 6] (Lo := [(0, eqS (.pointer none)), (2, eqS vN), (6, eqS vt)]) (by kernel_rfl) (by kernel_rfl) ⟨⟨q_st rfl fun ξ g w hB hH => ok_call c58 rfl (none0 w), trivial⟩, trivial⟩ fun ac g w hS => ?_
 refine then_n ?_
 refine wp_cond_true (hS.f.frm.eval rfl) ?_
 refine wp_seq ?_
 refine rgl0 hS [] [0, 2, 6] (Lo := [(0, eqS (.pointer none)), (2, eqS vN), (6, eqS vt)]) (by kernel_rfl) (by kernel_rfl) trivial fun ac g w hS => ?_
 refine then_n ?_
 refine wp_ret ?_
 refine then_ret ?_
 exact body_ret hS.f.frm (results1 Tryd.results35 (RV.tmp hS.f.frm rfl)) ⟨hS.gr0, rfl⟩
set_option maxRecDepth 100000 in
set_option maxHeartbeats 4000000 in
theorem epoch0 (w0 : World) : Calls Tryd.prog 39 (List.toArray [.pointer none]) w0 (Ret fun v w' => Gr w0 w' ∧ v = vI 0) := by
 refine enter0 (X := []) [eqS (.pointer none)] (by simp) ⟨rfl, trivial⟩ Tryd.func39 rfl Tryd.ntmps39 rfl fun ac hS => ?_
 refine wp_seq ?_
 refine rgl0 hS [] [0, 2] (Lo := [(0, eqS (.pointer none)), (2, eqS (vI 0))]) (by kernel_rfl) (by kernel_rfl) trivial fun ac g w hS => ?_
 refine then_n ?_
 refine wp_seq ?_
 refine wp_seq ?_
 refine rgl0 hS [e0 1 [(3, eqS (.pointer none))] (eqS vt)] [0, 2, 4] (Lo := [(0, eqS (.pointer none)), (2, eqS (vI 0)), (4, eqS vt)]) (by kernel_rfl) (by kernel_rfl) ⟨⟨q_st rfl fun ξ g w hB hH => ok_call c58 rfl (none0 w), trivial⟩, trivial⟩ fun ac g w hS => ?_
 refine then_n ?_
 refine wp_cond_true (hS.f.frm.eval rfl) ?_
 refine wp_seq ?_
 refine rgl0 hS [] [0, 2, 4] (Lo := [(0, eqS (.pointer none)), (2, eqS (vI 0)), (4, eqS vt)]) (by kernel_rfl) (by kernel_rfl) trivial fun ac g w hS => ?_
 refine then_n ?_
 refine wp_ret ?_
 refine then_ret ?_
 exact body_ret hS.f.frm (results1 Tryd.results39 (RV.tmp hS.f.frm rfl)) ⟨hS.gr0, rfl⟩
set_option maxRecDepth 100000 in
set_option maxHeartbeats 4000000 in
theorem world0 (w0 : World) : Calls Tryd.prog 36 (List.toArray [.pointer none]) w0 (Ret fun v w' => Gr w0 w' ∧ v = .agg #[.bool false, .bool false]) := by
 refine enter0 (X := []) [eqS (.pointer none)] (by simp) ⟨rfl, trivial⟩ Tryd.func36 rfl Tryd.ntmps36 rfl fun ac hS => ?_
 refine wp_seq ?_
 refine rgl [e1 0 [] (nwS 0)] [0, 2] (Bl [stB noR [], stB noR [(31, anyS 2)]]) 1 (Lo := [(0, eqS (.pointer none)), (2, nwS 0)]) (by kernel_rfl) (by kernel_rfl) ⟨⟨m_alloc rfl rfl rfl z31 rfl rfl, trivial⟩, trivial⟩ hS rfl fun ac g w hS => ?_
 refine then_n ?_
 refine wp_seq ?_
 refine wp_seq ?_
 refine rgl0 hS [e0 1 [(3, eqS (.pointer none))] (eqS vt)] [0, 2, 4] (Lo := [(0, eqS (.pointer none)), (2, nwS 0), (4, eqS vt)]) (by kernel_rfl) (by kernel_rfl) ⟨⟨q_st rfl fun ξ g w hB hH => ok_call c58 rfl (none0 w), trivial⟩, trivial⟩ fun ac g w hS => ?_
 refine then_n ?_
 refine wp_cond_true (hS.f.frm.eval rfl) ?_
 refine wp_seq ?_
 refine rgl [e0 0 [] (agS (cxV [.bool false, .bool false])), e1 1 [(2, nwS 0), (5, agS (cxV [.bool false, .bool false]))] topS] [0, 2, 4] (Bl [stB noR [(31, anyS 2)], stB noR [(31, agS (cxV [.bool false, .bool false]))]]) 1 (Lo := [(0, eqS (.pointer none)), (2, nwS 0), (4, eqS vt)]) (by kernel_rfl) (by kernel_rfl) ⟨⟨q_w00 rfl, trivial⟩, ⟨m_store (k := 0) (m := 2) rfl rfl rfl rfl rfl rfl (by decide) sz31 (sized_any 2) (agg_B2 _ _), trivial⟩, trivial⟩ hS rfl fun ac g w hS => ?_
 refine then_n ?_
 refine wp_ret ?_
 refine then_ret ?_
 obtain ⟨v0, a, b⟩ := hS.rv (x := 2) (k := 0) (m := 2) (ty := 31) rfl rfl (by decide) Tryd.underlying31 rfl sz31 (agg_B2 _ _).sized
 exact body_ret hS.f.frm (results1 Tryd.results36 a) ⟨hS.gr0, ag_eq b⟩
theorem do0 {kd wh : Int} {c : Bool} (w0 : World) : Calls Tryd.prog 27 (List.toArray [.pointer none, .agg #[vI kd, vI wh, .bool c]]) w0 (Ret fun v w' => Gr w0 w' ∧ v = vI 1) := by
 by_cases h1 : kd < 1
 ·exact do0_a w0 h1
 ·by_cases h2 : kd ≤ 3
  ·exact do0_b w0 (by omega) h2
  ·exact do0_c w0 (by omega)
set_option maxRecDepth 100000 in
set_option maxHeartbeats 4000000 in
theorem noth {X : List Nat} {k : Int} {a : Ac} (w0 : World) (hX : ∀ x, x ∈ X → x < w0.heap.size) (h00 : 0 ∈ X) (hT : T0 w0) : Calls Tryd.prog 13 (List.toArray [vI k, .agg (acv a).toArray]) w0 (Ret fun v w' => Gr w0 w' ∧ v = .bool true) := by
 refine enterR (F := []) (ρ := begR (andY noY tabY) w0.heap.size) [eqS (vI k), agS (cxV [vI a.k, vI a.who, .bool a.kem])] hX ⟨rfl, ⟨trivial, h00, hT⟩, Nat.le_refl _, hX⟩ ⟨rfl, ⟨_, rfl, rfl⟩, trivial⟩ Tryd.func13 rfl Tryd.ntmps13 rfl fun ac hS => ?_
 refine wp_seq ?_
 refine rgl [e1 0 [(1, agS (cxV [vI a.k, vI a.who, .bool a.kem]))] (nwS 0)] [0, 1, 3, 4] (Bl [stB (begR (andY noY tabY) w0.heap.size) [], stB (begR (andY noY tabY) w0.heap.size) [(52, agS (cxV [vI a.k, vI a.who, .bool a.kem]))]]) 1 (Lo := [(0, eqS (vI k)), (1, agS (cxV [vI a.k, vI a.who, .bool a.kem])), (3, nwS 0), (4, eqS vf)]) (by kernel_rfl) (by kernel_rfl) ⟨⟨m_box rfl rfl rfl rfl (agg_V3 _ _ _).sized rfl, trivial⟩, trivial⟩ hS rfl fun ac g w hS => ?_
 refine then_n ?_
 refine wp_seq ?_
 refine rgl0 hS [] [0, 1, 3, 4, 5] (Lo := [(0, eqS (vI k)), (1, agS (cxV [vI a.k, vI a.who, .bool a.kem])), (3, nwS 0), (4, eqS vf), (5, eqS (Value.pointer none))]) (by kernel_rfl) (by kernel_rfl) trivial fun ac g w hS => ?_
 refine then_n ?_
 refine wp_seq ?_
 refine rgl0 hS [e0 1 [(3, nwS 0)] (nwO 0 0), e0 2 [(7, nwO 0 0)] (eqS (vI a.k)), e0 3 [(3, nwS 0)] (nwO 0 1), e0 4 [(9, nwO 0 1)] (eqS (vI a.who)), e0 5 [(3, nwS 0)] (nwO 0 2), e0 6 [(11, nwO 0 2)] (eqS (vB a.kem)), e0 7 [(8, eqS (vI a.k)), (10, eqS (vI a.who)), (12, eqS (vB a.kem))] (agS (cxV [vI a.k, vI a.who, .bool a.kem])), e0 8 [(6, eqS (Value.pointer none)), (13, agS (cxV [vI a.k, vI a.who, .bool a.kem]))] (eqS (vI 1)), e0 12 [(16, eqS vt), (17, eqS (Value.pointer none))] (eqS vN), e0 13 [(16, eqS vt), (18, eqS vN)] (eqS (vI 0)), e0 18 [(22, eqS vt), (23, eqS (Value.pointer none))] (eqS vN), e0 19 [(22, eqS vt), (24, eqS vN)] (eqS (vI 0)), e0 25 [(28, eqS vt), (29, eqS (Value.pointer none)), (30, eqS (vI k))] (eqS vf), e0 31 [(34, eqS vt), (35, eqS (Value.pointer none)), (36, eqS (vI k))] (eqS vf), e0 36 [(40, eqS vt), (41, eqS (Value.pointer none))] (eqS (vI 0)), e0 41 [(45, eqS vt), (46, eqS (Value.pointer none))] (agS (cxV [.bool false, .bool false])), e0 42 [(45, eqS vt)] (agS (cxV [.bool false, .bool false])), e0 43 [(45, eqS vt), (47, agS (cxV [.bool false, .bool false])), (48, agS (cxV [.bool false, .bool false]))] (eqS vt), e0 46 [(51, eqS vt)] (eqS vt)] [0, 1, 3, 4, 5] (Lo := [(0, eqS (vI k)), (1, agS (cxV [vI a.k, vI a.who, .bool a.kem])), (3, nwS 0), (4, eqS vt), (5, eqS (Value.pointer none))]) (by kernel_rfl) (by kernel_rfl) ⟨⟨q_faN (k := 0) rfl rfl rfl rfl (by decide) (by kernel_rfl), trivial⟩, ⟨q_ldN (k := 0) (j := 0) rfl rfl rfl rfl (by decide) Tryd.underlying3 rfl rfl, trivial⟩, ⟨q_faN (k := 0) rfl rfl rfl rfl (by decide) (by kernel_rfl), trivial⟩, ⟨q_ldN (k := 0) (j := 1) rfl rfl rfl rfl (by decide) Tryd.underlying3 rfl rfl, trivial⟩, ⟨q_faN (k := 0) rfl rfl rfl rfl (by decide) (by kernel_rfl), trivial⟩, ⟨q_ldN (k := 0) (j := 2) rfl rfl rfl rfl (by decide) Tryd.underlying4 rfl rfl, trivial⟩, ⟨q_act3 rfl rfl rfl rfl, trivial⟩, ⟨q_st rfl fun ξ g w hB hH => by
  obtain ⟨vs, e1, e2⟩ := hH 13 _ rfl
  obtain rfl : vs = [vI a.k, vI a.who, .bool a.kem] := e2
  exact ok_call c27 (congrArg (fun z => some [Value.pointer none, z]) e1) (do0 w), trivial⟩, ⟨q_st rfl fun ξ g w hB hH => ok_call c30 rfl (keys0 w), trivial⟩, ⟨q_val fun ξ g w hB hH => ⟨_, rfl, d_len_slice Tryd.underlying53 rfl⟩, trivial⟩, ⟨q_st rfl fun ξ g w hB hH => ok_call c35 rfl (known0 w), trivial⟩, ⟨q_val fun ξ g w hB hH => ⟨_, rfl, d_len_slice Tryd.underlying24 rfl⟩, trivial⟩, ⟨q_st rfl fun ξ g w hB hH => ok_call c29 rfl (dv0 w), trivial⟩, ⟨q_st rfl fun ξ g w hB hH => ok_call c28 rfl (cl0 w), trivial⟩, ⟨q_st rfl fun ξ g w hB hH => ok_call c39 rfl (epoch0 w), trivial⟩, ⟨q_st rfl fun ξ g w hB hH => (ok_call c36 rfl (world0 w)).mono fun v w2 ⟨h1, h2⟩ => ⟨h1, _, h2, rfl⟩, trivial⟩, ⟨q_w00 rfl, trivial⟩, ⟨q_eqW rfl rfl rfl rfl, trivial⟩, ⟨q_awkB rfl rfl, trivial⟩, trivial⟩ fun ac g w hS => ?_
 refine then_n ?_
 refine wp_ret ?_
 exact body_ret hS.f.frm (results1 Tryd.results13 (RV.tmp hS.f.frm rfl)) ⟨hS.gr0, rfl⟩
theorem nothing_walk {k : Int} {a : Ac} (w0 : World) (hT : T0 w0) : Calls Tryd.prog 13 (List.toArray [vI k, .agg (acv a).toArray]) w0 (Ret fun v w' => v = .bool true ∧ Gr w0 w') := by
 have hX : ∀ x, x ∈ [0] → x < w0.heap.size := fun x hx => by rw [List.mem_singleton.1 hx]; exact hT.size
 exact (noth w0 hX (by simp) hT).mono fun en w' ⟨v, h1, h2, h3⟩ => ⟨v, h1, h3, h2⟩
end Go.Mi.Term
