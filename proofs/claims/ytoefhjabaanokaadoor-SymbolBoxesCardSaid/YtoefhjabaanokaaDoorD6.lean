/- Texts that belong together: Y7. General lemmas and walks; no conditions. -/
import Derived.Test.YtoefhjabaanokaaDoorD5
set_option linter.unusedSimpArgs false
set_option linter.unusedVariables false
set_option linter.unnecessarySimpa false
namespace Go.Mi.Term
open Go.Mi Go.Proofs Go.RowKit
set_option maxRecDepth 100000 in
set_option maxHeartbeats 4000000 in
theorem do_a {b : Nat} {r : Rn} {F Y : List Nat} {kd wh : Int} {c : Bool} (w0 : World) (hX : ∀ x, x ∈ F ++ Y → x < w0.heap.size) (hr : RunIs b r F (F ++ Y) w0) (hs : Small r) (h : kd < 1) : Calls Tryd.prog 27 (List.toArray [vp b, .agg #[vI kd, vI wh, .bool c]]) w0 (Ret (RunPost b r Y F w0 (fun _ _ v => v = vI 1))) := by
 refine enterR (ρ := runR b r) [eqS (vP b 0), agS (cxV [vI kd, vI wh, .bool c])] hX hr ⟨rfl, ⟨_, rfl, rfl⟩, trivial⟩ Tryd.func27 rfl Tryd.ntmps27 rfl fun ac hS => ?_
 refine wp_seq ?_
 refine rgl [e1 0 [(1, agS (cxV [vI kd, vI wh, .bool c]))] (nwS 0)] [0, 1, 3, 4] (Bl [stB (runR b r) [], stB (runR b r) [(47, agS (cxV [vI kd, vI wh, .bool c]))]]) 1 (Lo := [(0, eqS (vP b 0)), (1, agS (cxV [vI kd, vI wh, .bool c])), (3, nwS 0), (4, eqS (vI 0))]) (by kernel_rfl) (by kernel_rfl) ⟨⟨m_box rfl rfl rfl rfl (agg_V3 _ _ _).sized rfl, trivial⟩, trivial⟩ hS rfl fun ac g w hS => ?_
 refine then_n ?_
 refine wp_seq ?_
 refine rgl0 hS [e0 0 [(3, nwS 0)] (nwO 0 0), e0 1 [(6, nwO 0 0)] (eqS (vI kd)), e0 2 [(7, eqS (vI kd))] (eqS vf)] [0, 1, 3, 4, 5] (Lo := [(0, eqS (vP b 0)), (1, agS (cxV [vI kd, vI wh, .bool c])), (3, nwS 0), (4, eqS (vI 0)), (5, eqS vf)]) (by kernel_rfl) (by kernel_rfl) ⟨⟨q_faN (k := 0) rfl rfl rfl rfl (by decide) (by kernel_rfl), trivial⟩, ⟨q_ldN (k := 0) (j := 0) rfl rfl rfl rfl (by decide) Tryd.underlying3 rfl rfl, trivial⟩, ⟨q_cmp rfl rfl rfl (congrArg some (decide_eq_false (by omega))), trivial⟩, trivial⟩ fun ac g w hS => ?_
 refine then_n ?_
 refine wp_seq ?_
 refine wp_seq ?_
 refine rgl0 hS [e0 1 [(14, eqS (vP b 0))] (eqS vf), e0 3 [(16, eqS vf), (3, nwS 0)] (nwO 0 0), e0 4 [(16, eqS vf), (17, nwO 0 0)] (eqS (vI kd)), e0 5 [(16, eqS vf), (18, eqS (vI kd))] (eqS vt)] [0, 1, 3, 4, 5, 45] (Lo := [(0, eqS (vP b 0)), (1, agS (cxV [vI kd, vI wh, .bool c])), (3, nwS 0), (4, eqS (vI 0)), (5, eqS vf), (45, eqS vt)]) (by kernel_rfl) (by kernel_rfl) ⟨⟨q_st rfl fun ξ g w hB hH => ok_call c58 rfl (none_ok w hB.wf.lt hB.run (fun x hx => List.mem_append_left _ hx) hs.h0), trivial⟩, ⟨q_faN (k := 0) rfl rfl rfl rfl (by decide) (by kernel_rfl), trivial⟩, ⟨q_ldN (k := 0) (j := 0) rfl rfl rfl rfl (by decide) Tryd.underlying3 rfl rfl, trivial⟩, ⟨q_cmp rfl rfl rfl (congrArg some (decide_eq_true (by omega))), trivial⟩, trivial⟩ fun ac g w hS => ?_
 refine then_n ?_
 refine wp_cond_true (hS.f.frm.eval rfl) ?_
 refine wp_seq ?_
 refine rgl0 hS [] [0, 1, 3, 4, 5, 45] (Lo := [(0, eqS (vP b 0)), (1, agS (cxV [vI kd, vI wh, .bool c])), (3, nwS 0), (4, eqS (vI 1)), (5, eqS vf), (45, eqS vt)]) (by kernel_rfl) (by kernel_rfl) trivial fun ac g w hS => ?_
 refine then_n ?_
 refine wp_ret ?_
 refine then_ret ?_
 exact body_ret hS.f.frm (results1 Tryd.results27 (RV.tmp hS.f.frm rfl)) (hS.post rfl)
set_option maxRecDepth 100000 in
set_option maxHeartbeats 4000000 in
theorem do_b {b : Nat} {r : Rn} {F Y : List Nat} {kd wh : Int} {c : Bool} (w0 : World) (hX : ∀ x, x ∈ F ++ Y → x < w0.heap.size) (hr : RunIs b r F (F ++ Y) w0) (hs : Small r) (h : 5 < kd) : Calls Tryd.prog 27 (List.toArray [vp b, .agg #[vI kd, vI wh, .bool c]]) w0 (Ret (RunPost b r Y F w0 (fun _ _ v => v = vI 1))) := by
 refine enterR (ρ := runR b r) [eqS (vP b 0), agS (cxV [vI kd, vI wh, .bool c])] hX hr ⟨rfl, ⟨_, rfl, rfl⟩, trivial⟩ Tryd.func27 rfl Tryd.ntmps27 rfl fun ac hS => ?_
 refine wp_seq ?_
 refine rgl [e1 0 [(1, agS (cxV [vI kd, vI wh, .bool c]))] (nwS 0)] [0, 1, 3, 4] (Bl [stB (runR b r) [], stB (runR b r) [(47, agS (cxV [vI kd, vI wh, .bool c]))]]) 1 (Lo := [(0, eqS (vP b 0)), (1, agS (cxV [vI kd, vI wh, .bool c])), (3, nwS 0), (4, eqS (vI 0))]) (by kernel_rfl) (by kernel_rfl) ⟨⟨m_box rfl rfl rfl rfl (agg_V3 _ _ _).sized rfl, trivial⟩, trivial⟩ hS rfl fun ac g w hS => ?_
 refine then_n ?_
 refine wp_seq ?_
 refine rgl0 hS [e0 0 [(3, nwS 0)] (nwO 0 0), e0 1 [(6, nwO 0 0)] (eqS (vI kd)), e0 2 [(7, eqS (vI kd))] (eqS vt), e0 4 [(9, eqS vt), (3, nwS 0)] (nwO 0 0), e0 5 [(9, eqS vt), (10, nwO 0 0)] (eqS (vI kd)), e0 6 [(9, eqS vt), (11, eqS (vI kd))] (eqS vf)] [0, 1, 3, 4, 5] (Lo := [(0, eqS (vP b 0)), (1, agS (cxV [vI kd, vI wh, .bool c])), (3, nwS 0), (4, eqS (vI 0)), (5, eqS vf)]) (by kernel_rfl) (by kernel_rfl) ⟨⟨q_faN (k := 0) rfl rfl rfl rfl (by decide) (by kernel_rfl), trivial⟩, ⟨q_ldN (k := 0) (j := 0) rfl rfl rfl rfl (by decide) Tryd.underlying3 rfl rfl, trivial⟩, ⟨q_cmp rfl rfl rfl (congrArg some (decide_eq_true (by omega))), trivial⟩, ⟨q_faN (k := 0) rfl rfl rfl rfl (by decide) (by kernel_rfl), trivial⟩, ⟨q_ldN (k := 0) (j := 0) rfl rfl rfl rfl (by decide) Tryd.underlying3 rfl rfl, trivial⟩, ⟨q_cmp rfl rfl rfl (congrArg some (decide_eq_false (by omega))), trivial⟩, trivial⟩ fun ac g w hS => ?_
 refine then_n ?_
 refine wp_seq ?_
 refine wp_seq ?_
 refine rgl0 hS [e0 1 [(14, eqS (vP b 0))] (eqS vf), e0 3 [(16, eqS vf), (3, nwS 0)] (nwO 0 0), e0 4 [(16, eqS vf), (17, nwO 0 0)] (eqS (vI kd)), e0 5 [(16, eqS vf), (18, eqS (vI kd))] (eqS vf), e0 8 [(21, eqS vf), (3, nwS 0)] (nwO 0 0), e0 9 [(21, eqS vf), (22, nwO 0 0)] (eqS (vI kd)), e0 10 [(21, eqS vf), (23, eqS (vI kd))] (eqS vt)] [0, 1, 3, 4, 5, 45] (Lo := [(0, eqS (vP b 0)), (1, agS (cxV [vI kd, vI wh, .bool c])), (3, nwS 0), (4, eqS (vI 0)), (5, eqS vf), (45, eqS vt)]) (by kernel_rfl) (by kernel_rfl) ⟨⟨q_st rfl fun ξ g w hB hH => ok_call c58 rfl (none_ok w hB.wf.lt hB.run (fun x hx => List.mem_append_left _ hx) hs.h0), trivial⟩, ⟨q_faN (k := 0) rfl rfl rfl rfl (by decide) (by kernel_rfl), trivial⟩, ⟨q_ldN (k := 0) (j := 0) rfl rfl rfl rfl (by decide) Tryd.underlying3 rfl rfl, trivial⟩, ⟨q_cmp rfl rfl rfl (congrArg some (decide_eq_false (by omega))), trivial⟩, ⟨q_faN (k := 0) rfl rfl rfl rfl (by decide) (by kernel_rfl), trivial⟩, ⟨q_ldN (k := 0) (j := 0) rfl rfl rfl rfl (by decide) Tryd.underlying3 rfl rfl, trivial⟩, ⟨q_cmp rfl rfl rfl (congrArg some (decide_eq_true (by omega))), trivial⟩, trivial⟩ fun ac g w hS => ?_
 refine then_n ?_
 refine wp_cond_true (hS.f.frm.eval rfl) ?_
 refine wp_seq ?_
 refine rgl0 hS [] [0, 1, 3, 4, 5, 45] (Lo := [(0, eqS (vP b 0)), (1, agS (cxV [vI kd, vI wh, .bool c])), (3, nwS 0), (4, eqS (vI 1)), (5, eqS vf), (45, eqS vt)]) (by kernel_rfl) (by kernel_rfl) trivial fun ac g w hS => ?_
 refine then_n ?_
 refine wp_ret ?_
 refine then_ret ?_
 exact body_ret hS.f.frm (results1 Tryd.results27 (RV.tmp hS.f.frm rfl)) (hS.post rfl)
set_option maxRecDepth 100000 in
set_option maxHeartbeats 4000000 in
theorem do_c {b : Nat} {r : Rn} {F Y : List Nat} {kd wh : Int} {c : Bool} (w0 : World) (hX : ∀ x, x ∈ F ++ Y → x < w0.heap.size) (hr : RunIs b r F (F ++ Y) w0) (hs : Small r) (h1 : 1 ≤ kd) (h2 : kd ≤ 3) (h : wh < 0) : Calls Tryd.prog 27 (List.toArray [vp b, .agg #[vI kd, vI wh, .bool c]]) w0 (Ret (RunPost b r Y F w0 (fun _ _ v => v = vI 1))) := by
 refine enterR (ρ := runR b r) [eqS (vP b 0), agS (cxV [vI kd, vI wh, .bool c])] hX hr ⟨rfl, ⟨_, rfl, rfl⟩, trivial⟩ Tryd.func27 rfl Tryd.ntmps27 rfl fun ac hS => ?_
 refine wp_seq ?_
 refine rgl [e1 0 [(1, agS (cxV [vI kd, vI wh, .bool c]))] (nwS 0)] [0, 1, 3, 4] (Bl [stB (runR b r) [], stB (runR b r) [(47, agS (cxV [vI kd, vI wh, .bool c]))]]) 1 (Lo := [(0, eqS (vP b 0)), (1, agS (cxV [vI kd, vI wh, .bool c])), (3, nwS 0), (4, eqS (vI 0))]) (by kernel_rfl) (by kernel_rfl) ⟨⟨m_box rfl rfl rfl rfl (agg_V3 _ _ _).sized rfl, trivial⟩, trivial⟩ hS rfl fun ac g w hS => ?_
 refine then_n ?_
 refine wp_seq ?_
 refine rgl0 hS [e0 0 [(3, nwS 0)] (nwO 0 0), e0 1 [(6, nwO 0 0)] (eqS (vI kd)), e0 2 [(7, eqS (vI kd))] (eqS vt), e0 4 [(9, eqS vt), (3, nwS 0)] (nwO 0 0), e0 5 [(9, eqS vt), (10, nwO 0 0)] (eqS (vI kd)), e0 6 [(9, eqS vt), (11, eqS (vI kd))] (eqS vt)] [0, 1, 3, 4, 5] (Lo := [(0, eqS (vP b 0)), (1, agS (cxV [vI kd, vI wh, .bool c])), (3, nwS 0), (4, eqS (vI 0)), (5, eqS vt)]) (by kernel_rfl) (by kernel_rfl) ⟨⟨q_faN (k := 0) rfl rfl rfl rfl (by decide) (by kernel_rfl), trivial⟩, ⟨q_ldN (k := 0) (j := 0) rfl rfl rfl rfl (by decide) Tryd.underlying3 rfl rfl, trivial⟩, ⟨q_cmp rfl rfl rfl (congrArg some (decide_eq_true (by omega))), trivial⟩, ⟨q_faN (k := 0) rfl rfl rfl rfl (by decide) (by kernel_rfl), trivial⟩, ⟨q_ldN (k := 0) (j := 0) rfl rfl rfl rfl (by decide) Tryd.underlying3 rfl rfl, trivial⟩, ⟨q_cmp rfl rfl rfl (congrArg some (decide_eq_true (by omega))), trivial⟩, trivial⟩ fun ac g w hS => ?_
 refine then_n ?_
 refine wp_seq ?_
 refine wp_seq ?_
 refine rgl0 hS [e0 1 [(14, eqS (vP b 0))] (eqS vf), e0 3 [(16, eqS vf), (3, nwS 0)] (nwO 0 0), e0 4 [(16, eqS vf), (17, nwO 0 0)] (eqS (vI kd)), e0 5 [(16, eqS vf), (18, eqS (vI kd))] (eqS vf), e0 8 [(21, eqS vf), (3, nwS 0)] (nwO 0 0), e0 9 [(21, eqS vf), (22, nwO 0 0)] (eqS (vI kd)), e0 10 [(21, eqS vf), (23, eqS (vI kd))] (eqS vf), e0 15 [(28, eqS vt), (3, nwS 0)] (nwO 0 1), e0 16 [(28, eqS vt), (29, nwO 0 1)] (eqS (vI wh)), e0 17 [(28, eqS vt), (30, eqS (vI wh))] (eqS vt)] [0, 1, 3, 4, 5, 45] (Lo := [(0, eqS (vP b 0)), (1, agS (cxV [vI kd, vI wh, .bool c])), (3, nwS 0), (4, eqS (vI 0)), (5, eqS vt), (45, eqS vt)]) (by kernel_rfl) (by kernel_rfl) ⟨⟨q_st rfl fun ξ g w hB hH => ok_call c58 rfl (none_ok w hB.wf.lt hB.run (fun x hx => List.mem_append_left _ hx) hs.h0), trivial⟩, ⟨q_faN (k := 0) rfl rfl rfl rfl (by decide) (by kernel_rfl), trivial⟩, ⟨q_ldN (k := 0) (j := 0) rfl rfl rfl rfl (by decide) Tryd.underlying3 rfl rfl, trivial⟩, ⟨q_cmp rfl rfl rfl (congrArg some (decide_eq_false (by omega))), trivial⟩, ⟨q_faN (k := 0) rfl rfl rfl rfl (by decide) (by kernel_rfl), trivial⟩, ⟨q_ldN (k := 0) (j := 0) rfl rfl rfl rfl (by decide) Tryd.underlying3 rfl rfl, trivial⟩, ⟨q_cmp rfl rfl rfl (congrArg some (decide_eq_false (by omega))), trivial⟩, ⟨q_faN (k := 0) rfl rfl rfl rfl (by decide) (by kernel_rfl), trivial⟩, ⟨q_ldN (k := 0) (j := 1) rfl rfl rfl rfl (by decide) Tryd.underlying3 rfl rfl, trivial⟩, ⟨q_cmp rfl rfl rfl (congrArg some (decide_eq_true (by omega))), trivial⟩, trivial⟩ fun ac g w hS => ?_
 refine then_n ?_
 refine wp_cond_true (hS.f.frm.eval rfl) ?_
 refine wp_seq ?_
 refine rgl0 hS [] [0, 1, 3, 4, 5, 45] (Lo := [(0, eqS (vP b 0)), (1, agS (cxV [vI kd, vI wh, .bool c])), (3, nwS 0), (4, eqS (vI 1)), (5, eqS vt), (45, eqS vt)]) (by kernel_rfl) (by kernel_rfl) trivial fun ac g w hS => ?_
 refine then_n ?_
 refine wp_ret ?_
 refine then_ret ?_
 exact body_ret hS.f.frm (results1 Tryd.results27 (RV.tmp hS.f.frm rfl)) (hS.post rfl)
set_option maxRecDepth 100000 in
set_option maxHeartbeats 4000000 in
theorem do_d {b : Nat} {r : Rn} {F Y : List Nat} {kd wh : Int} {c : Bool} (w0 : World) (hX : ∀ x, x ∈ F ++ Y → x < w0.heap.size) (hr : RunIs b r F (F ++ Y) w0) (hs : Small r) (h1 : 1 ≤ kd) (h2 : kd ≤ 3) (h : 2 ≤ wh) : Calls Tryd.prog 27 (List.toArray [vp b, .agg #[vI kd, vI wh, .bool c]]) w0 (Ret (RunPost b r Y F w0 (fun _ _ v => v = vI 1))) := by
 refine enterR (ρ := runR b r) [eqS (vP b 0), agS (cxV [vI kd, vI wh, .bool c])] hX hr ⟨rfl, ⟨_, rfl, rfl⟩, trivial⟩ Tryd.func27 rfl Tryd.ntmps27 rfl fun ac hS => ?_
 refine wp_seq ?_
 refine rgl [e1 0 [(1, agS (cxV [vI kd, vI wh, .bool c]))] (nwS 0)] [0, 1, 3, 4] (Bl [stB (runR b r) [], stB (runR b r) [(47, agS (cxV [vI kd, vI wh, .bool c]))]]) 1 (Lo := [(0, eqS (vP b 0)), (1, agS (cxV [vI kd, vI wh, .bool c])), (3, nwS 0), (4, eqS (vI 0))]) (by kernel_rfl) (by kernel_rfl) ⟨⟨m_box rfl rfl rfl rfl (agg_V3 _ _ _).sized rfl, trivial⟩, trivial⟩ hS rfl fun ac g w hS => ?_
 refine then_n ?_
 refine wp_seq ?_
 refine rgl0 hS [e0 0 [(3, nwS 0)] (nwO 0 0), e0 1 [(6, nwO 0 0)] (eqS (vI kd)), e0 2 [(7, eqS (vI kd))] (eqS vt), e0 4 [(9, eqS vt), (3, nwS 0)] (nwO 0 0), e0 5 [(9, eqS vt), (10, nwO 0 0)] (eqS (vI kd)), e0 6 [(9, eqS vt), (11, eqS (vI kd))] (eqS vt)] [0, 1, 3, 4, 5] (Lo := [(0, eqS (vP b 0)), (1, agS (cxV [vI kd, vI wh, .bool c])), (3, nwS 0), (4, eqS (vI 0)), (5, eqS vt)]) (by kernel_rfl) (by kernel_rfl) ⟨⟨q_faN (k := 0) rfl rfl rfl rfl (by decide) (by kernel_rfl), trivial⟩, ⟨q_ldN (k := 0) (j := 0) rfl rfl rfl rfl (by decide) Tryd.underlying3 rfl rfl, trivial⟩, ⟨q_cmp rfl rfl rfl (congrArg some (decide_eq_true (by omega))), trivial⟩, ⟨q_faN (k := 0) rfl rfl rfl rfl (by decide) (by kernel_rfl), trivial⟩, ⟨q_ldN (k := 0) (j := 0) rfl rfl rfl rfl (by decide) Tryd.underlying3 rfl rfl, trivial⟩, ⟨q_cmp rfl rfl rfl (congrArg some (decide_eq_true (by omega))), trivial⟩, trivial⟩ fun ac g w hS => ?_
 refine then_n ?_
 refine wp_seq ?_
 refine wp_seq ?_
 refine rgl0 hS [e0 1 [(14, eqS (vP b 0))] (eqS vf), e0 3 [(16, eqS vf), (3, nwS 0)] (nwO 0 0), e0 4 [(16, eqS vf), (17, nwO 0 0)] (eqS (vI kd)), e0 5 [(16, eqS vf), (18, eqS (vI kd))] (eqS vf), e0 8 [(21, eqS vf), (3, nwS 0)] (nwO 0 0), e0 9 [(21, eqS vf), (22, nwO 0 0)] (eqS (vI kd)), e0 10 [(21, eqS vf), (23, eqS (vI kd))] (eqS vf), e0 15 [(28, eqS vt), (3, nwS 0)] (nwO 0 1), e0 16 [(28, eqS vt), (29, nwO 0 1)] (eqS (vI wh)), e0 17 [(28, eqS vt), (30, eqS (vI wh))] (eqS vf), e0 19 [(32, eqS vf), (3, nwS 0)] (nwO 0 1), e0 20 [(32, eqS vf), (33, nwO 0 1)] (eqS (vI wh)), e0 21 [(32, eqS vf), (34, eqS (vI wh))] (eqS vt)] [0, 1, 3, 4, 5, 45] (Lo := [(0, eqS (vP b 0)), (1, agS (cxV [vI kd, vI wh, .bool c])), (3, nwS 0), (4, eqS (vI 0)), (5, eqS vt), (45, eqS vt)]) (by kernel_rfl) (by kernel_rfl) ⟨⟨q_st rfl fun ξ g w hB hH => ok_call c58 rfl (none_ok w hB.wf.lt hB.run (fun x hx => List.mem_append_left _ hx) hs.h0), trivial⟩, ⟨q_faN (k := 0) rfl rfl rfl rfl (by decide) (by kernel_rfl), trivial⟩, ⟨q_ldN (k := 0) (j := 0) rfl rfl rfl rfl (by decide) Tryd.underlying3 rfl rfl, trivial⟩, ⟨q_cmp rfl rfl rfl (congrArg some (decide_eq_false (by omega))), trivial⟩, ⟨q_faN (k := 0) rfl rfl rfl rfl (by decide) (by kernel_rfl), trivial⟩, ⟨q_ldN (k := 0) (j := 0) rfl rfl rfl rfl (by decide) Tryd.underlying3 rfl rfl, trivial⟩, ⟨q_cmp rfl rfl rfl (congrArg some (decide_eq_false (by omega))), trivial⟩, ⟨q_faN (k := 0) rfl rfl rfl rfl (by decide) (by kernel_rfl), trivial⟩, ⟨q_ldN (k := 0) (j := 1) rfl rfl rfl rfl (by decide) Tryd.underlying3 rfl rfl, trivial⟩, ⟨q_cmp rfl rfl rfl (congrArg some (decide_eq_false (by omega))), trivial⟩, ⟨q_faN (k := 0) rfl rfl rfl rfl (by decide) (by kernel_rfl), trivial⟩, ⟨q_ldN (k := 0) (j := 1) rfl rfl rfl rfl (by decide) Tryd.underlying3 rfl rfl, trivial⟩, ⟨q_cmp rfl rfl rfl (congrArg some (decide_eq_true (by omega))), trivial⟩, trivial⟩ fun ac g w hS => ?_
 refine then_n ?_
 refine wp_cond_true (hS.f.frm.eval rfl) ?_
 refine wp_seq ?_
 refine rgl0 hS [] [0, 1, 3, 4, 5, 45] (Lo := [(0, eqS (vP b 0)), (1, agS (cxV [vI kd, vI wh, .bool c])), (3, nwS 0), (4, eqS (vI 1)), (5, eqS vt), (45, eqS vt)]) (by kernel_rfl) (by kernel_rfl) trivial fun ac g w hS => ?_
 refine then_n ?_
 refine wp_ret ?_
 refine then_ret ?_
 exact body_ret hS.f.frm (results1 Tryd.results27 (RV.tmp hS.f.frm rfl)) (hS.post rfl)
set_option maxRecDepth 100000 in
set_option maxHeartbeats 4000000 in
theorem do_e {b : Nat} {r : Rn} {F Y : List Nat} {kd wh : Int} {c : Bool} (w0 : World) (hX : ∀ x, x ∈ F ++ Y → x < w0.heap.size) (hr : RunIs b r F (F ++ Y) w0) (hs : Small r) (h1 : 1 ≤ kd) (h2 : kd ≤ 3) (h3 : 0 ≤ wh) (h4 : wh < 2) (h : 60 ≤ r.acts) : Calls Tryd.prog 27 (List.toArray [vp b, .agg #[vI kd, vI wh, .bool c]]) w0 (Ret (RunPost b r Y F w0 (fun _ _ v => v = vI 1))) := by
 refine enterR (ρ := runR b r) [eqS (vP b 0), agS (cxV [vI kd, vI wh, .bool c])] hX hr ⟨rfl, ⟨_, rfl, rfl⟩, trivial⟩ Tryd.func27 rfl Tryd.ntmps27 rfl fun ac hS => ?_
 refine wp_seq ?_
 refine rgl [e1 0 [(1, agS (cxV [vI kd, vI wh, .bool c]))] (nwS 0)] [0, 1, 3, 4] (Bl [stB (runR b r) [], stB (runR b r) [(47, agS (cxV [vI kd, vI wh, .bool c]))]]) 1 (Lo := [(0, eqS (vP b 0)), (1, agS (cxV [vI kd, vI wh, .bool c])), (3, nwS 0), (4, eqS (vI 0))]) (by kernel_rfl) (by kernel_rfl) ⟨⟨m_box rfl rfl rfl rfl (agg_V3 _ _ _).sized rfl, trivial⟩, trivial⟩ hS rfl fun ac g w hS => ?_
 refine then_n ?_
 refine wp_seq ?_
 refine rgl0 hS [e0 0 [(3, nwS 0)] (nwO 0 0), e0 1 [(6, nwO 0 0)] (eqS (vI kd)), e0 2 [(7, eqS (vI kd))] (eqS vt), e0 4 [(9, eqS vt), (3, nwS 0)] (nwO 0 0), e0 5 [(9, eqS vt), (10, nwO 0 0)] (eqS (vI kd)), e0 6 [(9, eqS vt), (11, eqS (vI kd))] (eqS vt)] [0, 1, 3, 4, 5] (Lo := [(0, eqS (vP b 0)), (1, agS (cxV [vI kd, vI wh, .bool c])), (3, nwS 0), (4, eqS (vI 0)), (5, eqS vt)]) (by kernel_rfl) (by kernel_rfl) ⟨⟨q_faN (k := 0) rfl rfl rfl rfl (by decide) (by kernel_rfl), trivial⟩, ⟨q_ldN (k := 0) (j := 0) rfl rfl rfl rfl (by decide) Tryd.underlying3 rfl rfl, trivial⟩, ⟨q_cmp rfl rfl rfl (congrArg some (decide_eq_true (by omega))), trivial⟩, ⟨q_faN (k := 0) rfl rfl rfl rfl (by decide) (by kernel_rfl), trivial⟩, ⟨q_ldN (k := 0) (j := 0) rfl rfl rfl rfl (by decide) Tryd.underlying3 rfl rfl, trivial⟩, ⟨q_cmp rfl rfl rfl (congrArg some (decide_eq_true (by omega))), trivial⟩, trivial⟩ fun ac g w hS => ?_
 refine then_n ?_
 refine wp_seq ?_
 refine wp_seq ?_
 refine rgl0 hS [e0 1 [(14, eqS (vP b 0))] (eqS vf), e0 3 [(16, eqS vf), (3, nwS 0)] (nwO 0 0), e0 4 [(16, eqS vf), (17, nwO 0 0)] (eqS (vI kd)), e0 5 [(16, eqS vf), (18, eqS (vI kd))] (eqS vf), e0 8 [(21, eqS vf), (3, nwS 0)] (nwO 0 0), e0 9 [(21, eqS vf), (22, nwO 0 0)] (eqS (vI kd)), e0 10 [(21, eqS vf), (23, eqS (vI kd))] (eqS vf), e0 15 [(28, eqS vt), (3, nwS 0)] (nwO 0 1), e0 16 [(28, eqS vt), (29, nwO 0 1)] (eqS (vI wh)), e0 17 [(28, eqS vt), (30, eqS (vI wh))] (eqS vf), e0 19 [(32, eqS vf), (3, nwS 0)] (nwO 0 1), e0 20 [(32, eqS vf), (33, nwO 0 1)] (eqS (vI wh)), e0 21 [(32, eqS vf), (34, eqS (vI wh))] (eqS vf), e0 29 [(39, eqS vf), (42, eqS (vP b 0))] (eqS (vI (r.acts : Nat))), e0 30 [(39, eqS vf), (43, eqS (vI (r.acts : Nat)))] (eqS vt)] [0, 1, 3, 4, 5, 45] (Lo := [(0, eqS (vP b 0)), (1, agS (cxV [vI kd, vI wh, .bool c])), (3, nwS 0), (4, eqS (vI 0)), (5, eqS vt), (45, eqS vt)]) (by kernel_rfl) (by kernel_rfl) ⟨⟨q_st rfl fun ξ g w hB hH => ok_call c58 rfl (none_ok w hB.wf.lt hB.run (fun x hx => List.mem_append_left _ hx) hs.h0), trivial⟩, ⟨q_faN (k := 0) rfl rfl rfl rfl (by decide) (by kernel_rfl), trivial⟩, ⟨q_ldN (k := 0) (j := 0) rfl rfl rfl rfl (by decide) Tryd.underlying3 rfl rfl, trivial⟩, ⟨q_cmp rfl rfl rfl (congrArg some (decide_eq_false (by omega))), trivial⟩, ⟨q_faN (k := 0) rfl rfl rfl rfl (by decide) (by kernel_rfl), trivial⟩, ⟨q_ldN (k := 0) (j := 0) rfl rfl rfl rfl (by decide) Tryd.underlying3 rfl rfl, trivial⟩, ⟨q_cmp rfl rfl rfl (congrArg some (decide_eq_false (by omega))), trivial⟩, ⟨q_faN (k := 0) rfl rfl rfl rfl (by decide) (by kernel_rfl), trivial⟩, ⟨q_ldN (k := 0) (j := 1) rfl rfl rfl rfl (by decide) Tryd.underlying3 rfl rfl, trivial⟩, ⟨q_cmp rfl rfl rfl (congrArg some (decide_eq_false (by omega))), trivial⟩, ⟨q_faN (k := 0) rfl rfl rfl rfl (by decide) (by kernel_rfl), trivial⟩, ⟨q_ldN (k := 0) (j := 1) rfl rfl rfl rfl (by decide) Tryd.underlying3 rfl rfl, trivial⟩, ⟨q_cmp rfl rfl rfl (congrArg some (decide_eq_false (by omega))), trivial⟩, ⟨q_ldF (hasR _ _) rfl rfl rfl Tryd.underlying3 rfl (fun _ => rfl), trivial⟩, ⟨q_cmp rfl rfl rfl (congrArg some (decide_eq_true (by omega))), trivial⟩, trivial⟩ fun ac g w hS => ?_
 refine then_n ?_
 refine wp_cond_true (hS.f.frm.eval rfl) ?_
 refine wp_seq ?_
 refine rgl0 hS [] [0, 1, 3, 4, 5, 45] (Lo := [(0, eqS (vP b 0)), (1, agS (cxV [vI kd, vI wh, .bool c])), (3, nwS 0), (4, eqS (vI 1)), (5, eqS vt), (45, eqS vt)]) (by kernel_rfl) (by kernel_rfl) trivial fun ac g w hS => ?_
 refine then_n ?_
 refine wp_ret ?_
 refine then_ret ?_
 exact body_ret hS.f.frm (results1 Tryd.results27 (RV.tmp hS.f.frm rfl)) (hS.post rfl)
set_option maxRecDepth 100000 in
set_option maxHeartbeats 4000000 in
theorem do_f {b : Nat} {r : Rn} {F Y : List Nat} {kd wh : Int} {c : Bool} (w0 : World) (hX : ∀ x, x ∈ F ++ Y → x < w0.heap.size) (hr : RunIs b r F (F ++ Y) w0) (hs : Small r) (h1 : 3 < kd) (h2 : kd ≤ 5) (h : 60 ≤ r.acts) : Calls Tryd.prog 27 (List.toArray [vp b, .agg #[vI kd, vI wh, .bool c]]) w0 (Ret (RunPost b r Y F w0 (fun _ _ v => v = vI 1))) := by
 refine enterR (ρ := runR b r) [eqS (vP b 0), agS (cxV [vI kd, vI wh, .bool c])] hX hr ⟨rfl, ⟨_, rfl, rfl⟩, trivial⟩ Tryd.func27 rfl Tryd.ntmps27 rfl fun ac hS => ?_
 refine wp_seq ?_
 refine rgl [e1 0 [(1, agS (cxV [vI kd, vI wh, .bool c]))] (nwS 0)] [0, 1, 3, 4] (Bl [stB (runR b r) [], stB (runR b r) [(47, agS (cxV [vI kd, vI wh, .bool c]))]]) 1 (Lo := [(0, eqS (vP b 0)), (1, agS (cxV [vI kd, vI wh, .bool c])), (3, nwS 0), (4, eqS (vI 0))]) (by kernel_rfl) (by kernel_rfl) ⟨⟨m_box rfl rfl rfl rfl (agg_V3 _ _ _).sized rfl, trivial⟩, trivial⟩ hS rfl fun ac g w hS => ?_
 refine then_n ?_
 refine wp_seq ?_
 refine rgl0 hS [e0 0 [(3, nwS 0)] (nwO 0 0), e0 1 [(6, nwO 0 0)] (eqS (vI kd)), e0 2 [(7, eqS (vI kd))] (eqS vt), e0 4 [(9, eqS vt), (3, nwS 0)] (nwO 0 0), e0 5 [(9, eqS vt), (10, nwO 0 0)] (eqS (vI kd)), e0 6 [(9, eqS vt), (11, eqS (vI kd))] (eqS vf)] [0, 1, 3, 4, 5] (Lo := [(0, eqS (vP b 0)), (1, agS (cxV [vI kd, vI wh, .bool c])), (3, nwS 0), (4, eqS (vI 0)), (5, eqS vf)]) (by kernel_rfl) (by kernel_rfl) ⟨⟨q_faN (k := 0) rfl rfl rfl rfl (by decide) (by kernel_rfl), trivial⟩, ⟨q_ldN (k := 0) (j := 0) rfl rfl rfl rfl (by decide) Tryd.underlying3 rfl rfl, trivial⟩, ⟨q_cmp rfl rfl rfl (congrArg some (decide_eq_true (by omega))), trivial⟩, ⟨q_faN (k := 0) rfl rfl rfl rfl (by decide) (by kernel_rfl), trivial⟩, ⟨q_ldN (k := 0) (j := 0) rfl rfl rfl rfl (by decide) Tryd.underlying3 rfl rfl, trivial⟩, ⟨q_cmp rfl rfl rfl (congrArg some (decide_eq_false (by omega))), trivial⟩, trivial⟩ fun ac g w hS => ?_
 refine then_n ?_
 refine wp_seq ?_
 refine wp_seq ?_
 refine rgl0 hS [e0 1 [(14, eqS (vP b 0))] (eqS vf), e0 3 [(16, eqS vf), (3, nwS 0)] (nwO 0 0), e0 4 [(16, eqS vf), (17, nwO 0 0)] (eqS (vI kd)), e0 5 [(16, eqS vf), (18, eqS (vI kd))] (eqS vf), e0 8 [(21, eqS vf), (3, nwS 0)] (nwO 0 0), e0 9 [(21, eqS vf), (22, nwO 0 0)] (eqS (vI kd)), e0 10 [(21, eqS vf), (23, eqS (vI kd))] (eqS vf), e0 29 [(39, eqS vf), (42, eqS (vP b 0))] (eqS (vI (r.acts : Nat))), e0 30 [(39, eqS vf), (43, eqS (vI (r.acts : Nat)))] (eqS vt)] [0, 1, 3, 4, 5, 45] (Lo := [(0, eqS (vP b 0)), (1, agS (cxV [vI kd, vI wh, .bool c])), (3, nwS 0), (4, eqS (vI 0)), (5, eqS vf), (45, eqS vt)]) (by kernel_rfl) (by kernel_rfl) ⟨⟨q_st rfl fun ξ g w hB hH => ok_call c58 rfl (none_ok w hB.wf.lt hB.run (fun x hx => List.mem_append_left _ hx) hs.h0), trivial⟩, ⟨q_faN (k := 0) rfl rfl rfl rfl (by decide) (by kernel_rfl), trivial⟩, ⟨q_ldN (k := 0) (j := 0) rfl rfl rfl rfl (by decide) Tryd.underlying3 rfl rfl, trivial⟩, ⟨q_cmp rfl rfl rfl (congrArg some (decide_eq_false (by omega))), trivial⟩, ⟨q_faN (k := 0) rfl rfl rfl rfl (by decide) (by kernel_rfl), trivial⟩, ⟨q_ldN (k := 0) (j := 0) rfl rfl rfl rfl (by decide) Tryd.underlying3 rfl rfl, trivial⟩, ⟨q_cmp rfl rfl rfl (congrArg some (decide_eq_false (by omega))), trivial⟩, ⟨q_ldF (hasR _ _) rfl rfl rfl Tryd.underlying3 rfl (fun _ => rfl), trivial⟩, ⟨q_cmp rfl rfl rfl (congrArg some (decide_eq_true (by omega))), trivial⟩, trivial⟩ fun ac g w hS => ?_
 refine then_n ?_
 refine wp_cond_true (hS.f.frm.eval rfl) ?_
 refine wp_seq ?_
 refine rgl0 hS [] [0, 1, 3, 4, 5, 45] (Lo := [(0, eqS (vP b 0)), (1, agS (cxV [vI kd, vI wh, .bool c])), (3, nwS 0), (4, eqS (vI 1)), (5, eqS vf), (45, eqS vt)]) (by kernel_rfl) (by kernel_rfl) trivial fun ac g w hS => ?_
 refine then_n ?_
 refine wp_ret ?_
 refine then_ret ?_
 exact body_ret hS.f.frm (results1 Tryd.results27 (RV.tmp hS.f.frm rfl)) (hS.post rfl)
set_option maxRecDepth 100000 in
set_option maxHeartbeats 4000000 in
theorem do_1 {b : Nat} {r : Rn} {F Y : List Nat} {j : Nat} {c : Bool} (w0 : World) (hX : ∀ x, x ∈ F ++ Y → x < w0.heap.size) (hr : RunIs b r F (F ++ Y) w0) (hs : Small r) (hj : j < 2) (h : r.acts < 60) (ha : r.acts + 1 ≤ 700000) : Calls Tryd.prog 27 (List.toArray [vp b, .agg #[vI 1, vI j, .bool c]]) w0 (Ret (RunPost b (r.count.send j) Y F w0 (fun _ _ v => v = vI 0))) := by
 refine enterR (ρ := runR b r) [eqS (vP b 0), agS (cxV [vI 1, vI j, .bool c])] hX hr ⟨rfl, ⟨_, rfl, rfl⟩, trivial⟩ Tryd.func27 rfl Tryd.ntmps27 rfl fun ac hS => ?_
 refine wp_seq ?_
 refine rgl [e1 0 [(1, agS (cxV [vI 1, vI j, .bool c]))] (nwS 0)] [0, 1, 3, 4] (Bl [stB (runR b r) [], stB (runR b r) [(47, agS (cxV [vI 1, vI j, .bool c]))]]) 1 (Lo := [(0, eqS (vP b 0)), (1, agS (cxV [vI 1, vI j, .bool c])), (3, nwS 0), (4, eqS (vI 0))]) (by kernel_rfl) (by kernel_rfl) ⟨⟨m_box rfl rfl rfl rfl (agg_V3 _ _ _).sized rfl, trivial⟩, trivial⟩ hS rfl fun ac g w hS => ?_
 refine then_n ?_
 refine wp_seq ?_
 refine rgl0 hS [e0 0 [(3, nwS 0)] (nwO 0 0), e0 1 [(6, nwO 0 0)] (eqS (vI 1)), e0 4 [(9, eqS vt), (3, nwS 0)] (nwO 0 0), e0 5 [(9, eqS vt), (10, nwO 0 0)] (eqS (vI 1))] [0, 1, 3, 4, 5] (Lo := [(0, eqS (vP b 0)), (1, agS (cxV [vI 1, vI j, .bool c])), (3, nwS 0), (4, eqS (vI 0)), (5, eqS vt)]) (by kernel_rfl) (by kernel_rfl) ⟨⟨q_faN (k := 0) rfl rfl rfl rfl (by decide) (by kernel_rfl), trivial⟩, ⟨q_ldN (k := 0) (j := 0) rfl rfl rfl rfl (by decide) Tryd.underlying3 rfl rfl, trivial⟩, ⟨q_faN (k := 0) rfl rfl rfl rfl (by decide) (by kernel_rfl), trivial⟩, ⟨q_ldN (k := 0) (j := 0) rfl rfl rfl rfl (by decide) Tryd.underlying3 rfl rfl, trivial⟩, trivial⟩ fun ac g w hS => ?_
 refine then_n ?_
 refine wp_seq ?_
 refine wp_seq ?_
 refine rgl0 hS [e0 1 [(14, eqS (vP b 0))] (eqS vf), e0 3 [(16, eqS vf), (3, nwS 0)] (nwO 0 0), e0 4 [(16, eqS vf), (17, nwO 0 0)] (eqS (vI 1)), e0 8 [(21, eqS vf), (3, nwS 0)] (nwO 0 0), e0 9 [(21, eqS vf), (22, nwO 0 0)] (eqS (vI 1)), e0 15 [(28, eqS vt), (3, nwS 0)] (nwO 0 1), e0 16 [(28, eqS vt), (29, nwO 0 1)] (eqS (vI j)), e0 17 [(28, eqS vt), (30, eqS (vI j))] (eqS vf), e0 19 [(32, eqS vf), (3, nwS 0)] (nwO 0 1), e0 20 [(32, eqS vf), (33, nwO 0 1)] (eqS (vI j)), e0 21 [(32, eqS vf), (34, eqS (vI j))] (eqS vf), e0 29 [(39, eqS vf), (42, eqS (vP b 0))] (eqS (vI (r.acts : Nat))), e0 30 [(39, eqS vf), (43, eqS (vI (r.acts : Nat)))] (eqS vf)] [0, 1, 3, 4, 5, 45] (Lo := [(0, eqS (vP b 0)), (1, agS (cxV [vI 1, vI j, .bool c])), (3, nwS 0), (4, eqS (vI 0)), (5, eqS vt), (45, eqS vf)]) (by kernel_rfl) (by kernel_rfl) ⟨⟨q_st rfl fun ξ g w hB hH => ok_call c58 rfl (none_ok w hB.wf.lt hB.run (fun x hx => List.mem_append_left _ hx) hs.h0), trivial⟩, ⟨q_faN (k := 0) rfl rfl rfl rfl (by decide) (by kernel_rfl), trivial⟩, ⟨q_ldN (k := 0) (j := 0) rfl rfl rfl rfl (by decide) Tryd.underlying3 rfl rfl, trivial⟩, ⟨q_faN (k := 0) rfl rfl rfl rfl (by decide) (by kernel_rfl), trivial⟩, ⟨q_ldN (k := 0) (j := 0) rfl rfl rfl rfl (by decide) Tryd.underlying3 rfl rfl, trivial⟩, ⟨q_faN (k := 0) rfl rfl rfl rfl (by decide) (by kernel_rfl), trivial⟩, ⟨q_ldN (k := 0) (j := 1) rfl rfl rfl rfl (by decide) Tryd.underlying3 rfl rfl, trivial⟩, ⟨q_cmp rfl rfl rfl (congrArg some (decide_eq_false (by omega))), trivial⟩, ⟨q_faN (k := 0) rfl rfl rfl rfl (by decide) (by kernel_rfl), trivial⟩, ⟨q_ldN (k := 0) (j := 1) rfl rfl rfl rfl (by decide) Tryd.underlying3 rfl rfl, trivial⟩, ⟨q_cmp rfl rfl rfl (congrArg some (decide_eq_false (by omega))), trivial⟩, ⟨q_ldF (hasR _ _) rfl rfl rfl Tryd.underlying3 rfl (fun _ => rfl), trivial⟩, ⟨q_cmp rfl rfl rfl (congrArg some (decide_eq_false (by omega))), trivial⟩, trivial⟩ fun ac g w hS => ?_
 refine then_n ?_
 refine wp_cond_false (hS.f.frm.eval rfl) ?_
 refine wp_skip ?_
 refine then_n ?_
 refine wp_seq ?_
 refine rgl [e0 3 [(48, eqS (vP b 0))] (eqS (vI (r.acts : Nat))), e0 4 [(49, eqS (vI (r.acts : Nat)))] (eqS (vI (((r.acts : Nat) : Int) + 1))), e1 7 [(52, eqS (vP b 0)), (50, eqS (vI (((r.acts : Nat) : Int) + 1)))] topS] [0, 1, 3, 4, 5, 45] (Bl [stB (runR b r) [(47, agS (cxV [vI 1, vI j, .bool c]))], stB (runR b r.count) [(47, agS (cxV [vI 1, vI j, .bool c]))]]) 1 (Lo := [(0, eqS (vP b 0)), (1, agS (cxV [vI 1, vI j, .bool c])), (3, nwS 0), (4, eqS (vI 0)), (5, eqS vt), (45, eqS vf)]) (by kernel_rfl) (by kernel_rfl) ⟨⟨q_ldF (hasR _ _) rfl rfl rfl Tryd.underlying3 rfl (fun _ => rfl), trivial⟩, ⟨q_val fun ξ g w hB hH => ⟨_, rfl, d_add rfl rfl (wrap_i64 (by have := hs.ha; omega) (by have := hs.ha; omega))⟩, trivial⟩, ⟨m_stF rfl rfl rfl sz3 rfl rfl rfl (by decide) (fun _ => rfl) rfl rfl rfl, trivial⟩, trivial⟩ hS rfl fun ac g w hS => ?_
 refine then_n ?_
 refine wp_seq ?_
 refine wp_seq ?_
 refine rgl0 hS [e0 0 [(3, nwS 0)] (nwO 0 0), e0 1 [(53, nwO 0 0)] (eqS (vI 1))] [0, 1, 3, 4, 5, 45, 54] (Lo := [(0, eqS (vP b 0)), (1, agS (cxV [vI 1, vI j, .bool c])), (3, nwS 0), (4, eqS (vI 0)), (5, eqS vt), (45, eqS vf), (54, eqS (vI 1))]) (by kernel_rfl) (by kernel_rfl) ⟨⟨q_faN (k := 0) rfl rfl rfl rfl (by decide) (by kernel_rfl), trivial⟩, ⟨q_ldN (k := 0) (j := 0) rfl rfl rfl rfl (by decide) Tryd.underlying3 rfl rfl, trivial⟩, trivial⟩ fun ac g w hS => ?_
 refine then_n ?_
 refine wp_block ?_
 refine wp_seq ?_
 refine rgl0 hS [] [0, 1, 3, 4, 5, 45, 54, 59] (Lo := [(0, eqS (vP b 0)), (1, agS (cxV [vI 1, vI j, .bool c])), (3, nwS 0), (4, eqS (vI 0)), (5, eqS vt), (45, eqS vf), (54, eqS (vI 1)), (59, eqS vt)]) (by kernel_rfl) (by kernel_rfl) trivial fun ac g w hS => ?_
 refine then_n ?_
 refine wp_cond_true (hS.f.frm.eval rfl) ?_
 refine rgl [e0 1 [(3, nwS 0)] (nwO 0 1), e0 2 [(62, nwO 0 1)] (eqS (vI j)), e1 3 [(61, eqS (vP b 0)), (63, eqS (vI j))] topS] [0, 1, 3, 4, 5, 45, 54, 59] (Bl [stB (runR b r.count) [(47, agS (cxV [vI 1, vI j, .bool c]))], stB (runR b (r.count.send j)) [(47, agS (cxV [vI 1, vI j, .bool c]))]]) 1 (Lo := [(0, eqS (vP b 0)), (1, agS (cxV [vI 1, vI j, .bool c])), (3, nwS 0), (4, eqS (vI 0)), (5, eqS vt), (45, eqS vf), (54, eqS (vI 1)), (59, eqS vt)]) (by kernel_rfl) (by kernel_rfl) ⟨⟨q_faN (k := 0) rfl rfl rfl rfl (by decide) (by kernel_rfl), trivial⟩, ⟨q_ldN (k := 0) (j := 1) rfl rfl rfl rfl (by decide) Tryd.underlying3 rfl rfl, trivial⟩, ⟨m_call (post := fun _ _ _ => True) rfl rfl (fun _ _ _ h => h) fun ξ g w hw hr hH => ok_call c59 rfl (send_ok (r := r.count) w hw.lt hr hj hs.h0 (Nat.le_trans hs.h1 (by decide)) (Nat.le_trans hs.hn (by decide)) (Nat.le_trans hs.hk (by decide)) (Nat.le_trans hs.hy (by decide)) (Nat.le_trans hs.hb (by decide)) (Nat.le_trans (hs.hx j) (by decide))), trivial⟩, trivial⟩ hS rfl fun ac g w hS => ?_
 refine block_n ?_
 refine then_n ?_
 refine wp_seq ?_
 refine rgl0 hS [] [0, 1, 3, 4, 5, 45, 54, 59] (Lo := [(0, eqS (vP b 0)), (1, agS (cxV [vI 1, vI j, .bool c])), (3, nwS 0), (4, eqS (vI 0)), (5, eqS vt), (45, eqS vf), (54, eqS (vI 1)), (59, eqS vt)]) (by kernel_rfl) (by kernel_rfl) trivial fun ac g w hS => ?_
 refine then_n ?_
 refine wp_ret ?_
 exact body_ret hS.f.frm (results1 Tryd.results27 (RV.tmp hS.f.frm rfl)) (hS.post rfl)
set_option maxRecDepth 100000 in
set_option maxHeartbeats 4000000 in
theorem do_2 {b : Nat} {r : Rn} {F Y : List Nat} {j : Nat} {c : Bool} (w0 : World) (hX : ∀ x, x ∈ F ++ Y → x < w0.heap.size) (hr : RunIs b r F (F ++ Y) w0) (hs : Small r) (hj : j < 2) (h : r.acts < 60) (ha : r.acts + 1 ≤ 700000) : Calls Tryd.prog 27 (List.toArray [vp b, .agg #[vI 2, vI j, .bool c]]) w0 (Ret (RunPost b (r.count.turn j c) Y F w0 (fun _ _ v => v = vI 0))) := by
 refine enterR (ρ := runR b r) [eqS (vP b 0), agS (cxV [vI 2, vI j, .bool c])] hX hr ⟨rfl, ⟨_, rfl, rfl⟩, trivial⟩ Tryd.func27 rfl Tryd.ntmps27 rfl fun ac hS => ?_
 refine wp_seq ?_
 refine rgl [e1 0 [(1, agS (cxV [vI 2, vI j, .bool c]))] (nwS 0)] [0, 1, 3, 4] (Bl [stB (runR b r) [], stB (runR b r) [(47, agS (cxV [vI 2, vI j, .bool c]))]]) 1 (Lo := [(0, eqS (vP b 0)), (1, agS (cxV [vI 2, vI j, .bool c])), (3, nwS 0), (4, eqS (vI 0))]) (by kernel_rfl) (by kernel_rfl) ⟨⟨m_box rfl rfl rfl rfl (agg_V3 _ _ _).sized rfl, trivial⟩, trivial⟩ hS rfl fun ac g w hS => ?_
 refine then_n ?_
 refine wp_seq ?_
 refine rgl0 hS [e0 0 [(3, nwS 0)] (nwO 0 0), e0 1 [(6, nwO 0 0)] (eqS (vI 2)), e0 4 [(9, eqS vt), (3, nwS 0)] (nwO 0 0), e0 5 [(9, eqS vt), (10, nwO 0 0)] (eqS (vI 2))] [0, 1, 3, 4, 5] (Lo := [(0, eqS (vP b 0)), (1, agS (cxV [vI 2, vI j, .bool c])), (3, nwS 0), (4, eqS (vI 0)), (5, eqS vt)]) (by kernel_rfl) (by kernel_rfl) ⟨⟨q_faN (k := 0) rfl rfl rfl rfl (by decide) (by kernel_rfl), trivial⟩, ⟨q_ldN (k := 0) (j := 0) rfl rfl rfl rfl (by decide) Tryd.underlying3 rfl rfl, trivial⟩, ⟨q_faN (k := 0) rfl rfl rfl rfl (by decide) (by kernel_rfl), trivial⟩, ⟨q_ldN (k := 0) (j := 0) rfl rfl rfl rfl (by decide) Tryd.underlying3 rfl rfl, trivial⟩, trivial⟩ fun ac g w hS => ?_
 refine then_n ?_
 refine wp_seq ?_
 refine wp_seq ?_
 refine rgl0 hS [e0 1 [(14, eqS (vP b 0))] (eqS vf), e0 3 [(16, eqS vf), (3, nwS 0)] (nwO 0 0), e0 4 [(16, eqS vf), (17, nwO 0 0)] (eqS (vI 2)), e0 8 [(21, eqS vf), (3, nwS 0)] (nwO 0 0), e0 9 [(21, eqS vf), (22, nwO 0 0)] (eqS (vI 2)), e0 15 [(28, eqS vt), (3, nwS 0)] (nwO 0 1), e0 16 [(28, eqS vt), (29, nwO 0 1)] (eqS (vI j)), e0 17 [(28, eqS vt), (30, eqS (vI j))] (eqS vf), e0 19 [(32, eqS vf), (3, nwS 0)] (nwO 0 1), e0 20 [(32, eqS vf), (33, nwO 0 1)] (eqS (vI j)), e0 21 [(32, eqS vf), (34, eqS (vI j))] (eqS vf), e0 29 [(39, eqS vf), (42, eqS (vP b 0))] (eqS (vI (r.acts : Nat))), e0 30 [(39, eqS vf), (43, eqS (vI (r.acts : Nat)))] (eqS vf)] [0, 1, 3, 4, 5, 45] (Lo := [(0, eqS (vP b 0)), (1, agS (cxV [vI 2, vI j, .bool c])), (3, nwS 0), (4, eqS (vI 0)), (5, eqS vt), (45, eqS vf)]) (by kernel_rfl) (by kernel_rfl) ⟨⟨q_st rfl fun ξ g w hB hH => ok_call c58 rfl (none_ok w hB.wf.lt hB.run (fun x hx => List.mem_append_left _ hx) hs.h0), trivial⟩, ⟨q_faN (k := 0) rfl rfl rfl rfl (by decide) (by kernel_rfl), trivial⟩, ⟨q_ldN (k := 0) (j := 0) rfl rfl rfl rfl (by decide) Tryd.underlying3 rfl rfl, trivial⟩, ⟨q_faN (k := 0) rfl rfl rfl rfl (by decide) (by kernel_rfl), trivial⟩, ⟨q_ldN (k := 0) (j := 0) rfl rfl rfl rfl (by decide) Tryd.underlying3 rfl rfl, trivial⟩, ⟨q_faN (k := 0) rfl rfl rfl rfl (by decide) (by kernel_rfl), trivial⟩, ⟨q_ldN (k := 0) (j := 1) rfl rfl rfl rfl (by decide) Tryd.underlying3 rfl rfl, trivial⟩, ⟨q_cmp rfl rfl rfl (congrArg some (decide_eq_false (by omega))), trivial⟩, ⟨q_faN (k := 0) rfl rfl rfl rfl (by decide) (by kernel_rfl), trivial⟩, ⟨q_ldN (k := 0) (j := 1) rfl rfl rfl rfl (by decide) Tryd.underlying3 rfl rfl, trivial⟩, ⟨q_cmp rfl rfl rfl (congrArg some (decide_eq_false (by omega))), trivial⟩, ⟨q_ldF (hasR _ _) rfl rfl rfl Tryd.underlying3 rfl (fun _ => rfl), trivial⟩, ⟨q_cmp rfl rfl rfl (congrArg some (decide_eq_false (by omega))), trivial⟩, trivial⟩ fun ac g w hS => ?_
 refine then_n ?_
 refine wp_cond_false (hS.f.frm.eval rfl) ?_
 refine wp_skip ?_
 refine then_n ?_
 refine wp_seq ?_
 refine rgl [e0 3 [(48, eqS (vP b 0))] (eqS (vI (r.acts : Nat))), e0 4 [(49, eqS (vI (r.acts : Nat)))] (eqS (vI (((r.acts : Nat) : Int) + 1))), e1 7 [(52, eqS (vP b 0)), (50, eqS (vI (((r.acts : Nat) : Int) + 1)))] topS] [0, 1, 3, 4, 5, 45] (Bl [stB (runR b r) [(47, agS (cxV [vI 2, vI j, .bool c]))], stB (runR b r.count) [(47, agS (cxV [vI 2, vI j, .bool c]))]]) 1 (Lo := [(0, eqS (vP b 0)), (1, agS (cxV [vI 2, vI j, .bool c])), (3, nwS 0), (4, eqS (vI 0)), (5, eqS vt), (45, eqS vf)]) (by kernel_rfl) (by kernel_rfl) ⟨⟨q_ldF (hasR _ _) rfl rfl rfl Tryd.underlying3 rfl (fun _ => rfl), trivial⟩, ⟨q_val fun ξ g w hB hH => ⟨_, rfl, d_add rfl rfl (wrap_i64 (by have := hs.ha; omega) (by have := hs.ha; omega))⟩, trivial⟩, ⟨m_stF rfl rfl rfl sz3 rfl rfl rfl (by decide) (fun _ => rfl) rfl rfl rfl, trivial⟩, trivial⟩ hS rfl fun ac g w hS => ?_
 refine then_n ?_
 refine wp_seq ?_
 refine wp_seq ?_
 refine rgl0 hS [e0 0 [(3, nwS 0)] (nwO 0 0), e0 1 [(53, nwO 0 0)] (eqS (vI 2))] [0, 1, 3, 4, 5, 45, 54] (Lo := [(0, eqS (vP b 0)), (1, agS (cxV [vI 2, vI j, .bool c])), (3, nwS 0), (4, eqS (vI 0)), (5, eqS vt), (45, eqS vf), (54, eqS (vI 2))]) (by kernel_rfl) (by kernel_rfl) ⟨⟨q_faN (k := 0) rfl rfl rfl rfl (by decide) (by kernel_rfl), trivial⟩, ⟨q_ldN (k := 0) (j := 0) rfl rfl rfl rfl (by decide) Tryd.underlying3 rfl rfl, trivial⟩, trivial⟩ fun ac g w hS => ?_
 refine then_n ?_
 refine wp_block ?_
 refine wp_seq ?_
 refine rgl0 hS [] [0, 1, 3, 4, 5, 45, 54, 59] (Lo := [(0, eqS (vP b 0)), (1, agS (cxV [vI 2, vI j, .bool c])), (3, nwS 0), (4, eqS (vI 0)), (5, eqS vt), (45, eqS vf), (54, eqS (vI 2)), (59, eqS vf)]) (by kernel_rfl) (by kernel_rfl) trivial fun ac g w hS => ?_
 refine then_n ?_
 refine wp_cond_false (hS.f.frm.eval rfl) ?_
 refine wp_seq ?_
 refine rgl0 hS [] [0, 1, 3, 4, 5, 45, 54, 59, 65] (Lo := [(0, eqS (vP b 0)), (1, agS (cxV [vI 2, vI j, .bool c])), (3, nwS 0), (4, eqS (vI 0)), (5, eqS vt), (45, eqS vf), (54, eqS (vI 2)), (59, eqS vf), (65, eqS vt)]) (by kernel_rfl) (by kernel_rfl) trivial fun ac g w hS => ?_
 refine then_n ?_
 refine wp_cond_true (hS.f.frm.eval rfl) ?_
 refine rgl [e0 1 [(3, nwS 0)] (nwO 0 1), e0 2 [(68, nwO 0 1)] (eqS (vI j)), e0 3 [(3, nwS 0)] (nwO 0 2), e0 4 [(70, nwO 0 2)] (eqS (vB c)), e1 5 [(67, eqS (vP b 0)), (69, eqS (vI j)), (71, eqS (vB c))] topS] [0, 1, 3, 4, 5, 45, 54, 59, 65] (Bl [stB (runR b r.count) [(47, agS (cxV [vI 2, vI j, .bool c]))], stB (runR b (r.count.turn j c)) [(47, agS (cxV [vI 2, vI j, .bool c]))]]) 1 (Lo := [(0, eqS (vP b 0)), (1, agS (cxV [vI 2, vI j, .bool c])), (3, nwS 0), (4, eqS (vI 0)), (5, eqS vt), (45, eqS vf), (54, eqS (vI 2)), (59, eqS vf), (65, eqS vt)]) (by kernel_rfl) (by kernel_rfl) ⟨⟨q_faN (k := 0) rfl rfl rfl rfl (by decide) (by kernel_rfl), trivial⟩, ⟨q_ldN (k := 0) (j := 1) rfl rfl rfl rfl (by decide) Tryd.underlying3 rfl rfl, trivial⟩, ⟨q_faN (k := 0) rfl rfl rfl rfl (by decide) (by kernel_rfl), trivial⟩, ⟨q_ldN (k := 0) (j := 2) rfl rfl rfl rfl (by decide) Tryd.underlying4 rfl rfl, trivial⟩, ⟨m_call (post := fun _ _ _ => True) rfl rfl (fun _ _ _ h => h) fun ξ g w hw hr hH => ok_call c60 rfl (turn_ok (r := r.count) w hw.lt hr hj (Nat.le_trans hs.h1 (by decide)) (Nat.le_trans hs.hn (by decide)) (Nat.le_trans hs.hk (by decide))), trivial⟩, trivial⟩ hS rfl fun ac g w hS => ?_
 refine block_n ?_
 refine then_n ?_
 refine wp_seq ?_
 refine rgl0 hS [] [0, 1, 3, 4, 5, 45, 54, 59, 65] (Lo := [(0, eqS (vP b 0)), (1, agS (cxV [vI 2, vI j, .bool c])), (3, nwS 0), (4, eqS (vI 0)), (5, eqS vt), (45, eqS vf), (54, eqS (vI 2)), (59, eqS vf), (65, eqS vt)]) (by kernel_rfl) (by kernel_rfl) trivial fun ac g w hS => ?_
 refine then_n ?_
 refine wp_ret ?_
 exact body_ret hS.f.frm (results1 Tryd.results27 (RV.tmp hS.f.frm rfl)) (hS.post rfl)
set_option maxRecDepth 100000 in
set_option maxHeartbeats 4000000 in
theorem do_3 {b : Nat} {r : Rn} {F Y : List Nat} {j : Nat} {c : Bool} (w0 : World) (hX : ∀ x, x ∈ F ++ Y → x < w0.heap.size) (hr : RunIs b r F (F ++ Y) w0) (hs : Small r) (hj : j < 2) (h : r.acts < 60) (ha : r.acts + 1 ≤ 700000) : Calls Tryd.prog 27 (List.toArray [vp b, .agg #[vI 3, vI j, .bool c]]) w0 (Ret (RunPost b (r.count.reveal j) Y F w0 (fun _ _ v => v = vI 0))) := by
 refine enterR (ρ := runR b r) [eqS (vP b 0), agS (cxV [vI 3, vI j, .bool c])] hX hr ⟨rfl, ⟨_, rfl, rfl⟩, trivial⟩ Tryd.func27 rfl Tryd.ntmps27 rfl fun ac hS => ?_
 refine wp_seq ?_
 refine rgl [e1 0 [(1, agS (cxV [vI 3, vI j, .bool c]))] (nwS 0)] [0, 1, 3, 4] (Bl [stB (runR b r) [], stB (runR b r) [(47, agS (cxV [vI 3, vI j, .bool c]))]]) 1 (Lo := [(0, eqS (vP b 0)), (1, agS (cxV [vI 3, vI j, .bool c])), (3, nwS 0), (4, eqS (vI 0))]) (by kernel_rfl) (by kernel_rfl) ⟨⟨m_box rfl rfl rfl rfl (agg_V3 _ _ _).sized rfl, trivial⟩, trivial⟩ hS rfl fun ac g w hS => ?_
 refine then_n ?_
 refine wp_seq ?_
 refine rgl0 hS [e0 0 [(3, nwS 0)] (nwO 0 0), e0 1 [(6, nwO 0 0)] (eqS (vI 3)), e0 4 [(9, eqS vt), (3, nwS 0)] (nwO 0 0), e0 5 [(9, eqS vt), (10, nwO 0 0)] (eqS (vI 3))] [0, 1, 3, 4, 5] (Lo := [(0, eqS (vP b 0)), (1, agS (cxV [vI 3, vI j, .bool c])), (3, nwS 0), (4, eqS (vI 0)), (5, eqS vt)]) (by kernel_rfl) (by kernel_rfl) ⟨⟨q_faN (k := 0) rfl rfl rfl rfl (by decide) (by kernel_rfl), trivial⟩, ⟨q_ldN (k := 0) (j := 0) rfl rfl rfl rfl (by decide) Tryd.underlying3 rfl rfl, trivial⟩, ⟨q_faN (k := 0) rfl rfl rfl rfl (by decide) (by kernel_rfl), trivial⟩, ⟨q_ldN (k := 0) (j := 0) rfl rfl rfl rfl (by decide) Tryd.underlying3 rfl rfl, trivial⟩, trivial⟩ fun ac g w hS => ?_
 refine then_n ?_
 refine wp_seq ?_
 refine wp_seq ?_
 refine rgl0 hS [e0 1 [(14, eqS (vP b 0))] (eqS vf), e0 3 [(16, eqS vf), (3, nwS 0)] (nwO 0 0), e0 4 [(16, eqS vf), (17, nwO 0 0)] (eqS (vI 3)), e0 8 [(21, eqS vf), (3, nwS 0)] (nwO 0 0), e0 9 [(21, eqS vf), (22, nwO 0 0)] (eqS (vI 3)), e0 15 [(28, eqS vt), (3, nwS 0)] (nwO 0 1), e0 16 [(28, eqS vt), (29, nwO 0 1)] (eqS (vI j)), e0 17 [(28, eqS vt), (30, eqS (vI j))] (eqS vf), e0 19 [(32, eqS vf), (3, nwS 0)] (nwO 0 1), e0 20 [(32, eqS vf), (33, nwO 0 1)] (eqS (vI j)), e0 21 [(32, eqS vf), (34, eqS (vI j))] (eqS vf), e0 29 [(39, eqS vf), (42, eqS (vP b 0))] (eqS (vI (r.acts : Nat))), e0 30 [(39, eqS vf), (43, eqS (vI (r.acts : Nat)))] (eqS vf)] [0, 1, 3, 4, 5, 45] (Lo := [(0, eqS (vP b 0)), (1, agS (cxV [vI 3, vI j, .bool c])), (3, nwS 0), (4, eqS (vI 0)), (5, eqS vt), (45, eqS vf)]) (by kernel_rfl) (by kernel_rfl) ⟨⟨q_st rfl fun ξ g w hB hH => ok_call c58 rfl (none_ok w hB.wf.lt hB.run (fun x hx => List.mem_append_left _ hx) hs.h0), trivial⟩, ⟨q_faN (k := 0) rfl rfl rfl rfl (by decide) (by kernel_rfl), trivial⟩, ⟨q_ldN (k := 0) (j := 0) rfl rfl rfl rfl (by decide) Tryd.underlying3 rfl rfl, trivial⟩, ⟨q_faN (k := 0) rfl rfl rfl rfl (by decide) (by kernel_rfl), trivial⟩, ⟨q_ldN (k := 0) (j := 0) rfl rfl rfl rfl (by decide) Tryd.underlying3 rfl rfl, trivial⟩, ⟨q_faN (k := 0) rfl rfl rfl rfl (by decide) (by kernel_rfl), trivial⟩, ⟨q_ldN (k := 0) (j := 1) rfl rfl rfl rfl (by decide) Tryd.underlying3 rfl rfl, trivial⟩, ⟨q_cmp rfl rfl rfl (congrArg some (decide_eq_false (by omega))), trivial⟩, ⟨q_faN (k := 0) rfl rfl rfl rfl (by decide) (by kernel_rfl), trivial⟩, ⟨q_ldN (k := 0) (j := 1) rfl rfl rfl rfl (by decide) Tryd.underlying3 rfl rfl, trivial⟩, ⟨q_cmp rfl rfl rfl (congrArg some (decide_eq_false (by omega))), trivial⟩, ⟨q_ldF (hasR _ _) rfl rfl rfl Tryd.underlying3 rfl (fun _ => rfl), trivial⟩, ⟨q_cmp rfl rfl rfl (congrArg some (decide_eq_false (by omega))), trivial⟩, trivial⟩ fun ac g w hS => ?_
 refine then_n ?_
 refine wp_cond_false (hS.f.frm.eval rfl) ?_
 refine wp_skip ?_
 refine then_n ?_
 refine wp_seq ?_
 refine rgl [e0 3 [(48, eqS (vP b 0))] (eqS (vI (r.acts : Nat))), e0 4 [(49, eqS (vI (r.acts : Nat)))] (eqS (vI (((r.acts : Nat) : Int) + 1))), e1 7 [(52, eqS (vP b 0)), (50, eqS (vI (((r.acts : Nat) : Int) + 1)))] topS] [0, 1, 3, 4, 5, 45] (Bl [stB (runR b r) [(47, agS (cxV [vI 3, vI j, .bool c]))], stB (runR b r.count) [(47, agS (cxV [vI 3, vI j, .bool c]))]]) 1 (Lo := [(0, eqS (vP b 0)), (1, agS (cxV [vI 3, vI j, .bool c])), (3, nwS 0), (4, eqS (vI 0)), (5, eqS vt), (45, eqS vf)]) (by kernel_rfl) (by kernel_rfl) ⟨⟨q_ldF (hasR _ _) rfl rfl rfl Tryd.underlying3 rfl (fun _ => rfl), trivial⟩, ⟨q_val fun ξ g w hB hH => ⟨_, rfl, d_add rfl rfl (wrap_i64 (by have := hs.ha; omega) (by have := hs.ha; omega))⟩, trivial⟩, ⟨m_stF rfl rfl rfl sz3 rfl rfl rfl (by decide) (fun _ => rfl) rfl rfl rfl, trivial⟩, trivial⟩ hS rfl fun ac g w hS => ?_
 refine then_n ?_
 refine wp_seq ?_
 refine wp_seq ?_
 refine rgl0 hS [e0 0 [(3, nwS 0)] (nwO 0 0), e0 1 [(53, nwO 0 0)] (eqS (vI 3))] [0, 1, 3, 4, 5, 45, 54] (Lo := [(0, eqS (vP b 0)), (1, agS (cxV [vI 3, vI j, .bool c])), (3, nwS 0), (4, eqS (vI 0)), (5, eqS vt), (45, eqS vf), (54, eqS (vI 3))]) (by kernel_rfl) (by kernel_rfl) ⟨⟨q_faN (k := 0) rfl rfl rfl rfl (by decide) (by kernel_rfl), trivial⟩, ⟨q_ldN (k := 0) (j := 0) rfl rfl rfl rfl (by decide) Tryd.underlying3 rfl rfl, trivial⟩, trivial⟩ fun ac g w hS => ?_
 refine then_n ?_
 refine wp_block ?_
 refine wp_seq ?_
 refine rgl0 hS [] [0, 1, 3, 4, 5, 45, 54, 59] (Lo := [(0, eqS (vP b 0)), (1, agS (cxV [vI 3, vI j, .bool c])), (3, nwS 0), (4, eqS (vI 0)), (5, eqS vt), (45, eqS vf), (54, eqS (vI 3)), (59, eqS vf)]) (by kernel_rfl) (by kernel_rfl) trivial fun ac g w hS => ?_
 refine then_n ?_
 refine wp_cond_false (hS.f.frm.eval rfl) ?_
 refine wp_seq ?_
 refine rgl0 hS [] [0, 1, 3, 4, 5, 45, 54, 59, 65] (Lo := [(0, eqS (vP b 0)), (1, agS (cxV [vI 3, vI j, .bool c])), (3, nwS 0), (4, eqS (vI 0)), (5, eqS vt), (45, eqS vf), (54, eqS (vI 3)), (59, eqS vf), (65, eqS vf)]) (by kernel_rfl) (by kernel_rfl) trivial fun ac g w hS => ?_
 refine then_n ?_
 refine wp_cond_false (hS.f.frm.eval rfl) ?_
 refine wp_seq ?_
 refine rgl0 hS [] [0, 1, 3, 4, 5, 45, 54, 59, 65, 73] (Lo := [(0, eqS (vP b 0)), (1, agS (cxV [vI 3, vI j, .bool c])), (3, nwS 0), (4, eqS (vI 0)), (5, eqS vt), (45, eqS vf), (54, eqS (vI 3)), (59, eqS vf), (65, eqS vf), (73, eqS vt)]) (by kernel_rfl) (by kernel_rfl) trivial fun ac g w hS => ?_
 refine then_n ?_
 refine wp_cond_true (hS.f.frm.eval rfl) ?_
 refine rgl [e0 1 [(3, nwS 0)] (nwO 0 1), e0 2 [(76, nwO 0 1)] (eqS (vI j)), e1 3 [(75, eqS (vP b 0)), (77, eqS (vI j))] topS] [0, 1, 3, 4, 5, 45, 54, 59, 65, 73] (Bl [stB (runR b r.count) [(47, agS (cxV [vI 3, vI j, .bool c]))], stB (runR b (r.count.reveal j)) [(47, agS (cxV [vI 3, vI j, .bool c]))]]) 1 (Lo := [(0, eqS (vP b 0)), (1, agS (cxV [vI 3, vI j, .bool c])), (3, nwS 0), (4, eqS (vI 0)), (5, eqS vt), (45, eqS vf), (54, eqS (vI 3)), (59, eqS vf), (65, eqS vf), (73, eqS vt)]) (by kernel_rfl) (by kernel_rfl) ⟨⟨q_faN (k := 0) rfl rfl rfl rfl (by decide) (by kernel_rfl), trivial⟩, ⟨q_ldN (k := 0) (j := 1) rfl rfl rfl rfl (by decide) Tryd.underlying3 rfl rfl, trivial⟩, ⟨m_call (post := fun _ _ _ => True) rfl rfl (fun _ _ _ h => h) fun ξ g w hw hr hH => ok_call c61 rfl (reveal_ok (r := r.count) w hw.lt hr hj ⟨hs.h0, hs.h1, hs.hn, hs.hk, hs.hy, hs.hb, hs.hx, hs.hm, ha⟩), trivial⟩, trivial⟩ hS rfl fun ac g w hS => ?_
 refine block_n ?_
 refine then_n ?_
 refine wp_seq ?_
 refine rgl0 hS [] [0, 1, 3, 4, 5, 45, 54, 59, 65, 73] (Lo := [(0, eqS (vP b 0)), (1, agS (cxV [vI 3, vI j, .bool c])), (3, nwS 0), (4, eqS (vI 0)), (5, eqS vt), (45, eqS vf), (54, eqS (vI 3)), (59, eqS vf), (65, eqS vf), (73, eqS vt)]) (by kernel_rfl) (by kernel_rfl) trivial fun ac g w hS => ?_
 refine then_n ?_
 refine wp_ret ?_
 exact body_ret hS.f.frm (results1 Tryd.results27 (RV.tmp hS.f.frm rfl)) (hS.post rfl)
set_option maxRecDepth 100000 in
set_option maxHeartbeats 4000000 in
theorem do_4 {b : Nat} {r : Rn} {F Y : List Nat} {wh : Int} {c : Bool} (w0 : World) (hX : ∀ x, x ∈ F ++ Y → x < w0.heap.size) (hr : RunIs b r F (F ++ Y) w0) (hs : Small r) (h : r.acts < 60) : Calls Tryd.prog 27 (List.toArray [vp b, .agg #[vI 4, vI wh, .bool c]]) w0 (Ret (RunPost b ({ r.count with dh := true }) Y F w0 (fun _ _ v => v = vI 0))) := by
 refine enterR (ρ := runR b r) [eqS (vP b 0), agS (cxV [vI 4, vI wh, .bool c])] hX hr ⟨rfl, ⟨_, rfl, rfl⟩, trivial⟩ Tryd.func27 rfl Tryd.ntmps27 rfl fun ac hS => ?_
 refine wp_seq ?_
 refine rgl [e1 0 [(1, agS (cxV [vI 4, vI wh, .bool c]))] (nwS 0)] [0, 1, 3, 4] (Bl [stB (runR b r) [], stB (runR b r) [(47, agS (cxV [vI 4, vI wh, .bool c]))]]) 1 (Lo := [(0, eqS (vP b 0)), (1, agS (cxV [vI 4, vI wh, .bool c])), (3, nwS 0), (4, eqS (vI 0))]) (by kernel_rfl) (by kernel_rfl) ⟨⟨m_box rfl rfl rfl rfl (agg_V3 _ _ _).sized rfl, trivial⟩, trivial⟩ hS rfl fun ac g w hS => ?_
 refine then_n ?_
 refine wp_seq ?_
 refine rgl0 hS [e0 0 [(3, nwS 0)] (nwO 0 0), e0 1 [(6, nwO 0 0)] (eqS (vI 4)), e0 4 [(9, eqS vt), (3, nwS 0)] (nwO 0 0), e0 5 [(9, eqS vt), (10, nwO 0 0)] (eqS (vI 4))] [0, 1, 3, 4, 5] (Lo := [(0, eqS (vP b 0)), (1, agS (cxV [vI 4, vI wh, .bool c])), (3, nwS 0), (4, eqS (vI 0)), (5, eqS vf)]) (by kernel_rfl) (by kernel_rfl) ⟨⟨q_faN (k := 0) rfl rfl rfl rfl (by decide) (by kernel_rfl), trivial⟩, ⟨q_ldN (k := 0) (j := 0) rfl rfl rfl rfl (by decide) Tryd.underlying3 rfl rfl, trivial⟩, ⟨q_faN (k := 0) rfl rfl rfl rfl (by decide) (by kernel_rfl), trivial⟩, ⟨q_ldN (k := 0) (j := 0) rfl rfl rfl rfl (by decide) Tryd.underlying3 rfl rfl, trivial⟩, trivial⟩ fun ac g w hS => ?_
 refine then_n ?_
 refine wp_seq ?_
 refine wp_seq ?_
 refine rgl0 hS [e0 1 [(14, eqS (vP b 0))] (eqS vf), e0 3 [(16, eqS vf), (3, nwS 0)] (nwO 0 0), e0 4 [(16, eqS vf), (17, nwO 0 0)] (eqS (vI 4)), e0 8 [(21, eqS vf), (3, nwS 0)] (nwO 0 0), e0 9 [(21, eqS vf), (22, nwO 0 0)] (eqS (vI 4)), e0 29 [(39, eqS vf), (42, eqS (vP b 0))] (eqS (vI (r.acts : Nat))), e0 30 [(39, eqS vf), (43, eqS (vI (r.acts : Nat)))] (eqS vf)] [0, 1, 3, 4, 5, 45] (Lo := [(0, eqS (vP b 0)), (1, agS (cxV [vI 4, vI wh, .bool c])), (3, nwS 0), (4, eqS (vI 0)), (5, eqS vf), (45, eqS vf)]) (by kernel_rfl) (by kernel_rfl) ⟨⟨q_st rfl fun ξ g w hB hH => ok_call c58 rfl (none_ok w hB.wf.lt hB.run (fun x hx => List.mem_append_left _ hx) hs.h0), trivial⟩, ⟨q_faN (k := 0) rfl rfl rfl rfl (by decide) (by kernel_rfl), trivial⟩, ⟨q_ldN (k := 0) (j := 0) rfl rfl rfl rfl (by decide) Tryd.underlying3 rfl rfl, trivial⟩, ⟨q_faN (k := 0) rfl rfl rfl rfl (by decide) (by kernel_rfl), trivial⟩, ⟨q_ldN (k := 0) (j := 0) rfl rfl rfl rfl (by decide) Tryd.underlying3 rfl rfl, trivial⟩, ⟨q_ldF (hasR _ _) rfl rfl rfl Tryd.underlying3 rfl (fun _ => rfl), trivial⟩, ⟨q_cmp rfl rfl rfl (congrArg some (decide_eq_false (by omega))), trivial⟩, trivial⟩ fun ac g w hS => ?_
 refine then_n ?_
 refine wp_cond_false (hS.f.frm.eval rfl) ?_
 refine wp_skip ?_
 refine then_n ?_
 refine wp_seq ?_
 refine rgl [e0 3 [(48, eqS (vP b 0))] (eqS (vI (r.acts : Nat))), e0 4 [(49, eqS (vI (r.acts : Nat)))] (eqS (vI (((r.acts : Nat) : Int) + 1))), e1 7 [(52, eqS (vP b 0)), (50, eqS (vI (((r.acts : Nat) : Int) + 1)))] topS] [0, 1, 3, 4, 5, 45] (Bl [stB (runR b r) [(47, agS (cxV [vI 4, vI wh, .bool c]))], stB (runR b r.count) [(47, agS (cxV [vI 4, vI wh, .bool c]))]]) 1 (Lo := [(0, eqS (vP b 0)), (1, agS (cxV [vI 4, vI wh, .bool c])), (3, nwS 0), (4, eqS (vI 0)), (5, eqS vf), (45, eqS vf)]) (by kernel_rfl) (by kernel_rfl) ⟨⟨q_ldF (hasR _ _) rfl rfl rfl Tryd.underlying3 rfl (fun _ => rfl), trivial⟩, ⟨q_val fun ξ g w hB hH => ⟨_, rfl, d_add rfl rfl (wrap_i64 (by have := hs.ha; omega) (by have := hs.ha; omega))⟩, trivial⟩, ⟨m_stF rfl rfl rfl sz3 rfl rfl rfl (by decide) (fun _ => rfl) rfl rfl rfl, trivial⟩, trivial⟩ hS rfl fun ac g w hS => ?_
 refine then_n ?_
 refine wp_seq ?_
 refine wp_seq ?_
 refine rgl0 hS [e0 0 [(3, nwS 0)] (nwO 0 0), e0 1 [(53, nwO 0 0)] (eqS (vI 4))] [0, 1, 3, 4, 5, 45, 54] (Lo := [(0, eqS (vP b 0)), (1, agS (cxV [vI 4, vI wh, .bool c])), (3, nwS 0), (4, eqS (vI 0)), (5, eqS vf), (45, eqS vf), (54, eqS (vI 4))]) (by kernel_rfl) (by kernel_rfl) ⟨⟨q_faN (k := 0) rfl rfl rfl rfl (by decide) (by kernel_rfl), trivial⟩, ⟨q_ldN (k := 0) (j := 0) rfl rfl rfl rfl (by decide) Tryd.underlying3 rfl rfl, trivial⟩, trivial⟩ fun ac g w hS => ?_
 refine then_n ?_
 refine wp_block ?_
 refine wp_seq ?_
 refine rgl0 hS [] [0, 1, 3, 4, 5, 45, 54, 59] (Lo := [(0, eqS (vP b 0)), (1, agS (cxV [vI 4, vI wh, .bool c])), (3, nwS 0), (4, eqS (vI 0)), (5, eqS vf), (45, eqS vf), (54, eqS (vI 4)), (59, eqS vf)]) (by kernel_rfl) (by kernel_rfl) trivial fun ac g w hS => ?_
 refine then_n ?_
 refine wp_cond_false (hS.f.frm.eval rfl) ?_
 refine wp_seq ?_
 refine rgl0 hS [] [0, 1, 3, 4, 5, 45, 54, 59, 65] (Lo := [(0, eqS (vP b 0)), (1, agS (cxV [vI 4, vI wh, .bool c])), (3, nwS 0), (4, eqS (vI 0)), (5, eqS vf), (45, eqS vf), (54, eqS (vI 4)), (59, eqS vf), (65, eqS vf)]) (by kernel_rfl) (by kernel_rfl) trivial fun ac g w hS => ?_
 refine then_n ?_
 refine wp_cond_false (hS.f.frm.eval rfl) ?_
 refine wp_seq ?_
 refine rgl0 hS [] [0, 1, 3, 4, 5, 45, 54, 59, 65, 73] (Lo := [(0, eqS (vP b 0)), (1, agS (cxV [vI 4, vI wh, .bool c])), (3, nwS 0), (4, eqS (vI 0)), (5, eqS vf), (45, eqS vf), (54, eqS (vI 4)), (59, eqS vf), (65, eqS vf), (73, eqS vf)]) (by kernel_rfl) (by kernel_rfl) trivial fun ac g w hS => ?_
 refine then_n ?_
 refine wp_cond_false (hS.f.frm.eval rfl) ?_
 refine wp_seq ?_
 refine rgl0 hS [] [0, 1, 3, 4, 5, 45, 54, 59, 65, 73, 79] (Lo := [(0, eqS (vP b 0)), (1, agS (cxV [vI 4, vI wh, .bool c])), (3, nwS 0), (4, eqS (vI 0)), (5, eqS vf), (45, eqS vf), (54, eqS (vI 4)), (59, eqS vf), (65, eqS vf), (73, eqS vf), (79, eqS vt)]) (by kernel_rfl) (by kernel_rfl) trivial fun ac g w hS => ?_
 refine then_n ?_
 refine wp_cond_true (hS.f.frm.eval rfl) ?_
 refine rgl [e1 4 [(84, eqS (vP b 22))] topS] [0, 1, 3, 4, 5, 45, 54, 59, 65, 73, 79] (Bl [stB (runR b r.count) [(47, agS (cxV [vI 4, vI wh, .bool c]))], stB (runR b { r.count with dh := true }) [(47, agS (cxV [vI 4, vI wh, .bool c]))]]) 1 (Lo := [(0, eqS (vP b 0)), (1, agS (cxV [vI 4, vI wh, .bool c])), (3, nwS 0), (4, eqS (vI 0)), (5, eqS vf), (45, eqS vf), (54, eqS (vI 4)), (59, eqS vf), (65, eqS vf), (73, eqS vf), (79, eqS vt)]) (by kernel_rfl) (by kernel_rfl) ⟨⟨m_stF rfl rfl rfl sz4 rfl rfl rfl (by decide) (fun _ => rfl) rfl rfl rfl, trivial⟩, trivial⟩ hS rfl fun ac g w hS => ?_
 refine block_n ?_
 refine then_n ?_
 refine wp_seq ?_
 refine rgl0 hS [] [0, 1, 3, 4, 5, 45, 54, 59, 65, 73, 79] (Lo := [(0, eqS (vP b 0)), (1, agS (cxV [vI 4, vI wh, .bool c])), (3, nwS 0), (4, eqS (vI 0)), (5, eqS vf), (45, eqS vf), (54, eqS (vI 4)), (59, eqS vf), (65, eqS vf), (73, eqS vf), (79, eqS vt)]) (by kernel_rfl) (by kernel_rfl) trivial fun ac g w hS => ?_
 refine then_n ?_
 refine wp_ret ?_
 exact body_ret hS.f.frm (results1 Tryd.results27 (RV.tmp hS.f.frm rfl)) (hS.post rfl)
set_option maxRecDepth 100000 in
set_option maxHeartbeats 4000000 in
theorem do_5 {b : Nat} {r : Rn} {F Y : List Nat} {wh : Int} {c : Bool} (w0 : World) (hX : ∀ x, x ∈ F ++ Y → x < w0.heap.size) (hr : RunIs b r F (F ++ Y) w0) (hs : Small r) (h : r.acts < 60) : Calls Tryd.prog 27 (List.toArray [vp b, .agg #[vI 5, vI wh, .bool c]]) w0 (Ret (RunPost b ({ r.count with kem := true }) Y F w0 (fun _ _ v => v = vI 0))) := by
 refine enterR (ρ := runR b r) [eqS (vP b 0), agS (cxV [vI 5, vI wh, .bool c])] hX hr ⟨rfl, ⟨_, rfl, rfl⟩, trivial⟩ Tryd.func27 rfl Tryd.ntmps27 rfl fun ac hS => ?_
 refine wp_seq ?_
 refine rgl [e1 0 [(1, agS (cxV [vI 5, vI wh, .bool c]))] (nwS 0)] [0, 1, 3, 4] (Bl [stB (runR b r) [], stB (runR b r) [(47, agS (cxV [vI 5, vI wh, .bool c]))]]) 1 (Lo := [(0, eqS (vP b 0)), (1, agS (cxV [vI 5, vI wh, .bool c])), (3, nwS 0), (4, eqS (vI 0))]) (by kernel_rfl) (by kernel_rfl) ⟨⟨m_box rfl rfl rfl rfl (agg_V3 _ _ _).sized rfl, trivial⟩, trivial⟩ hS rfl fun ac g w hS => ?_
 refine then_n ?_
 refine wp_seq ?_
 refine rgl0 hS [e0 0 [(3, nwS 0)] (nwO 0 0), e0 1 [(6, nwO 0 0)] (eqS (vI 5)), e0 4 [(9, eqS vt), (3, nwS 0)] (nwO 0 0), e0 5 [(9, eqS vt), (10, nwO 0 0)] (eqS (vI 5))] [0, 1, 3, 4, 5] (Lo := [(0, eqS (vP b 0)), (1, agS (cxV [vI 5, vI wh, .bool c])), (3, nwS 0), (4, eqS (vI 0)), (5, eqS vf)]) (by kernel_rfl) (by kernel_rfl) ⟨⟨q_faN (k := 0) rfl rfl rfl rfl (by decide) (by kernel_rfl), trivial⟩, ⟨q_ldN (k := 0) (j := 0) rfl rfl rfl rfl (by decide) Tryd.underlying3 rfl rfl, trivial⟩, ⟨q_faN (k := 0) rfl rfl rfl rfl (by decide) (by kernel_rfl), trivial⟩, ⟨q_ldN (k := 0) (j := 0) rfl rfl rfl rfl (by decide) Tryd.underlying3 rfl rfl, trivial⟩, trivial⟩ fun ac g w hS => ?_
 refine then_n ?_
 refine wp_seq ?_
 refine wp_seq ?_
 refine rgl0 hS [e0 1 [(14, eqS (vP b 0))] (eqS vf), e0 3 [(16, eqS vf), (3, nwS 0)] (nwO 0 0), e0 4 [(16, eqS vf), (17, nwO 0 0)] (eqS (vI 5)), e0 8 [(21, eqS vf), (3, nwS 0)] (nwO 0 0), e0 9 [(21, eqS vf), (22, nwO 0 0)] (eqS (vI 5)), e0 29 [(39, eqS vf), (42, eqS (vP b 0))] (eqS (vI (r.acts : Nat))), e0 30 [(39, eqS vf), (43, eqS (vI (r.acts : Nat)))] (eqS vf)] [0, 1, 3, 4, 5, 45] (Lo := [(0, eqS (vP b 0)), (1, agS (cxV [vI 5, vI wh, .bool c])), (3, nwS 0), (4, eqS (vI 0)), (5, eqS vf), (45, eqS vf)]) (by kernel_rfl) (by kernel_rfl) ⟨⟨q_st rfl fun ξ g w hB hH => ok_call c58 rfl (none_ok w hB.wf.lt hB.run (fun x hx => List.mem_append_left _ hx) hs.h0), trivial⟩, ⟨q_faN (k := 0) rfl rfl rfl rfl (by decide) (by kernel_rfl), trivial⟩, ⟨q_ldN (k := 0) (j := 0) rfl rfl rfl rfl (by decide) Tryd.underlying3 rfl rfl, trivial⟩, ⟨q_faN (k := 0) rfl rfl rfl rfl (by decide) (by kernel_rfl), trivial⟩, ⟨q_ldN (k := 0) (j := 0) rfl rfl rfl rfl (by decide) Tryd.underlying3 rfl rfl, trivial⟩, ⟨q_ldF (hasR _ _) rfl rfl rfl Tryd.underlying3 rfl (fun _ => rfl), trivial⟩, ⟨q_cmp rfl rfl rfl (congrArg some (decide_eq_false (by omega))), trivial⟩, trivial⟩ fun ac g w hS => ?_
 refine then_n ?_
 refine wp_cond_false (hS.f.frm.eval rfl) ?_
 refine wp_skip ?_
 refine then_n ?_
 refine wp_seq ?_
 refine rgl [e0 3 [(48, eqS (vP b 0))] (eqS (vI (r.acts : Nat))), e0 4 [(49, eqS (vI (r.acts : Nat)))] (eqS (vI (((r.acts : Nat) : Int) + 1))), e1 7 [(52, eqS (vP b 0)), (50, eqS (vI (((r.acts : Nat) : Int) + 1)))] topS] [0, 1, 3, 4, 5, 45] (Bl [stB (runR b r) [(47, agS (cxV [vI 5, vI wh, .bool c]))], stB (runR b r.count) [(47, agS (cxV [vI 5, vI wh, .bool c]))]]) 1 (Lo := [(0, eqS (vP b 0)), (1, agS (cxV [vI 5, vI wh, .bool c])), (3, nwS 0), (4, eqS (vI 0)), (5, eqS vf), (45, eqS vf)]) (by kernel_rfl) (by kernel_rfl) ⟨⟨q_ldF (hasR _ _) rfl rfl rfl Tryd.underlying3 rfl (fun _ => rfl), trivial⟩, ⟨q_val fun ξ g w hB hH => ⟨_, rfl, d_add rfl rfl (wrap_i64 (by have := hs.ha; omega) (by have := hs.ha; omega))⟩, trivial⟩, ⟨m_stF rfl rfl rfl sz3 rfl rfl rfl (by decide) (fun _ => rfl) rfl rfl rfl, trivial⟩, trivial⟩ hS rfl fun ac g w hS => ?_
 refine then_n ?_
 refine wp_seq ?_
 refine wp_seq ?_
 refine rgl0 hS [e0 0 [(3, nwS 0)] (nwO 0 0), e0 1 [(53, nwO 0 0)] (eqS (vI 5))] [0, 1, 3, 4, 5, 45, 54] (Lo := [(0, eqS (vP b 0)), (1, agS (cxV [vI 5, vI wh, .bool c])), (3, nwS 0), (4, eqS (vI 0)), (5, eqS vf), (45, eqS vf), (54, eqS (vI 5))]) (by kernel_rfl) (by kernel_rfl) ⟨⟨q_faN (k := 0) rfl rfl rfl rfl (by decide) (by kernel_rfl), trivial⟩, ⟨q_ldN (k := 0) (j := 0) rfl rfl rfl rfl (by decide) Tryd.underlying3 rfl rfl, trivial⟩, trivial⟩ fun ac g w hS => ?_
 refine then_n ?_
 refine wp_block ?_
 refine wp_seq ?_
 refine rgl0 hS [] [0, 1, 3, 4, 5, 45, 54, 59] (Lo := [(0, eqS (vP b 0)), (1, agS (cxV [vI 5, vI wh, .bool c])), (3, nwS 0), (4, eqS (vI 0)), (5, eqS vf), (45, eqS vf), (54, eqS (vI 5)), (59, eqS vf)]) (by kernel_rfl) (by kernel_rfl) trivial fun ac g w hS => ?_
 refine then_n ?_
 refine wp_cond_false (hS.f.frm.eval rfl) ?_
 refine wp_seq ?_
 refine rgl0 hS [] [0, 1, 3, 4, 5, 45, 54, 59, 65] (Lo := [(0, eqS (vP b 0)), (1, agS (cxV [vI 5, vI wh, .bool c])), (3, nwS 0), (4, eqS (vI 0)), (5, eqS vf), (45, eqS vf), (54, eqS (vI 5)), (59, eqS vf), (65, eqS vf)]) (by kernel_rfl) (by kernel_rfl) trivial fun ac g w hS => ?_
 refine then_n ?_
 refine wp_cond_false (hS.f.frm.eval rfl) ?_
 refine wp_seq ?_
 refine rgl0 hS [] [0, 1, 3, 4, 5, 45, 54, 59, 65, 73] (Lo := [(0, eqS (vP b 0)), (1, agS (cxV [vI 5, vI wh, .bool c])), (3, nwS 0), (4, eqS (vI 0)), (5, eqS vf), (45, eqS vf), (54, eqS (vI 5)), (59, eqS vf), (65, eqS vf), (73, eqS vf)]) (by kernel_rfl) (by kernel_rfl) trivial fun ac g w hS => ?_
 refine then_n ?_
 refine wp_cond_false (hS.f.frm.eval rfl) ?_
 refine wp_seq ?_
 refine rgl0 hS [] [0, 1, 3, 4, 5, 45, 54, 59, 65, 73, 79] (Lo := [(0, eqS (vP b 0)), (1, agS (cxV [vI 5, vI wh, .bool c])), (3, nwS 0), (4, eqS (vI 0)), (5, eqS vf), (45, eqS vf), (54, eqS (vI 5)), (59, eqS vf), (65, eqS vf), (73, eqS vf), (79, eqS vf)]) (by kernel_rfl) (by kernel_rfl) trivial fun ac g w hS => ?_
 refine then_n ?_
 refine wp_cond_false (hS.f.frm.eval rfl) ?_
 refine rgl [e1 4 [(58, eqS (vP b 23))] topS] [0, 1, 3, 4, 5, 45, 54, 59, 65, 73, 79] (Bl [stB (runR b r.count) [(47, agS (cxV [vI 5, vI wh, .bool c]))], stB (runR b { r.count with kem := true }) [(47, agS (cxV [vI 5, vI wh, .bool c]))]]) 1 (Lo := [(0, eqS (vP b 0)), (1, agS (cxV [vI 5, vI wh, .bool c])), (3, nwS 0), (4, eqS (vI 0)), (5, eqS vf), (45, eqS vf), (54, eqS (vI 5)), (59, eqS vf), (65, eqS vf), (73, eqS vf), (79, eqS vf)]) (by kernel_rfl) (by kernel_rfl) ⟨⟨m_stF rfl rfl rfl sz4 rfl rfl rfl (by decide) (fun _ => rfl) rfl rfl rfl, trivial⟩, trivial⟩ hS rfl fun ac g w hS => ?_
 refine block_n ?_
 refine then_n ?_
 refine wp_seq ?_
 refine rgl0 hS [] [0, 1, 3, 4, 5, 45, 54, 59, 65, 73, 79] (Lo := [(0, eqS (vP b 0)), (1, agS (cxV [vI 5, vI wh, .bool c])), (3, nwS 0), (4, eqS (vI 0)), (5, eqS vf), (45, eqS vf), (54, eqS (vI 5)), (59, eqS vf), (65, eqS vf), (73, eqS vf), (79, eqS vf)]) (by kernel_rfl) (by kernel_rfl) trivial fun ac g w hS => ?_
 refine then_n ?_
 refine wp_ret ?_
 exact body_ret hS.f.frm (results1 Tryd.results27 (RV.tmp hS.f.frm rfl)) (hS.post rfl)
end Go.Mi.Term
