/- Texts that belong together: Y7. General lemmas and walks; no conditions. -/
import Derived.Test.YtoefhjabaanokaaDoorD5
set_option linter.unusedSimpArgs false
set_option linter.unusedVariables false
set_option linter.unnecessarySimpa false
namespace Go.Mi.Term
open Go.Mi Go.Proofs Go.RowKit
set_option maxRecDepth 100000 in
set_option maxHeartbeats 4000000 in
theorem xF {b : Nat} {r : Rn} {F Y : List Nat} {kd wh : Int} {c : Bool} (w0 : World) (hX : ∀ x, x ∈ F ++ Y → x < w0.heap.size) (hr : RunIs b r F (F ++ Y) w0) (hs : fz r) (h : kd < 1) : Calls Tryd.prog 27 (List.toArray [vp b, .agg #[vI kd, vI wh, .bool c]]) w0 (Ret (cS b r Y F w0 (fun _ _ v => v = vI 1))) := by
 refine b7 (ρ := bP b r) [eP b 0, agS (cxV [vI kd, vI wh, .bool c])] hX hr ⟨rfl, ⟨_, rfl, rfl⟩, trivial⟩ Tryd.func27 rfl Tryd.ntmps27 rfl fun ac hS => ?_
 refine wp_seq ?_
 refine rx [e1 0 [(1, agS (cxV [vI kd, vI wh, .bool c]))] (nwS 0)] [0, 3, 4] (Bl [stB (bP b r) [], stB (bP b r) [(47, agS (cxV [vI kd, vI wh, .bool c]))]]) 1 [(0, eP b 0), (3, nwS 0), (4, eI 0)] ⟨⟨cO rfl rfl rfl rfl (fo _ _ _).sized rfl, trivial⟩, trivial⟩ hS rfl fun ac g w hS => ?_
 refine wp_seq ?_
 refine rz hS [e0 0 [(3, nwS 0)] (nwO 0 0), e0 1 [(6, nwO 0 0)] (eI kd), e0 2 [(7, eI kd)] (eqS vf)] [0, 3, 4, 5] [(0, eP b 0), (3, nwS 0), (4, eI 0), (5, eqS vf)] ⟨⟨bK (k := 0) rfl rfl rfl rfl (by decide) (by kernel_rfl), trivial⟩, ⟨b6 (k := 0) (j := 0) rfl rfl rfl rfl (by decide) Tryd.underlying3 rfl rfl, trivial⟩, ⟨bS rfl rfl rfl (congrArg some (decide_eq_false (by omega))), trivial⟩, trivial⟩ fun ac g w hS => ?_
 refine wp_seq ?_
 refine wp_seq ?_
 refine rz hS [e0 1 [(14, eP b 0)] (eqS vf), e0 3 [(16, eqS vf), (3, nwS 0)] (nwO 0 0), e0 4 [(16, eqS vf), (17, nwO 0 0)] (eI kd), e0 5 [(16, eqS vf), (18, eI kd)] (eqS vt)] [0, 3, 4, 45] [(0, eP b 0), (3, nwS 0), (4, eI 0), (45, eqS vt)] ⟨⟨b_ rfl fun ξ g w hB hH => a_ c58 rfl (cR w hB.wf.lt hB.run (fun x hx => List.mem_append_left _ hx) hs.h0), trivial⟩, ⟨bK (k := 0) rfl rfl rfl rfl (by decide) (by kernel_rfl), trivial⟩, ⟨b6 (k := 0) (j := 0) rfl rfl rfl rfl (by decide) Tryd.underlying3 rfl rfl, trivial⟩, ⟨bS rfl rfl rfl (congrArg some (decide_eq_true (by omega))), trivial⟩, trivial⟩ fun ac g w hS => ?_
 refine wp_cond_true (hS.f.frm.eval rfl) ?_
 refine wp_seq ?_
 refine rz hS [] [0, 3, 4] [(0, eP b 0), (3, nwS 0), (4, eI 1)] trivial fun ac g w hS => ?_
 refine wp_ret ?_
 refine bH ?_
 exact bv hS.f.frm (bw Tryd.results27 (RV.tmp hS.f.frm rfl)) (hS.post rfl)
set_option maxRecDepth 100000 in
set_option maxHeartbeats 4000000 in
theorem xE {b : Nat} {r : Rn} {F Y : List Nat} {kd wh : Int} {c : Bool} (w0 : World) (hX : ∀ x, x ∈ F ++ Y → x < w0.heap.size) (hr : RunIs b r F (F ++ Y) w0) (hs : fz r) (h : 5 < kd) : Calls Tryd.prog 27 (List.toArray [vp b, .agg #[vI kd, vI wh, .bool c]]) w0 (Ret (cS b r Y F w0 (fun _ _ v => v = vI 1))) := by
 refine b7 (ρ := bP b r) [eP b 0, agS (cxV [vI kd, vI wh, .bool c])] hX hr ⟨rfl, ⟨_, rfl, rfl⟩, trivial⟩ Tryd.func27 rfl Tryd.ntmps27 rfl fun ac hS => ?_
 refine wp_seq ?_
 refine rx [e1 0 [(1, agS (cxV [vI kd, vI wh, .bool c]))] (nwS 0)] [0, 3, 4] (Bl [stB (bP b r) [], stB (bP b r) [(47, agS (cxV [vI kd, vI wh, .bool c]))]]) 1 [(0, eP b 0), (3, nwS 0), (4, eI 0)] ⟨⟨cO rfl rfl rfl rfl (fo _ _ _).sized rfl, trivial⟩, trivial⟩ hS rfl fun ac g w hS => ?_
 refine wp_seq ?_
 refine rz hS [e0 0 [(3, nwS 0)] (nwO 0 0), e0 1 [(6, nwO 0 0)] (eI kd), e0 2 [(7, eI kd)] (eqS vt), e0 4 [(9, eqS vt), (3, nwS 0)] (nwO 0 0), e0 5 [(9, eqS vt), (10, nwO 0 0)] (eI kd), e0 6 [(9, eqS vt), (11, eI kd)] (eqS vf)] [0, 3, 4, 5] [(0, eP b 0), (3, nwS 0), (4, eI 0), (5, eqS vf)] ⟨⟨bK (k := 0) rfl rfl rfl rfl (by decide) (by kernel_rfl), trivial⟩, ⟨b6 (k := 0) (j := 0) rfl rfl rfl rfl (by decide) Tryd.underlying3 rfl rfl, trivial⟩, ⟨bS rfl rfl rfl (congrArg some (decide_eq_true (by omega))), trivial⟩, ⟨bK (k := 0) rfl rfl rfl rfl (by decide) (by kernel_rfl), trivial⟩, ⟨b6 (k := 0) (j := 0) rfl rfl rfl rfl (by decide) Tryd.underlying3 rfl rfl, trivial⟩, ⟨bS rfl rfl rfl (congrArg some (decide_eq_false (by omega))), trivial⟩, trivial⟩ fun ac g w hS => ?_
 refine wp_seq ?_
 refine wp_seq ?_
 refine rz hS [e0 1 [(14, eP b 0)] (eqS vf), e0 3 [(16, eqS vf), (3, nwS 0)] (nwO 0 0), e0 4 [(16, eqS vf), (17, nwO 0 0)] (eI kd), e0 5 [(16, eqS vf), (18, eI kd)] (eqS vf), e0 8 [(21, eqS vf), (3, nwS 0)] (nwO 0 0), e0 9 [(21, eqS vf), (22, nwO 0 0)] (eI kd), e0 10 [(21, eqS vf), (23, eI kd)] (eqS vt)] [0, 3, 4, 45] [(0, eP b 0), (3, nwS 0), (4, eI 0), (45, eqS vt)] ⟨⟨b_ rfl fun ξ g w hB hH => a_ c58 rfl (cR w hB.wf.lt hB.run (fun x hx => List.mem_append_left _ hx) hs.h0), trivial⟩, ⟨bK (k := 0) rfl rfl rfl rfl (by decide) (by kernel_rfl), trivial⟩, ⟨b6 (k := 0) (j := 0) rfl rfl rfl rfl (by decide) Tryd.underlying3 rfl rfl, trivial⟩, ⟨bS rfl rfl rfl (congrArg some (decide_eq_false (by omega))), trivial⟩, ⟨bK (k := 0) rfl rfl rfl rfl (by decide) (by kernel_rfl), trivial⟩, ⟨b6 (k := 0) (j := 0) rfl rfl rfl rfl (by decide) Tryd.underlying3 rfl rfl, trivial⟩, ⟨bS rfl rfl rfl (congrArg some (decide_eq_true (by omega))), trivial⟩, trivial⟩ fun ac g w hS => ?_
 refine wp_cond_true (hS.f.frm.eval rfl) ?_
 refine wp_seq ?_
 refine rz hS [] [0, 3, 4] [(0, eP b 0), (3, nwS 0), (4, eI 1)] trivial fun ac g w hS => ?_
 refine wp_ret ?_
 refine bH ?_
 exact bv hS.f.frm (bw Tryd.results27 (RV.tmp hS.f.frm rfl)) (hS.post rfl)
set_option maxRecDepth 100000 in
set_option maxHeartbeats 4000000 in
theorem xD {b : Nat} {r : Rn} {F Y : List Nat} {kd wh : Int} {c : Bool} (w0 : World) (hX : ∀ x, x ∈ F ++ Y → x < w0.heap.size) (hr : RunIs b r F (F ++ Y) w0) (hs : fz r) (h1 : 1 ≤ kd) (h2 : kd ≤ 3) (h : wh < 0) : Calls Tryd.prog 27 (List.toArray [vp b, .agg #[vI kd, vI wh, .bool c]]) w0 (Ret (cS b r Y F w0 (fun _ _ v => v = vI 1))) := by
 refine b7 (ρ := bP b r) [eP b 0, agS (cxV [vI kd, vI wh, .bool c])] hX hr ⟨rfl, ⟨_, rfl, rfl⟩, trivial⟩ Tryd.func27 rfl Tryd.ntmps27 rfl fun ac hS => ?_
 refine wp_seq ?_
 refine rx [e1 0 [(1, agS (cxV [vI kd, vI wh, .bool c]))] (nwS 0)] [0, 3, 4] (Bl [stB (bP b r) [], stB (bP b r) [(47, agS (cxV [vI kd, vI wh, .bool c]))]]) 1 [(0, eP b 0), (3, nwS 0), (4, eI 0)] ⟨⟨cO rfl rfl rfl rfl (fo _ _ _).sized rfl, trivial⟩, trivial⟩ hS rfl fun ac g w hS => ?_
 refine wp_seq ?_
 refine rz hS [e0 0 [(3, nwS 0)] (nwO 0 0), e0 1 [(6, nwO 0 0)] (eI kd), e0 2 [(7, eI kd)] (eqS vt), e0 4 [(9, eqS vt), (3, nwS 0)] (nwO 0 0), e0 5 [(9, eqS vt), (10, nwO 0 0)] (eI kd), e0 6 [(9, eqS vt), (11, eI kd)] (eqS vt)] [0, 3, 4, 5] [(0, eP b 0), (3, nwS 0), (4, eI 0), (5, eqS vt)] ⟨⟨bK (k := 0) rfl rfl rfl rfl (by decide) (by kernel_rfl), trivial⟩, ⟨b6 (k := 0) (j := 0) rfl rfl rfl rfl (by decide) Tryd.underlying3 rfl rfl, trivial⟩, ⟨bS rfl rfl rfl (congrArg some (decide_eq_true (by omega))), trivial⟩, ⟨bK (k := 0) rfl rfl rfl rfl (by decide) (by kernel_rfl), trivial⟩, ⟨b6 (k := 0) (j := 0) rfl rfl rfl rfl (by decide) Tryd.underlying3 rfl rfl, trivial⟩, ⟨bS rfl rfl rfl (congrArg some (decide_eq_true (by omega))), trivial⟩, trivial⟩ fun ac g w hS => ?_
 refine wp_seq ?_
 refine wp_seq ?_
 refine rz hS [e0 1 [(14, eP b 0)] (eqS vf), e0 3 [(16, eqS vf), (3, nwS 0)] (nwO 0 0), e0 4 [(16, eqS vf), (17, nwO 0 0)] (eI kd), e0 5 [(16, eqS vf), (18, eI kd)] (eqS vf), e0 8 [(21, eqS vf), (3, nwS 0)] (nwO 0 0), e0 9 [(21, eqS vf), (22, nwO 0 0)] (eI kd), e0 10 [(21, eqS vf), (23, eI kd)] (eqS vf), e0 15 [(28, eqS vt), (3, nwS 0)] (nwO 0 1), e0 16 [(28, eqS vt), (29, nwO 0 1)] (eI wh), e0 17 [(28, eqS vt), (30, eI wh)] (eqS vt)] [0, 3, 4, 45] [(0, eP b 0), (3, nwS 0), (4, eI 0), (45, eqS vt)] ⟨⟨b_ rfl fun ξ g w hB hH => a_ c58 rfl (cR w hB.wf.lt hB.run (fun x hx => List.mem_append_left _ hx) hs.h0), trivial⟩, ⟨bK (k := 0) rfl rfl rfl rfl (by decide) (by kernel_rfl), trivial⟩, ⟨b6 (k := 0) (j := 0) rfl rfl rfl rfl (by decide) Tryd.underlying3 rfl rfl, trivial⟩, ⟨bS rfl rfl rfl (congrArg some (decide_eq_false (by omega))), trivial⟩, ⟨bK (k := 0) rfl rfl rfl rfl (by decide) (by kernel_rfl), trivial⟩, ⟨b6 (k := 0) (j := 0) rfl rfl rfl rfl (by decide) Tryd.underlying3 rfl rfl, trivial⟩, ⟨bS rfl rfl rfl (congrArg some (decide_eq_false (by omega))), trivial⟩, ⟨bK (k := 0) rfl rfl rfl rfl (by decide) (by kernel_rfl), trivial⟩, ⟨b6 (k := 0) (j := 1) rfl rfl rfl rfl (by decide) Tryd.underlying3 rfl rfl, trivial⟩, ⟨bS rfl rfl rfl (congrArg some (decide_eq_true (by omega))), trivial⟩, trivial⟩ fun ac g w hS => ?_
 refine wp_cond_true (hS.f.frm.eval rfl) ?_
 refine wp_seq ?_
 refine rz hS [] [0, 3, 4] [(0, eP b 0), (3, nwS 0), (4, eI 1)] trivial fun ac g w hS => ?_
 refine wp_ret ?_
 refine bH ?_
 exact bv hS.f.frm (bw Tryd.results27 (RV.tmp hS.f.frm rfl)) (hS.post rfl)
set_option maxRecDepth 100000 in
set_option maxHeartbeats 4000000 in
theorem xC {b : Nat} {r : Rn} {F Y : List Nat} {kd wh : Int} {c : Bool} (w0 : World) (hX : ∀ x, x ∈ F ++ Y → x < w0.heap.size) (hr : RunIs b r F (F ++ Y) w0) (hs : fz r) (h1 : 1 ≤ kd) (h2 : kd ≤ 3) (h : 2 ≤ wh) : Calls Tryd.prog 27 (List.toArray [vp b, .agg #[vI kd, vI wh, .bool c]]) w0 (Ret (cS b r Y F w0 (fun _ _ v => v = vI 1))) := by
 refine b7 (ρ := bP b r) [eP b 0, agS (cxV [vI kd, vI wh, .bool c])] hX hr ⟨rfl, ⟨_, rfl, rfl⟩, trivial⟩ Tryd.func27 rfl Tryd.ntmps27 rfl fun ac hS => ?_
 refine wp_seq ?_
 refine rx [e1 0 [(1, agS (cxV [vI kd, vI wh, .bool c]))] (nwS 0)] [0, 3, 4] (Bl [stB (bP b r) [], stB (bP b r) [(47, agS (cxV [vI kd, vI wh, .bool c]))]]) 1 [(0, eP b 0), (3, nwS 0), (4, eI 0)] ⟨⟨cO rfl rfl rfl rfl (fo _ _ _).sized rfl, trivial⟩, trivial⟩ hS rfl fun ac g w hS => ?_
 refine wp_seq ?_
 refine rz hS [e0 0 [(3, nwS 0)] (nwO 0 0), e0 1 [(6, nwO 0 0)] (eI kd), e0 2 [(7, eI kd)] (eqS vt), e0 4 [(9, eqS vt), (3, nwS 0)] (nwO 0 0), e0 5 [(9, eqS vt), (10, nwO 0 0)] (eI kd), e0 6 [(9, eqS vt), (11, eI kd)] (eqS vt)] [0, 3, 4, 5] [(0, eP b 0), (3, nwS 0), (4, eI 0), (5, eqS vt)] ⟨⟨bK (k := 0) rfl rfl rfl rfl (by decide) (by kernel_rfl), trivial⟩, ⟨b6 (k := 0) (j := 0) rfl rfl rfl rfl (by decide) Tryd.underlying3 rfl rfl, trivial⟩, ⟨bS rfl rfl rfl (congrArg some (decide_eq_true (by omega))), trivial⟩, ⟨bK (k := 0) rfl rfl rfl rfl (by decide) (by kernel_rfl), trivial⟩, ⟨b6 (k := 0) (j := 0) rfl rfl rfl rfl (by decide) Tryd.underlying3 rfl rfl, trivial⟩, ⟨bS rfl rfl rfl (congrArg some (decide_eq_true (by omega))), trivial⟩, trivial⟩ fun ac g w hS => ?_
 refine wp_seq ?_
 refine wp_seq ?_
 refine rz hS [e0 1 [(14, eP b 0)] (eqS vf), e0 3 [(16, eqS vf), (3, nwS 0)] (nwO 0 0), e0 4 [(16, eqS vf), (17, nwO 0 0)] (eI kd), e0 5 [(16, eqS vf), (18, eI kd)] (eqS vf), e0 8 [(21, eqS vf), (3, nwS 0)] (nwO 0 0), e0 9 [(21, eqS vf), (22, nwO 0 0)] (eI kd), e0 10 [(21, eqS vf), (23, eI kd)] (eqS vf), e0 15 [(28, eqS vt), (3, nwS 0)] (nwO 0 1), e0 16 [(28, eqS vt), (29, nwO 0 1)] (eI wh), e0 17 [(28, eqS vt), (30, eI wh)] (eqS vf), e0 19 [(32, eqS vf), (3, nwS 0)] (nwO 0 1), e0 20 [(32, eqS vf), (33, nwO 0 1)] (eI wh), e0 21 [(32, eqS vf), (34, eI wh)] (eqS vt)] [0, 3, 4, 45] [(0, eP b 0), (3, nwS 0), (4, eI 0), (45, eqS vt)] ⟨⟨b_ rfl fun ξ g w hB hH => a_ c58 rfl (cR w hB.wf.lt hB.run (fun x hx => List.mem_append_left _ hx) hs.h0), trivial⟩, ⟨bK (k := 0) rfl rfl rfl rfl (by decide) (by kernel_rfl), trivial⟩, ⟨b6 (k := 0) (j := 0) rfl rfl rfl rfl (by decide) Tryd.underlying3 rfl rfl, trivial⟩, ⟨bS rfl rfl rfl (congrArg some (decide_eq_false (by omega))), trivial⟩, ⟨bK (k := 0) rfl rfl rfl rfl (by decide) (by kernel_rfl), trivial⟩, ⟨b6 (k := 0) (j := 0) rfl rfl rfl rfl (by decide) Tryd.underlying3 rfl rfl, trivial⟩, ⟨bS rfl rfl rfl (congrArg some (decide_eq_false (by omega))), trivial⟩, ⟨bK (k := 0) rfl rfl rfl rfl (by decide) (by kernel_rfl), trivial⟩, ⟨b6 (k := 0) (j := 1) rfl rfl rfl rfl (by decide) Tryd.underlying3 rfl rfl, trivial⟩, ⟨bS rfl rfl rfl (congrArg some (decide_eq_false (by omega))), trivial⟩, ⟨bK (k := 0) rfl rfl rfl rfl (by decide) (by kernel_rfl), trivial⟩, ⟨b6 (k := 0) (j := 1) rfl rfl rfl rfl (by decide) Tryd.underlying3 rfl rfl, trivial⟩, ⟨bS rfl rfl rfl (congrArg some (decide_eq_true (by omega))), trivial⟩, trivial⟩ fun ac g w hS => ?_
 refine wp_cond_true (hS.f.frm.eval rfl) ?_
 refine wp_seq ?_
 refine rz hS [] [0, 3, 4] [(0, eP b 0), (3, nwS 0), (4, eI 1)] trivial fun ac g w hS => ?_
 refine wp_ret ?_
 refine bH ?_
 exact bv hS.f.frm (bw Tryd.results27 (RV.tmp hS.f.frm rfl)) (hS.post rfl)
set_option maxRecDepth 100000 in
set_option maxHeartbeats 4000000 in
theorem xB {b : Nat} {r : Rn} {F Y : List Nat} {kd wh : Int} {c : Bool} (w0 : World) (hX : ∀ x, x ∈ F ++ Y → x < w0.heap.size) (hr : RunIs b r F (F ++ Y) w0) (hs : fz r) (h1 : 1 ≤ kd) (h2 : kd ≤ 3) (h3 : 0 ≤ wh) (h4 : wh < 2) (h : 60 ≤ r.acts) : Calls Tryd.prog 27 (List.toArray [vp b, .agg #[vI kd, vI wh, .bool c]]) w0 (Ret (cS b r Y F w0 (fun _ _ v => v = vI 1))) := by
 refine b7 (ρ := bP b r) [eP b 0, agS (cxV [vI kd, vI wh, .bool c])] hX hr ⟨rfl, ⟨_, rfl, rfl⟩, trivial⟩ Tryd.func27 rfl Tryd.ntmps27 rfl fun ac hS => ?_
 refine wp_seq ?_
 refine rx [e1 0 [(1, agS (cxV [vI kd, vI wh, .bool c]))] (nwS 0)] [0, 3, 4] (Bl [stB (bP b r) [], stB (bP b r) [(47, agS (cxV [vI kd, vI wh, .bool c]))]]) 1 [(0, eP b 0), (3, nwS 0), (4, eI 0)] ⟨⟨cO rfl rfl rfl rfl (fo _ _ _).sized rfl, trivial⟩, trivial⟩ hS rfl fun ac g w hS => ?_
 refine wp_seq ?_
 refine rz hS [e0 0 [(3, nwS 0)] (nwO 0 0), e0 1 [(6, nwO 0 0)] (eI kd), e0 2 [(7, eI kd)] (eqS vt), e0 4 [(9, eqS vt), (3, nwS 0)] (nwO 0 0), e0 5 [(9, eqS vt), (10, nwO 0 0)] (eI kd), e0 6 [(9, eqS vt), (11, eI kd)] (eqS vt)] [0, 3, 4, 5] [(0, eP b 0), (3, nwS 0), (4, eI 0), (5, eqS vt)] ⟨⟨bK (k := 0) rfl rfl rfl rfl (by decide) (by kernel_rfl), trivial⟩, ⟨b6 (k := 0) (j := 0) rfl rfl rfl rfl (by decide) Tryd.underlying3 rfl rfl, trivial⟩, ⟨bS rfl rfl rfl (congrArg some (decide_eq_true (by omega))), trivial⟩, ⟨bK (k := 0) rfl rfl rfl rfl (by decide) (by kernel_rfl), trivial⟩, ⟨b6 (k := 0) (j := 0) rfl rfl rfl rfl (by decide) Tryd.underlying3 rfl rfl, trivial⟩, ⟨bS rfl rfl rfl (congrArg some (decide_eq_true (by omega))), trivial⟩, trivial⟩ fun ac g w hS => ?_
 refine wp_seq ?_
 refine wp_seq ?_
 refine rz hS [e0 1 [(14, eP b 0)] (eqS vf), e0 3 [(16, eqS vf), (3, nwS 0)] (nwO 0 0), e0 4 [(16, eqS vf), (17, nwO 0 0)] (eI kd), e0 5 [(16, eqS vf), (18, eI kd)] (eqS vf), e0 8 [(21, eqS vf), (3, nwS 0)] (nwO 0 0), e0 9 [(21, eqS vf), (22, nwO 0 0)] (eI kd), e0 10 [(21, eqS vf), (23, eI kd)] (eqS vf), e0 15 [(28, eqS vt), (3, nwS 0)] (nwO 0 1), e0 16 [(28, eqS vt), (29, nwO 0 1)] (eI wh), e0 17 [(28, eqS vt), (30, eI wh)] (eqS vf), e0 19 [(32, eqS vf), (3, nwS 0)] (nwO 0 1), e0 20 [(32, eqS vf), (33, nwO 0 1)] (eI wh), e0 21 [(32, eqS vf), (34, eI wh)] (eqS vf), e0 29 [(39, eqS vf), (42, eP b 0)] (eI (r.acts : Nat)), e0 30 [(39, eqS vf), (43, eI (r.acts : Nat))] (eqS vt)] [0, 3, 4, 45] [(0, eP b 0), (3, nwS 0), (4, eI 0), (45, eqS vt)] ⟨⟨b_ rfl fun ξ g w hB hH => a_ c58 rfl (cR w hB.wf.lt hB.run (fun x hx => List.mem_append_left _ hx) hs.h0), trivial⟩, ⟨bK (k := 0) rfl rfl rfl rfl (by decide) (by kernel_rfl), trivial⟩, ⟨b6 (k := 0) (j := 0) rfl rfl rfl rfl (by decide) Tryd.underlying3 rfl rfl, trivial⟩, ⟨bS rfl rfl rfl (congrArg some (decide_eq_false (by omega))), trivial⟩, ⟨bK (k := 0) rfl rfl rfl rfl (by decide) (by kernel_rfl), trivial⟩, ⟨b6 (k := 0) (j := 0) rfl rfl rfl rfl (by decide) Tryd.underlying3 rfl rfl, trivial⟩, ⟨bS rfl rfl rfl (congrArg some (decide_eq_false (by omega))), trivial⟩, ⟨bK (k := 0) rfl rfl rfl rfl (by decide) (by kernel_rfl), trivial⟩, ⟨b6 (k := 0) (j := 1) rfl rfl rfl rfl (by decide) Tryd.underlying3 rfl rfl, trivial⟩, ⟨bS rfl rfl rfl (congrArg some (decide_eq_false (by omega))), trivial⟩, ⟨bK (k := 0) rfl rfl rfl rfl (by decide) (by kernel_rfl), trivial⟩, ⟨b6 (k := 0) (j := 1) rfl rfl rfl rfl (by decide) Tryd.underlying3 rfl rfl, trivial⟩, ⟨bS rfl rfl rfl (congrArg some (decide_eq_false (by omega))), trivial⟩, ⟨dE (d9 _ _) rfl rfl rfl Tryd.underlying3 rfl (fun _ => rfl), trivial⟩, ⟨bS rfl rfl rfl (congrArg some (decide_eq_true (by omega))), trivial⟩, trivial⟩ fun ac g w hS => ?_
 refine wp_cond_true (hS.f.frm.eval rfl) ?_
 refine wp_seq ?_
 refine rz hS [] [0, 3, 4] [(0, eP b 0), (3, nwS 0), (4, eI 1)] trivial fun ac g w hS => ?_
 refine wp_ret ?_
 refine bH ?_
 exact bv hS.f.frm (bw Tryd.results27 (RV.tmp hS.f.frm rfl)) (hS.post rfl)
set_option maxRecDepth 100000 in
set_option maxHeartbeats 4000000 in
theorem xA {b : Nat} {r : Rn} {F Y : List Nat} {kd wh : Int} {c : Bool} (w0 : World) (hX : ∀ x, x ∈ F ++ Y → x < w0.heap.size) (hr : RunIs b r F (F ++ Y) w0) (hs : fz r) (h1 : 3 < kd) (h2 : kd ≤ 5) (h : 60 ≤ r.acts) : Calls Tryd.prog 27 (List.toArray [vp b, .agg #[vI kd, vI wh, .bool c]]) w0 (Ret (cS b r Y F w0 (fun _ _ v => v = vI 1))) := by
 refine b7 (ρ := bP b r) [eP b 0, agS (cxV [vI kd, vI wh, .bool c])] hX hr ⟨rfl, ⟨_, rfl, rfl⟩, trivial⟩ Tryd.func27 rfl Tryd.ntmps27 rfl fun ac hS => ?_
 refine wp_seq ?_
 refine rx [e1 0 [(1, agS (cxV [vI kd, vI wh, .bool c]))] (nwS 0)] [0, 3, 4] (Bl [stB (bP b r) [], stB (bP b r) [(47, agS (cxV [vI kd, vI wh, .bool c]))]]) 1 [(0, eP b 0), (3, nwS 0), (4, eI 0)] ⟨⟨cO rfl rfl rfl rfl (fo _ _ _).sized rfl, trivial⟩, trivial⟩ hS rfl fun ac g w hS => ?_
 refine wp_seq ?_
 refine rz hS [e0 0 [(3, nwS 0)] (nwO 0 0), e0 1 [(6, nwO 0 0)] (eI kd), e0 2 [(7, eI kd)] (eqS vt), e0 4 [(9, eqS vt), (3, nwS 0)] (nwO 0 0), e0 5 [(9, eqS vt), (10, nwO 0 0)] (eI kd), e0 6 [(9, eqS vt), (11, eI kd)] (eqS vf)] [0, 3, 4, 5] [(0, eP b 0), (3, nwS 0), (4, eI 0), (5, eqS vf)] ⟨⟨bK (k := 0) rfl rfl rfl rfl (by decide) (by kernel_rfl), trivial⟩, ⟨b6 (k := 0) (j := 0) rfl rfl rfl rfl (by decide) Tryd.underlying3 rfl rfl, trivial⟩, ⟨bS rfl rfl rfl (congrArg some (decide_eq_true (by omega))), trivial⟩, ⟨bK (k := 0) rfl rfl rfl rfl (by decide) (by kernel_rfl), trivial⟩, ⟨b6 (k := 0) (j := 0) rfl rfl rfl rfl (by decide) Tryd.underlying3 rfl rfl, trivial⟩, ⟨bS rfl rfl rfl (congrArg some (decide_eq_false (by omega))), trivial⟩, trivial⟩ fun ac g w hS => ?_
 refine wp_seq ?_
 refine wp_seq ?_
 refine rz hS [e0 1 [(14, eP b 0)] (eqS vf), e0 3 [(16, eqS vf), (3, nwS 0)] (nwO 0 0), e0 4 [(16, eqS vf), (17, nwO 0 0)] (eI kd), e0 5 [(16, eqS vf), (18, eI kd)] (eqS vf), e0 8 [(21, eqS vf), (3, nwS 0)] (nwO 0 0), e0 9 [(21, eqS vf), (22, nwO 0 0)] (eI kd), e0 10 [(21, eqS vf), (23, eI kd)] (eqS vf), e0 29 [(39, eqS vf), (42, eP b 0)] (eI (r.acts : Nat)), e0 30 [(39, eqS vf), (43, eI (r.acts : Nat))] (eqS vt)] [0, 3, 4, 45] [(0, eP b 0), (3, nwS 0), (4, eI 0), (45, eqS vt)] ⟨⟨b_ rfl fun ξ g w hB hH => a_ c58 rfl (cR w hB.wf.lt hB.run (fun x hx => List.mem_append_left _ hx) hs.h0), trivial⟩, ⟨bK (k := 0) rfl rfl rfl rfl (by decide) (by kernel_rfl), trivial⟩, ⟨b6 (k := 0) (j := 0) rfl rfl rfl rfl (by decide) Tryd.underlying3 rfl rfl, trivial⟩, ⟨bS rfl rfl rfl (congrArg some (decide_eq_false (by omega))), trivial⟩, ⟨bK (k := 0) rfl rfl rfl rfl (by decide) (by kernel_rfl), trivial⟩, ⟨b6 (k := 0) (j := 0) rfl rfl rfl rfl (by decide) Tryd.underlying3 rfl rfl, trivial⟩, ⟨bS rfl rfl rfl (congrArg some (decide_eq_false (by omega))), trivial⟩, ⟨dE (d9 _ _) rfl rfl rfl Tryd.underlying3 rfl (fun _ => rfl), trivial⟩, ⟨bS rfl rfl rfl (congrArg some (decide_eq_true (by omega))), trivial⟩, trivial⟩ fun ac g w hS => ?_
 refine wp_cond_true (hS.f.frm.eval rfl) ?_
 refine wp_seq ?_
 refine rz hS [] [0, 3, 4] [(0, eP b 0), (3, nwS 0), (4, eI 1)] trivial fun ac g w hS => ?_
 refine wp_ret ?_
 refine bH ?_
 exact bv hS.f.frm (bw Tryd.results27 (RV.tmp hS.f.frm rfl)) (hS.post rfl)
set_option maxRecDepth 100000 in
set_option maxHeartbeats 4000000 in
theorem xK {b : Nat} {r : Rn} {F Y : List Nat} {j : Nat} {c : Bool} (w0 : World) (hX : ∀ x, x ∈ F ++ Y → x < w0.heap.size) (hr : RunIs b r F (F ++ Y) w0) (hs : fz r) (hj : j < 2) (h : r.acts < 60) (ha : r.acts + 1 ≤ 700000) : Calls Tryd.prog 27 (List.toArray [vp b, .agg #[vI 1, vI j, .bool c]]) w0 (Ret (cS b (r.count.send j) Y F w0 (fun _ _ v => v = vI 0))) := by
 refine b7 (ρ := bP b r) [eP b 0, agS (cxV [vI 1, vI j, .bool c])] hX hr ⟨rfl, ⟨_, rfl, rfl⟩, trivial⟩ Tryd.func27 rfl Tryd.ntmps27 rfl fun ac hS => ?_
 refine wp_seq ?_
 refine rx [e1 0 [(1, agS (cxV [vI 1, vI j, .bool c]))] (nwS 0)] [0, 3, 4] (Bl [stB (bP b r) [], stB (bP b r) [(47, agS (cxV [vI 1, vI j, .bool c]))]]) 1 [(0, eP b 0), (3, nwS 0), (4, eI 0)] ⟨⟨cO rfl rfl rfl rfl (fo _ _ _).sized rfl, trivial⟩, trivial⟩ hS rfl fun ac g w hS => ?_
 refine wp_seq ?_
 refine rz hS [e0 0 [(3, nwS 0)] (nwO 0 0), e0 1 [(6, nwO 0 0)] (eI 1), e0 4 [(9, eqS vt), (3, nwS 0)] (nwO 0 0), e0 5 [(9, eqS vt), (10, nwO 0 0)] (eI 1)] [0, 3, 4, 5] [(0, eP b 0), (3, nwS 0), (4, eI 0), (5, eqS vt)] ⟨⟨bK (k := 0) rfl rfl rfl rfl (by decide) (by kernel_rfl), trivial⟩, ⟨b6 (k := 0) (j := 0) rfl rfl rfl rfl (by decide) Tryd.underlying3 rfl rfl, trivial⟩, ⟨bK (k := 0) rfl rfl rfl rfl (by decide) (by kernel_rfl), trivial⟩, ⟨b6 (k := 0) (j := 0) rfl rfl rfl rfl (by decide) Tryd.underlying3 rfl rfl, trivial⟩, trivial⟩ fun ac g w hS => ?_
 refine wp_seq ?_
 refine wp_seq ?_
 refine rz hS [e0 1 [(14, eP b 0)] (eqS vf), e0 3 [(16, eqS vf), (3, nwS 0)] (nwO 0 0), e0 4 [(16, eqS vf), (17, nwO 0 0)] (eI 1), e0 8 [(21, eqS vf), (3, nwS 0)] (nwO 0 0), e0 9 [(21, eqS vf), (22, nwO 0 0)] (eI 1), e0 15 [(28, eqS vt), (3, nwS 0)] (nwO 0 1), e0 16 [(28, eqS vt), (29, nwO 0 1)] (eI j), e0 17 [(28, eqS vt), (30, eI j)] (eqS vf), e0 19 [(32, eqS vf), (3, nwS 0)] (nwO 0 1), e0 20 [(32, eqS vf), (33, nwO 0 1)] (eI j), e0 21 [(32, eqS vf), (34, eI j)] (eqS vf), e0 29 [(39, eqS vf), (42, eP b 0)] (eI (r.acts : Nat)), e0 30 [(39, eqS vf), (43, eI (r.acts : Nat))] (eqS vf)] [0, 3, 4, 45] [(0, eP b 0), (3, nwS 0), (4, eI 0), (45, eqS vf)] ⟨⟨b_ rfl fun ξ g w hB hH => a_ c58 rfl (cR w hB.wf.lt hB.run (fun x hx => List.mem_append_left _ hx) hs.h0), trivial⟩, ⟨bK (k := 0) rfl rfl rfl rfl (by decide) (by kernel_rfl), trivial⟩, ⟨b6 (k := 0) (j := 0) rfl rfl rfl rfl (by decide) Tryd.underlying3 rfl rfl, trivial⟩, ⟨bK (k := 0) rfl rfl rfl rfl (by decide) (by kernel_rfl), trivial⟩, ⟨b6 (k := 0) (j := 0) rfl rfl rfl rfl (by decide) Tryd.underlying3 rfl rfl, trivial⟩, ⟨bK (k := 0) rfl rfl rfl rfl (by decide) (by kernel_rfl), trivial⟩, ⟨b6 (k := 0) (j := 1) rfl rfl rfl rfl (by decide) Tryd.underlying3 rfl rfl, trivial⟩, ⟨bS rfl rfl rfl (congrArg some (decide_eq_false (by omega))), trivial⟩, ⟨bK (k := 0) rfl rfl rfl rfl (by decide) (by kernel_rfl), trivial⟩, ⟨b6 (k := 0) (j := 1) rfl rfl rfl rfl (by decide) Tryd.underlying3 rfl rfl, trivial⟩, ⟨bS rfl rfl rfl (congrArg some (decide_eq_false (by omega))), trivial⟩, ⟨dE (d9 _ _) rfl rfl rfl Tryd.underlying3 rfl (fun _ => rfl), trivial⟩, ⟨bS rfl rfl rfl (congrArg some (decide_eq_false (by omega))), trivial⟩, trivial⟩ fun ac g w hS => ?_
 refine wp_cond_false (hS.f.frm.eval rfl) ?_
 refine wp_skip ?_
 refine wp_seq ?_
 refine rx [e0 3 [(48, eP b 0)] (eI (r.acts : Nat)), e0 4 [(49, eI (r.acts : Nat))] (eI (((r.acts : Nat) : Int) + 1)), e1 7 [(52, eP b 0), (50, eI (((r.acts : Nat) : Int) + 1))] bM] [0, 3, 4] (Bl [stB (bP b r) [(47, agS (cxV [vI 1, vI j, .bool c]))], stB (bP b r.count) [(47, agS (cxV [vI 1, vI j, .bool c]))]]) 1 [(0, eP b 0), (3, nwS 0), (4, eI 0)] ⟨⟨dE (d9 _ _) rfl rfl rfl Tryd.underlying3 rfl (fun _ => rfl), trivial⟩, ⟨bL fun ξ g w hB hH => ⟨_, rfl, cy rfl rfl (bO (by have := hs.ha; omega) (by have := hs.ha; omega))⟩, trivial⟩, ⟨fW rfl rfl rfl sz3 rfl rfl rfl (by decide) (fun _ => rfl) rfl rfl rfl, trivial⟩, trivial⟩ hS rfl fun ac g w hS => ?_
 refine wp_seq ?_
 refine wp_seq ?_
 refine rz hS [e0 0 [(3, nwS 0)] (nwO 0 0), e0 1 [(53, nwO 0 0)] (eI 1)] [0, 3, 4, 54] [(0, eP b 0), (3, nwS 0), (4, eI 0), (54, eI 1)] ⟨⟨bK (k := 0) rfl rfl rfl rfl (by decide) (by kernel_rfl), trivial⟩, ⟨b6 (k := 0) (j := 0) rfl rfl rfl rfl (by decide) Tryd.underlying3 rfl rfl, trivial⟩, trivial⟩ fun ac g w hS => ?_
 refine bz ?_
 refine wp_block ?_
 refine wp_seq ?_
 refine rz hS [] [0, 3, 4, 54, 59] [(0, eP b 0), (3, nwS 0), (4, eI 0), (54, eI 1), (59, eqS vt)] trivial fun ac g w hS => ?_
 refine wp_cond_true (hS.f.frm.eval rfl) ?_
 refine rx [e0 1 [(3, nwS 0)] (nwO 0 1), e0 2 [(62, nwO 0 1)] (eI j), e1 3 [(61, eP b 0), (63, eI j)] bM] [4] (Bl [stB (bP b r.count) [(47, agS (cxV [vI 1, vI j, .bool c]))], stB (bP b (r.count.send j)) [(47, agS (cxV [vI 1, vI j, .bool c]))]]) 1 [(4, eI 0)] ⟨⟨bK (k := 0) rfl rfl rfl rfl (by decide) (by kernel_rfl), trivial⟩, ⟨b6 (k := 0) (j := 1) rfl rfl rfl rfl (by decide) Tryd.underlying3 rfl rfl, trivial⟩, ⟨dr (post := fun _ _ _ => True) rfl rfl (fun _ _ _ h => h) fun ξ g w hw hr hH => a_ c59 rfl (rW (r := r.count) w hw.lt hr hj hs.h0 (Nat.le_trans hs.h1 (by decide)) (Nat.le_trans hs.hn (by decide)) (Nat.le_trans hs.hk (by decide)) (Nat.le_trans hs.hy (by decide)) (Nat.le_trans hs.hb (by decide)) (Nat.le_trans (hs.hx j) (by decide))), trivial⟩, trivial⟩ hS rfl fun ac g w hS => ?_
 refine bR ?_
 refine wp_seq ?_
 refine rz hS [] [4] [(4, eI 0)] trivial fun ac g w hS => ?_
 refine wp_ret ?_
 exact bv hS.f.frm (bw Tryd.results27 (RV.tmp hS.f.frm rfl)) (hS.post rfl)
set_option maxRecDepth 100000 in
set_option maxHeartbeats 4000000 in
theorem xJ {b : Nat} {r : Rn} {F Y : List Nat} {j : Nat} {c : Bool} (w0 : World) (hX : ∀ x, x ∈ F ++ Y → x < w0.heap.size) (hr : RunIs b r F (F ++ Y) w0) (hs : fz r) (hj : j < 2) (h : r.acts < 60) (ha : r.acts + 1 ≤ 700000) : Calls Tryd.prog 27 (List.toArray [vp b, .agg #[vI 2, vI j, .bool c]]) w0 (Ret (cS b (r.count.turn j c) Y F w0 (fun _ _ v => v = vI 0))) := by
 refine b7 (ρ := bP b r) [eP b 0, agS (cxV [vI 2, vI j, .bool c])] hX hr ⟨rfl, ⟨_, rfl, rfl⟩, trivial⟩ Tryd.func27 rfl Tryd.ntmps27 rfl fun ac hS => ?_
 refine wp_seq ?_
 refine rx [e1 0 [(1, agS (cxV [vI 2, vI j, .bool c]))] (nwS 0)] [0, 3, 4] (Bl [stB (bP b r) [], stB (bP b r) [(47, agS (cxV [vI 2, vI j, .bool c]))]]) 1 [(0, eP b 0), (3, nwS 0), (4, eI 0)] ⟨⟨cO rfl rfl rfl rfl (fo _ _ _).sized rfl, trivial⟩, trivial⟩ hS rfl fun ac g w hS => ?_
 refine wp_seq ?_
 refine rz hS [e0 0 [(3, nwS 0)] (nwO 0 0), e0 1 [(6, nwO 0 0)] (eI 2), e0 4 [(9, eqS vt), (3, nwS 0)] (nwO 0 0), e0 5 [(9, eqS vt), (10, nwO 0 0)] (eI 2)] [0, 3, 4, 5] [(0, eP b 0), (3, nwS 0), (4, eI 0), (5, eqS vt)] ⟨⟨bK (k := 0) rfl rfl rfl rfl (by decide) (by kernel_rfl), trivial⟩, ⟨b6 (k := 0) (j := 0) rfl rfl rfl rfl (by decide) Tryd.underlying3 rfl rfl, trivial⟩, ⟨bK (k := 0) rfl rfl rfl rfl (by decide) (by kernel_rfl), trivial⟩, ⟨b6 (k := 0) (j := 0) rfl rfl rfl rfl (by decide) Tryd.underlying3 rfl rfl, trivial⟩, trivial⟩ fun ac g w hS => ?_
 refine wp_seq ?_
 refine wp_seq ?_
 refine rz hS [e0 1 [(14, eP b 0)] (eqS vf), e0 3 [(16, eqS vf), (3, nwS 0)] (nwO 0 0), e0 4 [(16, eqS vf), (17, nwO 0 0)] (eI 2), e0 8 [(21, eqS vf), (3, nwS 0)] (nwO 0 0), e0 9 [(21, eqS vf), (22, nwO 0 0)] (eI 2), e0 15 [(28, eqS vt), (3, nwS 0)] (nwO 0 1), e0 16 [(28, eqS vt), (29, nwO 0 1)] (eI j), e0 17 [(28, eqS vt), (30, eI j)] (eqS vf), e0 19 [(32, eqS vf), (3, nwS 0)] (nwO 0 1), e0 20 [(32, eqS vf), (33, nwO 0 1)] (eI j), e0 21 [(32, eqS vf), (34, eI j)] (eqS vf), e0 29 [(39, eqS vf), (42, eP b 0)] (eI (r.acts : Nat)), e0 30 [(39, eqS vf), (43, eI (r.acts : Nat))] (eqS vf)] [0, 3, 4, 45] [(0, eP b 0), (3, nwS 0), (4, eI 0), (45, eqS vf)] ⟨⟨b_ rfl fun ξ g w hB hH => a_ c58 rfl (cR w hB.wf.lt hB.run (fun x hx => List.mem_append_left _ hx) hs.h0), trivial⟩, ⟨bK (k := 0) rfl rfl rfl rfl (by decide) (by kernel_rfl), trivial⟩, ⟨b6 (k := 0) (j := 0) rfl rfl rfl rfl (by decide) Tryd.underlying3 rfl rfl, trivial⟩, ⟨bK (k := 0) rfl rfl rfl rfl (by decide) (by kernel_rfl), trivial⟩, ⟨b6 (k := 0) (j := 0) rfl rfl rfl rfl (by decide) Tryd.underlying3 rfl rfl, trivial⟩, ⟨bK (k := 0) rfl rfl rfl rfl (by decide) (by kernel_rfl), trivial⟩, ⟨b6 (k := 0) (j := 1) rfl rfl rfl rfl (by decide) Tryd.underlying3 rfl rfl, trivial⟩, ⟨bS rfl rfl rfl (congrArg some (decide_eq_false (by omega))), trivial⟩, ⟨bK (k := 0) rfl rfl rfl rfl (by decide) (by kernel_rfl), trivial⟩, ⟨b6 (k := 0) (j := 1) rfl rfl rfl rfl (by decide) Tryd.underlying3 rfl rfl, trivial⟩, ⟨bS rfl rfl rfl (congrArg some (decide_eq_false (by omega))), trivial⟩, ⟨dE (d9 _ _) rfl rfl rfl Tryd.underlying3 rfl (fun _ => rfl), trivial⟩, ⟨bS rfl rfl rfl (congrArg some (decide_eq_false (by omega))), trivial⟩, trivial⟩ fun ac g w hS => ?_
 refine wp_cond_false (hS.f.frm.eval rfl) ?_
 refine wp_skip ?_
 refine wp_seq ?_
 refine rx [e0 3 [(48, eP b 0)] (eI (r.acts : Nat)), e0 4 [(49, eI (r.acts : Nat))] (eI (((r.acts : Nat) : Int) + 1)), e1 7 [(52, eP b 0), (50, eI (((r.acts : Nat) : Int) + 1))] bM] [0, 3, 4] (Bl [stB (bP b r) [(47, agS (cxV [vI 2, vI j, .bool c]))], stB (bP b r.count) [(47, agS (cxV [vI 2, vI j, .bool c]))]]) 1 [(0, eP b 0), (3, nwS 0), (4, eI 0)] ⟨⟨dE (d9 _ _) rfl rfl rfl Tryd.underlying3 rfl (fun _ => rfl), trivial⟩, ⟨bL fun ξ g w hB hH => ⟨_, rfl, cy rfl rfl (bO (by have := hs.ha; omega) (by have := hs.ha; omega))⟩, trivial⟩, ⟨fW rfl rfl rfl sz3 rfl rfl rfl (by decide) (fun _ => rfl) rfl rfl rfl, trivial⟩, trivial⟩ hS rfl fun ac g w hS => ?_
 refine wp_seq ?_
 refine wp_seq ?_
 refine rz hS [e0 0 [(3, nwS 0)] (nwO 0 0), e0 1 [(53, nwO 0 0)] (eI 2)] [0, 3, 4, 54] [(0, eP b 0), (3, nwS 0), (4, eI 0), (54, eI 2)] ⟨⟨bK (k := 0) rfl rfl rfl rfl (by decide) (by kernel_rfl), trivial⟩, ⟨b6 (k := 0) (j := 0) rfl rfl rfl rfl (by decide) Tryd.underlying3 rfl rfl, trivial⟩, trivial⟩ fun ac g w hS => ?_
 refine bz ?_
 refine wp_block ?_
 refine wp_seq ?_
 refine rz hS [] [0, 3, 4, 54, 59] [(0, eP b 0), (3, nwS 0), (4, eI 0), (54, eI 2), (59, eqS vf)] trivial fun ac g w hS => ?_
 refine wp_cond_false (hS.f.frm.eval rfl) ?_
 refine wp_seq ?_
 refine rz hS [] [0, 3, 4, 54, 65] [(0, eP b 0), (3, nwS 0), (4, eI 0), (54, eI 2), (65, eqS vt)] trivial fun ac g w hS => ?_
 refine wp_cond_true (hS.f.frm.eval rfl) ?_
 refine rx [e0 1 [(3, nwS 0)] (nwO 0 1), e0 2 [(68, nwO 0 1)] (eI j), e0 3 [(3, nwS 0)] (nwO 0 2), e0 4 [(70, nwO 0 2)] (eB c), e1 5 [(67, eP b 0), (69, eI j), (71, eB c)] bM] [4] (Bl [stB (bP b r.count) [(47, agS (cxV [vI 2, vI j, .bool c]))], stB (bP b (r.count.turn j c)) [(47, agS (cxV [vI 2, vI j, .bool c]))]]) 1 [(4, eI 0)] ⟨⟨bK (k := 0) rfl rfl rfl rfl (by decide) (by kernel_rfl), trivial⟩, ⟨b6 (k := 0) (j := 1) rfl rfl rfl rfl (by decide) Tryd.underlying3 rfl rfl, trivial⟩, ⟨bK (k := 0) rfl rfl rfl rfl (by decide) (by kernel_rfl), trivial⟩, ⟨b6 (k := 0) (j := 2) rfl rfl rfl rfl (by decide) u4 rfl rfl, trivial⟩, ⟨dr (post := fun _ _ _ => True) rfl rfl (fun _ _ _ h => h) fun ξ g w hw hr hH => a_ c60 rfl (rO (r := r.count) w hw.lt hr hj (Nat.le_trans hs.h1 (by decide)) (Nat.le_trans hs.hn (by decide)) (Nat.le_trans hs.hk (by decide))), trivial⟩, trivial⟩ hS rfl fun ac g w hS => ?_
 refine bR ?_
 refine wp_seq ?_
 refine rz hS [] [4] [(4, eI 0)] trivial fun ac g w hS => ?_
 refine wp_ret ?_
 exact bv hS.f.frm (bw Tryd.results27 (RV.tmp hS.f.frm rfl)) (hS.post rfl)
set_option maxRecDepth 100000 in
set_option maxHeartbeats 4000000 in
theorem xI {b : Nat} {r : Rn} {F Y : List Nat} {j : Nat} {c : Bool} (w0 : World) (hX : ∀ x, x ∈ F ++ Y → x < w0.heap.size) (hr : RunIs b r F (F ++ Y) w0) (hs : fz r) (hj : j < 2) (h : r.acts < 60) (ha : r.acts + 1 ≤ 700000) : Calls Tryd.prog 27 (List.toArray [vp b, .agg #[vI 3, vI j, .bool c]]) w0 (Ret (cS b (r.count.reveal j) Y F w0 (fun _ _ v => v = vI 0))) := by
 refine b7 (ρ := bP b r) [eP b 0, agS (cxV [vI 3, vI j, .bool c])] hX hr ⟨rfl, ⟨_, rfl, rfl⟩, trivial⟩ Tryd.func27 rfl Tryd.ntmps27 rfl fun ac hS => ?_
 refine wp_seq ?_
 refine rx [e1 0 [(1, agS (cxV [vI 3, vI j, .bool c]))] (nwS 0)] [0, 3, 4] (Bl [stB (bP b r) [], stB (bP b r) [(47, agS (cxV [vI 3, vI j, .bool c]))]]) 1 [(0, eP b 0), (3, nwS 0), (4, eI 0)] ⟨⟨cO rfl rfl rfl rfl (fo _ _ _).sized rfl, trivial⟩, trivial⟩ hS rfl fun ac g w hS => ?_
 refine wp_seq ?_
 refine rz hS [e0 0 [(3, nwS 0)] (nwO 0 0), e0 1 [(6, nwO 0 0)] (eI 3), e0 4 [(9, eqS vt), (3, nwS 0)] (nwO 0 0), e0 5 [(9, eqS vt), (10, nwO 0 0)] (eI 3)] [0, 3, 4, 5] [(0, eP b 0), (3, nwS 0), (4, eI 0), (5, eqS vt)] ⟨⟨bK (k := 0) rfl rfl rfl rfl (by decide) (by kernel_rfl), trivial⟩, ⟨b6 (k := 0) (j := 0) rfl rfl rfl rfl (by decide) Tryd.underlying3 rfl rfl, trivial⟩, ⟨bK (k := 0) rfl rfl rfl rfl (by decide) (by kernel_rfl), trivial⟩, ⟨b6 (k := 0) (j := 0) rfl rfl rfl rfl (by decide) Tryd.underlying3 rfl rfl, trivial⟩, trivial⟩ fun ac g w hS => ?_
 refine wp_seq ?_
 refine wp_seq ?_
 refine rz hS [e0 1 [(14, eP b 0)] (eqS vf), e0 3 [(16, eqS vf), (3, nwS 0)] (nwO 0 0), e0 4 [(16, eqS vf), (17, nwO 0 0)] (eI 3), e0 8 [(21, eqS vf), (3, nwS 0)] (nwO 0 0), e0 9 [(21, eqS vf), (22, nwO 0 0)] (eI 3), e0 15 [(28, eqS vt), (3, nwS 0)] (nwO 0 1), e0 16 [(28, eqS vt), (29, nwO 0 1)] (eI j), e0 17 [(28, eqS vt), (30, eI j)] (eqS vf), e0 19 [(32, eqS vf), (3, nwS 0)] (nwO 0 1), e0 20 [(32, eqS vf), (33, nwO 0 1)] (eI j), e0 21 [(32, eqS vf), (34, eI j)] (eqS vf), e0 29 [(39, eqS vf), (42, eP b 0)] (eI (r.acts : Nat)), e0 30 [(39, eqS vf), (43, eI (r.acts : Nat))] (eqS vf)] [0, 3, 4, 45] [(0, eP b 0), (3, nwS 0), (4, eI 0), (45, eqS vf)] ⟨⟨b_ rfl fun ξ g w hB hH => a_ c58 rfl (cR w hB.wf.lt hB.run (fun x hx => List.mem_append_left _ hx) hs.h0), trivial⟩, ⟨bK (k := 0) rfl rfl rfl rfl (by decide) (by kernel_rfl), trivial⟩, ⟨b6 (k := 0) (j := 0) rfl rfl rfl rfl (by decide) Tryd.underlying3 rfl rfl, trivial⟩, ⟨bK (k := 0) rfl rfl rfl rfl (by decide) (by kernel_rfl), trivial⟩, ⟨b6 (k := 0) (j := 0) rfl rfl rfl rfl (by decide) Tryd.underlying3 rfl rfl, trivial⟩, ⟨bK (k := 0) rfl rfl rfl rfl (by decide) (by kernel_rfl), trivial⟩, ⟨b6 (k := 0) (j := 1) rfl rfl rfl rfl (by decide) Tryd.underlying3 rfl rfl, trivial⟩, ⟨bS rfl rfl rfl (congrArg some (decide_eq_false (by omega))), trivial⟩, ⟨bK (k := 0) rfl rfl rfl rfl (by decide) (by kernel_rfl), trivial⟩, ⟨b6 (k := 0) (j := 1) rfl rfl rfl rfl (by decide) Tryd.underlying3 rfl rfl, trivial⟩, ⟨bS rfl rfl rfl (congrArg some (decide_eq_false (by omega))), trivial⟩, ⟨dE (d9 _ _) rfl rfl rfl Tryd.underlying3 rfl (fun _ => rfl), trivial⟩, ⟨bS rfl rfl rfl (congrArg some (decide_eq_false (by omega))), trivial⟩, trivial⟩ fun ac g w hS => ?_
 refine wp_cond_false (hS.f.frm.eval rfl) ?_
 refine wp_skip ?_
 refine wp_seq ?_
 refine rx [e0 3 [(48, eP b 0)] (eI (r.acts : Nat)), e0 4 [(49, eI (r.acts : Nat))] (eI (((r.acts : Nat) : Int) + 1)), e1 7 [(52, eP b 0), (50, eI (((r.acts : Nat) : Int) + 1))] bM] [0, 3, 4] (Bl [stB (bP b r) [(47, agS (cxV [vI 3, vI j, .bool c]))], stB (bP b r.count) [(47, agS (cxV [vI 3, vI j, .bool c]))]]) 1 [(0, eP b 0), (3, nwS 0), (4, eI 0)] ⟨⟨dE (d9 _ _) rfl rfl rfl Tryd.underlying3 rfl (fun _ => rfl), trivial⟩, ⟨bL fun ξ g w hB hH => ⟨_, rfl, cy rfl rfl (bO (by have := hs.ha; omega) (by have := hs.ha; omega))⟩, trivial⟩, ⟨fW rfl rfl rfl sz3 rfl rfl rfl (by decide) (fun _ => rfl) rfl rfl rfl, trivial⟩, trivial⟩ hS rfl fun ac g w hS => ?_
 refine wp_seq ?_
 refine wp_seq ?_
 refine rz hS [e0 0 [(3, nwS 0)] (nwO 0 0), e0 1 [(53, nwO 0 0)] (eI 3)] [0, 3, 4, 54] [(0, eP b 0), (3, nwS 0), (4, eI 0), (54, eI 3)] ⟨⟨bK (k := 0) rfl rfl rfl rfl (by decide) (by kernel_rfl), trivial⟩, ⟨b6 (k := 0) (j := 0) rfl rfl rfl rfl (by decide) Tryd.underlying3 rfl rfl, trivial⟩, trivial⟩ fun ac g w hS => ?_
 refine bz ?_
 refine wp_block ?_
 refine wp_seq ?_
 refine rz hS [] [0, 3, 4, 54, 59] [(0, eP b 0), (3, nwS 0), (4, eI 0), (54, eI 3), (59, eqS vf)] trivial fun ac g w hS => ?_
 refine wp_cond_false (hS.f.frm.eval rfl) ?_
 refine wp_seq ?_
 refine rz hS [] [0, 3, 4, 54, 65] [(0, eP b 0), (3, nwS 0), (4, eI 0), (54, eI 3), (65, eqS vf)] trivial fun ac g w hS => ?_
 refine wp_cond_false (hS.f.frm.eval rfl) ?_
 refine wp_seq ?_
 refine rz hS [] [0, 3, 4, 54, 73] [(0, eP b 0), (3, nwS 0), (4, eI 0), (54, eI 3), (73, eqS vt)] trivial fun ac g w hS => ?_
 refine wp_cond_true (hS.f.frm.eval rfl) ?_
 refine rx [e0 1 [(3, nwS 0)] (nwO 0 1), e0 2 [(76, nwO 0 1)] (eI j), e1 3 [(75, eP b 0), (77, eI j)] bM] [4] (Bl [stB (bP b r.count) [(47, agS (cxV [vI 3, vI j, .bool c]))], stB (bP b (r.count.reveal j)) [(47, agS (cxV [vI 3, vI j, .bool c]))]]) 1 [(4, eI 0)] ⟨⟨bK (k := 0) rfl rfl rfl rfl (by decide) (by kernel_rfl), trivial⟩, ⟨b6 (k := 0) (j := 1) rfl rfl rfl rfl (by decide) Tryd.underlying3 rfl rfl, trivial⟩, ⟨dr (post := fun _ _ _ => True) rfl rfl (fun _ _ _ h => h) fun ξ g w hw hr hH => a_ c61 rfl (oP (r := r.count) w hw.lt hr hj ⟨hs.h0, hs.h1, hs.hn, hs.hk, hs.hy, hs.hb, hs.hx, hs.hm, ha⟩), trivial⟩, trivial⟩ hS rfl fun ac g w hS => ?_
 refine bR ?_
 refine wp_seq ?_
 refine rz hS [] [4] [(4, eI 0)] trivial fun ac g w hS => ?_
 refine wp_ret ?_
 exact bv hS.f.frm (bw Tryd.results27 (RV.tmp hS.f.frm rfl)) (hS.post rfl)
set_option maxRecDepth 100000 in
set_option maxHeartbeats 4000000 in
theorem xH {b : Nat} {r : Rn} {F Y : List Nat} {wh : Int} {c : Bool} (w0 : World) (hX : ∀ x, x ∈ F ++ Y → x < w0.heap.size) (hr : RunIs b r F (F ++ Y) w0) (hs : fz r) (h : r.acts < 60) : Calls Tryd.prog 27 (List.toArray [vp b, .agg #[vI 4, vI wh, .bool c]]) w0 (Ret (cS b ({ r.count with dh := true }) Y F w0 (fun _ _ v => v = vI 0))) := by
 refine b7 (ρ := bP b r) [eP b 0, agS (cxV [vI 4, vI wh, .bool c])] hX hr ⟨rfl, ⟨_, rfl, rfl⟩, trivial⟩ Tryd.func27 rfl Tryd.ntmps27 rfl fun ac hS => ?_
 refine wp_seq ?_
 refine rx [e1 0 [(1, agS (cxV [vI 4, vI wh, .bool c]))] (nwS 0)] [0, 3, 4] (Bl [stB (bP b r) [], stB (bP b r) [(47, agS (cxV [vI 4, vI wh, .bool c]))]]) 1 [(0, eP b 0), (3, nwS 0), (4, eI 0)] ⟨⟨cO rfl rfl rfl rfl (fo _ _ _).sized rfl, trivial⟩, trivial⟩ hS rfl fun ac g w hS => ?_
 refine wp_seq ?_
 refine rz hS [e0 0 [(3, nwS 0)] (nwO 0 0), e0 1 [(6, nwO 0 0)] (eI 4), e0 4 [(9, eqS vt), (3, nwS 0)] (nwO 0 0), e0 5 [(9, eqS vt), (10, nwO 0 0)] (eI 4)] [0, 3, 4, 5] [(0, eP b 0), (3, nwS 0), (4, eI 0), (5, eqS vf)] ⟨⟨bK (k := 0) rfl rfl rfl rfl (by decide) (by kernel_rfl), trivial⟩, ⟨b6 (k := 0) (j := 0) rfl rfl rfl rfl (by decide) Tryd.underlying3 rfl rfl, trivial⟩, ⟨bK (k := 0) rfl rfl rfl rfl (by decide) (by kernel_rfl), trivial⟩, ⟨b6 (k := 0) (j := 0) rfl rfl rfl rfl (by decide) Tryd.underlying3 rfl rfl, trivial⟩, trivial⟩ fun ac g w hS => ?_
 refine wp_seq ?_
 refine wp_seq ?_
 refine rz hS [e0 1 [(14, eP b 0)] (eqS vf), e0 3 [(16, eqS vf), (3, nwS 0)] (nwO 0 0), e0 4 [(16, eqS vf), (17, nwO 0 0)] (eI 4), e0 8 [(21, eqS vf), (3, nwS 0)] (nwO 0 0), e0 9 [(21, eqS vf), (22, nwO 0 0)] (eI 4), e0 29 [(39, eqS vf), (42, eP b 0)] (eI (r.acts : Nat)), e0 30 [(39, eqS vf), (43, eI (r.acts : Nat))] (eqS vf)] [0, 3, 4, 45] [(0, eP b 0), (3, nwS 0), (4, eI 0), (45, eqS vf)] ⟨⟨b_ rfl fun ξ g w hB hH => a_ c58 rfl (cR w hB.wf.lt hB.run (fun x hx => List.mem_append_left _ hx) hs.h0), trivial⟩, ⟨bK (k := 0) rfl rfl rfl rfl (by decide) (by kernel_rfl), trivial⟩, ⟨b6 (k := 0) (j := 0) rfl rfl rfl rfl (by decide) Tryd.underlying3 rfl rfl, trivial⟩, ⟨bK (k := 0) rfl rfl rfl rfl (by decide) (by kernel_rfl), trivial⟩, ⟨b6 (k := 0) (j := 0) rfl rfl rfl rfl (by decide) Tryd.underlying3 rfl rfl, trivial⟩, ⟨dE (d9 _ _) rfl rfl rfl Tryd.underlying3 rfl (fun _ => rfl), trivial⟩, ⟨bS rfl rfl rfl (congrArg some (decide_eq_false (by omega))), trivial⟩, trivial⟩ fun ac g w hS => ?_
 refine wp_cond_false (hS.f.frm.eval rfl) ?_
 refine wp_skip ?_
 refine wp_seq ?_
 refine rx [e0 3 [(48, eP b 0)] (eI (r.acts : Nat)), e0 4 [(49, eI (r.acts : Nat))] (eI (((r.acts : Nat) : Int) + 1)), e1 7 [(52, eP b 0), (50, eI (((r.acts : Nat) : Int) + 1))] bM] [0, 3, 4] (Bl [stB (bP b r) [(47, agS (cxV [vI 4, vI wh, .bool c]))], stB (bP b r.count) [(47, agS (cxV [vI 4, vI wh, .bool c]))]]) 1 [(0, eP b 0), (3, nwS 0), (4, eI 0)] ⟨⟨dE (d9 _ _) rfl rfl rfl Tryd.underlying3 rfl (fun _ => rfl), trivial⟩, ⟨bL fun ξ g w hB hH => ⟨_, rfl, cy rfl rfl (bO (by have := hs.ha; omega) (by have := hs.ha; omega))⟩, trivial⟩, ⟨fW rfl rfl rfl sz3 rfl rfl rfl (by decide) (fun _ => rfl) rfl rfl rfl, trivial⟩, trivial⟩ hS rfl fun ac g w hS => ?_
 refine wp_seq ?_
 refine wp_seq ?_
 refine rz hS [e0 0 [(3, nwS 0)] (nwO 0 0), e0 1 [(53, nwO 0 0)] (eI 4)] [0, 3, 4, 54] [(0, eP b 0), (3, nwS 0), (4, eI 0), (54, eI 4)] ⟨⟨bK (k := 0) rfl rfl rfl rfl (by decide) (by kernel_rfl), trivial⟩, ⟨b6 (k := 0) (j := 0) rfl rfl rfl rfl (by decide) Tryd.underlying3 rfl rfl, trivial⟩, trivial⟩ fun ac g w hS => ?_
 refine bz ?_
 refine wp_block ?_
 refine wp_seq ?_
 refine rz hS [] [0, 3, 4, 54, 59] [(0, eP b 0), (3, nwS 0), (4, eI 0), (54, eI 4), (59, eqS vf)] trivial fun ac g w hS => ?_
 refine wp_cond_false (hS.f.frm.eval rfl) ?_
 refine wp_seq ?_
 refine rz hS [] [0, 3, 4, 54, 65] [(0, eP b 0), (3, nwS 0), (4, eI 0), (54, eI 4), (65, eqS vf)] trivial fun ac g w hS => ?_
 refine wp_cond_false (hS.f.frm.eval rfl) ?_
 refine wp_seq ?_
 refine rz hS [] [0, 3, 4, 54, 73] [(0, eP b 0), (3, nwS 0), (4, eI 0), (54, eI 4), (73, eqS vf)] trivial fun ac g w hS => ?_
 refine wp_cond_false (hS.f.frm.eval rfl) ?_
 refine wp_seq ?_
 refine rz hS [] [0, 4, 79] [(0, eP b 0), (4, eI 0), (79, eqS vt)] trivial fun ac g w hS => ?_
 refine wp_cond_true (hS.f.frm.eval rfl) ?_
 refine rx [e1 4 [(84, eP b 22)] bM] [4] (Bl [stB (bP b r.count) [(47, agS (cxV [vI 4, vI wh, .bool c]))], stB (bP b { r.count with dh := true }) [(47, agS (cxV [vI 4, vI wh, .bool c]))]]) 1 [(4, eI 0)] ⟨⟨fW rfl rfl rfl sz4 rfl rfl rfl (by decide) (fun _ => rfl) rfl rfl rfl, trivial⟩, trivial⟩ hS rfl fun ac g w hS => ?_
 refine bR ?_
 refine wp_seq ?_
 refine rz hS [] [4] [(4, eI 0)] trivial fun ac g w hS => ?_
 refine wp_ret ?_
 exact bv hS.f.frm (bw Tryd.results27 (RV.tmp hS.f.frm rfl)) (hS.post rfl)
set_option maxRecDepth 100000 in
set_option maxHeartbeats 4000000 in
theorem xG {b : Nat} {r : Rn} {F Y : List Nat} {wh : Int} {c : Bool} (w0 : World) (hX : ∀ x, x ∈ F ++ Y → x < w0.heap.size) (hr : RunIs b r F (F ++ Y) w0) (hs : fz r) (h : r.acts < 60) : Calls Tryd.prog 27 (List.toArray [vp b, .agg #[vI 5, vI wh, .bool c]]) w0 (Ret (cS b ({ r.count with kem := true }) Y F w0 (fun _ _ v => v = vI 0))) := by
 refine b7 (ρ := bP b r) [eP b 0, agS (cxV [vI 5, vI wh, .bool c])] hX hr ⟨rfl, ⟨_, rfl, rfl⟩, trivial⟩ Tryd.func27 rfl Tryd.ntmps27 rfl fun ac hS => ?_
 refine wp_seq ?_
 refine rx [e1 0 [(1, agS (cxV [vI 5, vI wh, .bool c]))] (nwS 0)] [0, 3, 4] (Bl [stB (bP b r) [], stB (bP b r) [(47, agS (cxV [vI 5, vI wh, .bool c]))]]) 1 [(0, eP b 0), (3, nwS 0), (4, eI 0)] ⟨⟨cO rfl rfl rfl rfl (fo _ _ _).sized rfl, trivial⟩, trivial⟩ hS rfl fun ac g w hS => ?_
 refine wp_seq ?_
 refine rz hS [e0 0 [(3, nwS 0)] (nwO 0 0), e0 1 [(6, nwO 0 0)] (eI 5), e0 4 [(9, eqS vt), (3, nwS 0)] (nwO 0 0), e0 5 [(9, eqS vt), (10, nwO 0 0)] (eI 5)] [0, 3, 4, 5] [(0, eP b 0), (3, nwS 0), (4, eI 0), (5, eqS vf)] ⟨⟨bK (k := 0) rfl rfl rfl rfl (by decide) (by kernel_rfl), trivial⟩, ⟨b6 (k := 0) (j := 0) rfl rfl rfl rfl (by decide) Tryd.underlying3 rfl rfl, trivial⟩, ⟨bK (k := 0) rfl rfl rfl rfl (by decide) (by kernel_rfl), trivial⟩, ⟨b6 (k := 0) (j := 0) rfl rfl rfl rfl (by decide) Tryd.underlying3 rfl rfl, trivial⟩, trivial⟩ fun ac g w hS => ?_
 refine wp_seq ?_
 refine wp_seq ?_
 refine rz hS [e0 1 [(14, eP b 0)] (eqS vf), e0 3 [(16, eqS vf), (3, nwS 0)] (nwO 0 0), e0 4 [(16, eqS vf), (17, nwO 0 0)] (eI 5), e0 8 [(21, eqS vf), (3, nwS 0)] (nwO 0 0), e0 9 [(21, eqS vf), (22, nwO 0 0)] (eI 5), e0 29 [(39, eqS vf), (42, eP b 0)] (eI (r.acts : Nat)), e0 30 [(39, eqS vf), (43, eI (r.acts : Nat))] (eqS vf)] [0, 3, 4, 45] [(0, eP b 0), (3, nwS 0), (4, eI 0), (45, eqS vf)] ⟨⟨b_ rfl fun ξ g w hB hH => a_ c58 rfl (cR w hB.wf.lt hB.run (fun x hx => List.mem_append_left _ hx) hs.h0), trivial⟩, ⟨bK (k := 0) rfl rfl rfl rfl (by decide) (by kernel_rfl), trivial⟩, ⟨b6 (k := 0) (j := 0) rfl rfl rfl rfl (by decide) Tryd.underlying3 rfl rfl, trivial⟩, ⟨bK (k := 0) rfl rfl rfl rfl (by decide) (by kernel_rfl), trivial⟩, ⟨b6 (k := 0) (j := 0) rfl rfl rfl rfl (by decide) Tryd.underlying3 rfl rfl, trivial⟩, ⟨dE (d9 _ _) rfl rfl rfl Tryd.underlying3 rfl (fun _ => rfl), trivial⟩, ⟨bS rfl rfl rfl (congrArg some (decide_eq_false (by omega))), trivial⟩, trivial⟩ fun ac g w hS => ?_
 refine wp_cond_false (hS.f.frm.eval rfl) ?_
 refine wp_skip ?_
 refine wp_seq ?_
 refine rx [e0 3 [(48, eP b 0)] (eI (r.acts : Nat)), e0 4 [(49, eI (r.acts : Nat))] (eI (((r.acts : Nat) : Int) + 1)), e1 7 [(52, eP b 0), (50, eI (((r.acts : Nat) : Int) + 1))] bM] [0, 3, 4] (Bl [stB (bP b r) [(47, agS (cxV [vI 5, vI wh, .bool c]))], stB (bP b r.count) [(47, agS (cxV [vI 5, vI wh, .bool c]))]]) 1 [(0, eP b 0), (3, nwS 0), (4, eI 0)] ⟨⟨dE (d9 _ _) rfl rfl rfl Tryd.underlying3 rfl (fun _ => rfl), trivial⟩, ⟨bL fun ξ g w hB hH => ⟨_, rfl, cy rfl rfl (bO (by have := hs.ha; omega) (by have := hs.ha; omega))⟩, trivial⟩, ⟨fW rfl rfl rfl sz3 rfl rfl rfl (by decide) (fun _ => rfl) rfl rfl rfl, trivial⟩, trivial⟩ hS rfl fun ac g w hS => ?_
 refine wp_seq ?_
 refine wp_seq ?_
 refine rz hS [e0 0 [(3, nwS 0)] (nwO 0 0), e0 1 [(53, nwO 0 0)] (eI 5)] [0, 3, 4, 54] [(0, eP b 0), (3, nwS 0), (4, eI 0), (54, eI 5)] ⟨⟨bK (k := 0) rfl rfl rfl rfl (by decide) (by kernel_rfl), trivial⟩, ⟨b6 (k := 0) (j := 0) rfl rfl rfl rfl (by decide) Tryd.underlying3 rfl rfl, trivial⟩, trivial⟩ fun ac g w hS => ?_
 refine bz ?_
 refine wp_block ?_
 refine wp_seq ?_
 refine rz hS [] [0, 3, 4, 54, 59] [(0, eP b 0), (3, nwS 0), (4, eI 0), (54, eI 5), (59, eqS vf)] trivial fun ac g w hS => ?_
 refine wp_cond_false (hS.f.frm.eval rfl) ?_
 refine wp_seq ?_
 refine rz hS [] [0, 3, 4, 54, 65] [(0, eP b 0), (3, nwS 0), (4, eI 0), (54, eI 5), (65, eqS vf)] trivial fun ac g w hS => ?_
 refine wp_cond_false (hS.f.frm.eval rfl) ?_
 refine wp_seq ?_
 refine rz hS [] [0, 3, 4, 54, 73] [(0, eP b 0), (3, nwS 0), (4, eI 0), (54, eI 5), (73, eqS vf)] trivial fun ac g w hS => ?_
 refine wp_cond_false (hS.f.frm.eval rfl) ?_
 refine wp_seq ?_
 refine rz hS [] [0, 4, 79] [(0, eP b 0), (4, eI 0), (79, eqS vf)] trivial fun ac g w hS => ?_
 refine wp_cond_false (hS.f.frm.eval rfl) ?_
 refine rx [e1 4 [(58, eP b 23)] bM] [4] (Bl [stB (bP b r.count) [(47, agS (cxV [vI 5, vI wh, .bool c]))], stB (bP b { r.count with kem := true }) [(47, agS (cxV [vI 5, vI wh, .bool c]))]]) 1 [(4, eI 0)] ⟨⟨fW rfl rfl rfl sz4 rfl rfl rfl (by decide) (fun _ => rfl) rfl rfl rfl, trivial⟩, trivial⟩ hS rfl fun ac g w hS => ?_
 refine bR ?_
 refine wp_seq ?_
 refine rz hS [] [4] [(4, eI 0)] trivial fun ac g w hS => ?_
 refine wp_ret ?_
 exact bv hS.f.frm (bw Tryd.results27 (RV.tmp hS.f.frm rfl)) (hS.post rfl)
end Go.Mi.Term
