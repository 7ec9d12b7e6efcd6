/- Walks: package symbol. -/
import Derived.Test.YtoefhjabaanokaaDoorH38
set_option linter.unusedSimpArgs false
set_option linter.unusedVariables false
set_option linter.unnecessarySimpa false
namespace Go.Mi.Term
open Go.Mi Go.Proofs Go.RowKit
set_option maxRecDepth 100000 in
set_option maxHeartbeats 4000000 in
theorem box_a {X : List Nat} {l : List Ac} {kem : Bool} {v : Value} (w0 : World) (hX : ∀ x, x ∈ X → x < w0.heap.size) (h00 : 0 ∈ X) (hT : T0 w0) (hv : (acS l).hold ⟨[], [], X, []⟩ w0 v) (h : 10 < l.length) : Calls Tryd.prog 14 (List.toArray [.bool kem, v]) w0 (Ret fun v w' => Gr w0 w' ∧ v = .bool true) := by
 refine enterR (F := []) (ρ := begR (andY noY tabY) w0.heap.size) [eqS (vB kem), acS l] hX ⟨rfl, ⟨trivial, h00, hT⟩, Nat.le_refl _, hX⟩ ⟨rfl, hv, trivial⟩ Tryd.func14 rfl Tryd.ntmps14 rfl fun ac hS => ?_
 refine wp_seq ?_
 refine rgl0 hS [] [0, 1, 4] (Lo := [(0, eqS (vB kem)), (1, acS l), (4, eqS vf)]) (by kernel_rfl) (by kernel_rfl) trivial fun ac g w hS => ?_
 refine then_n ?_
 refine wp_seq ?_
 refine wp_seq ?_
 refine rgl0 hS [e0 1 [(12, acS l)] (eqS (vI l.length)), e0 2 [(13, eqS (vI l.length))] (eqS vt)] [0, 1, 4, 14] (Lo := [(0, eqS (vB kem)), (1, acS l), (4, eqS vf), (14, eqS vt)]) (by kernel_rfl) (by kernel_rfl) ⟨⟨q_acLen rfl rfl, trivial⟩, ⟨q_cmp rfl rfl rfl (congrArg some (decide_eq_true (by omega))), trivial⟩, trivial⟩ fun ac g w hS => ?_
 refine then_n ?_
 refine wp_cond_true (hS.f.frm.eval rfl) ?_
 refine wp_seq ?_
 refine rgl0 hS [e0 0 [] (eqS vt)] [0, 1, 4, 14] (Lo := [(0, eqS (vB kem)), (1, acS l), (4, eqS vt), (14, eqS vt)]) (by kernel_rfl) (by kernel_rfl) ⟨⟨q_awkB rfl rfl, trivial⟩, trivial⟩ fun ac g w hS => ?_
 refine then_n ?_
 refine wp_ret ?_
 refine then_ret ?_
 exact body_ret hS.f.frm (results1 Tryd.results14 (RV.tmp hS.f.frm rfl)) ⟨hS.gr0, rfl⟩
set_option maxRecDepth 100000 in
set_option maxHeartbeats 4000000 in
theorem box_b {X : List Nat} {l : List Ac} {kem : Bool} {v : Value} (w0 : World) (hX : ∀ x, x ∈ X → x < w0.heap.size) (h00 : 0 ∈ X) (hT : T0 w0) (hv : (acS l).hold ⟨[], [], X, []⟩ w0 v) (hl : l.length ≤ 10) : Calls Tryd.prog 14 (List.toArray [.bool kem, v]) w0 (Ret fun v w' => Gr w0 w' ∧ v = .bool true) := by
 have hkl : (acR kem l l.length).known.length ≤ 1000000 := by have := (acG kem l l.length).small.hk; omega
 have hky : (acR kem l l.length).keys.length ≤ 1000000 := by have := (acG kem l l.length).small.hy; omega
 refine enterR (F := []) (ρ := begR (andY noY tabY) w0.heap.size) [eqS (vB kem), acS l] hX ⟨rfl, ⟨trivial, h00, hT⟩, Nat.le_refl _, hX⟩ ⟨rfl, hv, trivial⟩ Tryd.func14 rfl Tryd.ntmps14 rfl fun ac hS => ?_
 refine wp_seq ?_
 refine rgl0 hS [] [0, 1, 4] (Lo := [(0, eqS (vB kem)), (1, acS l), (4, eqS vf)]) (by kernel_rfl) (by kernel_rfl) trivial fun ac g w hS => ?_
 refine then_n ?_
 refine wp_seq ?_
 refine wp_seq ?_
 refine rgl0 hS [e0 1 [(12, acS l)] (eqS (vI l.length)), e0 2 [(13, eqS (vI l.length))] (eqS vf)] [0, 1, 4, 14] (Lo := [(0, eqS (vB kem)), (1, acS l), (4, eqS vf), (14, eqS vf)]) (by kernel_rfl) (by kernel_rfl) ⟨⟨q_acLen rfl rfl, trivial⟩, ⟨q_cmp rfl rfl rfl (congrArg some (decide_eq_false (by omega))), trivial⟩, trivial⟩ fun ac g w hS => ?_
 refine then_n ?_
 refine wp_cond_false (hS.f.frm.eval rfl) ?_
 refine wp_skip ?_
 refine then_n ?_
 refine wp_seq ?_
 refine rgl [e1 1 [(16, eqS (vB kem))] (ptS 0)] [0, 1, 4, 5, 14] (Bl [stB (begR (andY noY tabY) w0.heap.size) [], stB (lawN (andY noY tabY) w0.heap.size 0 (Rn.new kem)) [(0, topS)]]) 1 (Lo := [(0, eqS (vB kem)), (1, acS l), (4, eqS vf), (5, ptS 0), (14, eqS vf)]) (by kernel_rfl) (by kernel_rfl) ⟨⟨m_new rfl rfl rfl rfl rfl, trivial⟩, trivial⟩ hS rfl fun ac g w hS => ?_
 obtain ⟨b, hS⟩ := hS.bornL (t := 5) rfl
 refine then_n ?_
 refine wp_seq ?_
 refine wp_seq ?_
 refine rgl0 hS [e0 1 [(18, eqS (vP b 0))] (eqS vf)] [0, 1, 4, 5, 14, 19] (Lo := [(0, eqS (vB kem)), (1, acS l), (4, eqS vf), (5, eqS (vP b 0)), (14, eqS vf), (19, eqS vf)]) (by kernel_rfl) (by kernel_rfl) ⟨⟨q_ptr rfl rfl rfl rfl, trivial⟩, trivial⟩ fun ac g w hS => ?_
 refine then_n ?_
 refine wp_cond_false (hS.f.frm.eval rfl) ?_
 refine wp_skip ?_
 refine then_n ?_
 refine wp_seq ?_
 refine wp_seq ?_
 refine rgl0 hS [] [0, 1, 4, 5, 6, 14, 19] (Lo := [(0, eqS (vB kem)), (1, acS l), (4, eqS vf), (5, eqS (vP b 0)), (6, eqS (vI 0)), (14, eqS vf), (19, eqS vf)]) (by kernel_rfl) (by kernel_rfl) trivial fun ac g w hS => ?_
 refine then_n ?_
 refine wp_block ?_
 refine wp_loop_k (fun d ac w => ∃ (i : Nat) (g : Gh), d = l.length - i ∧ (i ≤ l.length) ∧ SS [(1, acS l), (5, eqS (vP b 0)), (6, eqS (vI i))] 116 (stB (lawR (andY noY tabY) w0.heap.size b (acR kem l i)) [(0, topS)]) ⟨[], [], X, []⟩ w0 ac g w) _ ⟨0, _, rfl, Nat.zero_le _, hS.to ⟨rfl, rfl, rfl, trivial⟩⟩ ?_
 rintro _ ac w ⟨i, g, rfl, hi, hS⟩
 refine wp_seq ?_
 refine wp_seq ?_
 refine rgl0 hS [e0 2 [(21, acS l)] (eqS (vI l.length))] [1, 5, 6, 23] (Lo := [(1, acS l), (5, eqS (vP b 0)), (6, eqS (vI i)), (23, eqS (vB (decide ((i : Int) < l.length))))]) (by kernel_rfl) (by kernel_rfl) ⟨⟨q_acLen rfl rfl, trivial⟩, trivial⟩ fun ac g w hS => ?_
 refine then_n ?_
 refine wp_if hS.f.frm rfl (fun h => ?_) (fun h => ?_)
 ·have hc := of_decide_eq_true h
  clear h
  have hc := Int.ofNat_lt.1 hc
  obtain ⟨a, ha⟩ : ∃ a, l[i]? = some a := ⟨_, List.getElem?_eq_getElem hc⟩
  refine wp_skip ?_
  refine then_n ?_
  refine wp_seq ?_
  refine wp_block ?_
  refine rga mo [e0 3 [(27, acS l), (28, eqS (vI i))] (apS a 0), e0 4 [(29, apS a 0)] (apS a 0), e0 5 [(30, apS a 0)] (eqS (vI a.k)), e0 8 [(32, acS l), (33, eqS (vI i))] (apS a 0), e0 9 [(34, apS a 0)] (apS a 1), e0 10 [(35, apS a 1)] (eqS (vI a.who)), e0 13 [(37, acS l), (38, eqS (vI i))] (apS a 0), e0 14 [(39, apS a 0)] (apS a 2), e0 15 [(40, apS a 2)] (eqS (vB a.kem)), e0 16 [(31, eqS (vI a.k)), (36, eqS (vI a.who)), (41, eqS (vB a.kem))] (agS (cxV [vI a.k, vI a.who, .bool a.kem])), e1 17 [(26, eqS (vP b 0)), (42, agS (cxV [vI a.k, vI a.who, .bool a.kem]))] topS] [1, 5, 6, 23] (Bl [stB (lawR (andY noY tabY) w0.heap.size b (acR kem l i)) [(0, topS)], stB (lawR (andY noY tabY) w0.heap.size b (acR kem l (i + 1))) [(0, topS)]]) 1 (Lo := [(1, acS l), (5, eqS (vP b 0)), (6, eqS (vI i)), (23, eqS (vB (decide ((i : Int) < l.length))))]) (by kernel_rfl) (by kernel_rfl) ⟨⟨q_acIx rfl rfl rfl ha, trivial⟩, ⟨q_acF rfl rfl sz3 Tryd.underlying52 rfl rfl, trivial⟩, ⟨q_acL rfl rfl Tryd.underlying3 rfl rfl, trivial⟩, ⟨q_acIx rfl rfl rfl ha, trivial⟩, ⟨q_acF rfl rfl sz3 Tryd.underlying52 rfl rfl, trivial⟩, ⟨q_acL rfl rfl Tryd.underlying3 rfl rfl, trivial⟩, ⟨q_acIx rfl rfl rfl ha, trivial⟩, ⟨q_acF rfl rfl sz4 Tryd.underlying52 rfl rfl, trivial⟩, ⟨q_acL rfl rfl Tryd.underlying4 rfl rfl, trivial⟩, ⟨q_act3 rfl rfl rfl rfl, trivial⟩, ⟨m_doT (kd := a.k) (wh := a.who) (c := a.kem) (acG kem l i) (acR_next ha) rfl rfl rfl rfl rfl, trivial⟩, trivial⟩ hS rfl fun ac g w hS => ?_
  refine block_n ?_
  refine then_n ?_
  refine rgl0 hS [e0 1 [(24, eqS (vI i))] (eqS (vI (((i : Nat) : Int) + 1)))] [1, 5, 6, 23] (Lo := [(1, acS l), (5, eqS (vP b 0)), (6, eqS (vI (((i : Nat) : Int) + 1))), (23, eqS (vB (decide ((i : Int) < l.length))))]) (by kernel_rfl) (by kernel_rfl) ⟨⟨q_val fun ξ g w hB hH => ⟨_, rfl, d_add rfl rfl (wrap_i64 (by omega) (by omega))⟩, trivial⟩, trivial⟩ fun ac g w hS => ?_
  refine then_n ?_
  refine ⟨_, ?_, i + 1, _, rfl, hc, hS.to ⟨rfl, rfl, rfl, trivial⟩⟩
  omega
 ·have hc := of_decide_eq_false h
  clear h
  obtain rfl : i = l.length := by omega
  refine wp_exit ?_
  refine then_exit ?_
  refine then_exit ?_
  refine block_exit ?_
  refine then_n ?_
  refine wp_seq ?_
  refine rgl0 hS [e0 1 [(44, eqS (vP b 0))] (ksS (acR kem l l.length).keys)] [1, 5, 7] (Lo := [(1, acS l), (5, eqS (vP b 0)), (7, ksS (acR kem l l.length).keys)]) (by kernel_rfl) (by kernel_rfl) ⟨⟨q_keys (acG kem l l.length) rfl rfl rfl, trivial⟩, trivial⟩ fun ac g w hS => ?_
  refine then_n ?_
  refine wp_seq ?_
  refine rgl0 hS [e0 1 [(46, eqS (vP b 0))] (tkS (acR kem l l.length).known)] [1, 5, 7, 8] (Lo := [(1, acS l), (5, eqS (vP b 0)), (7, ksS (acR kem l l.length).keys), (8, tkS (acR kem l l.length).known)]) (by kernel_rfl) (by kernel_rfl) ⟨⟨q_known (acG kem l l.length) rfl rfl rfl, trivial⟩, trivial⟩ fun ac g w hS => ?_
  refine then_n ?_
  refine wp_seq ?_
  refine rgl [e0 1 [(48, eqS (vP b 0))] (agS (cxV [.bool (acR kem l l.length).dh, .bool (acR kem l l.length).kem])), e1 2 [] (nwS 1), ⟨3, [(9, nwS 1), (49, agS (cxV [.bool (acR kem l l.length).dh, .bool (acR kem l l.length).kem]))], topS, [1], true⟩] [1, 5, 7, 8, 9] (Bl [stB (lawR (andY noY tabY) w0.heap.size b (acR kem l l.length)) [(0, topS)], stB (lawR (andY noY tabY) w0.heap.size b (acR kem l l.length)) [(0, topS), (31, anyS 2)], stB (lawR (andY noY tabY) w0.heap.size b (acR kem l l.length)) [(0, topS), (31, agS (cxV [.bool (acR kem l l.length).dh, .bool (acR kem l l.length).kem]))]]) 2 (Lo := [(1, acS l), (5, eqS (vP b 0)), (7, ksS (acR kem l l.length).keys), (8, tkS (acR kem l l.length).known), (9, nwS 1)]) (by kernel_rfl) (by kernel_rfl) ⟨⟨q_world (acG kem l l.length) rfl rfl rfl, trivial⟩, ⟨m_alloc rfl rfl rfl z31 rfl rfl, trivial⟩, ⟨m_store (k := 1) (m := 2) rfl rfl rfl rfl rfl rfl (by decide) sz31 (sized_any 2) (agg_B2 _ _), trivial⟩, trivial⟩ hS rfl fun ac g w hS => ?_
  refine then_n ?_
  refine wp_seq ?_
  refine rgl0 hS [] [1, 5, 7, 8, 9, 10] (Lo := [(1, acS l), (5, eqS (vP b 0)), (7, ksS (acR kem l l.length).keys), (8, tkS (acR kem l l.length).known), (9, nwS 1), (10, eqS (vI 0))]) (by kernel_rfl) (by kernel_rfl) trivial fun ac g w hS => ?_
  refine then_n ?_
  refine wp_seq ?_
  refine wp_seq ?_
  refine rgl0 hS [] [1, 5, 7, 8, 9, 10, 11] (Lo := [(1, acS l), (5, eqS (vP b 0)), (7, ksS (acR kem l l.length).keys), (8, tkS (acR kem l l.length).known), (9, nwS 1), (10, eqS (vI 0)), (11, eqS (vI 0))]) (by kernel_rfl) (by kernel_rfl) trivial fun ac g w hS => ?_
  refine then_n ?_
  refine wp_block ?_
  refine wp_loop_k (fun d ac w => ∃ (i : Nat) (g : Gh), d = (acR kem l l.length).known.length - i ∧ (i ≤ (acR kem l l.length).known.length) ∧ SS [(5, eqS (vP b 0)), (7, ksS (acR kem l l.length).keys), (8, tkS (acR kem l l.length).known), (9, nwS 1), (10, eqS (vI (nbx (acR kem l l.length) i))), (11, eqS (vI i))] 116 (stB (lawR (andY noY tabY) w0.heap.size b (acR kem l l.length)) [(0, topS), (31, agS (cxV [.bool (acR kem l l.length).dh, .bool (acR kem l l.length).kem]))]) ⟨[], [], X, []⟩ w0 ac g w) _ ⟨0, _, rfl, Nat.zero_le _, hS.to ⟨rfl, rfl, rfl, rfl, rfl, rfl, trivial⟩⟩ ?_
  rintro _ ac w ⟨i, g, rfl, hi, hS⟩
  refine wp_seq ?_
  refine wp_seq ?_
  refine rgl0 hS [e0 2 [(51, tkS (acR kem l l.length).known)] (eqS (vI ((acR kem l l.length).known.length)))] [5, 7, 8, 9, 10, 11, 53] (Lo := [(5, eqS (vP b 0)), (7, ksS (acR kem l l.length).keys), (8, tkS (acR kem l l.length).known), (9, nwS 1), (10, eqS (vI (nbx (acR kem l l.length) i))), (11, eqS (vI i)), (53, eqS (vB (decide ((i : Int) < (acR kem l l.length).known.length))))]) (by kernel_rfl) (by kernel_rfl) ⟨⟨q_tkLen rfl rfl, trivial⟩, trivial⟩ fun ac g w hS => ?_
  refine then_n ?_
  refine wp_if hS.f.frm rfl (fun h => ?_) (fun h => ?_)
  ·have hc := of_decide_eq_true h
   clear h
   have hc := Int.ofNat_lt.1 hc
   obtain ⟨u, hu⟩ : ∃ u, (acR kem l l.length).known[i]? = some u := ⟨_, List.getElem?_eq_getElem hc⟩
   refine wp_skip ?_
   refine then_n ?_
   refine wp_seq ?_
   refine wp_block ?_
   refine wp_seq ?_
   refine wp_seq ?_
   refine rgl0 hS [e0 2 [(56, tkS (acR kem l l.length).known), (57, eqS (vI i))] (tpS u 0), e0 3 [(58, tpS u 0)] (tpS u 0), e0 4 [(59, tpS u 0)] (eqS (vI u.kind))] [5, 7, 8, 9, 10, 11, 53, 61] (Lo := [(5, eqS (vP b 0)), (7, ksS (acR kem l l.length).keys), (8, tkS (acR kem l l.length).known), (9, nwS 1), (10, eqS (vI (nbx (acR kem l l.length) i))), (11, eqS (vI i)), (53, eqS (vB (decide ((i : Int) < (acR kem l l.length).known.length)))), (61, eqS (vB (!decide ((u.kind : Int) = 7))))]) (by kernel_rfl) (by kernel_rfl) ⟨⟨q_tIx rfl rfl rfl hu, trivial⟩, ⟨q_tF rfl rfl sz3 Tryd.underlying26 rfl rfl, trivial⟩, ⟨q_tK rfl rfl, trivial⟩, trivial⟩ fun ac g w hS => ?_
   refine then_n ?_
   refine wp_if hS.f.frm rfl (fun h => ?_) (fun h => ?_)
   ·have h7 := ndec_true h
    clear h
    refine wp_exit ?_
    refine then_exit ?_
    refine block_exit ?_
    refine then_n ?_
    refine rgl0 hS [e0 1 [(54, eqS (vI i))] (eqS (vI (((i : Nat) : Int) + 1)))] [5, 7, 8, 9, 10, 11, 53, 61] (Lo := [(5, eqS (vP b 0)), (7, ksS (acR kem l l.length).keys), (8, tkS (acR kem l l.length).known), (9, nwS 1), (10, eqS (vI (nbx (acR kem l l.length) i))), (11, eqS (vI (((i : Nat) : Int) + 1))), (53, eqS (vB (decide ((i : Int) < (acR kem l l.length).known.length)))), (61, eqS (vB (!decide ((u.kind : Int) = 7))))]) (by kernel_rfl) (by kernel_rfl) ⟨⟨q_val fun ξ g w hB hH => ⟨_, rfl, d_add rfl rfl (wrap_i64 (by omega) (by omega))⟩, trivial⟩, trivial⟩ fun ac g w hS => ?_
    refine then_n ?_
    refine ⟨_, ?_, i + 1, _, rfl, hc, by rw [nbx_no hu h7]; exact hS.to ⟨rfl, rfl, rfl, rfl, rfl, rfl, trivial⟩⟩
    omega
   ·have h7 := ndec_false h
    clear h
    have h7 : u.kind = 7 := by omega
    obtain ⟨e, x, he, rfl, hm, ho⟩ := (acB kem l l.length).at (acG kem l l.length) hu h7
    have hlt := lt_of_atT he
    refine wp_skip ?_
    refine then_n ?_
    refine wp_seq ?_
    refine wp_seq ?_
    refine rga0 mo hS [e0 2 [(63, ksS (acR kem l l.length).keys)] (eqS (vI ((acR kem l l.length).keys.length))), e0 3 [(62, eqS (vI (nbx (acR kem l l.length) i))), (64, eqS (vI ((acR kem l l.length).keys.length)))] (eqS vf), e0 7 [(66, eqS vf), (67, tkS (acR kem l l.length).known), (68, eqS (vI i))] (tpS (eT e.t x) 0), e0 8 [(66, eqS vf), (69, tpS (eT e.t x) 0)] (tpS (eT e.t x) 2), e0 9 [(66, eqS vf), (70, tpS (eT e.t x) 2)] (tkS ([e.t, aT x])), e0 10 [(66, eqS vf), (71, tkS ([e.t, aT x]))] (eqS (vI 2)), e0 16 [(75, eqS vf), (76, tkS (acR kem l l.length).known), (77, eqS (vI i))] (tpS (eT e.t x) 0), e0 17 [(75, eqS vf), (78, tpS (eT e.t x) 0)] (tpS (eT e.t x) 2), e0 18 [(75, eqS vf), (79, tpS (eT e.t x) 2)] (tkS ([e.t, aT x])), e0 19 [(75, eqS vf), (80, tkS ([e.t, aT x]))] (tpS e.t 0), e0 20 [(75, eqS vf), (81, tpS e.t 0)] (tmS e.t), e0 23 [(75, eqS vf), (83, ksS (acR kem l l.length).keys), (84, eqS (vI (nbx (acR kem l l.length) i)))] (kpS e 0), e0 24 [(75, eqS vf), (85, kpS e 0)] (kpS e 0), e0 25 [(75, eqS vf), (86, kpS e 0)] (tmS e.t), e0 26 [(75, eqS vf), (82, tmS e.t), (87, tmS e.t)] (eqS vt), e0 30 [(91, eqS vf), (9, nwS 1)] (agS (cxV [.bool (acR kem l l.length).dh, .bool (acR kem l l.length).kem])), e0 34 [(91, eqS vf), (94, tkS (acR kem l l.length).known), (95, eqS (vI i))] (tpS (eT e.t x) 0), e0 35 [(91, eqS vf), (96, tpS (eT e.t x) 0)] (tpS (eT e.t x) 2), e0 36 [(91, eqS vf), (97, tpS (eT e.t x) 2)] (tkS ([e.t, aT x])), e0 37 [(91, eqS vf), (98, tkS ([e.t, aT x]))] (tpS (aT x) 0), e0 38 [(91, eqS vf), (99, tpS (aT x) 0)] (tmS (aT x)), e0 39 [(91, eqS vf), (92, agS (cxV [.bool (acR kem l l.length).dh, .bool (acR kem l l.length).kem])), (93, tkS (acR kem l l.length).known), (100, tmS (aT x))] (eqS (vB (!(acR kem l l.length).cleanZ (nbx (acR kem l l.length) i : Nat)))), e0 42 [(91, eqS vf), (102, eqS (vP b 0)), (103, eqS (vI (nbx (acR kem l l.length) i)))] (eqS (vB ((acR kem l l.length).cleanZ (nbx (acR kem l l.length) i : Nat)))), e0 43 [(91, eqS vf), (101, eqS (vB (!(acR kem l l.length).cleanZ (nbx (acR kem l l.length) i : Nat)))), (104, eqS (vB ((acR kem l l.length).cleanZ (nbx (acR kem l l.length) i : Nat))))] (eqS vf)] [5, 7, 8, 9, 10, 11, 53, 106] (Lo := [(5, eqS (vP b 0)), (7, ksS (acR kem l l.length).keys), (8, tkS (acR kem l l.length).known), (9, nwS 1), (10, eqS (vI (nbx (acR kem l l.length) i))), (11, eqS (vI i)), (53, eqS (vB (decide ((i : Int) < (acR kem l l.length).known.length)))), (106, eqS vf)]) (by kernel_rfl) (by kernel_rfl) ⟨⟨q_ksLen rfl rfl, trivial⟩, ⟨q_cmp rfl rfl rfl (congrArg some (decide_eq_false (by omega))), trivial⟩, ⟨q_tIx rfl rfl rfl hu, trivial⟩, ⟨q_tF rfl rfl sz24 Tryd.underlying26 rfl rfl, trivial⟩, ⟨q_tKs rfl rfl, trivial⟩, ⟨q_tkLenQ rfl rfl rfl, trivial⟩, ⟨q_tIx rfl rfl rfl hu, trivial⟩, ⟨q_tF rfl rfl sz24 Tryd.underlying26 rfl rfl, trivial⟩, ⟨q_tKs rfl rfl, trivial⟩, ⟨q_tIx (j := 0) rfl rfl rfl rfl, trivial⟩, ⟨q_tL rfl rfl, trivial⟩, ⟨q_kIx rfl rfl rfl he, trivial⟩, ⟨q_kF rfl rfl sz26 Tryd.underlying58 rfl rfl, trivial⟩, ⟨q_kT rfl rfl, trivial⟩, ⟨q_same (by simp [sameB, hm]) rfl rfl rfl rfl, trivial⟩, ⟨q_loadN (k := 1) rfl rfl rfl rfl (by decide) Tryd.underlying31 rfl sz31 (agg_B2 _ _).sized, trivial⟩, ⟨q_tIx rfl rfl rfl hu, trivial⟩, ⟨q_tF rfl rfl sz24 Tryd.underlying26 rfl rfl, trivial⟩, ⟨q_tKs rfl rfl, trivial⟩, ⟨q_tIx (j := 1) rfl rfl rfl rfl, trivial⟩, ⟨q_tL rfl rfl, trivial⟩, ⟨q_knowsL (acG kem l l.length) (ho.trans (by simp)) rfl rfl rfl rfl rfl, trivial⟩, ⟨q_clean (acG kem l l.length) rfl rfl rfl rfl rfl, trivial⟩, ⟨q_eqBB rfl rfl rfl (by cases (acR kem l l.length).cleanZ (nbx (acR kem l l.length) i : Nat) <;> rfl), trivial⟩, trivial⟩ fun ac g w hS => ?_
    refine then_n ?_
    refine wp_cond_false (hS.f.frm.eval rfl) ?_
    refine wp_skip ?_
    refine then_n ?_
    refine rgl0 hS [e0 1 [(107, eqS (vI (nbx (acR kem l l.length) i)))] (eqS (vI (((nbx (acR kem l l.length) i : Nat) : Int) + 1)))] [5, 7, 8, 9, 10, 11, 53, 106] (Lo := [(5, eqS (vP b 0)), (7, ksS (acR kem l l.length).keys), (8, tkS (acR kem l l.length).known), (9, nwS 1), (10, eqS (vI (((nbx (acR kem l l.length) i : Nat) : Int) + 1))), (11, eqS (vI i)), (53, eqS (vB (decide ((i : Int) < (acR kem l l.length).known.length)))), (106, eqS vf)]) (by kernel_rfl) (by kernel_rfl) ⟨⟨q_val fun ξ g w hB hH => ⟨_, rfl, d_add rfl rfl (wrap_i64 (by omega) (by omega))⟩, trivial⟩, trivial⟩ fun ac g w hS => ?_
    refine block_n ?_
    refine then_n ?_
    refine rgl0 hS [e0 1 [(54, eqS (vI i))] (eqS (vI (((i : Nat) : Int) + 1)))] [5, 7, 8, 9, 10, 11, 53, 106] (Lo := [(5, eqS (vP b 0)), (7, ksS (acR kem l l.length).keys), (8, tkS (acR kem l l.length).known), (9, nwS 1), (10, eqS (vI (((nbx (acR kem l l.length) i : Nat) : Int) + 1))), (11, eqS (vI (((i : Nat) : Int) + 1))), (53, eqS (vB (decide ((i : Int) < (acR kem l l.length).known.length)))), (106, eqS vf)]) (by kernel_rfl) (by kernel_rfl) ⟨⟨q_val fun ξ g w hB hH => ⟨_, rfl, d_add rfl rfl (wrap_i64 (by omega) (by omega))⟩, trivial⟩, trivial⟩ fun ac g w hS => ?_
    refine then_n ?_
    refine ⟨_, ?_, i + 1, _, rfl, hc, by rw [nbx_yes hu h7]; exact hS.to ⟨rfl, rfl, rfl, rfl, rfl, rfl, trivial⟩⟩
    omega
  ·have hc := of_decide_eq_false h
   clear h
   obtain rfl : i = (acR kem l l.length).known.length := by omega
   refine wp_exit ?_
   refine then_exit ?_
   refine then_exit ?_
   refine block_exit ?_
   refine then_n ?_
   refine wp_seq ?_
   refine rgl0 hS [e0 2 [(110, ksS (acR kem l l.length).keys)] (eqS (vI ((acR kem l l.length).keys.length))), e0 3 [(109, eqS (vI (nbx (acR kem l l.length) (acR kem l l.length).known.length))), (111, eqS (vI ((acR kem l l.length).keys.length)))] (eqS vt), e0 5 [(113, eqS vt)] (eqS vt)] [4, 5, 7, 8, 9, 10] (Lo := [(4, eqS vt), (5, eqS (vP b 0)), (7, ksS (acR kem l l.length).keys), (8, tkS (acR kem l l.length).known), (9, nwS 1), (10, eqS (vI (nbx (acR kem l l.length) (acR kem l l.length).known.length)))]) (by kernel_rfl) (by kernel_rfl) ⟨⟨q_ksLen rfl rfl, trivial⟩, ⟨q_cmp rfl rfl rfl (congrArg some (decide_eq_true (by rw [(acB kem l l.length).all]))), trivial⟩, ⟨q_awkL rfl rfl, trivial⟩, trivial⟩ fun ac g w hS => ?_
   refine then_n ?_
   refine wp_ret ?_
   exact body_ret hS.f.frm (results1 Tryd.results14 (RV.tmp hS.f.frm rfl)) ⟨hS.gr0, rfl⟩
theorem boxes_walk {l : List Ac} {kem : Bool} {v : Value} (w0 : World) (hT : T0 w0) (hv : (acS l).hold ⟨[], [], [0], []⟩ w0 v) : Calls Tryd.prog 14 (List.toArray [.bool kem, v]) w0 (Ret fun v w' => v = .bool true ∧ Gr w0 w') := by
 have hX : ∀ x, x ∈ [0] → x < w0.heap.size := fun x hx => by rw [List.mem_singleton.1 hx]; exact hT.size
 have fin : Calls Tryd.prog 14 (List.toArray [.bool kem, v]) w0 (Ret fun v w' => Gr w0 w' ∧ v = .bool true) → Calls Tryd.prog 14 (List.toArray [.bool kem, v]) w0 (Ret fun v w' => v = .bool true ∧ Gr w0 w') := fun h => h.mono fun en w' ⟨v, h1, h2, h3⟩ => ⟨v, h1, h3, h2⟩
 by_cases h : 10 < l.length
 ·exact fin (box_a w0 hX (by simp) hT hv h)
 ·exact fin (box_b w0 hX (by simp) hT hv (by omega))
end Go.Mi.Term
