/- Walks: package symbol. -/
import Derived.Test.YtoefhjabaanokaaDoorY22
set_option linter.unusedSimpArgs false
set_option linter.unusedVariables false
set_option linter.unnecessarySimpa false
namespace Go.Mi.Term
open Go.Mi Go.Proofs Go.RowKit
set_option maxRecDepth 100000 in
set_option maxHeartbeats 4000000 in
theorem idx_a {X : List Nat} {l : List Ac} {kem : Bool} {v : Value} (w0 : World) (hX : ∀ x, x ∈ X → x < w0.heap.size) (h00 : 0 ∈ X) (hT : T0 w0) (hv : (acS l).hold ⟨[], [], X, []⟩ w0 v) (h : 20 < l.length) : Calls Tryd.prog 10 (List.toArray [.bool kem, v]) w0 (Ret fun v w' => Gr w0 w' ∧ v = .bool true) := by
 refine enterR (F := []) (ρ := begR (andY noY tabY) w0.heap.size) [eqS (vB kem), acS l] hX ⟨rfl, ⟨trivial, h00, hT⟩, Nat.le_refl _, hX⟩ ⟨rfl, hv, trivial⟩ Tryd.func10 rfl Tryd.ntmps10 rfl fun ac hS => ?_
 refine wp_seq ?_
 refine rgl0 hS [] [0, 1, 4] (Lo := [(0, eqS (vB kem)), (1, acS l), (4, eqS vf)]) (by kernel_rfl) (by kernel_rfl) trivial fun ac g w hS => ?_
 refine then_n ?_
 refine wp_seq ?_
 refine wp_seq ?_
 refine rgl0 hS [e0 1 [(11, acS l)] (eqS (vI l.length)), e0 2 [(12, eqS (vI l.length))] (eqS vt)] [0, 1, 4, 13] (Lo := [(0, eqS (vB kem)), (1, acS l), (4, eqS vf), (13, eqS vt)]) (by kernel_rfl) (by kernel_rfl) ⟨⟨q_acLen rfl rfl, trivial⟩, ⟨q_cmp rfl rfl rfl (congrArg some (decide_eq_true (by omega))), trivial⟩, trivial⟩ fun ac g w hS => ?_
 refine then_n ?_
 refine wp_cond_true (hS.f.frm.eval rfl) ?_
 refine wp_seq ?_
 refine rgl0 hS [e0 0 [] (eqS vt)] [0, 1, 4, 13] (Lo := [(0, eqS (vB kem)), (1, acS l), (4, eqS vt), (13, eqS vt)]) (by kernel_rfl) (by kernel_rfl) ⟨⟨q_awkB rfl rfl, trivial⟩, trivial⟩ fun ac g w hS => ?_
 refine then_n ?_
 refine wp_ret ?_
 refine then_ret ?_
 exact body_ret hS.f.frm (results1 Tryd.results10 (RV.tmp hS.f.frm rfl)) ⟨hS.gr0, rfl⟩
set_option maxRecDepth 100000 in
set_option maxHeartbeats 4000000 in
theorem idx_b {X : List Nat} {l : List Ac} {kem : Bool} {v : Value} (w0 : World) (hX : ∀ x, x ∈ X → x < w0.heap.size) (h00 : 0 ∈ X) (hT : T0 w0) (hv : (acS l).hold ⟨[], [], X, []⟩ w0 v) (hl : l.length ≤ 20) : Calls Tryd.prog 10 (List.toArray [.bool kem, v]) w0 (Ret fun v w' => Gr w0 w' ∧ v = .bool true) := by
 have hkl : (acR kem l l.length).keys.length ≤ 1000000 := by have := (acG kem l l.length).small.hy; omega
 refine enterR (F := []) (ρ := begR (andY noY tabY) w0.heap.size) [eqS (vB kem), acS l] hX ⟨rfl, ⟨trivial, h00, hT⟩, Nat.le_refl _, hX⟩ ⟨rfl, hv, trivial⟩ Tryd.func10 rfl Tryd.ntmps10 rfl fun ac hS => ?_
 refine wp_seq ?_
 refine rgl0 hS [] [0, 1, 4] (Lo := [(0, eqS (vB kem)), (1, acS l), (4, eqS vf)]) (by kernel_rfl) (by kernel_rfl) trivial fun ac g w hS => ?_
 refine then_n ?_
 refine wp_seq ?_
 refine wp_seq ?_
 refine rgl0 hS [e0 1 [(11, acS l)] (eqS (vI l.length)), e0 2 [(12, eqS (vI l.length))] (eqS vf)] [0, 1, 4, 13] (Lo := [(0, eqS (vB kem)), (1, acS l), (4, eqS vf), (13, eqS vf)]) (by kernel_rfl) (by kernel_rfl) ⟨⟨q_acLen rfl rfl, trivial⟩, ⟨q_cmp rfl rfl rfl (congrArg some (decide_eq_false (by omega))), trivial⟩, trivial⟩ fun ac g w hS => ?_
 refine then_n ?_
 refine wp_cond_false (hS.f.frm.eval rfl) ?_
 refine wp_skip ?_
 refine then_n ?_
 refine wp_seq ?_
 refine rgl [e1 1 [(15, eqS (vB kem))] (ptS 0)] [0, 1, 4, 5, 13] (Bl [stB (begR (andY noY tabY) w0.heap.size) [], stB (lawN (andY noY tabY) w0.heap.size 0 (Rn.new kem)) [(0, topS)]]) 1 (Lo := [(0, eqS (vB kem)), (1, acS l), (4, eqS vf), (5, ptS 0), (13, eqS vf)]) (by kernel_rfl) (by kernel_rfl) ⟨⟨m_new rfl rfl rfl rfl rfl, trivial⟩, trivial⟩ hS rfl fun ac g w hS => ?_
 obtain ⟨b, hS⟩ := hS.bornL (t := 5) rfl
 refine then_n ?_
 refine wp_seq ?_
 refine wp_seq ?_
 refine rgl0 hS [e0 1 [(17, eqS (vP b 0))] (eqS vf)] [0, 1, 4, 5, 13, 18] (Lo := [(0, eqS (vB kem)), (1, acS l), (4, eqS vf), (5, eqS (vP b 0)), (13, eqS vf), (18, eqS vf)]) (by kernel_rfl) (by kernel_rfl) ⟨⟨q_ptr rfl rfl rfl rfl, trivial⟩, trivial⟩ fun ac g w hS => ?_
 refine then_n ?_
 refine wp_cond_false (hS.f.frm.eval rfl) ?_
 refine wp_skip ?_
 refine then_n ?_
 refine wp_seq ?_
 refine wp_seq ?_
 refine rgl0 hS [] [0, 1, 4, 5, 6, 13, 18] (Lo := [(0, eqS (vB kem)), (1, acS l), (4, eqS vf), (5, eqS (vP b 0)), (6, eqS (vI 0)), (13, eqS vf), (18, eqS vf)]) (by kernel_rfl) (by kernel_rfl) trivial fun ac g w hS => ?_
 refine then_n ?_
 refine wp_block ?_
 refine wp_loop_k (fun n ac w => ∃ (i : Nat) (g : Gh), n = l.length - i ∧ (i ≤ l.length) ∧ SS [(1, acS l), (5, eqS (vP b 0)), (6, eqS (vI i))] 124 (stB (lawR (andY noY tabY) w0.heap.size b (acR kem l i)) [(0, topS)]) ⟨[], [], X, []⟩ w0 ac g w) _ ⟨0, _, rfl, Nat.zero_le _, hS.to ⟨rfl, rfl, rfl, trivial⟩⟩ ?_
 rintro _ ac w ⟨i, g, rfl, hi, hS⟩
 refine wp_seq ?_
 refine wp_seq ?_
 refine rgl0 hS [e0 2 [(20, acS l)] (eqS (vI l.length))] [1, 5, 6, 22] (Lo := [(1, acS l), (5, eqS (vP b 0)), (6, eqS (vI i)), (22, eqS (vB (decide ((i : Int) < l.length))))]) (by kernel_rfl) (by kernel_rfl) ⟨⟨q_acLen rfl rfl, trivial⟩, trivial⟩ fun ac g w hS => ?_
 refine then_n ?_
 refine wp_if hS.f.frm rfl (fun h => ?_) (fun h => ?_)
 ·have hc := of_decide_eq_true h
  clear h
  have hc := Int.ofNat_lt.1 hc
  obtain ⟨a, ha⟩ : ∃ a, l[i]? = some a := ⟨_, List.getElem?_eq_getElem hc⟩
  refine wp_skip ?_
  refine then_n ?_
  refine wp_seq ?_
  refine wp_block ?_
  refine rga mo [e0 3 [(26, acS l), (27, eqS (vI i))] (apS a 0), e0 4 [(28, apS a 0)] (apS a 0), e0 5 [(29, apS a 0)] (eqS (vI a.k)), e0 8 [(31, acS l), (32, eqS (vI i))] (apS a 0), e0 9 [(33, apS a 0)] (apS a 1), e0 10 [(34, apS a 1)] (eqS (vI a.who)), e0 13 [(36, acS l), (37, eqS (vI i))] (apS a 0), e0 14 [(38, apS a 0)] (apS a 2), e0 15 [(39, apS a 2)] (eqS (vB a.kem)), e0 16 [(30, eqS (vI a.k)), (35, eqS (vI a.who)), (40, eqS (vB a.kem))] (agS (cxV [vI a.k, vI a.who, .bool a.kem])), e1 17 [(25, eqS (vP b 0)), (41, agS (cxV [vI a.k, vI a.who, .bool a.kem]))] topS] [1, 5, 6, 22] (Bl [stB (lawR (andY noY tabY) w0.heap.size b (acR kem l i)) [(0, topS)], stB (lawR (andY noY tabY) w0.heap.size b (acR kem l (i + 1))) [(0, topS)]]) 1 (Lo := [(1, acS l), (5, eqS (vP b 0)), (6, eqS (vI i)), (22, eqS (vB (decide ((i : Int) < l.length))))]) (by kernel_rfl) (by kernel_rfl) ⟨⟨q_acIx rfl rfl rfl ha, trivial⟩, ⟨q_acF rfl rfl sz3 Tryd.underlying52 rfl rfl, trivial⟩, ⟨q_acL rfl rfl Tryd.underlying3 rfl rfl, trivial⟩, ⟨q_acIx rfl rfl rfl ha, trivial⟩, ⟨q_acF rfl rfl sz3 Tryd.underlying52 rfl rfl, trivial⟩, ⟨q_acL rfl rfl Tryd.underlying3 rfl rfl, trivial⟩, ⟨q_acIx rfl rfl rfl ha, trivial⟩, ⟨q_acF rfl rfl sz4 Tryd.underlying52 rfl rfl, trivial⟩, ⟨q_acL rfl rfl Tryd.underlying4 rfl rfl, trivial⟩, ⟨q_act3 rfl rfl rfl rfl, trivial⟩, ⟨m_doT (kd := a.k) (wh := a.who) (c := a.kem) (acG kem l i) (acR_next ha) rfl rfl rfl rfl rfl, trivial⟩, trivial⟩ hS rfl fun ac g w hS => ?_
  refine block_n ?_
  refine then_n ?_
  refine rgl0 hS [e0 1 [(23, eqS (vI i))] (eqS (vI (((i : Nat) : Int) + 1)))] [1, 5, 6, 22] (Lo := [(1, acS l), (5, eqS (vP b 0)), (6, eqS (vI (((i : Nat) : Int) + 1))), (22, eqS (vB (decide ((i : Int) < l.length))))]) (by kernel_rfl) (by kernel_rfl) ⟨⟨q_val fun ξ g w hB hH => ⟨_, rfl, d_add rfl rfl (wrap_i64 (by omega) (by omega))⟩, trivial⟩, trivial⟩ fun ac g w hS => ?_
  refine then_n ?_
  refine ⟨_, ?_, i + 1, _, rfl, hc, hS.to ⟨rfl, rfl, rfl, trivial⟩⟩
  omega
 ·have hc := of_decide_eq_false h
  clear h
  obtain rfl : i = l.length := by omega
  refine wp_exit ?_
  refine then_exit ?_
  refine then_exit ?_
  refine block_exit ?_
  refine then_n ?_
  refine wp_seq ?_
  refine rgl [e1 0 [] (nwS 1)] [1, 5, 7] (Bl [stB (lawR (andY noY tabY) w0.heap.size b (acR kem l l.length)) [(0, topS)], stB (lawR (andY noY tabY) w0.heap.size b (acR kem l l.length)) [(0, topS), (56, agS (cxV [vI 0, vI 0]))]]) 1 (Lo := [(1, acS l), (5, eqS (vP b 0)), (7, nwS 1)]) (by kernel_rfl) (by kernel_rfl) ⟨⟨m_allocV rfl rfl rfl z56 rfl, trivial⟩, trivial⟩ hS rfl fun ac g w hS => ?_
  refine then_n ?_
  refine wp_seq ?_
  refine rgl0 hS [e0 1 [(43, eqS (vP b 0))] (ksS (acR kem l l.length).keys)] [1, 5, 7, 8] (Lo := [(1, acS l), (5, eqS (vP b 0)), (7, nwS 1), (8, ksS (acR kem l l.length).keys)]) (by kernel_rfl) (by kernel_rfl) ⟨⟨q_keys (acG kem l l.length) rfl rfl rfl, trivial⟩, trivial⟩ fun ac g w hS => ?_
  refine then_n ?_
  refine wp_seq ?_
  refine wp_seq ?_
  refine rgl0 hS [] [1, 5, 7, 8, 9] (Lo := [(1, acS l), (5, eqS (vP b 0)), (7, nwS 1), (8, ksS (acR kem l l.length).keys), (9, eqS (vI 0))]) (by kernel_rfl) (by kernel_rfl) trivial fun ac g w hS => ?_
  refine then_n ?_
  refine wp_block ?_
  refine wp_loop_k (fun n ac w => ∃ (i : Nat) (g : Gh), n = (acR kem l l.length).keys.length - i ∧ (i ≤ (acR kem l l.length).keys.length) ∧ SS [(7, nwS 1), (8, ksS (acR kem l l.length).keys), (9, eqS (vI i))] 124 (stB (lawR (andY noY tabY) w0.heap.size b (acR kem l l.length)) [(0, topS), (56, agS (cxV [vI (cntW ((acR kem l l.length).keys.take i) 0), vI (cntW ((acR kem l l.length).keys.take i) 1)]))]) ⟨[], [], X, []⟩ w0 ac g w) _ ⟨0, _, rfl, Nat.zero_le _, hS.to ⟨rfl, rfl, rfl, trivial⟩⟩ ?_
  rintro _ ac w ⟨i, g, rfl, hi, hS⟩
  refine wp_seq ?_
  refine wp_seq ?_
  refine rgl0 hS [e0 2 [(46, ksS (acR kem l l.length).keys)] (eqS (vI ((acR kem l l.length).keys.length)))] [7, 8, 9, 48] (Lo := [(7, nwS 1), (8, ksS (acR kem l l.length).keys), (9, eqS (vI i)), (48, eqS (vB (decide ((i : Int) < (acR kem l l.length).keys.length))))]) (by kernel_rfl) (by kernel_rfl) ⟨⟨q_ksLen rfl rfl, trivial⟩, trivial⟩ fun ac g w hS => ?_
  refine then_n ?_
  refine wp_if hS.f.frm rfl (fun h => ?_) (fun h => ?_)
  ·have hc := of_decide_eq_true h
   clear h
   have hc := Int.ofNat_lt.1 hc
   obtain ⟨e, he⟩ : ∃ e, (acR kem l l.length).keys[i]? = some e := ⟨_, List.getElem?_eq_getElem hc⟩
   obtain ⟨hw, o, hep⟩ := (acO kem l l.length).ix i e he
   have r := cntW_le ((acR kem l l.length).keys.take i) e.who
   rw [List.length_take] at r
   refine wp_skip ?_
   refine then_n ?_
   refine wp_seq ?_
   refine wp_block ?_
   refine wp_seq ?_
   refine wp_seq ?_
   refine wp_join (fun ac w => ∃  (g : Gh), SS [(7, nwS 1), (8, ksS (acR kem l l.length).keys), (9, eqS (vI i)), (97, eqS vf)] 124 (stB (lawR (andY noY tabY) w0.heap.size b (acR kem l l.length)) [(0, topS), (56, agS (cxV [vI (cntW ((acR kem l l.length).keys.take i) 0), vI (cntW ((acR kem l l.length).keys.take i) 1)]))]) ⟨[], [], X, []⟩ w0 ac g w) ?_ ?_
   rotate_left
   ·rintro ac w ⟨g, hS⟩
    refine wp_cond_false (hS.f.frm.eval rfl) ?_
    refine wp_skip ?_
    refine then_n ?_
    refine wp_seq ?_
    refine rgl [e0 2 [(98, ksS (acR kem l l.length).keys), (99, eqS (vI i))] (kpS e 0), e0 3 [(100, kpS e 0)] (kpS e 4), e0 4 [(101, kpS e 4)] (eqS (vI e.who)), e0 5 [(7, nwS 1), (102, eqS (vI e.who))] (nwO 1 e.who), e0 6 [(103, nwO 1 e.who)] (eqS (vI (cntW ((acR kem l l.length).keys.take i) e.who))), e0 7 [(104, eqS (vI (cntW ((acR kem l l.length).keys.take i) e.who)))] (eqS (vI (((cntW ((acR kem l l.length).keys.take i) e.who : Nat) : Int) + 1))), e0 8 [(7, nwS 1), (102, eqS (vI e.who))] (nwO 1 e.who), e1 9 [(106, nwO 1 e.who), (105, eqS (vI (((cntW ((acR kem l l.length).keys.take i) e.who : Nat) : Int) + 1)))] topS] [7, 8, 9, 97] (Bl [stB (lawR (andY noY tabY) w0.heap.size b (acR kem l l.length)) [(0, topS), (56, agS (cxV [vI (cntW ((acR kem l l.length).keys.take i) 0), vI (cntW ((acR kem l l.length).keys.take i) 1)]))], stB (lawR (andY noY tabY) w0.heap.size b (acR kem l l.length)) [(0, topS), (56, agS (cxV [vI (cntW ((acR kem l l.length).keys.take i ++ [e]) 0), vI (cntW ((acR kem l l.length).keys.take i ++ [e]) 1)]))]]) 1 (Lo := [(7, nwS 1), (8, ksS (acR kem l l.length).keys), (9, eqS (vI i)), (97, eqS vf)]) (by kernel_rfl) (by kernel_rfl) ⟨⟨q_kIx rfl rfl rfl he, trivial⟩, ⟨q_kF rfl rfl sz3 Tryd.underlying58 rfl rfl, trivial⟩, ⟨q_kL (j := 1) rfl rfl rfl, trivial⟩, ⟨q_ixN (j := e.who) rfl rfl rfl rfl hw rfl (by decide), trivial⟩, ⟨q_ldN (k := 1) (j := e.who) rfl rfl rfl rfl (by decide) Tryd.underlying3 rfl (nx_at hw), trivial⟩, ⟨q_val fun ξ g w hB hH => ⟨_, rfl, d_add rfl rfl (wrap_i64 (by omega) (by omega))⟩, trivial⟩, ⟨q_ixN (j := e.who) rfl rfl rfl rfl hw rfl (by decide), trivial⟩, ⟨m_stV (k := 1) (j := e.who) rfl rfl rfl rfl rfl rfl rfl (by decide) hw (nx_set hw), trivial⟩, trivial⟩ hS rfl fun ac g w hS => ?_
    refine then_n ?_
    refine wp_seq ?_
    refine rgl0 hS [] [7, 8, 9, 10, 97] (Lo := [(7, nwS 1), (8, ksS (acR kem l l.length).keys), (9, eqS (vI i)), (10, eqS (vI 0)), (97, eqS vf)]) (by kernel_rfl) (by kernel_rfl) trivial fun ac g w hS => ?_
    refine then_n ?_
    refine wp_block ?_
    refine wp_loop_k (fun n ac w => ∃ (m : Nat) (g : Gh), n = i - m ∧ (m ≤ i) ∧ SS [(7, nwS 1), (8, ksS (acR kem l l.length).keys), (9, eqS (vI i)), (10, eqS (vI m))] 124 (stB (lawR (andY noY tabY) w0.heap.size b (acR kem l l.length)) [(0, topS), (56, agS (cxV [vI (cntW ((acR kem l l.length).keys.take i ++ [e]) 0), vI (cntW ((acR kem l l.length).keys.take i ++ [e]) 1)]))]) ⟨[], [], X, []⟩ w0 ac g w) _ ⟨0, _, rfl, Nat.zero_le _, hS.to ⟨rfl, rfl, rfl, rfl, trivial⟩⟩ ?_
    rintro _ ac w ⟨m, g, rfl, hm, hS⟩
    refine wp_seq ?_
    refine wp_seq ?_
    refine rgl0 hS [] [7, 8, 9, 10, 109] (Lo := [(7, nwS 1), (8, ksS (acR kem l l.length).keys), (9, eqS (vI i)), (10, eqS (vI m)), (109, eqS (vB (decide ((m : Int) < i))))]) (by kernel_rfl) (by kernel_rfl) trivial fun ac g w hS => ?_
    refine then_n ?_
    refine wp_if hS.f.frm rfl (fun h => ?_) (fun h => ?_)
    ·have d := of_decide_eq_true h
     clear h
     have d := Int.ofNat_lt.1 d
     obtain ⟨e3, p⟩ : ∃ e3, (acR kem l l.length).keys[m]? = some e3 := ⟨_, List.getElem?_eq_getElem (by omega)⟩
     refine wp_skip ?_
     refine then_n ?_
     refine wp_seq ?_
     refine wp_block ?_
     refine wp_seq ?_
     refine rga0 mo hS [e0 2 [(112, ksS (acR kem l l.length).keys), (113, eqS (vI i))] (kpS e 0), e0 3 [(114, kpS e 0)] (kpS e 0), e0 4 [(115, kpS e 0)] (tmS e.t), e0 7 [(117, ksS (acR kem l l.length).keys), (118, eqS (vI m))] (kpS e3 0), e0 8 [(119, kpS e3 0)] (kpS e3 0), e0 9 [(120, kpS e3 0)] (tmS e3.t), e0 10 [(116, tmS e.t), (121, tmS e3.t)] (eqS vf)] [7, 8, 9, 10, 109, 122] (Lo := [(7, nwS 1), (8, ksS (acR kem l l.length).keys), (9, eqS (vI i)), (10, eqS (vI m)), (109, eqS (vB (decide ((m : Int) < i)))), (122, eqS vf)]) (by kernel_rfl) (by kernel_rfl) ⟨⟨q_kIx rfl rfl rfl he, trivial⟩, ⟨q_kF rfl rfl sz26 Tryd.underlying58 rfl rfl, trivial⟩, ⟨q_kT rfl rfl, trivial⟩, ⟨q_kIx rfl rfl rfl p, trivial⟩, ⟨q_kF rfl rfl sz26 Tryd.underlying58 rfl rfl, trivial⟩, ⟨q_kT rfl rfl, trivial⟩, ⟨q_same (unlikeB (acO kem l l.length) he p d) rfl rfl rfl rfl, trivial⟩, trivial⟩ fun ac g w hS => ?_
     refine then_n ?_
     refine wp_cond_false (hS.f.frm.eval rfl) ?_
     refine wp_skip ?_
     refine block_n ?_
     refine then_n ?_
     refine rgl0 hS [e0 1 [(110, eqS (vI m))] (eqS (vI (((m : Nat) : Int) + 1)))] [7, 8, 9, 10, 109, 122] (Lo := [(7, nwS 1), (8, ksS (acR kem l l.length).keys), (9, eqS (vI i)), (10, eqS (vI (((m : Nat) : Int) + 1))), (109, eqS (vB (decide ((m : Int) < i)))), (122, eqS vf)]) (by kernel_rfl) (by kernel_rfl) ⟨⟨q_val fun ξ g w hB hH => ⟨_, rfl, d_add rfl rfl (wrap_i64 (by omega) (by omega))⟩, trivial⟩, trivial⟩ fun ac g w hS => ?_
     refine then_n ?_
     refine ⟨_, ?_, m + 1, _, rfl, d, hS.to ⟨rfl, rfl, rfl, rfl, trivial⟩⟩
     omega
    ·have d := of_decide_eq_false h
     clear h
     clear hm
     refine wp_exit ?_
     refine then_exit ?_
     refine then_exit ?_
     refine block_exit ?_
     refine block_n ?_
     refine then_n ?_
     refine rgl0 hS [e0 1 [(49, eqS (vI i))] (eqS (vI (((i : Nat) : Int) + 1)))] [7, 8, 9] (Lo := [(7, nwS 1), (8, ksS (acR kem l l.length).keys), (9, eqS (vI (((i : Nat) : Int) + 1)))]) (by kernel_rfl) (by kernel_rfl) ⟨⟨q_val fun ξ g w hB hH => ⟨_, rfl, d_add rfl rfl (wrap_i64 (by omega) (by omega))⟩, trivial⟩, trivial⟩ fun ac g w hS => ?_
     refine then_n ?_
     refine ⟨_, ?_, i + 1, _, rfl, hc, by rw [take_next he]; exact hS.to ⟨rfl, rfl, rfl, trivial⟩⟩
     omega
   rcases Nat.eq_zero_or_pos i with hi0 | hi0
   ·skip
    refine rga0 mo hS [e0 2 [(51, ksS (acR kem l l.length).keys), (52, eqS (vI i))] (kpS e 0), e0 3 [(53, kpS e 0)] (kpS e 4), e0 4 [(54, kpS e 4)] (eqS (vI e.who)), e0 5 [(55, eqS (vI e.who))] (eqS vf), e0 9 [(57, eqS vf), (58, ksS (acR kem l l.length).keys), (59, eqS (vI i))] (kpS e 0), e0 10 [(57, eqS vf), (60, kpS e 0)] (kpS e 4), e0 11 [(57, eqS vf), (61, kpS e 4)] (eqS (vI e.who)), e0 12 [(57, eqS vf), (62, eqS (vI e.who))] (eqS vf), e0 17 [(65, eqS vf), (66, ksS (acR kem l l.length).keys), (67, eqS (vI i))] (kpS e 0), e0 18 [(65, eqS vf), (68, kpS e 0)] (kpS e 5), e0 19 [(65, eqS vf), (69, kpS e 5)] (eqS (vI e.ix)), e0 22 [(65, eqS vf), (71, ksS (acR kem l l.length).keys), (72, eqS (vI i))] (kpS e 0), e0 23 [(65, eqS vf), (73, kpS e 0)] (kpS e 4), e0 24 [(65, eqS vf), (74, kpS e 4)] (eqS (vI e.who)), e0 25 [(65, eqS vf), (7, nwS 1), (75, eqS (vI e.who))] (nwO 1 e.who), e0 26 [(65, eqS vf), (76, nwO 1 e.who)] (eqS (vI (cntW ((acR kem l l.length).keys.take i) e.who))), e0 27 [(65, eqS vf), (70, eqS (vI e.ix)), (77, eqS (vI (cntW ((acR kem l l.length).keys.take i) e.who)))] (eqS vf), e0 31 [(80, eqS vf), (81, eqS (vI i))] (eqS vf)] [7, 8, 9, 48, 97] (Lo := [(7, nwS 1), (8, ksS (acR kem l l.length).keys), (9, eqS (vI i)), (48, eqS (vB (decide ((i : Int) < (acR kem l l.length).keys.length)))), (97, eqS vf)]) (by kernel_rfl) (by kernel_rfl) ⟨⟨q_kIx rfl rfl rfl he, trivial⟩, ⟨q_kF rfl rfl sz3 Tryd.underlying58 rfl rfl, trivial⟩, ⟨q_kL (j := 1) rfl rfl rfl, trivial⟩, ⟨q_cmp rfl rfl rfl (congrArg some (decide_eq_false (by omega))), trivial⟩, ⟨q_kIx rfl rfl rfl he, trivial⟩, ⟨q_kF rfl rfl sz3 Tryd.underlying58 rfl rfl, trivial⟩, ⟨q_kL (j := 1) rfl rfl rfl, trivial⟩, ⟨q_cmp rfl rfl rfl (congrArg some (decide_eq_false (by omega))), trivial⟩, ⟨q_kIx rfl rfl rfl he, trivial⟩, ⟨q_kF rfl rfl sz3 Tryd.underlying58 rfl rfl, trivial⟩, ⟨q_kL (j := 2) rfl rfl rfl, trivial⟩, ⟨q_kIx rfl rfl rfl he, trivial⟩, ⟨q_kF rfl rfl sz3 Tryd.underlying58 rfl rfl, trivial⟩, ⟨q_kL (j := 1) rfl rfl rfl, trivial⟩, ⟨q_ixN (j := e.who) rfl rfl rfl rfl hw rfl (by decide), trivial⟩, ⟨q_ldN (k := 1) (j := e.who) rfl rfl rfl rfl (by decide) Tryd.underlying3 rfl (nx_at hw), trivial⟩, ⟨q_cmp rfl rfl rfl (by simp [cmpI, o]), trivial⟩, ⟨q_cmp rfl rfl rfl (congrArg some (decide_eq_false (by omega))), trivial⟩, trivial⟩ fun ac g w hS => ?_
    refine then_n ?_
    exact ⟨g, hS.to ⟨rfl, rfl, rfl, rfl, trivial⟩⟩
   ·obtain ⟨e2, q⟩ : ∃ e2, (acR kem l l.length).keys[i - 1]? = some e2 := ⟨_, List.getElem?_eq_getElem (by omega)⟩
    have hup := (acO kem l l.length).mono (i - 1) e2 e q (by rw [Nat.sub_add_cancel hi0]; exact he)
    refine rga0 mo hS [e0 2 [(51, ksS (acR kem l l.length).keys), (52, eqS (vI i))] (kpS e 0), e0 3 [(53, kpS e 0)] (kpS e 4), e0 4 [(54, kpS e 4)] (eqS (vI e.who)), e0 5 [(55, eqS (vI e.who))] (eqS vf), e0 9 [(57, eqS vf), (58, ksS (acR kem l l.length).keys), (59, eqS (vI i))] (kpS e 0), e0 10 [(57, eqS vf), (60, kpS e 0)] (kpS e 4), e0 11 [(57, eqS vf), (61, kpS e 4)] (eqS (vI e.who)), e0 12 [(57, eqS vf), (62, eqS (vI e.who))] (eqS vf), e0 17 [(65, eqS vf), (66, ksS (acR kem l l.length).keys), (67, eqS (vI i))] (kpS e 0), e0 18 [(65, eqS vf), (68, kpS e 0)] (kpS e 5), e0 19 [(65, eqS vf), (69, kpS e 5)] (eqS (vI e.ix)), e0 22 [(65, eqS vf), (71, ksS (acR kem l l.length).keys), (72, eqS (vI i))] (kpS e 0), e0 23 [(65, eqS vf), (73, kpS e 0)] (kpS e 4), e0 24 [(65, eqS vf), (74, kpS e 4)] (eqS (vI e.who)), e0 25 [(65, eqS vf), (7, nwS 1), (75, eqS (vI e.who))] (nwO 1 e.who), e0 26 [(65, eqS vf), (76, nwO 1 e.who)] (eqS (vI (cntW ((acR kem l l.length).keys.take i) e.who))), e0 27 [(65, eqS vf), (70, eqS (vI e.ix)), (77, eqS (vI (cntW ((acR kem l l.length).keys.take i) e.who)))] (eqS vf), e0 31 [(80, eqS vf), (81, eqS (vI i))] (eqS vt), e0 35 [(83, eqS vt), (84, ksS (acR kem l l.length).keys), (85, eqS (vI i))] (kpS e 0), e0 36 [(83, eqS vt), (86, kpS e 0)] (kpS e 3), e0 37 [(83, eqS vt), (87, kpS e 3)] (eqS (vI e.ep)), e0 40 [(83, eqS vt), (90, eqS (vI i))] (eqS (vI ((i - 1 : Nat) : Int))), e0 41 [(83, eqS vt), (89, ksS (acR kem l l.length).keys), (91, eqS (vI ((i - 1 : Nat) : Int)))] (kpS e2 0), e0 42 [(83, eqS vt), (92, kpS e2 0)] (kpS e2 3), e0 43 [(83, eqS vt), (93, kpS e2 3)] (eqS (vI e2.ep)), e0 44 [(83, eqS vt), (88, eqS (vI e.ep)), (94, eqS (vI e2.ep))] (eqS vf)] [7, 8, 9, 48, 97] (Lo := [(7, nwS 1), (8, ksS (acR kem l l.length).keys), (9, eqS (vI i)), (48, eqS (vB (decide ((i : Int) < (acR kem l l.length).keys.length)))), (97, eqS vf)]) (by kernel_rfl) (by kernel_rfl) ⟨⟨q_kIx rfl rfl rfl he, trivial⟩, ⟨q_kF rfl rfl sz3 Tryd.underlying58 rfl rfl, trivial⟩, ⟨q_kL (j := 1) rfl rfl rfl, trivial⟩, ⟨q_cmp rfl rfl rfl (congrArg some (decide_eq_false (by omega))), trivial⟩, ⟨q_kIx rfl rfl rfl he, trivial⟩, ⟨q_kF rfl rfl sz3 Tryd.underlying58 rfl rfl, trivial⟩, ⟨q_kL (j := 1) rfl rfl rfl, trivial⟩, ⟨q_cmp rfl rfl rfl (congrArg some (decide_eq_false (by omega))), trivial⟩, ⟨q_kIx rfl rfl rfl he, trivial⟩, ⟨q_kF rfl rfl sz3 Tryd.underlying58 rfl rfl, trivial⟩, ⟨q_kL (j := 2) rfl rfl rfl, trivial⟩, ⟨q_kIx rfl rfl rfl he, trivial⟩, ⟨q_kF rfl rfl sz3 Tryd.underlying58 rfl rfl, trivial⟩, ⟨q_kL (j := 1) rfl rfl rfl, trivial⟩, ⟨q_ixN (j := e.who) rfl rfl rfl rfl hw rfl (by decide), trivial⟩, ⟨q_ldN (k := 1) (j := e.who) rfl rfl rfl rfl (by decide) Tryd.underlying3 rfl (nx_at hw), trivial⟩, ⟨q_cmp rfl rfl rfl (by simp [cmpI, o]), trivial⟩, ⟨q_cmp rfl rfl rfl (congrArg some (decide_eq_true (by omega))), trivial⟩, ⟨q_kIx rfl rfl rfl he, trivial⟩, ⟨q_kF rfl rfl sz3 Tryd.underlying58 rfl rfl, trivial⟩, ⟨q_kL (j := 0) rfl rfl rfl, trivial⟩, ⟨q_val fun ξ g w hB hH => ⟨_, rfl, d_sub rfl rfl ((wrap_i64 (by omega) (by omega)).trans (by omega))⟩, trivial⟩, ⟨q_kIx rfl rfl rfl q, trivial⟩, ⟨q_kF rfl rfl sz3 Tryd.underlying58 rfl rfl, trivial⟩, ⟨q_kL (j := 0) rfl rfl rfl, trivial⟩, ⟨q_cmp rfl rfl rfl (congrArg some (decide_eq_false (by omega))), trivial⟩, trivial⟩ fun ac g w hS => ?_
    refine then_n ?_
    exact ⟨g, hS.to ⟨rfl, rfl, rfl, rfl, trivial⟩⟩
  ·have hc := of_decide_eq_false h
   clear h
   clear hi
   refine wp_exit ?_
   refine then_exit ?_
   refine then_exit ?_
   refine block_exit ?_
   refine then_n ?_
   refine wp_seq ?_
   refine rgl0 hS [e0 0 [] (eqS vt)] [4, 7, 8] (Lo := [(4, eqS vt), (7, nwS 1), (8, ksS (acR kem l l.length).keys)]) (by kernel_rfl) (by kernel_rfl) ⟨⟨q_awkL rfl rfl, trivial⟩, trivial⟩ fun ac g w hS => ?_
   refine then_n ?_
   refine wp_ret ?_
   exact body_ret hS.f.frm (results1 Tryd.results10 (RV.tmp hS.f.frm rfl)) ⟨hS.gr0, rfl⟩
theorem indexes_walk {l : List Ac} {kem : Bool} {v : Value} (w0 : World) (hT : T0 w0) (hv : (acS l).hold ⟨[], [], [0], []⟩ w0 v) : Calls Tryd.prog 10 (List.toArray [.bool kem, v]) w0 (Ret fun v w' => v = .bool true ∧ Gr w0 w') := by
 have hX : ∀ x, x ∈ [0] → x < w0.heap.size := fun x hx => by rw [List.mem_singleton.1 hx]; exact hT.size
 have fin : Calls Tryd.prog 10 (List.toArray [.bool kem, v]) w0 (Ret fun v w' => Gr w0 w' ∧ v = .bool true) → Calls Tryd.prog 10 (List.toArray [.bool kem, v]) w0 (Ret fun v w' => v = .bool true ∧ Gr w0 w') := fun h => h.mono fun en w' ⟨v, h1, h2, h3⟩ => ⟨v, h1, h3, h2⟩
 by_cases h : 20 < l.length
 ·exact fin (idx_a w0 hX (by simp) hT hv h)
 ·exact fin (idx_b w0 hX (by simp) hT hv (by omega))
end Go.Mi.Term
