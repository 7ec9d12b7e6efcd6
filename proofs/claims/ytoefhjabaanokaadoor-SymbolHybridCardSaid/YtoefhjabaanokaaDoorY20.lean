/- Walks: package symbol. -/
import Derived.Test.YtoefhjabaanokaaDoorH35
set_option linter.unusedSimpArgs false
set_option linter.unusedVariables false
set_option linter.unnecessarySimpa false
namespace Go.Mi.Term
open Go.Mi Go.Proofs Go.RowKit
set_option maxRecDepth 100000 in
set_option maxHeartbeats 4000000 in
theorem hyb_a {X : List Nat} {l : List Ac} {kem dh broken : Bool} {v : Value} (w0 : World) (hX : ∀ x, x ∈ X → x < w0.heap.size) (h00 : 0 ∈ X) (hT : T0 w0) (hv : (acS l).hold ⟨[], [], X, []⟩ w0 v) (h : 12 < l.length) : Calls Tryd.prog 9 (List.toArray [v, .bool kem, .bool dh, .bool broken]) w0 (Ret fun v w' => Gr w0 w' ∧ v = .bool true) := by
 refine enterR (F := []) (ρ := begR (andY noY tabY) w0.heap.size) [acS l, eqS (vB kem), eqS (vB dh), eqS (vB broken)] hX ⟨rfl, ⟨trivial, h00, hT⟩, Nat.le_refl _, hX⟩ ⟨hv, rfl, rfl, rfl, trivial⟩ Tryd.func9 rfl Tryd.ntmps9 rfl fun ac hS => ?_
 refine wp_seq ?_
 refine rgl0 hS [] [0, 1, 2, 3, 8] (Lo := [(0, acS l), (1, eqS (vB kem)), (2, eqS (vB dh)), (3, eqS (vB broken)), (8, eqS vf)]) (by kernel_rfl) (by kernel_rfl) trivial fun ac g w hS => ?_
 refine then_n ?_
 refine wp_seq ?_
 refine wp_seq ?_
 refine rgl0 hS [e0 1 [(14, acS l)] (eqS (vI l.length)), e0 2 [(15, eqS (vI l.length))] (eqS vt)] [0, 1, 2, 3, 8, 16] (Lo := [(0, acS l), (1, eqS (vB kem)), (2, eqS (vB dh)), (3, eqS (vB broken)), (8, eqS vf), (16, eqS vt)]) (by kernel_rfl) (by kernel_rfl) ⟨⟨q_acLen rfl rfl, trivial⟩, ⟨q_cmp rfl rfl rfl (congrArg some (decide_eq_true (by omega))), trivial⟩, trivial⟩ fun ac g w hS => ?_
 refine then_n ?_
 refine wp_cond_true (hS.f.frm.eval rfl) ?_
 refine wp_seq ?_
 refine rgl0 hS [e0 0 [] (eqS vt)] [0, 1, 2, 3, 8, 16] (Lo := [(0, acS l), (1, eqS (vB kem)), (2, eqS (vB dh)), (3, eqS (vB broken)), (8, eqS vt), (16, eqS vt)]) (by kernel_rfl) (by kernel_rfl) ⟨⟨q_awkB rfl rfl, trivial⟩, trivial⟩ fun ac g w hS => ?_
 refine then_n ?_
 refine wp_ret ?_
 refine then_ret ?_
 exact body_ret hS.f.frm (results1 Tryd.results9 (RV.tmp hS.f.frm rfl)) ⟨hS.gr0, rfl⟩
set_option maxRecDepth 100000 in
set_option maxHeartbeats 4000000 in
theorem hyb_b {X : List Nat} {l : List Ac} {kem dh broken : Bool} {v : Value} (w0 : World) (hX : ∀ x, x ∈ X → x < w0.heap.size) (h00 : 0 ∈ X) (hT : T0 w0) (hv : (acS l).hold ⟨[], [], X, []⟩ w0 v) (hl : l.length ≤ 12) : Calls Tryd.prog 9 (List.toArray [v, .bool kem, .bool dh, .bool broken]) w0 (Ret fun v w' => Gr w0 w' ∧ v = .bool true) := by
 have hkl : (hyE kem dh broken l).keys.length ≤ 1000000 := by have := (hyEG kem dh broken l).small.hy; omega
 refine enterR (F := []) (ρ := begR (andY noY tabY) w0.heap.size) [acS l, eqS (vB kem), eqS (vB dh), eqS (vB broken)] hX ⟨rfl, ⟨trivial, h00, hT⟩, Nat.le_refl _, hX⟩ ⟨hv, rfl, rfl, rfl, trivial⟩ Tryd.func9 rfl Tryd.ntmps9 rfl fun ac hS => ?_
 refine wp_seq ?_
 refine rgl0 hS [] [0, 1, 2, 3, 8] (Lo := [(0, acS l), (1, eqS (vB kem)), (2, eqS (vB dh)), (3, eqS (vB broken)), (8, eqS vf)]) (by kernel_rfl) (by kernel_rfl) trivial fun ac g w hS => ?_
 refine then_n ?_
 refine wp_seq ?_
 refine wp_seq ?_
 refine rgl0 hS [e0 1 [(14, acS l)] (eqS (vI l.length)), e0 2 [(15, eqS (vI l.length))] (eqS vf)] [0, 1, 2, 3, 8, 16] (Lo := [(0, acS l), (1, eqS (vB kem)), (2, eqS (vB dh)), (3, eqS (vB broken)), (8, eqS vf), (16, eqS vf)]) (by kernel_rfl) (by kernel_rfl) ⟨⟨q_acLen rfl rfl, trivial⟩, ⟨q_cmp rfl rfl rfl (congrArg some (decide_eq_false (by omega))), trivial⟩, trivial⟩ fun ac g w hS => ?_
 refine then_n ?_
 refine wp_cond_false (hS.f.frm.eval rfl) ?_
 refine wp_skip ?_
 refine then_n ?_
 refine wp_seq ?_
 refine rgl [e1 1 [(18, eqS (vB kem))] (ptS 0)] [0, 1, 2, 3, 8, 9, 16] (Bl [stB (begR (andY noY tabY) w0.heap.size) [], stB (lawN (andY noY tabY) w0.heap.size 0 (Rn.new kem)) [(0, topS)]]) 1 (Lo := [(0, acS l), (1, eqS (vB kem)), (2, eqS (vB dh)), (3, eqS (vB broken)), (8, eqS vf), (9, ptS 0), (16, eqS vf)]) (by kernel_rfl) (by kernel_rfl) ⟨⟨m_new rfl rfl rfl rfl rfl, trivial⟩, trivial⟩ hS rfl fun ac g w hS => ?_
 obtain ⟨b, hS⟩ := hS.bornL (t := 9) rfl
 refine then_n ?_
 refine wp_seq ?_
 refine wp_seq ?_
 refine rgl0 hS [e0 1 [(20, eqS (vP b 0))] (eqS vf)] [0, 1, 2, 3, 8, 9, 16, 21] (Lo := [(0, acS l), (1, eqS (vB kem)), (2, eqS (vB dh)), (3, eqS (vB broken)), (8, eqS vf), (9, eqS (vP b 0)), (16, eqS vf), (21, eqS vf)]) (by kernel_rfl) (by kernel_rfl) ⟨⟨q_ptr rfl rfl rfl rfl, trivial⟩, trivial⟩ fun ac g w hS => ?_
 refine then_n ?_
 refine wp_cond_false (hS.f.frm.eval rfl) ?_
 refine wp_skip ?_
 refine then_n ?_
 refine wp_seq ?_
 refine wp_seq ?_
 refine rgl0 hS [] [0, 1, 2, 3, 8, 9, 10, 16, 21] (Lo := [(0, acS l), (1, eqS (vB kem)), (2, eqS (vB dh)), (3, eqS (vB broken)), (8, eqS vf), (9, eqS (vP b 0)), (10, eqS (vI 0)), (16, eqS vf), (21, eqS vf)]) (by kernel_rfl) (by kernel_rfl) trivial fun ac g w hS => ?_
 refine then_n ?_
 refine wp_block ?_
 refine wp_loop_k (fun d ac w => ∃ (i : Nat) (g : Gh), d = l.length - i ∧ (i ≤ l.length) ∧ SS [(0, acS l), (1, eqS (vB kem)), (2, eqS (vB dh)), (3, eqS (vB broken)), (9, eqS (vP b 0)), (10, eqS (vI i))] 95 (stB (lawR (andY noY tabY) w0.heap.size b (hyR kem l i)) [(0, topS)]) ⟨[], [], X, []⟩ w0 ac g w) _ ⟨0, _, rfl, Nat.zero_le _, hS.to ⟨rfl, rfl, rfl, rfl, rfl, rfl, trivial⟩⟩ ?_
 rintro _ ac w ⟨i, g, rfl, hi, hS⟩
 refine wp_seq ?_
 refine wp_seq ?_
 refine rgl0 hS [e0 2 [(23, acS l)] (eqS (vI l.length))] [0, 1, 2, 3, 9, 10, 25] (Lo := [(0, acS l), (1, eqS (vB kem)), (2, eqS (vB dh)), (3, eqS (vB broken)), (9, eqS (vP b 0)), (10, eqS (vI i)), (25, eqS (vB (decide ((i : Int) < l.length))))]) (by kernel_rfl) (by kernel_rfl) ⟨⟨q_acLen rfl rfl, trivial⟩, trivial⟩ fun ac g w hS => ?_
 refine then_n ?_
 refine wp_if hS.f.frm rfl (fun h => ?_) (fun h => ?_)
 ·have hc := of_decide_eq_true h
  clear h
  have hc := Int.ofNat_lt.1 hc
  obtain ⟨a, ha⟩ : ∃ a, l[i]? = some a := ⟨_, List.getElem?_eq_getElem hc⟩
  refine wp_skip ?_
  refine then_n ?_
  refine wp_seq ?_
  refine wp_block ?_
  refine wp_seq ?_
  rcases kinds a.k with h1 | ⟨h1, h2⟩ | ⟨h1, h2⟩
  ·skip
   refine rgl0 hS [e0 2 [(28, acS l), (29, eqS (vI i))] (apS a 0), e0 3 [(30, apS a 0)] (apS a 0), e0 4 [(31, apS a 0)] (eqS (vI a.k)), e0 5 [(32, eqS (vI a.k))] (eqS vt)] [0, 1, 2, 3, 9, 10, 25, 41] (Lo := [(0, acS l), (1, eqS (vB kem)), (2, eqS (vB dh)), (3, eqS (vB broken)), (9, eqS (vP b 0)), (10, eqS (vI i)), (25, eqS (vB (decide ((i : Int) < l.length)))), (41, eqS vt)]) (by kernel_rfl) (by kernel_rfl) ⟨⟨q_acIx rfl rfl rfl ha, trivial⟩, ⟨q_acF rfl rfl sz3 Tryd.underlying52 rfl rfl, trivial⟩, ⟨q_acL rfl rfl Tryd.underlying3 rfl rfl, trivial⟩, ⟨q_cmp rfl rfl rfl (congrArg some (decide_eq_true h1)), trivial⟩, trivial⟩ fun ac g w hS => ?_
   refine then_n ?_
   refine wp_cond_true (hS.f.frm.eval rfl) ?_
   refine rga mo [e0 3 [(43, acS l), (44, eqS (vI i))] (apS a 0), e0 4 [(45, apS a 0)] (apS a 0), e0 5 [(46, apS a 0)] (eqS (vI a.k)), e0 8 [(48, acS l), (49, eqS (vI i))] (apS a 0), e0 9 [(50, apS a 0)] (apS a 1), e0 10 [(51, apS a 1)] (eqS (vI a.who)), e0 11 [(52, eqS (vI a.who))] (eqS (vI (a.who % 2))), e0 13 [(47, eqS (vI a.k)), (53, eqS (vI (a.who % 2))), (54, eqS (vB kem))] (agS (cxV [vI a.k, vI (a.who % 2), .bool kem])), e1 14 [(42, eqS (vP b 0)), (55, agS (cxV [vI a.k, vI (a.who % 2), .bool kem]))] topS] [0, 1, 2, 3, 9, 10, 25, 41] (Bl [stB (lawR (andY noY tabY) w0.heap.size b (hyR kem l i)) [(0, topS)], stB (lawR (andY noY tabY) w0.heap.size b (hyR kem l (i + 1))) [(0, topS)]]) 1 (Lo := [(0, acS l), (1, eqS (vB kem)), (2, eqS (vB dh)), (3, eqS (vB broken)), (9, eqS (vP b 0)), (10, eqS (vI i)), (25, eqS (vB (decide ((i : Int) < l.length)))), (41, eqS vt)]) (by kernel_rfl) (by kernel_rfl) ⟨⟨q_acIx rfl rfl rfl ha, trivial⟩, ⟨q_acF rfl rfl sz3 Tryd.underlying52 rfl rfl, trivial⟩, ⟨q_acL rfl rfl Tryd.underlying3 rfl rfl, trivial⟩, ⟨q_acIx rfl rfl rfl ha, trivial⟩, ⟨q_acF rfl rfl sz3 Tryd.underlying52 rfl rfl, trivial⟩, ⟨q_acL rfl rfl Tryd.underlying3 rfl rfl, trivial⟩, ⟨q_st rfl fun ξ g w hB hH => ok_call c17 rfl (round_ok w), trivial⟩, ⟨q_act3 rfl rfl rfl rfl, trivial⟩, ⟨m_doT (kd := a.k) (wh := a.who % 2) (c := kem) (hyG kem l i) (hyR_yes ha (.inl h1)) rfl rfl rfl rfl rfl, trivial⟩, trivial⟩ hS rfl fun ac g w hS => ?_
   refine block_n ?_
   refine then_n ?_
   refine rgl0 hS [e0 1 [(26, eqS (vI i))] (eqS (vI (((i : Nat) : Int) + 1)))] [0, 1, 2, 3, 9, 10, 25, 41] (Lo := [(0, acS l), (1, eqS (vB kem)), (2, eqS (vB dh)), (3, eqS (vB broken)), (9, eqS (vP b 0)), (10, eqS (vI (((i : Nat) : Int) + 1))), (25, eqS (vB (decide ((i : Int) < l.length)))), (41, eqS vt)]) (by kernel_rfl) (by kernel_rfl) ⟨⟨q_val fun ξ g w hB hH => ⟨_, rfl, d_add rfl rfl (wrap_i64 (by omega) (by omega))⟩, trivial⟩, trivial⟩ fun ac g w hS => ?_
   refine then_n ?_
   refine ⟨_, ?_, i + 1, _, rfl, hc, hS.to ⟨rfl, rfl, rfl, rfl, rfl, rfl, trivial⟩⟩
   omega
  ·skip
   refine rgl0 hS [e0 2 [(28, acS l), (29, eqS (vI i))] (apS a 0), e0 3 [(30, apS a 0)] (apS a 0), e0 4 [(31, apS a 0)] (eqS (vI a.k)), e0 5 [(32, eqS (vI a.k))] (eqS vf), e0 9 [(34, eqS vf), (35, acS l), (36, eqS (vI i))] (apS a 0), e0 10 [(34, eqS vf), (37, apS a 0)] (apS a 0), e0 11 [(34, eqS vf), (38, apS a 0)] (eqS (vI a.k)), e0 12 [(34, eqS vf), (39, eqS (vI a.k))] (eqS vt)] [0, 1, 2, 3, 9, 10, 25, 41] (Lo := [(0, acS l), (1, eqS (vB kem)), (2, eqS (vB dh)), (3, eqS (vB broken)), (9, eqS (vP b 0)), (10, eqS (vI i)), (25, eqS (vB (decide ((i : Int) < l.length)))), (41, eqS vt)]) (by kernel_rfl) (by kernel_rfl) ⟨⟨q_acIx rfl rfl rfl ha, trivial⟩, ⟨q_acF rfl rfl sz3 Tryd.underlying52 rfl rfl, trivial⟩, ⟨q_acL rfl rfl Tryd.underlying3 rfl rfl, trivial⟩, ⟨q_cmp rfl rfl rfl (congrArg some (decide_eq_false h1)), trivial⟩, ⟨q_acIx rfl rfl rfl ha, trivial⟩, ⟨q_acF rfl rfl sz3 Tryd.underlying52 rfl rfl, trivial⟩, ⟨q_acL rfl rfl Tryd.underlying3 rfl rfl, trivial⟩, ⟨q_cmp rfl rfl rfl (congrArg some (decide_eq_true h2)), trivial⟩, trivial⟩ fun ac g w hS => ?_
   refine then_n ?_
   refine wp_cond_true (hS.f.frm.eval rfl) ?_
   refine rga mo [e0 3 [(43, acS l), (44, eqS (vI i))] (apS a 0), e0 4 [(45, apS a 0)] (apS a 0), e0 5 [(46, apS a 0)] (eqS (vI a.k)), e0 8 [(48, acS l), (49, eqS (vI i))] (apS a 0), e0 9 [(50, apS a 0)] (apS a 1), e0 10 [(51, apS a 1)] (eqS (vI a.who)), e0 11 [(52, eqS (vI a.who))] (eqS (vI (a.who % 2))), e0 13 [(47, eqS (vI a.k)), (53, eqS (vI (a.who % 2))), (54, eqS (vB kem))] (agS (cxV [vI a.k, vI (a.who % 2), .bool kem])), e1 14 [(42, eqS (vP b 0)), (55, agS (cxV [vI a.k, vI (a.who % 2), .bool kem]))] topS] [0, 1, 2, 3, 9, 10, 25, 41] (Bl [stB (lawR (andY noY tabY) w0.heap.size b (hyR kem l i)) [(0, topS)], stB (lawR (andY noY tabY) w0.heap.size b (hyR kem l (i + 1))) [(0, topS)]]) 1 (Lo := [(0, acS l), (1, eqS (vB kem)), (2, eqS (vB dh)), (3, eqS (vB broken)), (9, eqS (vP b 0)), (10, eqS (vI i)), (25, eqS (vB (decide ((i : Int) < l.length)))), (41, eqS vt)]) (by kernel_rfl) (by kernel_rfl) ⟨⟨q_acIx rfl rfl rfl ha, trivial⟩, ⟨q_acF rfl rfl sz3 Tryd.underlying52 rfl rfl, trivial⟩, ⟨q_acL rfl rfl Tryd.underlying3 rfl rfl, trivial⟩, ⟨q_acIx rfl rfl rfl ha, trivial⟩, ⟨q_acF rfl rfl sz3 Tryd.underlying52 rfl rfl, trivial⟩, ⟨q_acL rfl rfl Tryd.underlying3 rfl rfl, trivial⟩, ⟨q_st rfl fun ξ g w hB hH => ok_call c17 rfl (round_ok w), trivial⟩, ⟨q_act3 rfl rfl rfl rfl, trivial⟩, ⟨m_doT (kd := a.k) (wh := a.who % 2) (c := kem) (hyG kem l i) (hyR_yes ha (.inr h2)) rfl rfl rfl rfl rfl, trivial⟩, trivial⟩ hS rfl fun ac g w hS => ?_
   refine block_n ?_
   refine then_n ?_
   refine rgl0 hS [e0 1 [(26, eqS (vI i))] (eqS (vI (((i : Nat) : Int) + 1)))] [0, 1, 2, 3, 9, 10, 25, 41] (Lo := [(0, acS l), (1, eqS (vB kem)), (2, eqS (vB dh)), (3, eqS (vB broken)), (9, eqS (vP b 0)), (10, eqS (vI (((i : Nat) : Int) + 1))), (25, eqS (vB (decide ((i : Int) < l.length)))), (41, eqS vt)]) (by kernel_rfl) (by kernel_rfl) ⟨⟨q_val fun ξ g w hB hH => ⟨_, rfl, d_add rfl rfl (wrap_i64 (by omega) (by omega))⟩, trivial⟩, trivial⟩ fun ac g w hS => ?_
   refine then_n ?_
   refine ⟨_, ?_, i + 1, _, rfl, hc, hS.to ⟨rfl, rfl, rfl, rfl, rfl, rfl, trivial⟩⟩
   omega
  ·skip
   refine rgl0 hS [e0 2 [(28, acS l), (29, eqS (vI i))] (apS a 0), e0 3 [(30, apS a 0)] (apS a 0), e0 4 [(31, apS a 0)] (eqS (vI a.k)), e0 5 [(32, eqS (vI a.k))] (eqS vf), e0 9 [(34, eqS vf), (35, acS l), (36, eqS (vI i))] (apS a 0), e0 10 [(34, eqS vf), (37, apS a 0)] (apS a 0), e0 11 [(34, eqS vf), (38, apS a 0)] (eqS (vI a.k)), e0 12 [(34, eqS vf), (39, eqS (vI a.k))] (eqS vf)] [0, 1, 2, 3, 9, 10, 25, 41] (Lo := [(0, acS l), (1, eqS (vB kem)), (2, eqS (vB dh)), (3, eqS (vB broken)), (9, eqS (vP b 0)), (10, eqS (vI i)), (25, eqS (vB (decide ((i : Int) < l.length)))), (41, eqS vf)]) (by kernel_rfl) (by kernel_rfl) ⟨⟨q_acIx rfl rfl rfl ha, trivial⟩, ⟨q_acF rfl rfl sz3 Tryd.underlying52 rfl rfl, trivial⟩, ⟨q_acL rfl rfl Tryd.underlying3 rfl rfl, trivial⟩, ⟨q_cmp rfl rfl rfl (congrArg some (decide_eq_false h1)), trivial⟩, ⟨q_acIx rfl rfl rfl ha, trivial⟩, ⟨q_acF rfl rfl sz3 Tryd.underlying52 rfl rfl, trivial⟩, ⟨q_acL rfl rfl Tryd.underlying3 rfl rfl, trivial⟩, ⟨q_cmp rfl rfl rfl (congrArg some (decide_eq_false h2)), trivial⟩, trivial⟩ fun ac g w hS => ?_
   refine then_n ?_
   refine wp_cond_false (hS.f.frm.eval rfl) ?_
   refine wp_skip ?_
   refine block_n ?_
   refine then_n ?_
   refine rgl0 hS [e0 1 [(26, eqS (vI i))] (eqS (vI (((i : Nat) : Int) + 1)))] [0, 1, 2, 3, 9, 10, 25, 41] (Lo := [(0, acS l), (1, eqS (vB kem)), (2, eqS (vB dh)), (3, eqS (vB broken)), (9, eqS (vP b 0)), (10, eqS (vI (((i : Nat) : Int) + 1))), (25, eqS (vB (decide ((i : Int) < l.length)))), (41, eqS vf)]) (by kernel_rfl) (by kernel_rfl) ⟨⟨q_val fun ξ g w hB hH => ⟨_, rfl, d_add rfl rfl (wrap_i64 (by omega) (by omega))⟩, trivial⟩, trivial⟩ fun ac g w hS => ?_
   refine then_n ?_
   refine ⟨_, ?_, i + 1, _, rfl, hc, by rw [← hyR_no ha (by omega)]; exact hS.to ⟨rfl, rfl, rfl, rfl, rfl, rfl, trivial⟩⟩
   omega
 ·have hc := of_decide_eq_false h
  clear h
  obtain rfl : i = l.length := by omega
  refine wp_exit ?_
  refine then_exit ?_
  refine then_exit ?_
  refine block_exit ?_
  refine then_n ?_
  refine wp_seq ?_
  refine wp_seq ?_
  refine rgl0 hS [] [0, 1, 2, 3, 9, 57] (Lo := [(0, acS l), (1, eqS (vB kem)), (2, eqS (vB dh)), (3, eqS (vB broken)), (9, eqS (vP b 0)), (57, eqS (vB dh))]) (by kernel_rfl) (by kernel_rfl) trivial fun ac g w hS => ?_
  refine then_n ?_
  refine wp_join (fun ac w => ∃  (g : Gh), SS [(0, acS l), (1, eqS (vB kem)), (2, eqS (vB dh)), (3, eqS (vB broken)), (9, eqS (vP b 0))] 95 (stB (lawR (andY noY tabY) w0.heap.size b (brk dh (hyR kem l l.length) 4)) [(0, topS)]) ⟨[], [], X, []⟩ w0 ac g w) ?_ ?_
  rotate_left
  ·rintro ac w ⟨g, hS⟩
   refine wp_seq ?_
   refine wp_seq ?_
   refine rgl0 hS [] [0, 1, 2, 3, 9, 61] (Lo := [(0, acS l), (1, eqS (vB kem)), (2, eqS (vB dh)), (3, eqS (vB broken)), (9, eqS (vP b 0)), (61, eqS (vB broken))]) (by kernel_rfl) (by kernel_rfl) trivial fun ac g w hS => ?_
   refine then_n ?_
   refine wp_join (fun ac w => ∃  (g : Gh), SS [(0, acS l), (1, eqS (vB kem)), (2, eqS (vB dh)), (3, eqS (vB broken)), (9, eqS (vP b 0))] 95 (stB (lawR (andY noY tabY) w0.heap.size b (hyE kem dh broken l)) [(0, topS)]) ⟨[], [], X, []⟩ w0 ac g w) ?_ ?_
   rotate_left
   ·rintro ac w ⟨g, hS⟩
    refine wp_seq ?_
    refine wp_join (fun ac w => ∃  (g : Gh), SS [(1, eqS (vB kem)), (2, eqS (vB dh)), (3, eqS (vB broken)), (9, eqS (vP b 0)), (11, eqS (vB (safe kem dh broken)))] 95 (stB (lawR (andY noY tabY) w0.heap.size b (hyE kem dh broken l)) [(0, topS)]) ⟨[], [], X, []⟩ w0 ac g w) ?_ ?_
    rotate_left
    ·rintro ac w ⟨g, hS⟩
     refine wp_seq ?_
     refine rgl0 hS [e0 1 [(74, eqS (vP b 0))] (ksS (hyE kem dh broken l).keys)] [1, 2, 3, 9, 11, 12] (Lo := [(1, eqS (vB kem)), (2, eqS (vB dh)), (3, eqS (vB broken)), (9, eqS (vP b 0)), (11, eqS (vB (safe kem dh broken))), (12, ksS (hyE kem dh broken l).keys)]) (by kernel_rfl) (by kernel_rfl) ⟨⟨q_keys (hyEG kem dh broken l) rfl rfl rfl, trivial⟩, trivial⟩ fun ac g w hS => ?_
     refine then_n ?_
     refine wp_seq ?_
     refine wp_seq ?_
     refine rgl0 hS [] [1, 2, 3, 9, 11, 12, 13] (Lo := [(1, eqS (vB kem)), (2, eqS (vB dh)), (3, eqS (vB broken)), (9, eqS (vP b 0)), (11, eqS (vB (safe kem dh broken))), (12, ksS (hyE kem dh broken l).keys), (13, eqS (vI 0))]) (by kernel_rfl) (by kernel_rfl) trivial fun ac g w hS => ?_
     refine then_n ?_
     refine wp_block ?_
     refine wp_loop_k (fun d ac w => ∃ (m : Nat) (g : Gh), d = (hyE kem dh broken l).keys.length - m ∧ (m ≤ (hyE kem dh broken l).keys.length) ∧ SS [(9, eqS (vP b 0)), (11, eqS (vB (safe kem dh broken))), (12, ksS (hyE kem dh broken l).keys), (13, eqS (vI m))] 95 (stB (lawR (andY noY tabY) w0.heap.size b (hyE kem dh broken l)) [(0, topS)]) ⟨[], [], X, []⟩ w0 ac g w) _ ⟨0, _, rfl, Nat.zero_le _, hS.to ⟨rfl, rfl, rfl, rfl, trivial⟩⟩ ?_
     rintro _ ac w ⟨m, g, rfl, hm, hS⟩
     refine wp_seq ?_
     refine wp_seq ?_
     refine rgl0 hS [e0 2 [(77, ksS (hyE kem dh broken l).keys)] (eqS (vI ((hyE kem dh broken l).keys.length)))] [9, 11, 12, 13, 79] (Lo := [(9, eqS (vP b 0)), (11, eqS (vB (safe kem dh broken))), (12, ksS (hyE kem dh broken l).keys), (13, eqS (vI m)), (79, eqS (vB (decide ((m : Int) < (hyE kem dh broken l).keys.length))))]) (by kernel_rfl) (by kernel_rfl) ⟨⟨q_ksLen rfl rfl, trivial⟩, trivial⟩ fun ac g w hS => ?_
     refine then_n ?_
     refine wp_if hS.f.frm rfl (fun h => ?_) (fun h => ?_)
     ·have hc := of_decide_eq_true h
      clear h
      have hc := Int.ofNat_lt.1 hc
      refine wp_skip ?_
      refine then_n ?_
      refine wp_seq ?_
      refine wp_block ?_
      refine wp_seq ?_
      refine rgl0 hS [e0 2 [(82, eqS (vP b 0)), (83, eqS (vI m))] (eqS (vB (safe kem dh broken))), e0 4 [(84, eqS (vB (safe kem dh broken))), (85, eqS (vB (safe kem dh broken)))] (eqS vf), e0 8 [(87, eqS vf), (88, eqS (vP b 0)), (89, eqS (vI m))] (eqS (vB (!safe kem dh broken))), e0 10 [(87, eqS vf), (90, eqS (vB (!safe kem dh broken))), (91, eqS (vB (safe kem dh broken)))] (eqS vf)] [9, 11, 12, 13, 79, 93] (Lo := [(9, eqS (vP b 0)), (11, eqS (vB (safe kem dh broken))), (12, ksS (hyE kem dh broken l).keys), (13, eqS (vI m)), (79, eqS (vB (decide ((m : Int) < (hyE kem dh broken l).keys.length)))), (93, eqS vf)]) (by kernel_rfl) (by kernel_rfl) ⟨⟨q_clean (hyEG kem dh broken l) rfl rfl rfl rfl (hyE_clean hl hc), trivial⟩, ⟨q_neqBB rfl rfl rfl, trivial⟩, ⟨q_dvc (hyEG kem dh broken l) rfl rfl rfl rfl (by rw [hyE_clean hl hc, decide_eq_true ⟨by omega, by omega⟩]; rfl), trivial⟩, ⟨q_eqBB rfl rfl rfl (by cases safe kem dh broken <;> rfl), trivial⟩, trivial⟩ fun ac g w hS => ?_
      refine then_n ?_
      refine wp_cond_false (hS.f.frm.eval rfl) ?_
      refine wp_skip ?_
      refine block_n ?_
      refine then_n ?_
      refine rgl0 hS [e0 1 [(80, eqS (vI m))] (eqS (vI (((m : Nat) : Int) + 1)))] [9, 11, 12, 13, 79, 93] (Lo := [(9, eqS (vP b 0)), (11, eqS (vB (safe kem dh broken))), (12, ksS (hyE kem dh broken l).keys), (13, eqS (vI (((m : Nat) : Int) + 1))), (79, eqS (vB (decide ((m : Int) < (hyE kem dh broken l).keys.length)))), (93, eqS vf)]) (by kernel_rfl) (by kernel_rfl) ⟨⟨q_val fun ξ g w hB hH => ⟨_, rfl, d_add rfl rfl (wrap_i64 (by omega) (by omega))⟩, trivial⟩, trivial⟩ fun ac g w hS => ?_
      refine then_n ?_
      refine ⟨_, ?_, m + 1, _, rfl, hc, hS.to ⟨rfl, rfl, rfl, rfl, trivial⟩⟩
      omega
     ·have hc := of_decide_eq_false h
      clear h
      clear hm
      refine wp_exit ?_
      refine then_exit ?_
      refine then_exit ?_
      refine block_exit ?_
      refine then_n ?_
      refine wp_seq ?_
      refine rgl0 hS [e0 0 [] (eqS vt)] [8, 9, 11, 12] (Lo := [(8, eqS vt), (9, eqS (vP b 0)), (11, eqS (vB (safe kem dh broken))), (12, ksS (hyE kem dh broken l).keys)]) (by kernel_rfl) (by kernel_rfl) ⟨⟨q_awkL rfl rfl, trivial⟩, trivial⟩ fun ac g w hS => ?_
      refine then_n ?_
      refine wp_ret ?_
      exact body_ret hS.f.frm (results1 Tryd.results9 (RV.tmp hS.f.frm rfl)) ⟨hS.gr0, rfl⟩
    cases dh <;> cases kem <;> cases broken
    ·skip
     refine rgl0 hS [] [0, 1, 2, 3, 9, 11] (Lo := [(0, acS l), (1, eqS vf), (2, eqS vf), (3, eqS vf), (9, eqS (vP b 0)), (11, eqS vt)]) (by kernel_rfl) (by kernel_rfl) trivial fun ac g w hS => ?_
     refine then_n ?_
     exact ⟨g, hS.to ⟨rfl, rfl, rfl, rfl, rfl, trivial⟩⟩
    ·skip
     refine rgl0 hS [] [0, 1, 2, 3, 9, 11] (Lo := [(0, acS l), (1, eqS vf), (2, eqS vf), (3, eqS vt), (9, eqS (vP b 0)), (11, eqS vt)]) (by kernel_rfl) (by kernel_rfl) trivial fun ac g w hS => ?_
     refine then_n ?_
     exact ⟨g, hS.to ⟨rfl, rfl, rfl, rfl, rfl, trivial⟩⟩
    ·skip
     refine rgl0 hS [] [0, 1, 2, 3, 9, 11] (Lo := [(0, acS l), (1, eqS vt), (2, eqS vf), (3, eqS vf), (9, eqS (vP b 0)), (11, eqS vt)]) (by kernel_rfl) (by kernel_rfl) trivial fun ac g w hS => ?_
     refine then_n ?_
     exact ⟨g, hS.to ⟨rfl, rfl, rfl, rfl, rfl, trivial⟩⟩
    ·skip
     refine rgl0 hS [] [0, 1, 2, 3, 9, 11] (Lo := [(0, acS l), (1, eqS vt), (2, eqS vf), (3, eqS vt), (9, eqS (vP b 0)), (11, eqS vt)]) (by kernel_rfl) (by kernel_rfl) trivial fun ac g w hS => ?_
     refine then_n ?_
     exact ⟨g, hS.to ⟨rfl, rfl, rfl, rfl, rfl, trivial⟩⟩
    ·skip
     refine rgl0 hS [] [0, 1, 2, 3, 9, 11] (Lo := [(0, acS l), (1, eqS vf), (2, eqS vt), (3, eqS vf), (9, eqS (vP b 0)), (11, eqS vf)]) (by kernel_rfl) (by kernel_rfl) trivial fun ac g w hS => ?_
     refine then_n ?_
     exact ⟨g, hS.to ⟨rfl, rfl, rfl, rfl, rfl, trivial⟩⟩
    ·skip
     refine rgl0 hS [] [0, 1, 2, 3, 9, 11] (Lo := [(0, acS l), (1, eqS vf), (2, eqS vt), (3, eqS vt), (9, eqS (vP b 0)), (11, eqS vf)]) (by kernel_rfl) (by kernel_rfl) trivial fun ac g w hS => ?_
     refine then_n ?_
     exact ⟨g, hS.to ⟨rfl, rfl, rfl, rfl, rfl, trivial⟩⟩
    ·skip
     refine rgl0 hS [] [0, 1, 2, 3, 9, 11] (Lo := [(0, acS l), (1, eqS vt), (2, eqS vt), (3, eqS vf), (9, eqS (vP b 0)), (11, eqS vt)]) (by kernel_rfl) (by kernel_rfl) trivial fun ac g w hS => ?_
     refine then_n ?_
     exact ⟨g, hS.to ⟨rfl, rfl, rfl, rfl, rfl, trivial⟩⟩
    ·skip
     refine rgl0 hS [] [0, 1, 2, 3, 9, 11] (Lo := [(0, acS l), (1, eqS vt), (2, eqS vt), (3, eqS vt), (9, eqS (vP b 0)), (11, eqS vf)]) (by kernel_rfl) (by kernel_rfl) trivial fun ac g w hS => ?_
     refine then_n ?_
     exact ⟨g, hS.to ⟨rfl, rfl, rfl, rfl, rfl, trivial⟩⟩
   refine wp_if hS.f.frm rfl (fun h => ?_) (fun h => ?_)
   ·have hb := h
    clear h
    subst hb
    refine rgl [e0 1 [] (agS (cxV [vI 5, vI 0, .bool false])), e1 2 [(62, eqS (vP b 0)), (63, agS (cxV [vI 5, vI 0, .bool false]))] topS] [0, 1, 2, 3, 9, 61] (Bl [stB (lawR (andY noY tabY) w0.heap.size b (brk dh (hyR kem l l.length) 4)) [(0, topS)], stB (lawR (andY noY tabY) w0.heap.size b ((brk dh (hyR kem l l.length) 4).doAct 5 0 false)) [(0, topS)]]) 1 (Lo := [(0, acS l), (1, eqS (vB kem)), (2, eqS (vB dh)), (3, eqS vt), (9, eqS (vP b 0)), (61, eqS vt)]) (by kernel_rfl) (by kernel_rfl) ⟨⟨q_act1 rfl rfl, trivial⟩, ⟨m_doT (kd := 5) (wh := 0) (c := false) (brkG dh 4 (hyG kem l l.length)) rfl rfl rfl rfl rfl rfl, trivial⟩, trivial⟩ hS rfl fun ac g w hS => ?_
    refine then_n ?_
    exact ⟨g, hS.to ⟨rfl, rfl, rfl, rfl, rfl, trivial⟩⟩
   ·have hb := h
    clear h
    subst hb
    refine wp_skip ?_
    refine then_n ?_
    exact ⟨g, hS.to ⟨rfl, rfl, rfl, rfl, rfl, trivial⟩⟩
  refine wp_if hS.f.frm rfl (fun h => ?_) (fun h => ?_)
  ·have hd := h
   clear h
   subst hd
   refine rgl [e0 1 [] (agS (cxV [vI 4, vI 0, .bool false])), e1 2 [(58, eqS (vP b 0)), (59, agS (cxV [vI 4, vI 0, .bool false]))] topS] [0, 1, 2, 3, 9, 57] (Bl [stB (lawR (andY noY tabY) w0.heap.size b (hyR kem l l.length)) [(0, topS)], stB (lawR (andY noY tabY) w0.heap.size b ((hyR kem l l.length).doAct 4 0 false)) [(0, topS)]]) 1 (Lo := [(0, acS l), (1, eqS (vB kem)), (2, eqS vt), (3, eqS (vB broken)), (9, eqS (vP b 0)), (57, eqS vt)]) (by kernel_rfl) (by kernel_rfl) ⟨⟨q_act1 rfl rfl, trivial⟩, ⟨m_doT (kd := 4) (wh := 0) (c := false) (hyG kem l l.length) rfl rfl rfl rfl rfl rfl, trivial⟩, trivial⟩ hS rfl fun ac g w hS => ?_
   refine then_n ?_
   exact ⟨g, hS.to ⟨rfl, rfl, rfl, rfl, rfl, trivial⟩⟩
  ·have hd := h
   clear h
   subst hd
   refine wp_skip ?_
   refine then_n ?_
   exact ⟨g, hS.to ⟨rfl, rfl, rfl, rfl, rfl, trivial⟩⟩
theorem hybrid_walk {l : List Ac} {kem dh broken : Bool} {v : Value} (w0 : World) (hT : T0 w0) (hv : (acS l).hold ⟨[], [], [0], []⟩ w0 v) : Calls Tryd.prog 9 (List.toArray [v, .bool kem, .bool dh, .bool broken]) w0 (Ret fun v w' => v = .bool true ∧ Gr w0 w') := by
 have hX : ∀ x, x ∈ [0] → x < w0.heap.size := fun x hx => by rw [List.mem_singleton.1 hx]; exact hT.size
 have fin : Calls Tryd.prog 9 (List.toArray [v, .bool kem, .bool dh, .bool broken]) w0 (Ret fun v w' => Gr w0 w' ∧ v = .bool true) → Calls Tryd.prog 9 (List.toArray [v, .bool kem, .bool dh, .bool broken]) w0 (Ret fun v w' => v = .bool true ∧ Gr w0 w') := fun h => h.mono fun en w' ⟨v, h1, h2, h3⟩ => ⟨v, h1, h3, h2⟩
 by_cases h : 12 < l.length
 ·exact fin (hyb_a w0 hX (by simp) hT hv h)
 ·exact fin (hyb_b w0 hX (by simp) hT hv (by omega))
end Go.Mi.Term
