/- Walks: package symbol. -/
import Derived.Test.YtoefhjabaanokaaDoorH37
set_option linter.unusedSimpArgs false
set_option linter.unusedVariables false
set_option linter.unnecessarySimpa false
namespace Go.Mi.Term
open Go.Mi Go.Proofs Go.RowKit
set_option maxRecDepth 100000 in
set_option maxHeartbeats 4000000 in
theorem same_a {X : List Nat} {a b : Tm} {v u : Value} (w0 : World) (hX : ∀ x, x ∈ X → x < w0.heap.size) (h00 : 0 ∈ X) (hT : T0 w0) (hv : TmIs w0 X a v) (hu : TmIs w0 X b u) (h1 : may a = false) : Calls Tryd.prog 31 (List.toArray [v, u]) w0 (Ret fun v w' => Gr w0 w' ∧ v = .bool false) := by
 refine enterR (F := []) (ρ := tabY.rx) [tmS a, tmS b] hX ⟨rfl, h00, hT⟩ ⟨hv, hu, trivial⟩ Tryd.func31 rfl Tryd.ntmps31 rfl fun ac hS => ?_
 refine wp_seq ?_
 refine rgl [e1 0 [(0, tmS a)] (nwS 0), ⟨1, [(1, tmS b)], nwS 1, [1], true⟩] [0, 1, 2, 3, 4] (Bl [stB tabY.rx [], stB tabY.rx [(26, tmS a)], stB tabY.rx [(26, tmS a), (26, tmS b)]]) 2 (Lo := [(0, tmS a), (1, tmS b), (2, nwS 0), (3, nwS 1), (4, eqS vf)]) (by kernel_rfl) (by kernel_rfl) ⟨⟨m_box rfl rfl rfl rfl (agg_tm _).sized rfl, trivial⟩, ⟨m_box rfl rfl rfl rfl (agg_tm _).sized rfl, trivial⟩, trivial⟩ hS rfl fun ac g w hS => ?_
 refine then_n ?_
 refine wp_seq ?_
 refine rga0 mo hS [e0 0 [(2, nwS 0)] (tmS a), e0 1 [(5, tmS a)] (eqS vf)] [0, 1, 2, 3, 4] (Lo := [(0, tmS a), (1, tmS b), (2, nwS 0), (3, nwS 1), (4, eqS vf)]) (by kernel_rfl) (by kernel_rfl) ⟨⟨q_loadN (k := 0) rfl rfl rfl rfl (by decide) Tryd.underlying26 rfl sz26 (agg_tm _).sized, trivial⟩, ⟨q_may rfl rfl h1, trivial⟩, trivial⟩ fun ac g w hS => ?_
 refine then_n ?_
 refine wp_ret ?_
 exact body_ret hS.f.frm (results1 Tryd.results31 (RV.tmp hS.f.frm rfl)) ⟨hS.gr0, rfl⟩
set_option maxRecDepth 100000 in
set_option maxHeartbeats 4000000 in
theorem same_b {X : List Nat} {a b : Tm} {v u : Value} (w0 : World) (hX : ∀ x, x ∈ X → x < w0.heap.size) (h00 : 0 ∈ X) (hT : T0 w0) (hv : TmIs w0 X a v) (hu : TmIs w0 X b u) (h1 : may a = true) (h2 : may b = false) : Calls Tryd.prog 31 (List.toArray [v, u]) w0 (Ret fun v w' => Gr w0 w' ∧ v = .bool false) := by
 refine enterR (F := []) (ρ := tabY.rx) [tmS a, tmS b] hX ⟨rfl, h00, hT⟩ ⟨hv, hu, trivial⟩ Tryd.func31 rfl Tryd.ntmps31 rfl fun ac hS => ?_
 refine wp_seq ?_
 refine rgl [e1 0 [(0, tmS a)] (nwS 0), ⟨1, [(1, tmS b)], nwS 1, [1], true⟩] [0, 1, 2, 3, 4] (Bl [stB tabY.rx [], stB tabY.rx [(26, tmS a)], stB tabY.rx [(26, tmS a), (26, tmS b)]]) 2 (Lo := [(0, tmS a), (1, tmS b), (2, nwS 0), (3, nwS 1), (4, eqS vf)]) (by kernel_rfl) (by kernel_rfl) ⟨⟨m_box rfl rfl rfl rfl (agg_tm _).sized rfl, trivial⟩, ⟨m_box rfl rfl rfl rfl (agg_tm _).sized rfl, trivial⟩, trivial⟩ hS rfl fun ac g w hS => ?_
 refine then_n ?_
 refine wp_seq ?_
 refine rga0 mo hS [e0 0 [(2, nwS 0)] (tmS a), e0 1 [(5, tmS a)] (eqS vt), e0 3 [(7, eqS vt), (3, nwS 1)] (tmS b), e0 4 [(7, eqS vt), (8, tmS b)] (eqS vf)] [0, 1, 2, 3, 4] (Lo := [(0, tmS a), (1, tmS b), (2, nwS 0), (3, nwS 1), (4, eqS vf)]) (by kernel_rfl) (by kernel_rfl) ⟨⟨q_loadN (k := 0) rfl rfl rfl rfl (by decide) Tryd.underlying26 rfl sz26 (agg_tm _).sized, trivial⟩, ⟨q_may rfl rfl h1, trivial⟩, ⟨q_loadN (k := 1) rfl rfl rfl rfl (by decide) Tryd.underlying26 rfl sz26 (agg_tm _).sized, trivial⟩, ⟨q_may rfl rfl h2, trivial⟩, trivial⟩ fun ac g w hS => ?_
 refine then_n ?_
 refine wp_ret ?_
 exact body_ret hS.f.frm (results1 Tryd.results31 (RV.tmp hS.f.frm rfl)) ⟨hS.gr0, rfl⟩
set_option maxRecDepth 100000 in
set_option maxHeartbeats 4000000 in
theorem same_c {X : List Nat} {a b : Tm} {v u : Value} (w0 : World) (hX : ∀ x, x ∈ X → x < w0.heap.size) (h00 : 0 ∈ X) (hT : T0 w0) (hv : TmIs w0 X a v) (hu : TmIs w0 X b u) (h1 : may a = true) (h2 : may b = true) : Calls Tryd.prog 31 (List.toArray [v, u]) w0 (Ret fun v w' => Gr w0 w' ∧ v = .bool (decide (txt a = txt b))) := by
 refine enterR (F := []) (ρ := tabY.rx) [tmS a, tmS b] hX ⟨rfl, h00, hT⟩ ⟨hv, hu, trivial⟩ Tryd.func31 rfl Tryd.ntmps31 rfl fun ac hS => ?_
 refine wp_seq ?_
 refine rgl [e1 0 [(0, tmS a)] (nwS 0), ⟨1, [(1, tmS b)], nwS 1, [1], true⟩] [0, 1, 2, 3, 4] (Bl [stB tabY.rx [], stB tabY.rx [(26, tmS a)], stB tabY.rx [(26, tmS a), (26, tmS b)]]) 2 (Lo := [(0, tmS a), (1, tmS b), (2, nwS 0), (3, nwS 1), (4, eqS vf)]) (by kernel_rfl) (by kernel_rfl) ⟨⟨m_box rfl rfl rfl rfl (agg_tm _).sized rfl, trivial⟩, ⟨m_box rfl rfl rfl rfl (agg_tm _).sized rfl, trivial⟩, trivial⟩ hS rfl fun ac g w hS => ?_
 refine then_n ?_
 refine wp_seq ?_
 refine rga0 mo hS [e0 0 [(2, nwS 0)] (tmS a), e0 1 [(5, tmS a)] (eqS vt), e0 3 [(7, eqS vt), (3, nwS 1)] (tmS b), e0 4 [(7, eqS vt), (8, tmS b)] (eqS vt), e0 7 [(11, eqS vt), (2, nwS 0)] (tmS a), e0 8 [(11, eqS vt), (12, tmS a)] (eqS (vT (txt a))), e0 9 [(11, eqS vt), (3, nwS 1)] (tmS b), e0 10 [(11, eqS vt), (14, tmS b)] (eqS (vT (txt b))), e0 11 [(11, eqS vt), (13, eqS (vT (txt a))), (15, eqS (vT (txt b)))] (eqS (vB (decide (txt a = txt b))))] [0, 1, 2, 3, 4] (Lo := [(0, tmS a), (1, tmS b), (2, nwS 0), (3, nwS 1), (4, eqS (vB (decide (txt a = txt b))))]) (by kernel_rfl) (by kernel_rfl) ⟨⟨q_loadN (k := 0) rfl rfl rfl rfl (by decide) Tryd.underlying26 rfl sz26 (agg_tm _).sized, trivial⟩, ⟨q_may rfl rfl h1, trivial⟩, ⟨q_loadN (k := 1) rfl rfl rfl rfl (by decide) Tryd.underlying26 rfl sz26 (agg_tm _).sized, trivial⟩, ⟨q_may rfl rfl h2, trivial⟩, ⟨q_loadN (k := 0) rfl rfl rfl rfl (by decide) Tryd.underlying26 rfl sz26 (agg_tm _).sized, trivial⟩, ⟨q_text h1 rfl rfl rfl, trivial⟩, ⟨q_loadN (k := 1) rfl rfl rfl rfl (by decide) Tryd.underlying26 rfl sz26 (agg_tm _).sized, trivial⟩, ⟨q_text h2 rfl rfl rfl, trivial⟩, ⟨q_eqT rfl rfl rfl, trivial⟩, trivial⟩ fun ac g w hS => ?_
 refine then_n ?_
 refine wp_ret ?_
 exact body_ret hS.f.frm (results1 Tryd.results31 (RV.tmp hS.f.frm rfl)) ⟨hS.gr0, rfl⟩
theorem same_ok {X : List Nat} {a b : Tm} {v u : Value} (w0 : World) (hX : ∀ x, x ∈ X → x < w0.heap.size) (h00 : 0 ∈ X) (hT : T0 w0) (hv : TmIs w0 X a v) (hu : TmIs w0 X b u) : Calls Tryd.prog 31 (List.toArray [v, u]) w0 (Ret fun v w' => Gr w0 w' ∧ v = .bool (sameB a b)) := by
 unfold sameB
 cases h1 : may a with
 | false => exact same_a w0 hX h00 hT hv hu h1
 | true =>
  cases h2 : may b with
  | false => exact same_b w0 hX h00 hT hv hu h1 h2
  | true => simpa using same_c w0 hX h00 hT hv hu h1 h2
set_option maxRecDepth 100000 in
theorem q_same {ops : List Oper} {n : Nat} {B : Nat → BX XX} {i p b base : Nat} {L : TL TT} {ph : List Nat} {ns : List (Nat × Sp TT)} {ds : Option Tmp} {pos : String} {af : Array Edge} {gu : Option (Nat × Bool)} {t : TypeId} {x y : Operand} {κ : RY} {r : Rn} {a a' : Tm} {c : Bool} {ts : Array TypeId} (hc : sameB a a' = c) (hB0 : B p = stB (lawR (andY κ tabY) base b r) ns) (hop : ops.getD i default = ⟨ds, .call ⟨.value (.func 31), #[x, y], ts⟩, t, pos, af, gu⟩) (hx : spO L x = some (tmS a)) (hy : spO L y = some (tmS a')) : EOb Tryd.prog n ops XX B ⟨i, L, eqS (.bool c), ph, false⟩ p := q_of fun ξ g w hB hH => by
 rw [hB0] at hB
 have hB : StB (lawR (andY κ tabY) base b r) ns g w := hB
 rw [hop, ← hc]
 obtain ⟨v1, h1, h2⟩ := spO_ev hx hH
 obtain ⟨v2, h3, h4⟩ := spO_ev hy hH
 exact ok_call c31 (by simp only [evs, h1, h3]) (same_ok w hB.wf.lt (by have := hB.run.1.2.1; simp [Gh.X, this]) hB.run.1.2.2 h2 h4)
end Go.Mi.Term
