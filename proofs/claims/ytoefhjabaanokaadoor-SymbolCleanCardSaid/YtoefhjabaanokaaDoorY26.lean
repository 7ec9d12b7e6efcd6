/- Walks: package symbol. -/
import Derived.Test.YtoefhjabaanokaaDoorH41
set_option linter.unusedSimpArgs false
set_option linter.unusedVariables false
set_option linter.unnecessarySimpa false
namespace Go.Mi.Term
open Go.Mi Go.Proofs Go.RowKit
set_option maxRecDepth 100000 in
set_option maxHeartbeats 4000000 in
theorem fR {X : List Nat} {t : Tm} {v : Value} (w0 : World) (hX : ∀ x, x ∈ X → x < w0.heap.size) (hv : TmIs w0 X t v) : Calls Tryd.prog 67 (List.toArray [v]) w0 (Ret fun v w' => Gr w0 w' ∧ TmIs w' X (bB t) v) := by
 refine df [tmS t] hX ⟨hv, trivial⟩ Tryd.func67 rfl Tryd.ntmps67 rfl fun ac hS => ?_
 refine wp_seq ?_
 refine rx [e1 0 [(0, tmS t)] (nwS 0), ⟨1, [], nwS 1, [1], true⟩] [1, 2] (Bl [stB noR [], stB noR [(26, tmS t)], stB noR [(26, tmS t), (26, cU 3)]]) 2 [(1, nwS 0), (2, nwS 1)] ⟨⟨cO rfl rfl rfl rfl (bQ _).sized rfl, trivial⟩, ⟨c_ rfl rfl rfl z26 rfl rfl, trivial⟩, trivial⟩ hS rfl fun ac g w hS => ?_
 refine wp_seq ?_
 refine rx [e0 0 [(1, nwS 0)] (tmS t), e0 1 [(3, tmS t)] (tfS [t]), e0 2 [(4, tfS [t])] (tmS (bB t)), e1 3 [(2, nwS 1), (5, tmS (bB t))] bM] [2] (Bl [stB noR [(26, tmS t), (26, cU 3)], stB noR [(26, tmS t), (26, tmS (bB t))]]) 1 [(2, nwS 1)] ⟨⟨cc (k := 0) rfl rfl rfl rfl (by decide) u26 rfl bV (bQ _).sized, trivial⟩, ⟨de rfl rfl rfl, trivial⟩, ⟨bL fun ξ g w hB hH => by
  obtain ⟨ad, l, c, e, hT⟩ := TlIs.tm (hH 4 _ rfl) 2
  refine ⟨_, ⟨_, _, _, rfl, hT⟩, dg (ps := [(0, .int .i64 2), (2, .slice ad l c)]) u26 z26 (fun w => sc w _ u26) ?_ qO⟩
  rw [← e]; rfl, trivial⟩, ⟨cZ (k := 1) (m := 3) rfl rfl rfl rfl rfl rfl (by decide) bV (cD 3) (bQ _), trivial⟩, trivial⟩ hS rfl fun ac g w hS => ?_
 refine wp_ret ?_
 obtain ⟨v0, b, a⟩ := hS.rv (x := 2) (k := 1) (m := 3) (ty := 26) rfl rfl (by decide) u26 rfl bV (bQ _).sized
 exact bv hS.f.frm (bw Tryd.results67 b) ⟨hS.gr0, a.sub hS.sub0⟩
set_option maxRecDepth 100000 in
set_option maxHeartbeats 4000000 in
theorem n2 {X : List Nat} {k : Int} {a b : Tm} {v u : Value} (w0 : World) (hX : ∀ x, x ∈ X → x < w0.heap.size) (hv : TmIs w0 X a v) (hu : TmIs w0 X b u) : Calls Tryd.prog 69 (List.toArray [vI k, v, u]) w0 (Ret fun v w' => Gr w0 w' ∧ TmIs w' X (two k a b) v) := by
 refine df [eI k, tmS a, tmS b] hX ⟨rfl, hv, hu, trivial⟩ Tryd.func69 rfl Tryd.ntmps69 rfl fun ac hS => ?_
 refine wp_seq ?_
 refine rx [e1 0 [(1, tmS a)] (nwS 0), ⟨1, [(2, tmS b)], nwS 1, [1], true⟩, ⟨2, [], nwS 2, [2], true⟩] [0, 4, 5, 6] (Bl [stB noR [], stB noR [(26, tmS a)], stB noR [(26, tmS a), (26, tmS b)], stB noR [(26, tmS a), (26, tmS b), (26, cU 3)]]) 3 [(0, eI k), (4, nwS 0), (5, nwS 1), (6, nwS 2)] ⟨⟨cO rfl rfl rfl rfl (bQ _).sized rfl, trivial⟩, ⟨cO rfl rfl rfl rfl (bQ _).sized rfl, trivial⟩, ⟨c_ rfl rfl rfl z26 rfl rfl, trivial⟩, trivial⟩ hS rfl fun ac g w hS => ?_
 refine wp_seq ?_
 refine rx [e0 1 [(4, nwS 0)] (tmS a), e0 2 [(5, nwS 1)] (tmS b), e0 3 [(8, tmS a), (9, tmS b)] (tfS [a, b]), e0 4 [(7, eI k), (10, tfS [a, b])] (tmS (two k a b)), e1 5 [(6, nwS 2), (11, tmS (two k a b))] bM] [6] (Bl [stB noR [(26, tmS a), (26, tmS b), (26, cU 3)], stB noR [(26, tmS a), (26, tmS b), (26, tmS (two k a b))]]) 1 [(6, nwS 2)] ⟨⟨cc (k := 0) rfl rfl rfl rfl (by decide) u26 rfl bV (bQ _).sized, trivial⟩, ⟨cc (k := 1) rfl rfl rfl rfl (by decide) u26 rfl bV (bQ _).sized, trivial⟩, ⟨dF rfl rfl rfl rfl, trivial⟩, ⟨bL fun ξ g w hB hH => by
  obtain ⟨ad, l, c, e, hT⟩ := TlIs.tm (hH 10 _ rfl) k
  refine ⟨_, ⟨_, _, _, rfl, hT⟩, dg (ps := [(0, .int .i64 k), (2, .slice ad l c)]) u26 z26 (fun w => sc w _ u26) ?_ qO⟩
  rw [← e]; rfl, trivial⟩, ⟨cZ (k := 2) (m := 3) rfl rfl rfl rfl rfl rfl (by decide) bV (cD 3) (bQ _), trivial⟩, trivial⟩ hS rfl fun ac g w hS => ?_
 refine wp_ret ?_
 obtain ⟨v0, h, d⟩ := hS.rv (x := 6) (k := 2) (m := 3) (ty := 26) rfl rfl (by decide) u26 rfl bV (bQ _).sized
 exact bv hS.f.frm (bw Tryd.results69 h) ⟨hS.gr0, d.sub hS.sub0⟩
set_option maxRecDepth 100000 in
set_option maxHeartbeats 4000000 in
theorem vR {dh kem : Bool} {l : List Tm} {k n : Int} {ks : List Tm}  (hh : ci l (.mk k n ks) = true) {X : List Nat} {v u : Value} (w0 : World) (hX : ∀ x, x ∈ X → x < w0.heap.size) (hol : ∀ x, x ∈ l → Ok x) (hll : l.length ≤ 100000000) (hot : Ok (.mk k n ks)) (hv : fZ w0 X l v) (hu : TmIs w0 X (.mk k n ks) u) : Calls Tryd.prog 75 (List.toArray [.bool dh, .bool kem, v, u]) w0 (Ret fun v w' => Gr w0 w' ∧ v = .bool (rb ⟨dh, kem⟩ l (.mk k n ks))) := by
 refine df [eqS (.bool dh), eqS (.bool kem), tkS l, tmS (.mk k n ks)] hX ⟨rfl, rfl, hv, hu, trivial⟩ Tryd.func75 rfl Tryd.ntmps75 rfl fun ac hS => ?_
 refine wp_seq ?_
 refine rx [e1 0 [(3, tmS (.mk k n ks))] (nwS 0)] [0, 1, 2, 7, 8] (Bl [stB noR [], stB noR [(26, tmS (.mk k n ks))]]) 1 [(0, eB dh), (1, eB kem), (2, tkS l), (7, nwS 0), (8, eqS vf)] ⟨⟨cO rfl rfl rfl rfl (bQ _).sized rfl, trivial⟩, trivial⟩ hS rfl fun ac g w hS => ?_
 refine wp_seq ?_
 refine wp_seq ?_
 refine rz hS [e0 1 [(7, nwS 0)] (tmS (.mk k n ks)), e0 2 [(23, tkS l), (24, tmS (.mk k n ks))] (eqS vt)] [0, 1, 2, 7, 8, 25] [(0, eB dh), (1, eB kem), (2, tkS l), (7, nwS 0), (8, eqS vf), (25, eqS vt)] ⟨⟨cc (k := 0) rfl rfl rfl rfl (by decide) u26 rfl bV (bQ _).sized, trivial⟩, ⟨b_ rfl fun ξ g w hB hH => a_ c92 rfl (dL (dp w hB.wf.lt hol hot (hH 23 _ rfl) (hH 24 _ rfl) hll) hh), trivial⟩, trivial⟩ fun ac g w hS => ?_
 refine wp_cond_true (hS.f.frm.eval rfl) ?_
 refine wp_seq ?_
 refine rz hS [] [0, 1, 2, 7, 8] [(0, eB dh), (1, eB kem), (2, tkS l), (7, nwS 0), (8, eqS vt)] trivial fun ac g w hS => ?_
 refine wp_ret ?_
 refine bH ?_
 exact bv hS.f.frm (bw Tryd.results75 (RV.tmp hS.f.frm rfl)) ⟨hS.gr0, by rw [tY hh]; rfl⟩
set_option maxRecDepth 100000 in
set_option maxHeartbeats 4000000 in
theorem vQ {dh kem : Bool} {l : List Tm} {n : Int} {ks : List Tm}  (hh : ci l (.mk 1 n ks) = false) {X : List Nat} {v u : Value} (w0 : World) (hX : ∀ x, x ∈ X → x < w0.heap.size) (hol : ∀ x, x ∈ l → Ok x) (hll : l.length ≤ 100000000) (hot : Ok (.mk 1 n ks)) (hv : fZ w0 X l v) (hu : TmIs w0 X (.mk 1 n ks) u) : Calls Tryd.prog 75 (List.toArray [.bool dh, .bool kem, v, u]) w0 (Ret fun v w' => Gr w0 w' ∧ v = .bool (rb ⟨dh, kem⟩ l (.mk 1 n ks))) := by
 refine df [eqS (.bool dh), eqS (.bool kem), tkS l, tmS (.mk 1 n ks)] hX ⟨rfl, rfl, hv, hu, trivial⟩ Tryd.func75 rfl Tryd.ntmps75 rfl fun ac hS => ?_
 refine wp_seq ?_
 refine rx [e1 0 [(3, tmS (.mk 1 n ks))] (nwS 0)] [0, 1, 2, 7, 8] (Bl [stB noR [], stB noR [(26, tmS (.mk 1 n ks))]]) 1 [(0, eB dh), (1, eB kem), (2, tkS l), (7, nwS 0), (8, eqS vf)] ⟨⟨cO rfl rfl rfl rfl (bQ _).sized rfl, trivial⟩, trivial⟩ hS rfl fun ac g w hS => ?_
 refine wp_seq ?_
 refine wp_seq ?_
 refine rz hS [e0 1 [(7, nwS 0)] (tmS (.mk 1 n ks)), e0 2 [(23, tkS l), (24, tmS (.mk 1 n ks))] (eqS vf)] [0, 1, 2, 7, 8, 25] [(0, eB dh), (1, eB kem), (2, tkS l), (7, nwS 0), (8, eqS vf), (25, eqS vf)] ⟨⟨cc (k := 0) rfl rfl rfl rfl (by decide) u26 rfl bV (bQ _).sized, trivial⟩, ⟨b_ rfl fun ξ g w hB hH => a_ c92 rfl (dL (dp w hB.wf.lt hol hot (hH 23 _ rfl) (hH 24 _ rfl) hll) hh), trivial⟩, trivial⟩ fun ac g w hS => ?_
 refine wp_cond_false (hS.f.frm.eval rfl) ?_
 refine wp_skip ?_
 refine wp_seq ?_
 refine wp_seq ?_
 refine rz hS [e0 0 [(7, nwS 0)] (nwO 0 0), e0 1 [(26, nwO 0 0)] (eI 1)] [0, 1, 2, 7, 8, 27] [(0, eB dh), (1, eB kem), (2, tkS l), (7, nwS 0), (8, eqS vf), (27, eI 1)] ⟨⟨bK (k := 0) rfl rfl rfl rfl (by decide) (by kernel_rfl), trivial⟩, ⟨fp (k := 0) rfl rfl rfl rfl, trivial⟩, trivial⟩ fun ac g w hS => ?_
 refine bz ?_
 refine wp_block ?_
 refine wp_seq ?_
 refine rz hS [] [0, 1, 2, 7, 8, 27, 28] [(0, eB dh), (1, eB kem), (2, tkS l), (7, nwS 0), (8, eqS vf), (27, eI 1), (28, eqS vt)] trivial fun ac g w hS => ?_
 refine wp_cond_true (hS.f.frm.eval rfl) ?_
 refine wp_seq ?_
 refine rz hS [] [0, 1, 2, 7, 8] [(0, eB dh), (1, eB kem), (2, tkS l), (7, nwS 0), (8, eqS vf)] trivial fun ac g w hS => ?_
 refine wp_ret ?_
 refine bY ?_
 refine bH ?_
 exact bv hS.f.frm (bw Tryd.results75 (RV.tmp hS.f.frm rfl)) ⟨hS.gr0, by rw [xn hh]; rfl⟩
set_option maxRecDepth 100000 in
set_option maxHeartbeats 4000000 in
theorem vO {dh kem : Bool} {l : List Tm} {n : Int} {a b : Tm} (ih : ∀ x, x ∈ [a, b] → ∀ (X : List Nat) (v u : Value) (w : World), Ok x → (∀ x, x ∈ X → x < w.heap.size) → fZ w X l v → TmIs w X x u → Calls Tryd.prog 75 (List.toArray [.bool dh, .bool kem, v, u]) w (Ret fun v' w' => Gr w w' ∧ v' = .bool (rb ⟨dh, kem⟩ l x))) (hh : ci l (.mk 3 n [a, b]) = false) {X : List Nat} {v u : Value} (w0 : World) (hX : ∀ x, x ∈ X → x < w0.heap.size) (hol : ∀ x, x ∈ l → Ok x) (hll : l.length ≤ 100000000) (hot : Ok (.mk 3 n [a, b])) (hv : fZ w0 X l v) (hu : TmIs w0 X (.mk 3 n [a, b]) u) : Calls Tryd.prog 75 (List.toArray [.bool dh, .bool kem, v, u]) w0 (Ret fun v w' => Gr w0 w' ∧ v = .bool (rb ⟨dh, kem⟩ l (.mk 3 n [a, b]))) := by
 obtain ⟨d, e⟩ : Ok a ∧ Ok b := ⟨hot.kid (by simp), hot.kid (by simp)⟩
 refine df [eqS (.bool dh), eqS (.bool kem), tkS l, tmS (.mk 3 n [a, b])] hX ⟨rfl, rfl, hv, hu, trivial⟩ Tryd.func75 rfl Tryd.ntmps75 rfl fun ac hS => ?_
 refine wp_seq ?_
 refine rx [e1 0 [(3, tmS (.mk 3 n [a, b]))] (nwS 0)] [0, 1, 2, 7, 8] (Bl [stB noR [], stB noR [(26, tmS (.mk 3 n [a, b]))]]) 1 [(0, eB dh), (1, eB kem), (2, tkS l), (7, nwS 0), (8, eqS vf)] ⟨⟨cO rfl rfl rfl rfl (bQ _).sized rfl, trivial⟩, trivial⟩ hS rfl fun ac g w hS => ?_
 refine wp_seq ?_
 refine wp_seq ?_
 refine rz hS [e0 1 [(7, nwS 0)] (tmS (.mk 3 n [a, b])), e0 2 [(23, tkS l), (24, tmS (.mk 3 n [a, b]))] (eqS vf)] [0, 1, 2, 7, 8, 25] [(0, eB dh), (1, eB kem), (2, tkS l), (7, nwS 0), (8, eqS vf), (25, eqS vf)] ⟨⟨cc (k := 0) rfl rfl rfl rfl (by decide) u26 rfl bV (bQ _).sized, trivial⟩, ⟨b_ rfl fun ξ g w hB hH => a_ c92 rfl (dL (dp w hB.wf.lt hol hot (hH 23 _ rfl) (hH 24 _ rfl) hll) hh), trivial⟩, trivial⟩ fun ac g w hS => ?_
 refine wp_cond_false (hS.f.frm.eval rfl) ?_
 refine wp_skip ?_
 refine wp_seq ?_
 refine wp_seq ?_
 refine rz hS [e0 0 [(7, nwS 0)] (nwO 0 0), e0 1 [(26, nwO 0 0)] (eI 3)] [0, 1, 2, 7, 8, 27] [(0, eB dh), (1, eB kem), (2, tkS l), (7, nwS 0), (8, eqS vf), (27, eI 3)] ⟨⟨bK (k := 0) rfl rfl rfl rfl (by decide) (by kernel_rfl), trivial⟩, ⟨fp (k := 0) rfl rfl rfl rfl, trivial⟩, trivial⟩ fun ac g w hS => ?_
 refine bz ?_
 refine wp_block ?_
 refine wp_seq ?_
 refine rz hS [] [0, 1, 2, 7, 8, 27, 28] [(0, eB dh), (1, eB kem), (2, tkS l), (7, nwS 0), (8, eqS vf), (27, eI 3), (28, eqS vf)] trivial fun ac g w hS => ?_
 refine wp_cond_false (hS.f.frm.eval rfl) ?_
 refine wp_seq ?_
 refine rz hS [] [0, 1, 2, 7, 8, 27, 30] [(0, eB dh), (1, eB kem), (2, tkS l), (7, nwS 0), (8, eqS vf), (27, eI 3), (30, eqS vt)] trivial fun ac g w hS => ?_
 refine wp_cond_true (hS.f.frm.eval rfl) ?_
 refine wp_seq ?_
 have hS : SS _ _ (stB noR [(26, tmS (.mk 3 n [a, b]))]) _ _ _ _ _ := hS
 obtain ⟨c, bb, o, i, us, vs, hc, hK⟩ := qC hS.b (k := 0) rfl
 refine fS mo (W26 w us vs) [10, 11] [8, 9] F13 G13 0 (fun _ _ _ _ h _ => h) (rows := [hr_ [] [(7, vp c)] [0] (vP c 2), hr_ [(0, 32)] [] [0] (.slice (some ⟨bb, o, none⟩) 2 i), hr_ [(1, 33)] [] [0] (vP bb o), hr_ [(2, 34)] [] [0] (.agg us.toArray), hr_ [] [(7, vp c)] [0, 1] (vP c 2), hr_ [(4, 36)] [] [0, 1] (.slice (some ⟨bb, o, none⟩) 2 i), hr_ [(5, 37)] [] [0, 1] (vP bb (o + 3)), hr_ [(6, 38)] [] [0, 1] (.agg vs.toArray), ⟨[], [], [0], [8], fun H => H 8, fun _ _ h_ => h_ 8 (by simp)⟩, ⟨[], [], [0], [9], fun H => H 9, fun _ _ h_ => h_ 9 (by simp)⟩, ⟨[(8, 9), (3, 35)], [], [0], [8, 9, 10], fun H => H 10, fun _ _ h_ => h_ 10 (by simp)⟩, ⟨[(9, 10), (7, 39)], [], [1], [9, 11], fun H => H 11, fun _ _ h_ => h_ 11 (by simp)⟩]) (L0 := [(7, vp c), (0, ac.tmps.getD 0 undef), (1, ac.tmps.getD 1 undef), (2, ac.tmps.getD 2 undef)]) (by kernel_rfl) (tu hS rfl hc [0, 1, 2]) sY ⟨GOb.pure (fun _ => trivial) ⟨rfl, trivial⟩ rfl rfl rfl (fun _ _ => bD u26 fe rfl rfl rfl), lR trivial rfl rfl rfl (fun H w k => bF u24 rfl rfl (g9 hK k)), GOb.pure (fun _ => trivial) trivial rfl rfl rfl (fun _ _ => i_ (j := 0) u24 bV rfl rfl rfl (by decide) rfl), lR trivial rfl rfl rfl (fun H w k => cj u26 rfl bV rfl (hK.at_ k).2.1 hK.u3), GOb.pure (fun _ => trivial) ⟨rfl, trivial⟩ rfl rfl rfl (fun _ _ => bD u26 fe rfl rfl rfl), lR trivial rfl rfl rfl (fun H w k => bF u24 rfl rfl (g9 hK k)), GOb.pure (fun _ => trivial) trivial rfl rfl rfl (fun _ _ => i_ (j := 1) u24 bV rfl rfl rfl (by decide) rfl), lR trivial rfl rfl rfl (fun H w k => cj u26 rfl bV rfl (hK.at_ k).2.2 hK.v3), rQ (.inl rfl) trivial rfl rfl (fun _ => rfl), rQ (.inr rfl) trivial rfl rfl (fun _ => rfl), pA rfl trivial rfl ⟨by simp, by simp⟩ rfl (fun _ => rfl) (fun _ => rfl) (fun _ => rfl) hK.u3 hK.u1, pz rfl trivial rfl rfl (fun _ => rfl) (fun _ => rfl) (fun _ => rfl) hK.v3 hK.v1, trivial⟩ (fun ac w2 H hW hF => ?_)
 obtain ⟨g, hS⟩ := tv (L' := [(0, eqS (.bool dh)), (1, eqS (.bool kem)), (2, tkS l)]) (x8 := 9) (x9 := 10) hS hK hW hF rfl rfl rfl ⟨⟨rfl, rfl⟩, ⟨rfl, rfl⟩, ⟨rfl, rfl⟩, trivial⟩
 clear hW hF
 refine wp_seq ?_
 refine ry mo hS [e0 3 [(9, nwS 1)] (tmS a), e0 4 [(40, eB dh), (41, eB kem), (42, tkS l), (43, tmS a)] (eB (rb ⟨dh, kem⟩ l a)), e0 8 [(10, nwS 2)] (tmS b), e0 9 [(45, eB dh), (46, eB kem), (47, tkS l), (48, tmS b)] (eB (rb ⟨dh, kem⟩ l b))] [0, 1, 2, 9, 10, 11, 12] [(0, eB dh), (1, eB kem), (2, tkS l), (9, nwS 1), (10, nwS 2), (11, eB (rb ⟨dh, kem⟩ l a)), (12, eB (rb ⟨dh, kem⟩ l b))] ⟨⟨cc (k := 1) rfl rfl rfl rfl (by decide) u26 rfl bV (bQ _).sized, trivial⟩, ⟨b_ rfl fun ξ g w hB hH => a_ c75 rfl (ih a (by simp) _ _ _ w d hB.wf.lt (hH 42 _ rfl) (hH 43 _ rfl)), trivial⟩, ⟨cc (k := 2) rfl rfl rfl rfl (by decide) u26 rfl bV (bQ _).sized, trivial⟩, ⟨b_ rfl fun ξ g w hB hH => a_ c75 rfl (ih b (by simp) _ _ _ w e hB.wf.lt (hH 47 _ rfl) (hH 48 _ rfl)), trivial⟩, trivial⟩ fun ac g w hS => ?_
 refine wp_seq ?_
 refine eD (fun ac w => ∃  (g : Gh), SS [(0, eB dh), (11, eB (rb ⟨dh, kem⟩ l a)), (12, eB (rb ⟨dh, kem⟩ l b)), (13, eB (rb ⟨dh, kem⟩ l a || ci l (bB a))), (14, eB (rb ⟨dh, kem⟩ l b || ci l (bB b)))] 184 (stB noR [(26, tmS (.mk 3 n [a, b])), (26, tmS a), (26, tmS b)]) ⟨[], [], X, []⟩ w0 ac g w) ?_ ?_
 rotate_left
 ·rintro ac w ⟨g, hS⟩
  refine wp_seq ?_
  refine eD (fun ac w => ∃  (g : Gh), SS [(8, eB (((rb ⟨dh, kem⟩ l b || ci l (bB b)) && rb ⟨dh, kem⟩ l a) || ((rb ⟨dh, kem⟩ l a || ci l (bB a)) && rb ⟨dh, kem⟩ l b) || (dh && (rb ⟨dh, kem⟩ l a || ci l (bB a)) && (rb ⟨dh, kem⟩ l b || ci l (bB b)))))] 184 (stB noR [(26, tmS (.mk 3 n [a, b])), (26, tmS a), (26, tmS b)]) ⟨[], [], X, []⟩ w0 ac g w) ?_ ?_
  rotate_left
  ·rintro ac w ⟨g, hS⟩
   refine wp_ret ?_
   refine bY ?_
   refine bH ?_
   exact bv hS.f.frm (bw Tryd.results75 (RV.tmp hS.f.frm rfl)) ⟨hS.gr0, by rw [xm hh]; rfl⟩
  generalize rb ⟨dh, kem⟩ l a = ka at hS ⊢
  generalize rb ⟨dh, kem⟩ l b = kb at hS ⊢
  generalize ci l (bB a) = pa at hS ⊢
  generalize ci l (bB b) = pb at hS ⊢
  clear ih hv hu hol hot hh; revert hS
  cases ka <;> cases kb <;> cases pa <;> cases pb <;> cases dh <;> cases kem <;> intro hS <;> exact tT hS [] [8] (by kernel_rfl) (by kernel_rfl) trivial fun ac g w hS => ⟨g, hS⟩
 rcases tf4 (rb ⟨dh, kem⟩ l a) (rb ⟨dh, kem⟩ l b) with ⟨hx, hy⟩ | ⟨hx, hy⟩ | ⟨hx, hy⟩ | ⟨hx, hy⟩
 ·rw [hx, hy] at hS ⊢
  refine rz hS [] [0, 1, 2, 11, 12, 13, 14] [(0, eB dh), (1, eB kem), (2, tkS l), (11, eqS vt), (12, eqS vt), (13, eqS vt), (14, eqS vt)] trivial fun ac g w hS => ?_
  refine bz ?_
  exact ⟨g, hS.to ⟨rfl, rfl, rfl, rfl, rfl, trivial⟩⟩
 ·rw [hx, hy] at hS ⊢
  refine rz hS [e0 10 [(58, eqS vf), (10, nwS 2)] (tmS b), e0 11 [(58, eqS vf), (60, tmS b)] (tmS (bB b)), e0 12 [(58, eqS vf), (59, tkS l), (61, tmS (bB b))] (eB (ci l (bB b)))] [0, 1, 2, 11, 12, 13, 14] [(0, eB dh), (1, eB kem), (2, tkS l), (11, eqS vt), (12, eqS vf), (13, eqS vt), (14, eB (ci l (bB b)))] ⟨⟨cc (k := 2) rfl rfl rfl rfl (by decide) u26 rfl bV (bQ _).sized, trivial⟩, ⟨b_ rfl fun ξ g w hB hH => a_ c67 rfl (fR w hB.wf.lt (hH 60 _ rfl)), trivial⟩, ⟨b_ rfl fun ξ g w hB hH => a_ c92 rfl (dp w hB.wf.lt hol (eA e) (hH 59 _ rfl) (hH 61 _ rfl) hll), trivial⟩, trivial⟩ fun ac g w hS => ?_
  refine bz ?_
  exact ⟨g, hS.to ⟨rfl, rfl, rfl, rfl, rfl, trivial⟩⟩
 ·rw [hx, hy] at hS ⊢
  refine rz hS [e0 3 [(51, eqS vf), (9, nwS 1)] (tmS a), e0 4 [(51, eqS vf), (53, tmS a)] (tmS (bB a)), e0 5 [(51, eqS vf), (52, tkS l), (54, tmS (bB a))] (eB (ci l (bB a)))] [0, 1, 2, 11, 12, 13, 14] [(0, eB dh), (1, eB kem), (2, tkS l), (11, eqS vf), (12, eqS vt), (13, eB (ci l (bB a))), (14, eqS vt)] ⟨⟨cc (k := 1) rfl rfl rfl rfl (by decide) u26 rfl bV (bQ _).sized, trivial⟩, ⟨b_ rfl fun ξ g w hB hH => a_ c67 rfl (fR w hB.wf.lt (hH 53 _ rfl)), trivial⟩, ⟨b_ rfl fun ξ g w hB hH => a_ c92 rfl (dp w hB.wf.lt hol (eA d) (hH 52 _ rfl) (hH 54 _ rfl) hll), trivial⟩, trivial⟩ fun ac g w hS => ?_
  refine bz ?_
  exact ⟨g, hS.to ⟨rfl, rfl, rfl, rfl, rfl, trivial⟩⟩
 ·rw [hx, hy] at hS ⊢
  refine rz hS [e0 3 [(51, eqS vf), (9, nwS 1)] (tmS a), e0 4 [(51, eqS vf), (53, tmS a)] (tmS (bB a)), e0 5 [(51, eqS vf), (52, tkS l), (54, tmS (bB a))] (eB (ci l (bB a))), e0 10 [(58, eqS vf), (10, nwS 2)] (tmS b), e0 11 [(58, eqS vf), (60, tmS b)] (tmS (bB b)), e0 12 [(58, eqS vf), (59, tkS l), (61, tmS (bB b))] (eB (ci l (bB b)))] [0, 1, 2, 11, 12, 13, 14] [(0, eB dh), (1, eB kem), (2, tkS l), (11, eqS vf), (12, eqS vf), (13, eB (ci l (bB a))), (14, eB (ci l (bB b)))] ⟨⟨cc (k := 1) rfl rfl rfl rfl (by decide) u26 rfl bV (bQ _).sized, trivial⟩, ⟨b_ rfl fun ξ g w hB hH => a_ c67 rfl (fR w hB.wf.lt (hH 53 _ rfl)), trivial⟩, ⟨b_ rfl fun ξ g w hB hH => a_ c92 rfl (dp w hB.wf.lt hol (eA d) (hH 52 _ rfl) (hH 54 _ rfl) hll), trivial⟩, ⟨cc (k := 2) rfl rfl rfl rfl (by decide) u26 rfl bV (bQ _).sized, trivial⟩, ⟨b_ rfl fun ξ g w hB hH => a_ c67 rfl (fR w hB.wf.lt (hH 60 _ rfl)), trivial⟩, ⟨b_ rfl fun ξ g w hB hH => a_ c92 rfl (dp w hB.wf.lt hol (eA e) (hH 59 _ rfl) (hH 61 _ rfl) hll), trivial⟩, trivial⟩ fun ac g w hS => ?_
  refine bz ?_
  exact ⟨g, hS.to ⟨rfl, rfl, rfl, rfl, rfl, trivial⟩⟩
set_option maxRecDepth 100000 in
set_option maxHeartbeats 4000000 in
theorem vM {dh kem : Bool} {l : List Tm} {n : Int} {a b : Tm} (ih : ∀ x, x ∈ [a, b] → ∀ (X : List Nat) (v u : Value) (w : World), Ok x → (∀ x, x ∈ X → x < w.heap.size) → fZ w X l v → TmIs w X x u → Calls Tryd.prog 75 (List.toArray [.bool dh, .bool kem, v, u]) w (Ret fun v' w' => Gr w w' ∧ v' = .bool (rb ⟨dh, kem⟩ l x))) (hh : ci l (.mk 4 n [a, b]) = false) {X : List Nat} {v u : Value} (w0 : World) (hX : ∀ x, x ∈ X → x < w0.heap.size) (hol : ∀ x, x ∈ l → Ok x) (hll : l.length ≤ 100000000) (hot : Ok (.mk 4 n [a, b])) (hv : fZ w0 X l v) (hu : TmIs w0 X (.mk 4 n [a, b]) u) : Calls Tryd.prog 75 (List.toArray [.bool dh, .bool kem, v, u]) w0 (Ret fun v w' => Gr w0 w' ∧ v = .bool (rb ⟨dh, kem⟩ l (.mk 4 n [a, b]))) := by
 obtain ⟨d, e⟩ : Ok a ∧ Ok b := ⟨hot.kid (by simp), hot.kid (by simp)⟩
 refine df [eqS (.bool dh), eqS (.bool kem), tkS l, tmS (.mk 4 n [a, b])] hX ⟨rfl, rfl, hv, hu, trivial⟩ Tryd.func75 rfl Tryd.ntmps75 rfl fun ac hS => ?_
 refine wp_seq ?_
 refine rx [e1 0 [(3, tmS (.mk 4 n [a, b]))] (nwS 0)] [0, 1, 2, 7, 8] (Bl [stB noR [], stB noR [(26, tmS (.mk 4 n [a, b]))]]) 1 [(0, eB dh), (1, eB kem), (2, tkS l), (7, nwS 0), (8, eqS vf)] ⟨⟨cO rfl rfl rfl rfl (bQ _).sized rfl, trivial⟩, trivial⟩ hS rfl fun ac g w hS => ?_
 refine wp_seq ?_
 refine wp_seq ?_
 refine rz hS [e0 1 [(7, nwS 0)] (tmS (.mk 4 n [a, b])), e0 2 [(23, tkS l), (24, tmS (.mk 4 n [a, b]))] (eqS vf)] [0, 1, 2, 7, 8, 25] [(0, eB dh), (1, eB kem), (2, tkS l), (7, nwS 0), (8, eqS vf), (25, eqS vf)] ⟨⟨cc (k := 0) rfl rfl rfl rfl (by decide) u26 rfl bV (bQ _).sized, trivial⟩, ⟨b_ rfl fun ξ g w hB hH => a_ c92 rfl (dL (dp w hB.wf.lt hol hot (hH 23 _ rfl) (hH 24 _ rfl) hll) hh), trivial⟩, trivial⟩ fun ac g w hS => ?_
 refine wp_cond_false (hS.f.frm.eval rfl) ?_
 refine wp_skip ?_
 refine wp_seq ?_
 refine wp_seq ?_
 refine rz hS [e0 0 [(7, nwS 0)] (nwO 0 0), e0 1 [(26, nwO 0 0)] (eI 4)] [0, 1, 2, 7, 8, 27] [(0, eB dh), (1, eB kem), (2, tkS l), (7, nwS 0), (8, eqS vf), (27, eI 4)] ⟨⟨bK (k := 0) rfl rfl rfl rfl (by decide) (by kernel_rfl), trivial⟩, ⟨fp (k := 0) rfl rfl rfl rfl, trivial⟩, trivial⟩ fun ac g w hS => ?_
 refine bz ?_
 refine wp_block ?_
 refine wp_seq ?_
 refine rz hS [] [0, 1, 2, 7, 8, 27, 28] [(0, eB dh), (1, eB kem), (2, tkS l), (7, nwS 0), (8, eqS vf), (27, eI 4), (28, eqS vf)] trivial fun ac g w hS => ?_
 refine wp_cond_false (hS.f.frm.eval rfl) ?_
 refine wp_seq ?_
 refine rz hS [] [0, 1, 2, 7, 8, 27, 30] [(0, eB dh), (1, eB kem), (2, tkS l), (7, nwS 0), (8, eqS vf), (27, eI 4), (30, eqS vf)] trivial fun ac g w hS => ?_
 refine wp_cond_false (hS.f.frm.eval rfl) ?_
 refine wp_seq ?_
 refine rz hS [] [0, 1, 2, 7, 8, 27, 83] [(0, eB dh), (1, eB kem), (2, tkS l), (7, nwS 0), (8, eqS vf), (27, eI 4), (83, eqS vt)] trivial fun ac g w hS => ?_
 refine wp_cond_true (hS.f.frm.eval rfl) ?_
 refine wp_seq ?_
 have hS : SS _ _ (stB noR [(26, tmS (.mk 4 n [a, b]))]) _ _ _ _ _ := hS
 obtain ⟨c, bb, o, i, us, vs, hc, hK⟩ := qC hS.b (k := 0) rfl
 refine fS mo (W26 w us vs) [10, 11] [8, 9] F13 G13 0 (fun _ _ _ _ h _ => h) (rows := [hr_ [] [(7, vp c)] [0] (vP c 2), hr_ [(0, 85)] [] [0] (.slice (some ⟨bb, o, none⟩) 2 i), hr_ [(1, 86)] [] [0] (vP bb o), hr_ [(2, 87)] [] [0] (.agg us.toArray), hr_ [] [(7, vp c)] [0, 1] (vP c 2), hr_ [(4, 89)] [] [0, 1] (.slice (some ⟨bb, o, none⟩) 2 i), hr_ [(5, 90)] [] [0, 1] (vP bb (o + 3)), hr_ [(6, 91)] [] [0, 1] (.agg vs.toArray), ⟨[], [], [0], [8], fun H => H 8, fun _ _ h_ => h_ 8 (by simp)⟩, ⟨[], [], [0], [9], fun H => H 9, fun _ _ h_ => h_ 9 (by simp)⟩, ⟨[(8, 15), (3, 88)], [], [0], [8, 9, 10], fun H => H 10, fun _ _ h_ => h_ 10 (by simp)⟩, ⟨[(9, 16), (7, 92)], [], [1], [9, 11], fun H => H 11, fun _ _ h_ => h_ 11 (by simp)⟩]) (L0 := [(7, vp c), (0, ac.tmps.getD 0 undef), (1, ac.tmps.getD 1 undef), (2, ac.tmps.getD 2 undef)]) (by kernel_rfl) (tu hS rfl hc [0, 1, 2]) sY ⟨GOb.pure (fun _ => trivial) ⟨rfl, trivial⟩ rfl rfl rfl (fun _ _ => bD u26 fe rfl rfl rfl), lR trivial rfl rfl rfl (fun H w k => bF u24 rfl rfl (g9 hK k)), GOb.pure (fun _ => trivial) trivial rfl rfl rfl (fun _ _ => i_ (j := 0) u24 bV rfl rfl rfl (by decide) rfl), lR trivial rfl rfl rfl (fun H w k => cj u26 rfl bV rfl (hK.at_ k).2.1 hK.u3), GOb.pure (fun _ => trivial) ⟨rfl, trivial⟩ rfl rfl rfl (fun _ _ => bD u26 fe rfl rfl rfl), lR trivial rfl rfl rfl (fun H w k => bF u24 rfl rfl (g9 hK k)), GOb.pure (fun _ => trivial) trivial rfl rfl rfl (fun _ _ => i_ (j := 1) u24 bV rfl rfl rfl (by decide) rfl), lR trivial rfl rfl rfl (fun H w k => cj u26 rfl bV rfl (hK.at_ k).2.2 hK.v3), rQ (.inl rfl) trivial rfl rfl (fun _ => rfl), rQ (.inr rfl) trivial rfl rfl (fun _ => rfl), pA rfl trivial rfl ⟨by simp, by simp⟩ rfl (fun _ => rfl) (fun _ => rfl) (fun _ => rfl) hK.u3 hK.u1, pz rfl trivial rfl rfl (fun _ => rfl) (fun _ => rfl) (fun _ => rfl) hK.v3 hK.v1, trivial⟩ (fun ac w2 H hW hF => ?_)
 obtain ⟨g, hS⟩ := tv (L' := [(0, eqS (.bool dh)), (1, eqS (.bool kem)), (2, tkS l)]) (x8 := 15) (x9 := 16) hS hK hW hF rfl rfl rfl ⟨⟨rfl, rfl⟩, ⟨rfl, rfl⟩, ⟨rfl, rfl⟩, trivial⟩
 clear hW hF
 refine wp_seq ?_
 refine ry mo hS [e0 3 [(15, nwS 1)] (tmS a), e0 4 [(93, eB dh), (94, eB kem), (95, tkS l), (96, tmS a)] (eB (rb ⟨dh, kem⟩ l a)), e0 8 [(16, nwS 2)] (tmS b), e0 9 [(98, eB dh), (99, eB kem), (100, tkS l), (101, tmS b)] (eB (rb ⟨dh, kem⟩ l b))] [0, 1, 2, 15, 16, 17, 18] [(0, eB dh), (1, eB kem), (2, tkS l), (15, nwS 1), (16, nwS 2), (17, eB (rb ⟨dh, kem⟩ l a)), (18, eB (rb ⟨dh, kem⟩ l b))] ⟨⟨cc (k := 1) rfl rfl rfl rfl (by decide) u26 rfl bV (bQ _).sized, trivial⟩, ⟨b_ rfl fun ξ g w hB hH => a_ c75 rfl (ih a (by simp) _ _ _ w d hB.wf.lt (hH 95 _ rfl) (hH 96 _ rfl)), trivial⟩, ⟨cc (k := 2) rfl rfl rfl rfl (by decide) u26 rfl bV (bQ _).sized, trivial⟩, ⟨b_ rfl fun ξ g w hB hH => a_ c75 rfl (ih b (by simp) _ _ _ w e hB.wf.lt (hH 100 _ rfl) (hH 101 _ rfl)), trivial⟩, trivial⟩ fun ac g w hS => ?_
 refine wp_seq ?_
 refine eD (fun ac w => ∃  (g : Gh), SS [(1, eB kem), (2, tkS l), (15, nwS 1), (16, nwS 2), (17, eB (rb ⟨dh, kem⟩ l a)), (18, eB (rb ⟨dh, kem⟩ l b)), (19, eB (rb ⟨dh, kem⟩ l a || ci l (bB a)))] 184 (stB noR [(26, tmS (.mk 4 n [a, b])), (26, tmS a), (26, tmS b)]) ⟨[], [], X, []⟩ w0 ac g w) ?_ ?_
 rotate_left
 ·rintro ac w ⟨g, hS⟩
  refine wp_seq ?_
  refine eD (fun ac w => ∃  (g : Gh), SS [(1, eB kem), (17, eB (rb ⟨dh, kem⟩ l a)), (18, eB (rb ⟨dh, kem⟩ l b)), (19, eB (rb ⟨dh, kem⟩ l a || ci l (bB a))), (20, eB ((rb ⟨dh, kem⟩ l b && (rb ⟨dh, kem⟩ l a || ci l (bB a))) || ci l (two 5 a b)))] 184 (stB noR [(26, tmS (.mk 4 n [a, b])), (26, tmS a), (26, tmS b)]) ⟨[], [], X, []⟩ w0 ac g w) ?_ ?_
  rotate_left
  ·rintro ac w ⟨g, hS⟩
   refine wp_seq ?_
   refine eD (fun ac w => ∃  (g : Gh), SS [(8, eB ((rb ⟨dh, kem⟩ l b && (rb ⟨dh, kem⟩ l a || ci l (bB a))) || (((rb ⟨dh, kem⟩ l b && (rb ⟨dh, kem⟩ l a || ci l (bB a))) || ci l (two 5 a b)) && rb ⟨dh, kem⟩ l a) || (kem && ((rb ⟨dh, kem⟩ l b && (rb ⟨dh, kem⟩ l a || ci l (bB a))) || ci l (two 5 a b)))))] 184 (stB noR [(26, tmS (.mk 4 n [a, b])), (26, tmS a), (26, tmS b)]) ⟨[], [], X, []⟩ w0 ac g w) ?_ ?_
   rotate_left
   ·rintro ac w ⟨g, hS⟩
    refine wp_ret ?_
    refine bY ?_
    refine bH ?_
    exact bv hS.f.frm (bw Tryd.results75 (RV.tmp hS.f.frm rfl)) ⟨hS.gr0, by rw [xl hh]; rfl⟩
   generalize rb ⟨dh, kem⟩ l a = ka at hS ⊢
   generalize rb ⟨dh, kem⟩ l b = kb at hS ⊢
   generalize ci l (bB a) = pa at hS ⊢
   generalize ci l (two 5 a b) = pc at hS ⊢
   clear ih hv hu hol hot hh; revert hS
   cases ka <;> cases kb <;> cases pa <;> cases pc <;> cases dh <;> cases kem <;> intro hS <;> exact tT hS [] [8] (by kernel_rfl) (by kernel_rfl) trivial fun ac g w hS => ⟨g, hS⟩
  rcases tf3 (rb ⟨dh, kem⟩ l b) (rb ⟨dh, kem⟩ l a || ci l (bB a)) with ⟨hx, hy⟩ | ⟨hx, hy⟩ | hx
  ·rw [hx, hy] at hS ⊢
   refine rz hS [] [1, 2, 15, 16, 17, 18, 19, 20] [(1, eB kem), (2, tkS l), (15, nwS 1), (16, nwS 2), (17, eB (rb ⟨dh, kem⟩ l a)), (18, eqS vt), (19, eqS vt), (20, eqS vt)] trivial fun ac g w hS => ?_
   refine bz ?_
   exact ⟨g, hS.to ⟨rfl, rfl, rfl, rfl, rfl, trivial⟩⟩
  ·rw [hx, hy] at hS ⊢
   refine rz hS [e0 6 [(114, eqS vf), (15, nwS 1)] (tmS a), e0 7 [(114, eqS vf), (16, nwS 2)] (tmS b), e0 8 [(114, eqS vf), (116, tmS a), (117, tmS b)] (tmS (two 5 a b)), e0 9 [(114, eqS vf), (115, tkS l), (118, tmS (two 5 a b))] (eB (ci l (two 5 a b)))] [1, 2, 15, 16, 17, 18, 19, 20] [(1, eB kem), (2, tkS l), (15, nwS 1), (16, nwS 2), (17, eB (rb ⟨dh, kem⟩ l a)), (18, eqS vt), (19, eqS vf), (20, eB (ci l (two 5 a b)))] ⟨⟨cc (k := 1) rfl rfl rfl rfl (by decide) u26 rfl bV (bQ _).sized, trivial⟩, ⟨cc (k := 2) rfl rfl rfl rfl (by decide) u26 rfl bV (bQ _).sized, trivial⟩, ⟨b_ rfl fun ξ g w hB hH => a_ c69 rfl (n2 w hB.wf.lt (hH 116 _ rfl) (hH 117 _ rfl)), trivial⟩, ⟨b_ rfl fun ξ g w hB hH => a_ c92 rfl (dp w hB.wf.lt hol (gc (by decide) d e) (hH 115 _ rfl) (hH 118 _ rfl) hll), trivial⟩, trivial⟩ fun ac g w hS => ?_
   refine bz ?_
   exact ⟨g, hS.to ⟨rfl, rfl, rfl, rfl, rfl, trivial⟩⟩
  ·rw [hx] at hS ⊢
   refine rz hS [e0 6 [(114, eqS vf), (15, nwS 1)] (tmS a), e0 7 [(114, eqS vf), (16, nwS 2)] (tmS b), e0 8 [(114, eqS vf), (116, tmS a), (117, tmS b)] (tmS (two 5 a b)), e0 9 [(114, eqS vf), (115, tkS l), (118, tmS (two 5 a b))] (eB (ci l (two 5 a b)))] [1, 2, 15, 16, 17, 18, 19, 20] [(1, eB kem), (2, tkS l), (15, nwS 1), (16, nwS 2), (17, eB (rb ⟨dh, kem⟩ l a)), (18, eqS vf), (19, eB (rb ⟨dh, kem⟩ l a || ci l (bB a))), (20, eB (ci l (two 5 a b)))] ⟨⟨cc (k := 1) rfl rfl rfl rfl (by decide) u26 rfl bV (bQ _).sized, trivial⟩, ⟨cc (k := 2) rfl rfl rfl rfl (by decide) u26 rfl bV (bQ _).sized, trivial⟩, ⟨b_ rfl fun ξ g w hB hH => a_ c69 rfl (n2 w hB.wf.lt (hH 116 _ rfl) (hH 117 _ rfl)), trivial⟩, ⟨b_ rfl fun ξ g w hB hH => a_ c92 rfl (dp w hB.wf.lt hol (gc (by decide) d e) (hH 115 _ rfl) (hH 118 _ rfl) hll), trivial⟩, trivial⟩ fun ac g w hS => ?_
   refine bz ?_
   exact ⟨g, hS.to ⟨rfl, rfl, rfl, rfl, rfl, trivial⟩⟩
 rcases tf2 (rb ⟨dh, kem⟩ l a) with hx | hx
 ·rw [hx] at hS ⊢
  refine rz hS [] [0, 1, 2, 15, 16, 17, 18, 19] [(0, eB dh), (1, eB kem), (2, tkS l), (15, nwS 1), (16, nwS 2), (17, eqS vt), (18, eB (rb ⟨dh, kem⟩ l b)), (19, eqS vt)] trivial fun ac g w hS => ?_
  refine bz ?_
  exact ⟨g, hS.to ⟨rfl, rfl, rfl, rfl, rfl, rfl, rfl, trivial⟩⟩
 ·rw [hx] at hS ⊢
  refine rz hS [e0 3 [(104, eqS vf), (15, nwS 1)] (tmS a), e0 4 [(104, eqS vf), (106, tmS a)] (tmS (bB a)), e0 5 [(104, eqS vf), (105, tkS l), (107, tmS (bB a))] (eB (ci l (bB a)))] [0, 1, 2, 15, 16, 17, 18, 19] [(0, eB dh), (1, eB kem), (2, tkS l), (15, nwS 1), (16, nwS 2), (17, eqS vf), (18, eB (rb ⟨dh, kem⟩ l b)), (19, eB (ci l (bB a)))] ⟨⟨cc (k := 1) rfl rfl rfl rfl (by decide) u26 rfl bV (bQ _).sized, trivial⟩, ⟨b_ rfl fun ξ g w hB hH => a_ c67 rfl (fR w hB.wf.lt (hH 106 _ rfl)), trivial⟩, ⟨b_ rfl fun ξ g w hB hH => a_ c92 rfl (dp w hB.wf.lt hol (eA d) (hH 105 _ rfl) (hH 107 _ rfl) hll), trivial⟩, trivial⟩ fun ac g w hS => ?_
  refine bz ?_
  exact ⟨g, hS.to ⟨rfl, rfl, rfl, rfl, rfl, rfl, rfl, trivial⟩⟩
set_option maxRecDepth 100000 in
set_option maxHeartbeats 4000000 in
theorem vL {dh kem : Bool} {l : List Tm} {n : Int} {a b : Tm} (ih : ∀ x, x ∈ [a, b] → ∀ (X : List Nat) (v u : Value) (w : World), Ok x → (∀ x, x ∈ X → x < w.heap.size) → fZ w X l v → TmIs w X x u → Calls Tryd.prog 75 (List.toArray [.bool dh, .bool kem, v, u]) w (Ret fun v' w' => Gr w w' ∧ v' = .bool (rb ⟨dh, kem⟩ l x))) (hh : ci l (.mk 5 n [a, b]) = false) {X : List Nat} {v u : Value} (w0 : World) (hX : ∀ x, x ∈ X → x < w0.heap.size) (hol : ∀ x, x ∈ l → Ok x) (hll : l.length ≤ 100000000) (hot : Ok (.mk 5 n [a, b])) (hv : fZ w0 X l v) (hu : TmIs w0 X (.mk 5 n [a, b]) u) : Calls Tryd.prog 75 (List.toArray [.bool dh, .bool kem, v, u]) w0 (Ret fun v w' => Gr w0 w' ∧ v = .bool (rb ⟨dh, kem⟩ l (.mk 5 n [a, b]))) := by
 obtain ⟨c, d⟩ : Ok a ∧ Ok b := ⟨hot.kid (by simp), hot.kid (by simp)⟩
 refine df [eqS (.bool dh), eqS (.bool kem), tkS l, tmS (.mk 5 n [a, b])] hX ⟨rfl, rfl, hv, hu, trivial⟩ Tryd.func75 rfl Tryd.ntmps75 rfl fun ac hS => ?_
 refine wp_seq ?_
 refine rx [e1 0 [(3, tmS (.mk 5 n [a, b]))] (nwS 0)] [0, 1, 2, 7, 8] (Bl [stB noR [], stB noR [(26, tmS (.mk 5 n [a, b]))]]) 1 [(0, eB dh), (1, eB kem), (2, tkS l), (7, nwS 0), (8, eqS vf)] ⟨⟨cO rfl rfl rfl rfl (bQ _).sized rfl, trivial⟩, trivial⟩ hS rfl fun ac g w hS => ?_
 refine wp_seq ?_
 refine wp_seq ?_
 refine rz hS [e0 1 [(7, nwS 0)] (tmS (.mk 5 n [a, b])), e0 2 [(23, tkS l), (24, tmS (.mk 5 n [a, b]))] (eqS vf)] [0, 1, 2, 7, 8, 25] [(0, eB dh), (1, eB kem), (2, tkS l), (7, nwS 0), (8, eqS vf), (25, eqS vf)] ⟨⟨cc (k := 0) rfl rfl rfl rfl (by decide) u26 rfl bV (bQ _).sized, trivial⟩, ⟨b_ rfl fun ξ g w hB hH => a_ c92 rfl (dL (dp w hB.wf.lt hol hot (hH 23 _ rfl) (hH 24 _ rfl) hll) hh), trivial⟩, trivial⟩ fun ac g w hS => ?_
 refine wp_cond_false (hS.f.frm.eval rfl) ?_
 refine wp_skip ?_
 refine wp_seq ?_
 refine wp_seq ?_
 refine rz hS [e0 0 [(7, nwS 0)] (nwO 0 0), e0 1 [(26, nwO 0 0)] (eI 5)] [0, 1, 2, 7, 8, 27] [(0, eB dh), (1, eB kem), (2, tkS l), (7, nwS 0), (8, eqS vf), (27, eI 5)] ⟨⟨bK (k := 0) rfl rfl rfl rfl (by decide) (by kernel_rfl), trivial⟩, ⟨fp (k := 0) rfl rfl rfl rfl, trivial⟩, trivial⟩ fun ac g w hS => ?_
 refine bz ?_
 refine wp_block ?_
 refine wp_seq ?_
 refine rz hS [] [0, 1, 2, 7, 8, 27, 28] [(0, eB dh), (1, eB kem), (2, tkS l), (7, nwS 0), (8, eqS vf), (27, eI 5), (28, eqS vf)] trivial fun ac g w hS => ?_
 refine wp_cond_false (hS.f.frm.eval rfl) ?_
 refine wp_seq ?_
 refine rz hS [] [0, 1, 2, 7, 8, 27, 30] [(0, eB dh), (1, eB kem), (2, tkS l), (7, nwS 0), (8, eqS vf), (27, eI 5), (30, eqS vf)] trivial fun ac g w hS => ?_
 refine wp_cond_false (hS.f.frm.eval rfl) ?_
 refine wp_seq ?_
 refine rz hS [] [0, 1, 2, 7, 8, 27, 83] [(0, eB dh), (1, eB kem), (2, tkS l), (7, nwS 0), (8, eqS vf), (27, eI 5), (83, eqS vf)] trivial fun ac g w hS => ?_
 refine wp_cond_false (hS.f.frm.eval rfl) ?_
 refine wp_seq ?_
 refine rz hS [] [0, 1, 2, 7, 8, 137] [(0, eB dh), (1, eB kem), (2, tkS l), (7, nwS 0), (8, eqS vf), (137, eqS vt)] trivial fun ac g w hS => ?_
 refine wp_cond_true (hS.f.frm.eval rfl) ?_
 refine wp_seq ?_
 refine rz hS [e0 3 [(7, nwS 0)] (nwO 0 2), e0 4 [(142, nwO 0 2)] (tkS ([a, b])), e0 5 [(143, tkS ([a, b]))] (tpS b 0), e0 6 [(144, tpS b 0)] (tmS b), e0 7 [(139, eB dh), (140, eB kem), (141, tkS l), (145, tmS b)] (eB (rb ⟨dh, kem⟩ l b))] [0, 1, 2, 7, 8, 21] [(0, eB dh), (1, eB kem), (2, tkS l), (7, nwS 0), (8, eqS vf), (21, eB (rb ⟨dh, kem⟩ l b))] ⟨⟨bK (k := 0) rfl rfl rfl rfl (by decide) (by kernel_rfl), trivial⟩, ⟨dw (k := 0) rfl rfl rfl rfl, trivial⟩, ⟨dM (j := 1) rfl rfl rfl rfl, trivial⟩, ⟨eZ rfl rfl, trivial⟩, ⟨b_ rfl fun ξ g w hB hH => a_ c75 rfl (ih b (by simp) _ _ _ w d hB.wf.lt (hH 141 _ rfl) (hH 145 _ rfl)), trivial⟩, trivial⟩ fun ac g w hS => ?_
 refine wp_seq ?_
 rcases tf3 (rb ⟨dh, kem⟩ l b) (ci l (bB a)) with ⟨hx, hy⟩ | ⟨hx, hy⟩ | hx
 ·rw [hx] at hS
  refine rz hS [e0 3 [(148, eqS vt), (7, nwS 0)] (nwO 0 2), e0 4 [(148, eqS vt), (150, nwO 0 2)] (tkS ([a, b])), e0 5 [(148, eqS vt), (151, tkS ([a, b]))] (tpS a 0), e0 6 [(148, eqS vt), (152, tpS a 0)] (tmS a), e0 7 [(148, eqS vt), (153, tmS a)] (tmS (bB a)), e0 8 [(148, eqS vt), (149, tkS l), (154, tmS (bB a))] (eqS vt)] [0, 1, 2, 7, 8] [(0, eB dh), (1, eB kem), (2, tkS l), (7, nwS 0), (8, eqS vt)] ⟨⟨bK (k := 0) rfl rfl rfl rfl (by decide) (by kernel_rfl), trivial⟩, ⟨dw (k := 0) rfl rfl rfl rfl, trivial⟩, ⟨dM (j := 0) rfl rfl rfl rfl, trivial⟩, ⟨eZ rfl rfl, trivial⟩, ⟨b_ rfl fun ξ g w hB hH => a_ c67 rfl (fR w hB.wf.lt (hH 153 _ rfl)), trivial⟩, ⟨b_ rfl fun ξ g w hB hH => a_ c92 rfl (dL (dp w hB.wf.lt hol (eA c) (hH 149 _ rfl) (hH 154 _ rfl) hll) hy), trivial⟩, trivial⟩ fun ac g w hS => ?_
  refine wp_ret ?_
  refine bY ?_
  refine bH ?_
  exact bv hS.f.frm (bw Tryd.results75 (RV.tmp hS.f.frm rfl)) ⟨hS.gr0, by rw [tZ hh, hx, hy]; rfl⟩
 ·rw [hx] at hS
  refine rz hS [e0 3 [(148, eqS vt), (7, nwS 0)] (nwO 0 2), e0 4 [(148, eqS vt), (150, nwO 0 2)] (tkS ([a, b])), e0 5 [(148, eqS vt), (151, tkS ([a, b]))] (tpS a 0), e0 6 [(148, eqS vt), (152, tpS a 0)] (tmS a), e0 7 [(148, eqS vt), (153, tmS a)] (tmS (bB a)), e0 8 [(148, eqS vt), (149, tkS l), (154, tmS (bB a))] (eqS vf), e0 13 [(156, eqS vf), (7, nwS 0)] (nwO 0 2), e0 14 [(156, eqS vf), (160, nwO 0 2)] (tkS ([a, b])), e0 15 [(156, eqS vf), (161, tkS ([a, b]))] (tpS a 0), e0 16 [(156, eqS vf), (162, tpS a 0)] (tmS a), e0 17 [(156, eqS vf), (157, eB dh), (158, eB kem), (159, tkS l), (163, tmS a)] (eB (rb ⟨dh, kem⟩ l a))] [0, 1, 2, 7, 8] [(0, eB dh), (1, eB kem), (2, tkS l), (7, nwS 0), (8, eB (rb ⟨dh, kem⟩ l a))] ⟨⟨bK (k := 0) rfl rfl rfl rfl (by decide) (by kernel_rfl), trivial⟩, ⟨dw (k := 0) rfl rfl rfl rfl, trivial⟩, ⟨dM (j := 0) rfl rfl rfl rfl, trivial⟩, ⟨eZ rfl rfl, trivial⟩, ⟨b_ rfl fun ξ g w hB hH => a_ c67 rfl (fR w hB.wf.lt (hH 153 _ rfl)), trivial⟩, ⟨b_ rfl fun ξ g w hB hH => a_ c92 rfl (dL (dp w hB.wf.lt hol (eA c) (hH 149 _ rfl) (hH 154 _ rfl) hll) hy), trivial⟩, ⟨bK (k := 0) rfl rfl rfl rfl (by decide) (by kernel_rfl), trivial⟩, ⟨dw (k := 0) rfl rfl rfl rfl, trivial⟩, ⟨dM (j := 0) rfl rfl rfl rfl, trivial⟩, ⟨eZ rfl rfl, trivial⟩, ⟨b_ rfl fun ξ g w hB hH => a_ c75 rfl (ih a (by simp) _ _ _ w c hB.wf.lt (hH 159 _ rfl) (hH 163 _ rfl)), trivial⟩, trivial⟩ fun ac g w hS => ?_
  refine wp_ret ?_
  refine bY ?_
  refine bH ?_
  exact bv hS.f.frm (bw Tryd.results75 (RV.tmp hS.f.frm rfl)) ⟨hS.gr0, by rw [tZ hh, hx, hy]; rfl⟩
 ·rw [hx] at hS
  refine rz hS [] [0, 1, 2, 7, 8] [(0, eB dh), (1, eB kem), (2, tkS l), (7, nwS 0), (8, eqS vf)] trivial fun ac g w hS => ?_
  refine wp_ret ?_
  refine bY ?_
  refine bH ?_
  exact bv hS.f.frm (bw Tryd.results75 (RV.tmp hS.f.frm rfl)) ⟨hS.gr0, by rw [tZ hh, hx]; rfl⟩
set_option maxRecDepth 100000 in
set_option maxHeartbeats 4000000 in
theorem vK {dh kem : Bool} {l : List Tm} {k n : Int} {ks : List Tm} (ih : ∀ x, x ∈ ks → ∀ (X : List Nat) (v u : Value) (w : World), Ok x → (∀ x, x ∈ X → x < w.heap.size) → fZ w X l v → TmIs w X x u → Calls Tryd.prog 75 (List.toArray [.bool dh, .bool kem, v, u]) w (Ret fun v' w' => Gr w w' ∧ v' = .bool (rb ⟨dh, kem⟩ l x))) (hh : ci l (.mk k n ks) = false) (h1 : k ≠ 1) (h3 : k ≠ 3) (h4 : k ≠ 4) (h5 : k ≠ 5) {X : List Nat} {v u : Value} (w0 : World) (hX : ∀ x, x ∈ X → x < w0.heap.size) (hol : ∀ x, x ∈ l → Ok x) (hll : l.length ≤ 100000000) (hot : Ok (.mk k n ks)) (hv : fZ w0 X l v) (hu : TmIs w0 X (.mk k n ks) u) : Calls Tryd.prog 75 (List.toArray [.bool dh, .bool kem, v, u]) w0 (Ret fun v w' => Gr w0 w' ∧ v = .bool (rb ⟨dh, kem⟩ l (.mk k n ks))) := by
 have h8 := (dS hot).2.2.2
 refine df [eqS (.bool dh), eqS (.bool kem), tkS l, tmS (.mk k n ks)] hX ⟨rfl, rfl, hv, hu, trivial⟩ Tryd.func75 rfl Tryd.ntmps75 rfl fun ac hS => ?_
 refine wp_seq ?_
 refine rx [e1 0 [(3, tmS (.mk k n ks))] (nwS 0)] [0, 1, 2, 7, 8] (Bl [stB noR [], stB noR [(26, tmS (.mk k n ks))]]) 1 [(0, eB dh), (1, eB kem), (2, tkS l), (7, nwS 0), (8, eqS vf)] ⟨⟨cO rfl rfl rfl rfl (bQ _).sized rfl, trivial⟩, trivial⟩ hS rfl fun ac g w hS => ?_
 refine wp_seq ?_
 refine wp_seq ?_
 refine rz hS [e0 1 [(7, nwS 0)] (tmS (.mk k n ks)), e0 2 [(23, tkS l), (24, tmS (.mk k n ks))] (eqS vf)] [0, 1, 2, 7, 8, 25] [(0, eB dh), (1, eB kem), (2, tkS l), (7, nwS 0), (8, eqS vf), (25, eqS vf)] ⟨⟨cc (k := 0) rfl rfl rfl rfl (by decide) u26 rfl bV (bQ _).sized, trivial⟩, ⟨b_ rfl fun ξ g w hB hH => a_ c92 rfl (dL (dp w hB.wf.lt hol hot (hH 23 _ rfl) (hH 24 _ rfl) hll) hh), trivial⟩, trivial⟩ fun ac g w hS => ?_
 refine wp_cond_false (hS.f.frm.eval rfl) ?_
 refine wp_skip ?_
 refine wp_seq ?_
 refine wp_seq ?_
 refine rz hS [e0 0 [(7, nwS 0)] (nwO 0 0), e0 1 [(26, nwO 0 0)] (eI k)] [0, 1, 2, 7, 8, 27] [(0, eB dh), (1, eB kem), (2, tkS l), (7, nwS 0), (8, eqS vf), (27, eI k)] ⟨⟨bK (k := 0) rfl rfl rfl rfl (by decide) (by kernel_rfl), trivial⟩, ⟨fp (k := 0) rfl rfl rfl rfl, trivial⟩, trivial⟩ fun ac g w hS => ?_
 refine bz ?_
 refine wp_block ?_
 refine wp_seq ?_
 refine rz hS [e0 0 [(27, eI k)] (eqS vf)] [0, 1, 2, 7, 8, 27, 28] [(0, eB dh), (1, eB kem), (2, tkS l), (7, nwS 0), (8, eqS vf), (27, eI k), (28, eqS vf)] ⟨⟨bS rfl rfl rfl (by simp [eQ, h1]), trivial⟩, trivial⟩ fun ac g w hS => ?_
 refine wp_cond_false (hS.f.frm.eval rfl) ?_
 refine wp_seq ?_
 refine rz hS [e0 0 [(27, eI k)] (eqS vf)] [0, 1, 2, 7, 8, 27, 30] [(0, eB dh), (1, eB kem), (2, tkS l), (7, nwS 0), (8, eqS vf), (27, eI k), (30, eqS vf)] ⟨⟨bS rfl rfl rfl (by simp [eQ, h3]), trivial⟩, trivial⟩ fun ac g w hS => ?_
 refine wp_cond_false (hS.f.frm.eval rfl) ?_
 refine wp_seq ?_
 refine rz hS [e0 0 [(27, eI k)] (eqS vf)] [0, 1, 2, 7, 8, 27, 83] [(0, eB dh), (1, eB kem), (2, tkS l), (7, nwS 0), (8, eqS vf), (27, eI k), (83, eqS vf)] ⟨⟨bS rfl rfl rfl (by simp [eQ, h4]), trivial⟩, trivial⟩ fun ac g w hS => ?_
 refine wp_cond_false (hS.f.frm.eval rfl) ?_
 refine wp_seq ?_
 refine rz hS [e0 0 [(27, eI k)] (eqS vf)] [0, 1, 2, 7, 8, 137] [(0, eB dh), (1, eB kem), (2, tkS l), (7, nwS 0), (8, eqS vf), (137, eqS vf)] ⟨⟨bS rfl rfl rfl (by simp [eQ, h5]), trivial⟩, trivial⟩ fun ac g w hS => ?_
 refine wp_cond_false (hS.f.frm.eval rfl) ?_
 refine wp_skip ?_
 refine bR ?_
 refine wp_seq ?_
 refine wp_seq ?_
 refine rz hS [] [0, 1, 2, 7, 8, 22] [(0, eB dh), (1, eB kem), (2, tkS l), (7, nwS 0), (8, eqS vf), (22, eI 0)] trivial fun ac g w hS => ?_
 refine bz ?_
 refine wp_block ?_
 refine cb (fun a ac w => ∃ (i : Nat) (g : Gh), a = ks.length - i ∧ (i ≤ ks.length) ∧ ((ks.take i).all (rb ⟨dh, kem⟩ l) = true) ∧ SS [(0, eB dh), (1, eB kem), (2, tkS l), (7, nwS 0), (22, eI i)] 184 (stB noR [(26, tmS (.mk k n ks))]) ⟨[], [], X, []⟩ w0 ac g w) _ ⟨0, _, rfl, Nat.zero_le _, rfl, hS.to ⟨rfl, rfl, rfl, rfl, rfl, trivial⟩⟩ ?_
 rintro _ ac w ⟨i, g, rfl, hi, ha, hS⟩
 refine wp_seq ?_
 refine wp_seq ?_
 refine rz hS [e0 1 [(7, nwS 0)] (nwO 0 2), e0 2 [(168, nwO 0 2)] (tkS ks), e0 3 [(169, tkS ks)] (eI ks.length)] [0, 1, 2, 7, 22, 171] [(0, eB dh), (1, eB kem), (2, tkS l), (7, nwS 0), (22, eI i), (171, eB (decide ((i : Int) < ks.length)))] ⟨⟨bK (k := 0) rfl rfl rfl rfl (by decide) (by kernel_rfl), trivial⟩, ⟨dw (k := 0) rfl rfl rfl rfl, trivial⟩, ⟨cC rfl rfl, trivial⟩, trivial⟩ fun ac g w hS => ?_
 refine bz ?_
 refine cn hS.f.frm rfl (fun h => ?_) (fun h => ?_)
 ·have hc := of_decide_eq_true h
  clear h
  have hc := Int.ofNat_lt.1 hc
  obtain ⟨x, hx⟩ : ∃ x, ks[i]? = some x := ⟨_, List.getElem?_eq_getElem hc⟩
  refine wp_skip ?_
  refine wp_seq ?_
  refine wp_block ?_
  refine wp_seq ?_
  refine rz hS [e0 3 [(7, nwS 0)] (nwO 0 2), e0 4 [(177, nwO 0 2)] (tkS ks), e0 6 [(178, tkS ks), (179, eI i)] (tpS x 0), e0 7 [(180, tpS x 0)] (tmS x), e0 8 [(174, eB dh), (175, eB kem), (176, tkS l), (181, tmS x)] (eB (rb ⟨dh, kem⟩ l x))] [0, 1, 2, 7, 22, 183] [(0, eB dh), (1, eB kem), (2, tkS l), (7, nwS 0), (22, eI i), (183, eB (!(rb ⟨dh, kem⟩ l x)))] ⟨⟨bK (k := 0) rfl rfl rfl rfl (by decide) (by kernel_rfl), trivial⟩, ⟨dw (k := 0) rfl rfl rfl rfl, trivial⟩, ⟨dM rfl rfl rfl hx, trivial⟩, ⟨eZ rfl rfl, trivial⟩, ⟨b_ rfl fun ξ g w hB hH => a_ c75 rfl (ih x (List.mem_of_getElem? hx) _ _ _ w (hot.kid (List.mem_of_getElem? hx)) hB.wf.lt (hH 176 _ rfl) (hH 181 _ rfl)), trivial⟩, trivial⟩ fun ac g w hS => ?_
  refine bz ?_
  refine cn hS.f.frm rfl (fun h => ?_) (fun h => ?_)
  ·have hq := h
   clear h
   have hq : rb ⟨dh, kem⟩ l x = false := by simpa using hq
   refine wp_seq ?_
   refine rz hS [] [0, 1, 2, 7, 8, 22] [(0, eB dh), (1, eB kem), (2, tkS l), (7, nwS 0), (8, eqS vf), (22, eI i)] trivial fun ac g w hS => ?_
   refine wp_ret ?_
   refine bY ?_
   refine bH ?_
   refine bH ?_
   refine bY ?_
   refine bH ?_
   exact bv hS.f.frm (bw Tryd.results75 (RV.tmp hS.f.frm rfl)) ⟨hS.gr0, by rw [vU hh h1 h3 h4 h5 hx hq]; rfl⟩
  ·have hq := h
   clear h
   have hq : rb ⟨dh, kem⟩ l x = true := by simpa using hq
   refine wp_skip ?_
   refine bR ?_
   refine rz hS [e0 1 [(172, eI i)] (eI (((i : Nat) : Int) + 1))] [0, 1, 2, 7, 22] [(0, eB dh), (1, eB kem), (2, tkS l), (7, nwS 0), (22, eI (((i : Nat) : Int) + 1))] ⟨⟨bL fun ξ g w hB hH => ⟨_, rfl, cy rfl rfl (bO (by omega) (by omega))⟩, trivial⟩, trivial⟩ fun ac g w hS => ?_
   refine bz ?_
   refine ⟨_, ?_, i + 1, _, rfl, hc, ru hx ha hq, hS.to ⟨rfl, rfl, rfl, rfl, rfl, trivial⟩⟩
   omega
 ·have hc := of_decide_eq_false h
  clear h
  obtain rfl : i = ks.length := by omega
  rw [List.take_length] at ha
  refine wp_exit ?_
  refine bG ?_
  refine bG ?_
  refine bZ ?_
  refine wp_seq ?_
  refine rz hS [] [0, 1, 2, 7, 8] [(0, eB dh), (1, eB kem), (2, tkS l), (7, nwS 0), (8, eqS vt)] trivial fun ac g w hS => ?_
  refine wp_ret ?_
  exact bv hS.f.frm (bw Tryd.results75 (RV.tmp hS.f.frm rfl)) ⟨hS.gr0, by rw [vV hh h1 h3 h4 h5, ha]; rfl⟩
theorem jv {dh kem : Bool} {l : List Tm} (hol : ∀ x, x ∈ l → Ok x) (hll : l.length ≤ 100000000) (t : Tm) : ∀ (X : List Nat) (v u : Value) (w : World), Ok t → (∀ x, x ∈ X → x < w.heap.size) → fZ w X l v → TmIs w X t u → Calls Tryd.prog 75 (List.toArray [.bool dh, .bool kem, v, u]) w (Ret fun v' w' => Gr w w' ∧ v' = .bool (rb ⟨dh, kem⟩ l t)) := by
 refine Tm.ind (p := fun t => ∀ (X : List Nat) (v u : Value) (w : World), Ok t → (∀ x, x ∈ X → x < w.heap.size) → fZ w X l v → TmIs w X t u → Calls Tryd.prog 75 (List.toArray [.bool dh, .bool kem, v, u]) w (Ret fun v' w' => Gr w w' ∧ v' = .bool (rb ⟨dh, kem⟩ l t))) ?_ t
 intro k n ks ih X v u w ho hX hv hu
 cases hh : ci l (.mk k n ks) with
 | true => exact vR hh w hX hol hll ho hv hu
 | false =>
  by_cases h1 : k = 1
  ·subst h1; exact vQ hh w hX hol hll ho hv hu
  by_cases h3 : k = 3
  ·subst h3
   obtain ⟨a, b, rfl, _, _⟩ := ho.two' (by decide) (by decide) (by decide)
   exact vO ih hh w hX hol hll ho hv hu
  by_cases h4 : k = 4
  ·subst h4
   obtain ⟨a, b, rfl, _, _⟩ := ho.two' (by decide) (by decide) (by decide)
   exact vM ih hh w hX hol hll ho hv hu
  by_cases h5 : k = 5
  ·subst h5
   obtain ⟨a, b, rfl, _, _⟩ := ho.two' (by decide) (by decide) (by decide)
   exact vL ih hh w hX hol hll ho hv hu
  exact vK ih hh h1 h3 h4 h5 w hX hol hll ho hv hu
end Go.Mi.Term
