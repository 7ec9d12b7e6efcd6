/- Walks: package symbol. -/
import Derived.Test.YtoefhjabaanokaaDoorH39
set_option linter.unusedSimpArgs false
set_option linter.unusedVariables false
set_option linter.unnecessarySimpa false
namespace Go.Mi.Term
open Go.Mi Go.Proofs Go.RowKit
set_option maxRecDepth 100000 in
set_option maxHeartbeats 4000000 in
theorem xh {k n k' n' : Int} {ks ks' : List Tm}  {X : List Nat} {v u : Value} (w0 : World) (hX : ∀ x, x ∈ X → x < w0.heap.size) (ha : Ok (.mk k n ks)) (hb : Ok (.mk k' n' ks')) (hv : TmIs w0 X (.mk k n ks) v) (hu : TmIs w0 X (.mk k' n' ks') u) (h : ¬k = k') : Calls Tryd.prog 72 (List.toArray [v, u]) w0 (Ret fun v w' => Gr w0 w' ∧ v = .bool (ei (.mk k n ks) (.mk k' n' ks'))) := by
 have h8 := (dS ha).2.2.2
 refine df [tmS (.mk k n ks), tmS (.mk k' n' ks')] hX ⟨hv, hu, trivial⟩ Tryd.func72 rfl Tryd.ntmps72 rfl fun ac hS => ?_
 refine wp_seq ?_
 refine rx [e1 0 [(0, tmS (.mk k n ks))] (nwS 0), ⟨1, [(1, tmS (.mk k' n' ks'))], nwS 1, [1], true⟩] [2, 3, 4] (Bl [stB noR [], stB noR [(26, tmS (.mk k n ks))], stB noR [(26, tmS (.mk k n ks)), (26, tmS (.mk k' n' ks'))]]) 2 [(2, nwS 0), (3, nwS 1), (4, eqS vf)] ⟨⟨cO rfl rfl rfl rfl (bQ _).sized rfl, trivial⟩, ⟨cO rfl rfl rfl rfl (bQ _).sized rfl, trivial⟩, trivial⟩ hS rfl fun ac g w hS => ?_
 refine wp_seq ?_
 refine wp_seq ?_
 refine rz hS [e0 0 [(2, nwS 0)] (nwO 0 0), e0 1 [(7, nwO 0 0)] (eI k), e0 2 [(3, nwS 1)] (nwO 1 0), e0 3 [(9, nwO 1 0)] (eI k'), e0 4 [(8, eI k), (10, eI k')] (eqS vt)] [2, 3, 4, 32] [(2, nwS 0), (3, nwS 1), (4, eqS vf), (32, eqS vt)] ⟨⟨bK (k := 0) rfl rfl rfl rfl (by decide) (by kernel_rfl), trivial⟩, ⟨fp (k := 0) rfl rfl rfl rfl, trivial⟩, ⟨bK (k := 1) rfl rfl rfl rfl (by decide) (by kernel_rfl), trivial⟩, ⟨fp (k := 1) rfl rfl rfl rfl, trivial⟩, ⟨bS rfl rfl rfl (by simp [eQ, h]), trivial⟩, trivial⟩ fun ac g w hS => ?_
 refine wp_cond_true (hS.f.frm.eval rfl) ?_
 refine wp_seq ?_
 refine rz hS [] [2, 3, 4] [(2, nwS 0), (3, nwS 1), (4, eqS vf)] trivial fun ac g w hS => ?_
 refine wp_ret ?_
 refine bH ?_
 exact bv hS.f.frm (bw Tryd.results72 (RV.tmp hS.f.frm rfl)) ⟨hS.gr0, by rw [rU ha hb h]; rfl⟩
set_option maxRecDepth 100000 in
set_option maxHeartbeats 4000000 in
theorem xg {k n k' n' : Int} {ks ks' : List Tm}  {X : List Nat} {v u : Value} (w0 : World) (hX : ∀ x, x ∈ X → x < w0.heap.size) (ha : Ok (.mk k n ks)) (hb : Ok (.mk k' n' ks')) (hv : TmIs w0 X (.mk k n ks) v) (hu : TmIs w0 X (.mk k' n' ks') u) (h1 : k = k') (h : ¬ks.length = ks'.length) : Calls Tryd.prog 72 (List.toArray [v, u]) w0 (Ret fun v w' => Gr w0 w' ∧ v = .bool (ei (.mk k n ks) (.mk k' n' ks'))) := by
 have h8 := (dS ha).2.2.2
 refine df [tmS (.mk k n ks), tmS (.mk k' n' ks')] hX ⟨hv, hu, trivial⟩ Tryd.func72 rfl Tryd.ntmps72 rfl fun ac hS => ?_
 refine wp_seq ?_
 refine rx [e1 0 [(0, tmS (.mk k n ks))] (nwS 0), ⟨1, [(1, tmS (.mk k' n' ks'))], nwS 1, [1], true⟩] [2, 3, 4] (Bl [stB noR [], stB noR [(26, tmS (.mk k n ks))], stB noR [(26, tmS (.mk k n ks)), (26, tmS (.mk k' n' ks'))]]) 2 [(2, nwS 0), (3, nwS 1), (4, eqS vf)] ⟨⟨cO rfl rfl rfl rfl (bQ _).sized rfl, trivial⟩, ⟨cO rfl rfl rfl rfl (bQ _).sized rfl, trivial⟩, trivial⟩ hS rfl fun ac g w hS => ?_
 refine wp_seq ?_
 refine wp_seq ?_
 refine rz hS [e0 0 [(2, nwS 0)] (nwO 0 0), e0 1 [(7, nwO 0 0)] (eI k), e0 2 [(3, nwS 1)] (nwO 1 0), e0 3 [(9, nwO 1 0)] (eI k'), e0 4 [(8, eI k), (10, eI k')] (eqS vf), e0 6 [(12, eqS vf), (2, nwS 0)] (nwO 0 2), e0 7 [(12, eqS vf), (13, nwO 0 2)] (tkS ks), e0 8 [(12, eqS vf), (14, tkS ks)] (eI ks.length), e0 9 [(12, eqS vf), (3, nwS 1)] (nwO 1 2), e0 10 [(12, eqS vf), (16, nwO 1 2)] (tkS ks'), e0 11 [(12, eqS vf), (17, tkS ks')] (eI ks'.length), e0 12 [(12, eqS vf), (15, eI ks.length), (18, eI ks'.length)] (eqS vt)] [2, 3, 4, 32] [(2, nwS 0), (3, nwS 1), (4, eqS vf), (32, eqS vt)] ⟨⟨bK (k := 0) rfl rfl rfl rfl (by decide) (by kernel_rfl), trivial⟩, ⟨fp (k := 0) rfl rfl rfl rfl, trivial⟩, ⟨bK (k := 1) rfl rfl rfl rfl (by decide) (by kernel_rfl), trivial⟩, ⟨fp (k := 1) rfl rfl rfl rfl, trivial⟩, ⟨bS rfl rfl rfl (by simp [eQ, h1]), trivial⟩, ⟨bK (k := 0) rfl rfl rfl rfl (by decide) (by kernel_rfl), trivial⟩, ⟨dw (k := 0) rfl rfl rfl rfl, trivial⟩, ⟨cC rfl rfl, trivial⟩, ⟨bK (k := 1) rfl rfl rfl rfl (by decide) (by kernel_rfl), trivial⟩, ⟨dw (k := 1) rfl rfl rfl rfl, trivial⟩, ⟨cC rfl rfl, trivial⟩, ⟨bS rfl rfl rfl (by simp [eQ]; omega), trivial⟩, trivial⟩ fun ac g w hS => ?_
 refine wp_cond_true (hS.f.frm.eval rfl) ?_
 refine wp_seq ?_
 refine rz hS [] [2, 3, 4] [(2, nwS 0), (3, nwS 1), (4, eqS vf)] trivial fun ac g w hS => ?_
 refine wp_ret ?_
 refine bH ?_
 exact bv hS.f.frm (bw Tryd.results72 (RV.tmp hS.f.frm rfl)) ⟨hS.gr0, by subst h1; rw [tN ha hb h]; rfl⟩
set_option maxRecDepth 100000 in
set_option maxHeartbeats 4000000 in
theorem xf {k n k' n' : Int} {ks ks' : List Tm}  {X : List Nat} {v u : Value} (w0 : World) (hX : ∀ x, x ∈ X → x < w0.heap.size) (ha : Ok (.mk k n ks)) (hb : Ok (.mk k' n' ks')) (hv : TmIs w0 X (.mk k n ks) v) (hu : TmIs w0 X (.mk k' n' ks') u) (h1 : k = k') (h2 : ks.length = ks'.length) (hk : k = 1) (h : ¬n = n') : Calls Tryd.prog 72 (List.toArray [v, u]) w0 (Ret fun v w' => Gr w0 w' ∧ v = .bool (ei (.mk k n ks) (.mk k' n' ks'))) := by
 have h8 := (dS ha).2.2.2
 refine df [tmS (.mk k n ks), tmS (.mk k' n' ks')] hX ⟨hv, hu, trivial⟩ Tryd.func72 rfl Tryd.ntmps72 rfl fun ac hS => ?_
 refine wp_seq ?_
 refine rx [e1 0 [(0, tmS (.mk k n ks))] (nwS 0), ⟨1, [(1, tmS (.mk k' n' ks'))], nwS 1, [1], true⟩] [2, 3, 4] (Bl [stB noR [], stB noR [(26, tmS (.mk k n ks))], stB noR [(26, tmS (.mk k n ks)), (26, tmS (.mk k' n' ks'))]]) 2 [(2, nwS 0), (3, nwS 1), (4, eqS vf)] ⟨⟨cO rfl rfl rfl rfl (bQ _).sized rfl, trivial⟩, ⟨cO rfl rfl rfl rfl (bQ _).sized rfl, trivial⟩, trivial⟩ hS rfl fun ac g w hS => ?_
 refine wp_seq ?_
 refine wp_seq ?_
 refine rz hS [e0 0 [(2, nwS 0)] (nwO 0 0), e0 1 [(7, nwO 0 0)] (eI k), e0 2 [(3, nwS 1)] (nwO 1 0), e0 3 [(9, nwO 1 0)] (eI k'), e0 4 [(8, eI k), (10, eI k')] (eqS vf), e0 6 [(12, eqS vf), (2, nwS 0)] (nwO 0 2), e0 7 [(12, eqS vf), (13, nwO 0 2)] (tkS ks), e0 8 [(12, eqS vf), (14, tkS ks)] (eI ks.length), e0 9 [(12, eqS vf), (3, nwS 1)] (nwO 1 2), e0 10 [(12, eqS vf), (16, nwO 1 2)] (tkS ks'), e0 11 [(12, eqS vf), (17, tkS ks')] (eI ks'.length), e0 12 [(12, eqS vf), (15, eI ks.length), (18, eI ks'.length)] (eqS vf), e0 15 [(21, eqS vf), (2, nwS 0)] (nwO 0 0), e0 16 [(21, eqS vf), (22, nwO 0 0)] (eI k), e0 17 [(21, eqS vf), (23, eI k)] (eqS vt), e0 19 [(25, eqS vt), (2, nwS 0)] (nwO 0 1), e0 20 [(25, eqS vt), (26, nwO 0 1)] (eI n), e0 21 [(25, eqS vt), (3, nwS 1)] (nwO 1 1), e0 22 [(25, eqS vt), (28, nwO 1 1)] (eI n'), e0 23 [(25, eqS vt), (27, eI n), (29, eI n')] (eqS vt)] [2, 3, 4, 32] [(2, nwS 0), (3, nwS 1), (4, eqS vf), (32, eqS vt)] ⟨⟨bK (k := 0) rfl rfl rfl rfl (by decide) (by kernel_rfl), trivial⟩, ⟨fp (k := 0) rfl rfl rfl rfl, trivial⟩, ⟨bK (k := 1) rfl rfl rfl rfl (by decide) (by kernel_rfl), trivial⟩, ⟨fp (k := 1) rfl rfl rfl rfl, trivial⟩, ⟨bS rfl rfl rfl (by simp [eQ, h1]), trivial⟩, ⟨bK (k := 0) rfl rfl rfl rfl (by decide) (by kernel_rfl), trivial⟩, ⟨dw (k := 0) rfl rfl rfl rfl, trivial⟩, ⟨cC rfl rfl, trivial⟩, ⟨bK (k := 1) rfl rfl rfl rfl (by decide) (by kernel_rfl), trivial⟩, ⟨dw (k := 1) rfl rfl rfl rfl, trivial⟩, ⟨cC rfl rfl, trivial⟩, ⟨bS rfl rfl rfl (by simp [eQ, h2]), trivial⟩, ⟨bK (k := 0) rfl rfl rfl rfl (by decide) (by kernel_rfl), trivial⟩, ⟨fp (k := 0) rfl rfl rfl rfl, trivial⟩, ⟨bS rfl rfl rfl (by simp [eQ, hk]), trivial⟩, ⟨bK (k := 0) rfl rfl rfl rfl (by decide) (by kernel_rfl), trivial⟩, ⟨oQ (k := 0) rfl rfl rfl rfl, trivial⟩, ⟨bK (k := 1) rfl rfl rfl rfl (by decide) (by kernel_rfl), trivial⟩, ⟨oQ (k := 1) rfl rfl rfl rfl, trivial⟩, ⟨bS rfl rfl rfl (by simp [eQ, h]), trivial⟩, trivial⟩ fun ac g w hS => ?_
 refine wp_cond_true (hS.f.frm.eval rfl) ?_
 refine wp_seq ?_
 refine rz hS [] [2, 3, 4] [(2, nwS 0), (3, nwS 1), (4, eqS vf)] trivial fun ac g w hS => ?_
 refine wp_ret ?_
 refine bH ?_
 exact bv hS.f.frm (bw Tryd.results72 (RV.tmp hS.f.frm rfl)) ⟨hS.gr0, by subst h1; subst hk; rw [rT ha hb h]; rfl⟩
set_option maxRecDepth 100000 in
set_option maxHeartbeats 4000000 in
theorem xd {k n k' n' : Int} {ks ks' : List Tm} (ih : ∀ x, x ∈ ks → ∀ (y : Tm) (X : List Nat) (v u : Value) (w : World), Ok x → Ok y → (∀ x, x ∈ X → x < w.heap.size) → TmIs w X x v → TmIs w X y u → Calls Tryd.prog 72 (List.toArray [v, u]) w (Ret fun v' w' => Gr w w' ∧ v' = .bool (ei x y))) {X : List Nat} {v u : Value} (w0 : World) (hX : ∀ x, x ∈ X → x < w0.heap.size) (ha : Ok (.mk k n ks)) (hb : Ok (.mk k n' ks')) (hv : TmIs w0 X (.mk k n ks) v) (hu : TmIs w0 X (.mk k n' ks') u) (hn : k = 1 → n = n') (hl : ks.length = ks'.length) : Calls Tryd.prog 72 (List.toArray [v, u]) w0 (Ret fun v w' => Gr w0 w' ∧ v = .bool (ei (.mk k n ks) (.mk k n' ks'))) := by
 have h8 := (dS ha).2.2.2
 refine df [tmS (.mk k n ks), tmS (.mk k n' ks')] hX ⟨hv, hu, trivial⟩ Tryd.func72 rfl Tryd.ntmps72 rfl fun ac hS => ?_
 refine wp_seq ?_
 refine rx [e1 0 [(0, tmS (.mk k n ks))] (nwS 0), ⟨1, [(1, tmS (.mk k n' ks'))], nwS 1, [1], true⟩] [2, 3, 4] (Bl [stB noR [], stB noR [(26, tmS (.mk k n ks))], stB noR [(26, tmS (.mk k n ks)), (26, tmS (.mk k n' ks'))]]) 2 [(2, nwS 0), (3, nwS 1), (4, eqS vf)] ⟨⟨cO rfl rfl rfl rfl (bQ _).sized rfl, trivial⟩, ⟨cO rfl rfl rfl rfl (bQ _).sized rfl, trivial⟩, trivial⟩ hS rfl fun ac g w hS => ?_
 refine wp_seq ?_
 refine wp_seq ?_
 refine eD (fun ac w => ∃  (g : Gh), SS [(2, nwS 0), (3, nwS 1), (32, eqS vf)] 82 (stB noR [(26, tmS (.mk k n ks)), (26, tmS (.mk k n' ks'))]) ⟨[], [], X, []⟩ w0 ac g w) ?_ ?_
 rotate_left
 ·rintro ac w ⟨g, hS⟩
  refine wp_cond_false (hS.f.frm.eval rfl) ?_
  refine wp_skip ?_
  refine wp_seq ?_
  refine rz hS [] [2, 3, 5, 32] [(2, nwS 0), (3, nwS 1), (5, eqS vt), (32, eqS vf)] trivial fun ac g w hS => ?_
  refine wp_seq ?_
  refine wp_seq ?_
  refine rz hS [] [2, 3, 5, 6, 32] [(2, nwS 0), (3, nwS 1), (5, eqS vt), (6, eI 0), (32, eqS vf)] trivial fun ac g w hS => ?_
  refine bz ?_
  refine eD (fun ac w => ∃  (g : Gh), SS [(2, nwS 0), (3, nwS 1), (5, eB (fx ks ks' ks.length))] 82 (stB noR [(26, tmS (.mk k n ks)), (26, tmS (.mk k n' ks'))]) ⟨[], [], X, []⟩ w0 ac g w) ?_ ?_
  rotate_left
  ·rintro ac w ⟨g, hS⟩
   refine wp_seq ?_
   refine wp_seq ?_
   rcases pD (fx ks ks' ks.length) k with hf | ⟨hf, rfl⟩ | ⟨hf, h3⟩
   ·rw [hf] at hS
    refine rz hS [] [2, 3, 5, 60] [(2, nwS 0), (3, nwS 1), (5, eqS vt), (60, eqS vf)] trivial fun ac g w hS => ?_
    refine wp_cond_false (hS.f.frm.eval rfl) ?_
    refine wp_skip ?_
    refine wp_seq ?_
    refine rz hS [] [2, 3, 4, 5] [(2, nwS 0), (3, nwS 1), (4, eqS vt), (5, eqS vt)] trivial fun ac g w hS => ?_
    refine wp_ret ?_
    exact bv hS.f.frm (bw Tryd.results72 (RV.tmp hS.f.frm rfl)) ⟨hS.gr0, by rw [tM hn hl hf]; rfl⟩
   ·rw [hf] at hS
    obtain ⟨a, b, rfl, m, r⟩ := ha.two' (by omega) (by omega) (by omega)
    obtain ⟨c, d, rfl, p, o⟩ := hb.two' (by omega) (by omega) (by omega)
    rw [vH ha hb hf]
    refine rz hS [e0 3 [(56, eqS vt), (2, nwS 0)] (nwO 0 0), e0 4 [(56, eqS vt), (57, nwO 0 0)] (eI 3), e0 5 [(56, eqS vt), (58, eI 3)] (eqS vt)] [2, 3, 5, 60] [(2, nwS 0), (3, nwS 1), (5, eqS vf), (60, eqS vt)] ⟨⟨bK (k := 0) rfl rfl rfl rfl (by decide) (by kernel_rfl), trivial⟩, ⟨fp (k := 0) rfl rfl rfl rfl, trivial⟩, ⟨bS rfl rfl rfl (by simp [eQ]), trivial⟩, trivial⟩ fun ac g w hS => ?_
    refine wp_cond_true (hS.f.frm.eval rfl) ?_
    refine wp_seq ?_
    rcases Bool.eq_false_or_eq_true (ei a d) with hx | hx
    ·skip
     refine ry mo hS [e0 0 [(2, nwS 0)] (nwO 0 2), e0 1 [(61, nwO 0 2)] (tkS ([a, b])), e0 2 [(62, tkS ([a, b]))] (tpS a 0), e0 3 [(63, tpS a 0)] (tmS a), e0 4 [(3, nwS 1)] (nwO 1 2), e0 5 [(65, nwO 1 2)] (tkS ([c, d])), e0 6 [(66, tkS ([c, d]))] (tpS d 0), e0 7 [(67, tpS d 0)] (tmS d), e0 8 [(64, tmS a), (68, tmS d)] (eqS vt), e0 10 [(70, eqS vt), (2, nwS 0)] (nwO 0 2), e0 11 [(70, eqS vt), (71, nwO 0 2)] (tkS ([a, b])), e0 12 [(70, eqS vt), (72, tkS ([a, b]))] (tpS b 0), e0 13 [(70, eqS vt), (73, tpS b 0)] (tmS b), e0 14 [(70, eqS vt), (3, nwS 1)] (nwO 1 2), e0 15 [(70, eqS vt), (75, nwO 1 2)] (tkS ([c, d])), e0 16 [(70, eqS vt), (76, tkS ([c, d]))] (tpS c 0), e0 17 [(70, eqS vt), (77, tpS c 0)] (tmS c), e0 18 [(70, eqS vt), (74, tmS b), (78, tmS c)] (eB (ei b c))] [2, 3, 4, 5] [(2, nwS 0), (3, nwS 1), (4, eB (ei b c)), (5, eqS vf)] ⟨⟨bK (k := 0) rfl rfl rfl rfl (by decide) (by kernel_rfl), trivial⟩, ⟨dw (k := 0) rfl rfl rfl rfl, trivial⟩, ⟨dM (j := 0) rfl rfl rfl rfl, trivial⟩, ⟨eZ rfl rfl, trivial⟩, ⟨bK (k := 1) rfl rfl rfl rfl (by decide) (by kernel_rfl), trivial⟩, ⟨dw (k := 1) rfl rfl rfl rfl, trivial⟩, ⟨dM (j := 1) rfl rfl rfl rfl, trivial⟩, ⟨eZ rfl rfl, trivial⟩, ⟨b_ rfl fun ξ g w hB hH => a_ c72 rfl (dL (ih a (by simp) d _ _ _ w m o hB.wf.lt (hH 64 _ rfl) (hH 68 _ rfl)) hx), trivial⟩, ⟨bK (k := 0) rfl rfl rfl rfl (by decide) (by kernel_rfl), trivial⟩, ⟨dw (k := 0) rfl rfl rfl rfl, trivial⟩, ⟨dM (j := 1) rfl rfl rfl rfl, trivial⟩, ⟨eZ rfl rfl, trivial⟩, ⟨bK (k := 1) rfl rfl rfl rfl (by decide) (by kernel_rfl), trivial⟩, ⟨dw (k := 1) rfl rfl rfl rfl, trivial⟩, ⟨dM (j := 0) rfl rfl rfl rfl, trivial⟩, ⟨eZ rfl rfl, trivial⟩, ⟨b_ rfl fun ξ g w hB hH => a_ c72 rfl (ih b (by simp) c _ _ _ w r p hB.wf.lt (hH 74 _ rfl) (hH 78 _ rfl)), trivial⟩, trivial⟩ fun ac g w hS => ?_
     refine wp_ret ?_
     refine bH ?_
     exact bv hS.f.frm (bw Tryd.results72 (RV.tmp hS.f.frm rfl)) ⟨hS.gr0, by rw [hx]; rfl⟩
    ·skip
     refine ry mo hS [e0 0 [(2, nwS 0)] (nwO 0 2), e0 1 [(61, nwO 0 2)] (tkS ([a, b])), e0 2 [(62, tkS ([a, b]))] (tpS a 0), e0 3 [(63, tpS a 0)] (tmS a), e0 4 [(3, nwS 1)] (nwO 1 2), e0 5 [(65, nwO 1 2)] (tkS ([c, d])), e0 6 [(66, tkS ([c, d]))] (tpS d 0), e0 7 [(67, tpS d 0)] (tmS d), e0 8 [(64, tmS a), (68, tmS d)] (eqS vf)] [2, 3, 4, 5] [(2, nwS 0), (3, nwS 1), (4, eqS vf), (5, eqS vf)] ⟨⟨bK (k := 0) rfl rfl rfl rfl (by decide) (by kernel_rfl), trivial⟩, ⟨dw (k := 0) rfl rfl rfl rfl, trivial⟩, ⟨dM (j := 0) rfl rfl rfl rfl, trivial⟩, ⟨eZ rfl rfl, trivial⟩, ⟨bK (k := 1) rfl rfl rfl rfl (by decide) (by kernel_rfl), trivial⟩, ⟨dw (k := 1) rfl rfl rfl rfl, trivial⟩, ⟨dM (j := 1) rfl rfl rfl rfl, trivial⟩, ⟨eZ rfl rfl, trivial⟩, ⟨b_ rfl fun ξ g w hB hH => a_ c72 rfl (dL (ih a (by simp) d _ _ _ w m o hB.wf.lt (hH 64 _ rfl) (hH 68 _ rfl)) hx), trivial⟩, trivial⟩ fun ac g w hS => ?_
     refine wp_ret ?_
     refine bH ?_
     exact bv hS.f.frm (bw Tryd.results72 (RV.tmp hS.f.frm rfl)) ⟨hS.gr0, by rw [hx]; rfl⟩
   ·rw [hf] at hS
    refine rz hS [e0 3 [(56, eqS vt), (2, nwS 0)] (nwO 0 0), e0 4 [(56, eqS vt), (57, nwO 0 0)] (eI k), e0 5 [(56, eqS vt), (58, eI k)] (eqS vf)] [2, 3, 5, 60] [(2, nwS 0), (3, nwS 1), (5, eqS vf), (60, eqS vf)] ⟨⟨bK (k := 0) rfl rfl rfl rfl (by decide) (by kernel_rfl), trivial⟩, ⟨fp (k := 0) rfl rfl rfl rfl, trivial⟩, ⟨bS rfl rfl rfl (by simp [eQ, h3]), trivial⟩, trivial⟩ fun ac g w hS => ?_
    refine wp_cond_false (hS.f.frm.eval rfl) ?_
    refine wp_skip ?_
    refine wp_seq ?_
    refine rz hS [] [2, 3, 4, 5] [(2, nwS 0), (3, nwS 1), (4, eqS vf), (5, eqS vf)] trivial fun ac g w hS => ?_
    refine wp_ret ?_
    exact bv hS.f.frm (bw Tryd.results72 (RV.tmp hS.f.frm rfl)) ⟨hS.gr0, by rw [vG ha hb hl hf h3]; rfl⟩
  refine wp_block ?_
  refine cb (fun s ac w => ∃ (i : Nat) (g : Gh), s = ks.length - i ∧ (i ≤ ks.length) ∧ SS [(2, nwS 0), (3, nwS 1), (5, eB (fx ks ks' i)), (6, eI i)] 82 (stB noR [(26, tmS (.mk k n ks)), (26, tmS (.mk k n' ks'))]) ⟨[], [], X, []⟩ w0 ac g w) _ ⟨0, _, rfl, Nat.zero_le _, hS.to ⟨rfl, rfl, rfl, rfl, trivial⟩⟩ ?_
  rintro _ ac w ⟨i, g, rfl, hi, hS⟩
  refine wp_seq ?_
  refine wp_seq ?_
  by_cases hc : i < ks.length
  ·skip
   refine rz hS [e0 1 [(2, nwS 0)] (nwO 0 2), e0 2 [(34, nwO 0 2)] (tkS ks), e0 3 [(35, tkS ks)] (eI ks.length), e0 4 [(33, eI i), (36, eI ks.length)] (eqS vt)] [2, 3, 5, 6, 40] [(2, nwS 0), (3, nwS 1), (5, eB (fx ks ks' i)), (6, eI i), (40, eB (fx ks ks' i))] ⟨⟨bK (k := 0) rfl rfl rfl rfl (by decide) (by kernel_rfl), trivial⟩, ⟨dw (k := 0) rfl rfl rfl rfl, trivial⟩, ⟨cC rfl rfl, trivial⟩, ⟨bS rfl rfl rfl (congrArg some (decide_eq_true (by omega))), trivial⟩, trivial⟩ fun ac g w hS => ?_
   refine bz ?_
   refine cn hS.f.frm rfl (fun h => ?_) (fun h => ?_)
   ·have hq := h
    clear h
    obtain ⟨a1, e⟩ : ∃ a1, ks[i]? = some a1 := ⟨_, List.getElem?_eq_getElem hc⟩
    obtain ⟨b1, l⟩ : ∃ b1, ks'[i]? = some b1 := ⟨_, List.getElem?_eq_getElem (by omega)⟩
    refine wp_skip ?_
    refine wp_seq ?_
    refine wp_block ?_
    refine ry mo hS [e0 0 [(2, nwS 0)] (nwO 0 2), e0 1 [(43, nwO 0 2)] (tkS ks), e0 3 [(44, tkS ks), (45, eI i)] (tpS a1 0), e0 4 [(46, tpS a1 0)] (tmS a1), e0 5 [(3, nwS 1)] (nwO 1 2), e0 6 [(48, nwO 1 2)] (tkS ks'), e0 8 [(49, tkS ks'), (50, eI i)] (tpS b1 0), e0 9 [(51, tpS b1 0)] (tmS b1), e0 10 [(47, tmS a1), (52, tmS b1)] (eB (ei a1 b1))] [2, 3, 5, 6] [(2, nwS 0), (3, nwS 1), (5, eB (ei a1 b1)), (6, eI i)] ⟨⟨bK (k := 0) rfl rfl rfl rfl (by decide) (by kernel_rfl), trivial⟩, ⟨dw (k := 0) rfl rfl rfl rfl, trivial⟩, ⟨dM rfl rfl rfl e, trivial⟩, ⟨eZ rfl rfl, trivial⟩, ⟨bK (k := 1) rfl rfl rfl rfl (by decide) (by kernel_rfl), trivial⟩, ⟨dw (k := 1) rfl rfl rfl rfl, trivial⟩, ⟨dM rfl rfl rfl l, trivial⟩, ⟨eZ rfl rfl, trivial⟩, ⟨b_ rfl fun ξ g w hB hH => a_ c72 rfl (ih a1 (List.mem_of_getElem? e) b1 _ _ _ w (ha.kid (List.mem_of_getElem? e)) (hb.kid (List.mem_of_getElem? l)) hB.wf.lt (hH 47 _ rfl) (hH 52 _ rfl)), trivial⟩, trivial⟩ fun ac g w hS => ?_
    refine bR ?_
    refine rz hS [e0 1 [(41, eI i)] (eI (((i : Nat) : Int) + 1))] [2, 3, 5, 6] [(2, nwS 0), (3, nwS 1), (5, eB (ei a1 b1)), (6, eI (((i : Nat) : Int) + 1))] ⟨⟨bL fun ξ g w hB hH => ⟨_, rfl, cy rfl rfl (bO (by omega) (by omega))⟩, trivial⟩, trivial⟩ fun ac g w hS => ?_
    refine bz ?_
    refine ⟨_, ?_, i + 1, _, rfl, hc, by rw [← pn e l hq]; exact hS.to ⟨rfl, rfl, rfl, rfl, trivial⟩⟩
    omega
   ·have hq := h
    clear h
    have q := rA hq hi hl
    rw [hq] at hS
    refine wp_exit ?_
    refine bG ?_
    refine bG ?_
    refine bZ ?_
    refine bz ?_
    rw [q]; exact ⟨g, hS.to ⟨rfl, rfl, rfl, trivial⟩⟩
  ·obtain rfl : i = ks.length := by omega
   refine rz hS [e0 1 [(2, nwS 0)] (nwO 0 2), e0 2 [(34, nwO 0 2)] (tkS ks), e0 3 [(35, tkS ks)] (eI ks.length), e0 4 [(33, eI ks.length), (36, eI ks.length)] (eqS vf)] [2, 3, 5, 6, 40] [(2, nwS 0), (3, nwS 1), (5, eB (fx ks ks' ks.length)), (6, eI ks.length), (40, eqS vf)] ⟨⟨bK (k := 0) rfl rfl rfl rfl (by decide) (by kernel_rfl), trivial⟩, ⟨dw (k := 0) rfl rfl rfl rfl, trivial⟩, ⟨cC rfl rfl, trivial⟩, ⟨bS rfl rfl rfl (congrArg some (decide_eq_false (by omega))), trivial⟩, trivial⟩ fun ac g w hS => ?_
   refine wp_cond_false (hS.f.frm.eval rfl) ?_
   refine wp_exit ?_
   refine bG ?_
   refine bG ?_
   refine bZ ?_
   refine bz ?_
   exact ⟨g, hS.to ⟨rfl, rfl, rfl, trivial⟩⟩
 by_cases hk1 : k = 1
 ·skip
  refine rz hS [e0 0 [(2, nwS 0)] (nwO 0 0), e0 1 [(7, nwO 0 0)] (eI k), e0 2 [(3, nwS 1)] (nwO 1 0), e0 3 [(9, nwO 1 0)] (eI k), e0 4 [(8, eI k), (10, eI k)] (eqS vf), e0 6 [(12, eqS vf), (2, nwS 0)] (nwO 0 2), e0 7 [(12, eqS vf), (13, nwO 0 2)] (tkS ks), e0 8 [(12, eqS vf), (14, tkS ks)] (eI ks.length), e0 9 [(12, eqS vf), (3, nwS 1)] (nwO 1 2), e0 10 [(12, eqS vf), (16, nwO 1 2)] (tkS ks'), e0 11 [(12, eqS vf), (17, tkS ks')] (eI ks'.length), e0 12 [(12, eqS vf), (15, eI ks.length), (18, eI ks'.length)] (eqS vf), e0 15 [(21, eqS vf), (2, nwS 0)] (nwO 0 0), e0 16 [(21, eqS vf), (22, nwO 0 0)] (eI k), e0 17 [(21, eqS vf), (23, eI k)] (eqS vt), e0 19 [(25, eqS vt), (2, nwS 0)] (nwO 0 1), e0 20 [(25, eqS vt), (26, nwO 0 1)] (eI n), e0 21 [(25, eqS vt), (3, nwS 1)] (nwO 1 1), e0 22 [(25, eqS vt), (28, nwO 1 1)] (eI n'), e0 23 [(25, eqS vt), (27, eI n), (29, eI n')] (eqS vf)] [2, 3, 4, 32] [(2, nwS 0), (3, nwS 1), (4, eqS vf), (32, eqS vf)] ⟨⟨bK (k := 0) rfl rfl rfl rfl (by decide) (by kernel_rfl), trivial⟩, ⟨fp (k := 0) rfl rfl rfl rfl, trivial⟩, ⟨bK (k := 1) rfl rfl rfl rfl (by decide) (by kernel_rfl), trivial⟩, ⟨fp (k := 1) rfl rfl rfl rfl, trivial⟩, ⟨bS rfl rfl rfl (by simp [eQ]), trivial⟩, ⟨bK (k := 0) rfl rfl rfl rfl (by decide) (by kernel_rfl), trivial⟩, ⟨dw (k := 0) rfl rfl rfl rfl, trivial⟩, ⟨cC rfl rfl, trivial⟩, ⟨bK (k := 1) rfl rfl rfl rfl (by decide) (by kernel_rfl), trivial⟩, ⟨dw (k := 1) rfl rfl rfl rfl, trivial⟩, ⟨cC rfl rfl, trivial⟩, ⟨bS rfl rfl rfl (by simp [eQ, hl]), trivial⟩, ⟨bK (k := 0) rfl rfl rfl rfl (by decide) (by kernel_rfl), trivial⟩, ⟨fp (k := 0) rfl rfl rfl rfl, trivial⟩, ⟨bS rfl rfl rfl (by simp [eQ, hk1]), trivial⟩, ⟨bK (k := 0) rfl rfl rfl rfl (by decide) (by kernel_rfl), trivial⟩, ⟨oQ (k := 0) rfl rfl rfl rfl, trivial⟩, ⟨bK (k := 1) rfl rfl rfl rfl (by decide) (by kernel_rfl), trivial⟩, ⟨oQ (k := 1) rfl rfl rfl rfl, trivial⟩, ⟨bS rfl rfl rfl (by simp [eQ, hn hk1]), trivial⟩, trivial⟩ fun ac g w hS => ?_
  refine bz ?_
  exact ⟨g, hS.to ⟨rfl, rfl, rfl, trivial⟩⟩
 ·skip
  refine rz hS [e0 0 [(2, nwS 0)] (nwO 0 0), e0 1 [(7, nwO 0 0)] (eI k), e0 2 [(3, nwS 1)] (nwO 1 0), e0 3 [(9, nwO 1 0)] (eI k), e0 4 [(8, eI k), (10, eI k)] (eqS vf), e0 6 [(12, eqS vf), (2, nwS 0)] (nwO 0 2), e0 7 [(12, eqS vf), (13, nwO 0 2)] (tkS ks), e0 8 [(12, eqS vf), (14, tkS ks)] (eI ks.length), e0 9 [(12, eqS vf), (3, nwS 1)] (nwO 1 2), e0 10 [(12, eqS vf), (16, nwO 1 2)] (tkS ks'), e0 11 [(12, eqS vf), (17, tkS ks')] (eI ks'.length), e0 12 [(12, eqS vf), (15, eI ks.length), (18, eI ks'.length)] (eqS vf), e0 15 [(21, eqS vf), (2, nwS 0)] (nwO 0 0), e0 16 [(21, eqS vf), (22, nwO 0 0)] (eI k), e0 17 [(21, eqS vf), (23, eI k)] (eqS vf)] [2, 3, 4, 32] [(2, nwS 0), (3, nwS 1), (4, eqS vf), (32, eqS vf)] ⟨⟨bK (k := 0) rfl rfl rfl rfl (by decide) (by kernel_rfl), trivial⟩, ⟨fp (k := 0) rfl rfl rfl rfl, trivial⟩, ⟨bK (k := 1) rfl rfl rfl rfl (by decide) (by kernel_rfl), trivial⟩, ⟨fp (k := 1) rfl rfl rfl rfl, trivial⟩, ⟨bS rfl rfl rfl (by simp [eQ]), trivial⟩, ⟨bK (k := 0) rfl rfl rfl rfl (by decide) (by kernel_rfl), trivial⟩, ⟨dw (k := 0) rfl rfl rfl rfl, trivial⟩, ⟨cC rfl rfl, trivial⟩, ⟨bK (k := 1) rfl rfl rfl rfl (by decide) (by kernel_rfl), trivial⟩, ⟨dw (k := 1) rfl rfl rfl rfl, trivial⟩, ⟨cC rfl rfl, trivial⟩, ⟨bS rfl rfl rfl (by simp [eQ, hl]), trivial⟩, ⟨bK (k := 0) rfl rfl rfl rfl (by decide) (by kernel_rfl), trivial⟩, ⟨fp (k := 0) rfl rfl rfl rfl, trivial⟩, ⟨bS rfl rfl rfl (by simp [eQ, hk1]), trivial⟩, trivial⟩ fun ac g w hS => ?_
  refine bz ?_
  exact ⟨g, hS.to ⟨rfl, rfl, rfl, trivial⟩⟩
theorem pG (a : Tm) : ∀ (y : Tm) (X : List Nat) (v u : Value) (w : World), Ok a → Ok y → (∀ x, x ∈ X → x < w.heap.size) → TmIs w X a v → TmIs w X y u → Calls Tryd.prog 72 (List.toArray [v, u]) w (Ret fun v' w' => Gr w w' ∧ v' = .bool (ei a y)) := by
 refine Tm.ind (p := fun a => ∀ (y : Tm) (X : List Nat) (v u : Value) (w : World), Ok a → Ok y → (∀ x, x ∈ X → x < w.heap.size) → TmIs w X a v → TmIs w X y u → Calls Tryd.prog 72 (List.toArray [v, u]) w (Ret fun v' w' => Gr w w' ∧ v' = .bool (ei a y))) ?_ a
 intro k n ks ih y X v u w ha hb hX hv hu
 obtain ⟨k', n', ks'⟩ := y
 by_cases h1 : k = k'
 ·subst h1
  by_cases h2 : ks.length = ks'.length
  ·by_cases h3 : k = 1 → n = n'
   ·exact xd (k' := k) ih w hX ha hb hv hu h3 h2
   ·have h4 : k = 1 ∧ ¬n = n' := Classical.byContradiction fun h => h3 fun e => Classical.byContradiction fun h' => h ⟨e, h'⟩
    exact xf w hX ha hb hv hu rfl h2 h4.1 h4.2
  ·exact xg w hX ha hb hv hu rfl h2
 ·exact xh w hX ha hb hv hu h1
set_option maxRecDepth 100000 in
set_option maxHeartbeats 4000000 in
theorem dp {l : List Tm} {t : Tm} {X : List Nat} {v u : Value} (w0 : World) (hX : ∀ x, x ∈ X → x < w0.heap.size) (hol : ∀ x ∈ l, Ok x) (hot : Ok t) (hv : (tkS l).hold ⟨[], [], X, []⟩ w0 v) (hu : TmIs w0 X t u) (hll : l.length ≤ 100000000) : Calls Tryd.prog 92 (List.toArray [v, u]) w0 (Ret fun v w' => Gr w0 w' ∧ v = .bool (ci l t)) := by
 refine df [tkS l, tmS t] hX ⟨hv, hu, trivial⟩ Tryd.func92 rfl Tryd.ntmps92 rfl fun ac hS => ?_
 refine wp_seq ?_
 refine rx [e1 0 [(1, tmS t)] (nwS 0)] [0, 3, 4] (Bl [stB noR [], stB noR [(26, tmS t)]]) 1 [(0, tkS l), (3, nwS 0), (4, eqS vf)] ⟨⟨cO rfl rfl rfl rfl (bQ _).sized rfl, trivial⟩, trivial⟩ hS rfl fun ac g w hS => ?_
 refine wp_seq ?_
 refine wp_seq ?_
 refine rz hS [] [0, 3, 4, 5] [(0, tkS l), (3, nwS 0), (4, eqS vf), (5, eI 0)] trivial fun ac g w hS => ?_
 refine bz ?_
 refine wp_block ?_
 refine cb (fun a ac w => ∃ (i : Nat) (g : Gh), a = l.length - i ∧ (i ≤ l.length) ∧ (ci (l.take i) t = false) ∧ SS [(0, tkS l), (3, nwS 0), (5, eI i)] 18 (stB noR [(26, tmS t)]) ⟨[], [], X, []⟩ w0 ac g w) _ ⟨0, _, rfl, Nat.zero_le _, rfl, hS.to ⟨rfl, rfl, rfl, trivial⟩⟩ ?_
 rintro _ ac w ⟨i, g, rfl, hi, hn, hS⟩
 refine wp_seq ?_
 refine wp_seq ?_
 refine rz hS [e0 2 [(7, tkS l)] (eI l.length)] [0, 3, 5, 9] [(0, tkS l), (3, nwS 0), (5, eI i), (9, eB (decide ((i : Int) < l.length)))] ⟨⟨cC rfl rfl, trivial⟩, trivial⟩ fun ac g w hS => ?_
 refine bz ?_
 refine cn hS.f.frm rfl (fun h => ?_) (fun h => ?_)
 ·have hc := of_decide_eq_true h
  clear h
  have hc := Int.ofNat_lt.1 hc
  obtain ⟨x, hx⟩ : ∃ x, l[i]? = some x := ⟨_, List.getElem?_eq_getElem hc⟩
  refine wp_skip ?_
  refine wp_seq ?_
  refine wp_block ?_
  refine wp_seq ?_
  refine ry mo hS [e0 2 [(12, tkS l), (13, eI i)] (tpS x 0), e0 3 [(14, tpS x 0)] (tmS x), e0 4 [(3, nwS 0)] (tmS t), e0 5 [(15, tmS x), (16, tmS t)] (eB (ei x t))] [0, 3, 5, 17] [(0, tkS l), (3, nwS 0), (5, eI i), (17, eB (ei x t))] ⟨⟨dM rfl rfl rfl hx, trivial⟩, ⟨eZ rfl rfl, trivial⟩, ⟨cc (k := 0) rfl rfl rfl rfl (by decide) u26 rfl bV (bQ _).sized, trivial⟩, ⟨b_ rfl fun ξ g w hB hH => a_ c72 rfl (pG x t _ _ _ w (hol _ (List.mem_of_getElem? hx)) hot hB.wf.lt (hH 15 _ rfl) (hH 16 _ rfl)), trivial⟩, trivial⟩ fun ac g w hS => ?_
  refine bz ?_
  refine cn hS.f.frm rfl (fun h => ?_) (fun h => ?_)
  ·have hq := h
   clear h
   refine wp_seq ?_
   refine rz hS [] [0, 3, 4, 5] [(0, tkS l), (3, nwS 0), (4, eqS vt), (5, eI i)] trivial fun ac g w hS => ?_
   refine wp_ret ?_
   refine bY ?_
   refine bH ?_
   refine bH ?_
   refine bY ?_
   refine bH ?_
   exact bv hS.f.frm (bw Tryd.results92 (RV.tmp hS.f.frm rfl)) ⟨hS.gr0, by rw [sC hx hq]; rfl⟩
  ·have hq := h
   clear h
   refine wp_skip ?_
   refine bR ?_
   refine rz hS [e0 1 [(10, eI i)] (eI (((i : Nat) : Int) + 1))] [0, 3, 5] [(0, tkS l), (3, nwS 0), (5, eI (((i : Nat) : Int) + 1))] ⟨⟨bL fun ξ g w hB hH => ⟨_, rfl, cy rfl rfl (bO (by omega) (by omega))⟩, trivial⟩, trivial⟩ fun ac g w hS => ?_
   refine bz ?_
   refine ⟨_, ?_, i + 1, _, rfl, hc, qJ hx hn hq, hS.to ⟨rfl, rfl, rfl, trivial⟩⟩
   omega
 ·have hc := of_decide_eq_false h
  clear h
  obtain rfl : i = l.length := by omega
  rw [List.take_length] at hn
  refine wp_exit ?_
  refine bG ?_
  refine bG ?_
  refine bZ ?_
  refine wp_seq ?_
  refine rz hS [] [0, 3, 4] [(0, tkS l), (3, nwS 0), (4, eqS vf)] trivial fun ac g w hS => ?_
  refine wp_ret ?_
  exact bv hS.f.frm (bw Tryd.results92 (RV.tmp hS.f.frm rfl)) ⟨hS.gr0, by rw [hn]; rfl⟩
end Go.Mi.Term
