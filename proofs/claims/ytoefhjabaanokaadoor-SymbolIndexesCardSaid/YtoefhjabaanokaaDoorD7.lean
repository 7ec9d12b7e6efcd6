/- Texts that belong together: H25, Y8, H26, Y9, Y10, Y11. General lemmas and walks; no conditions. -/
import Derived.Test.YtoefhjabaanokaaDoorD5
set_option linter.unusedSimpArgs false
set_option linter.unusedVariables false
set_option linter.unnecessarySimpa false
namespace Go.Mi.Term
open Go.Mi Go.Proofs Go.RowKit
def Still (g : Gh) (w : World) (c : Nat) (o : Obj) : Prop := w.heap[c]? = some o ∧ c ∉ g.F ++ g.M
theorem Still.mv {g g' : Gh} {w w' : World} {c : Nat} {o : Obj} (h : Still g w c o) (k : TT g w g' w') : Still g' w' c o := by
 have hl := heap_lt h.1
 refine ⟨by rw [k.ch.blk c hl h.2]; exact h.1, fun hm => ?_⟩
 rcases k.sub c hm with h1 | h1
 ·exact h.2 h1
 ·omega
abbrev capS (b : Nat) : Sp TT := .pr ⟨fun g w v => ∃ c, v = vp c ∧ Still g w c (.cells #[vp b] 42 (0, 0)), fun ⟨c, h1, h2⟩ k => ⟨c, h1, h2.mv k⟩⟩
abbrev fnS (b : Nat) : Sp TT := .pr ⟨fun g w v => ∃ c, v = .func (.func 102) #[] #[vp c] ∧ Still g w c (.cells #[vp b] 42 (0, 0)), fun ⟨c, h1, h2⟩ k => ⟨c, h1, h2.mv k⟩⟩
abbrev dhS (l : List (Nat × Nat)) : Sp TT := .pr ⟨fun g w v => SlA w g.X v l.length (dhL l), fun h k => h.mv k.ch (Gh.sub _) k.X⟩
abbrev prS (p : Nat × Nat) : Sp TT := .pr ⟨fun g w v => ∃ b o, v = vP b o ∧ b ∉ g.X ∧ b < w.heap.size ∧ At w b o [vI p.1, vI p.2], fun ⟨b, o, h1, h2, h3, h4⟩ k => ⟨b, o, h1, fun hm => by
  rcases k.X b hm with h6 | h6
  ·exact h2 h6
  ·omega, Nat.lt_of_lt_of_le h3 k.ch.size, h4.mv k.ch fun hm => h2 (Gh.sub _ b hm)⟩⟩
theorem dhL_at : ∀ {l : List (Nat × Nat)} {j : Nat} {p : Nat × Nat}, l[j]? = some p → ((dhL l).drop (j * 2)).take [vI p.1, vI p.2].length = [vI p.1, vI p.2]
 | [], j, p, h => by simp at h
 | c :: l, 0, p, h => by simp at h; subst h; simp [dhL]
 | c :: l, j + 1, p, h => by
  have := dhL_at (l := l) (j := j) (p := p) (by simpa using h)
  rw [Nat.add_mul, Nat.one_mul, show j * 2 + 2 = (j * 2 + 1) + 1 by omega]
  simpa [dhL] using this
section
set_option maxRecDepth 100000
variable {ops : List Oper} {n : Nat} {B : Nat → BX XX} {i p b k o : Nat} {L : TL TT} {ph : List Nat} {ρ : RX} {ns : List (Nat × Sp TT)} {ds : Option Tmp} {ty : TypeId} {pos : String} {af : Array Edge} {gu : Option (Nat × Bool)} {t : TypeId} {r r' : Rn} {q q' : Rv} {v : Value} {x y z : Operand} {l : List (Nat × Nat)}
theorem q_ldCap (hop : ops.getD i default = ⟨ds, .load 42 x, t, pos, af, gu⟩) (hx : spO L x = some (capS b)) : EOb Tryd.prog n ops XX B ⟨i, L, eqS (vp b), ph, false⟩ p := q_val fun ξ g w hB hH => by
 rw [hop]
 obtain ⟨vx, h1, c, rfl, h2⟩ := spO_ev hx hH
 exact ⟨_, rfl, d_load1 Tryd.underlying42 rfl h1 (by rw [cell_blk h2.1]; rfl)⟩
theorem m_box1 (hB0 : B p = stB ρ ns) (hB1 : B (p + 1) = stB ρ (ns ++ [(ty, agS (cxV [v]))])) (hop : ops.getD i default = ⟨ds, .box ty x, t, pos, af, gu⟩) (hx : spO L x = some (eqS v)) (hv : v.cells = #[v]) (hk : ns.length = k) : EOb Tryd.prog n ops XX B ⟨i, L, nwS k, ph, true⟩ p := by
 subst hk
 intro ξ g w hB hH
 rw [hB0] at hB
 have hB : StB ρ ns g w := hB
 show Ok1 Tryd.prog (ops.getD i default) _ _ _ _
 rw [hop]
 have h1 := spO_eq (ξ := ξ) hx
 refine (ok_box h1).mono ?_
 rintro v' w' ⟨b, rfl, hn⟩
 rw [hv] at hn
 obtain ⟨h1, h2⟩ := hB.new hn (sp := agS (cxV [v])) ⟨[v], rfl, rfl⟩
 refine ⟨_, ⟨h1, ?_⟩, ?_⟩
 ·show (B (p + 1)).P _ _
  rw [hB1]; exact h2
 ·show (g.N ++ [vp b])[ns.length]? = some (vp b)
  rw [← hB.len]; simp
theorem q_ldN1 {d : TypeDesc} (hop : ops.getD i default = ⟨ds, .load ty x, t, pos, af, gu⟩) (hB0 : B p = stB ρ ns) (hx : spO L x = some (nwS k)) (hk : ns[k]? = some (ty, agS (cxV [v]))) (hT : ty ≠ 0) (ht : Tryd.prog.underlying ty = some d) (hf : TypeDesc.flat d = true) : EOb Tryd.prog n ops XX B ⟨i, L, eqS v, ph, false⟩ p := q_val fun ξ g w hB hH => by
 rw [hB0] at hB
 have hB : StB ρ ns g w := hB
 rw [hop]
 obtain ⟨vx, h1, h2⟩ := spO_ev hx hH
 have h2 : g.N[k]? = some vx := h2
 obtain ⟨b, c, h5, _, h7, vs, e, h9⟩ := hB.cell k _ hk hT
 rw [h5] at h2
 cases h2
 obtain rfl : vs = [v] := h9
 cases e
 exact ⟨v, rfl, d_load1 ht hf h1 (by rw [cell_blk h7]; rfl)⟩
theorem q_lenD (hop : ops.getD i default = ⟨ds, .call ⟨.builtin .len, #[x], #[97]⟩, t, pos, af, gu⟩) (hx : spO L x = some (dhS l)) : EOb Tryd.prog n ops XX B ⟨i, L, eqS (vI l.length), ph, false⟩ p := q_val fun ξ g w hB hH => by
 rw [hop]
 obtain ⟨vx, h1, h2⟩ := spO_ev hx hH
 refine ⟨_, rfl, ?_⟩
 rcases h2 with ⟨rfl | ⟨_, _, rfl⟩, h3, _⟩ | ⟨_, _, _, rfl, _⟩
 ·rw [h3]; exact d_len_slice Tryd.underlying97 h1
 ·rw [h3]; exact d_len_slice Tryd.underlying97 h1
 ·exact d_len_slice Tryd.underlying97 h1
theorem q_ixD {j : Nat} {pp : Nat × Nat} (hop : ops.getD i default = ⟨ds, .indexAddr 97 x y, t, pos, af, gu⟩) (hx : spO L x = some (dhS l)) (hy : spO L y = some (eqS (vI j))) (hj : l[j]? = some pp) : EOb Tryd.prog n ops XX B ⟨i, L, prS pp, ph, false⟩ p := q_val fun ξ g w hB hH => by
 rw [hop]
 have hjl : j < l.length := by
  rcases Nat.lt_or_ge j l.length with h' | h'
  ·exact h'
  ·rw [List.getElem?_eq_none h'] at hj; cases hj
 obtain ⟨vx, h1, h2⟩ := spO_ev hx hH
 rcases h2 with ⟨_, h3, _⟩ | ⟨b, o, cap, rfl, h3, h4, h5⟩
 ·omega
 ·exact ⟨_, ⟨b, _, rfl, h3, h4, h5.part (j * 2) (dhL_at hj)⟩, d_ixSm Tryd.underlying97 sz56 h1 (spO_eq hy) rfl hjl⟩
theorem q_ldD {pp : Nat × Nat} (hop : ops.getD i default = ⟨ds, .load 56 x, t, pos, af, gu⟩) (hx : spO L x = some (prS pp)) : EOb Tryd.prog n ops XX B ⟨i, L, agS (cxV [vI pp.1, vI pp.2]), ph, false⟩ p := q_val fun ξ g w hB hH => by
 rw [hop]
 obtain ⟨vx, h1, b, o, rfl, h3, h4, h5⟩ := spO_ev hx hH
 exact ⟨_, ⟨_, rfl, rfl⟩, d_loadC Tryd.underlying56 rfl sz56 h1 h5 rfl⟩
theorem q_ldEp {j : Nat} {e : Ep} (hr : HasQ ρ b r q) (hB0 : B p = stB ρ ns) (hop : ops.getD i default = ⟨ds, .load 99 x, t, pos, af, gu⟩) (hx : spO L x = some (eqS (vP (bkV q.ve) (j * 3)))) (hj : r.eps[j]? = some e) : EOb Tryd.prog n ops XX B ⟨i, L, agS (cxE e), ph, false⟩ p := q_val fun ξ g w hB hH => by
 rw [hB0] at hB
 have hB : StB ρ ns g w := hB
 rw [hop]
 obtain ⟨sl, h1, h2, h3, h4⟩ := ep_at (hr g w hB.run).rs hj
 exact ⟨_, ⟨[sl, .bool e.kem, .bool e.rev], rfl, sl, rfl, h4⟩, d_loadC Tryd.underlying99 rfl sz99 (spO_eq hx) (fun j' u hu => by
  match j', hu with
  | 0, hu => cases hu; exact h1
  | 1, hu => cases hu; exact h2
  | 2, hu => cases hu; exact h3
  | j' + 3, hu => simp at hu) rfl⟩
theorem q_ldNK {e : Ep} (hop : ops.getD i default = ⟨ds, .load 4 x, t, pos, af, gu⟩) (hB0 : B p = stB ρ ns) (hx : spO L x = some (nwO k 1)) (hk : ns[k]? = some (99, agS (cxE e))) : EOb Tryd.prog n ops XX B ⟨i, L, eqS (.bool e.kem), ph, false⟩ p := q_val fun ξ g w hB hH => by
 rw [hB0] at hB
 have hB : StB ρ ns g w := hB
 rw [hop]
 obtain ⟨vx, h1, b', h2, rfl⟩ := spO_ev hx hH
 obtain ⟨b, c, h5, _, h7, vs, e1, sl, rfl, h9⟩ := hB.cell k _ hk (show (99 : Nat) ≠ 0 by decide)
 rw [h5] at h2
 cases h2
 cases e1
 exact ⟨_, rfl, d_load1 Tryd.underlying4 rfl h1 (by rw [cell_blk h7]; rfl)⟩
theorem q_ldND {e : Ep} (hop : ops.getD i default = ⟨ds, .load 97 x, t, pos, af, gu⟩) (hB0 : B p = stB ρ ns) (hx : spO L x = some (nwO k 0)) (hk : ns[k]? = some (99, agS (cxE e))) : EOb Tryd.prog n ops XX B ⟨i, L, dhS e.dhs, ph, false⟩ p := q_val fun ξ g w hB hH => by
 rw [hB0] at hB
 have hB : StB ρ ns g w := hB
 rw [hop]
 obtain ⟨vx, h1, b', h2, rfl⟩ := spO_ev hx hH
 obtain ⟨b, c, h5, _, h7, vs, e1, sl, rfl, h9⟩ := hB.cell k _ hk (show (99 : Nat) ≠ 0 by decide)
 rw [h5] at h2
 cases h2
 cases e1
 exact ⟨sl, h9, d_load1 Tryd.underlying97 rfl h1 (by rw [cell_blk h7]; rfl)⟩
end
end Go.Mi.Term
namespace Go.Mi.Term
open Go.Mi Go.Proofs Go.RowKit
set_option maxRecDepth 100000 in
set_option maxHeartbeats 4000000 in
theorem in_ok {b : Nat} {r : Rn} {F X : List Nat} {p : Nat × Nat} {c : Nat} (w0 : World) (hX : ∀ x, x ∈ X → x < w0.heap.size) (hr : RunIs b r F X w0) (hs : ∀ x, x ∈ F → x ∈ X) (hm : ∀ k, 0 ≤ itl r.rvd k ∧ itl r.rvd k ≤ 700001) (hc : w0.heap[c]? = some (.cells #[vp b] 42 (0, 0))) : Calls Tryd.prog 102 (List.toArray [.agg #[vI p.1, vI p.2], vp c]) w0 (Ret fun v w' => Gr w0 w' ∧ v = .bool (decide (itl r.rvd ((p.1 : Nat) : Int) + itl r.rvd ((p.2 : Nat) : Int) = 0))) := by
 obtain ⟨q, rfl, h⟩ := hr
 refine enterR (F := []) (ρ := runOQ b r q) [agS (cxV [vI p.1, vI p.2]), capS b] hX ⟨rfl, hs, h⟩ ⟨⟨_, rfl, rfl⟩, ⟨_, rfl, hc, by simp⟩, trivial⟩ Tryd.func102 rfl Tryd.ntmps102 rfl fun ac hS => ?_
 refine wp_seq ?_
 refine rgl [e1 0 [(0, agS (cxV [vI p.1, vI p.2]))] (nwS 0)] [0, 1, 2, 3] (Bl [stB (runOQ b r q) [], stB (runOQ b r q) [(56, agS (cxV [vI p.1, vI p.2]))]]) 1 (Lo := [(0, agS (cxV [vI p.1, vI p.2])), (1, capS b), (2, nwS 0), (3, eqS vf)]) (by kernel_rfl) (by kernel_rfl) ⟨⟨m_box rfl rfl rfl rfl (agg_P _ _).sized rfl, trivial⟩, trivial⟩ hS rfl fun ac g w hS => ?_
 refine then_n ?_
 refine wp_seq ?_
 refine rga0 mo hS [e0 0 [(1, capS b)] (eqS (vP b 0)), e0 3 [(6, eqS (vP b 19))] (eqS (.map (some q.bm))), e0 4 [(2, nwS 0)] (nwO 0 0), e0 5 [(8, nwO 0 0)] (eqS (vI p.1)), e0 6 [(7, eqS (.map (some q.bm))), (9, eqS (vI p.1))] (eqS (vI (itl r.rvd ((p.1 : Nat) : Int)))), e0 7 [(1, capS b)] (eqS (vP b 0)), e0 10 [(13, eqS (vP b 19))] (eqS (.map (some q.bm))), e0 11 [(2, nwS 0)] (nwO 0 1), e0 12 [(15, nwO 0 1)] (eqS (vI p.2)), e0 13 [(14, eqS (.map (some q.bm))), (16, eqS (vI p.2))] (eqS (vI (itl r.rvd ((p.2 : Nat) : Int)))), e0 14 [(10, eqS (vI (itl r.rvd ((p.1 : Nat) : Int)))), (17, eqS (vI (itl r.rvd ((p.2 : Nat) : Int))))] (eqS (vI (itl r.rvd ((p.1 : Nat) : Int) + itl r.rvd ((p.2 : Nat) : Int)))), e0 15 [(18, eqS (vI (itl r.rvd ((p.1 : Nat) : Int) + itl r.rvd ((p.2 : Nat) : Int))))] (eqS (vB (decide (itl r.rvd ((p.1 : Nat) : Int) + itl r.rvd ((p.2 : Nat) : Int) = 0))))] [0, 1, 2, 3] (Lo := [(0, agS (cxV [vI p.1, vI p.2])), (1, capS b), (2, nwS 0), (3, eqS (vB (decide (itl r.rvd ((p.1 : Nat) : Int) + itl r.rvd ((p.2 : Nat) : Int) = 0))))]) (by kernel_rfl) (by kernel_rfl) ⟨⟨q_ldCap rfl rfl, trivial⟩, ⟨q_ldK (hasOQ _ _ _) rfl rfl rfl Tryd.underlying89 rfl rfl, trivial⟩, ⟨q_ixN (j := 0) rfl rfl rfl rfl (by decide) rfl (by decide), trivial⟩, ⟨q_ldN (k := 0) (j := 0) rfl rfl rfl rfl (by decide) Tryd.underlying3 rfl rfl, trivial⟩, ⟨q_lkup (hasOQ _ _ _) rfl rfl rfl rfl, trivial⟩, ⟨q_ldCap rfl rfl, trivial⟩, ⟨q_ldK (hasOQ _ _ _) rfl rfl rfl Tryd.underlying89 rfl rfl, trivial⟩, ⟨q_ixN (j := 1) rfl rfl rfl rfl (by decide) rfl (by decide), trivial⟩, ⟨q_ldN (k := 0) (j := 1) rfl rfl rfl rfl (by decide) Tryd.underlying3 rfl rfl, trivial⟩, ⟨q_lkup (hasOQ _ _ _) rfl rfl rfl rfl, trivial⟩, ⟨q_val fun ξ g w hB hH => ⟨_, rfl, d_add rfl rfl (wrap_i64 (by have := hm p.1; have := hm p.2; omega) (by have := hm p.1; have := hm p.2; omega))⟩, trivial⟩, ⟨q_cmp rfl rfl rfl rfl, trivial⟩, trivial⟩ fun ac g w hS => ?_
 refine then_n ?_
 refine wp_ret ?_
 exact body_ret hS.f.frm (results1 Tryd.results102 (RV.tmp hS.f.frm rfl)) ⟨hS.gr0, rfl⟩
end Go.Mi.Term
namespace Go.Mi.Term
open Go.Mi Go.Proofs Go.RowKit
def Rn.hitB (r : Rn) (p : Nat × Nat) : Bool := decide (itl r.rvd ((p.1 : Nat) : Int) + itl r.rvd ((p.2 : Nat) : Int) = 0)
def FnIs (w : World) (b : Nat) (v : Value) : Prop := ∃ c, v = .func (.func 102) #[] #[vp c] ∧ w.heap[c]? = some (.cells #[vp b] 42 (0, 0))
theorem FnIs.hold {w : World} {b : Nat} {v : Value} {X : List Nat} (h : FnIs w b v) : (fnS b).hold ⟨[], [], X, []⟩ w v := by
 obtain ⟨c, h1, h2⟩ := h
 exact ⟨c, h1, h2, by simp⟩
theorem fn_of {g : Gh} {w : World} {b : Nat} {v : Value} (h : (fnS b).hold g w v) : FnIs w b v := by
 obtain ⟨c, h1, h2, _⟩ := h
 exact ⟨c, h1, h2⟩
abbrev ixS (c : Bool) : Sp TT := .pr ⟨fun _ _ v => ∃ i : Int, v = vI i ∧ decide (0 ≤ i) = c, fun h _ => h⟩
section
set_option maxRecDepth 100000
variable {ops : List Oper} {n : Nat} {B : Nat → BX XX} {i p b k o : Nat} {L : TL TT} {ph : List Nat} {ρ : RX} {ns : List (Nat × Sp TT)} {ds : Option Tmp} {ty : TypeId} {pos : String} {af : Array Edge} {gu : Option (Nat × Bool)} {t : TypeId} {r r' : Rn} {q q' : Rv} {v : Value} {x y z : Operand} {l : List (Nat × Nat)}
theorem q_callP {pp : Nat × Nat} (hm : ∀ k, 0 ≤ itl r.rvd k ∧ itl r.rvd k ≤ 700001) (hB0 : B p = stB (runOQ b r q) ns) (hop : ops.getD i default = ⟨ds, .call ⟨.value x, #[y], #[56]⟩, t, pos, af, gu⟩) (hx : spO L x = some (fnS b)) (hy : spO L y = some (agS (cxV [vI pp.1, vI pp.2]))) : EOb Tryd.prog n ops XX B ⟨i, L, eqS (.bool (r.hitB pp)), ph, false⟩ p := q_of fun ξ g w hB hH => by
 rw [hB0] at hB
 have hB : StB (runOQ b r q) ns g w := hB
 rw [hop]
 obtain ⟨vx, h1, c, rfl, h2, _⟩ := spO_ev hx hH
 obtain ⟨vy, h3, vs, rfl, h4⟩ := spO_ev hy hH
 obtain rfl : vs = [vI pp.1, vI pp.2] := h4
 have h5 := in_ok (p := pp) w hB.wf.lt ⟨_, rfl, hB.run.2.2⟩ hB.run.2.2.rs.sub hm h2
 refine ok_callv (vs := [.agg #[vI pp.1, vI pp.2]]) h1 c102 (by simp only [evs, h3]) ?_
 have e : (#[] ++ [Value.agg #[vI pp.1, vI pp.2]].toArray) ++ #[vp c] = [Value.agg #[vI pp.1, vI pp.2], vp c].toArray := by simp
 rw [e]
 exact h5
abbrev fnO (k : Nat) : Sp TT := .pr ⟨fun g _ v => ∃ c, g.N[k]? = some (vp c) ∧ v = .func (.func 102) #[] #[vp c], fun ⟨c, h1, h2⟩ h => ⟨c, nth_st h1 h, h2⟩⟩
theorem q_mkFn (hop : ops.getD i default = ⟨ds, .makeFunc (.func 102) #[] #[x], t, pos, af, gu⟩) (hB0 : B p = stB ρ ns) (hx : spO L x = some (nwS k)) (hk : ns[k]? = some (42, agS (cxV [v]))) : EOb Tryd.prog n ops XX B ⟨i, L, fnO k, ph, false⟩ p := q_val fun ξ g w hB hH => by
 rw [hB0] at hB
 have hB : StB ρ ns g w := hB
 rw [hop]
 obtain ⟨vx, h1, h2⟩ := spO_ev hx hH
 obtain ⟨c, _, h5, _⟩ := hB.cell k _ hk (show (42 : Nat) ≠ 0 by decide)
 have h2 : g.N[k]? = some vx := h2
 rw [h5] at h2
 cases h2
 exact ⟨_, ⟨c, h5, rfl⟩, d_makeFunc (us := []) (vs := [vp c]) rfl (by simp only [evs, h1])⟩
theorem fn_cell {g : Gh} {w : World} (hB : StB ρ ns g w) (hk : ns[k]? = some (42, agS (cxV [vp b]))) (h : (fnO k).hold g w v) : FnIs w b v := by
 obtain ⟨c, h1, h2⟩ := h
 obtain ⟨c', cs, h5, _, h7, vs, e, h9⟩ := hB.cell k _ hk (show (42 : Nat) ≠ 0 by decide)
 rw [h5] at h1
 cases h1
 obtain rfl : vs = [vp b] := h9
 cases e
 exact ⟨_, h2, h7⟩
theorem q_geqI {c : Bool} {t' : TypeId} (hop : ops.getD i default = ⟨ds, .binOp .geq 3 x y t', t, pos, af, gu⟩) (hx : spO L x = some (ixS c)) (hy : spO L y = some (eqS (vI 0))) : EOb Tryd.prog n ops XX B ⟨i, L, eqS (.bool c), ph, false⟩ p := q_val fun ξ g w hB hH => by
 rw [hop]
 obtain ⟨vx, h1, u, rfl, h2⟩ := spO_ev hx hH
 exact ⟨_, by rw [← h2]; rfl, d_geq h1 (spO_eq hy)⟩
theorem q_ixOw {T e m l j : Nat} (hr : HasQ ρ b r q) (hB0 : B p = stB ρ ns) (hop : ops.getD i default = ⟨ds, .indexAddr T x y, t, pos, af, gu⟩) (hx : spO L x = some (eqS v)) (hy : spO L y = some (eqS (vI j))) (ht : Tryd.prog.underlying T = some (.slice e)) (hs : (Tryd.prog.info? e).map (·.size) = some m) (hv : ∀ w X, RunRs w X b r q → ∃ xs, Own w 0 e m v l xs) (hj : j < l) : EOb Tryd.prog n ops XX B ⟨i, L, eqS (vP (bkV v) (j * m)), ph, false⟩ p := q_val fun ξ g w hB hH => by
 rw [hB0] at hB
 have hB : StB ρ ns g w := hB
 rw [hop]
 obtain ⟨xs, h⟩ := hv w _ (hr g w hB.run).rs
 obtain ⟨cap, e, _⟩ := own_bk h (by omega)
 have hx := spO_eq (ξ := ξ) hx
 rw [e] at hx
 refine ⟨_, rfl, ?_⟩
 have := d_ixSm (w := w) (n := n) (ds := ds) (ty := t) (pos := pos) (af := af) (gu := gu) ht hs hx (spO_eq hy) rfl hj
 simpa using this
theorem q_ldBh {j : Nat} {c : Bool} (hr : HasQ ρ b r q) (hB0 : B p = stB ρ ns) (hop : ops.getD i default = ⟨ds, .load 4 x, t, pos, af, gu⟩) (hx : spO L x = some (eqS (vP (bkV q.vb) (j * 1)))) (hj : r.behind[j]? = some c) : EOb Tryd.prog n ops XX B ⟨i, L, eqS (.bool c), ph, false⟩ p := q_val fun ξ g w hB hH => by
 rw [hB0] at hB
 have hB : StB ρ ns g w := hB
 rw [hop]
 have hl : 0 < r.behind.length := by
  rcases Nat.eq_zero_or_pos r.behind.length with h' | h'
  ·rw [List.eq_nil_of_length_eq_zero h'] at hj; simp at hj
  ·exact h'
 obtain ⟨cap, _, hat⟩ := own_bk (hr g w hB.run).rs.bh hl
 exact ⟨_, rfl, d_load1 Tryd.underlying4 rfl (spO_eq hx) (by have := hat j (.bool c) (by simp [hj]); simpa using this)⟩
theorem ky_at {w : World} {X : List Nat} {j : Nat} {e : Ky} (h : RunRs w X b r q) (hj : r.keys[j]? = some e) : ∃ ts, IsT w X e.t ts ∧ At w (bkV q.vy) (j * 6) (ts ++ [vI e.ep, vI e.who, vI e.ix]) := by
 obtain ⟨x1, u, x2, e1, e2, ⟨ts, rfl, h3⟩, _⟩ := AllIs.at KyIs.len h.yt hj
 have hl : 0 < r.keys.length := by
  rcases Nat.eq_zero_or_pos r.keys.length with h' | h'
  ·rw [List.eq_nil_of_length_eq_zero h'] at hj; simp at hj
  ·exact h'
 obtain ⟨cap, _, hat⟩ := own_bk h.ky hl
 refine ⟨ts, h3, fun k v hv => ?_⟩
 have hk : k < (ts ++ [vI e.ep, vI e.who, vI e.ix]).length := by
  rcases Nat.lt_or_ge k (ts ++ [vI e.ep, vI e.who, vI e.ix]).length with h' | h'
  ·exact h'
  ·rw [List.getElem?_eq_none h'] at hv; cases hv
 have := hat (j * 6 + k) v (by rw [e1, List.append_assoc, List.getElem?_append_right (by omega), e2, Nat.add_sub_cancel_left, List.getElem?_append_left hk]; exact hv)
 simpa using this
theorem q_ldKyE {j : Nat} {e : Ky} (hr : HasQ ρ b r q) (hB0 : B p = stB ρ ns) (hop : ops.getD i default = ⟨ds, .load 3 x, t, pos, af, gu⟩) (hx : spO L x = some (eqS (vP (bkV q.vy) (j * 6 + 3)))) (hj : r.keys[j]? = some e) : EOb Tryd.prog n ops XX B ⟨i, L, eqS (vI e.ep), ph, false⟩ p := q_val fun ξ g w hB hH => by
 rw [hB0] at hB
 have hB : StB ρ ns g w := hB
 rw [hop]
 obtain ⟨ts, h1, h2⟩ := ky_at (hr g w hB.run).rs hj
 obtain ⟨_, _, _, _, _, rfl⟩ := h1.form
 exact ⟨_, rfl, d_load1 Tryd.underlying3 rfl (spO_eq hx) (h2 3 _ rfl)⟩
theorem q_ldNKc {e : Ep} {c : Bool} (hc : e.kem = c) (hop : ops.getD i default = ⟨ds, .load 4 x, t, pos, af, gu⟩) (hB0 : B p = stB ρ ns) (hx : spO L x = some (nwO k 1)) (hk : ns[k]? = some (99, agS (cxE e))) : EOb Tryd.prog n ops XX B ⟨i, L, eqS (.bool c), ph, false⟩ p := by
 subst hc; exact q_ldNK hop hB0 hx hk
theorem q_ldRevc {j : Nat} {e : Ep} {c : Bool} (hc : e.rev = c) (hr : HasQ ρ b r q) (hB0 : B p = stB ρ ns) (hop : ops.getD i default = ⟨ds, .load 4 x, t, pos, af, gu⟩) (hx : spO L x = some (eqS (vP (bkV q.ve) (j * 3 + 2)))) (hj : r.eps[j]? = some e) : EOb Tryd.prog n ops XX B ⟨i, L, eqS (.bool c), ph, false⟩ p := by
 subst hc; exact q_ldRev hr hB0 hop hx hj
end
theorem idx_found {l : List (Nat × Nat)} {j : Nat} {p : Nat × Nat} {f : Nat × Nat → Bool} (hp : l[j]? = some p) (h : f p = true) : decide ((0 : Int) ≤ (j : Int)) = l.any f := by
 rw [decide_eq_true (by omega)]
 exact (List.any_eq_true.2 ⟨p, List.mem_of_getElem? hp, h⟩).symm
theorem idx_none {l : List (Nat × Nat)} {f : Nat × Nat → Bool} (h : (l.take l.length).any f = false) : decide ((0 : Int) ≤ -1) = l.any f := by
 rw [List.take_length] at h
 rw [h]; rfl
theorem idx_next {l : List (Nat × Nat)} {j : Nat} {p : Nat × Nat} {f : Nat × Nat → Bool} (hp : l[j]? = some p) (h : f p = false) (h2 : (l.take j).any f = false) : (l.take (j + 1)).any f = false := by
 rw [List.take_add_one, List.any_append, h2, hp]
 simp [h]
end Go.Mi.Term
namespace Go.Mi.Term
open Go.Mi Go.Proofs Go.RowKit
set_option maxRecDepth 100000 in
set_option maxHeartbeats 4000000 in
theorem index_ok {b : Nat} {r : Rn} {F X : List Nat} {l : List (Nat × Nat)} {v v2 : Value} (w0 : World) (hX : ∀ x, x ∈ X → x < w0.heap.size) (hr : RunIs b r F X w0) (hs : ∀ x, x ∈ F → x ∈ X) (hl : l.length ≤ 1000000) (hm : ∀ k, 0 ≤ itl r.rvd k ∧ itl r.rvd k ≤ 700001) (hv : SlA w0 X v l.length (dhL l)) (hv2 : FnIs w0 b v2) : Calls Tryd.prog 108 (List.toArray [v, v2]) w0 (Ret fun v w' => Gr w0 w' ∧ ∃ i : Int, v = vI i ∧ decide (0 ≤ i) = l.any r.hitB) := by
 obtain ⟨q, rfl, h⟩ := hr
 refine enterR (F := []) (ρ := runOQ b r q) [dhS l, fnS b] hX ⟨rfl, hs, h⟩ ⟨hv, hv2.hold, trivial⟩ Tryd.func108 rfl Tryd.ntmps108 rfl fun ac hS => ?_
 refine wp_seq ?_
 refine rgl0 hS [] [0, 1, 4] (Lo := [(0, dhS l), (1, fnS b), (4, eqS (vI 0))]) (by kernel_rfl) (by kernel_rfl) trivial fun ac g w hS => ?_
 refine then_n ?_
 refine wp_seq ?_
 refine wp_seq ?_
 refine rgl0 hS [e0 1 [(6, dhS l)] (eqS (vI l.length))] [0, 1, 4, 7, 8] (Lo := [(0, dhS l), (1, fnS b), (4, eqS (vI 0)), (7, eqS (vI l.length)), (8, eqS (vI 0))]) (by kernel_rfl) (by kernel_rfl) ⟨⟨q_lenD rfl rfl, trivial⟩, trivial⟩ fun ac g w hS => ?_
 refine then_n ?_
 refine wp_block ?_
 refine wp_loop_k (fun a ac w => ∃ (j : Nat) (g : Gh), a = l.length - j ∧ (j ≤ l.length) ∧ ((l.take j).any r.hitB = false) ∧ SS [(0, dhS l), (1, fnS b), (7, eqS (vI l.length)), (8, eqS (vI j))] 19 (stB (runOQ b r q) []) ⟨[], [], X, []⟩ w0 ac g w) _ ⟨0, _, rfl, Nat.zero_le _, rfl, hS.to ⟨rfl, rfl, rfl, rfl, trivial⟩⟩ ?_
 rintro _ ac w ⟨j, g, rfl, hj, hno, hS⟩
 refine wp_seq ?_
 refine rgl0 hS [] [0, 1, 7, 8, 9] (Lo := [(0, dhS l), (1, fnS b), (7, eqS (vI l.length)), (8, eqS (vI j)), (9, eqS (vB (decide ((j : Int) < l.length))))]) (by kernel_rfl) (by kernel_rfl) trivial fun ac g w hS => ?_
 refine then_n ?_
 refine wp_seq ?_
 refine wp_if hS.f.frm rfl (fun h => ?_) (fun h => ?_)
 ·have hc := of_decide_eq_true h
  clear h
  have hc := Int.ofNat_lt.1 hc
  obtain ⟨p, hp⟩ : ∃ p, l[j]? = some p := ⟨_, List.getElem?_eq_getElem hc⟩
  refine wp_skip ?_
  refine then_n ?_
  refine wp_seq ?_
  refine wp_block ?_
  refine wp_seq ?_
  refine rgl0 hS [] [0, 1, 5, 7, 8, 9] (Lo := [(0, dhS l), (1, fnS b), (5, eqS (vI j)), (7, eqS (vI l.length)), (8, eqS (vI j)), (9, eqS (vB (decide ((j : Int) < l.length))))]) (by kernel_rfl) (by kernel_rfl) trivial fun ac g w hS => ?_
  refine then_n ?_
  refine wp_seq ?_
  refine rgl0 hS [e0 3 [(12, dhS l), (13, eqS (vI j))] (prS p), e0 4 [(14, prS p)] (agS (cxV [vI p.1, vI p.2])), e0 5 [(11, fnS b), (15, agS (cxV [vI p.1, vI p.2]))] (eqS (vB (r.hitB p)))] [0, 1, 5, 7, 8, 9, 16] (Lo := [(0, dhS l), (1, fnS b), (5, eqS (vI j)), (7, eqS (vI l.length)), (8, eqS (vI j)), (9, eqS (vB (decide ((j : Int) < l.length)))), (16, eqS (vB (r.hitB p)))]) (by kernel_rfl) (by kernel_rfl) ⟨⟨q_ixD rfl rfl rfl hp, trivial⟩, ⟨q_ldD rfl rfl, trivial⟩, ⟨q_callP hm rfl rfl rfl rfl, trivial⟩, trivial⟩ fun ac g w hS => ?_
  refine then_n ?_
  refine wp_if hS.f.frm rfl (fun h => ?_) (fun h => ?_)
  ·have hq := h
   clear h
   refine wp_seq ?_
   refine rgl0 hS [] [0, 1, 4, 5, 7, 8, 9, 16] (Lo := [(0, dhS l), (1, fnS b), (4, eqS (vI j)), (5, eqS (vI j)), (7, eqS (vI l.length)), (8, eqS (vI j)), (9, eqS (vB (decide ((j : Int) < l.length)))), (16, eqS (vB (r.hitB p)))]) (by kernel_rfl) (by kernel_rfl) trivial fun ac g w hS => ?_
   refine then_n ?_
   refine wp_ret ?_
   refine block_ret ?_
   refine then_ret ?_
   refine then_ret ?_
   refine block_ret ?_
   refine then_ret ?_
   exact body_ret hS.f.frm (results1 Tryd.results108 (RV.tmp hS.f.frm rfl)) ⟨hS.gr0, _, rfl, by first | exact idx_found hp hq | exact idx_none hno⟩
  ·have hq := h
   clear h
   refine wp_skip ?_
   refine block_n ?_
   refine then_n ?_
   refine rgl0 hS [e0 0 [(8, eqS (vI j))] (eqS (vI (((j : Nat) : Int) + 1)))] [0, 1, 5, 7, 8, 9, 16] (Lo := [(0, dhS l), (1, fnS b), (5, eqS (vI j)), (7, eqS (vI l.length)), (8, eqS (vI (((j : Nat) : Int) + 1))), (9, eqS (vB (decide ((j : Int) < l.length)))), (16, eqS (vB (r.hitB p)))]) (by kernel_rfl) (by kernel_rfl) ⟨⟨q_val fun ξ g w hB hH => ⟨_, rfl, d_add rfl rfl (wrap_i64 (by omega) (by omega))⟩, trivial⟩, trivial⟩ fun ac g w hS => ?_
   refine then_n ?_
   refine ⟨_, ?_, j + 1, _, rfl, hc, idx_next hp hq hno, hS.to ⟨rfl, rfl, rfl, rfl, trivial⟩⟩
   omega
 ·have hc := of_decide_eq_false h
  clear h
  obtain rfl : j = l.length := by omega
  refine wp_exit ?_
  refine then_exit ?_
  refine then_exit ?_
  refine block_exit ?_
  refine then_n ?_
  refine wp_seq ?_
  refine rgl0 hS [] [0, 1, 4, 7] (Lo := [(0, dhS l), (1, fnS b), (4, eqS (vI (-1))), (7, eqS (vI l.length))]) (by kernel_rfl) (by kernel_rfl) trivial fun ac g w hS => ?_
  refine then_n ?_
  refine wp_ret ?_
  exact body_ret hS.f.frm (results1 Tryd.results108 (RV.tmp hS.f.frm rfl)) ⟨hS.gr0, _, rfl, by first | exact idx_found hp hq | exact idx_none hno⟩
set_option maxRecDepth 100000 in
set_option maxHeartbeats 4000000 in
theorem cont_ok {b : Nat} {r : Rn} {F X : List Nat} {l : List (Nat × Nat)} {v v2 : Value} (w0 : World) (hX : ∀ x, x ∈ X → x < w0.heap.size) (hr : RunIs b r F X w0) (hs : ∀ x, x ∈ F → x ∈ X) (hl : l.length ≤ 1000000) (hm : ∀ k, 0 ≤ itl r.rvd k ∧ itl r.rvd k ≤ 700001) (hv : SlA w0 X v l.length (dhL l)) (hv2 : FnIs w0 b v2) : Calls Tryd.prog 101 (List.toArray [v, v2]) w0 (Ret fun v w' => Gr w0 w' ∧ v = .bool (l.any r.hitB)) := by
 obtain ⟨q, rfl, h⟩ := hr
 refine enterR (F := []) (ρ := runOQ b r q) [dhS l, fnS b] hX ⟨rfl, hs, h⟩ ⟨hv, hv2.hold, trivial⟩ Tryd.func101 rfl Tryd.ntmps101 rfl fun ac hS => ?_
 refine wp_seq ?_
 refine rgl0 hS [] [0, 1, 4] (Lo := [(0, dhS l), (1, fnS b), (4, eqS vf)]) (by kernel_rfl) (by kernel_rfl) trivial fun ac g w hS => ?_
 refine then_n ?_
 refine wp_seq ?_
 refine rgl0 hS [e0 2 [(5, dhS l), (6, fnS b)] (ixS (l.any r.hitB)), e0 3 [(7, ixS (l.any r.hitB))] (eqS (vB (l.any r.hitB)))] [0, 1, 4] (Lo := [(0, dhS l), (1, fnS b), (4, eqS (vB (l.any r.hitB)))]) (by kernel_rfl) (by kernel_rfl) ⟨⟨q_st rfl fun ξ g w hB hH => ok_call c108 rfl (index_ok w hB.wf.lt ⟨_, rfl, hB.run.2.2⟩ hB.run.2.2.rs.sub hl hm (hH 5 _ rfl) (fn_of (hH 6 _ rfl))), trivial⟩, ⟨q_geqI rfl rfl rfl, trivial⟩, trivial⟩ fun ac g w hS => ?_
 refine then_n ?_
 refine wp_ret ?_
 exact body_ret hS.f.frm (results1 Tryd.results101 (RV.tmp hS.f.frm rfl)) ⟨hS.gr0, rfl⟩
end Go.Mi.Term
namespace Go.Mi.Term
open Go.Mi Go.Proofs Go.RowKit
set_option maxRecDepth 100000 in
set_option maxHeartbeats 4000000 in
theorem inp_a {b : Nat} {r : Rn} {F X : List Nat} {e : Ep} {v : Value} (w0 : World) (hX : ∀ x, x ∈ X → x < w0.heap.size) (hr : RunIs b r F X w0) (hs : ∀ x, x ∈ F → x ∈ X) (hm : ∀ k, 0 ≤ itl r.rvd k ∧ itl r.rvd k ≤ 700001) (hl : e.dhs.length ≤ 1000000) (hv : (agS (cxE e)).hold ⟨[], [], X, []⟩ w0 v) (h1 : e.kem = true) (h2 : r.kem = false) : Calls Tryd.prog 89 (List.toArray [vp b, v]) w0 (Ret fun v w' => Gr w0 w' ∧ v = .bool false) := by
 obtain ⟨q, rfl, h⟩ := hr
 refine enterR (F := []) (ρ := runOQ b r q) [eqS (vP b 0), agS (cxE e)] hX ⟨rfl, hs, h⟩ ⟨rfl, hv, trivial⟩ Tryd.func89 rfl Tryd.ntmps89 rfl fun ac hS => ?_
 refine wp_seq ?_
 refine rgl [e1 0 [(0, eqS (vP b 0))] (nwS 0), ⟨1, [(1, agS (cxE e))], nwS 1, [1], true⟩] [0, 1, 2, 3, 4] (Bl [stB (runOQ b r q) [], stB (runOQ b r q) [(42, agS (cxV [vp b]))], stB (runOQ b r q) [(42, agS (cxV [vp b])), (99, agS (cxE e))]]) 2 (Lo := [(0, eqS (vP b 0)), (1, agS (cxE e)), (2, nwS 0), (3, nwS 1), (4, eqS vf)]) (by kernel_rfl) (by kernel_rfl) ⟨⟨m_box1 rfl rfl rfl rfl rfl rfl, trivial⟩, ⟨m_box rfl rfl rfl rfl (agg_E _).sized rfl, trivial⟩, trivial⟩ hS rfl fun ac g w hS => ?_
 refine then_n ?_
 refine wp_seq ?_
 refine wp_seq ?_
 refine rgl0 hS [e0 0 [(3, nwS 1)] (nwO 1 1), e0 1 [(5, nwO 1 1)] (eqS vt), e0 3 [(7, eqS vt), (2, nwS 0)] (eqS (vP b 0)), e0 7 [(7, eqS vt), (11, eqS (vP b 23))] (eqS vf)] [0, 1, 2, 3, 4, 14] (Lo := [(0, eqS (vP b 0)), (1, agS (cxE e)), (2, nwS 0), (3, nwS 1), (4, eqS vf), (14, eqS vt)]) (by kernel_rfl) (by kernel_rfl) ⟨⟨q_faN (k := 1) rfl rfl rfl rfl (by decide) (by kernel_rfl), trivial⟩, ⟨q_ldNKc h1 rfl rfl rfl rfl, trivial⟩, ⟨q_ldN1 rfl rfl rfl rfl (by decide) Tryd.underlying42 rfl, trivial⟩, ⟨q_ldK (hasOQ _ _ _) rfl rfl rfl Tryd.underlying4 rfl (congrArg (fun z => some (vB z)) h2), trivial⟩, trivial⟩ fun ac g w hS => ?_
 refine then_n ?_
 refine wp_cond_true (hS.f.frm.eval rfl) ?_
 refine wp_seq ?_
 refine rgl0 hS [] [0, 1, 2, 3, 4, 14] (Lo := [(0, eqS (vP b 0)), (1, agS (cxE e)), (2, nwS 0), (3, nwS 1), (4, eqS vf), (14, eqS vt)]) (by kernel_rfl) (by kernel_rfl) trivial fun ac g w hS => ?_
 refine then_n ?_
 refine wp_ret ?_
 refine then_ret ?_
 exact body_ret hS.f.frm (results1 Tryd.results89 (RV.tmp hS.f.frm rfl)) ⟨hS.gr0, rfl⟩
set_option maxRecDepth 100000 in
set_option maxHeartbeats 4000000 in
theorem inp_b {b : Nat} {r : Rn} {F X : List Nat} {e : Ep} {v : Value} (w0 : World) (hX : ∀ x, x ∈ X → x < w0.heap.size) (hr : RunIs b r F X w0) (hs : ∀ x, x ∈ F → x ∈ X) (hm : ∀ k, 0 ≤ itl r.rvd k ∧ itl r.rvd k ≤ 700001) (hl : e.dhs.length ≤ 1000000) (hv : (agS (cxE e)).hold ⟨[], [], X, []⟩ w0 v) (h1 : e.kem = true) (h2 : r.kem = true) (h3 : r.dh = true) : Calls Tryd.prog 89 (List.toArray [vp b, v]) w0 (Ret fun v w' => Gr w0 w' ∧ v = .bool true) := by
 obtain ⟨q, rfl, h⟩ := hr
 refine enterR (F := []) (ρ := runOQ b r q) [eqS (vP b 0), agS (cxE e)] hX ⟨rfl, hs, h⟩ ⟨rfl, hv, trivial⟩ Tryd.func89 rfl Tryd.ntmps89 rfl fun ac hS => ?_
 refine wp_seq ?_
 refine rgl [e1 0 [(0, eqS (vP b 0))] (nwS 0), ⟨1, [(1, agS (cxE e))], nwS 1, [1], true⟩] [0, 1, 2, 3, 4] (Bl [stB (runOQ b r q) [], stB (runOQ b r q) [(42, agS (cxV [vp b]))], stB (runOQ b r q) [(42, agS (cxV [vp b])), (99, agS (cxE e))]]) 2 (Lo := [(0, eqS (vP b 0)), (1, agS (cxE e)), (2, nwS 0), (3, nwS 1), (4, eqS vf)]) (by kernel_rfl) (by kernel_rfl) ⟨⟨m_box1 rfl rfl rfl rfl rfl rfl, trivial⟩, ⟨m_box rfl rfl rfl rfl (agg_E _).sized rfl, trivial⟩, trivial⟩ hS rfl fun ac g w hS => ?_
 refine then_n ?_
 refine wp_seq ?_
 refine wp_seq ?_
 refine rgl0 hS [e0 0 [(3, nwS 1)] (nwO 1 1), e0 1 [(5, nwO 1 1)] (eqS vt), e0 3 [(7, eqS vt), (2, nwS 0)] (eqS (vP b 0)), e0 7 [(7, eqS vt), (11, eqS (vP b 23))] (eqS vt)] [0, 1, 2, 3, 4, 14] (Lo := [(0, eqS (vP b 0)), (1, agS (cxE e)), (2, nwS 0), (3, nwS 1), (4, eqS vf), (14, eqS vf)]) (by kernel_rfl) (by kernel_rfl) ⟨⟨q_faN (k := 1) rfl rfl rfl rfl (by decide) (by kernel_rfl), trivial⟩, ⟨q_ldNKc h1 rfl rfl rfl rfl, trivial⟩, ⟨q_ldN1 rfl rfl rfl rfl (by decide) Tryd.underlying42 rfl, trivial⟩, ⟨q_ldK (hasOQ _ _ _) rfl rfl rfl Tryd.underlying4 rfl (congrArg (fun z => some (vB z)) h2), trivial⟩, trivial⟩ fun ac g w hS => ?_
 refine then_n ?_
 refine wp_cond_false (hS.f.frm.eval rfl) ?_
 refine wp_skip ?_
 refine then_n ?_
 refine wp_seq ?_
 refine rgl0 hS [e0 0 [(2, nwS 0)] (eqS (vP b 0)), e0 4 [(18, eqS (vP b 22))] (eqS vt)] [0, 1, 2, 3, 4, 14] (Lo := [(0, eqS (vP b 0)), (1, agS (cxE e)), (2, nwS 0), (3, nwS 1), (4, eqS vt), (14, eqS vf)]) (by kernel_rfl) (by kernel_rfl) ⟨⟨q_ldN1 rfl rfl rfl rfl (by decide) Tryd.underlying42 rfl, trivial⟩, ⟨q_ldK (hasOQ _ _ _) rfl rfl rfl Tryd.underlying4 rfl (congrArg (fun z => some (vB z)) h3), trivial⟩, trivial⟩ fun ac g w hS => ?_
 refine then_n ?_
 refine wp_ret ?_
 exact body_ret hS.f.frm (results1 Tryd.results89 (RV.tmp hS.f.frm rfl)) ⟨hS.gr0, rfl⟩
set_option maxRecDepth 100000 in
set_option maxHeartbeats 4000000 in
theorem inp_c {b : Nat} {r : Rn} {F X : List Nat} {e : Ep} {v : Value} (w0 : World) (hX : ∀ x, x ∈ X → x < w0.heap.size) (hr : RunIs b r F X w0) (hs : ∀ x, x ∈ F → x ∈ X) (hm : ∀ k, 0 ≤ itl r.rvd k ∧ itl r.rvd k ≤ 700001) (hl : e.dhs.length ≤ 1000000) (hv : (agS (cxE e)).hold ⟨[], [], X, []⟩ w0 v) (h1 : e.kem = true) (h2 : r.kem = true) (h3 : r.dh = false) : Calls Tryd.prog 89 (List.toArray [vp b, v]) w0 (Ret fun v w' => Gr w0 w' ∧ v = .bool (!e.dhs.any r.hitB)) := by
 obtain ⟨q, rfl, h⟩ := hr
 refine enterR (F := []) (ρ := runOQ b r q) [eqS (vP b 0), agS (cxE e)] hX ⟨rfl, hs, h⟩ ⟨rfl, hv, trivial⟩ Tryd.func89 rfl Tryd.ntmps89 rfl fun ac hS => ?_
 refine wp_seq ?_
 refine rgl [e1 0 [(0, eqS (vP b 0))] (nwS 0), ⟨1, [(1, agS (cxE e))], nwS 1, [1], true⟩] [0, 1, 2, 3, 4] (Bl [stB (runOQ b r q) [], stB (runOQ b r q) [(42, agS (cxV [vp b]))], stB (runOQ b r q) [(42, agS (cxV [vp b])), (99, agS (cxE e))]]) 2 (Lo := [(0, eqS (vP b 0)), (1, agS (cxE e)), (2, nwS 0), (3, nwS 1), (4, eqS vf)]) (by kernel_rfl) (by kernel_rfl) ⟨⟨m_box1 rfl rfl rfl rfl rfl rfl, trivial⟩, ⟨m_box rfl rfl rfl rfl (agg_E _).sized rfl, trivial⟩, trivial⟩ hS rfl fun ac g w hS => ?_
 refine then_n ?_
 refine wp_seq ?_
 refine wp_seq ?_
 refine rgl0 hS [e0 0 [(3, nwS 1)] (nwO 1 1), e0 1 [(5, nwO 1 1)] (eqS vt), e0 3 [(7, eqS vt), (2, nwS 0)] (eqS (vP b 0)), e0 7 [(7, eqS vt), (11, eqS (vP b 23))] (eqS vt)] [0, 1, 2, 3, 4, 14] (Lo := [(0, eqS (vP b 0)), (1, agS (cxE e)), (2, nwS 0), (3, nwS 1), (4, eqS vf), (14, eqS vf)]) (by kernel_rfl) (by kernel_rfl) ⟨⟨q_faN (k := 1) rfl rfl rfl rfl (by decide) (by kernel_rfl), trivial⟩, ⟨q_ldNKc h1 rfl rfl rfl rfl, trivial⟩, ⟨q_ldN1 rfl rfl rfl rfl (by decide) Tryd.underlying42 rfl, trivial⟩, ⟨q_ldK (hasOQ _ _ _) rfl rfl rfl Tryd.underlying4 rfl (congrArg (fun z => some (vB z)) h2), trivial⟩, trivial⟩ fun ac g w hS => ?_
 refine then_n ?_
 refine wp_cond_false (hS.f.frm.eval rfl) ?_
 refine wp_skip ?_
 refine then_n ?_
 refine wp_seq ?_
 refine rgl0 hS [e0 0 [(2, nwS 0)] (eqS (vP b 0)), e0 4 [(18, eqS (vP b 22))] (eqS vf), e0 6 [(20, eqS vf), (3, nwS 1)] (nwO 1 0), e0 7 [(20, eqS vf), (21, nwO 1 0)] (dhS e.dhs), e0 8 [(20, eqS vf), (2, nwS 0)] (fnO 0), e0 9 [(20, eqS vf), (22, dhS e.dhs), (23, fnO 0)] (eqS (vB (e.dhs.any r.hitB)))] [0, 1, 2, 3, 4, 14] (Lo := [(0, eqS (vP b 0)), (1, agS (cxE e)), (2, nwS 0), (3, nwS 1), (4, eqS (vB (!(e.dhs.any r.hitB)))), (14, eqS vf)]) (by kernel_rfl) (by kernel_rfl) ⟨⟨q_ldN1 rfl rfl rfl rfl (by decide) Tryd.underlying42 rfl, trivial⟩, ⟨q_ldK (hasOQ _ _ _) rfl rfl rfl Tryd.underlying4 rfl (congrArg (fun z => some (vB z)) h3), trivial⟩, ⟨q_faN (k := 1) rfl rfl rfl rfl (by decide) (by kernel_rfl), trivial⟩, ⟨q_ldND rfl rfl rfl rfl, trivial⟩, ⟨q_mkFn rfl rfl rfl rfl, trivial⟩, ⟨q_st rfl fun ξ g w hB hH => ok_call c101 rfl (cont_ok w hB.wf.lt ⟨_, rfl, hB.run.2.2⟩ hB.run.2.2.rs.sub hl hm (hH 22 _ rfl) (fn_cell hB rfl (hH 23 _ rfl))), trivial⟩, trivial⟩ fun ac g w hS => ?_
 refine then_n ?_
 refine wp_ret ?_
 exact body_ret hS.f.frm (results1 Tryd.results89 (RV.tmp hS.f.frm rfl)) ⟨hS.gr0, rfl⟩
set_option maxRecDepth 100000 in
set_option maxHeartbeats 4000000 in
theorem inp_d {b : Nat} {r : Rn} {F X : List Nat} {e : Ep} {v : Value} (w0 : World) (hX : ∀ x, x ∈ X → x < w0.heap.size) (hr : RunIs b r F X w0) (hs : ∀ x, x ∈ F → x ∈ X) (hm : ∀ k, 0 ≤ itl r.rvd k ∧ itl r.rvd k ≤ 700001) (hl : e.dhs.length ≤ 1000000) (hv : (agS (cxE e)).hold ⟨[], [], X, []⟩ w0 v) (h1 : e.kem = false) (h3 : r.dh = true) : Calls Tryd.prog 89 (List.toArray [vp b, v]) w0 (Ret fun v w' => Gr w0 w' ∧ v = .bool true) := by
 obtain ⟨q, rfl, h⟩ := hr
 refine enterR (F := []) (ρ := runOQ b r q) [eqS (vP b 0), agS (cxE e)] hX ⟨rfl, hs, h⟩ ⟨rfl, hv, trivial⟩ Tryd.func89 rfl Tryd.ntmps89 rfl fun ac hS => ?_
 refine wp_seq ?_
 refine rgl [e1 0 [(0, eqS (vP b 0))] (nwS 0), ⟨1, [(1, agS (cxE e))], nwS 1, [1], true⟩] [0, 1, 2, 3, 4] (Bl [stB (runOQ b r q) [], stB (runOQ b r q) [(42, agS (cxV [vp b]))], stB (runOQ b r q) [(42, agS (cxV [vp b])), (99, agS (cxE e))]]) 2 (Lo := [(0, eqS (vP b 0)), (1, agS (cxE e)), (2, nwS 0), (3, nwS 1), (4, eqS vf)]) (by kernel_rfl) (by kernel_rfl) ⟨⟨m_box1 rfl rfl rfl rfl rfl rfl, trivial⟩, ⟨m_box rfl rfl rfl rfl (agg_E _).sized rfl, trivial⟩, trivial⟩ hS rfl fun ac g w hS => ?_
 refine then_n ?_
 refine wp_seq ?_
 refine wp_seq ?_
 refine rgl0 hS [e0 0 [(3, nwS 1)] (nwO 1 1), e0 1 [(5, nwO 1 1)] (eqS vf)] [0, 1, 2, 3, 4, 14] (Lo := [(0, eqS (vP b 0)), (1, agS (cxE e)), (2, nwS 0), (3, nwS 1), (4, eqS vf), (14, eqS vf)]) (by kernel_rfl) (by kernel_rfl) ⟨⟨q_faN (k := 1) rfl rfl rfl rfl (by decide) (by kernel_rfl), trivial⟩, ⟨q_ldNKc h1 rfl rfl rfl rfl, trivial⟩, trivial⟩ fun ac g w hS => ?_
 refine then_n ?_
 refine wp_cond_false (hS.f.frm.eval rfl) ?_
 refine wp_skip ?_
 refine then_n ?_
 refine wp_seq ?_
 refine rgl0 hS [e0 0 [(2, nwS 0)] (eqS (vP b 0)), e0 4 [(18, eqS (vP b 22))] (eqS vt)] [0, 1, 2, 3, 4, 14] (Lo := [(0, eqS (vP b 0)), (1, agS (cxE e)), (2, nwS 0), (3, nwS 1), (4, eqS vt), (14, eqS vf)]) (by kernel_rfl) (by kernel_rfl) ⟨⟨q_ldN1 rfl rfl rfl rfl (by decide) Tryd.underlying42 rfl, trivial⟩, ⟨q_ldK (hasOQ _ _ _) rfl rfl rfl Tryd.underlying4 rfl (congrArg (fun z => some (vB z)) h3), trivial⟩, trivial⟩ fun ac g w hS => ?_
 refine then_n ?_
 refine wp_ret ?_
 exact body_ret hS.f.frm (results1 Tryd.results89 (RV.tmp hS.f.frm rfl)) ⟨hS.gr0, rfl⟩
set_option maxRecDepth 100000 in
set_option maxHeartbeats 4000000 in
theorem inp_e {b : Nat} {r : Rn} {F X : List Nat} {e : Ep} {v : Value} (w0 : World) (hX : ∀ x, x ∈ X → x < w0.heap.size) (hr : RunIs b r F X w0) (hs : ∀ x, x ∈ F → x ∈ X) (hm : ∀ k, 0 ≤ itl r.rvd k ∧ itl r.rvd k ≤ 700001) (hl : e.dhs.length ≤ 1000000) (hv : (agS (cxE e)).hold ⟨[], [], X, []⟩ w0 v) (h1 : e.kem = false) (h3 : r.dh = false) : Calls Tryd.prog 89 (List.toArray [vp b, v]) w0 (Ret fun v w' => Gr w0 w' ∧ v = .bool (!e.dhs.any r.hitB)) := by
 obtain ⟨q, rfl, h⟩ := hr
 refine enterR (F := []) (ρ := runOQ b r q) [eqS (vP b 0), agS (cxE e)] hX ⟨rfl, hs, h⟩ ⟨rfl, hv, trivial⟩ Tryd.func89 rfl Tryd.ntmps89 rfl fun ac hS => ?_
 refine wp_seq ?_
 refine rgl [e1 0 [(0, eqS (vP b 0))] (nwS 0), ⟨1, [(1, agS (cxE e))], nwS 1, [1], true⟩] [0, 1, 2, 3, 4] (Bl [stB (runOQ b r q) [], stB (runOQ b r q) [(42, agS (cxV [vp b]))], stB (runOQ b r q) [(42, agS (cxV [vp b])), (99, agS (cxE e))]]) 2 (Lo := [(0, eqS (vP b 0)), (1, agS (cxE e)), (2, nwS 0), (3, nwS 1), (4, eqS vf)]) (by kernel_rfl) (by kernel_rfl) ⟨⟨m_box1 rfl rfl rfl rfl rfl rfl, trivial⟩, ⟨m_box rfl rfl rfl rfl (agg_E _).sized rfl, trivial⟩, trivial⟩ hS rfl fun ac g w hS => ?_
 refine then_n ?_
 refine wp_seq ?_
 refine wp_seq ?_
 refine rgl0 hS [e0 0 [(3, nwS 1)] (nwO 1 1), e0 1 [(5, nwO 1 1)] (eqS vf)] [0, 1, 2, 3, 4, 14] (Lo := [(0, eqS (vP b 0)), (1, agS (cxE e)), (2, nwS 0), (3, nwS 1), (4, eqS vf), (14, eqS vf)]) (by kernel_rfl) (by kernel_rfl) ⟨⟨q_faN (k := 1) rfl rfl rfl rfl (by decide) (by kernel_rfl), trivial⟩, ⟨q_ldNKc h1 rfl rfl rfl rfl, trivial⟩, trivial⟩ fun ac g w hS => ?_
 refine then_n ?_
 refine wp_cond_false (hS.f.frm.eval rfl) ?_
 refine wp_skip ?_
 refine then_n ?_
 refine wp_seq ?_
 refine rgl0 hS [e0 0 [(2, nwS 0)] (eqS (vP b 0)), e0 4 [(18, eqS (vP b 22))] (eqS vf), e0 6 [(20, eqS vf), (3, nwS 1)] (nwO 1 0), e0 7 [(20, eqS vf), (21, nwO 1 0)] (dhS e.dhs), e0 8 [(20, eqS vf), (2, nwS 0)] (fnO 0), e0 9 [(20, eqS vf), (22, dhS e.dhs), (23, fnO 0)] (eqS (vB (e.dhs.any r.hitB)))] [0, 1, 2, 3, 4, 14] (Lo := [(0, eqS (vP b 0)), (1, agS (cxE e)), (2, nwS 0), (3, nwS 1), (4, eqS (vB (!(e.dhs.any r.hitB)))), (14, eqS vf)]) (by kernel_rfl) (by kernel_rfl) ⟨⟨q_ldN1 rfl rfl rfl rfl (by decide) Tryd.underlying42 rfl, trivial⟩, ⟨q_ldK (hasOQ _ _ _) rfl rfl rfl Tryd.underlying4 rfl (congrArg (fun z => some (vB z)) h3), trivial⟩, ⟨q_faN (k := 1) rfl rfl rfl rfl (by decide) (by kernel_rfl), trivial⟩, ⟨q_ldND rfl rfl rfl rfl, trivial⟩, ⟨q_mkFn rfl rfl rfl rfl, trivial⟩, ⟨q_st rfl fun ξ g w hB hH => ok_call c101 rfl (cont_ok w hB.wf.lt ⟨_, rfl, hB.run.2.2⟩ hB.run.2.2.rs.sub hl hm (hH 22 _ rfl) (fn_cell hB rfl (hH 23 _ rfl))), trivial⟩, trivial⟩ fun ac g w hS => ?_
 refine then_n ?_
 refine wp_ret ?_
 exact body_ret hS.f.frm (results1 Tryd.results89 (RV.tmp hS.f.frm rfl)) ⟨hS.gr0, rfl⟩
theorem inputB_eq (r : Rn) (e : Ep) : r.inputB e = ((!e.kem || r.kem) && (r.dh || !e.dhs.any r.hitB)) := by
 simp [Rn.inputB, List.all_eq_not_any_not]
 rfl
theorem input_ok {b : Nat} {r : Rn} {F X : List Nat} {e : Ep} {v : Value} (w0 : World) (hX : ∀ x, x ∈ X → x < w0.heap.size) (hr : RunIs b r F X w0) (hs : ∀ x, x ∈ F → x ∈ X) (hm : ∀ k, 0 ≤ itl r.rvd k ∧ itl r.rvd k ≤ 700001) (hl : e.dhs.length ≤ 1000000) (hv : (agS (cxE e)).hold ⟨[], [], X, []⟩ w0 v) : Calls Tryd.prog 89 (List.toArray [vp b, v]) w0 (Ret fun v w' => Gr w0 w' ∧ v = .bool (r.inputB e)) := by
 rw [inputB_eq]
 cases h1 : e.kem <;> cases h2 : r.kem <;> cases h3 : r.dh
 ·exact inp_e w0 hX hr hs hm hl hv h1 h3
 ·exact inp_d w0 hX hr hs hm hl hv h1 h3
 ·exact inp_e w0 hX hr hs hm hl hv h1 h3
 ·exact inp_d w0 hX hr hs hm hl hv h1 h3
 ·exact inp_a w0 hX hr hs hm hl hv h1 h2
 ·exact inp_a w0 hX hr hs hm hl hv h1 h2
 ·exact inp_c w0 hX hr hs hm hl hv h1 h2 h3
 ·exact inp_b w0 hX hr hs hm hl hv h1 h2 h3
end Go.Mi.Term
namespace Go.Mi.Term
open Go.Mi Go.Proofs Go.RowKit
theorem ret_b {P : Program} {f : FuncId} {vs : Array Value} {w : World} {x y : Bool} (h : Calls P f vs w (Ret fun v w' => Gr w w' ∧ v = .bool x)) (e : x = y) : Calls P f vs w (Ret fun v w' => Gr w w' ∧ v = .bool y) := e ▸ h
theorem lt_of_at {α : Type} {l : List α} {j : Nat} {a : α} (h : l[j]? = some a) : j < l.length := by
 rcases Nat.lt_or_ge j l.length with h' | h'
 ·exact h'
 ·rw [List.getElem?_eq_none h'] at h; cases h
set_option maxRecDepth 100000 in
set_option maxHeartbeats 4000000 in
theorem who_a {b : Nat} {r : Rn} {F X : List Nat} {k : Nat} {e : Ep} (w0 : World) (hX : ∀ x, x ∈ X → x < w0.heap.size) (hr : RunIs b r F X w0) (hs : ∀ x, x ∈ F → x ∈ X) (hm : ∀ k, 0 ≤ itl r.rvd k ∧ itl r.rvd k ≤ 700001) (hd : ∀ e ∈ r.eps, e.dhs.length ≤ 1000000) (he : r.eps[k]? = some e) (hin : r.inputB e = false) : Calls Tryd.prog 62 (List.toArray [vp b, vI k]) w0 (Ret fun v w' => Gr w0 w' ∧ v = .bool false) := by
 obtain ⟨q, rfl, h⟩ := hr
 refine enterR (F := []) (ρ := runOQ b r q) [eqS (vP b 0), eqS (vI k)] hX ⟨rfl, hs, h⟩ ⟨rfl, rfl, trivial⟩ Tryd.func62 rfl Tryd.ntmps62 rfl fun ac hS => ?_
 refine wp_seq ?_
 refine rgl0 hS [] [0, 1, 4] (Lo := [(0, eqS (vP b 0)), (1, eqS (vI k)), (4, eqS vf)]) (by kernel_rfl) (by kernel_rfl) trivial fun ac g w hS => ?_
 refine then_n ?_
 refine wp_seq ?_
 refine wp_seq ?_
 refine rgl0 hS [e0 4 [(8, eqS (vP b 18))] (eqS q.ve), e0 6 [(9, eqS q.ve), (10, eqS (vI k))] (eqS (vP (bkV q.ve) (k * 3))), e0 7 [(11, eqS (vP (bkV q.ve) (k * 3)))] (agS (cxE e)), e0 8 [(5, eqS (vP b 0)), (12, agS (cxE e))] (eqS vf)] [0, 1, 4, 14] (Lo := [(0, eqS (vP b 0)), (1, eqS (vI k)), (4, eqS vf), (14, eqS vt)]) (by kernel_rfl) (by kernel_rfl) ⟨⟨q_ldK (hasOQ _ _ _) rfl rfl rfl Tryd.underlying90 rfl rfl, trivial⟩, ⟨q_ixEp (hasOQ _ _ _) rfl rfl rfl rfl (lt_of_at he), trivial⟩, ⟨q_ldEp (hasOQ _ _ _) rfl rfl rfl he, trivial⟩, ⟨q_st rfl fun ξ g w hB hH => ok_call c89 rfl (ret_b (input_ok w hB.wf.lt ⟨_, rfl, hB.run.2.2⟩ hB.run.2.2.rs.sub hm (hd _ (List.mem_of_getElem? he)) (hH 12 _ rfl)) hin), trivial⟩, trivial⟩ fun ac g w hS => ?_
 refine then_n ?_
 refine wp_cond_true (hS.f.frm.eval rfl) ?_
 refine wp_seq ?_
 refine rgl0 hS [] [0, 1, 4, 14] (Lo := [(0, eqS (vP b 0)), (1, eqS (vI k)), (4, eqS vf), (14, eqS vt)]) (by kernel_rfl) (by kernel_rfl) trivial fun ac g w hS => ?_
 refine then_n ?_
 refine wp_ret ?_
 refine then_ret ?_
 exact body_ret hS.f.frm (results1 Tryd.results62 (RV.tmp hS.f.frm rfl)) ⟨hS.gr0, rfl⟩
set_option maxRecDepth 100000 in
set_option maxHeartbeats 4000000 in
theorem who_b {b : Nat} {r : Rn} {F X : List Nat} {e : Ep} (w0 : World) (hX : ∀ x, x ∈ X → x < w0.heap.size) (hr : RunIs b r F X w0) (hs : ∀ x, x ∈ F → x ∈ X) (hm : ∀ k, 0 ≤ itl r.rvd k ∧ itl r.rvd k ≤ 700001) (hd : ∀ e ∈ r.eps, e.dhs.length ≤ 1000000) (he : r.eps[0]? = some e) (hin : r.inputB e = true) : Calls Tryd.prog 62 (List.toArray [vp b, vI 0]) w0 (Ret fun v w' => Gr w0 w' ∧ v = .bool true) := by
 obtain ⟨q, rfl, h⟩ := hr
 refine enterR (F := []) (ρ := runOQ b r q) [eqS (vP b 0), eqS (vI 0)] hX ⟨rfl, hs, h⟩ ⟨rfl, rfl, trivial⟩ Tryd.func62 rfl Tryd.ntmps62 rfl fun ac hS => ?_
 refine wp_seq ?_
 refine rgl0 hS [] [0, 1, 4] (Lo := [(0, eqS (vP b 0)), (1, eqS (vI 0)), (4, eqS vf)]) (by kernel_rfl) (by kernel_rfl) trivial fun ac g w hS => ?_
 refine then_n ?_
 refine wp_seq ?_
 refine wp_seq ?_
 refine rgl0 hS [e0 4 [(8, eqS (vP b 18))] (eqS q.ve), e0 6 [(9, eqS q.ve), (10, eqS (vI 0))] (eqS (vP (bkV q.ve) (0 * 3))), e0 7 [(11, eqS (vP (bkV q.ve) (0 * 3)))] (agS (cxE e)), e0 8 [(5, eqS (vP b 0)), (12, agS (cxE e))] (eqS vt)] [0, 1, 4, 14] (Lo := [(0, eqS (vP b 0)), (1, eqS (vI 0)), (4, eqS vf), (14, eqS vf)]) (by kernel_rfl) (by kernel_rfl) ⟨⟨q_ldK (hasOQ _ _ _) rfl rfl rfl Tryd.underlying90 rfl rfl, trivial⟩, ⟨q_ixEp (hasOQ _ _ _) rfl rfl rfl rfl (lt_of_at he), trivial⟩, ⟨q_ldEp (hasOQ _ _ _) rfl rfl rfl he, trivial⟩, ⟨q_st rfl fun ξ g w hB hH => ok_call c89 rfl (ret_b (input_ok w hB.wf.lt ⟨_, rfl, hB.run.2.2⟩ hB.run.2.2.rs.sub hm (hd _ (List.mem_of_getElem? he)) (hH 12 _ rfl)) hin), trivial⟩, trivial⟩ fun ac g w hS => ?_
 refine then_n ?_
 refine wp_cond_false (hS.f.frm.eval rfl) ?_
 refine wp_skip ?_
 refine then_n ?_
 refine wp_seq ?_
 refine rgl0 hS [e0 1 [(15, eqS (vI 0))] (eqS vt)] [0, 1, 4, 14] (Lo := [(0, eqS (vP b 0)), (1, eqS (vI 0)), (4, eqS vt), (14, eqS vf)]) (by kernel_rfl) (by kernel_rfl) ⟨⟨q_cmp rfl rfl rfl (congrArg some (decide_eq_true (by omega))), trivial⟩, trivial⟩ fun ac g w hS => ?_
 refine then_n ?_
 refine wp_ret ?_
 exact body_ret hS.f.frm (results1 Tryd.results62 (RV.tmp hS.f.frm rfl)) ⟨hS.gr0, rfl⟩
set_option maxRecDepth 100000 in
set_option maxHeartbeats 4000000 in
theorem who_c {b : Nat} {r : Rn} {F X : List Nat} {k : Nat} {e e2 : Ep} (w0 : World) (hX : ∀ x, x ∈ X → x < w0.heap.size) (hr : RunIs b r F X w0) (hs : ∀ x, x ∈ F → x ∈ X) (hm : ∀ k, 0 ≤ itl r.rvd k ∧ itl r.rvd k ≤ 700001) (hd : ∀ e ∈ r.eps, e.dhs.length ≤ 1000000) (he : r.eps[k + 1]? = some e) (hin : r.inputB e = true) (he2 : r.eps[k]? = some e2) (hrev : e2.rev = true) (hk2 : k + 1 ≤ 1000000) : Calls Tryd.prog 62 (List.toArray [vp b, vI ((k + 1 : Nat) : Int)]) w0 (Ret fun v w' => Gr w0 w' ∧ v = .bool true) := by
 obtain ⟨q, rfl, h⟩ := hr
 refine enterR (F := []) (ρ := runOQ b r q) [eqS (vP b 0), eqS (vI ((k + 1 : Nat) : Int))] hX ⟨rfl, hs, h⟩ ⟨rfl, rfl, trivial⟩ Tryd.func62 rfl Tryd.ntmps62 rfl fun ac hS => ?_
 refine wp_seq ?_
 refine rgl0 hS [] [0, 1, 4] (Lo := [(0, eqS (vP b 0)), (1, eqS (vI ((k + 1 : Nat) : Int))), (4, eqS vf)]) (by kernel_rfl) (by kernel_rfl) trivial fun ac g w hS => ?_
 refine then_n ?_
 refine wp_seq ?_
 refine wp_seq ?_
 refine rgl0 hS [e0 4 [(8, eqS (vP b 18))] (eqS q.ve), e0 6 [(9, eqS q.ve), (10, eqS (vI ((k + 1 : Nat) : Int)))] (eqS (vP (bkV q.ve) ((k + 1) * 3))), e0 7 [(11, eqS (vP (bkV q.ve) ((k + 1) * 3)))] (agS (cxE e)), e0 8 [(5, eqS (vP b 0)), (12, agS (cxE e))] (eqS vt)] [0, 1, 4, 14] (Lo := [(0, eqS (vP b 0)), (1, eqS (vI ((k + 1 : Nat) : Int))), (4, eqS vf), (14, eqS vf)]) (by kernel_rfl) (by kernel_rfl) ⟨⟨q_ldK (hasOQ _ _ _) rfl rfl rfl Tryd.underlying90 rfl rfl, trivial⟩, ⟨q_ixEp (hasOQ _ _ _) rfl rfl rfl rfl (lt_of_at he), trivial⟩, ⟨q_ldEp (hasOQ _ _ _) rfl rfl rfl he, trivial⟩, ⟨q_st rfl fun ξ g w hB hH => ok_call c89 rfl (ret_b (input_ok w hB.wf.lt ⟨_, rfl, hB.run.2.2⟩ hB.run.2.2.rs.sub hm (hd _ (List.mem_of_getElem? he)) (hH 12 _ rfl)) hin), trivial⟩, trivial⟩ fun ac g w hS => ?_
 refine then_n ?_
 refine wp_cond_false (hS.f.frm.eval rfl) ?_
 refine wp_skip ?_
 refine then_n ?_
 refine wp_seq ?_
 refine rgl0 hS [e0 1 [(15, eqS (vI ((k + 1 : Nat) : Int)))] (eqS vf), e0 6 [(17, eqS vf), (20, eqS (vP b 18))] (eqS q.ve), e0 8 [(17, eqS vf), (22, eqS (vI ((k + 1 : Nat) : Int)))] (eqS (vI k)), e0 9 [(17, eqS vf), (21, eqS q.ve), (23, eqS (vI k))] (eqS (vP (bkV q.ve) (k * 3))), e0 11 [(17, eqS vf), (25, eqS (vP (bkV q.ve) (k * 3 + 2)))] (eqS vt)] [0, 1, 4, 14] (Lo := [(0, eqS (vP b 0)), (1, eqS (vI ((k + 1 : Nat) : Int))), (4, eqS vt), (14, eqS vf)]) (by kernel_rfl) (by kernel_rfl) ⟨⟨q_cmp rfl rfl rfl (congrArg some (decide_eq_false (by omega))), trivial⟩, ⟨q_ldK (hasOQ _ _ _) rfl rfl rfl Tryd.underlying90 rfl rfl, trivial⟩, ⟨q_val fun ξ g w hB hH => ⟨_, rfl, d_sub rfl rfl ((wrap_i64 (by omega) (by omega)).trans (by omega))⟩, trivial⟩, ⟨q_ixEp (hasOQ _ _ _) rfl rfl rfl rfl (lt_of_at he2), trivial⟩, ⟨q_ldRevc hrev (hasOQ _ _ _) rfl rfl rfl he2, trivial⟩, trivial⟩ fun ac g w hS => ?_
 refine then_n ?_
 refine wp_ret ?_
 exact body_ret hS.f.frm (results1 Tryd.results62 (RV.tmp hS.f.frm rfl)) ⟨hS.gr0, rfl⟩
set_option maxRecDepth 100000 in
set_option maxHeartbeats 4000000 in
theorem who_d {b : Nat} {r : Rn} {F X : List Nat} {k : Nat} {e e2 : Ep} (w0 : World) (hX : ∀ x, x ∈ X → x < w0.heap.size) (hr : RunIs b r F X w0) (hs : ∀ x, x ∈ F → x ∈ X) (hm : ∀ k, 0 ≤ itl r.rvd k ∧ itl r.rvd k ≤ 700001) (hd : ∀ e ∈ r.eps, e.dhs.length ≤ 1000000) (he : r.eps[k + 1]? = some e) (hin : r.inputB e = true) (he2 : r.eps[k]? = some e2) (hrev : e2.rev = false) (hk2 : k + 1 ≤ 1000000) (ih : ∀ (X F : List Nat) (w1 : World), (∀ x, x ∈ X → x < w1.heap.size) → RunIs b r F X w1 → (∀ x, x ∈ F → x ∈ X) → Calls Tryd.prog 62 (List.toArray [vp b, vI k]) w1 (Ret fun v w' => Gr w1 w' ∧ v = .bool (r.wholeB k))) : Calls Tryd.prog 62 (List.toArray [vp b, vI ((k + 1 : Nat) : Int)]) w0 (Ret fun v w' => Gr w0 w' ∧ v = .bool (r.wholeB k)) := by
 obtain ⟨q, rfl, h⟩ := hr
 refine enterR (F := []) (ρ := runOQ b r q) [eqS (vP b 0), eqS (vI ((k + 1 : Nat) : Int))] hX ⟨rfl, hs, h⟩ ⟨rfl, rfl, trivial⟩ Tryd.func62 rfl Tryd.ntmps62 rfl fun ac hS => ?_
 refine wp_seq ?_
 refine rgl0 hS [] [0, 1, 4] (Lo := [(0, eqS (vP b 0)), (1, eqS (vI ((k + 1 : Nat) : Int))), (4, eqS vf)]) (by kernel_rfl) (by kernel_rfl) trivial fun ac g w hS => ?_
 refine then_n ?_
 refine wp_seq ?_
 refine wp_seq ?_
 refine rgl0 hS [e0 4 [(8, eqS (vP b 18))] (eqS q.ve), e0 6 [(9, eqS q.ve), (10, eqS (vI ((k + 1 : Nat) : Int)))] (eqS (vP (bkV q.ve) ((k + 1) * 3))), e0 7 [(11, eqS (vP (bkV q.ve) ((k + 1) * 3)))] (agS (cxE e)), e0 8 [(5, eqS (vP b 0)), (12, agS (cxE e))] (eqS vt)] [0, 1, 4, 14] (Lo := [(0, eqS (vP b 0)), (1, eqS (vI ((k + 1 : Nat) : Int))), (4, eqS vf), (14, eqS vf)]) (by kernel_rfl) (by kernel_rfl) ⟨⟨q_ldK (hasOQ _ _ _) rfl rfl rfl Tryd.underlying90 rfl rfl, trivial⟩, ⟨q_ixEp (hasOQ _ _ _) rfl rfl rfl rfl (lt_of_at he), trivial⟩, ⟨q_ldEp (hasOQ _ _ _) rfl rfl rfl he, trivial⟩, ⟨q_st rfl fun ξ g w hB hH => ok_call c89 rfl (ret_b (input_ok w hB.wf.lt ⟨_, rfl, hB.run.2.2⟩ hB.run.2.2.rs.sub hm (hd _ (List.mem_of_getElem? he)) (hH 12 _ rfl)) hin), trivial⟩, trivial⟩ fun ac g w hS => ?_
 refine then_n ?_
 refine wp_cond_false (hS.f.frm.eval rfl) ?_
 refine wp_skip ?_
 refine then_n ?_
 refine wp_seq ?_
 refine rgl0 hS [e0 1 [(15, eqS (vI ((k + 1 : Nat) : Int)))] (eqS vf), e0 6 [(17, eqS vf), (20, eqS (vP b 18))] (eqS q.ve), e0 8 [(17, eqS vf), (22, eqS (vI ((k + 1 : Nat) : Int)))] (eqS (vI k)), e0 9 [(17, eqS vf), (21, eqS q.ve), (23, eqS (vI k))] (eqS (vP (bkV q.ve) (k * 3))), e0 11 [(17, eqS vf), (25, eqS (vP (bkV q.ve) (k * 3 + 2)))] (eqS vf), e0 16 [(28, eqS vf), (30, eqS (vI ((k + 1 : Nat) : Int)))] (eqS (vI k)), e0 17 [(28, eqS vf), (29, eqS (vP b 0)), (31, eqS (vI k))] (eqS (vB (r.wholeB k)))] [0, 1, 4, 14] (Lo := [(0, eqS (vP b 0)), (1, eqS (vI ((k + 1 : Nat) : Int))), (4, eqS (vB (r.wholeB k))), (14, eqS vf)]) (by kernel_rfl) (by kernel_rfl) ⟨⟨q_cmp rfl rfl rfl (congrArg some (decide_eq_false (by omega))), trivial⟩, ⟨q_ldK (hasOQ _ _ _) rfl rfl rfl Tryd.underlying90 rfl rfl, trivial⟩, ⟨q_val fun ξ g w hB hH => ⟨_, rfl, d_sub rfl rfl ((wrap_i64 (by omega) (by omega)).trans (by omega))⟩, trivial⟩, ⟨q_ixEp (hasOQ _ _ _) rfl rfl rfl rfl (lt_of_at he2), trivial⟩, ⟨q_ldRevc hrev (hasOQ _ _ _) rfl rfl rfl he2, trivial⟩, ⟨q_val fun ξ g w hB hH => ⟨_, rfl, d_sub rfl rfl ((wrap_i64 (by omega) (by omega)).trans (by omega))⟩, trivial⟩, ⟨q_st rfl fun ξ g w hB hH => ok_call c62 rfl (ih _ _ w hB.wf.lt ⟨_, rfl, hB.run.2.2⟩ hB.run.2.2.rs.sub), trivial⟩, trivial⟩ fun ac g w hS => ?_
 refine then_n ?_
 refine wp_ret ?_
 exact body_ret hS.f.frm (results1 Tryd.results62 (RV.tmp hS.f.frm rfl)) ⟨hS.gr0, rfl⟩
theorem whole_ok {b : Nat} {r : Rn} (hm : ∀ k, 0 ≤ itl r.rvd k ∧ itl r.rvd k ≤ 700001) (hd : ∀ e ∈ r.eps, e.dhs.length ≤ 1000000) (hl : r.eps.length ≤ 1000000) : ∀ (k : Nat), k < r.eps.length → ∀ (X F : List Nat) (w1 : World), (∀ x, x ∈ X → x < w1.heap.size) → RunIs b r F X w1 → (∀ x, x ∈ F → x ∈ X) → Calls Tryd.prog 62 (List.toArray [vp b, vI k]) w1 (Ret fun v w' => Gr w1 w' ∧ v = .bool (r.wholeB k))
 | 0, hk, X, F, w1, h1, h2, h3 => by
  have he := List.getElem?_eq_getElem hk
  cases hin : r.inputB r.eps[0] with
  | false => exact ret_b (who_a w1 h1 h2 h3 hm hd he hin) (by simp [Rn.wholeB, List.getD_eq_getElem?_getD, he, hin])
  | true => exact ret_b (who_b w1 h1 h2 h3 hm hd he hin) (by simp [Rn.wholeB, List.getD_eq_getElem?_getD, he, hin])
 | k + 1, hk, X, F, w1, h1, h2, h3 => by
  have he := List.getElem?_eq_getElem hk
  have he2 := List.getElem?_eq_getElem (show k < r.eps.length by omega)
  cases hin : r.inputB r.eps[k + 1] with
  | false => exact ret_b (who_a w1 h1 h2 h3 hm hd he hin) (by simp [Rn.wholeB, List.getD_eq_getElem?_getD, he, hin])
  | true =>
   cases hrev : (r.eps[k]'(by omega)).rev with
   | true => exact ret_b (who_c w1 h1 h2 h3 hm hd he hin he2 hrev (by omega)) (by simp [Rn.wholeB, List.getD_eq_getElem?_getD, he, he2, hin, hrev])
   | false => exact ret_b (who_d w1 h1 h2 h3 hm hd he hin he2 hrev (by omega) (whole_ok hm hd hl k (by omega))) (by simp [Rn.wholeB, List.getD_eq_getElem?_getD, he, he2, hin, hrev])
set_option maxRecDepth 100000 in
set_option maxHeartbeats 4000000 in
theorem cl_a {b : Nat} {r : Rn} {F X : List Nat} {k : Int} (w0 : World) (hX : ∀ x, x ∈ X → x < w0.heap.size) (hr : RunIs b r F X w0) (hs : ∀ x, x ∈ F → x ∈ X) (h0 : 0 < r.eps.length) (h1 : k < 0) : Calls Tryd.prog 28 (List.toArray [vp b, vI k]) w0 (Ret fun v w' => Gr w0 w' ∧ v = .bool false) := by
 obtain ⟨q, rfl, h⟩ := hr
 refine enterR (F := []) (ρ := runOQ b r q) [eqS (vP b 0), eqS (vI k)] hX ⟨rfl, hs, h⟩ ⟨rfl, rfl, trivial⟩ Tryd.func28 rfl Tryd.ntmps28 rfl fun ac hS => ?_
 refine wp_seq ?_
 refine rgl0 hS [] [0, 1, 4] (Lo := [(0, eqS (vP b 0)), (1, eqS (vI k)), (4, eqS vf)]) (by kernel_rfl) (by kernel_rfl) trivial fun ac g w hS => ?_
 refine then_n ?_
 refine wp_seq ?_
 refine rgl0 hS [e0 1 [(5, eqS (vP b 0))] (eqS vf), e0 5 [(8, eqS vt), (9, eqS (vI k))] (eqS vf)] [0, 1, 4] (Lo := [(0, eqS (vP b 0)), (1, eqS (vI k)), (4, eqS vf)]) (by kernel_rfl) (by kernel_rfl) ⟨⟨q_st rfl fun ξ g w hB hH => ok_call c58 rfl (none_ok w hB.wf.lt ⟨_, rfl, hB.run.2.2⟩ hB.run.2.2.rs.sub h0), trivial⟩, ⟨q_cmp rfl rfl rfl (congrArg some (decide_eq_false (by omega))), trivial⟩, trivial⟩ fun ac g w hS => ?_
 refine then_n ?_
 refine wp_ret ?_
 exact body_ret hS.f.frm (results1 Tryd.results28 (RV.tmp hS.f.frm rfl)) ⟨hS.gr0, rfl⟩
set_option maxRecDepth 100000 in
set_option maxHeartbeats 4000000 in
theorem cl_b {b : Nat} {r : Rn} {F X : List Nat} {k : Int} (w0 : World) (hX : ∀ x, x ∈ X → x < w0.heap.size) (hr : RunIs b r F X w0) (hs : ∀ x, x ∈ F → x ∈ X) (h0 : 0 < r.eps.length) (h1 : 0 ≤ k) (h2 : r.keys.length ≤ k) : Calls Tryd.prog 28 (List.toArray [vp b, vI k]) w0 (Ret fun v w' => Gr w0 w' ∧ v = .bool false) := by
 obtain ⟨q, rfl, h⟩ := hr
 refine enterR (F := []) (ρ := runOQ b r q) [eqS (vP b 0), eqS (vI k)] hX ⟨rfl, hs, h⟩ ⟨rfl, rfl, trivial⟩ Tryd.func28 rfl Tryd.ntmps28 rfl fun ac hS => ?_
 refine wp_seq ?_
 refine rgl0 hS [] [0, 1, 4] (Lo := [(0, eqS (vP b 0)), (1, eqS (vI k)), (4, eqS vf)]) (by kernel_rfl) (by kernel_rfl) trivial fun ac g w hS => ?_
 refine then_n ?_
 refine wp_seq ?_
 refine rgl0 hS [e0 1 [(5, eqS (vP b 0))] (eqS vf), e0 5 [(8, eqS vt), (9, eqS (vI k))] (eqS vt), e0 12 [(12, eqS vt), (16, eqS (vP b 20))] (eqS q.vy), e0 13 [(12, eqS vt), (17, eqS q.vy)] (eqS (vI r.keys.length)), e0 14 [(12, eqS vt), (13, eqS (vI k)), (18, eqS (vI r.keys.length))] (eqS vf)] [0, 1, 4] (Lo := [(0, eqS (vP b 0)), (1, eqS (vI k)), (4, eqS vf)]) (by kernel_rfl) (by kernel_rfl) ⟨⟨q_st rfl fun ξ g w hB hH => ok_call c58 rfl (none_ok w hB.wf.lt ⟨_, rfl, hB.run.2.2⟩ hB.run.2.2.rs.sub h0), trivial⟩, ⟨q_cmp rfl rfl rfl (congrArg some (decide_eq_true (by omega))), trivial⟩, ⟨q_ldK (hasOQ _ _ _) rfl rfl rfl Tryd.underlying53 rfl rfl, trivial⟩, ⟨q_lenOw (e := 58) (m := 6) (hasOQ _ _ _) rfl rfl rfl Tryd.underlying53 (fun _ _ h => ⟨_, h.ky⟩), trivial⟩, ⟨q_cmp rfl rfl rfl (congrArg some (decide_eq_false (by omega))), trivial⟩, trivial⟩ fun ac g w hS => ?_
 refine then_n ?_
 refine wp_ret ?_
 exact body_ret hS.f.frm (results1 Tryd.results28 (RV.tmp hS.f.frm rfl)) ⟨hS.gr0, rfl⟩
set_option maxRecDepth 100000 in
set_option maxHeartbeats 4000000 in
theorem cl_c {b : Nat} {r : Rn} {F X : List Nat} {k : Nat} (w0 : World) (hX : ∀ x, x ∈ X → x < w0.heap.size) (hr : RunIs b r F X w0) (hs : ∀ x, x ∈ F → x ∈ X) (h0 : 0 < r.eps.length) (hk2 : k < r.keys.length) (hb : r.behind[k]? = some true) : Calls Tryd.prog 28 (List.toArray [vp b, vI k]) w0 (Ret fun v w' => Gr w0 w' ∧ v = .bool false) := by
 obtain ⟨q, rfl, h⟩ := hr
 refine enterR (F := []) (ρ := runOQ b r q) [eqS (vP b 0), eqS (vI k)] hX ⟨rfl, hs, h⟩ ⟨rfl, rfl, trivial⟩ Tryd.func28 rfl Tryd.ntmps28 rfl fun ac hS => ?_
 refine wp_seq ?_
 refine rgl0 hS [] [0, 1, 4] (Lo := [(0, eqS (vP b 0)), (1, eqS (vI k)), (4, eqS vf)]) (by kernel_rfl) (by kernel_rfl) trivial fun ac g w hS => ?_
 refine then_n ?_
 refine wp_seq ?_
 refine rgl0 hS [e0 1 [(5, eqS (vP b 0))] (eqS vf), e0 5 [(8, eqS vt), (9, eqS (vI k))] (eqS vt), e0 12 [(12, eqS vt), (16, eqS (vP b 20))] (eqS q.vy), e0 13 [(12, eqS vt), (17, eqS q.vy)] (eqS (vI r.keys.length)), e0 14 [(12, eqS vt), (13, eqS (vI k)), (18, eqS (vI r.keys.length))] (eqS vt), e0 20 [(21, eqS vt), (24, eqS (vP b 21))] (eqS q.vb), e0 22 [(21, eqS vt), (25, eqS q.vb), (26, eqS (vI k))] (eqS (vP (bkV q.vb) (k * 1))), e0 23 [(21, eqS vt), (27, eqS (vP (bkV q.vb) (k * 1)))] (eqS vt)] [0, 1, 4] (Lo := [(0, eqS (vP b 0)), (1, eqS (vI k)), (4, eqS vf)]) (by kernel_rfl) (by kernel_rfl) ⟨⟨q_st rfl fun ξ g w hB hH => ok_call c58 rfl (none_ok w hB.wf.lt ⟨_, rfl, hB.run.2.2⟩ hB.run.2.2.rs.sub h0), trivial⟩, ⟨q_cmp rfl rfl rfl (congrArg some (decide_eq_true (by omega))), trivial⟩, ⟨q_ldK (hasOQ _ _ _) rfl rfl rfl Tryd.underlying53 rfl rfl, trivial⟩, ⟨q_lenOw (e := 58) (m := 6) (hasOQ _ _ _) rfl rfl rfl Tryd.underlying53 (fun _ _ h => ⟨_, h.ky⟩), trivial⟩, ⟨q_cmp rfl rfl rfl (congrArg some (decide_eq_true (by omega))), trivial⟩, ⟨q_ldK (hasOQ _ _ _) rfl rfl rfl Tryd.underlying36 rfl rfl, trivial⟩, ⟨q_ixOw (m := 1) (hasOQ _ _ _) rfl rfl rfl rfl Tryd.underlying36 sz4 (fun _ _ h => ⟨_, h.bh⟩) (lt_of_at hb), trivial⟩, ⟨q_ldBh (hasOQ _ _ _) rfl rfl rfl hb, trivial⟩, trivial⟩ fun ac g w hS => ?_
 refine then_n ?_
 refine wp_ret ?_
 exact body_ret hS.f.frm (results1 Tryd.results28 (RV.tmp hS.f.frm rfl)) ⟨hS.gr0, rfl⟩
set_option maxRecDepth 100000 in
set_option maxHeartbeats 4000000 in
theorem cl_d {b : Nat} {r : Rn} {F X : List Nat} {k : Nat} {e : Ky} (w0 : World) (hX : ∀ x, x ∈ X → x < w0.heap.size) (hr : RunIs b r F X w0) (hs : ∀ x, x ∈ F → x ∈ X) (h0 : 0 < r.eps.length) (hm : ∀ k, 0 ≤ itl r.rvd k ∧ itl r.rvd k ≤ 700001) (hd : ∀ e ∈ r.eps, e.dhs.length ≤ 1000000) (hl : r.eps.length ≤ 1000000) (hk2 : k < r.keys.length) (hb : r.behind[k]? = some false) (he : r.keys[k]? = some e) (hep : e.ep < r.eps.length) : Calls Tryd.prog 28 (List.toArray [vp b, vI k]) w0 (Ret fun v w' => Gr w0 w' ∧ v = .bool (!r.wholeB e.ep)) := by
 obtain ⟨q, rfl, h⟩ := hr
 refine enterR (F := []) (ρ := runOQ b r q) [eqS (vP b 0), eqS (vI k)] hX ⟨rfl, hs, h⟩ ⟨rfl, rfl, trivial⟩ Tryd.func28 rfl Tryd.ntmps28 rfl fun ac hS => ?_
 refine wp_seq ?_
 refine rgl0 hS [] [0, 1, 4] (Lo := [(0, eqS (vP b 0)), (1, eqS (vI k)), (4, eqS vf)]) (by kernel_rfl) (by kernel_rfl) trivial fun ac g w hS => ?_
 refine then_n ?_
 refine wp_seq ?_
 refine rgl0 hS [e0 1 [(5, eqS (vP b 0))] (eqS vf), e0 5 [(8, eqS vt), (9, eqS (vI k))] (eqS vt), e0 12 [(12, eqS vt), (16, eqS (vP b 20))] (eqS q.vy), e0 13 [(12, eqS vt), (17, eqS q.vy)] (eqS (vI r.keys.length)), e0 14 [(12, eqS vt), (13, eqS (vI k)), (18, eqS (vI r.keys.length))] (eqS vt), e0 20 [(21, eqS vt), (24, eqS (vP b 21))] (eqS q.vb), e0 22 [(21, eqS vt), (25, eqS q.vb), (26, eqS (vI k))] (eqS (vP (bkV q.vb) (k * 1))), e0 23 [(21, eqS vt), (27, eqS (vP (bkV q.vb) (k * 1)))] (eqS vf), e0 31 [(31, eqS vt), (35, eqS (vP b 20))] (eqS q.vy), e0 33 [(31, eqS vt), (36, eqS q.vy), (37, eqS (vI k))] (eqS (vP (bkV q.vy) (k * 6))), e0 35 [(31, eqS vt), (39, eqS (vP (bkV q.vy) (k * 6 + 3)))] (eqS (vI (e.ep : Nat))), e0 36 [(31, eqS vt), (32, eqS (vP b 0)), (40, eqS (vI (e.ep : Nat)))] (eqS (vB (r.wholeB e.ep)))] [0, 1, 4] (Lo := [(0, eqS (vP b 0)), (1, eqS (vI k)), (4, eqS (vB (!(r.wholeB e.ep))))]) (by kernel_rfl) (by kernel_rfl) ⟨⟨q_st rfl fun ξ g w hB hH => ok_call c58 rfl (none_ok w hB.wf.lt ⟨_, rfl, hB.run.2.2⟩ hB.run.2.2.rs.sub h0), trivial⟩, ⟨q_cmp rfl rfl rfl (congrArg some (decide_eq_true (by omega))), trivial⟩, ⟨q_ldK (hasOQ _ _ _) rfl rfl rfl Tryd.underlying53 rfl rfl, trivial⟩, ⟨q_lenOw (e := 58) (m := 6) (hasOQ _ _ _) rfl rfl rfl Tryd.underlying53 (fun _ _ h => ⟨_, h.ky⟩), trivial⟩, ⟨q_cmp rfl rfl rfl (congrArg some (decide_eq_true (by omega))), trivial⟩, ⟨q_ldK (hasOQ _ _ _) rfl rfl rfl Tryd.underlying36 rfl rfl, trivial⟩, ⟨q_ixOw (m := 1) (hasOQ _ _ _) rfl rfl rfl rfl Tryd.underlying36 sz4 (fun _ _ h => ⟨_, h.bh⟩) (lt_of_at hb), trivial⟩, ⟨q_ldBh (hasOQ _ _ _) rfl rfl rfl hb, trivial⟩, ⟨q_ldK (hasOQ _ _ _) rfl rfl rfl Tryd.underlying53 rfl rfl, trivial⟩, ⟨q_ixOw (m := 6) (hasOQ _ _ _) rfl rfl rfl rfl Tryd.underlying53 sz58 (fun _ _ h => ⟨_, h.ky⟩) hk2, trivial⟩, ⟨q_ldKyE (hasOQ _ _ _) rfl rfl rfl he, trivial⟩, ⟨q_st rfl fun ξ g w hB hH => ok_call c62 rfl (whole_ok hm hd hl e.ep hep _ _ w hB.wf.lt ⟨_, rfl, hB.run.2.2⟩ hB.run.2.2.rs.sub), trivial⟩, trivial⟩ fun ac g w hS => ?_
 refine then_n ?_
 refine wp_ret ?_
 exact body_ret hS.f.frm (results1 Tryd.results28 (RV.tmp hS.f.frm rfl)) ⟨hS.gr0, rfl⟩
def Rn.cleanZ (r : Rn) (k : Int) : Bool := if 0 ≤ k ∧ k < r.keys.length then r.cleanB k.toNat else false
theorem clean_ok {b : Nat} {r : Rn} {F X : List Nat} {k : Int} (w0 : World) (hX : ∀ x, x ∈ X → x < w0.heap.size) (hr : RunIs b r F X w0) (hs : ∀ x, x ∈ F → x ∈ X) (h0 : 0 < r.eps.length) (hm : ∀ k, 0 ≤ itl r.rvd k ∧ itl r.rvd k ≤ 700001) (hd : ∀ e ∈ r.eps, e.dhs.length ≤ 1000000) (hl : r.eps.length ≤ 1000000) (hbl : r.behind.length = r.keys.length) (hke : ∀ e ∈ r.keys, e.ep < r.eps.length) : Calls Tryd.prog 28 (List.toArray [vp b, vI k]) w0 (Ret fun v w' => Gr w0 w' ∧ v = .bool (r.cleanZ k)) := by
 by_cases h1 : k < 0
 ·exact ret_b (cl_a w0 hX hr hs h0 h1) (by simp [Rn.cleanZ]; omega)
 ·by_cases h2 : (r.keys.length : Int) ≤ k
  ·exact ret_b (cl_b w0 hX hr hs h0 (by omega) h2) (by simp [Rn.cleanZ]; omega)
  ·obtain ⟨j, rfl⟩ := Int.eq_ofNat_of_zero_le (show 0 ≤ k by omega)
   have hj : j < r.keys.length := by omega
   have he := List.getElem?_eq_getElem hj
   have hb := List.getElem?_eq_getElem (show j < r.behind.length by omega)
   have e1 : r.cleanZ (j : Int) = r.cleanB j := by unfold Rn.cleanZ; rw [if_pos ⟨by omega, by omega⟩]; simp
   cases hbb : (r.behind[j]'(by omega)) with
   | true => rw [hbb] at hb; exact ret_b (cl_c w0 hX hr hs h0 hj hb) (by rw [e1]; simp [Rn.cleanB, List.getD_eq_getElem?_getD, hb])
   | false => rw [hbb] at hb; exact ret_b (cl_d w0 hX hr hs h0 hm hd hl hj hb he (hke _ (List.getElem_mem hj))) (by rw [e1]; simp [Rn.cleanB, List.getD_eq_getElem?_getD, hb, he])
end Go.Mi.Term
