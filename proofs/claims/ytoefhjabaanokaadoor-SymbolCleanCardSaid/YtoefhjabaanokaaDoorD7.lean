/- Texts that belong together: H25, Y8, H26, Y9, Y10, Y11. General lemmas and walks; no conditions. -/
import Derived.Test.YtoefhjabaanokaaDoorD5
set_option linter.unusedSimpArgs false
set_option linter.unusedVariables false
set_option linter.unnecessarySimpa false
namespace Go.Mi.Term
open Go.Mi Go.Proofs Go.RowKit
def Still (g : Gh) (w : World) (c : Nat) (o : Obj) : Prop := w.heap[c]? = some o ∧ c ∉ g.F ++ g.M
theorem Still.mv {g g' : Gh} {w w' : World} {c : Nat} {o : Obj} (h : Still g w c o) (k : TT g w g' w') : Still g' w' c o := by
 have hl := da h.1
 refine ⟨by rw [k.ch.blk c hl h.2]; exact h.1, fun hm => ?_⟩
 rcases k.sub c hm with h1 | h1
 ·exact h.2 h1
 ·omega
abbrev ri (b : Nat) : Sp TT := .pr ⟨fun g w v => ∃ c, v = vp c ∧ Still g w c (.cells #[vp b] 42 (0, 0)), fun ⟨c, h1, h2⟩ k => ⟨c, h1, h2.mv k⟩⟩
abbrev fnS (b : Nat) : Sp TT := .pr ⟨fun g w v => ∃ c, v = .func (.func 102) #[] #[vp c] ∧ Still g w c (.cells #[vp b] 42 (0, 0)), fun ⟨c, h1, h2⟩ k => ⟨c, h1, h2.mv k⟩⟩
abbrev dhS (l : List (Nat × Nat)) : Sp TT := .pr ⟨fun g w v => SlA w g.X v l.length (dhL l), fun h k => h.mv k.ch (Gh.sub _) k.X⟩
abbrev prS (p : Nat × Nat) : Sp TT := .pr ⟨fun g w v => ∃ b o, v = vP b o ∧ b ∉ g.X ∧ b < w.heap.size ∧ At w b o [vI p.1, vI p.2], fun ⟨b, o, h1, h2, h3, h4⟩ k => ⟨b, o, h1, fun hm => by
  rcases k.X b hm with h6 | h6
  ·exact h2 h6
  ·omega, Nat.lt_of_lt_of_le h3 k.ch.size, h4.mv k.ch fun hm => h2 (Gh.sub _ b hm)⟩⟩
theorem qQ : ∀ {l : List (Nat × Nat)} {j : Nat} {p : Nat × Nat}, l[j]? = some p → ((dhL l).drop (j * 2)).take [vI p.1, vI p.2].length = [vI p.1, vI p.2]
 | [], j, p, h => by simp at h
 | c :: l, 0, p, h => by simp at h; subst h; simp [dhL]
 | c :: l, j + 1, p, h => by
  have := qQ (l := l) (j := j) (p := p) (by simpa using h)
  rw [Nat.add_mul, Nat.one_mul, show j * 2 + 2 = (j * 2 + 1) + 1 by omega]
  simpa [dhL] using this
section
set_option maxRecDepth 100000
variable {ops : List Oper} {n : Nat} {B : Nat → BX XX} {i p b k o : Nat} {L : TL TT} {ph : List Nat} {ρ : RX} {ns : List (Nat × Sp TT)} {ds : Option Tmp} {ty : TypeId} {pos : String} {af : Array Edge} {gu : Option (Nat × Bool)} {t : TypeId} {r r' : Rn} {q q' : Rv} {v : Value} {x y z : Operand} {l : List (Nat × Nat)}
theorem n7 (hop : ops.getD i default = ⟨ds, .load 42 x, t, pos, af, gu⟩) (hx : spO L x = some (ri b)) : EOb Tryd.prog n ops XX B ⟨i, L, eqS (vp b), ph, false⟩ p := bL fun ξ g w hB hH => by
 rw [hop]
 obtain ⟨vx, h1, c, rfl, h2⟩ := bI hx hH
 exact ⟨_, rfl, bF u42 rfl h1 (by rw [cL h2.1]; rfl)⟩
theorem jH (hB0 : B p = stB ρ ns) (hB1 : B (p + 1) = stB ρ (ns ++ [(ty, agS (cxV [v]))])) (hop : ops.getD i default = ⟨ds, .box ty x, t, pos, af, gu⟩) (hx : spO L x = some (eqS v)) (hv : v.cells = #[v]) (hk : ns.length = k) : EOb Tryd.prog n ops XX B ⟨i, L, nwS k, ph, true⟩ p := by
 subst hk
 intro ξ g w hB hH
 rw [hB0] at hB
 have hB : StB ρ ns g w := hB
 show Ok1 Tryd.prog (ops.getD i default) _ _ _ _
 rw [hop]
 have h1 := bJ (ξ := ξ) hx
 refine (dI h1).mono ?_
 rintro v' w' ⟨b, rfl, hn⟩
 rw [hv] at hn
 obtain ⟨h1, h2⟩ := hB.new hn (sp := agS (cxV [v])) ⟨[v], rfl, rfl⟩
 refine ⟨_, ⟨h1, ?_⟩, ?_⟩
 ·show (B (p + 1)).P _ _
  rw [hB1]; exact h2
 ·show (g.N ++ [vp b])[ns.length]? = some (vp b)
  rw [← hB.len]; simp
theorem gC {d : TypeDesc} (hop : ops.getD i default = ⟨ds, .load ty x, t, pos, af, gu⟩) (hB0 : B p = stB ρ ns) (hx : spO L x = some (nwS k)) (hk : ns[k]? = some (ty, agS (cxV [v]))) (hT : ty ≠ 0) (ht : Tryd.prog.underlying ty = some d) (hf : TypeDesc.flat d = true) : EOb Tryd.prog n ops XX B ⟨i, L, eqS v, ph, false⟩ p := bL fun ξ g w hB hH => by
 rw [hB0] at hB
 have hB : StB ρ ns g w := hB
 rw [hop]
 obtain ⟨vx, h1, h2⟩ := bI hx hH
 have h2 : g.N[k]? = some vx := h2
 obtain ⟨b, c, h5, _, h7, vs, e, h9⟩ := hB.cell k _ hk hT
 rw [h5] at h2
 cases h2
 obtain rfl : vs = [v] := h9
 cases e
 exact ⟨v, rfl, bF ht hf h1 (by rw [cL h7]; rfl)⟩
theorem ua (hop : ops.getD i default = ⟨ds, .call ⟨.builtin .len, #[x], #[97]⟩, t, pos, af, gu⟩) (hx : spO L x = some (dhS l)) : EOb Tryd.prog n ops XX B ⟨i, L, eI l.length, ph, false⟩ p := bL fun ξ g w hB hH => by
 rw [hop]
 obtain ⟨vx, h1, h2⟩ := bI hx hH
 refine ⟨_, rfl, ?_⟩
 rcases h2 with ⟨rfl | ⟨_, _, rfl⟩, h3, _⟩ | ⟨_, _, _, rfl, _⟩
 ·rw [h3]; exact bT u97 h1
 ·rw [h3]; exact bT u97 h1
 ·exact bT u97 h1
theorem v8 {j : Nat} {pp : Nat × Nat} (hop : ops.getD i default = ⟨ds, .indexAddr 97 x y, t, pos, af, gu⟩) (hx : spO L x = some (dhS l)) (hy : spO L y = some (eI j)) (hj : l[j]? = some pp) : EOb Tryd.prog n ops XX B ⟨i, L, prS pp, ph, false⟩ p := bL fun ξ g w hB hH => by
 rw [hop]
 have hjl : j < l.length := by
  rcases Nat.lt_or_ge j l.length with h' | h'
  ·exact h'
  ·rw [List.getElem?_eq_none h'] at hj; cases hj
 obtain ⟨vx, h1, h2⟩ := bI hx hH
 rcases h2 with ⟨_, h3, _⟩ | ⟨b, o, cap, rfl, h3, h4, h5⟩
 ·omega
 ·exact ⟨_, ⟨b, _, rfl, h3, h4, h5.part (j * 2) (qQ hj)⟩, d6 u97 iO h1 (bJ hy) rfl hjl⟩
theorem v6 {pp : Nat × Nat} (hop : ops.getD i default = ⟨ds, .load 56 x, t, pos, af, gu⟩) (hx : spO L x = some (prS pp)) : EOb Tryd.prog n ops XX B ⟨i, L, agS (cxV [vI pp.1, vI pp.2]), ph, false⟩ p := bL fun ξ g w hB hH => by
 rw [hop]
 obtain ⟨vx, h1, b, o, rfl, h3, h4, h5⟩ := bI hx hH
 exact ⟨_, ⟨_, rfl, rfl⟩, cj u56 rfl iO h1 h5 rfl⟩
theorem kO {j : Nat} {e : Ep} (hr : f6 ρ b r q) (hB0 : B p = stB ρ ns) (hop : ops.getD i default = ⟨ds, .load 99 x, t, pos, af, gu⟩) (hx : spO L x = some (eP (bkV q.ve) (j * 3))) (hj : r.eps[j]? = some e) : EOb Tryd.prog n ops XX B ⟨i, L, agS (cxE e), ph, false⟩ p := bL fun ξ g w hB hH => by
 rw [hB0] at hB
 have hB : StB ρ ns g w := hB
 rw [hop]
 obtain ⟨sl, h1, h2, h3, h4⟩ := tA (hr g w hB.run).rs hj
 exact ⟨_, ⟨[sl, .bool e.kem, .bool e.rev], rfl, sl, rfl, h4⟩, cj u99 rfl tL (bJ hx) (fun j' u hu => by
  match j', hu with
  | 0, hu => cases hu; exact h1
  | 1, hu => cases hu; exact h2
  | 2, hu => cases hu; exact h3
  | j' + 3, hu => simp at hu) rfl⟩
theorem uc {e : Ep} (hop : ops.getD i default = ⟨ds, .load 4 x, t, pos, af, gu⟩) (hB0 : B p = stB ρ ns) (hx : spO L x = some (nwO k 1)) (hk : ns[k]? = some (99, agS (cxE e))) : EOb Tryd.prog n ops XX B ⟨i, L, eqS (.bool e.kem), ph, false⟩ p := bL fun ξ g w hB hH => by
 rw [hB0] at hB
 have hB : StB ρ ns g w := hB
 rw [hop]
 obtain ⟨vx, h1, b', h2, rfl⟩ := bI hx hH
 obtain ⟨b, c, h5, _, h7, vs, e1, sl, rfl, h9⟩ := hB.cell k _ hk (show (99 : Nat) ≠ 0 by decide)
 rw [h5] at h2
 cases h2
 cases e1
 exact ⟨_, rfl, bF u4 rfl h1 (by rw [cL h7]; rfl)⟩
theorem pQ {e : Ep} (hop : ops.getD i default = ⟨ds, .load 97 x, t, pos, af, gu⟩) (hB0 : B p = stB ρ ns) (hx : spO L x = some (nwO k 0)) (hk : ns[k]? = some (99, agS (cxE e))) : EOb Tryd.prog n ops XX B ⟨i, L, dhS e.dhs, ph, false⟩ p := bL fun ξ g w hB hH => by
 rw [hB0] at hB
 have hB : StB ρ ns g w := hB
 rw [hop]
 obtain ⟨vx, h1, b', h2, rfl⟩ := bI hx hH
 obtain ⟨b, c, h5, _, h7, vs, e1, sl, rfl, h9⟩ := hB.cell k _ hk (show (99 : Nat) ≠ 0 by decide)
 rw [h5] at h2
 cases h2
 cases e1
 exact ⟨sl, h9, bF u97 rfl h1 (by rw [cL h7]; rfl)⟩
end
end Go.Mi.Term
namespace Go.Mi.Term
open Go.Mi Go.Proofs Go.RowKit
set_option maxRecDepth 100000 in
set_option maxHeartbeats 4000000 in
theorem wB {b : Nat} {r : Rn} {F X : List Nat} {p : Nat × Nat} {c : Nat} (w0 : World) (hX : ∀ x, x ∈ X → x < w0.heap.size) (hr : RunIs b r F X w0) (hs : ∀ x, x ∈ F → x ∈ X) (hm : ∀ k, 0 ≤ itl r.rvd k ∧ itl r.rvd k ≤ 700001) (hc : w0.heap[c]? = some (.cells #[vp b] 42 (0, 0))) : Calls Tryd.prog 102 (List.toArray [.agg #[vI p.1, vI p.2], vp c]) w0 (Ret fun v w' => Gr w0 w' ∧ v = .bool (decide (itl r.rvd ((p.1 : Nat) : Int) + itl r.rvd ((p.2 : Nat) : Int) = 0))) := by
 obtain ⟨q, rfl, h⟩ := hr
 refine b7 (F := []) (ρ := cF b r q) [agS (cxV [vI p.1, vI p.2]), ri b] hX ⟨rfl, hs, h⟩ ⟨⟨_, rfl, rfl⟩, ⟨_, rfl, hc, by simp⟩, trivial⟩ Tryd.func102 rfl Tryd.ntmps102 rfl fun ac hS => ?_
 refine wp_seq ?_
 refine rx [e1 0 [(0, agS (cxV [vI p.1, vI p.2]))] (nwS 0)] [1, 2, 3] (Bl [stB (cF b r q) [], stB (cF b r q) [(56, agS (cxV [vI p.1, vI p.2]))]]) 1 [(1, ri b), (2, nwS 0), (3, eqS vf)] ⟨⟨cO rfl rfl rfl rfl (oH _ _).sized rfl, trivial⟩, trivial⟩ hS rfl fun ac g w hS => ?_
 refine wp_seq ?_
 refine ry mo hS [e0 0 [(1, ri b)] (eP b 0), e0 3 [(6, eP b 19)] (eqS (.map (some q.bm))), e0 4 [(2, nwS 0)] (nwO 0 0), e0 5 [(8, nwO 0 0)] (eI p.1), e0 6 [(7, eqS (.map (some q.bm))), (9, eI p.1)] (eI (itl r.rvd ((p.1 : Nat) : Int))), e0 7 [(1, ri b)] (eP b 0), e0 10 [(13, eP b 19)] (eqS (.map (some q.bm))), e0 11 [(2, nwS 0)] (nwO 0 1), e0 12 [(15, nwO 0 1)] (eI p.2), e0 13 [(14, eqS (.map (some q.bm))), (16, eI p.2)] (eI (itl r.rvd ((p.2 : Nat) : Int))), e0 14 [(10, eI (itl r.rvd ((p.1 : Nat) : Int))), (17, eI (itl r.rvd ((p.2 : Nat) : Int)))] (eI (itl r.rvd ((p.1 : Nat) : Int) + itl r.rvd ((p.2 : Nat) : Int))), e0 15 [(18, eI (itl r.rvd ((p.1 : Nat) : Int) + itl r.rvd ((p.2 : Nat) : Int)))] (eB (decide (itl r.rvd ((p.1 : Nat) : Int) + itl r.rvd ((p.2 : Nat) : Int) = 0)))] [3] [(3, eB (decide (itl r.rvd ((p.1 : Nat) : Int) + itl r.rvd ((p.2 : Nat) : Int) = 0)))] ⟨⟨n7 rfl rfl, trivial⟩, ⟨cM (cA _ _ _) rfl rfl rfl u89 rfl rfl, trivial⟩, ⟨dY (j := 0) rfl rfl rfl rfl (by decide) rfl (by decide), trivial⟩, ⟨b6 (k := 0) (j := 0) rfl rfl rfl rfl (by decide) Tryd.underlying3 rfl rfl, trivial⟩, ⟨kN (cA _ _ _) rfl rfl rfl rfl, trivial⟩, ⟨n7 rfl rfl, trivial⟩, ⟨cM (cA _ _ _) rfl rfl rfl u89 rfl rfl, trivial⟩, ⟨dY (j := 1) rfl rfl rfl rfl (by decide) rfl (by decide), trivial⟩, ⟨b6 (k := 0) (j := 1) rfl rfl rfl rfl (by decide) Tryd.underlying3 rfl rfl, trivial⟩, ⟨kN (cA _ _ _) rfl rfl rfl rfl, trivial⟩, ⟨bL fun ξ g w hB hH => ⟨_, rfl, cy rfl rfl (bO (by have := hm p.1; have := hm p.2; omega) (by have := hm p.1; have := hm p.2; omega))⟩, trivial⟩, ⟨bS rfl rfl rfl rfl, trivial⟩, trivial⟩ fun ac g w hS => ?_
 refine wp_ret ?_
 exact bv hS.f.frm (bw Tryd.results102 (RV.tmp hS.f.frm rfl)) ⟨hS.gr0, rfl⟩
end Go.Mi.Term
namespace Go.Mi.Term
open Go.Mi Go.Proofs Go.RowKit
def Rn.hitB (r : Rn) (p : Nat × Nat) : Bool := decide (itl r.rvd ((p.1 : Nat) : Int) + itl r.rvd ((p.2 : Nat) : Int) = 0)
def FnIs (w : World) (b : Nat) (v : Value) : Prop := ∃ c, v = .func (.func 102) #[] #[vp c] ∧ w.heap[c]? = some (.cells #[vp b] 42 (0, 0))
theorem FnIs.hold {w : World} {b : Nat} {v : Value} {X : List Nat} (h : FnIs w b v) : (fnS b).hold ⟨[], [], X, []⟩ w v := by
 obtain ⟨c, h1, h2⟩ := h
 exact ⟨c, h1, h2, by simp⟩
theorem wH {g : Gh} {w : World} {b : Nat} {v : Value} (h : (fnS b).hold g w v) : FnIs w b v := by
 obtain ⟨c, h1, h2, _⟩ := h
 exact ⟨c, h1, h2⟩
abbrev ixS (c : Bool) : Sp TT := .pr ⟨fun _ _ v => ∃ i : Int, v = vI i ∧ decide (0 ≤ i) = c, fun h _ => h⟩
section
set_option maxRecDepth 100000
variable {ops : List Oper} {n : Nat} {B : Nat → BX XX} {i p b k o : Nat} {L : TL TT} {ph : List Nat} {ρ : RX} {ns : List (Nat × Sp TT)} {ds : Option Tmp} {ty : TypeId} {pos : String} {af : Array Edge} {gu : Option (Nat × Bool)} {t : TypeId} {r r' : Rn} {q q' : Rv} {v : Value} {x y z : Operand} {l : List (Nat × Nat)}
theorem sa {pp : Nat × Nat} (hm : ∀ k, 0 ≤ itl r.rvd k ∧ itl r.rvd k ≤ 700001) (hB0 : B p = stB (cF b r q) ns) (hop : ops.getD i default = ⟨ds, .call ⟨.value x, #[y], #[56]⟩, t, pos, af, gu⟩) (hx : spO L x = some (fnS b)) (hy : spO L y = some (agS (cxV [vI pp.1, vI pp.2]))) : EOb Tryd.prog n ops XX B ⟨i, L, eqS (.bool (r.hitB pp)), ph, false⟩ p := eM fun ξ g w hB hH => by
 rw [hB0] at hB
 have hB : StB (cF b r q) ns g w := hB
 rw [hop]
 obtain ⟨vx, h1, c, rfl, h2, _⟩ := bI hx hH
 obtain ⟨vy, h3, vs, rfl, h4⟩ := bI hy hH
 obtain rfl : vs = [vI pp.1, vI pp.2] := h4
 have h5 := wB (p := pp) w hB.wf.lt ⟨_, rfl, hB.run.2.2⟩ hB.run.2.2.rs.sub hm h2
 refine gX (vs := [.agg #[vI pp.1, vI pp.2]]) h1 xS (by simp only [evs, h3]) ?_
 have e : (#[] ++ [Value.agg #[vI pp.1, vI pp.2]].toArray) ++ #[vp c] = [Value.agg #[vI pp.1, vI pp.2], vp c].toArray := by simp
 rw [e]
 exact h5
abbrev fnO (k : Nat) : Sp TT := .pr ⟨fun g _ v => ∃ c, g.N[k]? = some (vp c) ∧ v = .func (.func 102) #[] #[vp c], fun ⟨c, h1, h2⟩ h => ⟨c, ir h1 h, h2⟩⟩
theorem pO (hop : ops.getD i default = ⟨ds, .makeFunc (.func 102) #[] #[x], t, pos, af, gu⟩) (hB0 : B p = stB ρ ns) (hx : spO L x = some (nwS k)) (hk : ns[k]? = some (42, agS (cxV [v]))) : EOb Tryd.prog n ops XX B ⟨i, L, fnO k, ph, false⟩ p := bL fun ξ g w hB hH => by
 rw [hB0] at hB
 have hB : StB ρ ns g w := hB
 rw [hop]
 obtain ⟨vx, h1, h2⟩ := bI hx hH
 obtain ⟨c, _, h5, _⟩ := hB.cell k _ hk (show (42 : Nat) ≠ 0 by decide)
 have h2 : g.N[k]? = some vx := h2
 rw [h5] at h2
 cases h2
 exact ⟨_, ⟨c, h5, rfl⟩, gI (us := []) (vs := [vp c]) rfl (by simp only [evs, h1])⟩
theorem oq {g : Gh} {w : World} (hB : StB ρ ns g w) (hk : ns[k]? = some (42, agS (cxV [vp b]))) (h : (fnO k).hold g w v) : FnIs w b v := by
 obtain ⟨c, h1, h2⟩ := h
 obtain ⟨c', cs, h5, _, h7, vs, e, h9⟩ := hB.cell k _ hk (show (42 : Nat) ≠ 0 by decide)
 rw [h5] at h1
 cases h1
 obtain rfl : vs = [vp b] := h9
 cases e
 exact ⟨_, h2, h7⟩
theorem ui {c : Bool} {t' : TypeId} (hop : ops.getD i default = ⟨ds, .binOp .geq 3 x y t', t, pos, af, gu⟩) (hx : spO L x = some (ixS c)) (hy : spO L y = some (eI 0)) : EOb Tryd.prog n ops XX B ⟨i, L, eqS (.bool c), ph, false⟩ p := bL fun ξ g w hB hH => by
 rw [hop]
 obtain ⟨vx, h1, u, rfl, h2⟩ := bI hx hH
 exact ⟨_, by rw [← h2]; rfl, kz h1 (bJ hy)⟩
theorem io {T e m l j : Nat} (hr : f6 ρ b r q) (hB0 : B p = stB ρ ns) (hop : ops.getD i default = ⟨ds, .indexAddr T x y, t, pos, af, gu⟩) (hx : spO L x = some (eqS v)) (hy : spO L y = some (eI j)) (ht : Tryd.prog.underlying T = some (.slice e)) (hs : (Tryd.prog.info? e).map (·.size) = some m) (hv : ∀ w X, RunRs w X b r q → ∃ xs, Own w 0 e m v l xs) (hj : j < l) : EOb Tryd.prog n ops XX B ⟨i, L, eP (bkV v) (j * m), ph, false⟩ p := bL fun ξ g w hB hH => by
 rw [hB0] at hB
 have hB : StB ρ ns g w := hB
 rw [hop]
 obtain ⟨xs, h⟩ := hv w _ (hr g w hB.run).rs
 obtain ⟨cap, e, _⟩ := gD h (by omega)
 have hx := bJ (ξ := ξ) hx
 rw [e] at hx
 refine ⟨_, rfl, ?_⟩
 have := d6 (w := w) (n := n) (ds := ds) (ty := t) (pos := pos) (af := af) (gu := gu) ht hs hx (bJ hy) rfl hj
 simpa using this
theorem pR {j : Nat} {c : Bool} (hr : f6 ρ b r q) (hB0 : B p = stB ρ ns) (hop : ops.getD i default = ⟨ds, .load 4 x, t, pos, af, gu⟩) (hx : spO L x = some (eP (bkV q.vb) (j * 1))) (hj : r.behind[j]? = some c) : EOb Tryd.prog n ops XX B ⟨i, L, eqS (.bool c), ph, false⟩ p := bL fun ξ g w hB hH => by
 rw [hB0] at hB
 have hB : StB ρ ns g w := hB
 rw [hop]
 have hl : 0 < r.behind.length := by
  rcases Nat.eq_zero_or_pos r.behind.length with h' | h'
  ·rw [List.eq_nil_of_length_eq_zero h'] at hj; simp at hj
  ·exact h'
 obtain ⟨cap, _, hat⟩ := gD (hr g w hB.run).rs.bh hl
 exact ⟨_, rfl, bF u4 rfl (bJ hx) (by have := hat j (.bool c) (by simp [hj]); simpa using this)⟩
theorem qz {w : World} {X : List Nat} {j : Nat} {e : Ky} (h : RunRs w X b r q) (hj : r.keys[j]? = some e) : ∃ ts, IsT w X e.t ts ∧ At w (bkV q.vy) (j * 6) (ts ++ [vI e.ep, vI e.who, vI e.ix]) := by
 obtain ⟨x1, u, x2, e1, e2, ⟨ts, rfl, h3⟩, _⟩ := AllIs.at KyIs.len h.yt hj
 have hl : 0 < r.keys.length := by
  rcases Nat.eq_zero_or_pos r.keys.length with h' | h'
  ·rw [List.eq_nil_of_length_eq_zero h'] at hj; simp at hj
  ·exact h'
 obtain ⟨cap, _, hat⟩ := gD h.ky hl
 refine ⟨ts, h3, fun k v hv => ?_⟩
 have hk : k < (ts ++ [vI e.ep, vI e.who, vI e.ix]).length := by
  rcases Nat.lt_or_ge k (ts ++ [vI e.ep, vI e.who, vI e.ix]).length with h' | h'
  ·exact h'
  ·rw [List.getElem?_eq_none h'] at hv; cases hv
 have := hat (j * 6 + k) v (by rw [e1, List.append_assoc, List.getElem?_append_right (by omega), e2, Nat.add_sub_cancel_left, List.getElem?_append_left hk]; exact hv)
 simpa using this
theorem r5 {j : Nat} {e : Ky} (hr : f6 ρ b r q) (hB0 : B p = stB ρ ns) (hop : ops.getD i default = ⟨ds, .load 3 x, t, pos, af, gu⟩) (hx : spO L x = some (eP (bkV q.vy) (j * 6 + 3))) (hj : r.keys[j]? = some e) : EOb Tryd.prog n ops XX B ⟨i, L, eI e.ep, ph, false⟩ p := bL fun ξ g w hB hH => by
 rw [hB0] at hB
 have hB : StB ρ ns g w := hB
 rw [hop]
 obtain ⟨ts, h1, h2⟩ := qz (hr g w hB.run).rs hj
 obtain ⟨_, _, _, _, _, rfl⟩ := h1.form
 exact ⟨_, rfl, bF Tryd.underlying3 rfl (bJ hx) (h2 3 _ rfl)⟩
theorem gS {e : Ep} {c : Bool} (hc : e.kem = c) (hop : ops.getD i default = ⟨ds, .load 4 x, t, pos, af, gu⟩) (hB0 : B p = stB ρ ns) (hx : spO L x = some (nwO k 1)) (hk : ns[k]? = some (99, agS (cxE e))) : EOb Tryd.prog n ops XX B ⟨i, L, eqS (.bool c), ph, false⟩ p := by
 subst hc; exact uc hop hB0 hx hk
theorem l_ {j : Nat} {e : Ep} {c : Bool} (hc : e.rev = c) (hr : f6 ρ b r q) (hB0 : B p = stB ρ ns) (hop : ops.getD i default = ⟨ds, .load 4 x, t, pos, af, gu⟩) (hx : spO L x = some (eP (bkV q.ve) (j * 3 + 2))) (hj : r.eps[j]? = some e) : EOb Tryd.prog n ops XX B ⟨i, L, eqS (.bool c), ph, false⟩ p := by
 subst hc; exact n5 hr hB0 hop hx hj
end
theorem ko {l : List (Nat × Nat)} {j : Nat} {p : Nat × Nat} {f : Nat × Nat → Bool} (hp : l[j]? = some p) (h : f p = true) : decide ((0 : Int) ≤ (j : Int)) = l.any f := by
 rw [decide_eq_true (by omega)]
 exact (List.any_eq_true.2 ⟨p, List.mem_of_getElem? hp, h⟩).symm
theorem mw {l : List (Nat × Nat)} {f : Nat × Nat → Bool} (h : (l.take l.length).any f = false) : decide ((0 : Int) ≤ -1) = l.any f := by
 rw [List.take_length] at h
 rw [h]; rfl
theorem qI {l : List (Nat × Nat)} {j : Nat} {p : Nat × Nat} {f : Nat × Nat → Bool} (hp : l[j]? = some p) (h : f p = false) (h2 : (l.take j).any f = false) : (l.take (j + 1)).any f = false := by
 rw [List.take_add_one, List.any_append, h2, hp]
 simp [h]
end Go.Mi.Term
namespace Go.Mi.Term
open Go.Mi Go.Proofs Go.RowKit
set_option maxRecDepth 100000 in
set_option maxHeartbeats 4000000 in
theorem qH {b : Nat} {r : Rn} {F X : List Nat} {l : List (Nat × Nat)} {v v2 : Value} (w0 : World) (hX : ∀ x, x ∈ X → x < w0.heap.size) (hr : RunIs b r F X w0) (hs : ∀ x, x ∈ F → x ∈ X) (hl : l.length ≤ 1000000) (hm : ∀ k, 0 ≤ itl r.rvd k ∧ itl r.rvd k ≤ 700001) (hv : SlA w0 X v l.length (dhL l)) (hv2 : FnIs w0 b v2) : Calls Tryd.prog 108 (List.toArray [v, v2]) w0 (Ret fun v w' => Gr w0 w' ∧ ∃ i : Int, v = vI i ∧ decide (0 ≤ i) = l.any r.hitB) := by
 obtain ⟨q, rfl, h⟩ := hr
 refine b7 (F := []) (ρ := cF b r q) [dhS l, fnS b] hX ⟨rfl, hs, h⟩ ⟨hv, hv2.hold, trivial⟩ Tryd.func108 rfl Tryd.ntmps108 rfl fun ac hS => ?_
 refine wp_seq ?_
 refine rz hS [] [0, 1, 4] [(0, dhS l), (1, fnS b), (4, eI 0)] trivial fun ac g w hS => ?_
 refine wp_seq ?_
 refine wp_seq ?_
 refine rz hS [e0 1 [(6, dhS l)] (eI l.length)] [0, 1, 4, 7, 8] [(0, dhS l), (1, fnS b), (4, eI 0), (7, eI l.length), (8, eI 0)] ⟨⟨ua rfl rfl, trivial⟩, trivial⟩ fun ac g w hS => ?_
 refine bz ?_
 refine wp_block ?_
 refine cb (fun a ac w => ∃ (j : Nat) (g : Gh), a = l.length - j ∧ (j ≤ l.length) ∧ ((l.take j).any r.hitB = false) ∧ SS [(0, dhS l), (1, fnS b), (7, eI l.length), (8, eI j)] 19 (stB (cF b r q) []) ⟨[], [], X, []⟩ w0 ac g w) _ ⟨0, _, rfl, Nat.zero_le _, rfl, hS.to ⟨rfl, rfl, rfl, rfl, trivial⟩⟩ ?_
 rintro _ ac w ⟨j, g, rfl, hj, hno, hS⟩
 refine wp_seq ?_
 refine rz hS [] [0, 1, 7, 8, 9] [(0, dhS l), (1, fnS b), (7, eI l.length), (8, eI j), (9, eB (decide ((j : Int) < l.length)))] trivial fun ac g w hS => ?_
 refine wp_seq ?_
 refine cn hS.f.frm rfl (fun h => ?_) (fun h => ?_)
 ·have hc := of_decide_eq_true h
  clear h
  have hc := Int.ofNat_lt.1 hc
  obtain ⟨p, hp⟩ : ∃ p, l[j]? = some p := ⟨_, List.getElem?_eq_getElem hc⟩
  refine wp_skip ?_
  refine wp_seq ?_
  refine wp_block ?_
  refine wp_seq ?_
  refine rz hS [] [0, 1, 5, 7, 8] [(0, dhS l), (1, fnS b), (5, eI j), (7, eI l.length), (8, eI j)] trivial fun ac g w hS => ?_
  refine wp_seq ?_
  refine rz hS [e0 3 [(12, dhS l), (13, eI j)] (prS p), e0 4 [(14, prS p)] (agS (cxV [vI p.1, vI p.2])), e0 5 [(11, fnS b), (15, agS (cxV [vI p.1, vI p.2]))] (eB (r.hitB p))] [0, 1, 5, 7, 8, 16] [(0, dhS l), (1, fnS b), (5, eI j), (7, eI l.length), (8, eI j), (16, eB (r.hitB p))] ⟨⟨v8 rfl rfl rfl hp, trivial⟩, ⟨v6 rfl rfl, trivial⟩, ⟨sa hm rfl rfl rfl rfl, trivial⟩, trivial⟩ fun ac g w hS => ?_
  refine bz ?_
  refine cn hS.f.frm rfl (fun h => ?_) (fun h => ?_)
  ·have hq := h
   clear h
   refine wp_seq ?_
   refine rz hS [] [0, 1, 4, 7, 8] [(0, dhS l), (1, fnS b), (4, eI j), (7, eI l.length), (8, eI j)] trivial fun ac g w hS => ?_
   refine wp_ret ?_
   refine bY ?_
   refine bH ?_
   refine bH ?_
   refine bY ?_
   refine bH ?_
   exact bv hS.f.frm (bw Tryd.results108 (RV.tmp hS.f.frm rfl)) ⟨hS.gr0, _, rfl, by first | exact ko hp hq | exact mw hno⟩
  ·have hq := h
   clear h
   refine wp_skip ?_
   refine bR ?_
   refine rz hS [e0 0 [(8, eI j)] (eI (((j : Nat) : Int) + 1))] [0, 1, 7, 8] [(0, dhS l), (1, fnS b), (7, eI l.length), (8, eI (((j : Nat) : Int) + 1))] ⟨⟨bL fun ξ g w hB hH => ⟨_, rfl, cy rfl rfl (bO (by omega) (by omega))⟩, trivial⟩, trivial⟩ fun ac g w hS => ?_
   refine bz ?_
   refine ⟨_, ?_, j + 1, _, rfl, hc, qI hp hq hno, hS.to ⟨rfl, rfl, rfl, rfl, trivial⟩⟩
   omega
 ·have hc := of_decide_eq_false h
  clear h
  obtain rfl : j = l.length := by omega
  refine wp_exit ?_
  refine bG ?_
  refine bG ?_
  refine bZ ?_
  refine wp_seq ?_
  refine rz hS [] [0, 1, 4, 7] [(0, dhS l), (1, fnS b), (4, eI (-1)), (7, eI l.length)] trivial fun ac g w hS => ?_
  refine wp_ret ?_
  exact bv hS.f.frm (bw Tryd.results108 (RV.tmp hS.f.frm rfl)) ⟨hS.gr0, _, rfl, by first | exact ko hp hq | exact mw hno⟩
set_option maxRecDepth 100000 in
set_option maxHeartbeats 4000000 in
theorem oy {b : Nat} {r : Rn} {F X : List Nat} {l : List (Nat × Nat)} {v v2 : Value} (w0 : World) (hX : ∀ x, x ∈ X → x < w0.heap.size) (hr : RunIs b r F X w0) (hs : ∀ x, x ∈ F → x ∈ X) (hl : l.length ≤ 1000000) (hm : ∀ k, 0 ≤ itl r.rvd k ∧ itl r.rvd k ≤ 700001) (hv : SlA w0 X v l.length (dhL l)) (hv2 : FnIs w0 b v2) : Calls Tryd.prog 101 (List.toArray [v, v2]) w0 (Ret fun v w' => Gr w0 w' ∧ v = .bool (l.any r.hitB)) := by
 obtain ⟨q, rfl, h⟩ := hr
 refine b7 (F := []) (ρ := cF b r q) [dhS l, fnS b] hX ⟨rfl, hs, h⟩ ⟨hv, hv2.hold, trivial⟩ Tryd.func101 rfl Tryd.ntmps101 rfl fun ac hS => ?_
 refine wp_seq ?_
 refine rz hS [] [0, 1, 4] [(0, dhS l), (1, fnS b), (4, eqS vf)] trivial fun ac g w hS => ?_
 refine wp_seq ?_
 refine rz hS [e0 2 [(5, dhS l), (6, fnS b)] (ixS (l.any r.hitB)), e0 3 [(7, ixS (l.any r.hitB))] (eB (l.any r.hitB))] [4] [(4, eB (l.any r.hitB))] ⟨⟨b_ rfl fun ξ g w hB hH => a_ xQ rfl (qH w hB.wf.lt ⟨_, rfl, hB.run.2.2⟩ hB.run.2.2.rs.sub hl hm (hH 5 _ rfl) (wH (hH 6 _ rfl))), trivial⟩, ⟨ui rfl rfl rfl, trivial⟩, trivial⟩ fun ac g w hS => ?_
 refine wp_ret ?_
 exact bv hS.f.frm (bw Tryd.results101 (RV.tmp hS.f.frm rfl)) ⟨hS.gr0, rfl⟩
end Go.Mi.Term
namespace Go.Mi.Term
open Go.Mi Go.Proofs Go.RowKit
set_option maxRecDepth 100000 in
set_option maxHeartbeats 4000000 in
theorem tr {b : Nat} {r : Rn} {F X : List Nat} {e : Ep} {v : Value} (w0 : World) (hX : ∀ x, x ∈ X → x < w0.heap.size) (hr : RunIs b r F X w0) (hs : ∀ x, x ∈ F → x ∈ X) (hm : ∀ k, 0 ≤ itl r.rvd k ∧ itl r.rvd k ≤ 700001) (hl : e.dhs.length ≤ 1000000) (hv : (agS (cxE e)).hold ⟨[], [], X, []⟩ w0 v) (h1 : e.kem = true) (h2 : r.kem = false) : Calls Tryd.prog 89 (List.toArray [vp b, v]) w0 (Ret fun v w' => Gr w0 w' ∧ v = .bool false) := by
 obtain ⟨q, rfl, h⟩ := hr
 refine b7 (F := []) (ρ := cF b r q) [eP b 0, agS (cxE e)] hX ⟨rfl, hs, h⟩ ⟨rfl, hv, trivial⟩ Tryd.func89 rfl Tryd.ntmps89 rfl fun ac hS => ?_
 refine wp_seq ?_
 refine rx [e1 0 [(0, eP b 0)] (nwS 0), ⟨1, [(1, agS (cxE e))], nwS 1, [1], true⟩] [2, 3, 4] (Bl [stB (cF b r q) [], stB (cF b r q) [(42, agS (cxV [vp b]))], stB (cF b r q) [(42, agS (cxV [vp b])), (99, agS (cxE e))]]) 2 [(2, nwS 0), (3, nwS 1), (4, eqS vf)] ⟨⟨jH rfl rfl rfl rfl rfl rfl, trivial⟩, ⟨cO rfl rfl rfl rfl (jX _).sized rfl, trivial⟩, trivial⟩ hS rfl fun ac g w hS => ?_
 refine wp_seq ?_
 refine wp_seq ?_
 refine rz hS [e0 0 [(3, nwS 1)] (nwO 1 1), e0 1 [(5, nwO 1 1)] (eqS vt), e0 3 [(7, eqS vt), (2, nwS 0)] (eP b 0), e0 7 [(7, eqS vt), (11, eP b 23)] (eqS vf)] [2, 3, 4, 14] [(2, nwS 0), (3, nwS 1), (4, eqS vf), (14, eqS vt)] ⟨⟨bK (k := 1) rfl rfl rfl rfl (by decide) (by kernel_rfl), trivial⟩, ⟨gS h1 rfl rfl rfl rfl, trivial⟩, ⟨gC rfl rfl rfl rfl (by decide) u42 rfl, trivial⟩, ⟨cM (cA _ _ _) rfl rfl rfl u4 rfl (congrArg (fun z => some (vB z)) h2), trivial⟩, trivial⟩ fun ac g w hS => ?_
 refine wp_cond_true (hS.f.frm.eval rfl) ?_
 refine wp_seq ?_
 refine rz hS [] [2, 3, 4] [(2, nwS 0), (3, nwS 1), (4, eqS vf)] trivial fun ac g w hS => ?_
 refine wp_ret ?_
 refine bH ?_
 exact bv hS.f.frm (bw Tryd.results89 (RV.tmp hS.f.frm rfl)) ⟨hS.gr0, rfl⟩
set_option maxRecDepth 100000 in
set_option maxHeartbeats 4000000 in
theorem wA {b : Nat} {r : Rn} {F X : List Nat} {e : Ep} {v : Value} (w0 : World) (hX : ∀ x, x ∈ X → x < w0.heap.size) (hr : RunIs b r F X w0) (hs : ∀ x, x ∈ F → x ∈ X) (hm : ∀ k, 0 ≤ itl r.rvd k ∧ itl r.rvd k ≤ 700001) (hl : e.dhs.length ≤ 1000000) (hv : (agS (cxE e)).hold ⟨[], [], X, []⟩ w0 v) (h1 : e.kem = true) (h2 : r.kem = true) (h3 : r.dh = true) : Calls Tryd.prog 89 (List.toArray [vp b, v]) w0 (Ret fun v w' => Gr w0 w' ∧ v = .bool true) := by
 obtain ⟨q, rfl, h⟩ := hr
 refine b7 (F := []) (ρ := cF b r q) [eP b 0, agS (cxE e)] hX ⟨rfl, hs, h⟩ ⟨rfl, hv, trivial⟩ Tryd.func89 rfl Tryd.ntmps89 rfl fun ac hS => ?_
 refine wp_seq ?_
 refine rx [e1 0 [(0, eP b 0)] (nwS 0), ⟨1, [(1, agS (cxE e))], nwS 1, [1], true⟩] [2, 3, 4] (Bl [stB (cF b r q) [], stB (cF b r q) [(42, agS (cxV [vp b]))], stB (cF b r q) [(42, agS (cxV [vp b])), (99, agS (cxE e))]]) 2 [(2, nwS 0), (3, nwS 1), (4, eqS vf)] ⟨⟨jH rfl rfl rfl rfl rfl rfl, trivial⟩, ⟨cO rfl rfl rfl rfl (jX _).sized rfl, trivial⟩, trivial⟩ hS rfl fun ac g w hS => ?_
 refine wp_seq ?_
 refine wp_seq ?_
 refine rz hS [e0 0 [(3, nwS 1)] (nwO 1 1), e0 1 [(5, nwO 1 1)] (eqS vt), e0 3 [(7, eqS vt), (2, nwS 0)] (eP b 0), e0 7 [(7, eqS vt), (11, eP b 23)] (eqS vt)] [2, 3, 4, 14] [(2, nwS 0), (3, nwS 1), (4, eqS vf), (14, eqS vf)] ⟨⟨bK (k := 1) rfl rfl rfl rfl (by decide) (by kernel_rfl), trivial⟩, ⟨gS h1 rfl rfl rfl rfl, trivial⟩, ⟨gC rfl rfl rfl rfl (by decide) u42 rfl, trivial⟩, ⟨cM (cA _ _ _) rfl rfl rfl u4 rfl (congrArg (fun z => some (vB z)) h2), trivial⟩, trivial⟩ fun ac g w hS => ?_
 refine wp_cond_false (hS.f.frm.eval rfl) ?_
 refine wp_skip ?_
 refine wp_seq ?_
 refine rz hS [e0 0 [(2, nwS 0)] (eP b 0), e0 4 [(18, eP b 22)] (eqS vt)] [4] [(4, eqS vt)] ⟨⟨gC rfl rfl rfl rfl (by decide) u42 rfl, trivial⟩, ⟨cM (cA _ _ _) rfl rfl rfl u4 rfl (congrArg (fun z => some (vB z)) h3), trivial⟩, trivial⟩ fun ac g w hS => ?_
 refine wp_ret ?_
 exact bv hS.f.frm (bw Tryd.results89 (RV.tmp hS.f.frm rfl)) ⟨hS.gr0, rfl⟩
set_option maxRecDepth 100000 in
set_option maxHeartbeats 4000000 in
theorem wz {b : Nat} {r : Rn} {F X : List Nat} {e : Ep} {v : Value} (w0 : World) (hX : ∀ x, x ∈ X → x < w0.heap.size) (hr : RunIs b r F X w0) (hs : ∀ x, x ∈ F → x ∈ X) (hm : ∀ k, 0 ≤ itl r.rvd k ∧ itl r.rvd k ≤ 700001) (hl : e.dhs.length ≤ 1000000) (hv : (agS (cxE e)).hold ⟨[], [], X, []⟩ w0 v) (h1 : e.kem = true) (h2 : r.kem = true) (h3 : r.dh = false) : Calls Tryd.prog 89 (List.toArray [vp b, v]) w0 (Ret fun v w' => Gr w0 w' ∧ v = .bool (!e.dhs.any r.hitB)) := by
 obtain ⟨q, rfl, h⟩ := hr
 refine b7 (F := []) (ρ := cF b r q) [eP b 0, agS (cxE e)] hX ⟨rfl, hs, h⟩ ⟨rfl, hv, trivial⟩ Tryd.func89 rfl Tryd.ntmps89 rfl fun ac hS => ?_
 refine wp_seq ?_
 refine rx [e1 0 [(0, eP b 0)] (nwS 0), ⟨1, [(1, agS (cxE e))], nwS 1, [1], true⟩] [2, 3, 4] (Bl [stB (cF b r q) [], stB (cF b r q) [(42, agS (cxV [vp b]))], stB (cF b r q) [(42, agS (cxV [vp b])), (99, agS (cxE e))]]) 2 [(2, nwS 0), (3, nwS 1), (4, eqS vf)] ⟨⟨jH rfl rfl rfl rfl rfl rfl, trivial⟩, ⟨cO rfl rfl rfl rfl (jX _).sized rfl, trivial⟩, trivial⟩ hS rfl fun ac g w hS => ?_
 refine wp_seq ?_
 refine wp_seq ?_
 refine rz hS [e0 0 [(3, nwS 1)] (nwO 1 1), e0 1 [(5, nwO 1 1)] (eqS vt), e0 3 [(7, eqS vt), (2, nwS 0)] (eP b 0), e0 7 [(7, eqS vt), (11, eP b 23)] (eqS vt)] [2, 3, 4, 14] [(2, nwS 0), (3, nwS 1), (4, eqS vf), (14, eqS vf)] ⟨⟨bK (k := 1) rfl rfl rfl rfl (by decide) (by kernel_rfl), trivial⟩, ⟨gS h1 rfl rfl rfl rfl, trivial⟩, ⟨gC rfl rfl rfl rfl (by decide) u42 rfl, trivial⟩, ⟨cM (cA _ _ _) rfl rfl rfl u4 rfl (congrArg (fun z => some (vB z)) h2), trivial⟩, trivial⟩ fun ac g w hS => ?_
 refine wp_cond_false (hS.f.frm.eval rfl) ?_
 refine wp_skip ?_
 refine wp_seq ?_
 refine rz hS [e0 0 [(2, nwS 0)] (eP b 0), e0 4 [(18, eP b 22)] (eqS vf), e0 6 [(20, eqS vf), (3, nwS 1)] (nwO 1 0), e0 7 [(20, eqS vf), (21, nwO 1 0)] (dhS e.dhs), e0 8 [(20, eqS vf), (2, nwS 0)] (fnO 0), e0 9 [(20, eqS vf), (22, dhS e.dhs), (23, fnO 0)] (eB (e.dhs.any r.hitB))] [4] [(4, eB (!(e.dhs.any r.hitB)))] ⟨⟨gC rfl rfl rfl rfl (by decide) u42 rfl, trivial⟩, ⟨cM (cA _ _ _) rfl rfl rfl u4 rfl (congrArg (fun z => some (vB z)) h3), trivial⟩, ⟨bK (k := 1) rfl rfl rfl rfl (by decide) (by kernel_rfl), trivial⟩, ⟨pQ rfl rfl rfl rfl, trivial⟩, ⟨pO rfl rfl rfl rfl, trivial⟩, ⟨b_ rfl fun ξ g w hB hH => a_ wU rfl (oy w hB.wf.lt ⟨_, rfl, hB.run.2.2⟩ hB.run.2.2.rs.sub hl hm (hH 22 _ rfl) (oq hB rfl (hH 23 _ rfl))), trivial⟩, trivial⟩ fun ac g w hS => ?_
 refine wp_ret ?_
 exact bv hS.f.frm (bw Tryd.results89 (RV.tmp hS.f.frm rfl)) ⟨hS.gr0, rfl⟩
set_option maxRecDepth 100000 in
set_option maxHeartbeats 4000000 in
theorem tq {b : Nat} {r : Rn} {F X : List Nat} {e : Ep} {v : Value} (w0 : World) (hX : ∀ x, x ∈ X → x < w0.heap.size) (hr : RunIs b r F X w0) (hs : ∀ x, x ∈ F → x ∈ X) (hm : ∀ k, 0 ≤ itl r.rvd k ∧ itl r.rvd k ≤ 700001) (hl : e.dhs.length ≤ 1000000) (hv : (agS (cxE e)).hold ⟨[], [], X, []⟩ w0 v) (h1 : e.kem = false) (h3 : r.dh = true) : Calls Tryd.prog 89 (List.toArray [vp b, v]) w0 (Ret fun v w' => Gr w0 w' ∧ v = .bool true) := by
 obtain ⟨q, rfl, h⟩ := hr
 refine b7 (F := []) (ρ := cF b r q) [eP b 0, agS (cxE e)] hX ⟨rfl, hs, h⟩ ⟨rfl, hv, trivial⟩ Tryd.func89 rfl Tryd.ntmps89 rfl fun ac hS => ?_
 refine wp_seq ?_
 refine rx [e1 0 [(0, eP b 0)] (nwS 0), ⟨1, [(1, agS (cxE e))], nwS 1, [1], true⟩] [2, 3, 4] (Bl [stB (cF b r q) [], stB (cF b r q) [(42, agS (cxV [vp b]))], stB (cF b r q) [(42, agS (cxV [vp b])), (99, agS (cxE e))]]) 2 [(2, nwS 0), (3, nwS 1), (4, eqS vf)] ⟨⟨jH rfl rfl rfl rfl rfl rfl, trivial⟩, ⟨cO rfl rfl rfl rfl (jX _).sized rfl, trivial⟩, trivial⟩ hS rfl fun ac g w hS => ?_
 refine wp_seq ?_
 refine wp_seq ?_
 refine rz hS [e0 0 [(3, nwS 1)] (nwO 1 1), e0 1 [(5, nwO 1 1)] (eqS vf)] [2, 3, 4, 14] [(2, nwS 0), (3, nwS 1), (4, eqS vf), (14, eqS vf)] ⟨⟨bK (k := 1) rfl rfl rfl rfl (by decide) (by kernel_rfl), trivial⟩, ⟨gS h1 rfl rfl rfl rfl, trivial⟩, trivial⟩ fun ac g w hS => ?_
 refine wp_cond_false (hS.f.frm.eval rfl) ?_
 refine wp_skip ?_
 refine wp_seq ?_
 refine rz hS [e0 0 [(2, nwS 0)] (eP b 0), e0 4 [(18, eP b 22)] (eqS vt)] [4] [(4, eqS vt)] ⟨⟨gC rfl rfl rfl rfl (by decide) u42 rfl, trivial⟩, ⟨cM (cA _ _ _) rfl rfl rfl u4 rfl (congrArg (fun z => some (vB z)) h3), trivial⟩, trivial⟩ fun ac g w hS => ?_
 refine wp_ret ?_
 exact bv hS.f.frm (bw Tryd.results89 (RV.tmp hS.f.frm rfl)) ⟨hS.gr0, rfl⟩
set_option maxRecDepth 100000 in
set_option maxHeartbeats 4000000 in
theorem tp {b : Nat} {r : Rn} {F X : List Nat} {e : Ep} {v : Value} (w0 : World) (hX : ∀ x, x ∈ X → x < w0.heap.size) (hr : RunIs b r F X w0) (hs : ∀ x, x ∈ F → x ∈ X) (hm : ∀ k, 0 ≤ itl r.rvd k ∧ itl r.rvd k ≤ 700001) (hl : e.dhs.length ≤ 1000000) (hv : (agS (cxE e)).hold ⟨[], [], X, []⟩ w0 v) (h1 : e.kem = false) (h3 : r.dh = false) : Calls Tryd.prog 89 (List.toArray [vp b, v]) w0 (Ret fun v w' => Gr w0 w' ∧ v = .bool (!e.dhs.any r.hitB)) := by
 obtain ⟨q, rfl, h⟩ := hr
 refine b7 (F := []) (ρ := cF b r q) [eP b 0, agS (cxE e)] hX ⟨rfl, hs, h⟩ ⟨rfl, hv, trivial⟩ Tryd.func89 rfl Tryd.ntmps89 rfl fun ac hS => ?_
 refine wp_seq ?_
 refine rx [e1 0 [(0, eP b 0)] (nwS 0), ⟨1, [(1, agS (cxE e))], nwS 1, [1], true⟩] [2, 3, 4] (Bl [stB (cF b r q) [], stB (cF b r q) [(42, agS (cxV [vp b]))], stB (cF b r q) [(42, agS (cxV [vp b])), (99, agS (cxE e))]]) 2 [(2, nwS 0), (3, nwS 1), (4, eqS vf)] ⟨⟨jH rfl rfl rfl rfl rfl rfl, trivial⟩, ⟨cO rfl rfl rfl rfl (jX _).sized rfl, trivial⟩, trivial⟩ hS rfl fun ac g w hS => ?_
 refine wp_seq ?_
 refine wp_seq ?_
 refine rz hS [e0 0 [(3, nwS 1)] (nwO 1 1), e0 1 [(5, nwO 1 1)] (eqS vf)] [2, 3, 4, 14] [(2, nwS 0), (3, nwS 1), (4, eqS vf), (14, eqS vf)] ⟨⟨bK (k := 1) rfl rfl rfl rfl (by decide) (by kernel_rfl), trivial⟩, ⟨gS h1 rfl rfl rfl rfl, trivial⟩, trivial⟩ fun ac g w hS => ?_
 refine wp_cond_false (hS.f.frm.eval rfl) ?_
 refine wp_skip ?_
 refine wp_seq ?_
 refine rz hS [e0 0 [(2, nwS 0)] (eP b 0), e0 4 [(18, eP b 22)] (eqS vf), e0 6 [(20, eqS vf), (3, nwS 1)] (nwO 1 0), e0 7 [(20, eqS vf), (21, nwO 1 0)] (dhS e.dhs), e0 8 [(20, eqS vf), (2, nwS 0)] (fnO 0), e0 9 [(20, eqS vf), (22, dhS e.dhs), (23, fnO 0)] (eB (e.dhs.any r.hitB))] [4] [(4, eB (!(e.dhs.any r.hitB)))] ⟨⟨gC rfl rfl rfl rfl (by decide) u42 rfl, trivial⟩, ⟨cM (cA _ _ _) rfl rfl rfl u4 rfl (congrArg (fun z => some (vB z)) h3), trivial⟩, ⟨bK (k := 1) rfl rfl rfl rfl (by decide) (by kernel_rfl), trivial⟩, ⟨pQ rfl rfl rfl rfl, trivial⟩, ⟨pO rfl rfl rfl rfl, trivial⟩, ⟨b_ rfl fun ξ g w hB hH => a_ wU rfl (oy w hB.wf.lt ⟨_, rfl, hB.run.2.2⟩ hB.run.2.2.rs.sub hl hm (hH 22 _ rfl) (oq hB rfl (hH 23 _ rfl))), trivial⟩, trivial⟩ fun ac g w hS => ?_
 refine wp_ret ?_
 exact bv hS.f.frm (bw Tryd.results89 (RV.tmp hS.f.frm rfl)) ⟨hS.gr0, rfl⟩
theorem o8 (r : Rn) (e : Ep) : r.inputB e = ((!e.kem || r.kem) && (r.dh || !e.dhs.any r.hitB)) := by
 simp [Rn.inputB, List.all_eq_not_any_not]
 rfl
theorem g_ {b : Nat} {r : Rn} {F X : List Nat} {e : Ep} {v : Value} (w0 : World) (hX : ∀ x, x ∈ X → x < w0.heap.size) (hr : RunIs b r F X w0) (hs : ∀ x, x ∈ F → x ∈ X) (hm : ∀ k, 0 ≤ itl r.rvd k ∧ itl r.rvd k ≤ 700001) (hl : e.dhs.length ≤ 1000000) (hv : (agS (cxE e)).hold ⟨[], [], X, []⟩ w0 v) : Calls Tryd.prog 89 (List.toArray [vp b, v]) w0 (Ret fun v w' => Gr w0 w' ∧ v = .bool (r.inputB e)) := by
 rw [o8]
 cases h1 : e.kem <;> cases h2 : r.kem <;> cases h3 : r.dh
 ·exact tp w0 hX hr hs hm hl hv h1 h3
 ·exact tq w0 hX hr hs hm hl hv h1 h3
 ·exact tp w0 hX hr hs hm hl hv h1 h3
 ·exact tq w0 hX hr hs hm hl hv h1 h3
 ·exact tr w0 hX hr hs hm hl hv h1 h2
 ·exact tr w0 hX hr hs hm hl hv h1 h2
 ·exact wz w0 hX hr hs hm hl hv h1 h2 h3
 ·exact wA w0 hX hr hs hm hl hv h1 h2 h3
end Go.Mi.Term
namespace Go.Mi.Term
open Go.Mi Go.Proofs Go.RowKit
theorem dL {P : Program} {f : FuncId} {vs : Array Value} {w : World} {x y : Bool} (h : Calls P f vs w (Ret fun v w' => Gr w w' ∧ v = .bool x)) (e : x = y) : Calls P f vs w (Ret fun v w' => Gr w w' ∧ v = .bool y) := e ▸ h
theorem eN {α : Type} {l : List α} {j : Nat} {a : α} (h : l[j]? = some a) : j < l.length := by
 rcases Nat.lt_or_ge j l.length with h' | h'
 ·exact h'
 ·rw [List.getElem?_eq_none h'] at h; cases h
set_option maxRecDepth 100000 in
set_option maxHeartbeats 4000000 in
theorem sX {b : Nat} {r : Rn} {F X : List Nat} {k : Nat} {e : Ep} (w0 : World) (hX : ∀ x, x ∈ X → x < w0.heap.size) (hr : RunIs b r F X w0) (hs : ∀ x, x ∈ F → x ∈ X) (hm : ∀ k, 0 ≤ itl r.rvd k ∧ itl r.rvd k ≤ 700001) (hd : ∀ e ∈ r.eps, e.dhs.length ≤ 1000000) (he : r.eps[k]? = some e) (hin : r.inputB e = false) : Calls Tryd.prog 62 (List.toArray [vp b, vI k]) w0 (Ret fun v w' => Gr w0 w' ∧ v = .bool false) := by
 obtain ⟨q, rfl, h⟩ := hr
 refine b7 (F := []) (ρ := cF b r q) [eP b 0, eI k] hX ⟨rfl, hs, h⟩ ⟨rfl, rfl, trivial⟩ Tryd.func62 rfl Tryd.ntmps62 rfl fun ac hS => ?_
 refine wp_seq ?_
 refine rz hS [] [0, 1, 4] [(0, eP b 0), (1, eI k), (4, eqS vf)] trivial fun ac g w hS => ?_
 refine wp_seq ?_
 refine wp_seq ?_
 refine rz hS [e0 4 [(8, eP b 18)] (eqS q.ve), e0 6 [(9, eqS q.ve), (10, eI k)] (eP (bkV q.ve) (k * 3)), e0 7 [(11, eP (bkV q.ve) (k * 3))] (agS (cxE e)), e0 8 [(5, eP b 0), (12, agS (cxE e))] (eqS vf)] [0, 1, 4, 14] [(0, eP b 0), (1, eI k), (4, eqS vf), (14, eqS vt)] ⟨⟨cM (cA _ _ _) rfl rfl rfl u90 rfl rfl, trivial⟩, ⟨ga (cA _ _ _) rfl rfl rfl rfl (eN he), trivial⟩, ⟨kO (cA _ _ _) rfl rfl rfl he, trivial⟩, ⟨b_ rfl fun ξ g w hB hH => a_ c89 rfl (dL (g_ w hB.wf.lt ⟨_, rfl, hB.run.2.2⟩ hB.run.2.2.rs.sub hm (hd _ (List.mem_of_getElem? he)) (hH 12 _ rfl)) hin), trivial⟩, trivial⟩ fun ac g w hS => ?_
 refine wp_cond_true (hS.f.frm.eval rfl) ?_
 refine wp_seq ?_
 refine rz hS [] [0, 1, 4] [(0, eP b 0), (1, eI k), (4, eqS vf)] trivial fun ac g w hS => ?_
 refine wp_ret ?_
 refine bH ?_
 exact bv hS.f.frm (bw Tryd.results62 (RV.tmp hS.f.frm rfl)) ⟨hS.gr0, rfl⟩
set_option maxRecDepth 100000 in
set_option maxHeartbeats 4000000 in
theorem vA {b : Nat} {r : Rn} {F X : List Nat} {e : Ep} (w0 : World) (hX : ∀ x, x ∈ X → x < w0.heap.size) (hr : RunIs b r F X w0) (hs : ∀ x, x ∈ F → x ∈ X) (hm : ∀ k, 0 ≤ itl r.rvd k ∧ itl r.rvd k ≤ 700001) (hd : ∀ e ∈ r.eps, e.dhs.length ≤ 1000000) (he : r.eps[0]? = some e) (hin : r.inputB e = true) : Calls Tryd.prog 62 (List.toArray [vp b, vI 0]) w0 (Ret fun v w' => Gr w0 w' ∧ v = .bool true) := by
 obtain ⟨q, rfl, h⟩ := hr
 refine b7 (F := []) (ρ := cF b r q) [eP b 0, eI 0] hX ⟨rfl, hs, h⟩ ⟨rfl, rfl, trivial⟩ Tryd.func62 rfl Tryd.ntmps62 rfl fun ac hS => ?_
 refine wp_seq ?_
 refine rz hS [] [0, 1, 4] [(0, eP b 0), (1, eI 0), (4, eqS vf)] trivial fun ac g w hS => ?_
 refine wp_seq ?_
 refine wp_seq ?_
 refine rz hS [e0 4 [(8, eP b 18)] (eqS q.ve), e0 6 [(9, eqS q.ve), (10, eI 0)] (eP (bkV q.ve) (0 * 3)), e0 7 [(11, eP (bkV q.ve) (0 * 3))] (agS (cxE e)), e0 8 [(5, eP b 0), (12, agS (cxE e))] (eqS vt)] [0, 1, 4, 14] [(0, eP b 0), (1, eI 0), (4, eqS vf), (14, eqS vf)] ⟨⟨cM (cA _ _ _) rfl rfl rfl u90 rfl rfl, trivial⟩, ⟨ga (cA _ _ _) rfl rfl rfl rfl (eN he), trivial⟩, ⟨kO (cA _ _ _) rfl rfl rfl he, trivial⟩, ⟨b_ rfl fun ξ g w hB hH => a_ c89 rfl (dL (g_ w hB.wf.lt ⟨_, rfl, hB.run.2.2⟩ hB.run.2.2.rs.sub hm (hd _ (List.mem_of_getElem? he)) (hH 12 _ rfl)) hin), trivial⟩, trivial⟩ fun ac g w hS => ?_
 refine wp_cond_false (hS.f.frm.eval rfl) ?_
 refine wp_skip ?_
 refine wp_seq ?_
 refine rz hS [e0 1 [(15, eI 0)] (eqS vt)] [4] [(4, eqS vt)] ⟨⟨bS rfl rfl rfl (congrArg some (decide_eq_true (by omega))), trivial⟩, trivial⟩ fun ac g w hS => ?_
 refine wp_ret ?_
 exact bv hS.f.frm (bw Tryd.results62 (RV.tmp hS.f.frm rfl)) ⟨hS.gr0, rfl⟩
set_option maxRecDepth 100000 in
set_option maxHeartbeats 4000000 in
theorem vw {b : Nat} {r : Rn} {F X : List Nat} {k : Nat} {e e2 : Ep} (w0 : World) (hX : ∀ x, x ∈ X → x < w0.heap.size) (hr : RunIs b r F X w0) (hs : ∀ x, x ∈ F → x ∈ X) (hm : ∀ k, 0 ≤ itl r.rvd k ∧ itl r.rvd k ≤ 700001) (hd : ∀ e ∈ r.eps, e.dhs.length ≤ 1000000) (he : r.eps[k + 1]? = some e) (hin : r.inputB e = true) (he2 : r.eps[k]? = some e2) (hrev : e2.rev = true) (hk2 : k + 1 ≤ 1000000) : Calls Tryd.prog 62 (List.toArray [vp b, vI ((k + 1 : Nat) : Int)]) w0 (Ret fun v w' => Gr w0 w' ∧ v = .bool true) := by
 obtain ⟨q, rfl, h⟩ := hr
 refine b7 (F := []) (ρ := cF b r q) [eP b 0, eI ((k + 1 : Nat) : Int)] hX ⟨rfl, hs, h⟩ ⟨rfl, rfl, trivial⟩ Tryd.func62 rfl Tryd.ntmps62 rfl fun ac hS => ?_
 refine wp_seq ?_
 refine rz hS [] [0, 1, 4] [(0, eP b 0), (1, eI ((k + 1 : Nat) : Int)), (4, eqS vf)] trivial fun ac g w hS => ?_
 refine wp_seq ?_
 refine wp_seq ?_
 refine rz hS [e0 4 [(8, eP b 18)] (eqS q.ve), e0 6 [(9, eqS q.ve), (10, eI ((k + 1 : Nat) : Int))] (eP (bkV q.ve) ((k + 1) * 3)), e0 7 [(11, eP (bkV q.ve) ((k + 1) * 3))] (agS (cxE e)), e0 8 [(5, eP b 0), (12, agS (cxE e))] (eqS vt)] [0, 1, 4, 14] [(0, eP b 0), (1, eI ((k + 1 : Nat) : Int)), (4, eqS vf), (14, eqS vf)] ⟨⟨cM (cA _ _ _) rfl rfl rfl u90 rfl rfl, trivial⟩, ⟨ga (cA _ _ _) rfl rfl rfl rfl (eN he), trivial⟩, ⟨kO (cA _ _ _) rfl rfl rfl he, trivial⟩, ⟨b_ rfl fun ξ g w hB hH => a_ c89 rfl (dL (g_ w hB.wf.lt ⟨_, rfl, hB.run.2.2⟩ hB.run.2.2.rs.sub hm (hd _ (List.mem_of_getElem? he)) (hH 12 _ rfl)) hin), trivial⟩, trivial⟩ fun ac g w hS => ?_
 refine wp_cond_false (hS.f.frm.eval rfl) ?_
 refine wp_skip ?_
 refine wp_seq ?_
 refine rz hS [e0 1 [(15, eI ((k + 1 : Nat) : Int))] (eqS vf), e0 6 [(17, eqS vf), (20, eP b 18)] (eqS q.ve), e0 8 [(17, eqS vf), (22, eI ((k + 1 : Nat) : Int))] (eI k), e0 9 [(17, eqS vf), (21, eqS q.ve), (23, eI k)] (eP (bkV q.ve) (k * 3)), e0 11 [(17, eqS vf), (25, eP (bkV q.ve) (k * 3 + 2))] (eqS vt)] [4] [(4, eqS vt)] ⟨⟨bS rfl rfl rfl (congrArg some (decide_eq_false (by omega))), trivial⟩, ⟨cM (cA _ _ _) rfl rfl rfl u90 rfl rfl, trivial⟩, ⟨bL fun ξ g w hB hH => ⟨_, rfl, hO rfl rfl ((bO (by omega) (by omega)).trans (by omega))⟩, trivial⟩, ⟨ga (cA _ _ _) rfl rfl rfl rfl (eN he2), trivial⟩, ⟨l_ hrev (cA _ _ _) rfl rfl rfl he2, trivial⟩, trivial⟩ fun ac g w hS => ?_
 refine wp_ret ?_
 exact bv hS.f.frm (bw Tryd.results62 (RV.tmp hS.f.frm rfl)) ⟨hS.gr0, rfl⟩
set_option maxRecDepth 100000 in
set_option maxHeartbeats 4000000 in
theorem vv {b : Nat} {r : Rn} {F X : List Nat} {k : Nat} {e e2 : Ep} (w0 : World) (hX : ∀ x, x ∈ X → x < w0.heap.size) (hr : RunIs b r F X w0) (hs : ∀ x, x ∈ F → x ∈ X) (hm : ∀ k, 0 ≤ itl r.rvd k ∧ itl r.rvd k ≤ 700001) (hd : ∀ e ∈ r.eps, e.dhs.length ≤ 1000000) (he : r.eps[k + 1]? = some e) (hin : r.inputB e = true) (he2 : r.eps[k]? = some e2) (hrev : e2.rev = false) (hk2 : k + 1 ≤ 1000000) (ih : ∀ (X F : List Nat) (w1 : World), (∀ x, x ∈ X → x < w1.heap.size) → RunIs b r F X w1 → (∀ x, x ∈ F → x ∈ X) → Calls Tryd.prog 62 (List.toArray [vp b, vI k]) w1 (Ret fun v w' => Gr w1 w' ∧ v = .bool (r.wholeB k))) : Calls Tryd.prog 62 (List.toArray [vp b, vI ((k + 1 : Nat) : Int)]) w0 (Ret fun v w' => Gr w0 w' ∧ v = .bool (r.wholeB k)) := by
 obtain ⟨q, rfl, h⟩ := hr
 refine b7 (F := []) (ρ := cF b r q) [eP b 0, eI ((k + 1 : Nat) : Int)] hX ⟨rfl, hs, h⟩ ⟨rfl, rfl, trivial⟩ Tryd.func62 rfl Tryd.ntmps62 rfl fun ac hS => ?_
 refine wp_seq ?_
 refine rz hS [] [0, 1, 4] [(0, eP b 0), (1, eI ((k + 1 : Nat) : Int)), (4, eqS vf)] trivial fun ac g w hS => ?_
 refine wp_seq ?_
 refine wp_seq ?_
 refine rz hS [e0 4 [(8, eP b 18)] (eqS q.ve), e0 6 [(9, eqS q.ve), (10, eI ((k + 1 : Nat) : Int))] (eP (bkV q.ve) ((k + 1) * 3)), e0 7 [(11, eP (bkV q.ve) ((k + 1) * 3))] (agS (cxE e)), e0 8 [(5, eP b 0), (12, agS (cxE e))] (eqS vt)] [0, 1, 4, 14] [(0, eP b 0), (1, eI ((k + 1 : Nat) : Int)), (4, eqS vf), (14, eqS vf)] ⟨⟨cM (cA _ _ _) rfl rfl rfl u90 rfl rfl, trivial⟩, ⟨ga (cA _ _ _) rfl rfl rfl rfl (eN he), trivial⟩, ⟨kO (cA _ _ _) rfl rfl rfl he, trivial⟩, ⟨b_ rfl fun ξ g w hB hH => a_ c89 rfl (dL (g_ w hB.wf.lt ⟨_, rfl, hB.run.2.2⟩ hB.run.2.2.rs.sub hm (hd _ (List.mem_of_getElem? he)) (hH 12 _ rfl)) hin), trivial⟩, trivial⟩ fun ac g w hS => ?_
 refine wp_cond_false (hS.f.frm.eval rfl) ?_
 refine wp_skip ?_
 refine wp_seq ?_
 refine rz hS [e0 1 [(15, eI ((k + 1 : Nat) : Int))] (eqS vf), e0 6 [(17, eqS vf), (20, eP b 18)] (eqS q.ve), e0 8 [(17, eqS vf), (22, eI ((k + 1 : Nat) : Int))] (eI k), e0 9 [(17, eqS vf), (21, eqS q.ve), (23, eI k)] (eP (bkV q.ve) (k * 3)), e0 11 [(17, eqS vf), (25, eP (bkV q.ve) (k * 3 + 2))] (eqS vf), e0 16 [(28, eqS vf), (30, eI ((k + 1 : Nat) : Int))] (eI k), e0 17 [(28, eqS vf), (29, eP b 0), (31, eI k)] (eB (r.wholeB k))] [4] [(4, eB (r.wholeB k))] ⟨⟨bS rfl rfl rfl (congrArg some (decide_eq_false (by omega))), trivial⟩, ⟨cM (cA _ _ _) rfl rfl rfl u90 rfl rfl, trivial⟩, ⟨bL fun ξ g w hB hH => ⟨_, rfl, hO rfl rfl ((bO (by omega) (by omega)).trans (by omega))⟩, trivial⟩, ⟨ga (cA _ _ _) rfl rfl rfl rfl (eN he2), trivial⟩, ⟨l_ hrev (cA _ _ _) rfl rfl rfl he2, trivial⟩, ⟨bL fun ξ g w hB hH => ⟨_, rfl, hO rfl rfl ((bO (by omega) (by omega)).trans (by omega))⟩, trivial⟩, ⟨b_ rfl fun ξ g w hB hH => a_ c62 rfl (ih _ _ w hB.wf.lt ⟨_, rfl, hB.run.2.2⟩ hB.run.2.2.rs.sub), trivial⟩, trivial⟩ fun ac g w hS => ?_
 refine wp_ret ?_
 exact bv hS.f.frm (bw Tryd.results62 (RV.tmp hS.f.frm rfl)) ⟨hS.gr0, rfl⟩
theorem lN {b : Nat} {r : Rn} (hm : ∀ k, 0 ≤ itl r.rvd k ∧ itl r.rvd k ≤ 700001) (hd : ∀ e ∈ r.eps, e.dhs.length ≤ 1000000) (hl : r.eps.length ≤ 1000000) : ∀ (k : Nat), k < r.eps.length → ∀ (X F : List Nat) (w1 : World), (∀ x, x ∈ X → x < w1.heap.size) → RunIs b r F X w1 → (∀ x, x ∈ F → x ∈ X) → Calls Tryd.prog 62 (List.toArray [vp b, vI k]) w1 (Ret fun v w' => Gr w1 w' ∧ v = .bool (r.wholeB k))
 | 0, hk, X, F, w1, h1, h2, h3 => by
  have he := List.getElem?_eq_getElem hk
  cases hin : r.inputB r.eps[0] with
  | false => exact dL (sX w1 h1 h2 h3 hm hd he hin) (by simp [Rn.wholeB, List.getD_eq_getElem?_getD, he, hin])
  | true => exact dL (vA w1 h1 h2 h3 hm hd he hin) (by simp [Rn.wholeB, List.getD_eq_getElem?_getD, he, hin])
 | k + 1, hk, X, F, w1, h1, h2, h3 => by
  have he := List.getElem?_eq_getElem hk
  have he2 := List.getElem?_eq_getElem (show k < r.eps.length by omega)
  cases hin : r.inputB r.eps[k + 1] with
  | false => exact dL (sX w1 h1 h2 h3 hm hd he hin) (by simp [Rn.wholeB, List.getD_eq_getElem?_getD, he, hin])
  | true =>
   cases hrev : (r.eps[k]'(by omega)).rev with
   | true => exact dL (vw w1 h1 h2 h3 hm hd he hin he2 hrev (by omega)) (by simp [Rn.wholeB, List.getD_eq_getElem?_getD, he, he2, hin, hrev])
   | false => exact dL (vv w1 h1 h2 h3 hm hd he hin he2 hrev (by omega) (lN hm hd hl k (by omega))) (by simp [Rn.wholeB, List.getD_eq_getElem?_getD, he, he2, hin, hrev])
set_option maxRecDepth 100000 in
set_option maxHeartbeats 4000000 in
theorem xP {b : Nat} {r : Rn} {F X : List Nat} {k : Int} (w0 : World) (hX : ∀ x, x ∈ X → x < w0.heap.size) (hr : RunIs b r F X w0) (hs : ∀ x, x ∈ F → x ∈ X) (h0 : 0 < r.eps.length) (h1 : k < 0) : Calls Tryd.prog 28 (List.toArray [vp b, vI k]) w0 (Ret fun v w' => Gr w0 w' ∧ v = .bool false) := by
 obtain ⟨q, rfl, h⟩ := hr
 refine b7 (F := []) (ρ := cF b r q) [eP b 0, eI k] hX ⟨rfl, hs, h⟩ ⟨rfl, rfl, trivial⟩ Tryd.func28 rfl Tryd.ntmps28 rfl fun ac hS => ?_
 refine wp_seq ?_
 refine rz hS [] [0, 1, 4] [(0, eP b 0), (1, eI k), (4, eqS vf)] trivial fun ac g w hS => ?_
 refine wp_seq ?_
 refine rz hS [e0 1 [(5, eP b 0)] (eqS vf), e0 5 [(8, eqS vt), (9, eI k)] (eqS vf)] [4] [(4, eqS vf)] ⟨⟨b_ rfl fun ξ g w hB hH => a_ c58 rfl (cR w hB.wf.lt ⟨_, rfl, hB.run.2.2⟩ hB.run.2.2.rs.sub h0), trivial⟩, ⟨bS rfl rfl rfl (congrArg some (decide_eq_false (by omega))), trivial⟩, trivial⟩ fun ac g w hS => ?_
 refine wp_ret ?_
 exact bv hS.f.frm (bw Tryd.results28 (RV.tmp hS.f.frm rfl)) ⟨hS.gr0, rfl⟩
set_option maxRecDepth 100000 in
set_option maxHeartbeats 4000000 in
theorem xO {b : Nat} {r : Rn} {F X : List Nat} {k : Int} (w0 : World) (hX : ∀ x, x ∈ X → x < w0.heap.size) (hr : RunIs b r F X w0) (hs : ∀ x, x ∈ F → x ∈ X) (h0 : 0 < r.eps.length) (h1 : 0 ≤ k) (h2 : r.keys.length ≤ k) : Calls Tryd.prog 28 (List.toArray [vp b, vI k]) w0 (Ret fun v w' => Gr w0 w' ∧ v = .bool false) := by
 obtain ⟨q, rfl, h⟩ := hr
 refine b7 (F := []) (ρ := cF b r q) [eP b 0, eI k] hX ⟨rfl, hs, h⟩ ⟨rfl, rfl, trivial⟩ Tryd.func28 rfl Tryd.ntmps28 rfl fun ac hS => ?_
 refine wp_seq ?_
 refine rz hS [] [0, 1, 4] [(0, eP b 0), (1, eI k), (4, eqS vf)] trivial fun ac g w hS => ?_
 refine wp_seq ?_
 refine rz hS [e0 1 [(5, eP b 0)] (eqS vf), e0 5 [(8, eqS vt), (9, eI k)] (eqS vt), e0 12 [(12, eqS vt), (16, eP b 20)] (eqS q.vy), e0 13 [(12, eqS vt), (17, eqS q.vy)] (eI r.keys.length), e0 14 [(12, eqS vt), (13, eI k), (18, eI r.keys.length)] (eqS vf)] [4] [(4, eqS vf)] ⟨⟨b_ rfl fun ξ g w hB hH => a_ c58 rfl (cR w hB.wf.lt ⟨_, rfl, hB.run.2.2⟩ hB.run.2.2.rs.sub h0), trivial⟩, ⟨bS rfl rfl rfl (congrArg some (decide_eq_true (by omega))), trivial⟩, ⟨cM (cA _ _ _) rfl rfl rfl u53 rfl rfl, trivial⟩, ⟨e_ (e := 58) (m := 6) (cA _ _ _) rfl rfl rfl u53 (fun _ _ h => ⟨_, h.ky⟩), trivial⟩, ⟨bS rfl rfl rfl (congrArg some (decide_eq_false (by omega))), trivial⟩, trivial⟩ fun ac g w hS => ?_
 refine wp_ret ?_
 exact bv hS.f.frm (bw Tryd.results28 (RV.tmp hS.f.frm rfl)) ⟨hS.gr0, rfl⟩
set_option maxRecDepth 100000 in
set_option maxHeartbeats 4000000 in
theorem xN {b : Nat} {r : Rn} {F X : List Nat} {k : Nat} (w0 : World) (hX : ∀ x, x ∈ X → x < w0.heap.size) (hr : RunIs b r F X w0) (hs : ∀ x, x ∈ F → x ∈ X) (h0 : 0 < r.eps.length) (hk2 : k < r.keys.length) (hb : r.behind[k]? = some true) : Calls Tryd.prog 28 (List.toArray [vp b, vI k]) w0 (Ret fun v w' => Gr w0 w' ∧ v = .bool false) := by
 obtain ⟨q, rfl, h⟩ := hr
 refine b7 (F := []) (ρ := cF b r q) [eP b 0, eI k] hX ⟨rfl, hs, h⟩ ⟨rfl, rfl, trivial⟩ Tryd.func28 rfl Tryd.ntmps28 rfl fun ac hS => ?_
 refine wp_seq ?_
 refine rz hS [] [0, 1, 4] [(0, eP b 0), (1, eI k), (4, eqS vf)] trivial fun ac g w hS => ?_
 refine wp_seq ?_
 refine rz hS [e0 1 [(5, eP b 0)] (eqS vf), e0 5 [(8, eqS vt), (9, eI k)] (eqS vt), e0 12 [(12, eqS vt), (16, eP b 20)] (eqS q.vy), e0 13 [(12, eqS vt), (17, eqS q.vy)] (eI r.keys.length), e0 14 [(12, eqS vt), (13, eI k), (18, eI r.keys.length)] (eqS vt), e0 20 [(21, eqS vt), (24, eP b 21)] (eqS q.vb), e0 22 [(21, eqS vt), (25, eqS q.vb), (26, eI k)] (eP (bkV q.vb) (k * 1)), e0 23 [(21, eqS vt), (27, eP (bkV q.vb) (k * 1))] (eqS vt)] [4] [(4, eqS vf)] ⟨⟨b_ rfl fun ξ g w hB hH => a_ c58 rfl (cR w hB.wf.lt ⟨_, rfl, hB.run.2.2⟩ hB.run.2.2.rs.sub h0), trivial⟩, ⟨bS rfl rfl rfl (congrArg some (decide_eq_true (by omega))), trivial⟩, ⟨cM (cA _ _ _) rfl rfl rfl u53 rfl rfl, trivial⟩, ⟨e_ (e := 58) (m := 6) (cA _ _ _) rfl rfl rfl u53 (fun _ _ h => ⟨_, h.ky⟩), trivial⟩, ⟨bS rfl rfl rfl (congrArg some (decide_eq_true (by omega))), trivial⟩, ⟨cM (cA _ _ _) rfl rfl rfl u36 rfl rfl, trivial⟩, ⟨io (m := 1) (cA _ _ _) rfl rfl rfl rfl u36 sz4 (fun _ _ h => ⟨_, h.bh⟩) (eN hb), trivial⟩, ⟨pR (cA _ _ _) rfl rfl rfl hb, trivial⟩, trivial⟩ fun ac g w hS => ?_
 refine wp_ret ?_
 exact bv hS.f.frm (bw Tryd.results28 (RV.tmp hS.f.frm rfl)) ⟨hS.gr0, rfl⟩
set_option maxRecDepth 100000 in
set_option maxHeartbeats 4000000 in
theorem xM {b : Nat} {r : Rn} {F X : List Nat} {k : Nat} {e : Ky} (w0 : World) (hX : ∀ x, x ∈ X → x < w0.heap.size) (hr : RunIs b r F X w0) (hs : ∀ x, x ∈ F → x ∈ X) (h0 : 0 < r.eps.length) (hm : ∀ k, 0 ≤ itl r.rvd k ∧ itl r.rvd k ≤ 700001) (hd : ∀ e ∈ r.eps, e.dhs.length ≤ 1000000) (hl : r.eps.length ≤ 1000000) (hk2 : k < r.keys.length) (hb : r.behind[k]? = some false) (he : r.keys[k]? = some e) (hep : e.ep < r.eps.length) : Calls Tryd.prog 28 (List.toArray [vp b, vI k]) w0 (Ret fun v w' => Gr w0 w' ∧ v = .bool (!r.wholeB e.ep)) := by
 obtain ⟨q, rfl, h⟩ := hr
 refine b7 (F := []) (ρ := cF b r q) [eP b 0, eI k] hX ⟨rfl, hs, h⟩ ⟨rfl, rfl, trivial⟩ Tryd.func28 rfl Tryd.ntmps28 rfl fun ac hS => ?_
 refine wp_seq ?_
 refine rz hS [] [0, 1, 4] [(0, eP b 0), (1, eI k), (4, eqS vf)] trivial fun ac g w hS => ?_
 refine wp_seq ?_
 refine rz hS [e0 1 [(5, eP b 0)] (eqS vf), e0 5 [(8, eqS vt), (9, eI k)] (eqS vt), e0 12 [(12, eqS vt), (16, eP b 20)] (eqS q.vy), e0 13 [(12, eqS vt), (17, eqS q.vy)] (eI r.keys.length), e0 14 [(12, eqS vt), (13, eI k), (18, eI r.keys.length)] (eqS vt), e0 20 [(21, eqS vt), (24, eP b 21)] (eqS q.vb), e0 22 [(21, eqS vt), (25, eqS q.vb), (26, eI k)] (eP (bkV q.vb) (k * 1)), e0 23 [(21, eqS vt), (27, eP (bkV q.vb) (k * 1))] (eqS vf), e0 31 [(31, eqS vt), (35, eP b 20)] (eqS q.vy), e0 33 [(31, eqS vt), (36, eqS q.vy), (37, eI k)] (eP (bkV q.vy) (k * 6)), e0 35 [(31, eqS vt), (39, eP (bkV q.vy) (k * 6 + 3))] (eI (e.ep : Nat)), e0 36 [(31, eqS vt), (32, eP b 0), (40, eI (e.ep : Nat))] (eB (r.wholeB e.ep))] [4] [(4, eB (!(r.wholeB e.ep)))] ⟨⟨b_ rfl fun ξ g w hB hH => a_ c58 rfl (cR w hB.wf.lt ⟨_, rfl, hB.run.2.2⟩ hB.run.2.2.rs.sub h0), trivial⟩, ⟨bS rfl rfl rfl (congrArg some (decide_eq_true (by omega))), trivial⟩, ⟨cM (cA _ _ _) rfl rfl rfl u53 rfl rfl, trivial⟩, ⟨e_ (e := 58) (m := 6) (cA _ _ _) rfl rfl rfl u53 (fun _ _ h => ⟨_, h.ky⟩), trivial⟩, ⟨bS rfl rfl rfl (congrArg some (decide_eq_true (by omega))), trivial⟩, ⟨cM (cA _ _ _) rfl rfl rfl u36 rfl rfl, trivial⟩, ⟨io (m := 1) (cA _ _ _) rfl rfl rfl rfl u36 sz4 (fun _ _ h => ⟨_, h.bh⟩) (eN hb), trivial⟩, ⟨pR (cA _ _ _) rfl rfl rfl hb, trivial⟩, ⟨cM (cA _ _ _) rfl rfl rfl u53 rfl rfl, trivial⟩, ⟨io (m := 6) (cA _ _ _) rfl rfl rfl rfl u53 mT (fun _ _ h => ⟨_, h.ky⟩) hk2, trivial⟩, ⟨r5 (cA _ _ _) rfl rfl rfl he, trivial⟩, ⟨b_ rfl fun ξ g w hB hH => a_ c62 rfl (lN hm hd hl e.ep hep _ _ w hB.wf.lt ⟨_, rfl, hB.run.2.2⟩ hB.run.2.2.rs.sub), trivial⟩, trivial⟩ fun ac g w hS => ?_
 refine wp_ret ?_
 exact bv hS.f.frm (bw Tryd.results28 (RV.tmp hS.f.frm rfl)) ⟨hS.gr0, rfl⟩
def Rn.cleanZ (r : Rn) (k : Int) : Bool := if 0 ≤ k ∧ k < r.keys.length then r.cleanB k.toNat else false
theorem mJ {b : Nat} {r : Rn} {F X : List Nat} {k : Int} (w0 : World) (hX : ∀ x, x ∈ X → x < w0.heap.size) (hr : RunIs b r F X w0) (hs : ∀ x, x ∈ F → x ∈ X) (h0 : 0 < r.eps.length) (hm : ∀ k, 0 ≤ itl r.rvd k ∧ itl r.rvd k ≤ 700001) (hd : ∀ e ∈ r.eps, e.dhs.length ≤ 1000000) (hl : r.eps.length ≤ 1000000) (hbl : r.behind.length = r.keys.length) (hke : ∀ e ∈ r.keys, e.ep < r.eps.length) : Calls Tryd.prog 28 (List.toArray [vp b, vI k]) w0 (Ret fun v w' => Gr w0 w' ∧ v = .bool (r.cleanZ k)) := by
 by_cases h1 : k < 0
 ·exact dL (xP w0 hX hr hs h0 h1) (by simp [Rn.cleanZ]; omega)
 ·by_cases h2 : (r.keys.length : Int) ≤ k
  ·exact dL (xO w0 hX hr hs h0 (by omega) h2) (by simp [Rn.cleanZ]; omega)
  ·obtain ⟨j, rfl⟩ := Int.eq_ofNat_of_zero_le (show 0 ≤ k by omega)
   have hj : j < r.keys.length := by omega
   have he := List.getElem?_eq_getElem hj
   have hb := List.getElem?_eq_getElem (show j < r.behind.length by omega)
   have e1 : r.cleanZ (j : Int) = r.cleanB j := by unfold Rn.cleanZ; rw [if_pos ⟨by omega, by omega⟩]; simp
   cases hbb : (r.behind[j]'(by omega)) with
   | true => rw [hbb] at hb; exact dL (xN w0 hX hr hs h0 hj hb) (by rw [e1]; simp [Rn.cleanB, List.getD_eq_getElem?_getD, hb])
   | false => rw [hbb] at hb; exact dL (xM w0 hX hr hs h0 hm hd hl hj hb he (hke _ (List.getElem_mem hj))) (by rw [e1]; simp [Rn.cleanB, List.getD_eq_getElem?_getD, hb, he])
end Go.Mi.Term
