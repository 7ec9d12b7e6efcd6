/- Texts that belong together: H27, H28, Y12, H29, Y13, H30, Y14. General lemmas and walks; no conditions. -/
import Derived.Test.YtoefhjabaanokaaDoorB8
import Derived.Test.YtoefhjabaanokaaDoorD7
import Derived.Test.YtoefhjabaanokaaDoorD4
set_option linter.unusedSimpArgs false
set_option linter.unusedVariables false
set_option linter.unnecessarySimpa false
namespace Go.Mi.Term
open Go.Mi Go.Proofs Go.RowKit
structure RY where
 P : Gh → World → Prop
 st : ∀ {g g' : Gh} {w w' : World} {C : List Nat}, P g w → Ch C w w' → (∀ c, c ∈ C → c ∈ g.X ∧ c ∉ g.Y) → g'.Y = g.Y → (∀ x, x ∈ g'.X → x ∈ g.X ∨ w.heap.size ≤ x) → P g' w'
def RY.rx (κ : RY) : RX := ⟨fun g w => g.F = [] ∧ κ.P g w, fun ⟨h1, h2⟩ k hc hf hy hx _ => ⟨hf.trans h1, κ.st h2 k (fun c hm => ⟨(hc c hm).1, (hc c hm).2.2⟩) hy hx⟩⟩
def noY : RY := ⟨fun _ _ => True, fun h _ _ _ _ => h⟩
def runY (b : Nat) (r : Rn) (q : Rv) : RY := ⟨fun g w => (∀ x, x ∈ q.F b → x ∈ g.Y) ∧ RunAt w g.X b r q, fun {g g'} _ _ _ ⟨h2, h3⟩ k hc hy hx => ⟨by rw [hy]; exact h2, h3.mv k (fun c hm => ⟨(hc c hm).1, fun h => (hc c hm).2 (h2 c h)⟩) hx fun x hm => by
 have := h2 x hm
 simp [Gh.X, hy, this]⟩⟩
def tabY : RY := ⟨fun g w => 0 ∈ g.Y ∧ T0 w, fun {g g' w w' C} ⟨h1, h2⟩ k hc hy _ => ⟨by rw [hy]; exact h1, hT0 w w' (Ch.below k h2.size fun y hm => by
 rcases Nat.eq_zero_or_pos y with e | e
 ·subst e; exact absurd h1 (hc 0 hm).2
 ·exact e) h2⟩⟩
def andY (κ κ' : RY) : RY := ⟨fun g w => κ.P g w ∧ κ'.P g w, fun ⟨h1, h2⟩ k hc hy hx => ⟨κ.st h1 k hc hy hx, κ'.st h2 k hc hy hx⟩⟩
end Go.Mi.Term
namespace Go.Mi.Term
open Go.Mi Go.Proofs Go.RowKit
theorem lt_of_atT {α : Type} {l : List α} {j : Nat} {a : α} (h : l[j]? = some a) : j < l.length := by
 rcases Nat.lt_or_ge j l.length with h' | h'
 ·exact h'
 ·rw [List.getElem?_eq_none h'] at h; cases h
theorem own0 {w : World} {base e m : Nat} : Own w base e m vN 0 [] := ⟨by simp, .inl ⟨rfl, rfl⟩⟩
end Go.Mi.Term
namespace Go.Mi.Term
open Go.Mi Go.Proofs Go.RowKit
end Go.Mi.Term
namespace Go.Mi.Term
open Go.Mi Go.Proofs Go.RowKit
section
set_option maxRecDepth 100000
variable {ops : List Oper} {n : Nat} {B : Nat → BX XX} {i p b k o : Nat} {L : TL TT} {ph : List Nat} {ρ : RX} {ns : List (Nat × Sp TT)} {ds : Option Tmp} {ty : TypeId} {pos : String} {af : Array Edge} {gu : Option (Nat × Bool)} {t : TypeId} {v : Value} {x y z : Operand} {r : Rn} {q : Rv}
theorem q_ldKyT {j : Nat} {e : Ky} (hr : HasQ ρ b r q) (hB0 : B p = stB ρ ns) (hop : ops.getD i default = ⟨ds, .load 26 x, t, pos, af, gu⟩) (hx : spO L x = some (eqS (vP (bkV q.vy) (j * 6)))) (hj : r.keys[j]? = some e) : EOb Tryd.prog n ops XX B ⟨i, L, tmS e.t, ph, false⟩ p := q_val fun ξ g w hB hH => by
 rw [hB0] at hB
 have hB : StB ρ ns g w := hB
 rw [hop]
 obtain ⟨ts, k1, k2⟩ := ky_at (hr g w hB.run).rs hj
 obtain ⟨_, _, _, _, _, rfl⟩ := k1.form
 exact ⟨_, ⟨_, _, _, rfl, k1⟩, d_loadC Tryd.underlying26 rfl sz26 (spO_eq hx) (k2.part 0 rfl) rfl⟩
theorem q_ldW (hr : HasQ ρ b r q) (hB0 : B p = stB ρ ns) (hop : ops.getD i default = ⟨ds, .load 31 x, t, pos, af, gu⟩) (hx : spO L x = some (eqS (vP b 22))) : EOb Tryd.prog n ops XX B ⟨i, L, agS (cxV [.bool r.dh, .bool r.kem]), ph, false⟩ p := q_val fun ξ g w hB hH => by
 rw [hB0] at hB
 have hB : StB ρ ns g w := hB
 rw [hop]
 exact ⟨_, ⟨_, rfl, rfl⟩, d_loadC Tryd.underlying31 rfl sz31 (spO_eq hx) (At.part (vs := rcl r q) (by have := At.of_blk (hr g w hB.run).hb; simpa using this) 22 rfl) rfl⟩
end
theorem agg_B2 (u v : Bool) : Agg 2 (agS (cxV [.bool u, .bool v])) := fun g w x ⟨vs, h, h2⟩ => by
 obtain rfl : vs = [.bool u, .bool v] := h2
 exact ⟨_, h, rfl, by simp [Value.oneCell']⟩
theorem ag_eq {g : Gh} {w : World} {v : Value} {us : List Value} (h : (agS (cxV us)).hold g w v) : v = .agg us.toArray := by
 obtain ⟨vs, h1, h2⟩ := h
 obtain rfl : vs = us := h2
 exact h1
end Go.Mi.Term
namespace Go.Mi.Term
open Go.Mi Go.Proofs Go.RowKit
end Go.Mi.Term
namespace Go.Mi.Term
open Go.Mi Go.Proofs Go.RowKit
def Rn.open? (r : Rn) (t : Tm) : Prop := may t = true ∧ Der r.wd (Kn r.known) (nrm t)
abbrev kbS (P : Prop) : Sp TT := .pr ⟨fun _ _ v => ∃ c : Bool, v = .bool c ∧ (c = true ↔ P), fun h _ => h⟩
theorem IsTs.sub0 {w : World} {X : List Nat} {ts : List Tm} {vs : List Value} (h : IsTs w X ts vs) : IsTs w [] ts vs := IsTs.sub h (by simp)
theorem knows_run {w : World} {X : List Nat} {b : Nat} {r : Rn} {q : Rv} {u : Tm} {v : Value} (h : RunAt w X b r q) (hw : T0 w) (hkl : r.known.length ≤ 100000000) (hv : TmIs w X u v) : Calls Tryd.prog 19 (List.toArray [.agg #[.bool r.dh, .bool r.kem], q.vk, v]) w (Ret fun v w' => Gr w w' ∧ ∃ c : Bool, v = .bool c ∧ (c = true ↔ r.open? u)) := by
 obtain ⟨a1, a2, ad2, l2, c2, rfl, hT⟩ := TmIs.cells hv
 have hk := h.rs.kn
 obtain ⟨ad, cap, e, hsl⟩ : ∃ ad cap, q.vk = .slice ad r.known.length cap ∧ (0 < r.known.length → ∃ b o, ad = some ⟨b, o, none⟩ ∧ b ∉ ([] : List Nat) ∧ At w b o q.xk) := by
  rcases Own.at hk with ⟨e1, e2, _⟩ | ⟨b', cap, e1, _, e3⟩
  ·exact ⟨none, 0, by rw [e1, e2], fun h => by omega⟩
  ·exact ⟨_, cap, e1, fun _ => ⟨b', 0, rfl, by simp, e3⟩⟩
 rw [e]
 obtain ⟨c, hc, hr⟩ := Knows_at (W := r.wd) w hw hkl hsl (IsTs.sub0 h.rs.kt) (IsT.sub hT (by simp))
 refine hr.mono fun en w' he => ?_
 obtain ⟨v, e1, e2, e3⟩ := he
 exact ⟨v, e1, e3, c, e2, hc⟩
section
set_option maxRecDepth 100000
variable {ops : List Oper} {n : Nat} {B : Nat → BX XX} {i p b : Nat} {L : TL TT} {ph : List Nat} {ns : List (Nat × Sp TT)} {ds : Option Tmp} {pos : String} {af : Array Edge} {gu : Option (Nat × Bool)} {t : TypeId} {x y z : Operand} {r : Rn} {q : Rv} {u : Tm}
theorem hasAT (b : Nat) (r : Rn) (q : Rv) : HasQ (andY (runY b r q) tabY).rx b r q := fun _ _ h => h.2.1.2
theorem q_knows {ts : Array TypeId} (hkl : r.known.length ≤ 100000000) (hB0 : B p = stB (andY (runY b r q) tabY).rx ns) (hop : ops.getD i default = ⟨ds, .call ⟨.value (.func 19), #[x, y, z], ts⟩, t, pos, af, gu⟩) (hx : spO L x = some (agS (cxV [.bool r.dh, .bool r.kem]))) (hy : spO L y = some (eqS q.vk)) (hz : spO L z = some (tmS u)) : EOb Tryd.prog n ops XX B ⟨i, L, kbS (r.open? u), ph, false⟩ p := q_of fun ξ g w hB hH => by
 rw [hB0] at hB
 have hB : StB (andY (runY b r q) tabY).rx ns g w := hB
 rw [hop]
 obtain ⟨vx, h1, vs, rfl, h2⟩ := spO_ev hx hH
 obtain rfl : vs = [.bool r.dh, .bool r.kem] := h2
 have h3 := spO_eq (ξ := ξ) hy
 obtain ⟨vz, h4, h5⟩ := spO_ev hz hH
 exact ok_call c19 (by simp only [evs, h1, h3, h4]) (knows_run hB.run.2.1.2 hB.run.2.2.2 hkl h5)
end
end Go.Mi.Term
namespace Go.Mi.Term
open Go.Mi Go.Proofs Go.RowKit
set_option maxRecDepth 100000 in
set_option maxHeartbeats 4000000 in
theorem dv_a {b : Nat} {r : Rn} {F X : List Nat} {k : Int} (w0 : World) (hX : ∀ x, x ∈ X → x < w0.heap.size) (hr : RunIs b r F X w0) (hs : ∀ x, x ∈ F → x ∈ X) (h0 : 0 < r.eps.length) (h1 : k < 0) : Calls Tryd.prog 29 (List.toArray [vp b, vI k]) w0 (Ret fun v w' => Gr w0 w' ∧ v = .bool false) := by
 obtain ⟨q, rfl, h⟩ := hr
 refine enterR (F := []) (ρ := runOQ b r q) [eqS (vP b 0), eqS (vI k)] hX ⟨rfl, hs, h⟩ ⟨rfl, rfl, trivial⟩ Tryd.func29 rfl Tryd.ntmps29 rfl fun ac hS => ?_
 refine wp_seq ?_
 refine rgl0 hS [] [0, 1, 4] (Lo := [(0, eqS (vP b 0)), (1, eqS (vI k)), (4, eqS vf)]) (by kernel_rfl) (by kernel_rfl) trivial fun ac g w hS => ?_
 refine then_n ?_
 refine wp_seq ?_
 refine rga0 mo hS [e0 1 [(5, eqS (vP b 0))] (eqS vf), e0 5 [(8, eqS vt), (9, eqS (vI k))] (eqS vf)] [0, 1, 4] (Lo := [(0, eqS (vP b 0)), (1, eqS (vI k)), (4, eqS vf)]) (by kernel_rfl) (by kernel_rfl) ⟨⟨q_st rfl fun ξ g w hB hH => ok_call c58 rfl (none_ok w hB.wf.lt ⟨_, rfl, hB.run.2.2⟩ hB.run.2.2.rs.sub h0), trivial⟩, ⟨q_cmp rfl rfl rfl (congrArg some (decide_eq_false (by omega))), trivial⟩, trivial⟩ fun ac g w hS => ?_
 refine then_n ?_
 refine wp_ret ?_
 exact body_ret hS.f.frm (results1 Tryd.results29 (RV.tmp hS.f.frm rfl)) ⟨hS.gr0, rfl⟩
set_option maxRecDepth 100000 in
set_option maxHeartbeats 4000000 in
theorem dv_b {b : Nat} {r : Rn} {F X : List Nat} {k : Int} (w0 : World) (hX : ∀ x, x ∈ X → x < w0.heap.size) (hr : RunIs b r F X w0) (hs : ∀ x, x ∈ F → x ∈ X) (h0 : 0 < r.eps.length) (h1 : 0 ≤ k) (h2 : r.keys.length ≤ k) : Calls Tryd.prog 29 (List.toArray [vp b, vI k]) w0 (Ret fun v w' => Gr w0 w' ∧ v = .bool false) := by
 obtain ⟨q, rfl, h⟩ := hr
 refine enterR (F := []) (ρ := runOQ b r q) [eqS (vP b 0), eqS (vI k)] hX ⟨rfl, hs, h⟩ ⟨rfl, rfl, trivial⟩ Tryd.func29 rfl Tryd.ntmps29 rfl fun ac hS => ?_
 refine wp_seq ?_
 refine rgl0 hS [] [0, 1, 4] (Lo := [(0, eqS (vP b 0)), (1, eqS (vI k)), (4, eqS vf)]) (by kernel_rfl) (by kernel_rfl) trivial fun ac g w hS => ?_
 refine then_n ?_
 refine wp_seq ?_
 refine rga0 mo hS [e0 1 [(5, eqS (vP b 0))] (eqS vf), e0 5 [(8, eqS vt), (9, eqS (vI k))] (eqS vt), e0 12 [(12, eqS vt), (16, eqS (vP b 20))] (eqS q.vy), e0 13 [(12, eqS vt), (17, eqS q.vy)] (eqS (vI r.keys.length)), e0 14 [(12, eqS vt), (13, eqS (vI k)), (18, eqS (vI r.keys.length))] (eqS vf)] [0, 1, 4] (Lo := [(0, eqS (vP b 0)), (1, eqS (vI k)), (4, eqS vf)]) (by kernel_rfl) (by kernel_rfl) ⟨⟨q_st rfl fun ξ g w hB hH => ok_call c58 rfl (none_ok w hB.wf.lt ⟨_, rfl, hB.run.2.2⟩ hB.run.2.2.rs.sub h0), trivial⟩, ⟨q_cmp rfl rfl rfl (congrArg some (decide_eq_true (by omega))), trivial⟩, ⟨q_ldK ((hasOQ _ _ _)) rfl rfl rfl Tryd.underlying53 rfl rfl, trivial⟩, ⟨q_lenOw (e := 58) (m := 6) (hasOQ _ _ _) rfl rfl rfl Tryd.underlying53 (fun _ _ h => ⟨_, h.ky⟩), trivial⟩, ⟨q_cmp rfl rfl rfl (congrArg some (decide_eq_false (by omega))), trivial⟩, trivial⟩ fun ac g w hS => ?_
 refine then_n ?_
 refine wp_ret ?_
 exact body_ret hS.f.frm (results1 Tryd.results29 (RV.tmp hS.f.frm rfl)) ⟨hS.gr0, rfl⟩
set_option maxRecDepth 100000 in
set_option maxHeartbeats 4000000 in
theorem dv_c {b : Nat} {r : Rn} {F X : List Nat} {k : Nat} {e : Ky} (w0 : World) (hX : ∀ x, x ∈ X → x < w0.heap.size) (hr : RunIs b r F X w0) (hs : ∀ x, x ∈ F → x ∈ X) (h0 : 0 < r.eps.length) (h00 : 0 ∈ X) (hT : T0 w0) (hkl : r.known.length ≤ 100000000) (hk2 : k < r.keys.length) (he : r.keys[k]? = some e) : Calls Tryd.prog 29 (List.toArray [vp b, vI k]) w0 (Ret fun v w' => Gr w0 w' ∧ ∃ c : Bool, v = .bool c ∧ (c = true ↔ r.open? e.t)) := by
 obtain ⟨q, rfl, h⟩ := hr
 refine enterR (F := []) (ρ := (andY (runY b r q) tabY).rx) [eqS (vp b), eqS (vI k)] hX ⟨rfl, ⟨hs, h⟩, h00, hT⟩ ⟨rfl, rfl, trivial⟩ Tryd.func29 rfl Tryd.ntmps29 rfl fun ac hS => ?_
 refine wp_seq ?_
 refine rgl0 hS [] [0, 1, 4] (Lo := [(0, eqS (vP b 0)), (1, eqS (vI k)), (4, eqS vf)]) (by kernel_rfl) (by kernel_rfl) trivial fun ac g w hS => ?_
 refine then_n ?_
 refine wp_seq ?_
 refine rga0 mo hS [e0 1 [(5, eqS (vP b 0))] (eqS vf), e0 5 [(8, eqS vt), (9, eqS (vI k))] (eqS vt), e0 12 [(12, eqS vt), (16, eqS (vP b 20))] (eqS q.vy), e0 13 [(12, eqS vt), (17, eqS q.vy)] (eqS (vI r.keys.length)), e0 14 [(12, eqS vt), (13, eqS (vI k)), (18, eqS (vI r.keys.length))] (eqS vt), e0 20 [(21, eqS vt), (24, eqS (vP b 22))] (agS (cxV [.bool r.dh, .bool r.kem])), e0 24 [(21, eqS vt), (28, eqS (vP b 17))] (eqS q.vk), e0 28 [(21, eqS vt), (32, eqS (vP b 20))] (eqS q.vy), e0 30 [(21, eqS vt), (33, eqS q.vy), (34, eqS (vI k))] (eqS (vP (bkV q.vy) (k * 6))), e0 32 [(21, eqS vt), (36, eqS (vP (bkV q.vy) (k * 6 + 0)))] (tmS e.t), e0 33 [(21, eqS vt), (25, agS (cxV [.bool r.dh, .bool r.kem])), (29, eqS q.vk), (37, tmS e.t)] (kbS (r.open? e.t))] [0, 1, 4] (Lo := [(0, eqS (vP b 0)), (1, eqS (vI k)), (4, kbS (r.open? e.t))]) (by kernel_rfl) (by kernel_rfl) ⟨⟨q_st rfl fun ξ g w hB hH => ok_call c58 rfl (none_ok w hB.wf.lt ⟨_, rfl, hB.run.2.1.2⟩ hB.run.2.1.2.rs.sub h0), trivial⟩, ⟨q_cmp rfl rfl rfl (congrArg some (decide_eq_true (by omega))), trivial⟩, ⟨q_ldK ((hasAT _ _ _)) rfl rfl rfl Tryd.underlying53 rfl rfl, trivial⟩, ⟨q_lenOw (e := 58) (m := 6) (hasAT _ _ _) rfl rfl rfl Tryd.underlying53 (fun _ _ h => ⟨_, h.ky⟩), trivial⟩, ⟨q_cmp rfl rfl rfl (congrArg some (decide_eq_true (by omega))), trivial⟩, ⟨q_ldW (hasAT _ _ _) rfl rfl rfl, trivial⟩, ⟨q_ldK ((hasAT _ _ _)) rfl rfl rfl Tryd.underlying24 rfl rfl, trivial⟩, ⟨q_ldK ((hasAT _ _ _)) rfl rfl rfl Tryd.underlying53 rfl rfl, trivial⟩, ⟨q_ixOw (m := 6) (hasAT _ _ _) rfl rfl rfl rfl Tryd.underlying53 sz58 (fun _ _ h => ⟨_, h.ky⟩) hk2, trivial⟩, ⟨q_ldKyT (hasAT _ _ _) rfl rfl rfl he, trivial⟩, ⟨q_knows hkl rfl rfl rfl rfl rfl, trivial⟩, trivial⟩ fun ac g w hS => ?_
 refine then_n ?_
 refine wp_ret ?_
 exact body_ret hS.f.frm (results1 Tryd.results29 (RV.tmp hS.f.frm rfl)) ⟨hS.gr0, hS.f.get 4 _ rfl⟩
def Rn.derP (r : Rn) (k : Int) : Prop := ∃ j e, k = (j : Nat) ∧ r.keys[j]? = some e ∧ r.open? e.t
theorem deriv_ok {b : Nat} {r : Rn} {F X : List Nat} {k : Int} (w0 : World) (hX : ∀ x, x ∈ X → x < w0.heap.size) (hr : RunIs b r F X w0) (hs : ∀ x, x ∈ F → x ∈ X) (h0 : 0 < r.eps.length) (h00 : 0 ∈ X) (hT : T0 w0) (hkl : r.known.length ≤ 100000000) : Calls Tryd.prog 29 (List.toArray [vp b, vI k]) w0 (Ret fun v w' => Gr w0 w' ∧ ∃ c : Bool, v = .bool c ∧ (c = true ↔ r.derP k)) := by
 by_cases h1 : k < 0
 ·exact (dv_a w0 hX hr hs h0 h1).mono fun en w' ⟨v, e1, e2, e3⟩ => ⟨v, e1, e2, false, e3, by simp [Rn.derP]; intro j e; omega⟩
 ·by_cases h2 : (r.keys.length : Int) ≤ k
  ·exact (dv_b w0 hX hr hs h0 (by omega) h2).mono fun en w' ⟨v, e1, e2, e3⟩ => ⟨v, e1, e2, false, e3, by
    simp only [Rn.derP, Bool.false_eq_true, false_iff]
    rintro ⟨j, e, rfl, h3, _⟩
    have := lt_of_atT h3
    omega⟩
  ·obtain ⟨j, rfl⟩ := Int.eq_ofNat_of_zero_le (show 0 ≤ k by omega)
   have hj : j < r.keys.length := by omega
   have he := List.getElem?_eq_getElem hj
   exact (dv_c w0 hX hr hs h0 h00 hT hkl hj he).mono fun en w' ⟨v, e1, e2, c, e3, e4⟩ => ⟨v, e1, e2, c, e3, e4.trans ⟨fun h => ⟨j, _, rfl, he, h⟩, by
    rintro ⟨j', e, h5, h6, h7⟩
    obtain rfl : j = j' := by omega
    rw [he] at h6
    cases h6
    exact h7⟩⟩
end Go.Mi.Term
