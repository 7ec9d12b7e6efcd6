/- What the enemy saw, as a law is told it. General lemmas. -/
import Derived.Test.YtoefhjabaanokaaDoorY22
import Derived.Test.YtoefhjabaanokaaDoorS11
set_option linter.unusedSimpArgs false
set_option linter.unusedVariables false
set_option linter.unnecessarySimpa false
namespace Go.Mi.Term
open Go.Mi Go.Proofs Go.RowKit
abbrev tkS (ts : List Tm) : Sp TT := .pr ⟨fun g w v => ∃ xs, SlA w g.X v ts.length xs ∧ IsTs w g.X ts xs, fun ⟨xs, h1, h2⟩ k => ⟨xs, h1.mv k.ch (Gh.sub _) k.X, IsTs.mv k.ch (Gh.sub _) k.X _ _ h2⟩⟩
abbrev tpS (t : Tm) (j : Nat) : Sp TT := .pr ⟨fun g w v => ∃ b o vs, v = vP b (o + j) ∧ b ∉ g.X ∧ b < w.heap.size ∧ At w b o vs ∧ IsT w g.X t vs, fun ⟨b, o, vs, h1, h2, h3, h4, h5⟩ k => ⟨b, o, vs, h1, fun hm => by
 rcases k.X b hm with h | h
 ·exact h2 h
 ·omega, Nat.lt_of_lt_of_le h3 k.ch.size, h4.mv k.ch fun hm => h2 (Gh.sub _ b hm), IsT.mv k.ch (Gh.sub _) k.X _ _ h5⟩⟩
theorem IsTs.pick {w : World} {X : List Nat} : ∀ {ts : List Tm} {xs : List Value} {j : Nat} {t : Tm}, IsTs w X ts xs → ts[j]? = some t → ∃ u, IsT w X t u ∧ u.length = 3 ∧ (xs.drop (j * 3)).take u.length = u
 | [], _, _, _, _, h => by simp at h
 | s :: ts, xs, 0, t, h, e => by
  simp only [IsTs] at h
  obtain ⟨u, r, rfl, h1, _⟩ := h
  simp at e
  subst e
  obtain ⟨_, _, _, _, _, rfl⟩ := h1.form
  exact ⟨_, h1, rfl, by simp⟩
 | s :: ts, xs, j + 1, t, h, e => by
  simp only [IsTs] at h
  obtain ⟨u, r, rfl, h1, h2⟩ := h
  obtain ⟨_, _, _, _, _, rfl⟩ := h1.form
  obtain ⟨v, h3, h4, h5⟩ := IsTs.pick h2 (by simpa using e)
  refine ⟨v, h3, h4, ?_⟩
  rw [Nat.add_mul, Nat.one_mul, show j * 3 + 3 = ((j * 3 + 1) + 1) + 1 by omega]
  simpa using h5
section
set_option maxRecDepth 100000
variable {ops : List Oper} {n : Nat} {B : Nat → BX XX} {i p b k o base : Nat} {L : TL TT} {ph : List Nat} {ρ : RX} {ns : List (Nat × Sp TT)} {ds : Option Tmp} {ty : TypeId} {pos : String} {af : Array Edge} {gu : Option (Nat × Bool)} {t : TypeId} {x y z : Operand} {κ : RY} {r : Rn} {us : List Tm} {u : Tm} {c : Bool}
theorem q_tkLen (hop : ops.getD i default = ⟨ds, .call ⟨.builtin .len, #[x], #[24]⟩, t, pos, af, gu⟩) (hx : spO L x = some (tkS us)) : EOb Tryd.prog n ops XX B ⟨i, L, eqS (vI us.length), ph, false⟩ p := q_val fun ξ g w hB hH => by
 rw [hop]
 obtain ⟨v, h1, xs, h2, _⟩ := spO_ev hx hH
 obtain ⟨ad, cap, rfl, _⟩ := h2.form
 exact ⟨_, rfl, d_len_slice Tryd.underlying24 h1⟩
theorem q_tkLenQ {m : Int} (hop : ops.getD i default = ⟨ds, .call ⟨.builtin .len, #[x], #[24]⟩, t, pos, af, gu⟩) (hx : spO L x = some (tkS us)) (hm : ((us.length : Nat) : Int) = m) : EOb Tryd.prog n ops XX B ⟨i, L, eqS (vI m), ph, false⟩ p := hm ▸ q_tkLen hop hx
theorem q_tIx {j : Nat} (hop : ops.getD i default = ⟨ds, .indexAddr 24 x y, t, pos, af, gu⟩) (hx : spO L x = some (tkS us)) (hy : spO L y = some (eqS (vI j))) (hu : us[j]? = some u) : EOb Tryd.prog n ops XX B ⟨i, L, tpS u 0, ph, false⟩ p := q_val fun ξ g w hB hH => by
 rw [hop]
 obtain ⟨v, h1, xs, h2, h3⟩ := spO_ev hx hH
 have hj := lt_of_atT hu
 obtain ⟨b, o, cap, rfl, h4, h5, h6⟩ := h2.some (by omega)
 obtain ⟨q, h7, h8, h9⟩ := IsTs.pick h3 hu
 exact ⟨_, ⟨b, o + j * 3, q, rfl, h4, h5, h6.part (j * 3) h9, h7⟩, d_ixSm Tryd.underlying24 sz26 h1 (spO_eq hy) rfl hj⟩
theorem q_tF {f m q : Nat} {fs : Array Field} {fd : Field} (hop : ops.getD i default = ⟨ds, .fieldAddr 26 x f, t, pos, af, gu⟩) (hx : spO L x = some (tpS u 0)) (hs : (Tryd.prog.info? fd.type).map (·.size) = some (m + 1)) (hu : Tryd.prog.underlying 26 = some (.struct fs)) (hf : fs[f]? = some fd) (hq : fd.offset = q) : EOb Tryd.prog n ops XX B ⟨i, L, tpS u q, ph, false⟩ p := q_val fun ξ g w hB hH => by
 rw [hop]
 obtain ⟨v, h1, b, o, vs, rfl, h2⟩ := spO_ev hx hH
 exact ⟨_, ⟨b, o, vs, rfl, h2⟩, d_fieldAddrQ hu hs hf h1 (by rw [hq]; rfl)⟩
theorem q_tK (hop : ops.getD i default = ⟨ds, .load 3 x, t, pos, af, gu⟩) (hx : spO L x = some (tpS u 0)) : EOb Tryd.prog n ops XX B ⟨i, L, eqS (vI u.kind), ph, false⟩ p := q_val fun ξ g w hB hH => by
 rw [hop]
 obtain ⟨v, h1, b, o, vs, rfl, _, _, h4, h5⟩ := spO_ev hx hH
 cases u with
 | mk k nn ks =>
  simp only [IsT] at h5
  obtain ⟨sl, xs, rfl, _, _⟩ := h5
  exact ⟨_, rfl, d_load1 Tryd.underlying3 rfl h1 (h4 0 _ rfl)⟩
theorem q_tKs {kk nn : Int} {ks : List Tm} (hop : ops.getD i default = ⟨ds, .load 24 x, t, pos, af, gu⟩) (hx : spO L x = some (tpS (.mk kk nn ks) 2)) : EOb Tryd.prog n ops XX B ⟨i, L, tkS ks, ph, false⟩ p := q_val fun ξ g w hB hH => by
 rw [hop]
 obtain ⟨v, h1, b, o, vs, rfl, _, _, h4, h5⟩ := spO_ev hx hH
 simp only [IsT] at h5
 obtain ⟨sl, xs, rfl, h6, h7⟩ := h5
 exact ⟨sl, ⟨xs, h6, h7⟩, d_load1 Tryd.underlying24 rfl h1 (h4 2 _ rfl)⟩
theorem q_tL (hop : ops.getD i default = ⟨ds, .load 26 x, t, pos, af, gu⟩) (hx : spO L x = some (tpS u 0)) : EOb Tryd.prog n ops XX B ⟨i, L, tmS u, ph, false⟩ p := q_val fun ξ g w hB hH => by
 rw [hop]
 obtain ⟨v, h1, b, o, vs, rfl, _, _, h4, h5⟩ := spO_ev hx hH
 obtain ⟨a1, a2, ad, l, cp, rfl⟩ := h5.form
 exact ⟨_, ⟨_, _, _, rfl, h5⟩, d_loadC Tryd.underlying26 rfl sz26 h1 (fun j q hq => h4 j q hq) rfl⟩
theorem q_known {ts : Array TypeId} (hg : Good r) (hB0 : B p = stB (lawR κ base b r) ns) (hop : ops.getD i default = ⟨ds, .call ⟨.value (.func 35), #[x], ts⟩, t, pos, af, gu⟩) (hx : spO L x = some (eqS (vp b))) : EOb Tryd.prog n ops XX B ⟨i, L, tkS r.known, ph, false⟩ p := q_of fun ξ g w hB hH => by
 rw [hB0] at hB
 have hB : StB (lawR κ base b r) ns g w := hB
 rw [hop]
 have s := hg.small
 exact ok_call c35 (by simp only [evs, spO_eq hx]) (known_ok w hB.wf.lt hB.run.2.2.2.2 lawSub s.h0 (by have := s.hk; omega) fun e he => (hg.sz.kn e he).fw)
theorem q_world {ts : Array TypeId} (hg : Good r) (hB0 : B p = stB (lawR κ base b r) ns) (hop : ops.getD i default = ⟨ds, .call ⟨.value (.func 36), #[x], ts⟩, t, pos, af, gu⟩) (hx : spO L x = some (eqS (vp b))) : EOb Tryd.prog n ops XX B ⟨i, L, agS (cxV [.bool r.dh, .bool r.kem]), ph, false⟩ p := q_of fun ξ g w hB hH => by
 rw [hB0] at hB
 have hB : StB (lawR κ base b r) ns g w := hB
 rw [hop]
 exact (ok_call c36 (by simp only [evs, spO_eq hx]) (world_ok w hB.wf.lt hB.run.2.2.2.2 lawSub hg.small.h0)).mono fun v w' ⟨h1, h2⟩ => ⟨h1, _, h2, rfl⟩
theorem q_knowsL {ts : Array TypeId} (hg : Good r) (hc : r.open? u ↔ c = true) (hB0 : B p = stB (lawR (andY κ tabY) base b r) ns) (hop : ops.getD i default = ⟨ds, .call ⟨.value (.func 19), #[x, y, z], ts⟩, t, pos, af, gu⟩) (hx : spO L x = some (agS (cxV [.bool r.dh, .bool r.kem]))) (hy : spO L y = some (tkS r.known)) (hz : spO L z = some (tmS u)) : EOb Tryd.prog n ops XX B ⟨i, L, eqS (.bool c), ph, false⟩ p := q_of fun ξ g w hB hH => by
 rw [hB0] at hB
 have hB : StB (lawR (andY κ tabY) base b r) ns g w := hB
 rw [hop]
 obtain ⟨vx, h1, vs, rfl, h2⟩ := spO_ev hx hH
 obtain rfl : vs = [.bool r.dh, .bool r.kem] := h2
 obtain ⟨vy, h3, xs, h4, h5⟩ := spO_ev hy hH
 obtain ⟨vz, h6, h7⟩ := spO_ev hz hH
 obtain ⟨a1, a2, ad2, l2, c2, rfl, hT⟩ := TmIs.cells h7
 obtain ⟨ad, cap, rfl, hsl⟩ := h4.form
 have hsl2 : 0 < r.known.length → ∃ b o, ad = some ⟨b, o, none⟩ ∧ b ∉ ([] : List Nat) ∧ At w b o xs := fun h => by
  obtain ⟨b, o, e1, _, e3⟩ := hsl h
  exact ⟨b, o, e1, by simp, e3⟩
 obtain ⟨c', hc', hr⟩ := Knows_at (W := r.wd) w hB.run.1.2.2 (by have := hg.small.hk; omega) hsl2 (IsTs.sub0 h5) (IsT.sub hT (by simp))
 refine (ok_call c19 (by simp only [evs, h1, h3, h6]; rfl) hr).mono ?_
 rintro v w' ⟨rfl, e3⟩
 refine ⟨e3, ?_⟩
 have : c' = c := by rw [Bool.eq_iff_iff]; exact hc'.trans hc
 rw [this]; rfl
end
end Go.Mi.Term
