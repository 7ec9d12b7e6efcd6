/- Two terms' cells that are made in either order. General lemmas. -/
import Derived.Test.YtoefhjabaanokaaDoorH40
import Derived.Test.YtoefhjabaanokaaDoorD9
set_option linter.unusedSimpArgs false
set_option linter.unusedVariables false
set_option linter.unnecessarySimpa false
namespace Go.Mi.Term
open Go.Mi Go.Proofs Go.RowKit
section
theorem StB.adoptT {ρ : RX} {ns : List (Nat × Sp TT)} {g : Gh} {w w' : World} {b8 b9 : Nat} {us vs : List Value} (h : StB ρ ns g w) (k : Gr w w') (h8 : w.heap.size ≤ b8) (h9 : w.heap.size ≤ b9) (hne : b8 ≠ b9) (c8 : w'.heap[b8]? = some (.cells us.toArray 26 (0, 0))) (c9 : w'.heap[b9]? = some (.cells vs.toArray 26 (0, 0))) {ta tb : Tm} (ha : TmIs w g.X ta (.agg us.toArray)) (hb : TmIs w g.X tb (.agg vs.toArray)) : TT g w ⟨g.F, b8 :: b9 :: g.M, g.Y, g.N ++ [vp b8, vp b9]⟩ w' ∧ StB ρ (ns ++ [(26, tmS ta), (26, tmS tb)]) ⟨g.F, b8 :: b9 :: g.M, g.Y, g.N ++ [vp b8, vp b9]⟩ w' := by
 have ht : TT g w ⟨g.F, b8 :: b9 :: g.M, g.Y, g.N ++ [vp b8, vp b9]⟩ w' := by
  refine ⟨k.ch.mono (by simp), fun x hx => ?_, rfl, fun x hx => by simp [hx], ⟨_, rfl⟩⟩
  simp only [List.mem_append, List.mem_cons] at hx ⊢
  rcases hx with hx | rfl | rfl | hx
  ·exact .inl (.inl hx)
  ·exact .inr h8
  ·exact .inr h9
  ·exact .inl (.inr hx)
 have a : ∀ (j : Nat) b', (g.N ++ [vp b8, vp b9])[j]? = some (vp b') → (g.N[j]? = some (vp b') ∧ j < g.N.length ∧ b' < w.heap.size) ∨ (j = g.N.length ∧ b' = b8) ∨ (j = g.N.length + 1 ∧ b' = b9) := by
  intro j b' hj
  rcases Nat.lt_or_ge j g.N.length with hl | hl
  ·rw [List.getElem?_append_left hl] at hj
   exact .inl ⟨hj, hl, h.pl j b' hj⟩
  ·rw [List.getElem?_append_right hl] at hj
   obtain ⟨d, hd⟩ : ∃ d, j - g.N.length = d := ⟨_, rfl⟩
   rw [hd] at hj
   match d, hd, hj with
   | 0, hd, hj => simp at hj; exact .inr (.inl ⟨by omega, hj.symm⟩)
   | 1, hd, hj => simp at hj; exact .inr (.inr ⟨by omega, hj.symm⟩)
   | d + 2, _, hj => simp at hj
 have l8 := da c8
 have l9 := da c9
 have ks := k.size
 refine ⟨ht, ⟨⟨fun x hx => ?_, fun x hx => ?_⟩, fun j b' hj => ?_, ρ.st h.run k.ch (by simp) rfl rfl ht.X (fun _ _ => ht.nth), fun j j' b' hj b => ?_, by simp [h.len], fun j p hp h0 => ?_⟩⟩
 ·have := h.wf.lt x
  simp only [Gh.X, List.mem_append, List.mem_cons] at hx this
  rcases hx with hx | (rfl | rfl | hx) | hx
  ·have := this (.inl hx); omega
  ·exact l8
  ·exact l9
  ·have := this (.inr (.inl hx)); omega
  ·have := this (.inr (.inr hx)); omega
 ·simp only [List.mem_cons] at hx
  rcases hx with rfl | rfl | hx
  ·exact ⟨fun hf => by have := h.wf.lt x (by simp [Gh.X, hf]); omega, fun hf => by have := h.wf.lt x (by simp [Gh.X, hf]); omega⟩
  ·exact ⟨fun hf => by have := h.wf.lt x (by simp [Gh.X, hf]); omega, fun hf => by have := h.wf.lt x (by simp [Gh.X, hf]); omega⟩
  ·exact h.wf.dj x hx
 ·rcases a j b' hj with ⟨_, _, h3⟩ | ⟨_, rfl⟩ | ⟨_, rfl⟩
  ·omega
  ·exact l8
  ·exact l9
 ·rcases a j b' hj with ⟨h1, h2, h3⟩ | ⟨h1, h3⟩ | ⟨h1, h3⟩ <;> rcases a j' b' b with ⟨k1, k2, k3⟩ | ⟨k1, k3⟩ | ⟨k1, k3⟩
  ·exact h.nd j j' b' h1 k1
  all_goals omega
 ·have hlen := h.len
  rcases Nat.lt_or_ge j ns.length with hl | hl
  ·rw [List.getElem?_append_left hl] at hp
   exact (h.cell j p hp h0).mv ht fun _ _ hb => k.block _ hb
  ·rw [List.getElem?_append_right hl] at hp
   obtain ⟨d, hd⟩ : ∃ d, j - ns.length = d := ⟨_, rfl⟩
   rw [hd] at hp
   match d, hd, hp with
   | 0, hd, hp =>
    simp at hp; subst hp
    exact ⟨b8, _, by show (g.N ++ [vp b8, vp b9])[j]? = _; rw [show j = g.N.length by omega]; simp, by simp, c8, ha.mv k.ch (by simp) ht.X⟩
   | 1, hd, hp =>
    simp at hp; subst hp
    exact ⟨b9, _, by show (g.N ++ [vp b8, vp b9])[j]? = _; rw [show j = g.N.length + 1 by omega]; simp, by simp, c9, hb.mv k.ch (by simp) ht.X⟩
   | d + 2, _, hp => simp at hp
def Zt (w1 : World) (H : Nat → Value) (w : World) (j : Nat) : Prop := ∀ b, H j = vp b → w1.heap.size ≤ b ∧ w.heap[b]? = some (.cells #[vI 0, vI 0, vN] 26 (0, 0))
def C26 (w1 : World) (us vs : List Value) : Nat → (Nat → Value) → World → Prop
 | 0, H, w => Zt w1 H w 8 ∧ Zt w1 H w 9 ∧ ∀ b, H 8 = vp b → H 9 ≠ vp b
 | 1, H, w => ∃ b8 b9, H 8 = vp b8 ∧ H 9 = vp b9 ∧ w1.heap.size ≤ b8 ∧ w1.heap.size ≤ b9 ∧ b8 ≠ b9 ∧ w.heap[b8]? = some (.cells us.toArray 26 (0, 0)) ∧ w.heap[b9]? = some (.cells #[vI 0, vI 0, vN] 26 (0, 0))
 | _, H, w => ∃ b8 b9, H 8 = vp b8 ∧ H 9 = vp b9 ∧ w1.heap.size ≤ b8 ∧ w1.heap.size ≤ b9 ∧ b8 ≠ b9 ∧ w.heap[b8]? = some (.cells us.toArray 26 (0, 0)) ∧ w.heap[b9]? = some (.cells vs.toArray 26 (0, 0))
def W26 (w1 : World) (us vs : List Value) (p : Nat) (H : Nat → Value) (w : World) : Prop := Gr w1 w ∧ C26 w1 us vs p H w
end
section
set_option maxRecDepth 100000
variable {n : Nat} {L0 : List (Nat × Value)} {rows : List HRow} {i p : Nat} {o : Oper} {r : HRow} {H : Nat → Value} {w w' w1 : World} {v : Value} {us vs : List Value} {g : Gh} {b : Nat} {ns : List (Nat × Sp TT)} {ds : Option Tmp} {pos : String} {af : Array Edge} {gu : Option (Nat × Bool)} {t : TypeId} {x y : Operand}
theorem lR (hz : eY L0 r.zs) (hg : o.guard = none) (hm : cq i [10, 11] = false) (hf : cq i [8, 9] = false) (h : ∀ H w, Gr w1 w → Det Tryd.prog o n (r.fr rows H) w (r.out H) w) : GOb Tryd.prog n (W26 w1 us vs) [10, 11] [8, 9] F13 G13 0 L0 rows i o r :=
 ⟨hz, fun p _ H w hW _ => by simp only [hg]; exact Det.og (fun _ => trivial) hm hf hW (h H w hW.1)⟩
theorem rQ (hi : i = 8 ∨ i = 9) (hz : eY L0 r.zs) (hp : r.ph = [0]) (ho : o = ⟨ds, .alloc 26, t, pos, af, none⟩) (hout : ∀ H, r.out H = H i) : GOb Tryd.prog n (W26 w1 us vs) [10, 11] [8, 9] F13 G13 0 L0 rows i o r :=
 ⟨hz, fun p hp' H w hW _ => by
  rw [hp] at hp'
  obtain rfl := ca hp'
  subst ho
  show Ok1 _ _ _ _ _ _
  refine (d8 z26).mono ?_
  rintro v w' ⟨b, rfl, hn⟩
  obtain ⟨k1, k2, k3, k4⟩ := hW
  have hb := hn.num
  have hs := k1.size
  have up : ∀ j, j ≠ i → Zt w1 H w j → Zt w1 (dO H i (vp b)) w' j := fun j hj hz b' hb' => by
   rw [dm hj] at hb'
   obtain ⟨m1, m2⟩ := hz b' hb'
   exact ⟨m1, by rw [hn.ch.gr.block _ (da m2)]; exact m2⟩
  have me : Zt w1 (dO H i (vp b)) w' i := fun b' hb' => by
   rw [dV] at hb'
   cases hb'
   exact ⟨by omega, hn.blk⟩
  have lt : ∀ j b', Zt w1 H w j → H j = vp b' → b' < b := fun j b' hz e => by have := da (hz b' e).2; omega
  refine R2.flo (by rcases hi with rfl | rfl <;> rfl) (by rcases hi with rfl | rfl <;> rfl) ⟨k1.trans hn.ch.gr, ?_⟩ (by rw [hout, dV]) trivial ⟨b, rfl⟩
  rcases hi with rfl | rfl
  ·refine ⟨me, up 9 (by decide) k3, fun b' h1 h2 => ?_⟩
   rw [dV] at h1
   rw [dm (by decide)] at h2
   cases h1
   exact absurd (lt 9 _ k3 h2) (by omega)
  ·refine ⟨up 8 (by decide) k2, me, fun b' h1 h2 => ?_⟩
   rw [dV] at h2
   rw [dm (by decide)] at h1
   cases h2
   exact absurd (lt 8 _ k2 h1) (by omega)⟩
theorem pA (hi : i = 10) (hz : eY L0 r.zs) (hp : r.ph = [0]) (hh : 8 ∈ r.hs ∧ 9 ∈ r.hs) (ho : o = ⟨ds, .store 26 x y, t, pos, af, none⟩) (hx : ∀ H, ev (r.fr rows H) x = some (H 8)) (hy : ∀ H, ev (r.fr rows H) y = some (.agg us.toArray)) (hout : ∀ H, r.out H = H i) (hu3 : us.length = 3) (hu1 : ∀ u ∈ us, u.oneCell' = true) : GOb Tryd.prog n (W26 w1 us vs) [10, 11] [8, 9] F13 G13 0 L0 rows i o r :=
 ⟨hz, fun p hp' H w hW hF => by
  rw [hp] at hp'
  obtain rfl := ca hp'
  subst ho; subst hi
  show Ok1 _ _ _ _ _ _
  obtain ⟨b8, e8⟩ := hF (Nat.le_refl _) 8 hh.1 (by decide) rfl
  obtain ⟨b9, e9⟩ := hF (Nat.le_refl _) 9 hh.2 (by decide) rfl
  obtain ⟨k1, k2, k3, k4⟩ := hW
  obtain ⟨m1, m2⟩ := k2 _ e8
  obtain ⟨m3, m4⟩ := k3 _ e9
  have hne : b8 ≠ b9 := fun e => k4 b8 e8 (by rw [e9, e])
  have hx := hx H
  rw [e8] at hx
  refine (dk bV hx (hy H) (by simpa using hu3) (by simpa using hu1) m2 rfl).mono ?_
  intro v w' hu
  refine R2.eff rfl ⟨?_, b8, b9, by rw [dm (by decide)]; exact e8, by rw [dm (by decide)]; exact e9, m1, m3, hne, hu.blk, by rw [hu.other _ (fun e => hne e.symm)]; exact m4⟩ (by rw [hout, dV]) (fun h => by omega) rfl
  exact ⟨hu.os.trans k1.os, hu.tape.trans k1.tape, hu.output.trans k1.output, by rw [hu.size]; exact k1.size, fun b' hb' => by rw [hu.other _ (by omega)]; exact k1.block _ hb'⟩⟩
theorem pz (hi : i = 11) (hz : eY L0 r.zs) (hp : r.ph = [1]) (ho : o = ⟨ds, .store 26 x y, t, pos, af, none⟩) (hx : ∀ H, ev (r.fr rows H) x = some (H 9)) (hy : ∀ H, ev (r.fr rows H) y = some (.agg vs.toArray)) (hout : ∀ H, r.out H = H i) (hu3 : vs.length = 3) (hu1 : ∀ u ∈ vs, u.oneCell' = true) : GOb Tryd.prog n (W26 w1 us vs) [10, 11] [8, 9] F13 G13 0 L0 rows i o r :=
 ⟨hz, fun p hp' H w hW hF => by
  rw [hp] at hp'
  obtain rfl := ca hp'
  subst ho; subst hi
  show Ok1 _ _ _ _ _ _
  obtain ⟨k1, b8, b9, e8, e9, m1, m3, hne, m2, m4⟩ := hW
  have hx := hx H
  rw [e9] at hx
  refine (dk bV hx (hy H) (by simpa using hu3) (by simpa using hu1) m4 rfl).mono ?_
  intro v w' hu
  refine R2.eff rfl ⟨?_, b8, b9, by rw [dm (by decide)]; exact e8, by rw [dm (by decide)]; exact e9, m1, m3, hne, by rw [hu.other _ hne]; exact m2, hu.blk⟩ (by rw [hout, dV]) (fun h => by omega) rfl
  exact ⟨hu.os.trans k1.os, hu.tape.trans k1.tape, hu.output.trans k1.output, by rw [hu.size]; exact k1.size, fun b' hb' => by rw [hu.other _ (by omega)]; exact k1.block _ hb'⟩⟩
theorem zt0 {w1 w : World} {j : Nat} : Zt w1 (fun _ => undef) w j := fun b h => by simp [undef] at h
theorem sY : W26 w1 us vs 0 (fun _ => undef) { w1 with drawn := w1.drawn + 1 } := ⟨(Ch.drew w1).gr, zt0, zt0, fun b h => by simp [undef] at h⟩
structure Kd2 (w1 : World) (X : List Nat) (c bb o cap : Nat) (kk nn : Int) (ta tb : Tm) (us vs : List Value) : Prop where
 at_ : ∀ {w}, Gr w1 w → w.heap[c]? = some (.cells #[vI kk, vI nn, .slice (some ⟨bb, o, none⟩) 2 cap] 26 (0, 0)) ∧ At w bb o us ∧ At w bb (o + 3) vs
 u3 : us.length = 3
 v3 : vs.length = 3
 u1 : ∀ u ∈ us, u.oneCell' = true
 v1 : ∀ u ∈ vs, u.oneCell' = true
 ta : TmIs w1 X ta (.agg us.toArray)
 tb : TmIs w1 X tb (.agg vs.toArray)
theorem g9 {X : List Nat} {c bb o cap : Nat} {kk nn : Int} {ta tb : Tm} (hk : Kd2 w1 X c bb o cap kk nn ta tb us vs) (k : Gr w1 w) : w.cell? ⟨c, 2, none⟩ = some (.slice (some ⟨bb, o, none⟩) 2 cap) := by rw [cL (hk.at_ k).1]; rfl
theorem qC {ρ : RX} {k : Nat} {kk nn : Int} {ta tb : Tm} (hB : StB ρ ns g w) (hk : ns[k]? = some (26, tmS (.mk kk nn [ta, tb]))) : ∃ c bb o cap us vs, g.N[k]? = some (vp c) ∧ Kd2 w g.X c bb o cap kk nn ta tb us vs := by
 obtain ⟨c, arr, h5, _, h7, h8⟩ := hB.cell k _ hk (show (26 : Nat) ≠ 0 by decide)
 obtain ⟨sl, xs, rfl, h9, h10⟩ := iU h8
 obtain ⟨bb, o, cap, rfl, h11, h12, h13⟩ := h9.some (by simp)
 obtain ⟨us, q1, q2, q3⟩ := IsTs.pick h10 (j := 0) rfl
 obtain ⟨vs, q4, q5, q6⟩ := IsTs.pick h10 (j := 1) rfl
 have a1 := h13.part (0 * 3) q3
 have a2 := h13.part (1 * 3) q6
 have one : ∀ {t : Tm} {us : List Value}, IsT w g.X t us → (∀ u ∈ us, u.oneCell' = true) ∧ TmIs w g.X t (.agg us.toArray) := fun {t us} h => by
  obtain ⟨a1, a2, ad, l, cp, rfl⟩ := h.form
  exact ⟨by simp [Value.oneCell'], _, _, _, rfl, h⟩
 exact ⟨c, bb, o, cap, us, vs, h5, ⟨fun {w'} k => ⟨by rw [k.block _ (da h7)]; exact h7, At.mv (by simpa using a1) k.ch (by simp), At.mv (by simpa using a2) k.ch (by simp)⟩, q2, q5, (one q1).1, (one q4).1, (one q1).2, (one q4).2⟩⟩
theorem tu {L : TL TT} {B : BX XX} {g0 : Gh} {w0 : World} {a : Act} {c x7 k : Nat} (h : SS L n B g0 w0 a g w) (hx : lkS L x7 = some (nwS k)) (hc : g.N[k]? = some (vp c)) (ts : List Nat) : Frm a n ((x7, vp c) :: ts.map fun t => (t, a.tmps.getD t undef)) := ⟨h.f.size, h.f.defers, fun t v hv => by
 simp only [lk] at hv
 by_cases e : x7 = t
 ·subst e
  simp at hv
  subst hv
  have := h.f.get x7 _ hx
  have this : g.N[k]? = some (a.tmps.getD x7 undef) := this
  rw [hc] at this
  exact (Option.some.inj this).symm
 ·rw [d_ e] at hv
  simp only [cond_false] at hv
  clear hx hc e
  induction ts with
  | nil => simp [lk] at hv
  | cons s ts ih =>
   simp only [List.map_cons, lk] at hv
   by_cases e2 : s = t
   ·subst e2; simpa using hv
   ·rw [d_ e2] at hv; exact ih (by simpa using hv)⟩
def kpL (a : Act) (L : TL TT) (L2 : List (Nat × Value)) : TL TT → Prop
 | [] => True
 | (t, s) :: r => (lkS L t = some s ∧ lk L2 t = some (a.tmps.getD t undef)) ∧ kpL a L L2 r
theorem qA {a : Act} {L : TL TT} {L2 : List (Nat × Value)} : ∀ {L' : TL TT} {t : Nat} {s : Sp TT}, kpL a L L2 L' → lkS L' t = some s → lkS L t = some s ∧ lk L2 t = some (a.tmps.getD t undef)
 | (u, v) :: r, t, s, h, hs => by
  simp only [lkS] at hs
  by_cases e : u = t
  ·subst e; simp at hs; subst hs; exact h.1
  ·rw [d_ e] at hs; exact qA h.2 hs
 | [], t, s, _, hs => by simp [lkS] at hs
theorem tv {L L' : TL TT} {ρ : RX} {g0 : Gh} {w0 : World} {a a' : Act} {L2 : List (Nat × Value)} {ta tb : Tm} {c bb o cap m x8 x9 : Nat} {kk nn : Int} (h : SS L n (stB ρ ns) g0 w0 a g w1) (hK : Kd2 w1 g.X c bb o cap kk nn ta tb us vs) (hW : W26 w1 us vs 2 H w') (hF : Frm a' n L2) (h8 : lk L2 x8 = some (H 8)) (h9 : lk L2 x9 = some (H 9)) (hl : ns.length = m) (hL : kpL a L L2 L') : ∃ g', SS ((x8, nwS m) :: (x9, nwS (m + 1)) :: L') n (stB ρ (ns ++ [(26, tmS ta), (26, tmS tb)])) g0 w0 a' g' w' := by
 subst hl
 obtain ⟨k1, b8, b9, e8, e9, m1, m3, hne, m2, m4⟩ := hW
 obtain ⟨t1, t2⟩ := StB.adoptT h.b k1 m1 m3 hne m2 m4 hK.ta hK.tb
 have hlen : g.N.length = ns.length := h.b.len
 refine ⟨_, h.t.trans t1, t2, hF.size, hF.defers, fun t s hs => ?_⟩
 simp only [lkS] at hs
 by_cases c6 : x8 = t
 ·subst c6
  simp at hs; subst hs
  have := hF.get x8 _ h8
  rw [this, e8]
  show (g.N ++ [vp b8, vp b9])[ns.length]? = some (vp b8)
  rw [← hlen]; simp
 rw [d_ c6] at hs
 by_cases c7 : x9 = t
 ·subst c7
  simp at hs; subst hs
  have := hF.get x9 _ h9
  rw [this, e9]
  show (g.N ++ [vp b8, vp b9])[ns.length + 1]? = some (vp b9)
  rw [← hlen]; simp
 rw [d_ c7] at hs
 obtain ⟨q1, q2⟩ := qA hL (by simpa using hs)
 rw [hF.get t _ q2]
 exact Sp.mv (h.f.get t s q1) t1
end
end Go.Mi.Term
