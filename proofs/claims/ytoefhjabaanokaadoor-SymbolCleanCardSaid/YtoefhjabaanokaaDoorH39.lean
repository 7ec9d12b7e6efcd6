/- The reference's comparing of terms: what it says of terms that may be. General lemmas. -/
import Derived.Test.YtoefhjabaanokaaDoorH38
set_option linter.unusedSimpArgs false
set_option linter.unusedVariables false
set_option linter.unnecessarySimpa false
namespace Go.Mi.Term
open Go.Mi Go.Proofs Go.RowKit
section
set_option maxRecDepth 100000
variable {ops : List Oper} {n : Nat} {B : Nat → BX XX} {i p b k o base : Nat} {L : TL TT} {ph : List Nat} {ρ : RX} {ns : List (Nat × Sp TT)} {ds : Option Tmp} {ty : TypeId} {pos : String} {af : Array Edge} {gu : Option (Nat × Bool)} {t : TypeId} {x y z : Operand} {kk nn : Int} {ks : List Tm}
theorem iU {w : World} {X : List Nat} {c : Array Value} (h : TmIs w X (.mk kk nn ks) (.agg c)) : ∃ sl xs, c = #[vI kk, vI nn, sl] ∧ SlA w X sl ks.length xs ∧ IsTs w X ks xs := by
 obtain ⟨a1, a2, sl, e, h2⟩ := h
 simp only [IsT] at h2
 obtain ⟨sl', xs, e2, h3, h4⟩ := h2
 simp only [List.cons.injEq, Value.int.injEq, true_and, and_true] at e2
 obtain ⟨rfl, rfl, rfl⟩ := e2
 cases e
 exact ⟨_, xs, rfl, h3, h4⟩
theorem fp (hB0 : B p = stB ρ ns) (hop : ops.getD i default = ⟨ds, .load 3 x, t, pos, af, gu⟩) (hx : spO L x = some (nwO k 0)) (hk : ns[k]? = some (26, tmS (.mk kk nn ks))) : EOb Tryd.prog n ops XX B ⟨i, L, eI kk, ph, false⟩ p := bL fun ξ g w hB hH => by
 rw [hB0] at hB
 have hB : StB ρ ns g w := hB
 rw [hop]
 obtain ⟨vx, h1, b', h2, rfl⟩ := bI hx hH
 obtain ⟨b, c, h5, _, h7, h8⟩ := hB.cell k _ hk (show (26 : Nat) ≠ 0 by decide)
 rw [h5] at h2
 cases h2
 obtain ⟨sl, xs, rfl, _⟩ := iU h8
 exact ⟨_, rfl, bF Tryd.underlying3 rfl h1 (by rw [cL h7]; rfl)⟩
theorem oQ (hB0 : B p = stB ρ ns) (hop : ops.getD i default = ⟨ds, .load 3 x, t, pos, af, gu⟩) (hx : spO L x = some (nwO k 1)) (hk : ns[k]? = some (26, tmS (.mk kk nn ks))) : EOb Tryd.prog n ops XX B ⟨i, L, eI nn, ph, false⟩ p := bL fun ξ g w hB hH => by
 rw [hB0] at hB
 have hB : StB ρ ns g w := hB
 rw [hop]
 obtain ⟨vx, h1, b', h2, rfl⟩ := bI hx hH
 obtain ⟨b, c, h5, _, h7, h8⟩ := hB.cell k _ hk (show (26 : Nat) ≠ 0 by decide)
 rw [h5] at h2
 cases h2
 obtain ⟨sl, xs, rfl, _⟩ := iU h8
 exact ⟨_, rfl, bF Tryd.underlying3 rfl h1 (by rw [cL h7]; rfl)⟩
theorem dw (hB0 : B p = stB ρ ns) (hop : ops.getD i default = ⟨ds, .load 24 x, t, pos, af, gu⟩) (hx : spO L x = some (nwO k 2)) (hk : ns[k]? = some (26, tmS (.mk kk nn ks))) : EOb Tryd.prog n ops XX B ⟨i, L, tkS ks, ph, false⟩ p := bL fun ξ g w hB hH => by
 rw [hB0] at hB
 have hB : StB ρ ns g w := hB
 rw [hop]
 obtain ⟨vx, h1, b', h2, rfl⟩ := bI hx hH
 obtain ⟨b, c, h5, _, h7, h8⟩ := hB.cell k _ hk (show (26 : Nat) ≠ 0 by decide)
 rw [h5] at h2
 cases h2
 obtain ⟨sl, xs, rfl, h9, h10⟩ := iU h8
 exact ⟨sl, ⟨xs, h9, h10⟩, bF u24 rfl h1 (by rw [cL h7]; rfl)⟩
end
def ei (a b : Tm) : Bool := decide (txt a = txt b)
def fx (l m : List Tm) (i : Nat) : Bool := decide ((l.take i).map txt = (m.take i).map txt)
theorem pn {l m : List Tm} {i : Nat} {a b : Tm} (ha : l[i]? = some a) (hb : m[i]? = some b) (h : fx l m i = true) : ei a b = fx l m (i + 1) := by
 have h := of_decide_eq_true h
 unfold ei fx
 rw [cY ha, cY hb, List.map_append, List.map_append, h]
 simp
theorem rA {l m : List Tm} {i : Nat} (h : fx l m i = false) (hl : i ≤ l.length) (he : l.length = m.length) : fx l m l.length = false := by
 have h := of_decide_eq_false h
 refine decide_eq_false fun h2 => h ?_
 have := congrArg (List.take i) h2
 rw [← List.map_take, ← List.map_take, List.take_take, List.take_take, Nat.min_eq_left hl] at this
 exact this
def ci (l : List Tm) (t : Tm) : Bool := l.any fun x => ei x t
theorem sC {l : List Tm} {t x : Tm} {i : Nat} (hx : l[i]? = some x) (h : ei x t = true) : ci l t = true := List.any_eq_true.2 ⟨x, List.mem_of_getElem? hx, h⟩
theorem qJ {l : List Tm} {t x : Tm} {i : Nat} (hx : l[i]? = some x) (hn : ci (l.take i) t = false) (h : ei x t = false) : ci (l.take (i + 1)) t = false := by
 unfold ci at hn ⊢
 rw [cY hx, List.any_append, hn]
 simp [h]
theorem pD (c : Bool) (k : Int) : c = true ∨ (c = false ∧ k = 3) ∨ (c = false ∧ ¬k = 3) := by cases c <;> simp <;> omega
theorem jI : ∀ x y : Tx, (dZ x y = true ∧ dZ y x = false) ∨ (dZ y x = true ∧ dZ x y = false) ∨ x = y
 | [], [] => .inr (.inr rfl)
 | [], _ :: _ => .inl ⟨rfl, rfl⟩
 | _ :: _, [] => .inr (.inl ⟨rfl, rfl⟩)
 | a :: x, b :: y => by
  simp only [dZ, Bool.or_eq_true, Bool.or_eq_false_iff, Bool.and_eq_true, Bool.and_eq_false_iff, decide_eq_true_eq, decide_eq_false_iff_not, beq_iff_eq, beq_eq_false_iff_ne, List.cons.injEq]
  have e1 : a < b ↔ a.toNat < b.toNat := Iff.rfl
  have e2 : b < a ↔ b.toNat < a.toNat := Iff.rfl
  have e3 : a = b ↔ a.toNat = b.toNat := ⟨fun h => by rw [h], UInt8.toNat_inj.1⟩
  have e4 : b = a ↔ b.toNat = a.toNat := ⟨fun h => by rw [h], UInt8.toNat_inj.1⟩
  rw [e1, e2]
  simp only [ne_eq, e3, e4]
  rcases Nat.lt_trichotomy a.toNat b.toNat with h | h | h
  ·exact .inl ⟨.inl h, by omega, .inl (by omega)⟩
  ·rcases jI x y with ⟨h1, h2⟩ | ⟨h1, h2⟩ | h1
   ·exact .inl ⟨.inr ⟨h, h1⟩, by omega, .inr h2⟩
   ·exact .inr (.inl ⟨.inr ⟨h.symm, h1⟩, by omega, .inr h2⟩)
   ·exact .inr (.inr ⟨h, h1⟩)
  ·exact .inr (.inl ⟨.inl h, by omega, .inl (by omega)⟩)
theorem mY (x y : Tx) : fJ 3 [x, y] = fJ 3 [y, x] := by
 simp only [fJ, if_true]
 rcases jI x y with ⟨h1, h2⟩ | ⟨h1, h2⟩ | rfl
 ·rw [h1, h2]; rfl
 ·rw [h1, h2]; rfl
 ·rfl
theorem py {n n' : Int} {a b c d : Tm} (h1 : txt a = txt d) (h2 : txt b = txt c) : txt (.mk 3 n [a, b]) = txt (.mk 3 n' [c, d]) := by
 rw [fc (by decide), fc (by decide), ← kR, ← kR]
 simp only [List.map_cons, List.map_nil, h1, h2]
 rw [mY]
section
variable {k n n' : Int} {ks ks' : List Tm}
theorem rU {a b : Tm} (ha : Ok a) (hb : Ok b) (h : ¬a.kind = b.kind) : ei a b = false := decide_eq_false fun e => h (eo ha hb e).1
theorem tN (ha : Ok (.mk k n ks)) (hb : Ok (.mk k n' ks')) (h : ¬ks.length = ks'.length) : ei (.mk k n ks) (.mk k n' ks') = false := decide_eq_false fun e => h (by
 by_cases hk : k = 1
 ·subst hk; rw [ha.atom, hb.atom]
 ·have := congrArg List.length ((eo ha hb e).2.2 hk)
  simpa [Tm.kind, Tm.kids, kS] using this)
theorem rT (ha : Ok (.mk 1 n ks)) (hb : Ok (.mk 1 n' ks')) (h : ¬n = n') : ei (.mk 1 n ks) (.mk 1 n' ks') = false := decide_eq_false fun e => h ((eo ha hb e).2.1 rfl)
theorem tM (hn : k = 1 → n = n') (hl : ks.length = ks'.length) (h : fx ks ks' ks.length = true) : ei (.mk k n ks) (.mk k n' ks') = true := by
 have h := of_decide_eq_true h
 rw [List.take_length, hl, List.take_length] at h
 refine decide_eq_true ?_
 by_cases hk : k = 1
 ·subst hk; rw [eH, eH, hn rfl]
 ·exact ik hk h
theorem vG (ha : Ok (.mk k n ks)) (hb : Ok (.mk k n' ks')) (hl : ks.length = ks'.length) (h : fx ks ks' ks.length = false) (h3 : ¬k = 3) : ei (.mk k n ks) (.mk k n' ks') = false := by
 have h := of_decide_eq_false h
 rw [List.take_length, hl, List.take_length] at h
 refine decide_eq_false fun e => h ?_
 by_cases hk : k = 1
 ·subst hk; rw [ha.atom, hb.atom]
 ·have := (eo ha hb e).2.2 hk
  simpa [Tm.kind, Tm.kids, eb h3] using this
theorem vH {a b c d : Tm} (ha : Ok (.mk 3 n [a, b])) (hb : Ok (.mk 3 n' [c, d])) (h : fx [a, b] [c, d] 2 = false) : ei (.mk 3 n [a, b]) (.mk 3 n' [c, d]) = (ei a d && ei b c) := by
 have h := of_decide_eq_false h
 unfold ei
 rw [Bool.eq_iff_iff, Bool.and_eq_true]
 simp only [decide_eq_true_eq]
 constructor
 ·intro e
  rcases wj ((eo ha hb e).2.2 (by simp [Tm.kind])) with h1 | h1
  ·exact absurd (by simp [h1.1, h1.2]) h
  ·exact h1
 ·exact fun ⟨h1, h2⟩ => py h1 h2
end
end Go.Mi.Term
