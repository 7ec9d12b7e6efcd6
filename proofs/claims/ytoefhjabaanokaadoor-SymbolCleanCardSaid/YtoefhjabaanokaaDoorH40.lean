/- What the reference's walks need. General lemmas. -/
import Derived.Test.YtoefhjabaanokaaDoorS12
import Derived.Test.YtoefhjabaanokaaDoorY25
set_option linter.unusedSimpArgs false
set_option linter.unusedVariables false
set_option linter.unnecessarySimpa false
namespace Go.Mi.Term
open Go.Mi Go.Proofs Go.RowKit
def fZ (w : World) (X : List Nat) (ts : List Tm) (v : Value) : Prop := ∃ xs, SlA w X v ts.length xs ∧ IsTs w X ts xs
theorem tf4 (x y : Bool) : (x = true ∧ y = true) ∨ (x = true ∧ y = false) ∨ (x = false ∧ y = true) ∨ (x = false ∧ y = false) := by cases x <;> cases y <;> simp
theorem tf3 (x y : Bool) : (x = true ∧ y = true) ∨ (x = true ∧ y = false) ∨ x = false := by cases x <;> cases y <;> simp
theorem tf2 (x : Bool) : x = true ∨ x = false := by cases x <;> simp
theorem mW {ks : List Tm} {d : Nat} (h : cB ks d = true) {x : Tm} (hx : x ∈ ks) : cw x d = true := by
 induction ks with
 | nil => simp at hx
 | cons y l ih =>
  simp only [cB, Bool.and_eq_true] at h
  rcases List.mem_cons.1 hx with rfl | hx
  ·exact h.1
  ·exact ih h.2 hx
theorem lW {k n : Int} {ks : List Tm} {d : Nat} (h : cw (.mk k n ks) d = true) : (1 ≤ k ∧ k ≤ 9) ∧ (k = 1 → 0 ≤ n ∧ n ≤ 1073741824) ∧ d < 100 ∧ low k ≤ ks.length ∧ ks.length ≤ dX k ∧ ∀ x, x ∈ ks → cw x (d + 1) = true := by
 simp only [cw, Bool.and_eq_true, decide_eq_true_eq] at h
 obtain ⟨⟨h1, h2, h3, h4⟩, h5⟩ := h
 simp only [named, Bool.and_eq_true, Bool.or_eq_true, decide_eq_true_eq, Bool.not_eq_true', decide_eq_false_iff_not] at h1
 exact ⟨h1.1, fun e => h1.2.resolve_left (fun h => h e), h2, h3, h4, fun x hx => mW h5 hx⟩
theorem nt {ks : List Tm} {i : Nat} {x : Tm} (hx : ks[i]? = some x) : ck (ks.take (i + 1)) = ck (ks.take i) + cx x := by
 rw [cY hx]
 generalize ks.take i = l
 induction l with
 | nil => simp [ck]
 | cons y l ih => simp only [List.cons_append, ck, ih]; omega
theorem jD (ks : List Tm) (i : Nat) : ck (ks.take i) ≤ ck ks := by
 induction ks generalizing i with
 | nil => simp
 | cons y l ih => cases i with
  | zero => simp [ck]
  | succ i => simp only [List.take_succ_cons, ck]; have := ih i; omega
theorem oZ {ks : List Tm} {x : Tm} (h : x ∈ ks) : cx x ≤ ck ks := by
 induction ks with
 | nil => simp at h
 | cons y l ih =>
  simp only [ck]
  rcases List.mem_cons.1 h with rfl | h
  ·omega
  ·have := ih h; omega
section
variable {W : Wd} {l ks : List Tm} {k n : Int}
theorem tY (h : ci l (.mk k n ks) = true) : rb W l (.mk k n ks) = true := by rw [pM, h]; rfl
theorem l6 (h : ci l (.mk k n ks) = false) : rb W l (.mk k n ks) = rbk W l k ks (ks.map (rb W l)) := by rw [pM, h]; rfl
theorem xn (h : ci l (.mk 1 n ks) = false) : rb W l (.mk 1 n ks) = false := by rw [l6 h]; rfl
theorem xm {a b : Tm} (h : ci l (.mk 3 n [a, b]) = false) : rb W l (.mk 3 n [a, b]) = (((rb W l b || ci l (bB b)) && rb W l a) || ((rb W l a || ci l (bB a)) && rb W l b) || (W.dh && (rb W l a || ci l (bB a)) && (rb W l b || ci l (bB b)))) := by rw [l6 h]; rfl
theorem xl {a b : Tm} (h : ci l (.mk 4 n [a, b]) = false) : rb W l (.mk 4 n [a, b]) = ((rb W l b && (rb W l a || ci l (bB a))) || (((rb W l b && (rb W l a || ci l (bB a))) || ci l (two 5 a b)) && rb W l a) || (W.kem && ((rb W l b && (rb W l a || ci l (bB a))) || ci l (two 5 a b)))) := by rw [l6 h]; rfl
theorem tZ {a b : Tm} (h : ci l (.mk 5 n [a, b]) = false) : rb W l (.mk 5 n [a, b]) = (rb W l b && (ci l (bB a) || rb W l a)) := by rw [l6 h]; rfl
theorem vV (h : ci l (.mk k n ks) = false) (h1 : k ≠ 1) (h3 : k ≠ 3) (h4 : k ≠ 4) (h5 : k ≠ 5) : rb W l (.mk k n ks) = ks.all (rb W l) := by
 rw [l6 h]; unfold rbk; rw [if_neg h1, if_neg h3, if_neg h4, if_neg h5, List.all_map]; rfl
theorem vU (h : ci l (.mk k n ks) = false) (h1 : k ≠ 1) (h3 : k ≠ 3) (h4 : k ≠ 4) (h5 : k ≠ 5) {x : Tm} {i : Nat} (hx : ks[i]? = some x) (hq : rb W l x = false) : rb W l (.mk k n ks) = false := by
 rw [vV h h1 h3 h4 h5]
 exact List.all_eq_false.2 ⟨x, List.mem_of_getElem? hx, by simp [hq]⟩
theorem ru {p : Tm → Bool} {i : Nat} {x : Tm} (hx : ks[i]? = some x) (h : (ks.take i).all p = true) (hq : p x = true) : (ks.take (i + 1)).all p = true := by
 rw [cY hx, List.all_append, h]; simp [hq]
end
end Go.Mi.Term
