/- Locks and hashes: what is known of them. Plain laws. -/
import Derived.Test.YtoefhjabaanokaaDoorK1
set_option linter.unusedSimpArgs false
set_option linter.unusedVariables false
set_option linter.unnecessarySimpa false
namespace Go.Mi.Term
abbrev oG (n : Int) : Tm := .mk 1 n []
theorem oa {n : Int} (h0 : 0 ≤ n) (h1 : n ≤ 1073741824) : Ok (oG n) := by
 refine .mk ?_ (by simp [low]) (by simp [dX]) (by simp)
 simp only [named, Bool.and_eq_true, Bool.or_eq_true, decide_eq_true_eq, Bool.not_eq_true', decide_eq_false_iff_not]
 omega
theorem nO {a : Tm} {n : Int} (ha : Ok a) (h0 : 0 ≤ n) (h1 : n ≤ 1073741824) (h : txt a = txt (oG n)) : a = oG n := by
 have hal := eo ha (oa h0 h1) h
 cases a with
 | mk k m ks =>
  obtain ⟨e1, e2, _⟩ := hal
  simp only [Tm.kind, Tm.name] at e1 e2
  subst e1
  have e2 := e2 rfl
  subst e2
  have := ha.atom
  subst this
  rfl
mutual
theorem re : (t : Tm) → (n : Nat) → n + cx t ≤ 5000 → cnt t n = n + cx t
 | .mk _ _ ks, n, h => by
  simp only [cx] at h
  simp only [cnt, cx]
  rw [oA ks (n + 1) (by omega)]; omega
theorem oA : (ts : List Tm) → (n : Nat) → n + ck ts ≤ 5000 → eR ts n = n + ck ts
 | [], n, _ => by simp [eR, ck]
 | t :: ts, n, h => by
  simp only [ck] at h
  simp only [eR, ck]
  rw [if_neg (by omega), re t n (by omega), oA ts (n + cx t) (by omega)]; omega
end
theorem uA {t : Tm} (h : cx t ≤ 5000) (hs : cw t 0 = true) : may t = true := by
 have h1 := re t 0 (by omega)
 simp only [may, hs, Bool.and_true, decide_eq_true_eq]
 unfold size
 omega
theorem lX {n : Int} {d : Nat} (h0 : 0 ≤ n) (h1 : n ≤ 1073741824) (hd : d < 100) : cw (oG n) d = true := by
 simp only [cw, cB, named, low, dX, Bool.and_true, Bool.and_eq_true, Bool.or_eq_true, decide_eq_true_eq, Bool.not_eq_true', decide_eq_false_iff_not, List.length_nil]
 simp
 omega
end Go.Mi.Term
namespace Go.Mi.Term
end Go.Mi.Term
