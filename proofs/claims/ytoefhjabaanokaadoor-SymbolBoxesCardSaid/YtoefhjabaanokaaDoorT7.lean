/- Locks and hashes: what is known of them. Plain laws. -/
import Derived.Test.YtoefhjabaanokaaDoorK1
set_option linter.unusedSimpArgs false
set_option linter.unusedVariables false
set_option linter.unnecessarySimpa false
namespace Go.Mi.Term
abbrev atomT (n : Int) : Tm := .mk 1 n []
theorem ok_atom {n : Int} (h0 : 0 ≤ n) (h1 : n ≤ 1073741824) : Ok (atomT n) := by
 refine .mk ?_ (by simp [low]) (by simp [high]) (by simp)
 simp only [named, Bool.and_eq_true, Bool.or_eq_true, decide_eq_true_eq, Bool.not_eq_true', decide_eq_false_iff_not]
 omega
theorem atom_alike {a : Tm} {n : Int} (ha : Ok a) (h0 : 0 ≤ n) (h1 : n ≤ 1073741824) (h : txt a = txt (atomT n)) : a = atomT n := by
 have hal := alike ha (ok_atom h0 h1) h
 cases a with
 | mk k m ks =>
  obtain ⟨e1, e2, _⟩ := hal
  simp only [Tm.kind, Tm.name] at e1 e2
  subst e1
  have e2 := e2 rfl
  subst e2
  have := ha.atom
  subst this
  rfl
mutual
theorem cnt_eq : (t : Tm) → (n : Nat) → n + nodes t ≤ 5000 → cnt t n = n + nodes t
 | .mk _ _ ks, n, h => by
  simp only [nodes] at h
  simp only [cnt, nodes]
  rw [cntL_eq ks (n + 1) (by omega)]; omega
theorem cntL_eq : (ts : List Tm) → (n : Nat) → n + nodesL ts ≤ 5000 → cntL ts n = n + nodesL ts
 | [], n, _ => by simp [cntL, nodesL]
 | t :: ts, n, h => by
  simp only [nodesL] at h
  simp only [cntL, nodesL]
  rw [if_neg (by omega), cnt_eq t n (by omega), cntL_eq ts (n + nodes t) (by omega)]; omega
end
theorem may_of {t : Tm} (h : nodes t ≤ 5000) (hs : shaped t 0 = true) : may t = true := by
 have h1 := cnt_eq t 0 (by omega)
 simp only [may, hs, Bool.and_true, decide_eq_true_eq]
 unfold size
 omega
theorem shaped_atom {n : Int} {d : Nat} (h0 : 0 ≤ n) (h1 : n ≤ 1073741824) (hd : d < 100) : shaped (atomT n) d = true := by
 simp only [shaped, shapedL, named, low, high, Bool.and_true, Bool.and_eq_true, Bool.or_eq_true, decide_eq_true_eq, Bool.not_eq_true', decide_eq_false_iff_not, List.length_nil]
 simp
 omega
end Go.Mi.Term
namespace Go.Mi.Term
end Go.Mi.Term
