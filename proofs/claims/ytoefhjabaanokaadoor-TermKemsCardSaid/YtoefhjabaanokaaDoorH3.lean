/- More operations; induction over terms. -/
import Derived.Test.YtoefhjabaanokaaDoorH2
namespace Go.Mi.Term
open Go.Mi Go.RowKit
theorem Tm.ind {p : Tm → Prop} (h : ∀ k n ks, (∀ t, t ∈ ks → p t) → p (.mk k n ks)) : (t : Tm) → p t
  | .mk k n ks => h k n ks fun t _ => Tm.ind h t
theorem SlA.form {w : World} {X : List Nat} {v : Value} {n : Nat} {xs : List Value} (h : SlA w X v n xs) : ∃ ad cap, v = .slice ad n cap ∧ (0 < n → ∃ b o, ad = some ⟨b, o, none⟩ ∧ b ∉ X ∧ At w b o xs) := by
  rcases h with ⟨rfl, rfl, rfl⟩ | ⟨b, o, cap, rfl, hb, _, ha⟩
  · exact ⟨none, 0, rfl, fun h => absurd h (by omega)⟩
  · exact ⟨_, cap, rfl, fun _ => ⟨b, o, rfl, hb, ha⟩⟩
theorem IsT.form {w : World} {X : List Nat} {t : Tm} {vs : List Value} (h : IsT w X t vs) : ∃ k n ad l c, vs = [.int .i64 k, .int .i64 n, .slice ad l c] := by
  cases t
  simp only [IsT] at h
  obtain ⟨sl, xs, rfl, h1, _⟩ := h
  obtain ⟨ad, cap, rfl, _⟩ := h1.form
  exact ⟨_, _, _, _, _, rfl⟩
mutual
theorem cnt_ge : (t : Tm) → (n : Nat) → n + 1 ≤ cnt t n
  | .mk _ _ ks, n => by simp only [cnt]; exact cntL_ge ks (n + 1)
theorem cntL_ge : (ks : List Tm) → (n : Nat) → n ≤ cntL ks n
  | [], n => by simp only [cntL]; omega
  | k :: ks, n => by
    simp only [cntL]
    split
    · omega
    · have h1 := cnt_ge k n
      have h2 := cntL_ge ks (cnt k n)
      omega
end
theorem cntL_drop {ks : List Tm} {i m : Nat} {t : Tm} (h : ks[i]? = some t) (hm : m ≤ 5000) : cntL (ks.drop (i + 1)) (cnt t m) = cntL (ks.drop i) m := by
  have hl : i < ks.length := by
    rcases Nat.lt_or_ge i ks.length with h' | h'
    · exact h'
    · simp [List.getElem?_eq_none h'] at h
  have ht : ks[i] = t := by simpa [List.getElem?_eq_getElem hl] using h
  rw [List.drop_eq_getElem_cons hl, ht]
  simp only [cntL]
  rw [if_neg (by omega)]
theorem cntL_big {ks : List Tm} {m : Nat} (h : 5000 < m) : cntL ks m = m := by
  cases ks with
  | nil => rfl
  | cons k ks => simp only [cntL]; rw [if_pos h]
theorem shapedL_drop {ks : List Tm} {i d : Nat} {t : Tm} (h : ks[i]? = some t) : shapedL (ks.drop i) d = (shaped t d && shapedL (ks.drop (i + 1)) d) := by
  have hl : i < ks.length := by
    rcases Nat.lt_or_ge i ks.length with h' | h'
    · exact h'
    · simp [List.getElem?_eq_none h'] at h
  have ht : ks[i] = t := by simpa [List.getElem?_eq_getElem hl] using h
  rw [List.drop_eq_getElem_cons hl, ht]
  rfl
theorem may_yes {t : Tm} (h : size t ≤ 5000) : may t = shaped t 0 := by simp only [may, decide_eq_true h, Bool.true_and]
theorem may_no {t : Tm} (h : ¬ size t ≤ 5000) : may t = false := by simp only [may, decide_eq_false h, Bool.false_and]
theorem shaped_no1 {k nm : Int} {ks : List Tm} {d : Nat} (h : (k = 1 ∧ (nm < 0 ∨ 1073741824 < nm)) ∨ k < 1 ∨ 9 < k) : shaped (.mk k nm ks) d = false := by
  have : named k nm = false := by
    simp only [named, Bool.and_eq_false_iff, Bool.or_eq_false_iff, decide_eq_false_iff_not, Bool.not_eq_false', decide_eq_true_eq]
    omega
  simp only [shaped, this, Bool.false_and]
theorem shaped_no2 {k nm : Int} {ks : List Tm} {d lo hi : Nat} (hl : low k = lo) (hh : high k = hi) (h : 100 ≤ d ∨ ks.length < lo ∨ hi < ks.length) : shaped (.mk k nm ks) d = false := by
  have : decide (d < 100 ∧ low k ≤ ks.length ∧ ks.length ≤ high k) = false := decide_eq_false (by omega)
  simp only [shaped, this, Bool.and_false, Bool.false_and]
theorem shaped_no3 {k nm : Int} {ks : List Tm} {d : Nat} (h : shapedL ks (d + 1) = false) : shaped (.mk k nm ks) d = false := by
  simp only [shaped, h, Bool.and_false]
theorem shaped_yes {k nm : Int} {ks : List Tm} {d lo hi : Nat} (hk : 1 ≤ k ∧ k ≤ 9 ∧ (k = 1 → 0 ≤ nm ∧ nm ≤ 1073741824)) (hl : low k = lo) (hh : high k = hi) (h : d < 100 ∧ lo ≤ ks.length ∧ ks.length ≤ hi) (hs : shapedL ks (d + 1) = true) : shaped (.mk k nm ks) d = true := by
  have h1 : named k nm = true := by
    simp only [named, Bool.and_eq_true, Bool.or_eq_true, decide_eq_true_eq, Bool.not_eq_true', decide_eq_false_iff_not]
    omega
  have h2 : decide (d < 100 ∧ low k ≤ ks.length ∧ ks.length ≤ high k) = true := decide_eq_true (by omega)
  simp only [shaped, h1, h2, hs, Bool.and_true]
section
variable {P : Program} {n : Nat} {L : List (Nat × Value)} {w : World} {ds : Option Nat} {ty : TypeId} {pos : String} {af : Array Edge} {gu : Option (Nat × Bool)}
theorem d_nil {x : Operand} {a : Addr} (hx : ev L x = some (.pointer (some a))) : Det P ⟨ds, .nilCheck x, ty, pos, af, gu⟩ n L w (.pointer (some a)) w :=
  Det.of_run fun _ hF => by simp [execOp, hF.eval hx]
end
end Go.Mi.Term
