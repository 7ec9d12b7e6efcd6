/- Terms that a statement hands over, as they lie on the heap. General lemmas. -/
import Derived.Test.YtoefhjabaanokaaDoorF1
import Derived.Test.YtoefhjabaanokaaDoorX1
import Derived.ChangeArms
set_option linter.unusedSimpArgs false
set_option linter.unusedVariables false
set_option linter.unnecessarySimpa false
namespace Go.Mi.Term
open Go.Mi Go.Proofs Go.RowKit
section
variable {H : Type} {enc : TypeId × Value → H} {w : World} {base : Nat} {held : Bool}
theorem cells3 {a : Addr} {cs : List Value} (h : w.cells? base a 3 = some cs) : cs.length = 3 ∧ ∀ j, j < 3 → w.cell? (a.add j) = cs[j]? := by
  unfold World.cells? at h
  split at h
  · refine ⟨by simpa using mapM_some_length h, fun j hj => mapM_some_get h j j (by simp [hj])⟩
  · cases h
theorem rows_of {x : Addr} : ∀ (n i0 : Nat), (∀ i, i < n → ∃ t vs, IsT w [] t vs ∧ vs.length = 3 ∧ ∀ j, j < 3 → w.cell? ((x.add ((i0 + i) * 3)).add j) = vs[j]?) →
    ∃ ts xs, ts.length = n ∧ IsTs w [] ts xs ∧ xs.length = n * 3 ∧ ∀ j, j < n * 3 → w.cell? (x.add (i0 * 3 + j)) = xs[j]?
  | 0, i0, _ => ⟨[], [], rfl, by simp [IsTs], rfl, by simp⟩
  | n + 1, i0, h => by
    obtain ⟨t, vs, h1, h2, h3⟩ := h 0 (by omega)
    obtain ⟨ts, xs, k1, k2, k3, k4⟩ := rows_of n (i0 + 1) fun i hi => by
      have := h (i + 1) (by omega)
      rw [show i0 + (i + 1) = i0 + 1 + i by omega] at this
      exact this
    refine ⟨t :: ts, vs ++ xs, by simp [k1], by simp only [IsTs]; exact ⟨vs, xs, rfl, h1, k2⟩, by simp [h2, k3]; omega, fun j hj => ?_⟩
    rcases Nat.lt_or_ge j 3 with hj3 | hj3
    · rw [List.getElem?_append_left (by omega), ← h3 j hj3, Go.Deep.add_add]
      rw [show (i0 + 0) * 3 + j = i0 * 3 + j by omega]
    · rw [List.getElem?_append_right (by omega), h2, ← k4 (j - 3) (by omega)]
      rw [show (i0 + 1) * 3 + (j - 3) = i0 * 3 + j by omega]
theorem open_slT {fuel : Nat} {v : Value} {x : DataW H × List MemPlace} (ih : ∀ f, f < fuel → ∀ cs y, DataW.trod enc Tryd.prog w base (fun _ => true) held f 26 cs = some y → ∃ t, IsT w [] t cs)
    (h : DataW.trod enc Tryd.prog w base (fun _ => true) held fuel 24 [v] = some x) : ∃ ad len cap ts xs, v = .slice ad len cap ∧ ts.length = len ∧ len ≤ maxLen ∧ SlA w [] (.slice ad len cap) len xs ∧ IsTs w [] ts xs ∧ (len = 0 ∨ ∃ es sp, x.1 = .slice es sp ∧ es.length = len) := by
  rcases DataW.trod_slice Tryd.underlying24 h with ⟨h1, _⟩ | ⟨a, len, cap, elems, rest, n, rfl, h1, hx, hb, hl, hm, hel, hall, _, _⟩
  · cases h1
    exact ⟨none, 0, 0, [], [], rfl, rfl, Nat.zero_le _, .inl ⟨.inl rfl, rfl, rfl⟩, by simp [IsTs], .inl rfl⟩
  · cases h1
    have hc : Tryd.prog.cellsOf 26 = 3 := by kernel_rfl
    rw [hc] at hall
    have each : ∀ i, i < len → ∃ t vs, IsT w [] t vs ∧ vs.length = 3 ∧ ∀ j, j < 3 → w.cell? ((a.add ((0 + i) * 3)).add j) = vs[j]? := by
      intro i hi
      have h2 := hall i hi
      have h3 : elems[i]? = some (elems[i]'(by omega)) := List.getElem?_eq_getElem (by omega)
      rw [h3, Option.bind_eq_some_iff] at h2
      obtain ⟨cs, h4, h5⟩ := h2
      obtain ⟨t, ht⟩ := ih n (by omega) cs _ h5
      obtain ⟨k1, k2⟩ := cells3 h4
      refine ⟨t, cs, ht, k1, fun j hj => ?_⟩
      rw [Nat.zero_add]
      exact k2 j hj
    obtain ⟨ts, xs, k1, k2, k3, k4⟩ := rows_of (x := a) len 0 each
    refine ⟨some a, len, cap, ts, xs, rfl, k1, by omega, ?_, k2, .inr ⟨_, _, by rw [hx], by simpa using hel⟩⟩
    rcases Nat.eq_zero_or_pos len with h0 | h0
    · subst h0
      exact .inl ⟨.inr ⟨a, cap, rfl⟩, rfl, List.eq_nil_of_length_eq_zero (by omega)⟩
    · have e0 := k4 0 (by omega)
      have hx0 : xs[0]? = some (xs[0]'(by omega)) := List.getElem?_eq_getElem (by omega)
      rw [hx0, show a.add (0 * 3 + 0) = a by simp [Addr.add]] at e0
      have hp := plain_cell e0
      have hlt := World.block_lt_of_cell? w _ e0
      have hat : At w a.block a.off xs := fun j u hu => by
        have hj : j < len * 3 := by
          rcases Nat.lt_or_ge j xs.length with h' | h'
          · omega
          · simp [List.getElem?_eq_none h'] at hu
        have := k4 j hj
        rw [hp, add_none, Nat.zero_mul, Nat.zero_add, hu] at this
        exact this
      refine .inr ⟨a.block, a.off, cap, by rw [← hp], by simp, ?_, hat⟩
      exact hlt
theorem len3 {α : Type} {l : List α} (h : l.length = 3) : ∃ a b c, l = [a, b, c] := by
  cases l with
  | nil => cases h
  | cons a l =>
    cases l with
    | nil => cases h
    | cons b l =>
      cases l with
      | nil => cases h
      | cons c l =>
        cases l with
        | nil => exact ⟨a, b, c, rfl⟩
        | cons d l => simp at h
theorem open_trm : ∀ (fuel : Nat) (cs : List Value) (x : DataW H × List MemPlace), DataW.trod enc Tryd.prog w base (fun _ => true) held fuel 26 cs = some x → ∃ t, IsT w [] t cs := by
  intro fuel
  induction fuel using Nat.strongRecOn with
  | _ fuel ih =>
    intro cs x h
    obtain ⟨xs, n, rfl, _, hl, hxl, hf⟩ := DataW.trod_struct Tryd.underlying26 h
    have hc : Tryd.prog.cellsOf 26 = 3 := by kernel_rfl
    have hc3 : Tryd.prog.cellsOf 3 = 1 := by kernel_rfl
    have hc24 : Tryd.prog.cellsOf 24 = 1 := by kernel_rfl
    rw [hc] at hl
    obtain ⟨a, b, c, rfl⟩ := len3 hl
    have f0 : DataW.trod enc Tryd.prog w base (fun _ => true) held n 3 (([a, b, c].drop 0).take (Tryd.prog.cellsOf 3)) = xs[0]? := hf 0 _ rfl
    have f1 : DataW.trod enc Tryd.prog w base (fun _ => true) held n 3 (([a, b, c].drop 1).take (Tryd.prog.cellsOf 3)) = xs[1]? := hf 1 _ rfl
    have f2 : DataW.trod enc Tryd.prog w base (fun _ => true) held n 24 (([a, b, c].drop 2).take (Tryd.prog.cellsOf 24)) = xs[2]? := hf 2 _ rfl
    have hxl : xs.length = 3 := hxl
    rw [List.getElem?_eq_getElem (by omega)] at f0 f1 f2
    simp only [hc3, hc24, List.drop_zero, List.drop_succ_cons, List.take_succ_cons, List.take_zero] at f0 f1 f2
    obtain ⟨k, hk, _, _⟩ := DataW.trod_int Tryd.underlying3 f0
    obtain ⟨nm, hnm, _, _⟩ := DataW.trod_int Tryd.underlying3 f1
    obtain ⟨ad, len, cap, ts, ys, rfl, h1, _, h2, h3, _⟩ := open_slT (fun f hf => ih f (by omega)) f2
    cases hk
    cases hnm
    subst h1
    refine ⟨.mk k nm ts, ?_⟩
    simp only [IsT]
    exact ⟨_, ys, rfl, h2, h3⟩
theorem open_term {v : Value} {d : DataW H} {ps : List MemPlace} (h : DataW.Trod enc Tryd.prog w base (fun _ => true) held 26 v d ps) : ∃ t, IsT w [] t v.cells.toList := by
  obtain ⟨fuel, h⟩ := h
  exact open_trm fuel _ _ h
theorem open_terms {ad : Option Addr} {len cap : Nat} {d : DataW H} {ps : List MemPlace} (h : DataW.Trod enc Tryd.prog w base (fun _ => true) held 24 (.slice ad len cap) d ps) : ∃ ts xs, ts.length = len ∧ len ≤ maxLen ∧ SlA w [] (.slice ad len cap) len xs ∧ IsTs w [] ts xs ∧ (len = 0 ∨ ∃ es sp, d = .slice es sp ∧ es.length = len) := by
  obtain ⟨fuel, h⟩ := h
  obtain ⟨_, _, _, ts, xs, e, h1, h2, h3, h4, h5⟩ := open_slT (fun f _ => open_trm f) (by simpa [Value.cells] using h)
  cases e
  exact ⟨ts, xs, h1, h2, h3, h4, h5⟩
end
end Go.Mi.Term
