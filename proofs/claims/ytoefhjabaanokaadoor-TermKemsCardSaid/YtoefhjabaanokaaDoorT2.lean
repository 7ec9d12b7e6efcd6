/- Lengths of texts; what building asks is shorter. Plain laws. -/
import Derived.Test.YtoefhjabaanokaaDoorT1
namespace Go.Mi.Term
def tlen (t : Tm) : Nat := (txt t).length
theorem rowed_sum (k : Int) (l : List Tx) : ((rowed k l).map List.length).sum = (l.map List.length).sum ∧ (rowed k l).length = l.length := by
  unfold rowed
  split
  · match l with
    | [] => exact ⟨rfl, rfl⟩
    | [_] => exact ⟨rfl, rfl⟩
    | a :: b :: r =>
      simp only
      split
      · simp; omega
      · exact ⟨rfl, rfl⟩
  · exact ⟨rfl, rfl⟩
theorem tlen_more {k n : Int} {ks : List Tm} (hk : k ≠ 1) (h : 0 < ks.length) : tlen (.mk k n ks) = (word k).length + 1 + (ks.map tlen).sum + ks.length := by
  have h1 := rowed_sum k (ks.map txt)
  have h2 : (ks.map txt).map List.length = ks.map tlen := by rw [List.map_map]; rfl
  rw [h2] at h1
  obtain ⟨h3, h4⟩ := h1
  rw [List.length_map] at h4
  unfold tlen
  simp only [txt, wtn, if_neg hk, txtL_map]
  cases hr : rowed k (ks.map txt) with
  | nil => rw [hr] at h4; simp at h4; omega
  | cons x r =>
    have h5 := Lib.join_length x r [44]
    rw [hr] at h3 h4
    simp only [List.length_append, h5, Lib.lens, h3, List.length_cons, List.length_nil] at h4 ⊢
    have h6 : (List.map tlen ks).sum = (List.map (fun t => (txt t).length) ks).sum := rfl
    omega
theorem tlen_kid {k n : Int} {ks : List Tm} {t : Tm} (hk : k ≠ 1) (h : t ∈ ks) : tlen t + 1 < tlen (.mk k n ks) := by
  have h0 : 0 < ks.length := List.length_pos_of_mem h
  have h1 : tlen t ≤ (ks.map tlen).sum := by
    have : tlen t ∈ ks.map tlen := List.mem_map_of_mem h
    generalize ks.map tlen = l at this
    induction l with
    | nil => simp at this
    | cons x l ih =>
      rcases List.mem_cons.1 this with h | h
      · simp; omega
      · have := ih h; simp; omega
  rw [tlen_more hk h0]
  omega
theorem Ok.kid {k n : Int} {ks : List Tm} (h : Ok (.mk k n ks)) {t : Tm} (ht : t ∈ ks) : Ok t := h.kids.2.2 t ht
theorem low_high {k : Int} {ks : List Tm} {n : Int} (h : Ok (.mk k n ks)) : (k = 2 → ks.length = 1) ∧ (k ≠ 1 → k ≠ 2 → k ≠ 6 → ks.length = 2) ∧ (k = 6 → 1 ≤ ks.length ∧ ks.length ≤ 8) ∧ ks.length ≤ 8 := by
  obtain ⟨h1, h2, _⟩ := h.kids
  unfold low at h1
  unfold high at h2
  refine ⟨fun e => ?_, fun e1 e2 e6 => ?_, fun e => ?_, ?_⟩
  · subst e; simp at h1 h2; omega
  · rw [if_neg e1, if_neg (by omega)] at h1
    rw [if_neg e1, if_neg e2, if_neg e6] at h2
    omega
  · subst e; simp at h1 h2; omega
  · split at h2
    · omega
    · split at h2
      · omega
      · split at h2 <;> omega
theorem two_of {ks : List Tm} (h : ks.length = 2) : ∃ a b, ks = [a, b] := by
  match ks, h with
  | [a, b], _ => exact ⟨a, b, rfl⟩
theorem Ok.two' {k n : Int} {ks : List Tm} (h : Ok (.mk k n ks)) (h1 : k ≠ 1) (h2 : k ≠ 2) (h6 : k ≠ 6) : ∃ a b, ks = [a, b] ∧ Ok a ∧ Ok b := by
  obtain ⟨a, b, rfl⟩ := two_of ((low_high h).2.1 h1 h2 h6)
  exact ⟨a, b, rfl, h.kid (by simp), h.kid (by simp)⟩
theorem ok_pub {t : Tm} (h : Ok t) : Ok (pubOf t) := .mk rfl (by simp [low]) (by simp [high]) (by simpa using h)
theorem ok_two {k : Int} {a b : Tm} (hk : 3 ≤ k ∧ k ≤ 9 ∧ k ≠ 6) (ha : Ok a) (hb : Ok b) : Ok (.mk k 0 [a, b]) := by
  refine .mk ?_ ?_ ?_ ?_
  · simp only [named, Bool.and_eq_true, Bool.or_eq_true, decide_eq_true_eq, Bool.not_eq_true', decide_eq_false_iff_not]; omega
  · unfold low; rw [if_neg (by omega), if_neg (by omega)]; exact Nat.le_refl _
  · unfold high; rw [if_neg (by omega), if_neg (by omega), if_neg (by omega)]; exact Nat.le_refl _
  · intro t ht
    simp at ht
    rcases ht with rfl | rfl
    · exact ha
    · exact hb
theorem tlen_pub (t : Tm) : tlen (pubOf t) = tlen t + 5 := by
  unfold pubOf
  rw [tlen_more (by decide) (by simp)]
  simp [word]; omega
theorem tlen_two {k n : Int} {a b : Tm} (hk : k ≠ 1) : tlen (.mk k n [a, b]) = (word k).length + tlen a + tlen b + 3 := by
  rw [tlen_more hk (by simp)]
  simp; omega
theorem ways_ok {W : Wd} {t : Tm} (h : Ok t) {l : List Tm} (hl : l ∈ ways W t) {u : Tm} (hu : u ∈ l) : Ok u ∧ tlen u < tlen t := by
  cases t with
  | mk k n ks =>
    unfold ways at hl
    dsimp only at hl
    by_cases h1 : k = 1
    · rw [if_pos h1] at hl; simp at hl
    rw [if_neg h1] at hl
    have kid : ∀ t, t ∈ ks → Ok t ∧ tlen t < tlen (.mk k n ks) := fun t ht => ⟨h.kid ht, by have := tlen_kid (n := n) h1 ht; omega⟩
    by_cases h3 : k = 3
    · obtain ⟨a, b, rfl, ha, hb⟩ := h.two' h1 (by omega) (by omega)
      have pa : Ok (pubOf a) ∧ tlen (pubOf a) < tlen (.mk k n [a, b]) := ⟨ok_pub ha, by rw [tlen_pub, tlen_two h1]; have := txt_pos b; subst h3; simp only [tlen, word] at *; simp; omega⟩
      have pb : Ok (pubOf b) ∧ tlen (pubOf b) < tlen (.mk k n [a, b]) := ⟨ok_pub hb, by rw [tlen_pub, tlen_two h1]; have := txt_pos a; subst h3; simp only [tlen, word] at *; simp; omega⟩
      have ka := kid a (by simp)
      have kb := kid b (by simp)
      rw [if_pos h3] at hl
      simp only [List.mem_append, List.mem_cons, List.not_mem_nil, or_false] at hl
      rcases hl with (rfl | rfl) | hl
      · simp at hu; rcases hu with rfl | rfl <;> assumption
      · simp at hu; rcases hu with rfl | rfl <;> assumption
      · split at hl
        · simp at hl; subst hl; simp at hu; rcases hu with rfl | rfl <;> assumption
        · simp at hl
    rw [if_neg h3] at hl
    by_cases h4 : k = 4
    · obtain ⟨a, m, rfl, ha, hm⟩ := h.two' h1 (by omega) (by omega)
      have pa : Ok (pubOf a) ∧ tlen (pubOf a) < tlen (.mk k n [a, m]) := ⟨ok_pub ha, by rw [tlen_pub, tlen_two h1]; have := txt_pos m; subst h4; simp only [tlen, word] at *; simp; omega⟩
      have ct : Ok (.mk 5 0 [a, m]) ∧ tlen (.mk 5 0 [a, m]) < tlen (.mk k n [a, m]) := ⟨ok_two (by omega) ha hm, by rw [tlen_two h1, tlen_two (by decide)]; subst h4; simp [word]⟩
      have ka := kid a (by simp)
      have km := kid m (by simp)
      rw [if_pos h4] at hl
      simp only [List.mem_append, List.mem_cons, List.not_mem_nil, or_false] at hl
      rcases hl with (rfl | rfl) | hl
      · simp at hu; rcases hu with rfl | rfl <;> assumption
      · simp at hu; rcases hu with rfl | rfl <;> assumption
      · split at hl
        · simp at hl; subst hl; simp at hu; subst hu; exact ct
        · simp at hl
    rw [if_neg h4] at hl
    by_cases h5 : k = 5
    · obtain ⟨a, m, rfl, ha, hm⟩ := h.two' h1 (by omega) (by omega)
      have pa : Ok (pubOf a) ∧ tlen (pubOf a) < tlen (.mk k n [a, m]) := ⟨ok_pub ha, by rw [tlen_pub, tlen_two h1]; have := txt_pos m; subst h5; simp only [tlen, word] at *; simp; omega⟩
      have ka := kid a (by simp)
      have km := kid m (by simp)
      rw [if_pos h5] at hl
      simp at hl
      subst hl
      simp at hu; rcases hu with rfl | rfl <;> assumption
    rw [if_neg h5] at hl
    simp at hl
    subst hl
    exact kid u hu
/-- terms whose texts can be written on any machine -/
def Fit (t : Tm) : Prop := Ok t ∧ tlen t ≤ 1099511600000
theorem Fit.way {W : Wd} {t : Tm} (h : Fit t) {l : List Tm} (hl : l ∈ ways W t) {u : Tm} (hu : u ∈ l) : Fit u := by
  obtain ⟨h1, h2⟩ := ways_ok h.1 hl hu
  exact ⟨h1, by have := h.2; omega⟩
theorem Fit.kid {k n : Int} {ks : List Tm} (h : Fit (.mk k n ks)) {t : Tm} (ht : t ∈ ks) : Fit t := by
  refine ⟨h.1.kid ht, ?_⟩
  by_cases hk : k = 1
  · subst hk
    have := h.1.atom
    subst this
    simp at ht
  · have := tlen_kid (n := n) hk ht
    have := h.2
    omega
/-! what building a list asks, step by step -/
section
variable {W : Wd} {met : Told}
theorem bl_nil {f : Nat} {m m' : Told} {r : Bool} (h : bl W met f [] m = some (r, m')) : r = true ∧ m' = m := by
  cases f with
  | zero => simp [bl] at h
  | succ f => simp [bl] at h; exact ⟨h.1, h.2.symm⟩
theorem any_nil {f : Nat} {m m' : Told} {r : Bool} (h : anyOf W met f [] m = some (r, m')) : r = false ∧ m' = m := by
  cases f with
  | zero => simp [anyOf] at h
  | succ f => simp [anyOf] at h; exact ⟨h.1, h.2.symm⟩
theorem any_cons {f : Nat} {m m' : Told} {r : Bool} {l : List Tm} {ls : List (List Tm)} (h : anyOf W met f (l :: ls) m = some (r, m')) :
    ∃ g, g < f ∧ ((bl W met g l m = some (true, m') ∧ r = true) ∨ ∃ m1, bl W met g l m = some (false, m1) ∧ anyOf W met g ls m1 = some (r, m')) := by
  cases f with
  | zero => simp [anyOf] at h
  | succ f =>
    refine ⟨f, by omega, ?_⟩
    simp only [anyOf] at h
    cases hb : bl W met f l m with
    | none => rw [hb] at h; simp at h
    | some p =>
      obtain ⟨b, m1⟩ := p
      rw [hb] at h
      cases b with
      | true => simp at h; exact .inl ⟨by rw [h.2], h.1⟩
      | false => exact .inr ⟨m1, rfl, h⟩
theorem any_one {f : Nat} {m m' : Told} {r : Bool} {l : List Tm} (h : anyOf W met f [l] m = some (r, m')) : ∃ g, g < f ∧ bl W met g l m = some (r, m') := by
  obtain ⟨g, hg, h | ⟨m1, h1, h2⟩⟩ := any_cons h
  · exact ⟨g, hg, by rw [h.1, h.2]⟩
  · obtain ⟨h3, h4⟩ := any_nil h2
    exact ⟨g, hg, by rw [h1, h3, h4]⟩
/-- one element -/
theorem bl_cons {f : Nat} {m m' : Told} {r : Bool} {t : Tm} {l : List Tm} (h : bl W met f (t :: l) m = some (r, m')) :
    ∃ g m4, g < f ∧ (if tl m4 (txt t) = 2 then r = false ∧ m' = m4 else bl W met g l m4 = some (r, m')) ∧
      ((tl m (txt t) ≠ 0 ∧ m4 = m) ∨ (tl m (txt t) = 0 ∧ ((0 < tl met (txt t) ∧ m4 = st (st m (txt t) 2) (txt t) 1) ∨ (¬ 0 < tl met (txt t) ∧ ∃ b m3, anyOf W met g (ways W t) (st m (txt t) 2) = some (b, m3) ∧ m4 = if b then st m3 (txt t) 1 else m3)))) := by
  cases f with
  | zero => simp [bl] at h
  | succ f =>
    simp only [bl] at h
    have key : ∀ m4, (if tl m4 (txt t) = 2 then some (false, m4) else bl W met f l m4) = some (r, m') → (if tl m4 (txt t) = 2 then r = false ∧ m' = m4 else bl W met f l m4 = some (r, m')) := by
      intro m4 h
      split at h
      · rename_i e; rw [if_pos e]; simp at h; exact ⟨h.1, h.2.symm⟩
      · rename_i e; rw [if_neg e]; exact h
    by_cases h0 : tl m (txt t) = 0
    · rw [if_pos h0] at h
      by_cases hm : 0 < tl met (txt t)
      · rw [if_pos hm] at h
        exact ⟨f, _, by omega, key _ h, .inr ⟨h0, .inl ⟨hm, rfl⟩⟩⟩
      · rw [if_neg hm] at h
        cases hb : anyOf W met f (ways W t) (st m (txt t) 2) with
        | none => rw [hb] at h; simp at h
        | some p =>
          obtain ⟨b, m3⟩ := p
          rw [hb] at h
          cases b with
          | true => exact ⟨f, _, by omega, key _ h, .inr ⟨h0, .inr ⟨hm, true, m3, hb, rfl⟩⟩⟩
          | false => exact ⟨f, _, by omega, key _ h, .inr ⟨h0, .inr ⟨hm, false, m3, hb, rfl⟩⟩⟩
    · rw [if_neg h0] at h
      exact ⟨f, m, by omega, key _ h, .inl ⟨h0, rfl⟩⟩
theorem any_dh {f : Nat} {n : Int} {a b : Tm} {m m' : Told} {r : Bool} (h : anyOf W met f (ways W (.mk 3 n [a, b])) m = some (r, m')) :
    (∃ g, g < f ∧ bl W met g [a, pubOf b] m = some (true, m') ∧ r = true) ∨
    (∃ g1 g2 m1, g1 < f ∧ g2 < f ∧ bl W met g1 [a, pubOf b] m = some (false, m1) ∧ bl W met g2 [b, pubOf a] m1 = some (true, m') ∧ r = true) ∨
    (∃ g1 g2 m1, g1 < f ∧ g2 < f ∧ bl W met g1 [a, pubOf b] m = some (false, m1) ∧ bl W met g2 [b, pubOf a] m1 = some (false, m') ∧ r = false ∧ W.dh = false) ∨
    (∃ g1 g2 g3 m1 m2, g1 < f ∧ g2 < f ∧ g3 < f ∧ bl W met g1 [a, pubOf b] m = some (false, m1) ∧ bl W met g2 [b, pubOf a] m1 = some (false, m2) ∧ bl W met g3 [pubOf a, pubOf b] m2 = some (r, m') ∧ W.dh = true) := by
  have hw : ways W (.mk 3 n [a, b]) = [[a, pubOf b], [b, pubOf a]] ++ (if W.dh then [[pubOf a, pubOf b]] else []) := by simp [ways]
  rw [hw] at h
  obtain ⟨g1, hg1, ⟨h1, rfl⟩ | ⟨m1, h1, h⟩⟩ := any_cons h
  · exact .inl ⟨g1, hg1, h1, rfl⟩
  obtain ⟨g2, hg2, ⟨h2, rfl⟩ | ⟨m2, h2, h⟩⟩ := any_cons h
  · exact .inr (.inl ⟨g1, g2, m1, hg1, by omega, h1, h2, rfl⟩)
  cases hd : W.dh with
  | false =>
    rw [hd] at h
    obtain ⟨rfl, rfl⟩ := any_nil h
    exact .inr (.inr (.inl ⟨g1, g2, m1, hg1, by omega, h1, h2, rfl, rfl⟩))
  | true =>
    rw [hd] at h
    obtain ⟨g3, hg3, h3⟩ := any_one h
    exact .inr (.inr (.inr ⟨g1, g2, g3, m1, m2, hg1, by omega, by omega, h1, h2, h3, rfl⟩))
theorem any_kem {f : Nat} {n : Int} {a b : Tm} {m m' : Told} {r : Bool} (h : anyOf W met f (ways W (.mk 4 n [a, b])) m = some (r, m')) :
    (∃ g, g < f ∧ bl W met g [b, pubOf a] m = some (true, m') ∧ r = true) ∨
    (∃ g1 g2 m1, g1 < f ∧ g2 < f ∧ bl W met g1 [b, pubOf a] m = some (false, m1) ∧ bl W met g2 [a, .mk 5 0 [a, b]] m1 = some (true, m') ∧ r = true) ∨
    (∃ g1 g2 m1, g1 < f ∧ g2 < f ∧ bl W met g1 [b, pubOf a] m = some (false, m1) ∧ bl W met g2 [a, .mk 5 0 [a, b]] m1 = some (false, m') ∧ r = false ∧ W.kem = false) ∨
    (∃ g1 g2 g3 m1 m2, g1 < f ∧ g2 < f ∧ g3 < f ∧ bl W met g1 [b, pubOf a] m = some (false, m1) ∧ bl W met g2 [a, .mk 5 0 [a, b]] m1 = some (false, m2) ∧ bl W met g3 [.mk 5 0 [a, b]] m2 = some (r, m') ∧ W.kem = true) := by
  have hw : ways W (.mk 4 n [a, b]) = [[b, pubOf a], [a, .mk 5 0 [a, b]]] ++ (if W.kem then [[.mk 5 0 [a, b]]] else []) := by simp [ways]
  rw [hw] at h
  obtain ⟨g1, hg1, ⟨h1, rfl⟩ | ⟨m1, h1, h⟩⟩ := any_cons h
  · exact .inl ⟨g1, hg1, h1, rfl⟩
  obtain ⟨g2, hg2, ⟨h2, rfl⟩ | ⟨m2, h2, h⟩⟩ := any_cons h
  · exact .inr (.inl ⟨g1, g2, m1, hg1, by omega, h1, h2, rfl⟩)
  cases hd : W.kem with
  | false =>
    rw [hd] at h
    obtain ⟨rfl, rfl⟩ := any_nil h
    exact .inr (.inr (.inl ⟨g1, g2, m1, hg1, by omega, h1, h2, rfl, rfl⟩))
  | true =>
    rw [hd] at h
    obtain ⟨g3, hg3, h3⟩ := any_one h
    exact .inr (.inr (.inr ⟨g1, g2, g3, m1, m2, hg1, by omega, by omega, h1, h2, h3, rfl⟩))
theorem any_ct {f : Nat} {n : Int} {a b : Tm} {m m' : Told} {r : Bool} (h : anyOf W met f (ways W (.mk 5 n [a, b])) m = some (r, m')) : ∃ g, g < f ∧ bl W met g [b, pubOf a] m = some (r, m') := by
  have hw : ways W (.mk 5 n [a, b]) = [[b, pubOf a]] := by simp [ways]
  rw [hw] at h
  exact any_one h
theorem any_gen {f : Nat} {k n : Int} {ks : List Tm} {m m' : Told} {r : Bool} (h1 : k ≠ 1) (h3 : k ≠ 3) (h4 : k ≠ 4) (h5 : k ≠ 5) (h : anyOf W met f (ways W (.mk k n ks)) m = some (r, m')) : ∃ g, g < f ∧ bl W met g ks m = some (r, m') := by
  have hw : ways W (.mk k n ks) = [ks] := by simp [ways, h1, h3, h4, h5]
  rw [hw] at h
  exact any_one h
theorem any_atom {f : Nat} {n : Int} {ks : List Tm} {m m' : Told} {r : Bool} (h : anyOf W met f (ways W (.mk 1 n ks)) m = some (r, m')) : r = false ∧ m' = m := by
  have hw : ways W (.mk 1 n ks) = [] := by simp [ways]
  rw [hw] at h
  exact any_nil h
end
end Go.Mi.Term
