/- What is never known: a law of secrecy. Plain laws. -/
import Derived.Test.YtoefhjabaanokaaDoorT5
namespace Go.Mi.Term
section
variable {W : Wd} {S : Tm → Prop}
/-- no secret is told by opening, but behind a secret key -/
inductive Safe (F : Tm → Prop) : Tm → Prop
  | pair {n : Int} {a b : Tm} : ¬ F (.mk 9 n [a, b]) → Safe F a → Safe F b → Safe F (.mk 9 n [a, b])
  | sign {n : Int} {a b : Tm} : ¬ F (.mk 8 n [a, b]) → Safe F b → Safe F (.mk 8 n [a, b])
  | shut {n : Int} {a b : Tm} : ¬ F (.mk 7 n [a, b]) → F a → Safe F (.mk 7 n [a, b])
  | enc {n : Int} {a b : Tm} : ¬ F (.mk 7 n [a, b]) → Safe F b → Safe F (.mk 7 n [a, b])
  | other {k n : Int} {ks : List Tm} : ¬ F (.mk k n ks) → k ≠ 9 → k ≠ 8 → k ≠ 7 → Safe F (.mk k n ks)
theorem Safe.not {F : Tm → Prop} {t : Tm} (h : Safe F t) : ¬ F t := by
  cases h <;> assumption
/-- a set of secrets: each way to build one wants one -/
structure Secret (W : Wd) (F : Tm → Prop) : Prop where
  congr : ∀ a b, Ok a → Ok b → txt a = txt b → F a → F b
  need : ∀ t, Ok t → F t → ∀ l, l ∈ ways W t → ∃ u, u ∈ l ∧ F u
theorem Safe.congr {F : Tm → Prop} (hF : Secret W F) {a : Tm} (h : Safe F a) : ∀ {b : Tm}, Ok a → Ok b → txt a = txt b → Safe F b := by
  have inv : ∀ {k n : Int} {ks : List Tm} {b : Tm}, Ok (.mk k n ks) → Ok b → txt (.mk k n ks) = txt b → k ≠ 1 → k ≠ 3 → ∃ n' ks', b = .mk k n' ks' ∧ ks.map txt = ks'.map txt := by
    intro k n ks b ha hb he h1 h3
    have hal := alike ha hb he
    cases b with
    | mk k' n' ks' =>
      obtain ⟨e1, _, e3⟩ := hal
      simp only [Tm.kind, Tm.kids] at e1 e3
      subst e1
      have e3 := e3 h1
      rw [ord_ne h3, ord_ne h3] at e3
      exact ⟨n', ks', rfl, e3⟩
  have nF : ∀ {a b : Tm}, Ok a → Ok b → txt a = txt b → ¬ F a → ¬ F b := fun ha hb he h hb' => h (hF.congr _ _ hb ha he.symm hb')
  induction h with
  | pair h _ _ iha ihb =>
    intro b ha hb he
    obtain ⟨n', ks', rfl, e⟩ := inv ha hb he (by decide) (by decide)
    obtain ⟨a', b', rfl, ha', hb'⟩ := hb.two' (by decide) (by decide) (by decide)
    simp at e
    exact .pair (nF ha hb he h) (iha (ha.kid (by simp)) ha' e.1) (ihb (ha.kid (by simp)) hb' e.2)
  | sign h _ ihb =>
    intro b ha hb he
    obtain ⟨n', ks', rfl, e⟩ := inv ha hb he (by decide) (by decide)
    obtain ⟨a', b', rfl, ha', hb'⟩ := hb.two' (by decide) (by decide) (by decide)
    simp at e
    exact .sign (nF ha hb he h) (ihb (ha.kid (by simp)) hb' e.2)
  | shut h hs =>
    intro b ha hb he
    obtain ⟨n', ks', rfl, e⟩ := inv ha hb he (by decide) (by decide)
    obtain ⟨a', b', rfl, ha', hb'⟩ := hb.two' (by decide) (by decide) (by decide)
    simp at e
    exact .shut (nF ha hb he h) (hF.congr _ _ (ha.kid (by simp)) ha' e.1 hs)
  | enc h _ ihb =>
    intro b ha hb he
    obtain ⟨n', ks', rfl, e⟩ := inv ha hb he (by decide) (by decide)
    obtain ⟨a', b', rfl, ha', hb'⟩ := hb.two' (by decide) (by decide) (by decide)
    simp at e
    exact .enc (nF ha hb he h) (ihb (ha.kid (by simp)) hb' e.2)
  | other h h9 h8 h7 =>
    intro b ha hb he
    have hal := alike ha hb he
    cases b with
    | mk k' n' ks' =>
      obtain ⟨e1, _, _⟩ := hal
      simp only [Tm.kind] at e1
      subst e1
      exact .other (nF ha hb he h) h9 h8 h7
theorem ways_gen {k n : Int} {ks : List Tm} (h1 : k ≠ 1) (h3 : k ≠ 3) (h4 : k ≠ 4) (h5 : k ≠ 5) : ways W (.mk k n ks) = [ks] := by simp [ways, h1, h3, h4, h5]
/-- the law -/
theorem secrecy {F : Tm → Prop} (hF : Secret W F) (hok : ∀ s, S s → Ok s) (hS : ∀ s, S s → Safe F s) {t : Tm} (h : Der W S t) : Safe F t := by
  have dok : ∀ {t : Tm}, Der W S t → Ok t := fun h => h.ok hok
  induction h with
  | kn h => exact hS _ h
  | @way t l ho hl _ ih =>
    have hn : ¬ F t := fun hf => by
      obtain ⟨u, hu, hfu⟩ := hF.need t ho hf l hl
      exact (ih u hu).not hfu
    cases t with
    | mk k n ks =>
      by_cases h9 : k = 9
      · subst h9
        obtain ⟨a, b, rfl, _, _⟩ := ho.two' (by decide) (by decide) (by decide)
        rw [ways_gen (by decide) (by decide) (by decide) (by decide)] at hl
        simp at hl
        subst hl
        exact .pair hn (ih a (by simp)) (ih b (by simp))
      by_cases h8 : k = 8
      · subst h8
        obtain ⟨a, b, rfl, _, _⟩ := ho.two' (by decide) (by decide) (by decide)
        rw [ways_gen (by decide) (by decide) (by decide) (by decide)] at hl
        simp at hl
        subst hl
        exact .sign hn (ih b (by simp))
      by_cases h7 : k = 7
      · subst h7
        obtain ⟨a, b, rfl, _, _⟩ := ho.two' (by decide) (by decide) (by decide)
        rw [ways_gen (by decide) (by decide) (by decide) (by decide)] at hl
        simp at hl
        subst hl
        exact .enc hn (ih b (by simp))
      · exact .other hn h9 h8 h7
  | fst _ ih => cases ih with
    | pair _ h _ => exact h
    | other _ h => exact absurd rfl h
  | snd _ ih => cases ih with
    | pair _ _ h => exact h
    | other _ h => exact absurd rfl h
  | sig _ ih => cases ih with
    | sign _ h => exact h
    | other _ _ h => exact absurd rfl h
  | dec _ _ ih iha => cases ih with
    | shut _ h => exact absurd h iha.not
    | enc _ h => exact h
    | other _ _ _ h => exact absurd rfl h
  | eqv h ho he ih => exact ih.congr hF (dok h) ho he
end
/-! what algorithm gives, however many steps it was given -/
theorem opens_len {W : Wd} {f g : Nat} {known : List Tm} {r : Rw} (h : opens W f g known = some r) : r.l.length ≤ (univ known).length := by
  obtain ⟨f', g', r', h1, h2, _⟩ := opens_all W known
  have a1 : opens W (max f f') (max g g') known = some r := rounds_more (Nat.le_max_left ..) (Nat.le_max_left ..) h
  have a2 : opens W (max f f') (max g g') known = some r' := rounds_more (Nat.le_max_right ..) (Nat.le_max_right ..) h1
  rw [a1] at a2
  cases a2
  exact h2.len
end Go.Mi.Term
