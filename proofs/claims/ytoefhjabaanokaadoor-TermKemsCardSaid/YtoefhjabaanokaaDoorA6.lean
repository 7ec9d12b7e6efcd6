/- A region whose order is open: the rule as it is used. General lemmas. -/
import Derived.Test.YtoefhjabaanokaaDoorA5
namespace Go.Mi
open Go.RowKit

section
variable {G : World → World → Prop} {P : Program} {n : Nat} {Wd : Nat → World → Prop} {ss : List Nat} {L0 : List (Nat × Value)} {l : List Oper} {rows : List (Row G)} {Q : Exit → Act → World → Prop} {listed : Array Bool} {a : Act} {w w' : World}

/-- what the head has yielded -/
def outL (vs : Nat → Value) : Nat → List Oper → List (Row G) → List (Nat × Value)
  | i, o :: os, r :: rs => match o.dst with
    | some d => (d, r.out.entry (vs i)) :: outL vs (i + 1) os rs
    | none => outL vs (i + 1) os rs
  | _, _, _ => []

theorem lk_append {A B : List (Nat × Value)} {t : Nat} : lk (A ++ B) t = match lk A t with | some v => some v | none => lk B t := by
  induction A with
  | nil => simp [lk]
  | cons x A ih =>
    obtain ⟨s, v⟩ := x
    simp only [List.cons_append, lk]
    by_cases e : s = t
    · subst e; simp
    · rw [beqf e]; simpa using ih

theorem lk_outL {vs : Nat → Value} {t : Nat} {v : Value} : ∀ {os : List Oper} {rs : List (Row G)} {k : Nat}, lk (outL vs k os rs) t = some v →
    ∃ (i : Nat) (o : Oper) (r : Row G), os[i]? = some o ∧ rs[i]? = some r ∧ o.dst = some t ∧ v = r.out.entry (vs (k + i))
  | o :: os, r :: rs, k, h => by
    simp only [outL] at h
    cases hd : o.dst with
    | none =>
      rw [hd] at h
      obtain ⟨i, o', r', h1, h2, h3, h4⟩ := lk_outL h
      exact ⟨i + 1, o', r', by simpa using h1, by simpa using h2, h3, by rw [h4, show k + 1 + i = k + (i + 1) by omega]⟩
    | some d =>
      rw [hd] at h
      simp only [lk] at h
      by_cases e : d = t
      · subst e
        simp at h
        exact ⟨0, o, r, by simp, by simp, hd, h.symm⟩
      · rw [beqf e] at h
        obtain ⟨i, o', r', h1, h2, h3, h4⟩ := lk_outL h
        exact ⟨i + 1, o', r', by simpa using h1, by simpa using h2, h3, by rw [h4, show k + 1 + i = k + (i + 1) by omega]⟩
  | [], rs, k, h => by simp [outL, lk] at h
  | _ :: _, [], k, h => by simp [outL, lk] at h

theorem lk_outL_none {vs : Nat → Value} {t : Nat} : ∀ {os : List Oper} {rs : List (Row G)} {k : Nat}, lk (outL vs k os rs) t = none → ∀ (i : Nat) (o : Oper), i < rs.length → os[i]? = some o → o.dst ≠ some t
  | o :: os, r :: rs, k, h, i, o', hi, ho => by
    simp only [outL] at h
    cases i with
    | zero =>
      simp at ho
      subst ho
      intro hd
      rw [hd] at h
      simp [lk] at h
    | succ i =>
      have h' : lk (outL vs (k + 1) os rs) t = none := by
        cases hd : o.dst with
        | none => rw [hd] at h; exact h
        | some d =>
          rw [hd] at h
          simp only [lk] at h
          by_cases e : d = t
          · subst e; simp at h
          · rw [beqf e] at h; exact h
      exact lk_outL_none h' i o' (by simpa using hi) (by simpa using ho)
  | [], rs, k, h, i, o', hi, ho => by simp at ho
  | _ :: _, [], k, h, i, o', hi, ho => by simp at hi

theorem Done.frm (ok : OkAll n ss l rows) (h : Done l n Wd ss L0 rows a w) : ∃ vs : Nat → Value, (∀ (i : Nat) (o : Oper) (r : Row G), l[i]? = some o → rows[i]? = some r → o.dst ≠ none → r.out.holds (vs i) w) ∧ Frm a n (outL vs 0 l rows ++ L0) := by
  let vs : Nat → Value := fun j => a.tmps.getD (((l[j]?).bind (·.dst)).getD 0) undef
  have hv : ∀ (i : Nat) (o : Oper) (r : Row G), l[i]? = some o → rows[i]? = some r → o.dst ≠ none → r.out.holds (vs i) w := by
    intro i o r ho hr hd
    cases hd' : o.dst with
    | none => exact absurd hd' hd
    | some d =>
      have := h.done i o r d ho hr hd'
      simpa [vs, ho, hd'] using this
  refine ⟨vs, hv, h.frame, h.defers, fun t v ht => ?_⟩
  rw [lk_append] at ht
  cases ho : lk (outL vs 0 l rows) t with
  | some u =>
    rw [ho] at ht
    simp at ht
    subst ht
    obtain ⟨i, o, r, h1, h2, h3, h4⟩ := lk_outL ho
    rw [Nat.zero_add] at h4
    have := hv i o r h1 h2 (by rw [h3]; simp)
    rw [h4, PS.entry_eq this]
    simp [vs, h1, h3]
  | none =>
    rw [ho] at ht
    refine h.rest t v ht fun i o hio => ?_
    have hi : i < l.length := by
      rcases Nat.lt_or_ge i l.length with h' | h'
      · exact h'
      · simp [List.getElem?_eq_none h'] at hio
    exact lk_outL_none ho i o (by rw [ok.len]; exact hi) hio

/-- the rule -/
theorem region_plan (G : World → World → Prop) {rows : List (Row G)} {id : Nat} (hm : P.follows .mixedOrders = true) (Wd : Nat → World → Prop) (ss : List Nat) (hok : okAll n ss l rows = true) (hF : Frm a n L0) (h0 : Wd 0 { w with drawn := w.drawn + 1 })
    (hobs : Obs P n Wd ss L0 rows 0 l rows)
    (hend : ∀ a' w' vs, Wd ss.length w' → (∀ (i : Nat) (o : Oper) (r : Row G), l[i]? = some o → rows[i]? = some r → o.dst ≠ none → r.out.holds (vs i) w') → Frm a' n (outL vs 0 l rows ++ L0) → Q .normal a' w') :
    (Code.region id l.toArray true).wp P Q a w := by
  have ok := OkAll.of hok
  refine wp_region_any hm ?_
  refine plan_main ok hobs (fun a' w' hd => ?_) _ _ 0 _ _ ?_ ?_
  · obtain ⟨vs, h1, h2⟩ := hd.frm ok
    exact hend a' w' vs hd.wd h1 h2
  · have h0' : ∀ j, (Array.replicate l.toArray.size false).getD j false = false := by
      intro j
      simp only [Array.getD_eq_getD_getElem?, Array.getElem?_replicate]
      split <;> rfl
    refine ⟨by simp, fun i o _ h => ?_, by omega, fun k s _ => ?_, hF.size, hF.defers, h0, fun i o r d _ _ h => ?_, fun s v hs _ => hF.get s v hs⟩
    · rw [h0'] at h; simp at h
    · rw [h0']; simp
    · rw [h0'] at h; simp at h
  · unfold left
    have := List.countP_le_length (l := List.range l.length) (p := fun i => !(Array.replicate l.toArray.size false).getD i false)
    simpa using this

/-- the plainest evolution: nothing is asked -/
abbrev Tt : World → World → Prop := fun _ _ => True

variable {o : Oper} {L : List (Nat × Value)} {v : Value} {A : World → Prop}
theorem Det.ob (hW : A w) (h : Det P o n L w v w) : Ok1 P o n L w fun v' w' => A w' ∧ Tt w w' ∧ (PS.val (G := Tt) v).holds v' w' :=
  h.mono fun _ _ ⟨h1, h2⟩ => ⟨h2 ▸ hW, trivial, h1⟩
theorem Ok1.obc (hW : ∀ w', Gr w w' → A w') (h : Ok1 P o n L w fun v' w' => v' = v ∧ Gr w w') : Ok1 P o n L w fun v' w' => A w' ∧ Tt w w' ∧ (PS.val (G := Tt) v).holds v' w' :=
  h.mono fun _ _ ⟨h1, h2⟩ => ⟨hW _ h2, trivial, h1⟩
theorem Ok1.obs {R : World → Prop} (hW : ∀ w', R w' → A w') (h : Ok1 P o n L w fun _ w' => R w') : Ok1 P o n L w fun v' w' => A w' ∧ Tt w w' ∧ (PS.rel (G := Tt) (fun _ _ => True) (fun _ _ _ _ _ => trivial)).holds v' w' :=
  h.mono fun _ _ h2 => ⟨hW _ h2, trivial, trivial⟩
end
end Go.Mi
