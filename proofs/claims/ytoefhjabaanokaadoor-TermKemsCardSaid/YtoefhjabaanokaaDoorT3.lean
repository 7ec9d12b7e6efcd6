/- Opening, step by step. Plain laws. -/
import Derived.Test.YtoefhjabaanokaaDoorT2
namespace Go.Mi.Term
theorem add_len (r : Rw) (t : Tm) : r.l.length ≤ (r.add t).l.length := by
  unfold Rw.add
  split <;> simp
theorem opn1_len {W : Wd} {met : Told} {f : Nat} {t : Tm} {m m' : Told} {r r' : Rw} (h : opn1 W met f t m r = some (m', r')) : r.l.length ≤ r'.l.length := by
  cases t with
  | mk k n ks =>
    unfold opn1 at h
    dsimp only at h
    split at h
    · split at h
      · simp at h; obtain ⟨_, rfl⟩ := h
        exact Nat.le_trans (add_len _ _) (add_len _ _)
      · cases h
    · split at h
      · split at h
        · simp at h; obtain ⟨_, rfl⟩ := h
          exact add_len _ _
        · cases h
      · split at h
        · split at h
          · split at h
            · cases h
            · simp at h; obtain ⟨_, rfl⟩ := h
              exact add_len _ _
            · simp at h; obtain ⟨_, rfl⟩ := h
              exact Nat.le_refl _
          · cases h
        · simp at h; obtain ⟨_, rfl⟩ := h
          exact Nat.le_refl _
theorem opnL_cons {W : Wd} {met : Told} {f : Nat} {t : Tm} {ts : List Tm} {m m' : Told} {r r' : Rw} (h : opnL W met f (t :: ts) m r = some (m', r')) : ∃ m1 r1, opn1 W met f t m r = some (m1, r1) ∧ opnL W met f ts m1 r1 = some (m', r') := by
  simp only [opnL] at h
  split at h
  · cases h
  · rename_i m1 r1 h1
    exact ⟨m1, r1, h1, h⟩
theorem opnL_len {W : Wd} {met : Told} {f : Nat} : ∀ {ts : List Tm} {m m' : Told} {r r' : Rw}, opnL W met f ts m r = some (m', r') → r.l.length ≤ r'.l.length
  | [], m, m', r, r', h => by simp [opnL] at h; obtain ⟨_, rfl⟩ := h; exact Nat.le_refl _
  | t :: ts, m, m', r, r', h => by
    obtain ⟨m1, r1, h1, h2⟩ := opnL_cons h
    exact Nat.le_trans (opn1_len h1) (opnL_len h2)
theorem rounds_succ {W : Wd} {f g : Nat} {r r' : Rw} (h : rounds W f g r = some r') : ∃ g' m1 r1, g = g' + 1 ∧ opnL W r.met f r.l [] r = some (m1, r1) ∧ ((r1.l.length = r.l.length ∧ r1 = r') ∨ (r.l.length < r1.l.length ∧ rounds W f g' r1 = some r')) := by
  cases g with
  | zero => simp [rounds] at h
  | succ g =>
    simp only [rounds] at h
    split at h
    · cases h
    · rename_i m1 r1 h1
      refine ⟨g, m1, r1, rfl, h1, ?_⟩
      have := opnL_len h1
      split at h
      · rename_i e; simp at h; exact .inl ⟨e, h⟩
      · rename_i e; exact .inr ⟨by omega, h⟩
theorem rounds_len {W : Wd} {f : Nat} : ∀ {g : Nat} {r r' : Rw}, rounds W f g r = some r' → r.l.length ≤ r'.l.length := by
  intro g
  induction g with
  | zero => intro r r' h; simp [rounds] at h
  | succ g ih =>
    intro r r' h
    obtain ⟨g', m1, r1, hg, h1, h2 | h2⟩ := rounds_succ h
    · rw [← h2.2]; exact opnL_len h1
    · cases hg
      exact Nat.le_trans (opnL_len h1) (ih h2.2)
theorem firstL_len (ks : List Tm) (r : Rw) : r.l.length ≤ (firstL ks r).l.length ∧ (firstL ks r).l.length ≤ r.l.length + ks.length := by
  induction ks generalizing r with
  | nil => exact ⟨Nat.le_refl _, Nat.le_refl _⟩
  | cons t ts ih =>
    simp only [firstL, List.length_cons]
    have h := ih (if may t then r.add (nrm t) else r)
    have h1 : r.l.length ≤ (if may t then r.add (nrm t) else r).l.length ∧ (if may t then r.add (nrm t) else r).l.length ≤ r.l.length + 1 := by
      split
      · refine ⟨add_len _ _, ?_⟩
        unfold Rw.add
        split <;> simp
      · omega
    omega
theorem firstL_app (ks : List Tm) (t : Tm) (r : Rw) : firstL (ks ++ [t]) r = if may t then (firstL ks r).add (nrm t) else firstL ks r := by
  induction ks generalizing r with
  | nil => rfl
  | cons k ks ih => simp only [List.cons_append, firstL]; exact ih _
theorem firstL_take {ks : List Tm} {i : Nat} {t : Tm} (h : ks[i]? = some t) (r : Rw) : firstL (ks.take (i + 1)) r = if may t then (firstL (ks.take i) r).add (nrm t) else firstL (ks.take i) r := by
  rw [List.take_add_one, h]
  exact firstL_app _ _ _
/-! all nodes of a row may be -/
def AllFit (r : Rw) : Prop := ∀ t, t ∈ r.l → Fit t
theorem AllFit.add {r : Rw} {t : Tm} (h : AllFit r) (ht : Fit t) : AllFit (r.add t) := by
  unfold Rw.add
  split
  · intro u hu
    simp at hu
    rcases hu with hu | rfl
    · exact h u hu
    · exact ht
  · exact h
theorem AllFit.opn1 {W : Wd} {met : Told} {f : Nat} {t : Tm} {m m' : Told} {r r' : Rw} (ht : Fit t) (hr : AllFit r) (h : opn1 W met f t m r = some (m', r')) : AllFit r' := by
  cases t with
  | mk k n ks =>
    have kid : ∀ u, u ∈ ks → Fit u := fun u hu => ht.kid hu
    unfold Term.opn1 at h
    dsimp only at h
    split at h
    · split at h
      · simp at h; obtain ⟨_, rfl⟩ := h
        exact (hr.add (kid _ (by simp))).add (kid _ (by simp))
      · cases h
    · split at h
      · split at h
        · simp at h; obtain ⟨_, rfl⟩ := h
          exact hr.add (kid _ (by simp))
        · cases h
      · split at h
        · split at h
          · split at h
            · cases h
            · simp at h; obtain ⟨_, rfl⟩ := h
              exact hr.add (kid _ (by simp))
            · simp at h; obtain ⟨_, rfl⟩ := h
              exact hr
          · cases h
        · simp at h; obtain ⟨_, rfl⟩ := h
          exact hr
theorem AllFit.opnL {W : Wd} {met : Told} {f : Nat} : ∀ {ts : List Tm} {m m' : Told} {r r' : Rw}, (∀ t, t ∈ ts → Fit t) → AllFit r → opnL W met f ts m r = some (m', r') → AllFit r'
  | [], m, m', r, r', _, hr, h => by simp [Term.opnL] at h; obtain ⟨_, rfl⟩ := h; exact hr
  | t :: ts, m, m', r, r', ht, hr, h => by
    obtain ⟨m1, r1, h1, h2⟩ := opnL_cons h
    exact AllFit.opnL (fun u hu => ht u (List.mem_cons_of_mem _ hu)) (AllFit.opn1 (ht t (List.mem_cons_self ..)) hr h1) h2
end Go.Mi.Term
