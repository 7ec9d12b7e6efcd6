/- More known is no less known; the reference's May is the program's. Plain laws. -/
import Derived.Test.YtoefhjabaanokaaDoorT7
import Derived.Test.YtoefhjabaanokaaDoorX1
set_option linter.unusedSimpArgs false
set_option linter.unusedVariables false
set_option linter.unnecessarySimpa false
namespace Go.Mi.Term
theorem rok_named {k nm : Int} {l d : Nat} : rok k nm l (d + 1) = (named k nm && decide (d < 100 ∧ low k ≤ l ∧ l ≤ high k)) := by
  rw [Bool.eq_iff_iff]
  simp only [rok, named, Bool.and_eq_true, Bool.or_eq_true, decide_eq_true_eq, Bool.not_eq_true', decide_eq_false_iff_not]
  by_cases h1 : k = 1
  · have e1 : low k = 0 := by simp [low, h1]
    have e2 : high k = 0 := by simp [high, h1]
    rw [e1, e2]; omega
  by_cases h2 : k = 2
  · have e1 : low k = 1 := by simp [low, h2]
    have e2 : high k = 1 := by simp [high, h2]
    rw [e1, e2]; omega
  by_cases h6 : k = 6
  · have e1 : low k = 1 := by simp [low, h6]
    have e2 : high k = 8 := by simp [high, h6]
    rw [e1, e2]; omega
  have e1 : low k = 2 := by simp [low, h1, h2, h6]
  have e2 : high k = 2 := by simp [high, h1, h2, h6]
  rw [e1, e2]; omega
theorem rszL_ge : (ts : List Tm) → (d n : Nat) → (ok : Bool) → n ≤ (rszL ts d n ok).1
  | [], d, n, ok => by simp [rszL]
  | t :: ts, d, n, ok => by
    simp only [rszL]
    split
    · have := rszL_ge ts d (n + (rsz t d).1) (ok && (rsz t d).2); omega
    · exact Nat.le_refl _
theorem rszL_no (ts : List Tm) (d n : Nat) : (rszL ts d n false).2 = false := by
  cases ts with
  | nil => rfl
  | cons t ts => simp [rszL]
mutual
theorem rsz_yes : (t : Tm) → (d : Nat) → (rsz t (d + 1)).2 = true → (rsz t (d + 1)).1 ≤ 5000 → shaped t d = true ∧ (rsz t (d + 1)).1 = nodes t
  | .mk k nm ks, d, h1, h2 => by
    simp only [rsz] at h1 h2 ⊢
    have h3 : (rszL ks (d + 1 + 1) 1 (rok k nm ks.length (d + 1))).1 ≤ 5000 := by omega
    obtain ⟨h4, h5, h6⟩ := rszL_yes ks (d + 1) 1 (rok k nm ks.length (d + 1)) h1 h3
    rw [rok_named, Bool.and_eq_true] at h4
    refine ⟨?_, ?_⟩
    · simp only [shaped, h4.1, h4.2, h5, Bool.and_true]
    · rw [h6] at h3 ⊢; simp only [nodes]; omega
theorem rszL_yes : (ts : List Tm) → (d n : Nat) → (ok : Bool) → (rszL ts (d + 1) n ok).2 = true → (rszL ts (d + 1) n ok).1 ≤ 5000 → ok = true ∧ shapedL ts d = true ∧ (rszL ts (d + 1) n ok).1 = n + nodesL ts
  | [], d, n, ok, h1, h2 => by simp only [rszL] at h1 h2 ⊢; exact ⟨h1, rfl, by simp [nodesL]⟩
  | t :: ts, d, n, ok, h1, h2 => by
    simp only [rszL] at h1 h2 ⊢
    by_cases hc : n ≤ 5000 ∧ ok = true
    · rw [if_pos hc] at h1 h2 ⊢
      obtain ⟨a1, a2, a3⟩ := rszL_yes ts d _ _ h1 h2
      rw [Bool.and_eq_true] at a1
      have hg := rszL_ge ts (d + 1) (n + (rsz t (d + 1)).1) (ok && (rsz t (d + 1)).2)
      obtain ⟨b1, b2⟩ := rsz_yes t d a1.2 (by omega)
      refine ⟨a1.1, by simp only [shapedL, b1, a2, Bool.and_true], ?_⟩
      rw [a3, b2]; simp only [nodesL]; omega
    · rw [if_neg hc] at h1 h2
      exact absurd ⟨h2, h1⟩ hc
end
mutual
theorem rsz_of : (t : Tm) → (d : Nat) → shaped t d = true → nodes t ≤ 5000 → rsz t (d + 1) = (nodes t, true)
  | .mk k nm ks, d, h1, h2 => by
    simp only [shaped, Bool.and_eq_true] at h1
    have hr : rok k nm ks.length (d + 1) = true := by rw [rok_named, Bool.and_eq_true]; exact h1.1
    simp only [nodes] at h2
    have h3 := rszL_of ks (d + 1) 1 h1.2 (by omega)
    simp only [rsz, hr, h3, nodes]
    rw [Nat.min_eq_left (by omega)]
theorem rszL_of : (ts : List Tm) → (d n : Nat) → shapedL ts d = true → n + nodesL ts ≤ 5000 → rszL ts (d + 1) n true = (n + nodesL ts, true)
  | [], d, n, _, _ => by simp [rszL, nodesL]
  | t :: ts, d, n, h1, h2 => by
    simp only [shapedL, Bool.and_eq_true] at h1
    simp only [nodesL] at h2
    simp only [rszL]
    rw [if_pos (by exact ⟨by omega, trivial⟩), rsz_of t d h1.1 (by omega)]
    simp only [Bool.true_and]
    rw [rszL_of ts d (n + nodes t) h1.2 (by omega)]
    simp only [nodesL, Prod.mk.injEq, and_true]; omega
end
theorem rmay {t : Tm} {m : Nat} {ok : Bool} (h : rsz t 1 = (m, ok)) : (ok && decide (m ≤ 5000)) = may t := by
  rw [Bool.eq_iff_iff, Bool.and_eq_true, decide_eq_true_eq]
  constructor
  · rintro ⟨h1, h2⟩
    obtain ⟨a, b⟩ := rsz_yes t 0 (by rw [h]; exact h1) (by rw [h]; exact h2)
    rw [h] at b
    simp only at b
    exact may_of (by omega) a
  · intro hm
    have h1 := may_nodes hm
    simp only [may, Bool.and_eq_true] at hm
    have := rsz_of t 0 hm.2 h1
    rw [h] at this
    cases this
    exact ⟨rfl, h1⟩
/-! kids of a term that may be -/
mutual
theorem shaped_less : (t : Tm) → (d d' : Nat) → d' ≤ d → shaped t d = true → shaped t d' = true
  | .mk k n ks, d, d', h, hs => by
    simp only [shaped, Bool.and_eq_true, decide_eq_true_eq] at hs ⊢
    exact ⟨⟨hs.1.1, by omega, hs.1.2.2⟩, shapedL_less ks (d + 1) (d' + 1) (by omega) hs.2⟩
theorem shapedL_less : (ts : List Tm) → (d d' : Nat) → d' ≤ d → shapedL ts d = true → shapedL ts d' = true
  | [], _, _, _, _ => rfl
  | t :: ts, d, d', h, hs => by
    simp only [shapedL, Bool.and_eq_true] at hs ⊢
    exact ⟨shaped_less t d d' h hs.1, shapedL_less ts d d' h hs.2⟩
end
theorem shapedL_mem {ts : List Tm} {d : Nat} (h : shapedL ts d = true) {t : Tm} (ht : t ∈ ts) : shaped t d = true := by
  induction ts with
  | nil => simp at ht
  | cons x ts ih =>
    simp only [shapedL, Bool.and_eq_true] at h
    rcases List.mem_cons.1 ht with rfl | ht
    · exact h.1
    · exact ih h.2 ht
theorem may_kid {k n : Int} {ks : List Tm} (h : may (.mk k n ks) = true) {t : Tm} (ht : t ∈ ks) : may t = true := by
  have h1 := may_nodes h
  simp only [may, Bool.and_eq_true] at h
  have h2 := h.2
  simp only [shaped, Bool.and_eq_true] at h2
  have h3 := shapedL_mem h2.2 ht
  have h4 := nodesL_mem ht
  simp only [nodes] at h1
  exact may_of (by omega) (shaped_less t 1 0 (by omega) h3)
mutual
theorem nrm_idem : (t : Tm) → nrm (nrm t) = nrm t
  | .mk k n ks => by
    simp only [nrm, nrmL_idem ks]
    by_cases h : k = 1 <;> simp [h]
theorem nrmL_idem : (ts : List Tm) → nrmL (nrmL ts) = nrmL ts
  | [] => rfl
  | t :: ts => by simp only [nrmL, nrm_idem t, nrmL_idem ts]
end
mutual
theorem shaped_nrm : (t : Tm) → (d : Nat) → shaped t d = true → shaped (nrm t) d = true
  | .mk k n ks, d, h => by
    simp only [shaped, Bool.and_eq_true] at h
    simp only [nrm, shaped, Bool.and_eq_true]
    have hl : (nrmL ks).length = ks.length := by rw [nrmL_map]; simp
    refine ⟨⟨?_, by rw [hl]; exact h.1.2⟩, shapedL_nrm ks (d + 1) h.2⟩
    have h1 := h.1.1
    simp only [named, Bool.and_eq_true, Bool.or_eq_true, decide_eq_true_eq, Bool.not_eq_true', decide_eq_false_iff_not] at h1 ⊢
    refine ⟨h1.1, ?_⟩
    by_cases hk : k = 1
    · rw [if_pos hk]; exact h1.2
    · exact .inl hk
theorem shapedL_nrm : (ts : List Tm) → (d : Nat) → shapedL ts d = true → shapedL (nrmL ts) d = true
  | [], _, _ => rfl
  | t :: ts, d, h => by
    simp only [shapedL, Bool.and_eq_true] at h
    simp only [nrmL, shapedL, Bool.and_eq_true]
    exact ⟨shaped_nrm t d h.1, shapedL_nrm ts d h.2⟩
end
theorem may_nrm {t : Tm} (h : may t = true) : may (nrm t) = true := by
  have h1 := may_nodes h
  simp only [may, Bool.and_eq_true] at h
  exact may_of (by rw [nodes_nrm]; exact h1) (shaped_nrm t 0 h.2)
/-- as its node says it, and may be -/
def Nd (t : Tm) : Prop := may t = true ∧ nrm t = t
theorem Nd.of {t : Tm} (h : may t = true) : Nd (nrm t) := ⟨may_nrm h, nrm_idem t⟩
theorem Nd.kid {k n : Int} {ks : List Tm} (h : Nd (.mk k n ks)) {t : Tm} (ht : t ∈ ks) : Nd t := by
  refine ⟨may_kid h.1 ht, ?_⟩
  have := h.2
  simp only [nrm, Tm.mk.injEq] at this
  have h2 := this.2.2
  rw [nrmL_map] at h2
  have h3 : ∀ l : List Tm, l.map nrm = l → ∀ t, t ∈ l → nrm t = t := by
    intro l
    induction l with
    | nil => simp
    | cons x l ih =>
      intro h t ht
      simp only [List.map_cons, List.cons.injEq] at h
      rcases List.mem_cons.1 ht with rfl | ht
      · exact h.1
      · exact ih h.2 t ht
  exact h3 ks h2 t ht
def AllN (r : Rw) : Prop := ∀ t, t ∈ r.l → Nd t
theorem AllN.add {r : Rw} (h : AllN r) {t : Tm} (ht : Nd t) : AllN (r.add t) := by
  unfold Rw.add
  split
  · intro u hu
    rcases List.mem_append.1 hu with hu | hu
    · exact h u hu
    · obtain rfl := List.mem_singleton.1 hu; exact ht
  · exact h
theorem opn1_N {W : Wd} {met : Told} {f : Nat} {t : Tm} {m m' : Told} {r r' : Rw} (hr : AllN r) (ht : Nd t) (h : opn1 W met f t m r = some (m', r')) : AllN r' := by
  cases t with
  | mk k n ks =>
    unfold opn1 at h
    dsimp only at h
    split at h
    · split at h
      · cases h; exact (hr.add (ht.kid (by simp))).add (ht.kid (by simp))
      · cases h
    split at h
    · split at h
      · cases h; exact hr.add (ht.kid (by simp))
      · cases h
    split at h
    · split at h
      · split at h
        · cases h
        · cases h; exact hr.add (ht.kid (by simp))
        · cases h; exact hr
      · cases h
    · cases h; exact hr
theorem opnL_N {W : Wd} {met : Told} {f : Nat} : ∀ {ts : List Tm} {m m' : Told} {r r' : Rw}, AllN r → (∀ t, t ∈ ts → Nd t) → opnL W met f ts m r = some (m', r') → AllN r'
  | [], m, m', r, r', hr, _, h => by simp only [opnL, Option.some.injEq, Prod.mk.injEq] at h; exact h.2 ▸ hr
  | t :: ts, m, m', r, r', hr, ht, h => by
    obtain ⟨m1, r1, h1, h2⟩ := opnL_cons h
    exact opnL_N (opn1_N hr (ht t (by simp)) h1) (fun u hu => ht u (by simp [hu])) h2
theorem rounds_N {W : Wd} {f : Nat} : ∀ {g : Nat} {r r' : Rw}, AllN r → rounds W f g r = some r' → AllN r' := by
  intro g
  induction g with
  | zero => intro r r' _ h; simp [rounds] at h
  | succ g ih =>
    intro r r' hr h
    simp only [rounds] at h
    split at h
    · cases h
    · rename_i m1 r1 h1
      have hr1 := opnL_N hr hr h1
      split at h
      · cases h; exact hr1
      · exact ih hr1 h
theorem first_N : ∀ (ts : List Tm) (r : Rw), AllN r → AllN (firstL ts r)
  | [], _, h => h
  | t :: ts, r, h => by
    simp only [firstL]
    refine first_N ts _ ?_
    split
    · rename_i hm; exact h.add (.of hm)
    · exact h
theorem opens_N {W : Wd} {f g : Nat} {known : List Tm} {r : Rw} (h : opens W f g known = some r) : AllN r := rounds_N (first_N known ⟨[], []⟩ (by simp [AllN])) h
/-! more is no less -/
theorem ways_more {W W' : Wd} (hd : W.dh = true → W'.dh = true) (hk : W.kem = true → W'.kem = true) {t : Tm} {l : List Tm} (h : l ∈ ways W t) : l ∈ ways W' t := by
  cases t with
  | mk k n ks =>
    unfold ways at h ⊢
    dsimp only at h ⊢
    split
    · rename_i h1; rw [if_pos h1] at h; exact h
    rename_i h1
    rw [if_neg h1] at h
    split
    · rename_i h3
      rw [if_pos h3] at h
      split at h
      · rw [List.mem_append] at h ⊢
        rcases h with h | h
        · exact .inl h
        · right
          cases hw : W.dh with
          | false => rw [hw] at h; simp at h
          | true => rw [hw] at h; rw [hd hw]; exact h
      · exact h
    rename_i h3
    rw [if_neg h3] at h
    split
    · rename_i h4
      rw [if_pos h4] at h
      split at h
      · rw [List.mem_append] at h ⊢
        rcases h with h | h
        · exact .inl h
        · right
          cases hw : W.kem with
          | false => rw [hw] at h; simp at h
          | true => rw [hw] at h; rw [hk hw]; exact h
      · exact h
    · rename_i h4; rw [if_neg h4] at h; exact h
theorem Der.more {W W' : Wd} {S S' : Tm → Prop} (hd : W.dh = true → W'.dh = true) (hk : W.kem = true → W'.kem = true) (hs : ∀ t, S t → Der W' S' t) {t : Tm} (h : Der W S t) : Der W' S' t := by
  induction h with
  | kn h => exact hs _ h
  | way ho hl _ ih => exact .way ho (ways_more hd hk hl) ih
  | fst _ ih => exact .fst ih
  | snd _ ih => exact .snd ih
  | sig _ ih => exact .sig ih
  | dec _ _ ih1 ih2 => exact .dec ih1 ih2
  | eqv _ ho he ih => exact .eqv ih ho he
theorem grow_list {W : Wd} {l more : List Tm} {t : Tm} (h : Der W (Kn l) t) : Der W (Kn (l ++ more)) t :=
  h.more id id fun u ⟨v, hv, hm, he⟩ => .kn ⟨v, List.mem_append_left _ hv, hm, he⟩
theorem grow_wd {W : Wd} {l : List Tm} {t : Tm} (h : Der W (Kn l) t) : Der ⟨true, true⟩ (Kn l) t := h.more (fun _ => rfl) (fun _ => rfl) fun u hu => .kn hu
/-- what opening gives is known, and tells as much -/
theorem grow_opens (W : Wd) (known : List Tm) : ∃ f g r, opens W f g known = some r ∧ AllN r ∧ (∀ t, t ∈ r.l → Der W (Kn known) t) ∧ ∀ u, Der W (Kn r.l) u ↔ Der W (Kn known) u := by
  obtain ⟨f, g, r, h1, h2, _, h4⟩ := opens_all W known
  have hN := opens_N h1
  refine ⟨f, g, r, h1, hN, h2.der, fun u => ⟨fun h => h.more id id fun s hs => ?_, fun h => h.more id id fun s hs => ?_⟩⟩
  · obtain ⟨v, hv, _, rfl⟩ := hs
    rw [(hN v hv).2]
    exact h2.der v hv
  · obtain ⟨v, hv, hm, rfl⟩ := hs
    obtain ⟨q, hq, he⟩ := h4 v hv hm
    exact .eqv (.kn ⟨q, hq, (hN q hq).1, (hN q hq).2.symm⟩) (may_ok hm) he
end Go.Mi.Term
