/- A region whose order is open: the rule. General lemmas. -/
import Derived.Test.YtoefhjabaanokaaDoorA4
namespace Go.Mi
open Go.RowKit

theorem lk_mem : ∀ {L : List (Nat × Value)} {t : Nat} {v : Value}, lk L t = some v → (t, v) ∈ L
  | (s, u) :: r, t, v, h => by
    simp only [lk] at h
    by_cases e : s = t
    · subst e; simp at h; subst h; exact List.mem_cons_self ..
    · rw [beqf e] at h; exact List.mem_cons_of_mem _ (lk_mem h)
  | [], t, v, h => by simp [lk] at h

theorem subL_mem {L : List (Nat × Value)} : ∀ {zs : List (Nat × Value)}, subL L zs → ∀ p ∈ zs, lk L p.1 = some p.2
  | (s, u) :: r, h, p, hp => by
    rcases List.mem_cons.1 hp with rfl | hp
    · exact h.1
    · exact subL_mem h.2 p hp
  | [], _, p, hp => by simp at hp

theorem memN_iff {i : Nat} : ∀ {l : List Nat}, memN i l = true ↔ i ∈ l
  | [] => by simp [memN]
  | x :: r => by
    simp only [memN]
    by_cases e : i = x
    · subst e; simp
    · rw [beqf e]; simp [e, memN_iff (l := r)]

section
variable {G : World → World → Prop}

structure OkAll (n : Nat) (ss : List Nat) (l : List Oper) (rows : List (Row G)) : Prop where
  back : ∀ (i : Nat) (o : Oper), l[i]? = some o → ∀ e ∈ o.after.toList, Region.binds .any e = true → e.on < i
  slot : ∀ (i : Nat) (o : Oper) (d : Nat), l[i]? = some o → o.dst = some d → d < n
  once : ∀ (i j : Nat) (o o' : Oper), l[i]? = some o → l[j]? = some o' → i ≠ j → o.dst ≠ none → o.dst ≠ o'.dst
  inn : ∀ (k s : Nat), ss[k]? = some s → s < l.length
  chain : ∀ (k k' s s' : Nat), ss[k]? = some s → ss[k']? = some s' → k < k' → Ahead l s' s
  len : rows.length = l.length
  row : ∀ (i : Nat) (o : Oper) (r : Row G), l[i]? = some o → rows[i]? = some r →
    (∀ p ∈ r.us, Ahead l i p.1 ∧ ∃ o', l[p.1]? = some o' ∧ o'.dst = some p.2) ∧
    (∀ p ∈ r.zs, ∀ (j : Nat) (o' : Oper), l[j]? = some o' → o'.dst = some p.1 → j = i ∨ Ahead l j i) ∧
    (∀ j b, o.guard = some (j, b) → ∃ p ∈ r.us, p.1 = j) ∧
    (∀ p, p ≤ ss.length → memN p r.ph = true ∨ ∃ k s, ss[k]? = some s ∧ ((k < p ∧ (Ahead l s i ∨ s = i)) ∨ (p ≤ k ∧ Ahead l i s)))

theorem mem_zipIdx' {α : Type} {l : List α} {i : Nat} {o : α} (h : l[i]? = some o) : (o, i) ∈ l.zipIdx := by
  rw [List.mem_iff_getElem?]
  exact ⟨i, by simp [List.getElem?_zipIdx, h]⟩

theorem of_zipIdx {α : Type} {l : List α} {q : α × Nat} (h : q ∈ l.zipIdx) : l[q.2]? = some q.1 := by
  obtain ⟨i, hi⟩ := List.mem_iff_getElem?.1 h
  simp only [List.getElem?_zipIdx, Option.map_eq_some_iff] at hi
  obtain ⟨x, hx, rfl⟩ := hi
  simpa using hx

theorem blt_iff {a b : Nat} : Nat.blt a b = true ↔ a < b := by rw [Nat.blt_eq]

theorem OkAll.of {n : Nat} {ss : List Nat} {l : List Oper} {rows : List (Row G)} (h : okAll n ss l rows = true) : OkAll n ss l rows := by
  have hB := befs_ok l l [] (fun j o hj => by simpa using hj) (by simp)
  simp only [okAll, Bool.and_eq_true, List.all_eq_true, Bool.or_eq_true] at h
  obtain ⟨⟨⟨⟨h1, h2⟩, h3⟩, h4⟩, h7⟩ := h
  refine ⟨?_, ?_, ?_, ?_, ?_, okRows.len h7, ?_⟩
  · intro i o ho e he hb
    rcases h1 (o, i) (mem_zipIdx' ho) e he with h | h
    · rw [hb] at h; simp at h
    · exact blt_iff.1 h
  · intro i o d ho hd
    have := h2 o (List.mem_of_getElem? ho)
    rw [hd] at this
    exact blt_iff.1 this
  · intro i j o o' hi hj hne hn
    have := h3 (o, i) (mem_zipIdx' hi) (o', j) (mem_zipIdx' hj)
    rcases this with (h | h) | h
    · exact absurd (by simpa using h) hne
    · exact absurd (by simpa using h) hn
    · simpa using h
  · intro k s hk
    exact blt_iff.1 (h4 (s, k) (mem_zipIdx' hk)).1
  · intro k k' s s' hk hk' hlt
    rcases (h4 (s, k) (mem_zipIdx' hk)).2 (s', k') (mem_zipIdx' hk') with h | h
    · rw [(blt_iff.2 hlt : Nat.blt k k' = true)] at h; simp at h
    · exact hB _ _ h
  · intro i o r hi hr
    have := okRows.at h7 i o r hi hr
    simp only [Nat.zero_add, okRow, Bool.and_eq_true, List.all_eq_true, Bool.or_eq_true] at this
    obtain ⟨⟨⟨g1, g2⟩, g3⟩, g4⟩ := this
    refine ⟨fun p hp => ?_, fun p hp j o' hj hd => ?_, fun j b hg => ?_, fun p hp => ?_⟩
    · obtain ⟨b1, b2⟩ := g1 p hp
      refine ⟨hB _ _ b1, ?_⟩
      cases ho' : l[p.1]? with
      | none => rw [ho'] at b2; simp at b2
      | some o' => rw [ho'] at b2; exact ⟨o', rfl, by simpa using b2⟩
    · rcases g2 p hp (o', j) (mem_zipIdx' hj) with (h | h) | h
      · simp [hd] at h
      · exact .inl (by simpa using h)
      · exact .inr (hB _ _ h)
    · rw [hg] at g3
      simp only [List.any_eq_true] at g3
      obtain ⟨p, hp, he⟩ := g3
      exact ⟨p, hp, by simpa using he⟩
    · rcases g4 p (by simp; omega) with h | h
      · right
        simp only [mayAt, Bool.not_eq_true', List.all_eq_false] at h
        obtain ⟨q, hq, hb⟩ := h
        refine ⟨q.2, q.1, of_zipIdx hq, ?_⟩
        by_cases hlt : q.2 < p
        · left
          rw [(blt_iff.2 hlt : Nat.blt q.2 p = true)] at hb
          simp only [cond_true, Bool.not_eq_true, Bool.and_eq_false_iff, Bool.not_eq_false'] at hb
          refine ⟨hlt, ?_⟩
          rcases hb with hb | hb
          · exact .inl (hB _ _ hb)
          · exact .inr (Nat.eq_of_beq_eq_true hb)
        · right
          have hf : Nat.blt q.2 p = false := by
            cases hc : Nat.blt q.2 p with
            | false => rfl
            | true => exact absurd (blt_iff.1 hc) hlt
          rw [hf] at hb
          simp only [cond_false, Bool.not_eq_true, Bool.not_eq_false'] at hb
          exact ⟨by omega, hB _ _ hb⟩
      · exact .inl h

variable {P : Program} {n : Nat} {Wd : Nat → World → Prop} {ss : List Nat} {L0 : List (Nat × Value)} {l : List Oper} {rows : List (Row G)} {Q : Exit → Act → World → Prop} {listed : Array Bool} {p : Nat} {a : Act} {w : World}

theorem getD_set {listed : Array Bool} {i j : Nat} (hi : i < listed.size) : (listed.setIfInBounds i true).getD j false = if j = i then true else listed.getD j false := by
  by_cases h : j = i
  · subst h
    simp [hi]
  · have : ¬ i = j := fun e => h e.symm
    simp [Array.getElem?_setIfInBounds_ne this, h]

theorem ready_lt {ops : Array Oper} {i : Nat} (h : i ∈ Region.ready .any ops listed) : i < ops.size ∧ listed.getD i true = false := by
  simp only [Region.ready, List.mem_filter, List.mem_range, Bool.and_eq_true] at h
  exact ⟨h.1, by simpa using h.2.1⟩

theorem ready_edges {i : Nat} {o : Oper} (ho : l[i]? = some o) (h : i ∈ Region.ready .any l.toArray listed) : ∀ e ∈ o.after.toList, Region.binds .any e = true → listed.getD e.on false = true := by
  simp only [Region.ready, List.mem_filter, List.mem_range, Bool.and_eq_true] at h
  obtain ⟨_, _, hall⟩ := h
  simp only [List.getElem?_toArray, ho, Option.map_some, Option.getD_some, Array.all_eq_true'] at hall
  intro e he hb
  have := hall e (by simpa using he)
  simpa [hb] using this

theorem plan_step (ok : OkAll n ss l rows) (hobs : Obs P n Wd ss L0 rows 0 l rows) (h : PInv l n Wd ss L0 rows listed p a w) {i : Nat} (hr : i ∈ Region.ready .any l.toArray listed) :
    wpOp P l.toArray Q i (fun a' w' => ∃ p', PInv l n Wd ss L0 rows (listed.setIfInBounds i true) p' a' w') a w := by
  obtain ⟨hil, hnl⟩ := ready_lt hr
  have hil' : i < l.length := by simpa using hil
  have hnl' : listed.getD i false = false := by
    have : i < listed.size := by rw [h.size]; exact hil'
    simpa [this] using hnl
  obtain ⟨o, ho⟩ : ∃ o, l[i]? = some o := ⟨_, List.getElem?_eq_getElem hil'⟩
  obtain ⟨r, hrow⟩ : ∃ r, rows[i]? = some r := ⟨_, List.getElem?_eq_getElem (by rw [ok.len]; exact hil')⟩
  obtain ⟨hus, hzs, hgd, hph⟩ := ok.row i o r ho hrow
  have hphase : memN p r.ph = true := by
    rcases hph p h.ple with h' | ⟨k, s, hk, h' | h'⟩
    · exact h'
    · obtain ⟨hkp, h'⟩ := h'
      have hs := (h.phase k s hk).2 hkp
      rcases h' with h' | h'
      · have := h.ahead h' hs; rw [hnl'] at this; simp at this
      · rw [h', hnl'] at hs; simp at hs
    · obtain ⟨hkp, h'⟩ := h'
      have hs := (h.phase k s hk).1 (ready_ahead h hr h')
      omega
  obtain ⟨hsub, hob0⟩ := hobs.at i o r ho hrow
  rw [Nat.zero_add] at hob0
  have hob := hob0 p hphase
  let vs : Nat → Value := fun j => a.tmps.getD (((l[j]?).bind (·.dst)).getD 0) undef
  have hvs : ∀ u ∈ r.us, vs u.1 = a.tmps.getD u.2 undef ∧ listed.getD u.1 false = true := by
    intro u hu
    obtain ⟨ha, o', ho', hd'⟩ := hus u hu
    exact ⟨by simp [vs, ho', hd'], ready_ahead h hr ha⟩
  have hholds : ∀ u ∈ r.us, ∀ r', rows[u.1]? = some r' → r'.out.holds (vs u.1) w := by
    intro u hu r' hr'
    obtain ⟨ha, o', ho', hd'⟩ := hus u hu
    rw [(hvs u hu).1]
    exact h.done u.1 o' r' u.2 ho' hr' (hvs u hu).2 hd'
  have hF : Frm a n (r.fr rows vs) := by
    refine ⟨h.frame, h.defers, fun t v hv => ?_⟩
    have hm := lk_mem hv
    simp only [Row.fr, List.mem_append, List.mem_map, Prod.mk.injEq] at hm
    rcases hm with ⟨u, hu, rfl, rfl⟩ | hm
    · obtain ⟨_, o', ho', _⟩ := hus u hu
      obtain ⟨r', hr'⟩ : ∃ r', rows[u.1]? = some r' := by
        refine ⟨_, List.getElem?_eq_getElem ?_⟩
        rw [ok.len]
        rcases Nat.lt_or_ge u.1 l.length with h' | h'
        · exact h'
        · simp [List.getElem?_eq_none h'] at ho'
      simp only [hr', Option.map_some, Option.getD_some]
      rw [PS.entry_eq (hholds u hu r' hr'), (hvs u hu).1]
    · refine h.rest t v (subL_mem hsub _ hm) fun j o' hj hd => ?_
      rcases hzs _ hm j o' hj hd with rfl | ha
      · exact hnl'
      · cases hlj : listed.getD j false with
        | false => rfl
        | true =>
          have := h.ahead ha hlj
          rw [hnl'] at this
          simp at this
  have hsz : i < listed.size := by rw [h.size]; exact hil'
  have hget : ∀ j, (listed.setIfInBounds i true).getD j false = if j = i then true else listed.getD j false := fun j => getD_set hsz
  -- the phase behind
  have hph2 : (bif memN i ss then p + 1 else p) ≤ ss.length ∧ ∀ k s, ss[k]? = some s → ((listed.setIfInBounds i true).getD s false = true ↔ k < (bif memN i ss then p + 1 else p)) := by
    have uniq : ∀ k k' : Nat, ss[k]? = some i → ss[k']? = some i → k = k' := by
      intro k k' hk hk'
      rcases Nat.lt_trichotomy k k' with hlt | he | hgt
      · have := ready_ahead h hr (ok.chain k k' i i hk hk' hlt); rw [hnl'] at this; simp at this
      · exact he
      · have := ready_ahead h hr (ok.chain k' k i i hk' hk hgt); rw [hnl'] at this; simp at this
    cases hmem : memN i ss with
    | false =>
      simp only [cond_false]
      refine ⟨h.ple, fun k s hk => ?_⟩
      have hne : s ≠ i := fun e => by
        have : i ∈ ss := by subst e; exact List.mem_of_getElem? hk
        rw [memN_iff.2 this] at hmem
        simp at hmem
      rw [hget, if_neg hne]
      exact h.phase k s hk
    | true =>
      simp only [cond_true]
      obtain ⟨k0, hk0⟩ := List.mem_iff_getElem?.1 (memN_iff.1 hmem)
      have hk0l : k0 < ss.length := by
        rcases Nat.lt_or_ge k0 ss.length with h' | h'
        · exact h'
        · simp [List.getElem?_eq_none h'] at hk0
      have h1 : ¬ k0 < p := fun hlt => by
        have := (h.phase k0 i hk0).2 hlt; rw [hnl'] at this; simp at this
      have h2 : ∀ k, k < k0 → k < p := by
        intro k hk
        obtain ⟨s, hs⟩ : ∃ s, ss[k]? = some s := ⟨_, List.getElem?_eq_getElem (by omega)⟩
        exact (h.phase k s hs).1 (ready_ahead h hr (ok.chain k k0 s i hs hk0 hk))
      have hpk : p = k0 := by
        have := h.ple
        rcases Nat.lt_trichotomy p k0 with hlt | he | hgt
        · have := h2 p hlt; omega
        · exact he
        · omega
      refine ⟨by omega, fun k s hk => ?_⟩
      rw [hget]
      by_cases hsi : s = i
      · subst hsi
        have := uniq k k0 hk hk0
        rw [if_pos rfl]
        simp
        omega
      · rw [if_neg hsi, h.phase k s hk]
        have hne : k ≠ k0 := fun e => by subst e; rw [hk0] at hk; exact hsi (by simpa using hk.symm)
        omega
  have hfin : ∀ v w', Wd (bif memN i ss then p + 1 else p) w' → G w w' → r.out.holds v w' → ∃ p', PInv l n Wd ss L0 rows (listed.setIfInBounds i true) p' (a.put o.dst v) w' := by
    intro v w' hwd hg hv
    refine ⟨_, by simp [h.size], ?_, hph2.1, hph2.2, ?_, ?_, hwd, ?_, ?_⟩
    · intro j o' hj hlj e he hb
      rw [hget] at hlj ⊢
      split
      · rfl
      · split at hlj
        · rename_i hji
          subst hji
          rw [ho] at hj
          cases hj
          exact ready_edges ho hr e he hb
        · exact h.closed j o' hj hlj e he hb
    · cases hd : o.dst <;> simp [Act.put, h.frame]
    · cases hd : o.dst <;> simp [Act.put, h.defers]
    · intro j o' r' d hj hrj hlj hd
      rw [hget] at hlj
      by_cases hji : j = i
      · subst hji
        rw [ho] at hj
        cases hj
        rw [hrow] at hrj
        cases hrj
        have hdn := ok.slot _ _ _ ho hd
        simp only [hd, Act.put]
        simpa [h.frame, hdn] using hv
      · rw [if_neg hji] at hlj
        have hold := h.done j o' r' d hj hrj hlj hd
        have hne : o.dst ≠ some d := fun e => ok.once i j o o' ho hj (fun x => hji x.symm) (by rw [e]; simp) (by rw [e, hd])
        have : (a.put o.dst v).tmps.getD d undef = a.tmps.getD d undef := by
          cases hod : o.dst with
          | none => rfl
          | some d' =>
            have : d' ≠ d := fun e => hne (by rw [hod, e])
            simp [Act.put, Array.getElem?_setIfInBounds_ne this]
        rw [this]
        exact PS.holds_mono hold hg
    · intro s u hs hno
      have hne : o.dst ≠ some s := fun e => by
        have := hno i o ho e
        rw [hget, if_pos rfl] at this
        simp at this
      have : (a.put o.dst v).tmps.getD s undef = a.tmps.getD s undef := by
        cases hod : o.dst with
        | none => rfl
        | some d' =>
          have : d' ≠ s := fun e => hne (by rw [hod, e])
          simp [Act.put, Array.getElem?_setIfInBounds_ne this]
      rw [this]
      refine h.rest s u hs fun j o' hj hd => ?_
      have := hno j o' hj hd
      rw [hget] at this
      split at this
      · simp at this
      · exact this
  have hob' := hob vs w h.wd hholds
  unfold wpOp
  simp only [List.getElem?_toArray, ho]
  cases hgu : o.guard with
  | none =>
    rw [hgu] at hob'
    rw [if_pos (by simp [Region.wanted, hgu])]
    exact .inl (hob' a _ Q hF fun v w' ⟨hw, hg, hv⟩ => hfin v w' hw hg hv)
  | some jb =>
    obtain ⟨j, b⟩ := jb
    rw [hgu] at hob'
    obtain ⟨c, rj, hrj, hout, hx⟩ := hob'
    obtain ⟨u, hu, huj⟩ := hgd j b hgu
    obtain ⟨ha, o', ho', hd'⟩ := hus u hu
    have hval : a.tmps.getD u.2 undef = .bool c := by
      have := hholds u hu rj (by rw [huj]; exact hrj)
      rw [hout, (hvs u hu).1] at this
      exact this
    have hy : yielded l.toArray a.tmps j = some c := by
      subst huj
      have hlt := ok.slot _ _ _ ho' hd'
      have hlt' : u.2 < a.tmps.size := by rw [h.frame]; exact hlt
      have hv2 : a.tmps[u.2]? = some (.bool c) := by
        rw [Array.getElem?_eq_getElem hlt']
        congr 1
        simpa [hlt'] using hval
      simp [yielded, ho', hd', hv2]
    by_cases hcb : c = b
    · subst hcb
      simp only [if_true] at hx
      rw [if_pos (by simp [Region.wanted, hgu, hy])]
      exact .inl (hx a _ Q hF fun v w' ⟨hw, hg, hv⟩ => hfin v w' hw hg hv)
    · rw [if_neg hcb] at hx
      rw [if_neg (by simp [Region.wanted, hgu, hy, hcb])]
      have hwd : Wd (bif memN i ss then p + 1 else p) w := by rw [hx.1]; exact h.wd
      -- nothing happens: the old facts stand as they stood
      refine ⟨_, by simp [h.size], ?_, hph2.1, hph2.2, ?_, ?_, hwd, ?_, ?_⟩
      · intro j o' hj hlj e he hb
        rw [hget] at hlj ⊢
        split
        · rfl
        · split at hlj
          · rename_i hji
            subst hji
            rw [ho] at hj
            cases hj
            exact ready_edges ho hr e he hb
          · exact h.closed j o' hj hlj e he hb
      · cases hd : o.dst <;> simp [Act.put, h.frame]
      · cases hd : o.dst <;> simp [Act.put, h.defers]
      · intro j o' r' d hj hrj hlj hd
        rw [hget] at hlj
        by_cases hji : j = i
        · subst hji
          rw [ho] at hj
          cases hj
          rw [hrow] at hrj
          cases hrj
          have hdn := ok.slot _ _ _ ho hd
          simp only [hd, Act.put]
          simpa [h.frame, hdn] using hx.2
        · rw [if_neg hji] at hlj
          have hold := h.done j o' r' d hj hrj hlj hd
          have hne : o.dst ≠ some d := fun e => ok.once i j o o' ho hj (fun x => hji x.symm) (by rw [e]; simp) (by rw [e, hd])
          have : (a.put o.dst undef).tmps.getD d undef = a.tmps.getD d undef := by
            cases hod : o.dst with
            | none => rfl
            | some d' =>
              have : d' ≠ d := fun e => hne (by rw [hod, e])
              simp [Act.put, Array.getElem?_setIfInBounds_ne this]
          rw [this]
          exact hold
      · intro s u hs hno
        have hne : o.dst ≠ some s := fun e => by
          have := hno i o ho e
          rw [hget, if_pos rfl] at this
          simp at this
        have : (a.put o.dst undef).tmps.getD s undef = a.tmps.getD s undef := by
          cases hod : o.dst with
          | none => rfl
          | some d' =>
            have : d' ≠ s := fun e => hne (by rw [hod, e])
            simp [Act.put, Array.getElem?_setIfInBounds_ne this]
        rw [this]
        refine h.rest s u hs fun j o' hj hd => ?_
        have := hno j o' hj hd
        rw [hget] at this
        split at this
        · simp at this
        · exact this

def left (m : Nat) (listed : Array Bool) : Nat := (List.range m).countP fun i => !listed.getD i false

theorem left_set {m i : Nat} (hi : i < listed.size) (him : i < m) (hf : listed.getD i false = false) : left m (listed.setIfInBounds i true) + 1 = left m listed := by
  unfold left
  have key : ∀ (xs : List Nat), xs.Nodup → i ∈ xs → (xs.countP fun j => !(listed.setIfInBounds i true).getD j false) + 1 = xs.countP fun j => !listed.getD j false := by
    intro xs
    induction xs with
    | nil => intro _ h; simp at h
    | cons x xs ih =>
      intro hn hx
      rw [List.nodup_cons] at hn
      by_cases hxi : x = i
      · subst hxi
        have hno : ∀ j ∈ xs, j ≠ x := fun j hj e => hn.1 (e ▸ hj)
        have : (xs.countP fun j => !(listed.setIfInBounds x true).getD j false) = xs.countP fun j => !listed.getD j false := by
          apply List.countP_congr
          intro j hj
          rw [getD_set hi, if_neg (hno j hj)]
        rw [List.countP_cons, List.countP_cons, this, getD_set hi, if_pos rfl, hf]
        simp
      · have hix : i ∈ xs := by
          rcases List.mem_cons.1 hx with e | e
          · exact absurd e.symm hxi
          · exact e
        have := ih hn.2 hix
        rw [List.countP_cons, List.countP_cons, getD_set hi, if_neg hxi]
        omega
  exact key _ List.nodup_range (by simpa using him)

/-- what is known when all is done -/
structure Done (l : List Oper) (n : Nat) (Wd : Nat → World → Prop) (ss : List Nat) (L0 : List (Nat × Value)) (rows : List (Row G)) (a : Act) (w : World) : Prop where
  frame : a.tmps.size = n
  defers : a.defers = []
  wd : Wd ss.length w
  done : ∀ (i : Nat) (o : Oper) (r : Row G) (d : Nat), l[i]? = some o → rows[i]? = some r → o.dst = some d → r.out.holds (a.tmps.getD d undef) w
  rest : ∀ s v, lk L0 s = some v → (∀ (i : Nat) (o : Oper), l[i]? = some o → o.dst ≠ some s) → a.tmps.getD s undef = v

theorem plan_main (ok : OkAll n ss l rows) (hobs : Obs P n Wd ss L0 rows 0 l rows)
    (hend : ∀ a w, Done l n Wd ss L0 rows a w → Q .normal a w) :
    ∀ (fuel : Nat) (listed : Array Bool) (p : Nat) (a : Act) (w : World), PInv l n Wd ss L0 rows listed p a w → left l.length listed ≤ fuel → wpAny P .any l.toArray Q fuel listed a w := by
  have whenAll : ∀ (listed : Array Bool) (p : Nat) (a : Act) (w : World), PInv l n Wd ss L0 rows listed p a w → (∀ i, i < l.length → listed.getD i false = true) → Q .normal a w := by
    intro listed p a w h hall
    have hp : p = ss.length := by
      rcases Nat.lt_or_ge p ss.length with hlt | hge
      · obtain ⟨s, hs⟩ : ∃ s, ss[p]? = some s := ⟨_, List.getElem?_eq_getElem hlt⟩
        have := (h.phase p s hs).1 (hall s (ok.inn p s hs))
        omega
      · have := h.ple; omega
    subst hp
    refine hend a w ⟨h.frame, h.defers, h.wd, fun i o r d ho hr hd => ?_, fun s v hs hno => ?_⟩
    · refine h.done i o r d ho hr (hall i ?_) hd
      rcases Nat.lt_or_ge i l.length with h' | h'
      · exact h'
      · simp [List.getElem?_eq_none h'] at ho
    · exact h.rest s v hs fun i o ho hd => absurd hd (hno i o ho)
  have hready : ∀ (listed : Array Bool) (p : Nat) (a : Act) (w : World), PInv l n Wd ss L0 rows listed p a w → Region.ready .any l.toArray listed = [] → ∀ i, i < l.length → listed.getD i false = true := by
    intro listed p a w h hnil i0 hi0
    have : ∀ k i, i ≤ k → i < l.length → listed.getD i false = false → False := by
      intro k
      induction k with
      | zero =>
        intro i hik hil hif
        have hi0 : i = 0 := by omega
        subst hi0
        have ho : l[0]? = some l[0] := List.getElem?_eq_getElem hil
        have hmem : 0 ∈ Region.ready .any l.toArray listed := by
          simp only [Region.ready, List.mem_filter, List.mem_range, Bool.and_eq_true]
          refine ⟨by simpa using hil, ?_, ?_⟩
          · have : 0 < listed.size := by rw [h.size]; exact hil
            simpa [this] using hif
          · simp only [List.getElem?_toArray, ho, Option.map_some, Option.getD_some, Array.all_eq_true']
            intro e he
            cases hbd : Region.binds .any e with
            | false => simp
            | true => have := ok.back 0 _ ho e (by simpa using he) hbd; omega
        rw [hnil] at hmem
        simp at hmem
      | succ k ihk =>
        intro i hik hil hif
        by_cases hlow : ∃ j, j < i ∧ listed.getD j false = false
        · obtain ⟨j, hj, hjf⟩ := hlow
          exact ihk j (by omega) (by omega) hjf
        · have ho : l[i]? = some l[i] := List.getElem?_eq_getElem hil
          have hmem : i ∈ Region.ready .any l.toArray listed := by
            simp only [Region.ready, List.mem_filter, List.mem_range, Bool.and_eq_true]
            refine ⟨by simpa using hil, ?_, ?_⟩
            · have : i < listed.size := by rw [h.size]; exact hil
              simpa [this] using hif
            · simp only [List.getElem?_toArray, ho, Option.map_some, Option.getD_some, Array.all_eq_true']
              intro e he
              cases hbd : Region.binds .any e with
              | false => simp
              | true =>
                have hlt := ok.back i _ ho e (by simpa using he) hbd
                cases hb : listed.getD e.on false with
                | true => simp
                | false => exact absurd ⟨e.on, hlt, hb⟩ hlow
          rw [hnil] at hmem
          simp at hmem
    cases hb : listed.getD i0 false with
    | true => rfl
    | false => exact (this i0 i0 (Nat.le_refl _) hi0 hb).elim
  intro fuel
  induction fuel with
  | zero =>
    intro listed p a w h hf
    have hall : ∀ i, i < l.length → listed.getD i false = true := by
      intro i hi
      have h0 : left l.length listed = 0 := by omega
      unfold left at h0
      rw [List.countP_eq_zero] at h0
      simpa using h0 i (by simpa using hi)
    refine ⟨?_, whenAll listed p a w h hall⟩
    unfold Region.ready
    rw [List.filter_eq_nil_iff]
    intro i hi
    have hi' : i < l.length := by simpa using hi
    have h1 := hall i hi'
    have h2 : i < listed.size := by rw [h.size]; exact hi'
    have h3 : listed.getD i true = true := by simpa [h2] using h1
    rw [h3]
    simp
  | succ fuel ih =>
    intro listed p a w h hf
    refine ⟨fun hnil => whenAll listed p a w h (hready listed p a w h hnil), fun i hi => ?_⟩
    refine wpOp_mono (fun a' w' h' => ?_) (plan_step (Q := Q) ok hobs h hi)
    obtain ⟨p', h'⟩ := h'
    refine ih _ p' a' w' h' ?_
    have hlt : i < l.length := by simpa using (ready_lt hi).1
    have hsz : i < listed.size := by rw [h.size]; exact hlt
    have hf' : listed.getD i false = false := by
      have := (ready_lt hi).2
      simpa [hsz] using this
    have := left_set hsz hlt hf'
    omega
end
end Go.Mi
