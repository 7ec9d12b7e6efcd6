/- Texts tell terms apart. Plain laws. -/
import Derived.Test.YtoefhjabaanokaaDoorT0
namespace Go.Mi.Term
theorem Tm.rec' {p : Tm → Prop} (h : ∀ k n ks, (∀ t, t ∈ ks → p t) → p (.mk k n ks)) : (t : Tm) → p t
  | .mk k n ks => h k n ks fun t _ => Tm.rec' h t
/-- a term whose kinds, names and kids may be -/
inductive Ok : Tm → Prop
  | mk {k n : Int} {ks : List Tm} : named k n = true → low k ≤ ks.length → ks.length ≤ high k → (∀ t, t ∈ ks → Ok t) → Ok (.mk k n ks)
theorem Ok.named {k n : Int} {ks : List Tm} (h : Ok (.mk k n ks)) : 1 ≤ k ∧ k ≤ 9 ∧ (k = 1 → 0 ≤ n ∧ n ≤ 1073741824) := by
  cases h with
  | mk h1 h2 h3 h4 =>
    simp only [Term.named, Bool.and_eq_true, Bool.or_eq_true, decide_eq_true_eq, Bool.not_eq_true', decide_eq_false_iff_not] at h1
    omega
theorem Ok.kids {k n : Int} {ks : List Tm} (h : Ok (.mk k n ks)) : low k ≤ ks.length ∧ ks.length ≤ high k ∧ ∀ t, t ∈ ks → Ok t := by
  cases h with
  | mk h1 h2 h3 h4 => exact ⟨h2, h3, h4⟩
theorem Ok.atom {n : Int} {ks : List Tm} (h : Ok (.mk 1 n ks)) : ks = [] := by
  have := h.kids.2.1
  simp [high] at this
  exact this
theorem Ok.more {k n : Int} {ks : List Tm} (h : Ok (.mk k n ks)) (hk : k ≠ 1) : 0 < ks.length := by
  have := h.kids.1
  unfold low at this
  rw [if_neg hk] at this
  split at this <;> omega
/-- kids in the order in which they are written -/
def ord (k : Int) (ks : List Tm) : List Tm :=
  if k = 3 then (match ks with
    | a :: b :: r => if lessTx (txt b) (txt a) then b :: a :: r else ks
    | _ => ks) else ks
theorem ord_txt (k : Int) (ks : List Tm) : rowed k (ks.map txt) = (ord k ks).map txt := by
  unfold rowed ord
  split
  · match ks with
    | [] => rfl
    | [_] => rfl
    | a :: b :: r =>
      simp only [List.map_cons]
      split <;> rfl
  · rfl
theorem ord_mem {k : Int} {ks : List Tm} {t : Tm} : t ∈ ord k ks ↔ t ∈ ks := by
  unfold ord
  split
  · match ks with
    | [] => rfl
    | [_] => rfl
    | a :: b :: r =>
      simp only
      split
      · simp only [List.mem_cons]
        constructor
        · rintro (h | h | h)
          · exact .inr (.inl h)
          · exact .inl h
          · exact .inr (.inr h)
        · rintro (h | h | h)
          · exact .inr (.inl h)
          · exact .inl h
          · exact .inr (.inr h)
      · rfl
  · rfl
theorem ord_len (k : Int) (ks : List Tm) : (ord k ks).length = ks.length := by
  unfold ord
  split
  · match ks with
    | [] => rfl
    | [_] => rfl
    | a :: b :: r =>
      simp only
      split <;> simp
  · rfl
theorem txt_atom (n : Int) (ks : List Tm) : txt (.mk 1 n ks) = 110 :: Lib.itoa n := by
  simp [txt, wtn, word]
theorem txt_more {k n : Int} {ks : List Tm} (hk : k ≠ 1) : txt (.mk k n ks) = word k ++ 40 :: (Lib.join ((ord k ks).map txt) [44] ++ [41]) := by
  simp only [txt, wtn, if_neg hk, txtL_map, ord_txt, List.append_assoc, List.cons_append, List.nil_append]
/-- what may stand behind a text -/
def Stop (r : Tx) : Prop := r = [] ∨ ∃ c s, r = c :: s ∧ (c = 44 ∨ c = 41)
theorem dig_key : ∀ d : Fin 10, 48 ≤ UInt8.ofNat (48 + d.val) ∧ UInt8.ofNat (48 + d.val) ≤ 57 := by decide
theorem dig_one : ∀ d e : Fin 10, UInt8.ofNat (48 + d.val) = UInt8.ofNat (48 + e.val) → d = e := by decide
theorem dec_digit (u : Nat) : ∀ c, c ∈ Lib.decDigits u → 48 ≤ c ∧ c ≤ 57 := by
  induction u using Nat.strongRecOn with
  | _ u ih =>
    intro c hc
    rw [Lib.decDigits] at hc
    split at hc
    · rename_i h
      rw [List.mem_singleton.1 hc]
      exact dig_key ⟨u, h⟩
    · rcases List.mem_append.1 hc with hc | hc
      · exact ih _ (by omega) c hc
      · rw [List.mem_singleton.1 hc]
        exact dig_key ⟨u % 10, by omega⟩
theorem dec_inj : ∀ (u v : Nat), Lib.decDigits u = Lib.decDigits v → u = v := by
  intro u
  have one : ∀ d e : Nat, d < 10 → e < 10 → [UInt8.ofNat (48 + d)] = [UInt8.ofNat (48 + e)] → d = e := fun d e hd he h => congrArg Fin.val (dig_one ⟨d, hd⟩ ⟨e, he⟩ (List.cons.inj h).1)
  induction u using Nat.strongRecOn with
  | _ u ih =>
    intro v h
    have hu : Lib.decDigits u = if h : u < 10 then [UInt8.ofNat (48 + u)] else Lib.decDigits (u / 10) ++ [UInt8.ofNat (48 + u % 10)] := by rw [Lib.decDigits]
    have hv : Lib.decDigits v = if h : v < 10 then [UInt8.ofNat (48 + v)] else Lib.decDigits (v / 10) ++ [UInt8.ofNat (48 + v % 10)] := by rw [Lib.decDigits]
    have ne : ∀ x, Lib.decDigits x ≠ [] := fun x he => by have := Lib.decDigits_length x; have := Lib.nDigits_pos x; rw [he] at *; simp at *; omega
    rw [hu, hv] at h
    split at h <;> split at h
    · exact one u v (by assumption) (by assumption) h
    · have := congrArg List.length h
      have h1 := ne (v / 10)
      cases hd : Lib.decDigits (v / 10) with
      | nil => exact absurd hd h1
      | cons x l => rw [hd] at this; simp at this
    · have := congrArg List.length h
      have h1 := ne (u / 10)
      cases hd : Lib.decDigits (u / 10) with
      | nil => exact absurd hd h1
      | cons x l => rw [hd] at this; simp at this
    · have h2 := List.append_inj' h rfl
      have h3 := ih (u / 10) (by omega) (v / 10) h2.1
      have h4 := one (u % 10) (v % 10) (by omega) (by omega) h2.2
      omega
theorem dig_stop : ∀ (a b : List UInt8) (r s : Tx), (∀ c, c ∈ a → 48 ≤ c ∧ c ≤ 57) → (∀ c, c ∈ b → 48 ≤ c ∧ c ≤ 57) → Stop r → Stop s → a ++ r = b ++ s → a = b ∧ r = s
  | [], [], r, s, _, _, _, _, h => ⟨rfl, h⟩
  | x :: a, y :: b, r, s, ha, hb, hr, hs, h => by
    simp only [List.cons_append, List.cons.injEq] at h
    obtain ⟨h1, h2⟩ := dig_stop a b r s (fun c hc => ha c (List.mem_cons_of_mem _ hc)) (fun c hc => hb c (List.mem_cons_of_mem _ hc)) hr hs h.2
    exact ⟨by rw [h.1, h1], h2⟩
  | [], y :: b, r, s, _, hb, hr, _, h => by
    have := hb y (List.mem_cons_self ..)
    simp only [List.nil_append, List.cons_append] at h
    rcases hr with rfl | ⟨c, q, rfl, hc⟩
    · simp at h
    · simp only [List.cons.injEq] at h
      obtain ⟨rfl, _⟩ := h
      rcases hc with rfl | rfl
      · exact absurd this.1 (by decide)
      · exact absurd this.1 (by decide)
  | x :: a, [], r, s, ha, _, _, hs, h => by
    have := ha x (List.mem_cons_self ..)
    simp only [List.nil_append, List.cons_append] at h
    rcases hs with rfl | ⟨c, q, rfl, hc⟩
    · simp at h
    · simp only [List.cons.injEq] at h
      obtain ⟨rfl, _⟩ := h
      rcases hc with rfl | rfl
      · exact absurd this.1 (by decide)
      · exact absurd this.1 (by decide)
theorem kind_cases {k : Int} (h1 : 1 ≤ k) (h9 : k ≤ 9) : k = 1 ∨ k = 2 ∨ k = 3 ∨ k = 4 ∨ k = 5 ∨ k = 6 ∨ k = 7 ∨ k = 8 ∨ k = 9 := by omega
theorem word_stop {k j : Int} (hk : 2 ≤ k ∧ k ≤ 9) (hj : 2 ≤ j ∧ j ≤ 9) {r s : Tx} (h : word k ++ 40 :: r = word j ++ 40 :: s) : k = j ∧ r = s := by
  have h1 : k = 2 ∨ k = 3 ∨ k = 4 ∨ k = 5 ∨ k = 6 ∨ k = 7 ∨ k = 8 ∨ k = 9 := by omega
  have h2 : j = 2 ∨ j = 3 ∨ j = 4 ∨ j = 5 ∨ j = 6 ∨ j = 7 ∨ j = 8 ∨ j = 9 := by omega
  rcases h1 with rfl | rfl | rfl | rfl | rfl | rfl | rfl | rfl <;> rcases h2 with rfl | rfl | rfl | rfl | rfl | rfl | rfl | rfl <;> simp [word] at h ⊢ <;> exact h
theorem word_n {k : Int} (hk : 2 ≤ k ∧ k ≤ 9) {r s : Tx} (h : word k ++ 40 :: r = 110 :: s) : False := by
  have h1 : k = 2 ∨ k = 3 ∨ k = 4 ∨ k = 5 ∨ k = 6 ∨ k = 7 ∨ k = 8 ∨ k = 9 := by omega
  rcases h1 with rfl | rfl | rfl | rfl | rfl | rfl | rfl | rfl <;> simp [word] at h
/-- two that are written alike, of the same shape -/
def Alike (a b : Tm) : Prop := a.kind = b.kind ∧ (a.kind = 1 → a.name = b.name) ∧ (a.kind ≠ 1 → (ord a.kind a.kids).map txt = (ord b.kind b.kids).map txt)
theorem joins {xs ys : List Tm} (ihx : ∀ t, t ∈ xs → ∀ u, Ok u → ∀ r s, Stop r → Stop s → txt t ++ r = txt u ++ s → txt t = txt u ∧ r = s) (hy : ∀ u, u ∈ ys → Ok u) (hx0 : 0 < xs.length) (hy0 : 0 < ys.length) {r s : Tx}
    (h : Lib.join (xs.map txt) [44] ++ 41 :: r = Lib.join (ys.map txt) [44] ++ 41 :: s) : xs.map txt = ys.map txt ∧ r = s := by
  induction xs generalizing ys with
  | nil => simp at hx0
  | cons x xs ih =>
    cases ys with
    | nil => simp at hy0
    | cons y ys =>
      simp only [List.map_cons, Lib.join_cons, List.append_assoc] at h
      have hxs : ∀ (zs : List Tm) (q : Tx), Stop (Lib.joinTail [44] (zs.map txt) ++ 41 :: q) := by
        intro zs q
        cases zs with
        | nil => exact .inr ⟨41, q, by simp [Lib.joinTail], .inr rfl⟩
        | cons z zs => exact .inr ⟨44, txt z ++ (Lib.joinTail [44] (zs.map txt) ++ 41 :: q), by simp [Lib.joinTail], .inl rfl⟩
      obtain ⟨h1, h2⟩ := ihx x (List.mem_cons_self ..) y (hy y (List.mem_cons_self ..)) _ _ (hxs xs r) (hxs ys s) h
      cases xs with
      | nil =>
        cases ys with
        | nil => simp [Lib.joinTail] at h2; exact ⟨by simp [h1], h2⟩
        | cons z ys => simp [Lib.joinTail] at h2
      | cons z xs =>
        cases ys with
        | nil => simp [Lib.joinTail] at h2
        | cons z' ys =>
          have h3 : Lib.join ((z :: xs).map txt) [44] ++ 41 :: r = Lib.join ((z' :: ys).map txt) [44] ++ 41 :: s := by
            simp only [List.map_cons, Lib.join_cons]
            simp only [List.map_cons, Lib.joinTail, List.flatten_cons, List.cons_append, List.nil_append, List.cons.injEq, true_and] at h2
            exact h2
          obtain ⟨h4, h5⟩ := ih (ys := z' :: ys) (fun t ht => ihx t (List.mem_cons_of_mem _ ht)) (fun u hu => hy u (List.mem_cons_of_mem _ hu)) (by simp) (by simp) h3
          exact ⟨by rw [List.map_cons, h1, h4]; rfl, h5⟩
theorem read : (a : Tm) → Ok a → ∀ b, Ok b → ∀ r s, Stop r → Stop s → txt a ++ r = txt b ++ s → txt a = txt b ∧ r = s ∧ Alike a b := by
  refine Tm.rec' ?_
  intro k n ks ih ha b hb r s hr hs h
  cases b with
  | mk j m js =>
    obtain ⟨k1, k9, kn⟩ := ha.named
    obtain ⟨j1, j9, jn⟩ := hb.named
    by_cases hk : k = 1
    · by_cases hj : j = 1
      · subst hk; subst hj
        rw [txt_atom, txt_atom] at h ⊢
        simp only [List.cons_append, List.cons.injEq, true_and] at h
        have h0 := kn rfl
        have h0' := jn rfl
        rw [Lib.itoa, if_neg (by omega), Lib.itoa, if_neg (by omega)] at h
        rw [Lib.itoa, if_neg (by omega), Lib.itoa, if_neg (by omega)]
        obtain ⟨h1, h2⟩ := dig_stop _ _ r s (dec_digit _) (dec_digit _) hr hs h
        have h3 := dec_inj _ _ h1
        refine ⟨by rw [h1], h2, rfl, fun _ => ?_, fun h => absurd rfl h⟩
        simp only [Tm.name]
        omega
      · subst hk
        rw [txt_atom, txt_more hj] at h
        simp only [List.append_assoc, List.cons_append] at h
        exact (word_n (k := j) (by omega) h.symm).elim
    · by_cases hj : j = 1
      · subst hj
        rw [txt_atom, txt_more hk] at h
        simp only [List.append_assoc, List.cons_append] at h
        exact (word_n (k := k) (by omega) h).elim
      · rw [txt_more hk, txt_more hj] at h ⊢
        simp only [List.append_assoc, List.cons_append, List.nil_append] at h
        obtain ⟨hkj, h1⟩ := word_stop (by omega) (by omega) h
        subst hkj
        have hl := ha.more hk
        have hl' := hb.more hk
        obtain ⟨h2, h3⟩ := joins (xs := ord k ks) (ys := ord k js) (fun t ht u hu r s hr hs h => by
          obtain ⟨h1, h2, _⟩ := ih t (ord_mem.1 ht) (ha.kids.2.2 t (ord_mem.1 ht)) u hu r s hr hs h
          exact ⟨h1, h2⟩) (fun u hu => hb.kids.2.2 u (ord_mem.1 hu)) (by rw [ord_len]; exact hl) (by rw [ord_len]; exact hl') h1
        exact ⟨by rw [h2], h3, rfl, fun h => absurd h hk, fun _ => h2⟩
theorem alike {a b : Tm} (ha : Ok a) (hb : Ok b) (h : txt a = txt b) : Alike a b := (read a ha b hb [] [] (.inl rfl) (.inl rfl) (by rw [h])).2.2
theorem txt_pos (t : Tm) : 1 ≤ (txt t).length := by
  cases t with
  | mk k n ks =>
    by_cases hk : k = 1
    · subst hk; rw [txt_atom]; simp
    · rw [txt_more hk]; simp; omega
end Go.Mi.Term
