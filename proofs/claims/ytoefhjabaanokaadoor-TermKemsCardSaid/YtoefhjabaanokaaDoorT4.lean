/- What is built, said without an order: the algorithm gives just that. Plain laws. -/
import Derived.Test.YtoefhjabaanokaaDoorT3
namespace Go.Mi.Term
theorem tl_st (m : Told) (x : Tx) (v : Int) : tl (st m x v) x = v := by
  induction m with
  | nil => simp [st, tl]
  | cons p m ih =>
    obtain ⟨y, u⟩ := p
    simp only [st]
    split
    · rename_i h; simp [tl, h]
    · rename_i h; simp only [tl, if_neg h]; exact ih
theorem tl_ne {m : Told} {x y : Tx} {v : Int} (h : y ≠ x) : tl (st m x v) y = tl m y := by
  induction m with
  | nil => simp only [st, tl]; rw [if_neg (fun e => h (Eq.symm e))]
  | cons p m ih =>
    obtain ⟨z, u⟩ := p
    simp only [st]
    split
    · rename_i e; subst e; simp only [tl]; rw [if_neg (fun e => h (Eq.symm e)), if_neg (fun e => h (Eq.symm e))]
    · simp only [tl]; split
      · rfl
      · exact ih
/-- built of what is met -/
inductive Bt (W : Wd) (met : Told) : Tm → Prop
  | kn {t : Tm} : 0 < tl met (txt t) → Bt W met t
  | way {t : Tm} {l : List Tm} : l ∈ ways W t → (∀ u, u ∈ l → Bt W met u) → Bt W met t
section
variable {W : Wd} {met : Told}
theorem txt_congr {k n n' : Int} {ks ks' : List Tm} (hk : k ≠ 1) (h : ks.map txt = ks'.map txt) : txt (.mk k n ks) = txt (.mk k n' ks') := by
  simp only [txt, wtn, if_neg hk, txtL_map, h]
theorem txt_pub {a b : Tm} (h : txt a = txt b) : txt (pubOf a) = txt (pubOf b) := txt_congr (by decide) (by simp [h])
theorem ord3 {a b c d : Tm} (h : (ord 3 [a, b]).map txt = (ord 3 [c, d]).map txt) : (txt a = txt c ∧ txt b = txt d) ∨ (txt a = txt d ∧ txt b = txt c) := by
  simp only [ord, if_true] at h
  split at h <;> split at h <;> simp at h
  · exact .inl ⟨h.2, h.1⟩
  · exact .inr ⟨h.2, h.1⟩
  · exact .inr h
  · exact .inl h
theorem ord_ne {k : Int} (h : k ≠ 3) (ks : List Tm) : ord k ks = ks := by simp [ord, h]
theorem ways_congr {a b : Tm} (ha : Ok a) (hb : Ok b) (h : txt a = txt b) {l : List Tm} (hl : l ∈ ways W a) : ∃ l', l' ∈ ways W b ∧ ∀ u', u' ∈ l' → ∃ u, u ∈ l ∧ txt u = txt u' := by
  have hal := alike ha hb h
  cases a with
  | mk k n ks =>
    cases b with
    | mk k' n' ks' =>
      obtain ⟨h1, _, h3⟩ := hal
      simp only [Tm.kind, Tm.kids] at h1 h3
      subst h1
      by_cases hk : k = 1
      · subst hk; simp [ways] at hl
      replace h3 := h3 hk
      by_cases hk3 : k = 3
      · subst hk3
        obtain ⟨a1, a2, rfl, _, _⟩ := ha.two' (by decide) (by decide) (by decide)
        obtain ⟨b1, b2, rfl, _, _⟩ := hb.two' (by decide) (by decide) (by decide)
        have hwa : ∀ x y : Tm, ∀ q : Int, ways W (.mk 3 q [x, y]) = [[x, pubOf y], [y, pubOf x]] ++ (if W.dh then [[pubOf x, pubOf y]] else []) := fun x y q => by simp [ways]
        rw [hwa] at hl ⊢
        have fin : ∀ (x y x' y' : Tm) (l : List Tm), txt x = txt x' → txt y = txt y' → l = [x, y] → ∀ u', u' ∈ [x', y'] → ∃ u, u ∈ l ∧ txt u = txt u' := by
          intro x y x' y' l h1 h2 hl u' hu
          subst hl
          simp at hu
          rcases hu with rfl | rfl
          · exact ⟨x, by simp, h1⟩
          · exact ⟨y, by simp, h2⟩
        have fin2 : ∀ (x y x' y' : Tm) (l : List Tm), txt x = txt y' → txt y = txt x' → l = [x, y] → ∀ u', u' ∈ [x', y'] → ∃ u, u ∈ l ∧ txt u = txt u' := by
          intro x y x' y' l h1 h2 hl u' hu
          subst hl
          simp at hu
          rcases hu with rfl | rfl
          · exact ⟨y, by simp, h2⟩
          · exact ⟨x, by simp, h1⟩
        simp only [List.mem_append, List.mem_cons, List.not_mem_nil, or_false] at hl
        rcases ord3 h3 with ⟨e1, e2⟩ | ⟨e1, e2⟩
        · rcases hl with (hl | hl) | hl
          · exact ⟨[b1, pubOf b2], by simp, fin _ _ _ _ _ e1 (txt_pub e2) hl⟩
          · exact ⟨[b2, pubOf b1], by simp, fin _ _ _ _ _ e2 (txt_pub e1) hl⟩
          · split at hl
            · rename_i hd; simp at hl; exact ⟨[pubOf b1, pubOf b2], by simp [hd], fin _ _ _ _ _ (txt_pub e1) (txt_pub e2) hl⟩
            · simp at hl
        · rcases hl with (hl | hl) | hl
          · exact ⟨[b2, pubOf b1], by simp, fin _ _ _ _ _ e1 (txt_pub e2) hl⟩
          · exact ⟨[b1, pubOf b2], by simp, fin _ _ _ _ _ e2 (txt_pub e1) hl⟩
          · split at hl
            · rename_i hd; simp at hl; exact ⟨[pubOf b1, pubOf b2], by simp [hd], fin2 _ _ _ _ _ (txt_pub e1) (txt_pub e2) hl⟩
            · simp at hl
      rw [ord_ne hk3, ord_ne hk3] at h3
      by_cases hk4 : k = 4
      · subst hk4
        obtain ⟨a1, a2, rfl, _, _⟩ := ha.two' (by decide) (by decide) (by decide)
        obtain ⟨b1, b2, rfl, _, _⟩ := hb.two' (by decide) (by decide) (by decide)
        have hwa : ∀ x y : Tm, ∀ q : Int, ways W (.mk 4 q [x, y]) = [[y, pubOf x], [x, .mk 5 0 [x, y]]] ++ (if W.kem then [[.mk 5 0 [x, y]]] else []) := fun x y q => by simp [ways]
        rw [hwa] at hl ⊢
        have ec : txt (.mk 5 0 [a1, a2]) = txt (.mk 5 0 [b1, b2]) := txt_congr (by decide) h3
        simp at h3
        obtain ⟨e1, e2⟩ := h3
        simp only [List.mem_append, List.mem_cons, List.not_mem_nil, or_false] at hl
        rcases hl with (hl | hl) | hl
        · subst hl
          refine ⟨[b2, pubOf b1], by simp, fun u' hu => ?_⟩
          simp at hu
          rcases hu with rfl | rfl
          · exact ⟨a2, by simp, e2⟩
          · exact ⟨pubOf a1, by simp, txt_pub e1⟩
        · subst hl
          refine ⟨[b1, .mk 5 0 [b1, b2]], by simp, fun u' hu => ?_⟩
          simp at hu
          rcases hu with rfl | rfl
          · exact ⟨a1, by simp, e1⟩
          · exact ⟨_, by simp, ec⟩
        · split at hl
          · rename_i hd
            simp at hl
            subst hl
            refine ⟨[.mk 5 0 [b1, b2]], by simp [hd], fun u' hu => ?_⟩
            simp at hu
            subst hu
            exact ⟨_, by simp, ec⟩
          · simp at hl
      by_cases hk5 : k = 5
      · subst hk5
        obtain ⟨a1, a2, rfl, _, _⟩ := ha.two' (by decide) (by decide) (by decide)
        obtain ⟨b1, b2, rfl, _, _⟩ := hb.two' (by decide) (by decide) (by decide)
        have hwa : ∀ x y : Tm, ∀ q : Int, ways W (.mk 5 q [x, y]) = [[y, pubOf x]] := fun x y q => by simp [ways]
        rw [hwa] at hl ⊢
        simp at h3
        obtain ⟨e1, e2⟩ := h3
        simp at hl
        subst hl
        refine ⟨[b2, pubOf b1], by simp, fun u' hu => ?_⟩
        simp at hu
        rcases hu with rfl | rfl
        · exact ⟨a2, by simp, e2⟩
        · exact ⟨pubOf a1, by simp, txt_pub e1⟩
      · have hwa : ∀ (q : Int) (ks : List Tm), ways W (.mk k q ks) = [ks] := fun q ks => by simp [ways, hk, hk3, hk4, hk5]
        rw [hwa] at hl ⊢
        simp at hl
        subst hl
        refine ⟨ks', by simp, fun u' hu => ?_⟩
        have : txt u' ∈ ks'.map txt := List.mem_map_of_mem hu
        rw [← h3] at this
        obtain ⟨u, h5, h6⟩ := List.mem_map.1 this
        exact ⟨u, h5, h6⟩
theorem Bt.congr {a : Tm} (h : Bt W met a) : ∀ {b : Tm}, Ok a → Ok b → txt a = txt b → Bt W met b := by
  induction h with
  | kn h => intro b _ _ he; exact .kn (he ▸ h)
  | @way t l hl _ ih =>
    intro b ha hb he
    obtain ⟨l', h1, h2⟩ := ways_congr ha hb he hl
    refine .way h1 fun u' hu => ?_
    obtain ⟨u, h3, h4⟩ := h2 u' hu
    exact ih u h3 (ways_ok ha hl h3).1 (ways_ok hb h1 hu).1 h4
/-! more steps do no harm -/
theorem more_aux (f : Nat) : (∀ l m p, bl W met f l m = some p → bl W met (f + 1) l m = some p) ∧ (∀ ls m p, anyOf W met f ls m = some p → anyOf W met (f + 1) ls m = some p) := by
  induction f with
  | zero => exact ⟨fun l m p h => by simp [bl] at h, fun ls m p h => by simp [anyOf] at h⟩
  | succ f ih =>
    obtain ⟨ih1, ih2⟩ := ih
    constructor
    · intro l m p h
      cases l with
      | nil => simpa [bl] using h
      | cons n l =>
        rw [bl] at h
        rw [bl]
        have key : ∀ m4, (if tl m4 (txt n) = 2 then some (false, m4) else bl W met f l m4) = some p → (if tl m4 (txt n) = 2 then some (false, m4) else bl W met (f + 1) l m4) = some p := by
          intro m4 h
          split at h
          · rename_i e; rw [if_pos e]; exact h
          · rename_i e; rw [if_neg e]; exact ih1 _ _ _ h
        dsimp only at h ⊢
        by_cases h0 : tl m (txt n) = 0
        · rw [if_pos h0] at h ⊢
          by_cases hm : 0 < tl met (txt n)
          · rw [if_pos hm] at h ⊢
            exact key _ h
          · rw [if_neg hm] at h ⊢
            cases ha : anyOf W met f (ways W n) (st m (txt n) 2) with
            | none => rw [ha] at h; simp at h
            | some q =>
              rw [ih2 _ _ _ ha]
              rw [ha] at h
              obtain ⟨b, m3⟩ := q
              cases b <;> exact key _ h
        · rw [if_neg h0] at h ⊢
          exact key _ h
    · intro ls m p h
      cases ls with
      | nil => simpa [anyOf] using h
      | cons l ls =>
        rw [anyOf] at h
        rw [anyOf]
        cases hb : bl W met f l m with
        | none => rw [hb] at h; simp at h
        | some q =>
          rw [ih1 _ _ _ hb]
          rw [hb] at h
          obtain ⟨b, m1⟩ := q
          cases b with
          | true => exact h
          | false => exact ih2 _ _ _ h
theorem bl_more {f g : Nat} (hg : f ≤ g) {l : List Tm} {m : Told} {p : Bool × Told} (h : bl W met f l m = some p) : bl W met g l m = some p := by
  induction g with
  | zero => have : f = 0 := by omega
            subst this; exact h
  | succ g ih =>
    by_cases e : f = g + 1
    · subst e; exact h
    · exact (more_aux g).1 _ _ _ (ih (by omega))
theorem any_more {f g : Nat} (hg : f ≤ g) {l : List (List Tm)} {m : Told} {p : Bool × Told} (h : anyOf W met f l m = some p) : anyOf W met g l m = some p := by
  induction g with
  | zero => have : f = 0 := by omega
            subst this; exact h
  | succ g ih =>
    by_cases e : f = g + 1
    · subst e; exact h
    · exact (more_aux g).2 _ _ _ (ih (by omega))
/-- what is told of texts below a length is so -/
def Cons (W : Wd) (met : Told) (m : Told) (k : Nat) : Prop := ∀ t, Ok t → tlen t < k → tl m (txt t) = 0 ∨ (tl m (txt t) = 1 ∧ Bt W met t) ∨ (tl m (txt t) = 2 ∧ ¬ Bt W met t)
def step1 (W : Wd) (met : Told) (g : Nat) (n : Tm) (m : Told) : Option Told :=
  if tl m (txt n) = 0 then (if 0 < tl met (txt n) then some (st (st m (txt n) 2) (txt n) 1) else match anyOf W met g (ways W n) (st m (txt n) 2) with
    | none => none
    | some (true, m3) => some (st m3 (txt n) 1)
    | some (false, m3) => some m3) else some m
theorem bl_succ {g : Nat} {n : Tm} {l : List Tm} {m m4 : Told} (h : step1 W met g n m = some m4) : bl W met (g + 1) (n :: l) m = if tl m4 (txt n) = 2 then some (false, m4) else bl W met g l m4 := by
  rw [bl]
  dsimp only
  unfold step1 at h
  by_cases h0 : tl m (txt n) = 0
  · rw [if_pos h0] at h ⊢
    by_cases hm : 0 < tl met (txt n)
    · rw [if_pos hm] at h ⊢
      cases h; rfl
    · rw [if_neg hm] at h ⊢
      cases ha : anyOf W met g (ways W n) (st m (txt n) 2) with
      | none => rw [ha] at h; cases h
      | some q =>
        rw [ha] at h
        obtain ⟨b, m3⟩ := q
        cases b <;> (cases h; rfl)
  · rw [if_neg h0] at h ⊢
    cases h; rfl
def Tot (W : Wd) (met : Told) (k : Nat) : Prop := ∀ l : List Tm, (∀ u, u ∈ l → Ok u ∧ tlen u < k) → ∀ m, Cons W met m k → ∃ f r m', bl W met f l m = some (r, m') ∧ (r = true ↔ ∀ u, u ∈ l → Bt W met u) ∧ Cons W met m' k ∧ ∀ x : Tx, k ≤ x.length → tl m' x = tl m x
theorem any_tot {k : Nat} (hb : Tot W met k) : ∀ ls : List (List Tm), (∀ l, l ∈ ls → ∀ u, u ∈ l → Ok u ∧ tlen u < k) → ∀ m, Cons W met m k → ∃ f r m', anyOf W met f ls m = some (r, m') ∧ (r = true ↔ ∃ l, l ∈ ls ∧ ∀ u, u ∈ l → Bt W met u) ∧ Cons W met m' k ∧ ∀ x : Tx, k ≤ x.length → tl m' x = tl m x := by
  intro ls
  induction ls with
  | nil => intro _ m hm; exact ⟨1, false, m, by simp [anyOf], by simp, hm, fun _ _ => rfl⟩
  | cons l ls ih =>
    intro hl m hm
    obtain ⟨f1, r1, m1, h1, h2, h3, h4⟩ := hb l (hl l (by simp)) m hm
    cases r1 with
    | true =>
      refine ⟨f1 + 1, true, m1, by simp [anyOf, h1], ?_, h3, h4⟩
      simp only [true_iff]
      exact ⟨l, by simp, h2.1 rfl⟩
    | false =>
      obtain ⟨f2, r2, m2, k1, k2, k3, k4⟩ := ih (fun l' hl' => hl l' (by simp [hl'])) m1 h3
      refine ⟨max f1 f2 + 1, r2, m2, ?_, ?_, k3, fun x hx => by rw [k4 x hx, h4 x hx]⟩
      · simp [anyOf, bl_more (Nat.le_max_left f1 f2) h1, any_more (Nat.le_max_right f1 f2) k1]
      · rw [k2]
        constructor
        · rintro ⟨l', h5, h6⟩; exact ⟨l', by simp [h5], h6⟩
        · rintro ⟨l', h5, h6⟩
          rcases List.mem_cons.1 h5 with rfl | h5
          · have := h2.2 h6; simp at this
          · exact ⟨l', h5, h6⟩
theorem bl_tot (k : Nat) : Tot W met k := by
  induction k using Nat.strongRecOn with
  | _ k ih =>
    intro l
    induction l with
    | nil => intro _ m hm; exact ⟨1, true, m, by simp [bl], by simp, hm, fun _ _ => rfl⟩
    | cons n l ihl =>
      intro hl m hm
      obtain ⟨hno, hnk⟩ := hl n (by simp)
      -- the element
      have elem : ∃ f m4, (∀ g, f ≤ g → step1 W met g n m = some m4) ∧ ((tl m4 (txt n) = 1 ∧ Bt W met n) ∨ (tl m4 (txt n) = 2 ∧ ¬ Bt W met n)) ∧ Cons W met m4 k ∧ ∀ x : Tx, k ≤ x.length → tl m4 x = tl m x := by
        have hxl : ∀ x : Tx, k ≤ x.length → x ≠ txt n := fun x hx e => by subst e; unfold tlen at hnk; omega
        by_cases h0 : tl m (txt n) = 0
        · by_cases hmet : 0 < tl met (txt n)
          · refine ⟨0, st (st m (txt n) 2) (txt n) 1, fun g _ => by rw [step1, if_pos h0, if_pos hmet], .inl ⟨tl_st _ _ _, .kn hmet⟩, fun t ht htk => ?_, fun x hx => by rw [tl_ne (hxl x hx), tl_ne (hxl x hx)]⟩
            by_cases e : txt t = txt n
            · rw [e, tl_st]
              exact .inr (.inl ⟨rfl, (Bt.kn hmet).congr hno ht e.symm⟩)
            · rw [tl_ne e, tl_ne e]; exact hm t ht htk
          · have hc2 : Cons W met (st m (txt n) 2) (tlen n) := fun t ht htn => by
              have : txt t ≠ txt n := fun e => by unfold tlen at htn; rw [e] at htn; omega
              rw [tl_ne this]
              exact hm t ht (by omega)
            obtain ⟨f, r, m3, h1, h2, h3, h4⟩ := any_tot (ih (tlen n) hnk) (ways W n) (fun l' hl' u hu => ways_ok hno hl' hu) _ hc2
            have hbt : r = true ↔ Bt W met n := by
              rw [h2]
              constructor
              · rintro ⟨l', h5, h6⟩; exact .way h5 h6
              · intro h
                cases h with
                | kn h => exact absurd h hmet
                | way h5 h6 => exact ⟨_, h5, h6⟩
            have h3n : tl m3 (txt n) = 2 := by rw [h4 _ (Nat.le_refl _), tl_st]
            have hm3 : ∀ t, txt t ≠ txt n → Ok t → tlen t < k → tl m3 (txt t) = 0 ∨ (tl m3 (txt t) = 1 ∧ Bt W met t) ∨ (tl m3 (txt t) = 2 ∧ ¬ Bt W met t) := by
              intro t e ht htk
              by_cases hlt : tlen t < tlen n
              · exact h3 t ht hlt
              · rw [h4 (txt t) (by unfold tlen at hlt ⊢; omega), tl_ne e]; exact hm t ht htk
            cases r with
            | true =>
              refine ⟨f, st m3 (txt n) 1, fun g hg => by rw [step1, if_pos h0, if_neg hmet, any_more hg h1], .inl ⟨tl_st _ _ _, hbt.1 rfl⟩, fun t ht htk => ?_, fun x hx => by rw [tl_ne (hxl x hx), h4 x (by omega), tl_ne (hxl x hx)]⟩
              by_cases e : txt t = txt n
              · rw [e, tl_st]; exact .inr (.inl ⟨rfl, (hbt.1 rfl).congr hno ht e.symm⟩)
              · rw [tl_ne e]; exact hm3 t e ht htk
            | false =>
              have hnb : ¬ Bt W met n := fun h => by have := hbt.2 h; simp at this
              refine ⟨f, m3, fun g hg => by rw [step1, if_pos h0, if_neg hmet, any_more hg h1], .inr ⟨h3n, hnb⟩, fun t ht htk => ?_, fun x hx => by rw [h4 x (by omega), tl_ne (hxl x hx)]⟩
              by_cases e : txt t = txt n
              · rw [e, h3n]; exact .inr (.inr ⟨rfl, fun h => hnb (h.congr ht hno e)⟩)
              · exact hm3 t e ht htk
        · refine ⟨0, m, fun g _ => by rw [step1, if_neg h0], ?_, hm, fun _ _ => rfl⟩
          rcases hm n hno hnk with h | h | h
          · exact absurd h h0
          · exact .inl h
          · exact .inr h
      obtain ⟨f, m4, h1, h2, h3, h4⟩ := elem
      rcases h2 with ⟨h2, hb⟩ | ⟨h2, hb⟩
      · obtain ⟨f2, r, m', k1, k2, k3, k4⟩ := ihl (fun u hu => hl u (by simp [hu])) m4 h3
        refine ⟨max f f2 + 1, r, m', ?_, ?_, k3, fun x hx => by rw [k4 x hx, h4 x hx]⟩
        · rw [bl_succ (h1 _ (Nat.le_max_left f f2)), h2, if_neg (by decide)]
          exact bl_more (Nat.le_max_right f f2) k1
        · rw [k2]
          constructor
          · intro h u hu
            rcases List.mem_cons.1 hu with rfl | hu
            · exact hb
            · exact h u hu
          · intro h u hu; exact h u (by simp [hu])
      · refine ⟨f + 1, false, m4, ?_, ?_, h3, h4⟩
        · rw [bl_succ (h1 _ (Nat.le_refl _)), h2, if_pos rfl]
        · simp only [Bool.false_eq_true, false_iff]
          exact fun h => hb (h n (by simp))
end
end Go.Mi.Term
