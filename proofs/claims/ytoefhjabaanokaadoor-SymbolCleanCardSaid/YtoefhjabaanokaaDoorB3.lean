/- Texts that belong together: T1, T2, T3, T4, T5, T6. General lemmas and walks; no conditions. -/
import Derived.Test.YtoefhjabaanokaaDoorB2
set_option linter.unusedSimpArgs false
set_option linter.unusedVariables false
set_option linter.unnecessarySimpa false
namespace Go.Mi.Term
theorem Tm.rec' {p : Tm → Prop} (h : ∀ k n ks, (∀ t, t ∈ ks → p t) → p (.mk k n ks)) : (t : Tm) → p t
 | .mk k n ks => h k n ks fun t _ => Tm.rec' h t
inductive Ok : Tm → Prop
 | mk {k n : Int} {ks : List Tm} : named k n = true → low k ≤ ks.length → ks.length ≤ dX k → (∀ t, t ∈ ks → Ok t) → Ok (.mk k n ks)
theorem Ok.named {k n : Int} {ks : List Tm} (h : Ok (.mk k n ks)) : 1 ≤ k ∧ k ≤ 9 ∧ (k = 1 → 0 ≤ n ∧ n ≤ 1073741824) := by
 cases h with
 | mk h1 h2 h3 h4 =>
  simp only [Term.named, Bool.and_eq_true, Bool.or_eq_true, decide_eq_true_eq, Bool.not_eq_true', decide_eq_false_iff_not] at h1
  omega
theorem Ok.kids {k n : Int} {ks : List Tm} (h : Ok (.mk k n ks)) : low k ≤ ks.length ∧ ks.length ≤ dX k ∧ ∀ t, t ∈ ks → Ok t := by
 cases h with
 | mk h1 h2 h3 h4 => exact ⟨h2, h3, h4⟩
theorem Ok.atom {n : Int} {ks : List Tm} (h : Ok (.mk 1 n ks)) : ks = [] := by
 have := h.kids.2.1
 simp [dX] at this
 exact this
theorem Ok.more {k n : Int} {ks : List Tm} (h : Ok (.mk k n ks)) (hk : k ≠ 1) : 0 < ks.length := by
 have := h.kids.1
 unfold low at this
 rw [if_neg hk] at this
 split at this <;> omega
def ord (k : Int) (ks : List Tm) : List Tm :=
 if k = 3 then (match ks with
  | a :: b :: r => if dZ (txt b) (txt a) then b :: a :: r else ks
  | _ => ks) else ks
theorem kR (k : Int) (ks : List Tm) : fJ k (ks.map txt) = (ord k ks).map txt := by
 unfold fJ ord
 split
 ·match ks with
  | [] => rfl
  | [_] => rfl
  | a :: b :: r =>
   simp only [List.map_cons]
   split <;> rfl
 ·rfl
theorem ord_mem {k : Int} {ks : List Tm} {t : Tm} : t ∈ ord k ks ↔ t ∈ ks := by
 unfold ord
 split
 ·match ks with
  | [] => rfl
  | [_] => rfl
  | a :: b :: r =>
   simp only
   split
   ·simp only [List.mem_cons]
    constructor
    ·rintro (h | h | h)
     ·exact .inr (.inl h)
     ·exact .inl h
     ·exact .inr (.inr h)
    ·rintro (h | h | h)
     ·exact .inr (.inl h)
     ·exact .inl h
     ·exact .inr (.inr h)
   ·rfl
 ·rfl
theorem kS (k : Int) (ks : List Tm) : (ord k ks).length = ks.length := by
 unfold ord
 split
 ·match ks with
  | [] => rfl
  | [_] => rfl
  | a :: b :: r =>
   simp only
   split <;> simp
 ·rfl
theorem eH (n : Int) (ks : List Tm) : txt (.mk 1 n ks) = 110 :: Lib.itoa n := by
 simp [txt, wtn, dt]
theorem fc {k n : Int} {ks : List Tm} (hk : k ≠ 1) : txt (.mk k n ks) = dt k ++ 40 :: (Lib.join ((ord k ks).map txt) [44] ++ [41]) := by
 simp only [txt, wtn, if_neg hk, gN, kR, List.append_assoc, List.cons_append, List.nil_append]
def nS (r : Tx) : Prop := r = [] ∨ ∃ c s, r = c :: s ∧ (c = 44 ∨ c = 41)
theorem ot : ∀ d : Fin 10, 48 ≤ UInt8.ofNat (48 + d.val) ∧ UInt8.ofNat (48 + d.val) ≤ 57 := by decide
theorem sH : ∀ d e : Fin 10, UInt8.ofNat (48 + d.val) = UInt8.ofNat (48 + e.val) → d = e := by decide
theorem kw (u : Nat) : ∀ c, c ∈ Lib.decDigits u → 48 ≤ c ∧ c ≤ 57 := by
 induction u using Nat.strongRecOn with
 | _ u ih =>
  intro c hc
  rw [Lib.decDigits] at hc
  split at hc
  ·rename_i h
   rw [List.mem_singleton.1 hc]
   exact ot ⟨u, h⟩
  ·rcases List.mem_append.1 hc with hc | hc
   ·exact ih _ (by omega) c hc
   ·rw [List.mem_singleton.1 hc]
    exact ot ⟨u % 10, by omega⟩
theorem sI : ∀ (u v : Nat), Lib.decDigits u = Lib.decDigits v → u = v := by
 intro u
 have one : ∀ d e : Nat, d < 10 → e < 10 → [UInt8.ofNat (48 + d)] = [UInt8.ofNat (48 + e)] → d = e := fun d e hd he h => congrArg Fin.val (sH ⟨d, hd⟩ ⟨e, he⟩ (List.cons.inj h).1)
 induction u using Nat.strongRecOn with
 | _ u ih =>
  intro v h
  have hu : Lib.decDigits u = if h : u < 10 then [UInt8.ofNat (48 + u)] else Lib.decDigits (u / 10) ++ [UInt8.ofNat (48 + u % 10)] := by rw [Lib.decDigits]
  have hv : Lib.decDigits v = if h : v < 10 then [UInt8.ofNat (48 + v)] else Lib.decDigits (v / 10) ++ [UInt8.ofNat (48 + v % 10)] := by rw [Lib.decDigits]
  have ne : ∀ x, Lib.decDigits x ≠ [] := fun x he => by have := Lib.decDigits_length x; have := Lib.nDigits_pos x; rw [he] at *; simp at *; omega
  rw [hu, hv] at h
  split at h <;> split at h
  ·exact one u v (by assumption) (by assumption) h
  ·have := congrArg List.length h
   have h1 := ne (v / 10)
   cases hd : Lib.decDigits (v / 10) with
   | nil => exact absurd hd h1
   | cons x l => rw [hd] at this; simp at this
  ·have := congrArg List.length h
   have h1 := ne (u / 10)
   cases hd : Lib.decDigits (u / 10) with
   | nil => exact absurd hd h1
   | cons x l => rw [hd] at this; simp at this
  ·have h2 := List.append_inj' h rfl
   have h3 := ih (u / 10) (by omega) (v / 10) h2.1
   have h4 := one (u % 10) (v % 10) (by omega) (by omega) h2.2
   omega
theorem mB : ∀ (a b : List UInt8) (r s : Tx), (∀ c, c ∈ a → 48 ≤ c ∧ c ≤ 57) → (∀ c, c ∈ b → 48 ≤ c ∧ c ≤ 57) → nS r → nS s → a ++ r = b ++ s → a = b ∧ r = s
 | [], [], r, s, _, _, _, _, h => ⟨rfl, h⟩
 | x :: a, y :: b, r, s, ha, hb, hr, hs, h => by
  simp only [List.cons_append, List.cons.injEq] at h
  obtain ⟨h1, h2⟩ := mB a b r s (fun c hc => ha c (List.mem_cons_of_mem _ hc)) (fun c hc => hb c (List.mem_cons_of_mem _ hc)) hr hs h.2
  exact ⟨by rw [h.1, h1], h2⟩
 | [], y :: b, r, s, _, hb, hr, _, h => by
  have := hb y (List.mem_cons_self ..)
  simp only [List.nil_append, List.cons_append] at h
  rcases hr with rfl | ⟨c, q, rfl, hc⟩
  ·simp at h
  ·simp only [List.cons.injEq] at h
   obtain ⟨rfl, _⟩ := h
   rcases hc with rfl | rfl
   ·exact absurd this.1 (by decide)
   ·exact absurd this.1 (by decide)
 | x :: a, [], r, s, ha, _, _, hs, h => by
  have := ha x (List.mem_cons_self ..)
  simp only [List.nil_append, List.cons_append] at h
  rcases hs with rfl | ⟨c, q, rfl, hc⟩
  ·simp at h
  ·simp only [List.cons.injEq] at h
   obtain ⟨rfl, _⟩ := h
   rcases hc with rfl | rfl
   ·exact absurd this.1 (by decide)
   ·exact absurd this.1 (by decide)
theorem ny {k : Int} (h1 : 1 ≤ k) (h9 : k ≤ 9) : k = 1 ∨ k = 2 ∨ k = 3 ∨ k = 4 ∨ k = 5 ∨ k = 6 ∨ k = 7 ∨ k = 8 ∨ k = 9 := by omega
theorem oK {k j : Int} (hk : 2 ≤ k ∧ k ≤ 9) (hj : 2 ≤ j ∧ j ≤ 9) {r s : Tx} (h : dt k ++ 40 :: r = dt j ++ 40 :: s) : k = j ∧ r = s := by
 have h1 : k = 2 ∨ k = 3 ∨ k = 4 ∨ k = 5 ∨ k = 6 ∨ k = 7 ∨ k = 8 ∨ k = 9 := by omega
 have h2 : j = 2 ∨ j = 3 ∨ j = 4 ∨ j = 5 ∨ j = 6 ∨ j = 7 ∨ j = 8 ∨ j = 9 := by omega
 rcases h1 with rfl | rfl | rfl | rfl | rfl | rfl | rfl | rfl <;> rcases h2 with rfl | rfl | rfl | rfl | rfl | rfl | rfl | rfl <;> simp [dt] at h ⊢ <;> exact h
theorem pu {k : Int} (hk : 2 ≤ k ∧ k ≤ 9) {r s : Tx} (h : dt k ++ 40 :: r = 110 :: s) : False := by
 have h1 : k = 2 ∨ k = 3 ∨ k = 4 ∨ k = 5 ∨ k = 6 ∨ k = 7 ∨ k = 8 ∨ k = 9 := by omega
 rcases h1 with rfl | rfl | rfl | rfl | rfl | rfl | rfl | rfl <;> simp [dt] at h
def tH (a b : Tm) : Prop := a.kind = b.kind ∧ (a.kind = 1 → a.name = b.name) ∧ (a.kind ≠ 1 → (ord a.kind a.kids).map txt = (ord b.kind b.kids).map txt)
theorem wx {xs ys : List Tm} (ihx : ∀ t, t ∈ xs → ∀ u, Ok u → ∀ r s, nS r → nS s → txt t ++ r = txt u ++ s → txt t = txt u ∧ r = s) (hy : ∀ u, u ∈ ys → Ok u) (hx0 : 0 < xs.length) (hy0 : 0 < ys.length) {r s : Tx}
  (h : Lib.join (xs.map txt) [44] ++ 41 :: r = Lib.join (ys.map txt) [44] ++ 41 :: s) : xs.map txt = ys.map txt ∧ r = s := by
 induction xs generalizing ys with
 | nil => simp at hx0
 | cons x xs ih =>
  cases ys with
  | nil => simp at hy0
  | cons y ys =>
   simp only [List.map_cons, Lib.join_cons, List.append_assoc] at h
   have a : ∀ (zs : List Tm) (q : Tx), nS (Lib.joinTail [44] (zs.map txt) ++ 41 :: q) := by
    intro zs q
    cases zs with
    | nil => exact .inr ⟨41, q, by simp [Lib.joinTail], .inr rfl⟩
    | cons z zs => exact .inr ⟨44, txt z ++ (Lib.joinTail [44] (zs.map txt) ++ 41 :: q), by simp [Lib.joinTail], .inl rfl⟩
   obtain ⟨h1, h2⟩ := ihx x (List.mem_cons_self ..) y (hy y (List.mem_cons_self ..)) _ _ (a xs r) (a ys s) h
   cases xs with
   | nil =>
    cases ys with
    | nil => simp [Lib.joinTail] at h2; exact ⟨by simp [h1], h2⟩
    | cons z ys => simp [Lib.joinTail] at h2
   | cons z xs =>
    cases ys with
    | nil => simp [Lib.joinTail] at h2
    | cons z' ys =>
     have h3 : Lib.join ((z :: xs).map txt) [44] ++ 41 :: r = Lib.join ((z' :: ys).map txt) [44] ++ 41 :: s := by
      simp only [List.map_cons, Lib.join_cons]
      simp only [List.map_cons, Lib.joinTail, List.flatten_cons, List.cons_append, List.nil_append, List.cons.injEq, true_and] at h2
      exact h2
     obtain ⟨h4, h5⟩ := ih (ys := z' :: ys) (fun t ht => ihx t (List.mem_cons_of_mem _ ht)) (fun u hu => hy u (List.mem_cons_of_mem _ hu)) (by simp) (by simp) h3
     exact ⟨by rw [List.map_cons, h1, h4]; rfl, h5⟩
theorem xj : (a : Tm) → Ok a → ∀ b, Ok b → ∀ r s, nS r → nS s → txt a ++ r = txt b ++ s → txt a = txt b ∧ r = s ∧ tH a b := by
 refine Tm.rec' ?_
 intro k n ks ih ha b hb r s hr hs h
 cases b with
 | mk j m js =>
  obtain ⟨k1, k9, kn⟩ := ha.named
  obtain ⟨j1, j9, jn⟩ := hb.named
  by_cases hk : k = 1
  ·by_cases hj : j = 1
   ·subst hk; subst hj
    rw [eH, eH] at h ⊢
    simp only [List.cons_append, List.cons.injEq, true_and] at h
    have h0 := kn rfl
    have h0' := jn rfl
    rw [Lib.itoa, if_neg (by omega), Lib.itoa, if_neg (by omega)] at h
    rw [Lib.itoa, if_neg (by omega), Lib.itoa, if_neg (by omega)]
    obtain ⟨h1, h2⟩ := mB _ _ r s (kw _) (kw _) hr hs h
    have h3 := sI _ _ h1
    refine ⟨by rw [h1], h2, rfl, fun _ => ?_, fun h => absurd rfl h⟩
    simp only [Tm.name]
    omega
   ·subst hk
    rw [eH, fc hj] at h
    simp only [List.append_assoc, List.cons_append] at h
    exact (pu (k := j) (by omega) h.symm).elim
  ·by_cases hj : j = 1
   ·subst hj
    rw [eH, fc hk] at h
    simp only [List.append_assoc, List.cons_append] at h
    exact (pu (k := k) (by omega) h).elim
   ·rw [fc hk, fc hj] at h ⊢
    simp only [List.append_assoc, List.cons_append, List.nil_append] at h
    obtain ⟨d, h1⟩ := oK (by omega) (by omega) h
    subst d
    have hl := ha.more hk
    have c := hb.more hk
    obtain ⟨h2, h3⟩ := wx (xs := ord k ks) (ys := ord k js) (fun t ht u hu r s hr hs h => by
     obtain ⟨h1, h2, _⟩ := ih t (ord_mem.1 ht) (ha.kids.2.2 t (ord_mem.1 ht)) u hu r s hr hs h
     exact ⟨h1, h2⟩) (fun u hu => hb.kids.2.2 u (ord_mem.1 hu)) (by rw [kS]; exact hl) (by rw [kS]; exact c) h1
    exact ⟨by rw [h2], h3, rfl, fun h => absurd h hk, fun _ => h2⟩
theorem eo {a b : Tm} (ha : Ok a) (hb : Ok b) (h : txt a = txt b) : tH a b := (xj a ha b hb [] [] (.inl rfl) (.inl rfl) (by rw [h])).2.2
theorem iT (t : Tm) : 1 ≤ (txt t).length := by
 cases t with
 | mk k n ks =>
  by_cases hk : k = 1
  ·subst hk; rw [eH]; simp
  ·rw [fc hk]; simp; omega
end Go.Mi.Term
namespace Go.Mi.Term
def cz (t : Tm) : Nat := (txt t).length
theorem oM (k : Int) (l : List Tx) : ((fJ k l).map List.length).sum = (l.map List.length).sum ∧ (fJ k l).length = l.length := by
 unfold fJ
 split
 ·match l with
  | [] => exact ⟨rfl, rfl⟩
  | [_] => exact ⟨rfl, rfl⟩
  | a :: b :: r =>
   simp only
   split
   ·simp; omega
   ·exact ⟨rfl, rfl⟩
 ·exact ⟨rfl, rfl⟩
theorem fG {k n : Int} {ks : List Tm} (hk : k ≠ 1) (h : 0 < ks.length) : cz (.mk k n ks) = (dt k).length + 1 + (ks.map cz).sum + ks.length := by
 have h1 := oM k (ks.map txt)
 have h2 : (ks.map txt).map List.length = ks.map cz := by rw [List.map_map]; rfl
 rw [h2] at h1
 obtain ⟨h3, h4⟩ := h1
 rw [List.length_map] at h4
 unfold cz
 simp only [txt, wtn, if_neg hk, gN]
 cases hr : fJ k (ks.map txt) with
 | nil => rw [hr] at h4; simp at h4; omega
 | cons x r =>
  have h5 := Lib.join_length x r [44]
  rw [hr] at h3 h4
  simp only [List.length_append, h5, Lib.lens, h3, List.length_cons, List.length_nil] at h4 ⊢
  have h6 : (List.map cz ks).sum = (List.map (fun t => (txt t).length) ks).sum := rfl
  omega
theorem jm {k n : Int} {ks : List Tm} {t : Tm} (hk : k ≠ 1) (h : t ∈ ks) : cz t + 1 < cz (.mk k n ks) := by
 have h0 : 0 < ks.length := List.length_pos_of_mem h
 have h1 : cz t ≤ (ks.map cz).sum := by
  have : cz t ∈ ks.map cz := List.mem_map_of_mem h
  generalize ks.map cz = l at this
  induction l with
  | nil => simp at this
  | cons x l ih =>
   rcases List.mem_cons.1 this with h | h
   ·simp; omega
   ·have := ih h; simp; omega
 rw [fG hk h0]
 omega
theorem Ok.kid {k n : Int} {ks : List Tm} (h : Ok (.mk k n ks)) {t : Tm} (ht : t ∈ ks) : Ok t := h.kids.2.2 t ht
theorem dS {k : Int} {ks : List Tm} {n : Int} (h : Ok (.mk k n ks)) : (k = 2 → ks.length = 1) ∧ (k ≠ 1 → k ≠ 2 → k ≠ 6 → ks.length = 2) ∧ (k = 6 → 1 ≤ ks.length ∧ ks.length ≤ 8) ∧ ks.length ≤ 8 := by
 obtain ⟨h1, h2, _⟩ := h.kids
 unfold low at h1
 unfold dX at h2
 refine ⟨fun e => ?_, fun e1 e2 e6 => ?_, fun e => ?_, ?_⟩
 ·subst e; simp at h1 h2; omega
 ·rw [if_neg e1, if_neg (by omega)] at h1
  rw [if_neg e1, if_neg e2, if_neg e6] at h2
  omega
 ·subst e; simp at h1 h2; omega
 ·split at h2
  ·omega
  ·split at h2
   ·omega
   ·split at h2 <;> omega
theorem tJ {ks : List Tm} (h : ks.length = 2) : ∃ a b, ks = [a, b] := by
 match ks, h with
 | [a, b], _ => exact ⟨a, b, rfl⟩
theorem Ok.two' {k n : Int} {ks : List Tm} (h : Ok (.mk k n ks)) (h1 : k ≠ 1) (h2 : k ≠ 2) (h6 : k ≠ 6) : ∃ a b, ks = [a, b] ∧ Ok a ∧ Ok b := by
 obtain ⟨a, b, rfl⟩ := tJ ((dS h).2.1 h1 h2 h6)
 exact ⟨a, b, rfl, h.kid (by simp), h.kid (by simp)⟩
theorem eA {t : Tm} (h : Ok t) : Ok (bB t) := .mk rfl (by simp [low]) (by simp [dX]) (by simpa using h)
theorem gc {k : Int} {a b : Tm} (hk : 3 ≤ k ∧ k ≤ 9 ∧ k ≠ 6) (ha : Ok a) (hb : Ok b) : Ok (.mk k 0 [a, b]) := by
 refine .mk ?_ ?_ ?_ ?_
 ·simp only [named, Bool.and_eq_true, Bool.or_eq_true, decide_eq_true_eq, Bool.not_eq_true', decide_eq_false_iff_not]; omega
 ·unfold low; rw [if_neg (by omega), if_neg (by omega)]; exact Nat.le_refl _
 ·unfold dX; rw [if_neg (by omega), if_neg (by omega), if_neg (by omega)]; exact Nat.le_refl _
 ·intro t ht
  simp at ht
  rcases ht with rfl | rfl
  ·exact ha
  ·exact hb
theorem gO (t : Tm) : cz (bB t) = cz t + 5 := by
 unfold bB
 rw [fG (by decide) (by simp)]
 simp [dt]; omega
theorem d7 {k n : Int} {a b : Tm} (hk : k ≠ 1) : cz (.mk k n [a, b]) = (dt k).length + cz a + cz b + 3 := by
 rw [fG hk (by simp)]
 simp; omega
theorem gL {W : Wd} {t : Tm} (h : Ok t) {l : List Tm} (hl : l ∈ cr W t) {u : Tm} (hu : u ∈ l) : Ok u ∧ cz u < cz t := by
 cases t with
 | mk k n ks =>
  unfold cr at hl
  dsimp only at hl
  by_cases h1 : k = 1
  ·rw [if_pos h1] at hl; simp at hl
  rw [if_neg h1] at hl
  have kid : ∀ t, t ∈ ks → Ok t ∧ cz t < cz (.mk k n ks) := fun t ht => ⟨h.kid ht, by have := jm (n := n) h1 ht; omega⟩
  by_cases h3 : k = 3
  ·obtain ⟨a, b, rfl, ha, hb⟩ := h.two' h1 (by omega) (by omega)
   have pa : Ok (bB a) ∧ cz (bB a) < cz (.mk k n [a, b]) := ⟨eA ha, by rw [gO, d7 h1]; have := iT b; subst h3; simp only [cz, dt] at *; simp; omega⟩
   have pb : Ok (bB b) ∧ cz (bB b) < cz (.mk k n [a, b]) := ⟨eA hb, by rw [gO, d7 h1]; have := iT a; subst h3; simp only [cz, dt] at *; simp; omega⟩
   have ka := kid a (by simp)
   have kb := kid b (by simp)
   rw [if_pos h3] at hl
   simp only [List.mem_append, List.mem_cons, List.not_mem_nil, or_false] at hl
   rcases hl with (rfl | rfl) | hl
   ·simp at hu; rcases hu with rfl | rfl <;> assumption
   ·simp at hu; rcases hu with rfl | rfl <;> assumption
   ·split at hl
    ·simp at hl; subst hl; simp at hu; rcases hu with rfl | rfl <;> assumption
    ·simp at hl
  rw [if_neg h3] at hl
  by_cases h4 : k = 4
  ·obtain ⟨a, m, rfl, ha, hm⟩ := h.two' h1 (by omega) (by omega)
   have pa : Ok (bB a) ∧ cz (bB a) < cz (.mk k n [a, m]) := ⟨eA ha, by rw [gO, d7 h1]; have := iT m; subst h4; simp only [cz, dt] at *; simp; omega⟩
   have ct : Ok (.mk 5 0 [a, m]) ∧ cz (.mk 5 0 [a, m]) < cz (.mk k n [a, m]) := ⟨gc (by omega) ha hm, by rw [d7 h1, d7 (by decide)]; subst h4; simp [dt]⟩
   have ka := kid a (by simp)
   have km := kid m (by simp)
   rw [if_pos h4] at hl
   simp only [List.mem_append, List.mem_cons, List.not_mem_nil, or_false] at hl
   rcases hl with (rfl | rfl) | hl
   ·simp at hu; rcases hu with rfl | rfl <;> assumption
   ·simp at hu; rcases hu with rfl | rfl <;> assumption
   ·split at hl
    ·simp at hl; subst hl; simp at hu; subst hu; exact ct
    ·simp at hl
  rw [if_neg h4] at hl
  by_cases h5 : k = 5
  ·obtain ⟨a, m, rfl, ha, hm⟩ := h.two' h1 (by omega) (by omega)
   have pa : Ok (bB a) ∧ cz (bB a) < cz (.mk k n [a, m]) := ⟨eA ha, by rw [gO, d7 h1]; have := iT m; subst h5; simp only [cz, dt] at *; simp; omega⟩
   have ka := kid a (by simp)
   have km := kid m (by simp)
   rw [if_pos h5] at hl
   simp at hl
   subst hl
   simp at hu; rcases hu with rfl | rfl <;> assumption
  rw [if_neg h5] at hl
  simp at hl
  subst hl
  exact kid u hu
def Fit (t : Tm) : Prop := Ok t ∧ cz t ≤ 1099511600000
theorem Fit.way {W : Wd} {t : Tm} (h : Fit t) {l : List Tm} (hl : l ∈ cr W t) {u : Tm} (hu : u ∈ l) : Fit u := by
 obtain ⟨h1, h2⟩ := gL h.1 hl hu
 exact ⟨h1, by have := h.2; omega⟩
theorem Fit.kid {k n : Int} {ks : List Tm} (h : Fit (.mk k n ks)) {t : Tm} (ht : t ∈ ks) : Fit t := by
 refine ⟨h.1.kid ht, ?_⟩
 by_cases hk : k = 1
 ·subst hk
  have := h.1.atom
  subst this
  simp at ht
 ·have := jm (n := n) hk ht
  have := h.2
  omega
section
variable {W : Wd} {met : bX}
theorem vd {f : Nat} {m m' : bX} {r : Bool} (h : bl W met f [] m = some (r, m')) : r = true ∧ m' = m := by
 cases f with
 | zero => simp [bl] at h
 | succ f => simp [bl] at h; exact ⟨h.1, h.2.symm⟩
theorem jd {f : Nat} {m m' : bX} {r : Bool} (h : cX W met f [] m = some (r, m')) : r = false ∧ m' = m := by
 cases f with
 | zero => simp [cX] at h
 | succ f => simp [cX] at h; exact ⟨h.1, h.2.symm⟩
theorem gk {f : Nat} {m m' : bX} {r : Bool} {l : List Tm} {ls : List (List Tm)} (h : cX W met f (l :: ls) m = some (r, m')) :
  ∃ g, g < f ∧ ((bl W met g l m = some (true, m') ∧ r = true) ∨ ∃ m1, bl W met g l m = some (false, m1) ∧ cX W met g ls m1 = some (r, m')) := by
 cases f with
 | zero => simp [cX] at h
 | succ f =>
  refine ⟨f, by omega, ?_⟩
  simp only [cX] at h
  cases hb : bl W met f l m with
  | none => rw [hb] at h; simp at h
  | some p =>
   obtain ⟨b, m1⟩ := p
   rw [hb] at h
   cases b with
   | true => simp at h; exact .inl ⟨by rw [h.2], h.1⟩
   | false => exact .inr ⟨m1, rfl, h⟩
theorem jc {f : Nat} {m m' : bX} {r : Bool} {l : List Tm} (h : cX W met f [l] m = some (r, m')) : ∃ g, g < f ∧ bl W met g l m = some (r, m') := by
 obtain ⟨g, hg, h | ⟨m1, h1, h2⟩⟩ := gk h
 ·exact ⟨g, hg, by rw [h.1, h.2]⟩
 ·obtain ⟨h3, h4⟩ := jd h2
  exact ⟨g, hg, by rw [h1, h3, h4]⟩
theorem sP {f : Nat} {m m' : bX} {r : Bool} {t : Tm} {l : List Tm} (h : bl W met f (t :: l) m = some (r, m')) :
  ∃ g m4, g < f ∧ (if tl m4 (txt t) = 2 then r = false ∧ m' = m4 else bl W met g l m4 = some (r, m')) ∧
   ((tl m (txt t) ≠ 0 ∧ m4 = m) ∨ (tl m (txt t) = 0 ∧ ((0 < tl met (txt t) ∧ m4 = st (st m (txt t) 2) (txt t) 1) ∨ (¬ 0 < tl met (txt t) ∧ ∃ b m3, cX W met g (cr W t) (st m (txt t) 2) = some (b, m3) ∧ m4 = if b then st m3 (txt t) 1 else m3)))) := by
 cases f with
 | zero => simp [bl] at h
 | succ f =>
  simp only [bl] at h
  have a : ∀ m4, (if tl m4 (txt t) = 2 then some (false, m4) else bl W met f l m4) = some (r, m') → (if tl m4 (txt t) = 2 then r = false ∧ m' = m4 else bl W met f l m4 = some (r, m')) := by
   intro m4 h
   split at h
   ·rename_i e; rw [if_pos e]; simp at h; exact ⟨h.1, h.2.symm⟩
   ·rename_i e; rw [if_neg e]; exact h
  by_cases h0 : tl m (txt t) = 0
  ·rw [if_pos h0] at h
   by_cases hm : 0 < tl met (txt t)
   ·rw [if_pos hm] at h
    exact ⟨f, _, by omega, a _ h, .inr ⟨h0, .inl ⟨hm, rfl⟩⟩⟩
   ·rw [if_neg hm] at h
    cases hb : cX W met f (cr W t) (st m (txt t) 2) with
    | none => rw [hb] at h; simp at h
    | some p =>
     obtain ⟨b, m3⟩ := p
     rw [hb] at h
     cases b with
     | true => exact ⟨f, _, by omega, a _ h, .inr ⟨h0, .inr ⟨hm, true, m3, hb, rfl⟩⟩⟩
     | false => exact ⟨f, _, by omega, a _ h, .inr ⟨h0, .inr ⟨hm, false, m3, hb, rfl⟩⟩⟩
  ·rw [if_neg h0] at h
   exact ⟨f, m, by omega, a _ h, .inl ⟨h0, rfl⟩⟩
theorem vi {f : Nat} {n : Int} {a b : Tm} {m m' : bX} {r : Bool} (h : cX W met f (cr W (.mk 3 n [a, b])) m = some (r, m')) :
  (∃ g, g < f ∧ bl W met g [a, bB b] m = some (true, m') ∧ r = true) ∨
  (∃ g1 g2 m1, g1 < f ∧ g2 < f ∧ bl W met g1 [a, bB b] m = some (false, m1) ∧ bl W met g2 [b, bB a] m1 = some (true, m') ∧ r = true) ∨
  (∃ g1 g2 m1, g1 < f ∧ g2 < f ∧ bl W met g1 [a, bB b] m = some (false, m1) ∧ bl W met g2 [b, bB a] m1 = some (false, m') ∧ r = false ∧ W.dh = false) ∨
  (∃ g1 g2 g3 m1 m2, g1 < f ∧ g2 < f ∧ g3 < f ∧ bl W met g1 [a, bB b] m = some (false, m1) ∧ bl W met g2 [b, bB a] m1 = some (false, m2) ∧ bl W met g3 [bB a, bB b] m2 = some (r, m') ∧ W.dh = true) := by
 have hw : cr W (.mk 3 n [a, b]) = [[a, bB b], [b, bB a]] ++ (if W.dh then [[bB a, bB b]] else []) := by simp [cr]
 rw [hw] at h
 obtain ⟨g1, hg1, ⟨h1, rfl⟩ | ⟨m1, h1, h⟩⟩ := gk h
 ·exact .inl ⟨g1, hg1, h1, rfl⟩
 obtain ⟨g2, hg2, ⟨h2, rfl⟩ | ⟨m2, h2, h⟩⟩ := gk h
 ·exact .inr (.inl ⟨g1, g2, m1, hg1, by omega, h1, h2, rfl⟩)
 cases hd : W.dh with
 | false =>
  rw [hd] at h
  obtain ⟨rfl, rfl⟩ := jd h
  exact .inr (.inr (.inl ⟨g1, g2, m1, hg1, by omega, h1, h2, rfl, rfl⟩))
 | true =>
  rw [hd] at h
  obtain ⟨g3, hg3, h3⟩ := jc h
  exact .inr (.inr (.inr ⟨g1, g2, g3, m1, m2, hg1, by omega, by omega, h1, h2, h3, rfl⟩))
theorem sS {f : Nat} {n : Int} {a b : Tm} {m m' : bX} {r : Bool} (h : cX W met f (cr W (.mk 4 n [a, b])) m = some (r, m')) :
  (∃ g, g < f ∧ bl W met g [b, bB a] m = some (true, m') ∧ r = true) ∨
  (∃ g1 g2 m1, g1 < f ∧ g2 < f ∧ bl W met g1 [b, bB a] m = some (false, m1) ∧ bl W met g2 [a, .mk 5 0 [a, b]] m1 = some (true, m') ∧ r = true) ∨
  (∃ g1 g2 m1, g1 < f ∧ g2 < f ∧ bl W met g1 [b, bB a] m = some (false, m1) ∧ bl W met g2 [a, .mk 5 0 [a, b]] m1 = some (false, m') ∧ r = false ∧ W.kem = false) ∨
  (∃ g1 g2 g3 m1 m2, g1 < f ∧ g2 < f ∧ g3 < f ∧ bl W met g1 [b, bB a] m = some (false, m1) ∧ bl W met g2 [a, .mk 5 0 [a, b]] m1 = some (false, m2) ∧ bl W met g3 [.mk 5 0 [a, b]] m2 = some (r, m') ∧ W.kem = true) := by
 have hw : cr W (.mk 4 n [a, b]) = [[b, bB a], [a, .mk 5 0 [a, b]]] ++ (if W.kem then [[.mk 5 0 [a, b]]] else []) := by simp [cr]
 rw [hw] at h
 obtain ⟨g1, hg1, ⟨h1, rfl⟩ | ⟨m1, h1, h⟩⟩ := gk h
 ·exact .inl ⟨g1, hg1, h1, rfl⟩
 obtain ⟨g2, hg2, ⟨h2, rfl⟩ | ⟨m2, h2, h⟩⟩ := gk h
 ·exact .inr (.inl ⟨g1, g2, m1, hg1, by omega, h1, h2, rfl⟩)
 cases hd : W.kem with
 | false =>
  rw [hd] at h
  obtain ⟨rfl, rfl⟩ := jd h
  exact .inr (.inr (.inl ⟨g1, g2, m1, hg1, by omega, h1, h2, rfl, rfl⟩))
 | true =>
  rw [hd] at h
  obtain ⟨g3, hg3, h3⟩ := jc h
  exact .inr (.inr (.inr ⟨g1, g2, g3, m1, m2, hg1, by omega, by omega, h1, h2, h3, rfl⟩))
theorem vj {f : Nat} {n : Int} {a b : Tm} {m m' : bX} {r : Bool} (h : cX W met f (cr W (.mk 5 n [a, b])) m = some (r, m')) : ∃ g, g < f ∧ bl W met g [b, bB a] m = some (r, m') := by
 have hw : cr W (.mk 5 n [a, b]) = [[b, bB a]] := by simp [cr]
 rw [hw] at h
 exact jc h
theorem sT {f : Nat} {k n : Int} {ks : List Tm} {m m' : bX} {r : Bool} (h1 : k ≠ 1) (h3 : k ≠ 3) (h4 : k ≠ 4) (h5 : k ≠ 5) (h : cX W met f (cr W (.mk k n ks)) m = some (r, m')) : ∃ g, g < f ∧ bl W met g ks m = some (r, m') := by
 have hw : cr W (.mk k n ks) = [ks] := by simp [cr, h1, h3, h4, h5]
 rw [hw] at h
 exact jc h
theorem rr {f : Nat} {n : Int} {ks : List Tm} {m m' : bX} {r : Bool} (h : cX W met f (cr W (.mk 1 n ks)) m = some (r, m')) : r = false ∧ m' = m := by
 have hw : cr W (.mk 1 n ks) = [] := by simp [cr]
 rw [hw] at h
 exact jd h
end
end Go.Mi.Term
namespace Go.Mi.Term
theorem fU (r : Rw) (t : Tm) : r.l.length ≤ (r.add t).l.length := by
 unfold Rw.add
 split <;> simp
theorem gT {W : Wd} {met : bX} {f : Nat} {t : Tm} {m m' : bX} {r r' : Rw} (h : opn1 W met f t m r = some (m', r')) : r.l.length ≤ r'.l.length := by
 cases t with
 | mk k n ks =>
  unfold opn1 at h
  dsimp only at h
  split at h
  ·split at h
   ·simp at h; obtain ⟨_, rfl⟩ := h
    exact Nat.le_trans (fU _ _) (fU _ _)
   ·cases h
  ·split at h
   ·split at h
    ·simp at h; obtain ⟨_, rfl⟩ := h
     exact fU _ _
    ·cases h
   ·split at h
    ·split at h
     ·split at h
      ·cases h
      ·simp at h; obtain ⟨_, rfl⟩ := h
       exact fU _ _
      ·simp at h; obtain ⟨_, rfl⟩ := h
       exact Nat.le_refl _
     ·cases h
    ·simp at h; obtain ⟨_, rfl⟩ := h
     exact Nat.le_refl _
theorem fK {W : Wd} {met : bX} {f : Nat} {t : Tm} {ts : List Tm} {m m' : bX} {r r' : Rw} (h : opnL W met f (t :: ts) m r = some (m', r')) : ∃ m1 r1, opn1 W met f t m r = some (m1, r1) ∧ opnL W met f ts m1 r1 = some (m', r') := by
 simp only [opnL] at h
 split at h
 ·cases h
 ·rename_i m1 r1 h1
  exact ⟨m1, r1, h1, h⟩
theorem fg {W : Wd} {met : bX} {f : Nat} : ∀ {ts : List Tm} {m m' : bX} {r r' : Rw}, opnL W met f ts m r = some (m', r') → r.l.length ≤ r'.l.length
 | [], m, m', r, r', h => by simp [opnL] at h; obtain ⟨_, rfl⟩ := h; exact Nat.le_refl _
 | t :: ts, m, m', r, r', h => by
  obtain ⟨m1, r1, h1, h2⟩ := fK h
  exact Nat.le_trans (gT h1) (fg h2)
theorem iG {W : Wd} {f g : Nat} {r r' : Rw} (h : du W f g r = some r') : ∃ g' m1 r1, g = g' + 1 ∧ opnL W r.met f r.l [] r = some (m1, r1) ∧ ((r1.l.length = r.l.length ∧ r1 = r') ∨ (r.l.length < r1.l.length ∧ du W f g' r1 = some r')) := by
 cases g with
 | zero => simp [du] at h
 | succ g =>
  simp only [du] at h
  split at h
  ·cases h
  ·rename_i m1 r1 h1
   refine ⟨g, m1, r1, rfl, h1, ?_⟩
   have := fg h1
   split at h
   ·rename_i e; simp at h; exact .inl ⟨e, h⟩
   ·rename_i e; exact .inr ⟨by omega, h⟩
theorem gA {W : Wd} {f : Nat} : ∀ {g : Nat} {r r' : Rw}, du W f g r = some r' → r.l.length ≤ r'.l.length := by
 intro g
 induction g with
 | zero => intro r r' h; simp [du] at h
 | succ g ih =>
  intro r r' h
  obtain ⟨g', m1, r1, hg, h1, h2 | h2⟩ := iG h
  ·rw [← h2.2]; exact fg h1
  ·cases hg
   exact Nat.le_trans (fg h1) (ih h2.2)
theorem nA (ks : List Tm) (r : Rw) : r.l.length ≤ (cQ ks r).l.length ∧ (cQ ks r).l.length ≤ r.l.length + ks.length := by
 induction ks generalizing r with
 | nil => exact ⟨Nat.le_refl _, Nat.le_refl _⟩
 | cons t ts ih =>
  simp only [cQ, List.length_cons]
  have h := ih (if may t then r.add (nrm t) else r)
  have h1 : r.l.length ≤ (if may t then r.add (nrm t) else r).l.length ∧ (if may t then r.add (nrm t) else r).l.length ≤ r.l.length + 1 := by
   split
   ·refine ⟨fU _ _, ?_⟩
    unfold Rw.add
    split <;> simp
   ·omega
  omega
theorem nB (ks : List Tm) (t : Tm) (r : Rw) : cQ (ks ++ [t]) r = if may t then (cQ ks r).add (nrm t) else cQ ks r := by
 induction ks generalizing r with
 | nil => rfl
 | cons k ks ih => simp only [List.cons_append, cQ]; exact ih _
theorem iL {ks : List Tm} {i : Nat} {t : Tm} (h : ks[i]? = some t) (r : Rw) : cQ (ks.take (i + 1)) r = if may t then (cQ (ks.take i) r).add (nrm t) else cQ (ks.take i) r := by
 rw [List.take_add_one, h]
 exact nB _ _ _
def AllFit (r : Rw) : Prop := ∀ t, t ∈ r.l → Fit t
theorem AllFit.add {r : Rw} {t : Tm} (h : AllFit r) (ht : Fit t) : AllFit (r.add t) := by
 unfold Rw.add
 split
 ·intro u hu
  simp at hu
  rcases hu with hu | rfl
  ·exact h u hu
  ·exact ht
 ·exact h
theorem AllFit.opn1 {W : Wd} {met : bX} {f : Nat} {t : Tm} {m m' : bX} {r r' : Rw} (ht : Fit t) (hr : AllFit r) (h : opn1 W met f t m r = some (m', r')) : AllFit r' := by
 cases t with
 | mk k n ks =>
  have kid : ∀ u, u ∈ ks → Fit u := fun u hu => ht.kid hu
  unfold Term.opn1 at h
  dsimp only at h
  split at h
  ·split at h
   ·simp at h; obtain ⟨_, rfl⟩ := h
    exact (hr.add (kid _ (by simp))).add (kid _ (by simp))
   ·cases h
  ·split at h
   ·split at h
    ·simp at h; obtain ⟨_, rfl⟩ := h
     exact hr.add (kid _ (by simp))
    ·cases h
   ·split at h
    ·split at h
     ·split at h
      ·cases h
      ·simp at h; obtain ⟨_, rfl⟩ := h
       exact hr.add (kid _ (by simp))
      ·simp at h; obtain ⟨_, rfl⟩ := h
       exact hr
     ·cases h
    ·simp at h; obtain ⟨_, rfl⟩ := h
     exact hr
theorem AllFit.opnL {W : Wd} {met : bX} {f : Nat} : ∀ {ts : List Tm} {m m' : bX} {r r' : Rw}, (∀ t, t ∈ ts → Fit t) → AllFit r → opnL W met f ts m r = some (m', r') → AllFit r'
 | [], m, m', r, r', _, hr, h => by simp [Term.opnL] at h; obtain ⟨_, rfl⟩ := h; exact hr
 | t :: ts, m, m', r, r', ht, hr, h => by
  obtain ⟨m1, r1, h1, h2⟩ := fK h
  exact AllFit.opnL (fun u hu => ht u (List.mem_cons_of_mem _ hu)) (AllFit.opn1 (ht t (List.mem_cons_self ..)) hr h1) h2
end Go.Mi.Term
namespace Go.Mi.Term
theorem j6 (m : bX) (x : Tx) (v : Int) : tl (st m x v) x = v := by
 induction m with
 | nil => simp [st, tl]
 | cons p m ih =>
  obtain ⟨y, u⟩ := p
  simp only [st]
  split
  ·rename_i h; simp [tl, h]
  ·rename_i h; simp only [tl, if_neg h]; exact ih
theorem f8 {m : bX} {x y : Tx} {v : Int} (h : y ≠ x) : tl (st m x v) y = tl m y := by
 induction m with
 | nil => simp only [st, tl]; rw [if_neg (fun e => h (Eq.symm e))]
 | cons p m ih =>
  obtain ⟨z, u⟩ := p
  simp only [st]
  split
  ·rename_i e; subst e; simp only [tl]; rw [if_neg (fun e => h (Eq.symm e)), if_neg (fun e => h (Eq.symm e))]
  ·simp only [tl]; split
   ·rfl
   ·exact ih
inductive Bt (W : Wd) (met : bX) : Tm → Prop
 | kn {t : Tm} : 0 < tl met (txt t) → Bt W met t
 | way {t : Tm} {l : List Tm} : l ∈ cr W t → (∀ u, u ∈ l → Bt W met u) → Bt W met t
section
variable {W : Wd} {met : bX}
theorem ik {k n n' : Int} {ks ks' : List Tm} (hk : k ≠ 1) (h : ks.map txt = ks'.map txt) : txt (.mk k n ks) = txt (.mk k n' ks') := by
 simp only [txt, wtn, if_neg hk, gN, h]
theorem eE {a b : Tm} (h : txt a = txt b) : txt (bB a) = txt (bB b) := ik (by decide) (by simp [h])
theorem wj {a b c d : Tm} (h : (ord 3 [a, b]).map txt = (ord 3 [c, d]).map txt) : (txt a = txt c ∧ txt b = txt d) ∨ (txt a = txt d ∧ txt b = txt c) := by
 simp only [ord, if_true] at h
 split at h <;> split at h <;> simp at h
 ·exact .inl ⟨h.2, h.1⟩
 ·exact .inr ⟨h.2, h.1⟩
 ·exact .inr h
 ·exact .inl h
theorem eb {k : Int} (h : k ≠ 3) (ks : List Tm) : ord k ks = ks := by simp [ord, h]
theorem ji {a b : Tm} (ha : Ok a) (hb : Ok b) (h : txt a = txt b) {l : List Tm} (hl : l ∈ cr W a) : ∃ l', l' ∈ cr W b ∧ ∀ u', u' ∈ l' → ∃ u, u ∈ l ∧ txt u = txt u' := by
 have f := eo ha hb h
 cases a with
 | mk k n ks =>
  cases b with
  | mk k' n' ks' =>
   obtain ⟨h1, _, h3⟩ := f
   simp only [Tm.kind, Tm.kids] at h1 h3
   subst h1
   by_cases hk : k = 1
   ·subst hk; simp [cr] at hl
   replace h3 := h3 hk
   by_cases hk3 : k = 3
   ·subst hk3
    obtain ⟨a1, a2, rfl, _, _⟩ := ha.two' (by decide) (by decide) (by decide)
    obtain ⟨b1, b2, rfl, _, _⟩ := hb.two' (by decide) (by decide) (by decide)
    have c : ∀ x y : Tm, ∀ q : Int, cr W (.mk 3 q [x, y]) = [[x, bB y], [y, bB x]] ++ (if W.dh then [[bB x, bB y]] else []) := fun x y q => by simp [cr]
    rw [c] at hl ⊢
    have d : ∀ (x y x' y' : Tm) (l : List Tm), txt x = txt x' → txt y = txt y' → l = [x, y] → ∀ u', u' ∈ [x', y'] → ∃ u, u ∈ l ∧ txt u = txt u' := by
     intro x y x' y' l h1 h2 hl u' hu
     subst hl
     simp at hu
     rcases hu with rfl | rfl
     ·exact ⟨x, by simp, h1⟩
     ·exact ⟨y, by simp, h2⟩
    have e : ∀ (x y x' y' : Tm) (l : List Tm), txt x = txt y' → txt y = txt x' → l = [x, y] → ∀ u', u' ∈ [x', y'] → ∃ u, u ∈ l ∧ txt u = txt u' := by
     intro x y x' y' l h1 h2 hl u' hu
     subst hl
     simp at hu
     rcases hu with rfl | rfl
     ·exact ⟨y, by simp, h2⟩
     ·exact ⟨x, by simp, h1⟩
    simp only [List.mem_append, List.mem_cons, List.not_mem_nil, or_false] at hl
    rcases wj h3 with ⟨e1, e2⟩ | ⟨e1, e2⟩
    ·rcases hl with (hl | hl) | hl
     ·exact ⟨[b1, bB b2], by simp, d _ _ _ _ _ e1 (eE e2) hl⟩
     ·exact ⟨[b2, bB b1], by simp, d _ _ _ _ _ e2 (eE e1) hl⟩
     ·split at hl
      ·rename_i hd; simp at hl; exact ⟨[bB b1, bB b2], by simp [hd], d _ _ _ _ _ (eE e1) (eE e2) hl⟩
      ·simp at hl
    ·rcases hl with (hl | hl) | hl
     ·exact ⟨[b2, bB b1], by simp, d _ _ _ _ _ e1 (eE e2) hl⟩
     ·exact ⟨[b1, bB b2], by simp, d _ _ _ _ _ e2 (eE e1) hl⟩
     ·split at hl
      ·rename_i hd; simp at hl; exact ⟨[bB b1, bB b2], by simp [hd], e _ _ _ _ _ (eE e1) (eE e2) hl⟩
      ·simp at hl
   rw [eb hk3, eb hk3] at h3
   by_cases hk4 : k = 4
   ·subst hk4
    obtain ⟨a1, a2, rfl, _, _⟩ := ha.two' (by decide) (by decide) (by decide)
    obtain ⟨b1, b2, rfl, _, _⟩ := hb.two' (by decide) (by decide) (by decide)
    have c : ∀ x y : Tm, ∀ q : Int, cr W (.mk 4 q [x, y]) = [[y, bB x], [x, .mk 5 0 [x, y]]] ++ (if W.kem then [[.mk 5 0 [x, y]]] else []) := fun x y q => by simp [cr]
    rw [c] at hl ⊢
    have ec : txt (.mk 5 0 [a1, a2]) = txt (.mk 5 0 [b1, b2]) := ik (by decide) h3
    simp at h3
    obtain ⟨e1, e2⟩ := h3
    simp only [List.mem_append, List.mem_cons, List.not_mem_nil, or_false] at hl
    rcases hl with (hl | hl) | hl
    ·subst hl
     refine ⟨[b2, bB b1], by simp, fun u' hu => ?_⟩
     simp at hu
     rcases hu with rfl | rfl
     ·exact ⟨a2, by simp, e2⟩
     ·exact ⟨bB a1, by simp, eE e1⟩
    ·subst hl
     refine ⟨[b1, .mk 5 0 [b1, b2]], by simp, fun u' hu => ?_⟩
     simp at hu
     rcases hu with rfl | rfl
     ·exact ⟨a1, by simp, e1⟩
     ·exact ⟨_, by simp, ec⟩
    ·split at hl
     ·rename_i hd
      simp at hl
      subst hl
      refine ⟨[.mk 5 0 [b1, b2]], by simp [hd], fun u' hu => ?_⟩
      simp at hu
      subst hu
      exact ⟨_, by simp, ec⟩
     ·simp at hl
   by_cases hk5 : k = 5
   ·subst hk5
    obtain ⟨a1, a2, rfl, _, _⟩ := ha.two' (by decide) (by decide) (by decide)
    obtain ⟨b1, b2, rfl, _, _⟩ := hb.two' (by decide) (by decide) (by decide)
    have c : ∀ x y : Tm, ∀ q : Int, cr W (.mk 5 q [x, y]) = [[y, bB x]] := fun x y q => by simp [cr]
    rw [c] at hl ⊢
    simp at h3
    obtain ⟨e1, e2⟩ := h3
    simp at hl
    subst hl
    refine ⟨[b2, bB b1], by simp, fun u' hu => ?_⟩
    simp at hu
    rcases hu with rfl | rfl
    ·exact ⟨a2, by simp, e2⟩
    ·exact ⟨bB a1, by simp, eE e1⟩
   ·have c : ∀ (q : Int) (ks : List Tm), cr W (.mk k q ks) = [ks] := fun q ks => by simp [cr, hk, hk3, hk4, hk5]
    rw [c] at hl ⊢
    simp at hl
    subst hl
    refine ⟨ks', by simp, fun u' hu => ?_⟩
    have : txt u' ∈ ks'.map txt := List.mem_map_of_mem hu
    rw [← h3] at this
    obtain ⟨u, h5, h6⟩ := List.mem_map.1 this
    exact ⟨u, h5, h6⟩
theorem Bt.congr {a : Tm} (h : Bt W met a) : ∀ {b : Tm}, Ok a → Ok b → txt a = txt b → Bt W met b := by
 induction h with
 | kn h => intro b _ _ he; exact .kn (he ▸ h)
 | @way t l hl _ ih =>
  intro b ha hb he
  obtain ⟨l', h1, h2⟩ := ji ha hb he hl
  refine .way h1 fun u' hu => ?_
  obtain ⟨u, h3, h4⟩ := h2 u' hu
  exact ih u h3 (gL ha hl h3).1 (gL hb h1 hu).1 h4
theorem mr (f : Nat) : (∀ l m p, bl W met f l m = some p → bl W met (f + 1) l m = some p) ∧ (∀ ls m p, cX W met f ls m = some p → cX W met (f + 1) ls m = some p) := by
 induction f with
 | zero => exact ⟨fun l m p h => by simp [bl] at h, fun ls m p h => by simp [cX] at h⟩
 | succ f ih =>
  obtain ⟨d, c⟩ := ih
  constructor
  ·intro l m p h
   cases l with
   | nil => simpa [bl] using h
   | cons n l =>
    rw [bl] at h
    rw [bl]
    have a : ∀ m4, (if tl m4 (txt n) = 2 then some (false, m4) else bl W met f l m4) = some p → (if tl m4 (txt n) = 2 then some (false, m4) else bl W met (f + 1) l m4) = some p := by
     intro m4 h
     split at h
     ·rename_i e; rw [if_pos e]; exact h
     ·rename_i e; rw [if_neg e]; exact d _ _ _ h
    dsimp only at h ⊢
    by_cases h0 : tl m (txt n) = 0
    ·rw [if_pos h0] at h ⊢
     by_cases hm : 0 < tl met (txt n)
     ·rw [if_pos hm] at h ⊢
      exact a _ h
     ·rw [if_neg hm] at h ⊢
      cases ha : cX W met f (cr W n) (st m (txt n) 2) with
      | none => rw [ha] at h; simp at h
      | some q =>
       rw [c _ _ _ ha]
       rw [ha] at h
       obtain ⟨b, m3⟩ := q
       cases b <;> exact a _ h
    ·rw [if_neg h0] at h ⊢
     exact a _ h
  ·intro ls m p h
   cases ls with
   | nil => simpa [cX] using h
   | cons l ls =>
    rw [cX] at h
    rw [cX]
    cases hb : bl W met f l m with
    | none => rw [hb] at h; simp at h
    | some q =>
     rw [d _ _ _ hb]
     rw [hb] at h
     obtain ⟨b, m1⟩ := q
     cases b with
     | true => exact h
     | false => exact c _ _ _ h
theorem hZ {f g : Nat} (hg : f ≤ g) {l : List Tm} {m : bX} {p : Bool × bX} (h : bl W met f l m = some p) : bl W met g l m = some p := by
 induction g with
 | zero => have : f = 0 := by omega
           subst this; exact h
 | succ g ih =>
  by_cases e : f = g + 1
  ·subst e; exact h
  ·exact (mr g).1 _ _ _ (ih (by omega))
theorem jW {f g : Nat} (hg : f ≤ g) {l : List (List Tm)} {m : bX} {p : Bool × bX} (h : cX W met f l m = some p) : cX W met g l m = some p := by
 induction g with
 | zero => have : f = 0 := by omega
           subst this; exact h
 | succ g ih =>
  by_cases e : f = g + 1
  ·subst e; exact h
  ·exact (mr g).2 _ _ _ (ih (by omega))
def pq (W : Wd) (met : bX) (m : bX) (k : Nat) : Prop := ∀ t, Ok t → cz t < k → tl m (txt t) = 0 ∨ (tl m (txt t) = 1 ∧ Bt W met t) ∨ (tl m (txt t) = 2 ∧ ¬ Bt W met t)
def jo (W : Wd) (met : bX) (g : Nat) (n : Tm) (m : bX) : Option bX :=
 if tl m (txt n) = 0 then (if 0 < tl met (txt n) then some (st (st m (txt n) 2) (txt n) 1) else match cX W met g (cr W n) (st m (txt n) 2) with
  | none => none
  | some (true, m3) => some (st m3 (txt n) 1)
  | some (false, m3) => some m3) else some m
theorem oE {g : Nat} {n : Tm} {l : List Tm} {m m4 : bX} (h : jo W met g n m = some m4) : bl W met (g + 1) (n :: l) m = if tl m4 (txt n) = 2 then some (false, m4) else bl W met g l m4 := by
 rw [bl]
 dsimp only
 unfold jo at h
 by_cases h0 : tl m (txt n) = 0
 ·rw [if_pos h0] at h ⊢
  by_cases hm : 0 < tl met (txt n)
  ·rw [if_pos hm] at h ⊢
   cases h; rfl
  ·rw [if_neg hm] at h ⊢
   cases ha : cX W met g (cr W n) (st m (txt n) 2) with
   | none => rw [ha] at h; cases h
   | some q =>
    rw [ha] at h
    obtain ⟨b, m3⟩ := q
    cases b <;> (cases h; rfl)
 ·rw [if_neg h0] at h ⊢
  cases h; rfl
def Tot (W : Wd) (met : bX) (k : Nat) : Prop := ∀ l : List Tm, (∀ u, u ∈ l → Ok u ∧ cz u < k) → ∀ m, pq W met m k → ∃ f r m', bl W met f l m = some (r, m') ∧ (r = true ↔ ∀ u, u ∈ l → Bt W met u) ∧ pq W met m' k ∧ ∀ x : Tx, k ≤ x.length → tl m' x = tl m x
theorem sR {k : Nat} (hb : Tot W met k) : ∀ ls : List (List Tm), (∀ l, l ∈ ls → ∀ u, u ∈ l → Ok u ∧ cz u < k) → ∀ m, pq W met m k → ∃ f r m', cX W met f ls m = some (r, m') ∧ (r = true ↔ ∃ l, l ∈ ls ∧ ∀ u, u ∈ l → Bt W met u) ∧ pq W met m' k ∧ ∀ x : Tx, k ≤ x.length → tl m' x = tl m x := by
 intro ls
 induction ls with
 | nil => intro _ m hm; exact ⟨1, false, m, by simp [cX], by simp, hm, fun _ _ => rfl⟩
 | cons l ls ih =>
  intro hl m hm
  obtain ⟨f1, r1, m1, h1, h2, h3, h4⟩ := hb l (hl l (by simp)) m hm
  cases r1 with
  | true =>
   refine ⟨f1 + 1, true, m1, by simp [cX, h1], ?_, h3, h4⟩
   simp only [true_iff]
   exact ⟨l, by simp, h2.1 rfl⟩
  | false =>
   obtain ⟨f2, r2, m2, k1, k2, k3, k4⟩ := ih (fun l' hl' => hl l' (by simp [hl'])) m1 h3
   refine ⟨max f1 f2 + 1, r2, m2, ?_, ?_, k3, fun x hx => by rw [k4 x hx, h4 x hx]⟩
   ·simp [cX, hZ (Nat.le_max_left f1 f2) h1, jW (Nat.le_max_right f1 f2) k1]
   ·rw [k2]
    constructor
    ·rintro ⟨l', h5, h6⟩; exact ⟨l', by simp [h5], h6⟩
    ·rintro ⟨l', h5, h6⟩
     rcases List.mem_cons.1 h5 with rfl | h5
     ·have := h2.2 h6; simp at this
     ·exact ⟨l', h5, h6⟩
theorem vc (k : Nat) : Tot W met k := by
 induction k using Nat.strongRecOn with
 | _ k ih =>
  intro l
  induction l with
  | nil => intro _ m hm; exact ⟨1, true, m, by simp [bl], by simp, hm, fun _ _ => rfl⟩
  | cons n l ihl =>
   intro hl m hm
   obtain ⟨c, d⟩ := hl n (by simp)
   -- the element
   have q : ∃ f m4, (∀ g, f ≤ g → jo W met g n m = some m4) ∧ ((tl m4 (txt n) = 1 ∧ Bt W met n) ∨ (tl m4 (txt n) = 2 ∧ ¬ Bt W met n)) ∧ pq W met m4 k ∧ ∀ x : Tx, k ≤ x.length → tl m4 x = tl m x := by
    have b : ∀ x : Tx, k ≤ x.length → x ≠ txt n := fun x hx e => by subst e; unfold cz at d; omega
    by_cases h0 : tl m (txt n) = 0
    ·by_cases hmet : 0 < tl met (txt n)
     ·refine ⟨0, st (st m (txt n) 2) (txt n) 1, fun g _ => by rw [jo, if_pos h0, if_pos hmet], .inl ⟨j6 _ _ _, .kn hmet⟩, fun t ht a => ?_, fun x hx => by rw [f8 (b x hx), f8 (b x hx)]⟩
      by_cases e : txt t = txt n
      ·rw [e, j6]
       exact .inr (.inl ⟨rfl, (Bt.kn hmet).congr c ht e.symm⟩)
      ·rw [f8 e, f8 e]; exact hm t ht a
     ·have v : pq W met (st m (txt n) 2) (cz n) := fun t ht o => by
       have : txt t ≠ txt n := fun e => by unfold cz at o; rw [e] at o; omega
       rw [f8 this]
       exact hm t ht (by omega)
      obtain ⟨f, r, m3, h1, h2, h3, h4⟩ := sR (ih (cz n) d) (cr W n) (fun l' w u hu => gL c w hu) _ v
      have i : r = true ↔ Bt W met n := by
       rw [h2]
       constructor
       ·rintro ⟨l', h5, h6⟩; exact .way h5 h6
       ·intro h
        cases h with
        | kn h => exact absurd h hmet
        | way h5 h6 => exact ⟨_, h5, h6⟩
      have p : tl m3 (txt n) = 2 := by rw [h4 _ (Nat.le_refl _), j6]
      have j : ∀ t, txt t ≠ txt n → Ok t → cz t < k → tl m3 (txt t) = 0 ∨ (tl m3 (txt t) = 1 ∧ Bt W met t) ∨ (tl m3 (txt t) = 2 ∧ ¬ Bt W met t) := by
       intro t e ht a
       by_cases hlt : cz t < cz n
       ·exact h3 t ht hlt
       ·rw [h4 (txt t) (by unfold cz at hlt ⊢; omega), f8 e]; exact hm t ht a
      cases r with
      | true =>
       refine ⟨f, st m3 (txt n) 1, fun g hg => by rw [jo, if_pos h0, if_neg hmet, jW hg h1], .inl ⟨j6 _ _ _, i.1 rfl⟩, fun t ht a => ?_, fun x hx => by rw [f8 (b x hx), h4 x (by omega), f8 (b x hx)]⟩
       by_cases e : txt t = txt n
       ·rw [e, j6]; exact .inr (.inl ⟨rfl, (i.1 rfl).congr c ht e.symm⟩)
       ·rw [f8 e]; exact j t e ht a
      | false =>
       have s : ¬ Bt W met n := fun h => by have := i.2 h; simp at this
       refine ⟨f, m3, fun g hg => by rw [jo, if_pos h0, if_neg hmet, jW hg h1], .inr ⟨p, s⟩, fun t ht a => ?_, fun x hx => by rw [h4 x (by omega), f8 (b x hx)]⟩
       by_cases e : txt t = txt n
       ·rw [e, p]; exact .inr (.inr ⟨rfl, fun h => s (h.congr ht c e)⟩)
       ·exact j t e ht a
    ·refine ⟨0, m, fun g _ => by rw [jo, if_neg h0], ?_, hm, fun _ _ => rfl⟩
     rcases hm n c d with h | h | h
     ·exact absurd h h0
     ·exact .inl h
     ·exact .inr h
   obtain ⟨f, m4, h1, h2, h3, h4⟩ := q
   rcases h2 with ⟨h2, hb⟩ | ⟨h2, hb⟩
   ·obtain ⟨f2, r, m', k1, k2, k3, k4⟩ := ihl (fun u hu => hl u (by simp [hu])) m4 h3
    refine ⟨max f f2 + 1, r, m', ?_, ?_, k3, fun x hx => by rw [k4 x hx, h4 x hx]⟩
    ·rw [oE (h1 _ (Nat.le_max_left f f2)), h2, if_neg (by decide)]
     exact hZ (Nat.le_max_right f f2) k1
    ·rw [k2]
     constructor
     ·intro h u hu
      rcases List.mem_cons.1 hu with rfl | hu
      ·exact hb
      ·exact h u hu
     ·intro h u hu; exact h u (by simp [hu])
   ·refine ⟨f + 1, false, m4, ?_, ?_, h3, h4⟩
    ·rw [oE (h1 _ (Nat.le_refl _)), h2, if_pos rfl]
    ·simp only [Bool.false_eq_true, false_iff]
     exact fun h => hb (h n (by simp))
end
end Go.Mi.Term
namespace Go.Mi.Term
inductive Der (W : Wd) (S : Tm → Prop) : Tm → Prop
 | kn {t : Tm} : S t → Der W S t
 | way {t : Tm} {l : List Tm} : Ok t → l ∈ cr W t → (∀ u, u ∈ l → Der W S u) → Der W S t
 | fst {n : Int} {a b : Tm} : Der W S (.mk 9 n [a, b]) → Der W S a
 | snd {n : Int} {a b : Tm} : Der W S (.mk 9 n [a, b]) → Der W S b
 | sig {n : Int} {a b : Tm} : Der W S (.mk 8 n [a, b]) → Der W S b
 | dec {n : Int} {a b : Tm} : Der W S (.mk 7 n [a, b]) → Der W S a → Der W S b
 | eqv {a b : Tm} : Der W S a → Ok b → txt a = txt b → Der W S b
theorem Der.ok {W : Wd} {S : Tm → Prop} (hS : ∀ t, S t → Ok t) {t : Tm} (h : Der W S t) : Ok t := by
 induction h with
 | kn h => exact hS _ h
 | way h _ _ _ => exact h
 | fst _ ih => exact ih.kid (by simp)
 | snd _ ih => exact ih.kid (by simp)
 | sig _ ih => exact ih.kid (by simp)
 | dec _ _ ih _ => exact ih.kid (by simp)
 | eqv _ h _ _ => exact h
mutual
def fX : Tm → List Tm
 | .mk k n ks => .mk k n ks :: iF ks
def iF : List Tm → List Tm
 | [] => []
 | t :: ts => fX t ++ iF ts
end
theorem j8 (t : Tm) : t ∈ fX t := by cases t; simp [fX]
theorem pB {ts : List Tm} {t u : Tm} (ht : t ∈ ts) (hu : u ∈ fX t) : u ∈ iF ts := by
 induction ts with
 | nil => simp at ht
 | cons x ts ih =>
  simp only [iF, List.mem_append]
  rcases List.mem_cons.1 ht with rfl | ht
  ·exact .inl hu
  ·exact .inr (ih ht)
theorem fH {k n : Int} {ks : List Tm} {t u : Tm} (ht : t ∈ ks) (hu : u ∈ fX t) : u ∈ fX (.mk k n ks) := by
 simp only [fX, List.mem_cons]
 exact .inr (pB ht hu)
theorem jC {α : Type} [DecidableEq α] : ∀ (l m : List α), l.Nodup → (∀ x, x ∈ l → x ∈ m) → l.length ≤ m.length
 | [], m, _, _ => by simp
 | x :: l, m, hn, hs => by
  rw [List.nodup_cons] at hn
  have hx : x ∈ m := hs x (by simp)
  have h1 := jC l (m.erase x) hn.2 fun y hy => by
   have hne : y ≠ x := fun e => hn.1 (e ▸ hy)
   exact (List.mem_erase_of_ne hne).2 (hs y (by simp [hy]))
  rw [List.length_erase_of_mem hx] at h1
  have : 0 < m.length := List.length_pos_of_mem hx
  simp only [List.length_cons]
  omega
section
variable {W : Wd} {S : Tm → Prop} {U : List Tx}
def Met (r : Rw) (u : Tm) : Prop := ∃ t, t ∈ r.l ∧ txt t = txt u
structure RInv (W : Wd) (S : Tm → Prop) (U : List Tx) (r : Rw) : Prop where
 ok : ∀ t, t ∈ r.l → Ok t
 der : ∀ t, t ∈ r.l → Der W S t
 met : ∀ x, (tl r.met x = 0 ∧ ∀ t, t ∈ r.l → txt t ≠ x) ∨ (0 < tl r.met x ∧ ∃ t, t ∈ r.l ∧ txt t = x)
 nd : (r.l.map txt).Nodup
 un : ∀ t, t ∈ r.l → ∀ u, u ∈ fX t → txt u ∈ U
theorem RInv.pos {r : Rw} (h : RInv W S U r) {u : Tm} : 0 < tl r.met (txt u) ↔ Met r u := by
 rcases h.met (txt u) with ⟨h1, h2⟩ | ⟨h1, h2⟩
 ·constructor
  ·intro h; omega
  ·rintro ⟨t, h3, h4⟩; exact absurd h4 (h2 t h3)
 ·exact ⟨fun _ => h2, fun _ => h1⟩
theorem RInv.add {r : Rw} (h : RInv W S U r) {t : Tm} (ho : Ok t) (hd : Der W S t) (hu : ∀ u, u ∈ fX t → txt u ∈ U) : RInv W S U (r.add t) := by
 unfold Rw.add
 split
 ·rename_i h0
  have hno : ∀ q, q ∈ r.l → txt q ≠ txt t := by
   rcases h.met (txt t) with ⟨_, h2⟩ | ⟨h1, _⟩
   ·exact h2
   ·omega
  refine ⟨fun q hq => ?_, fun q hq => ?_, fun x => ?_, ?_, fun q hq => ?_⟩
  ·simp at hq; rcases hq with hq | rfl; exact h.ok q hq; exact ho
  ·simp at hq; rcases hq with hq | rfl; exact h.der q hq; exact hd
  ·by_cases e : x = txt t
   ·subst e
    rw [j6]
    exact .inr ⟨by decide, t, by simp, rfl⟩
   ·rw [f8 e]
    rcases h.met x with ⟨h1, h2⟩ | ⟨h1, q, h2, h3⟩
    ·refine .inl ⟨h1, fun q hq => ?_⟩
     simp at hq
     rcases hq with hq | rfl
     ·exact h2 q hq
     ·exact fun e' => e e'.symm
    ·exact .inr ⟨h1, q, by simp [h2], h3⟩
  ·simp only [List.map_append, List.map_cons, List.map_nil]
   refine List.nodup_append.2 ⟨h.nd, by simp, fun x hx y hy => ?_⟩
   obtain rfl := List.mem_singleton.1 hy
   obtain ⟨q, hq, rfl⟩ := List.mem_map.1 hx
   exact hno q hq
  ·simp at hq; rcases hq with hq | rfl; exact h.un q hq; exact hu
 ·exact h
theorem je (r : Rw) (t : Tm) : (r.add t).l.length = r.l.length → r.add t = r := by
 unfold Rw.add
 split
 ·intro h; simp at h
 ·intro _; rfl
theorem gw (r : Rw) (t : Tm) : ∀ u, u ∈ r.l → u ∈ (r.add t).l := by
 unfold Rw.add
 split
 ·intro u hu; simp [hu]
 ·intro u hu; exact hu
theorem ig {r : Rw} (h : RInv W S U r) (t : Tm) : Met (r.add t) t := by
 unfold Rw.add
 split
 ·exact ⟨t, by simp, rfl⟩
 ·rename_i h0
  rcases h.met (txt t) with ⟨h1, _⟩ | ⟨_, h2⟩
  ·exact absurd h1 h0
  ·exact h2
theorem Met.mono {r r' : Rw} (h : ∀ u, u ∈ r.l → u ∈ r'.l) {t : Tm} (k : Met r t) : Met r' t := by
 obtain ⟨q, h1, h2⟩ := k
 exact ⟨q, h q h1, h2⟩
theorem Bt.der {r : Rw} (h : RInv W S U r) {t : Tm} (hb : Bt W r.met t) : Ok t → Der W S t := by
 induction hb with
 | @kn t h0 =>
  intro ho
  obtain ⟨q, h1, h2⟩ := h.pos.1 h0
  exact .eqv (h.der q h1) ho h2
 | @way t l hl _ ih =>
  intro ho
  exact .way ho hl fun u hu => ih u hu (gL ho hl hu).1
def j0 (W : Wd) (met m : bX) : Prop := ∀ t, Ok t → tl m (txt t) = 0 ∨ (tl m (txt t) = 1 ∧ Bt W met t) ∨ (tl m (txt t) = 2 ∧ ¬ Bt W met t)
theorem nL {met m : bX} (hm : j0 W met m) {l : List Tm} (hl : ∀ u, u ∈ l → Ok u) : ∃ f r m', bl W met f l m = some (r, m') ∧ (r = true ↔ ∀ u, u ∈ l → Bt W met u) ∧ j0 W met m' := by
 obtain ⟨k, hk⟩ : ∃ k, ∀ u, u ∈ l → cz u < k := by
  clear hl
  induction l with
  | nil => exact ⟨0, by simp⟩
  | cons x l ih =>
   obtain ⟨k, hk⟩ := ih
   refine ⟨max k (cz x + 1), fun u hu => ?_⟩
   rcases List.mem_cons.1 hu with rfl | hu
   ·omega
   ·have := hk u hu; omega
 obtain ⟨f, r, m', h1, h2, h3, h4⟩ := vc (W := W) (met := met) k l (fun u hu => ⟨hl u hu, hk u hu⟩) m (fun t ht _ => hm t ht)
 refine ⟨f, r, m', h1, h2, fun t ht => ?_⟩
 by_cases hlt : cz t < k
 ·exact h3 t ht hlt
 ·rw [h4 (txt t) (by unfold cz at hlt; omega)]; exact hm t ht
theorem fL {met : bX} {f g : Nat} (hg : f ≤ g) {t : Tm} {m : bX} {r : Rw} {p : bX × Rw} (h : opn1 W met f t m r = some p) : opn1 W met g t m r = some p := by
 cases t with
 | mk k n ks =>
  unfold opn1 at h ⊢
  dsimp only at h ⊢
  by_cases h9 : k = 9
  ·rw [if_pos h9] at h ⊢; exact h
  rw [if_neg h9] at h ⊢
  by_cases h8 : k = 8
  ·rw [if_pos h8] at h ⊢; exact h
  rw [if_neg h8] at h ⊢
  by_cases h7 : k = 7
  ·rw [if_pos h7] at h ⊢
   split at h
   ·rename_i a b q
    cases hb : bl W met f [a] m with
    | none => rw [hb] at h; cases h
    | some z =>
     rw [hb] at h
     rw [hZ hg hb]
     exact h
   ·cases h
  ·rw [if_neg h7] at h ⊢; exact h
theorem gn {met : bX} {f g : Nat} (hg : f ≤ g) : ∀ {ts : List Tm} {m : bX} {r : Rw} {p : bX × Rw}, opnL W met f ts m r = some p → opnL W met g ts m r = some p
 | [], m, r, p, h => by simpa [opnL] using h
 | t :: ts, m, r, p, h => by
  obtain ⟨m', r'⟩ := p
  obtain ⟨m1, r1, h1, h2⟩ := fK h
  simp only [opnL, fL hg h1]
  exact gn hg h2
theorem iH {f f' : Nat} (hf : f ≤ f') : ∀ {g g' : Nat} {r p : Rw}, g ≤ g' → du W f g r = some p → du W f' g' r = some p := by
 intro g
 induction g with
 | zero => intro g' r p _ h; simp [du] at h
 | succ g ih =>
  intro g' r p hg h
  obtain ⟨q, rfl⟩ : ∃ q, g' = q + 1 := ⟨g' - 1, by omega⟩
  simp only [du] at h ⊢
  split at h
  ·cases h
  ·rename_i m1 r1 h1
   rw [gn hf h1]
   dsimp only
   split at h
   ·rename_i e; rw [if_pos e]; exact h
   ·rename_i e; rw [if_neg e]; exact ih (by omega) h
def Opd (W : Wd) (met : bX) (r' : Rw) (t : Tm) : Prop :=
 (∀ n a b, t = .mk 9 n [a, b] → Met r' a ∧ Met r' b) ∧ (∀ n a b, t = .mk 8 n [a, b] → Met r' b) ∧ (∀ n a b, t = .mk 7 n [a, b] → Bt W met a → Met r' b)
theorem Opd.mono {met : bX} {r r' : Rw} (h : ∀ u, u ∈ r.l → u ∈ r'.l) {t : Tm} (k : Opd W met r t) : Opd W met r' t :=
 ⟨fun n a b e => ⟨(k.1 n a b e).1.mono h, (k.1 n a b e).2.mono h⟩, fun n a b e => (k.2.1 n a b e).mono h, fun n a b e hb => (k.2.2 n a b e hb).mono h⟩
theorem mg {r0 r : Rw} {m : bX} (h0 : RInv W S U r0) (hm : j0 W r0.met m) (hr : RInv W S U r) {t : Tm} (ht : t ∈ r0.l) :
  ∃ f m' r', opn1 W r0.met f t m r = some (m', r') ∧ j0 W r0.met m' ∧ RInv W S U r' ∧ (∀ u, u ∈ r.l → u ∈ r'.l) ∧ (r'.l.length = r.l.length → r' = r) ∧ Opd W r0.met r' t := by
 have i := h0.ok t ht
 have d := h0.der t ht
 have g := h0.un t ht
 cases t with
 | mk k n ks =>
  by_cases h9 : k = 9
  ·subst h9
   obtain ⟨a, b, rfl, ha, hb⟩ := i.two' (by decide) (by decide) (by decide)
   have c := hr.add ha (.fst d) (fun u hu => g u (fH (by simp) hu))
   have o := c.add hb (.snd d) (fun u hu => g u (fH (by simp) hu))
   refine ⟨0, m, (r.add a).add b, by simp [opn1], hm, o, fun u hu => gw _ _ u (gw _ _ u hu), fun hl => ?_, ?_, by simp, by simp⟩
   ·have l1 := fU r a
    have l2 := fU (r.add a) b
    have e1 := je (r.add a) b (by omega)
    rw [e1] at hl ⊢
    exact je r a hl
   ·rintro n' a' b' e
    cases e
    exact ⟨(ig hr _).mono (gw _ _), ig c _⟩
  by_cases h8 : k = 8
  ·subst h8
   obtain ⟨a, b, rfl, ha, hb⟩ := i.two' (by decide) (by decide) (by decide)
   have c := hr.add hb (.sig d) (fun u hu => g u (fH (by simp) hu))
   refine ⟨0, m, r.add b, by simp [opn1], hm, c, gw _ _, je r b, by simp, ?_, by simp⟩
   rintro n' a' b' e
   cases e
   exact ig hr _
  by_cases h7 : k = 7
  ·subst h7
   obtain ⟨a, b, rfl, ha, hb⟩ := i.two' (by decide) (by decide) (by decide)
   obtain ⟨f, q, m', h1, h2, h3⟩ := nL hm (l := [a]) (by simpa using ha)
   have j : q = true ↔ Bt W r0.met a := by simpa using h2
   cases q with
   | true =>
    have h := j.1 rfl
    have c := hr.add hb (.dec d (h.der h0 ha)) (fun u hu => g u (fH (by simp) hu))
    refine ⟨f, m', r.add b, by simp [opn1, h1], h3, c, gw _ _, je r b, by simp, by simp, ?_⟩
    rintro n' a' b' e _
    cases e
    exact ig hr _
   | false =>
    refine ⟨f, m', r, by simp [opn1, h1], h3, hr, fun u hu => hu, fun _ => rfl, by simp, by simp, ?_⟩
    rintro n' a' b' e h
    cases e
    have := j.2 h
    simp at this
  ·refine ⟨0, m, r, by simp [opn1, h9, h8, h7], hm, hr, fun u hu => hu, fun _ => rfl, ?_, ?_, ?_⟩
   ·rintro n' a' b' e; cases e; exact absurd rfl h9
   ·rintro n' a' b' e; cases e; exact absurd rfl h8
   ·rintro n' a' b' e; cases e; exact absurd rfl h7
theorem md {r0 : Rw} (h0 : RInv W S U r0) : ∀ (ts : List Tm) (m : bX) (r : Rw), j0 W r0.met m → RInv W S U r → (∀ t, t ∈ ts → t ∈ r0.l) →
  ∃ f m' r', opnL W r0.met f ts m r = some (m', r') ∧ RInv W S U r' ∧ (∀ u, u ∈ r.l → u ∈ r'.l) ∧ (r'.l.length = r.l.length → r' = r) ∧ ∀ t, t ∈ ts → Opd W r0.met r' t
 | [], m, r, _, hr, _ => ⟨0, m, r, rfl, hr, fun u hu => hu, fun _ => rfl, by simp⟩
 | t :: ts, m, r, hm, hr, ht => by
  obtain ⟨f1, m1, r1, h1, h2, h3, h4, h5, h6⟩ := mg h0 hm hr (ht t (by simp))
  obtain ⟨f2, m2, r2, k1, k2, k3, k4, k5⟩ := md h0 ts m1 r1 h2 h3 (fun u hu => ht u (by simp [hu]))
  refine ⟨max f1 f2, m2, r2, ?_, k2, fun u hu => k3 u (h4 u hu), fun hl => ?_, fun u hu => ?_⟩
  ·simp only [opnL, fL (Nat.le_max_left f1 f2) h1]
   exact gn (Nat.le_max_right f1 f2) k1
  ·have l1 := gT h1
   have l2 := fg k1
   have e2 := k4 (by omega)
   rw [e2] at hl ⊢
   exact h5 hl
  ·rcases List.mem_cons.1 hu with rfl | hu
   ·exact h6.mono k3
   ·exact k5 u hu
theorem RInv.len {r : Rw} (h : RInv W S U r) : r.l.length ≤ U.length := by
 have := jC (r.l.map txt) U h.nd fun x hx => by
  obtain ⟨t, ht, rfl⟩ := List.mem_map.1 hx
  exact h.un t ht t (j8 t)
 simpa using this
theorem m0 : ∀ (q : Nat) (r : Rw), RInv W S U r → U.length - r.l.length < q → ∃ f g r', du W f g r = some r' ∧ RInv W S U r' ∧ (∀ u, u ∈ r.l → u ∈ r'.l) ∧ ∀ t, t ∈ r'.l → Opd W r'.met r' t := by
 intro q
 induction q with
 | zero => intro r _ h; omega
 | succ q ih =>
  intro r hr hq
  obtain ⟨f1, m1, r1, h1, h2, h3, h4, h5⟩ := md hr r.l [] r (fun t _ => .inl rfl) hr (fun t ht => ht)
  by_cases e : r1.l.length = r.l.length
  ·have e1 := h4 e
   subst e1
   refine ⟨f1, 1, r1, by simp [du, h1], hr, fun u hu => hu, h5⟩
  ·have l1 := fg h1
   have l2 := h2.len
   obtain ⟨f2, g2, r2, k1, k2, k3, k4⟩ := ih r1 h2 (by omega)
   refine ⟨max f1 f2, g2 + 1, r2, ?_, k2, fun u hu => k3 u (h3 u hu), k4⟩
   simp only [du, gn (Nat.le_max_left f1 f2) h1, if_neg e]
   exact iH (Nat.le_max_right f1 f2) (Nat.le_refl _) k1
theorem Der.bt {r : Rw} (hr : RInv W S U r) (hc : ∀ t, t ∈ r.l → Opd W r.met r t) (hS : ∀ t, S t → Ok t ∧ Met r t) {t : Tm} (h : Der W S t) : Bt W r.met t := by
 have g : ∀ {t : Tm}, Der W S t → Ok t := fun h => h.ok fun t ht => (hS t ht).1
 have d : ∀ {t : Tm}, Met r t → Bt W r.met t := fun h => .kn (hr.pos.2 h)
 induction h with
 | kn h => exact d (hS _ h).2
 | way _ hl _ ih => exact .way hl ih
 | @fst n a b hd ih =>
  have ho := g hd
  cases ih with
  | kn h0 =>
   obtain ⟨q, h1, h2⟩ := hr.pos.1 h0
   have c := hr.ok q h1
   have e := eo c ho h2
   cases q with
   | mk k' n' ks' =>
    obtain ⟨e1, _, e3⟩ := e
    simp only [Tm.kind, Tm.kids] at e1 e3
    subst e1
    obtain ⟨a', b', rfl, i, f⟩ := c.two' (by decide) (by decide) (by decide)
    have e3 := e3 (by decide)
    rw [eb (by decide), eb (by decide)] at e3
    simp at e3
    exact (d ((hc _ h1).1 n' a' b' rfl).1).congr i (ho.kid (by simp)) e3.1
  | way hl hu => simp [cr] at hl; subst hl; exact hu a (by simp)
 | @snd n a b hd ih =>
  have ho := g hd
  cases ih with
  | kn h0 =>
   obtain ⟨q, h1, h2⟩ := hr.pos.1 h0
   have c := hr.ok q h1
   have e := eo c ho h2
   cases q with
   | mk k' n' ks' =>
    obtain ⟨e1, _, e3⟩ := e
    simp only [Tm.kind, Tm.kids] at e1 e3
    subst e1
    obtain ⟨a', b', rfl, i, f⟩ := c.two' (by decide) (by decide) (by decide)
    have e3 := e3 (by decide)
    rw [eb (by decide), eb (by decide)] at e3
    simp at e3
    exact (d ((hc _ h1).1 n' a' b' rfl).2).congr f (ho.kid (by simp)) e3.2
  | way hl hu => simp [cr] at hl; subst hl; exact hu b (by simp)
 | @sig n a b hd ih =>
  have ho := g hd
  cases ih with
  | kn h0 =>
   obtain ⟨q, h1, h2⟩ := hr.pos.1 h0
   have c := hr.ok q h1
   have e := eo c ho h2
   cases q with
   | mk k' n' ks' =>
    obtain ⟨e1, _, e3⟩ := e
    simp only [Tm.kind, Tm.kids] at e1 e3
    subst e1
    obtain ⟨a', b', rfl, i, f⟩ := c.two' (by decide) (by decide) (by decide)
    have e3 := e3 (by decide)
    rw [eb (by decide), eb (by decide)] at e3
    simp at e3
    exact (d ((hc _ h1).2.1 n' a' b' rfl)).congr f (ho.kid (by simp)) e3.2
  | way hl hu => simp [cr] at hl; subst hl; exact hu b (by simp)
 | @dec n a b hd hda ih iha =>
  have ho := g hd
  cases ih with
  | kn h0 =>
   obtain ⟨q, h1, h2⟩ := hr.pos.1 h0
   have c := hr.ok q h1
   have e := eo c ho h2
   cases q with
   | mk k' n' ks' =>
    obtain ⟨e1, _, e3⟩ := e
    simp only [Tm.kind, Tm.kids] at e1 e3
    subst e1
    obtain ⟨a', b', rfl, i, f⟩ := c.two' (by decide) (by decide) (by decide)
    have e3 := e3 (by decide)
    rw [eb (by decide), eb (by decide)] at e3
    simp at e3
    exact (d ((hc _ h1).2.2 n' a' b' rfl (iha.congr (g hda) i e3.1.symm))).congr f (ho.kid (by simp)) e3.2
  | way hl hu => simp [cr] at hl; subst hl; exact hu b (by simp)
 | eqv hd ho he ih => exact ih.congr (g hd) ho he
end
mutual
theorem fI : (t : Tm) → (d : Nat) → cw t d = true → Ok t ∧ Ok (nrm t)
 | .mk k n ks, d, h => by
  simp only [cw, Bool.and_eq_true, decide_eq_true_eq] at h
  obtain ⟨⟨h1, _, h2, h3⟩, h4⟩ := h
  obtain ⟨h5, h6, h7⟩ := jp ks (d + 1) h4
  refine ⟨.mk h1 h2 h3 h5, ?_⟩
  simp only [nrm]
  refine .mk ?_ (by rw [h7]; exact h2) (by rw [h7]; exact h3) h6
  by_cases hk : k = 1
  ·rw [if_pos hk]; exact h1
  ·rw [if_neg hk]
   simp only [named, Bool.and_eq_true, Bool.or_eq_true, decide_eq_true_eq, Bool.not_eq_true', decide_eq_false_iff_not] at h1 ⊢
   omega
theorem jp : (ks : List Tm) → (d : Nat) → cB ks d = true → (∀ t, t ∈ ks → Ok t) ∧ (∀ t, t ∈ gx ks → Ok t) ∧ (gx ks).length = ks.length
 | [], _, _ => by simp [gx]
 | k :: ks, d, h => by
  simp only [cB, Bool.and_eq_true] at h
  obtain ⟨h1, h2⟩ := fI k d h.1
  obtain ⟨h3, h4, h5⟩ := jp ks d h.2
  refine ⟨?_, ?_, by simp [gx, h5]⟩
  ·intro t ht
   rcases List.mem_cons.1 ht with rfl | ht
   ·exact h1
   ·exact h3 t ht
  ·intro t ht
   simp only [gx] at ht
   rcases List.mem_cons.1 ht with rfl | ht
   ·exact h2
   ·exact h4 t ht
end
theorem ge {t : Tm} (h : may t = true) : Ok (nrm t) := by
 simp only [may, Bool.and_eq_true] at h
 exact (fI t 0 h.2).2
def Kn (known : List Tm) (u : Tm) : Prop := ∃ v, v ∈ known ∧ may v = true ∧ u = nrm v
def fF (known : List Tm) : List Tx := ((known.filter may).flatMap fun v => fX (nrm v)).map txt
theorem gp {W : Wd} {known : List Tm} : ∀ (ts : List Tm) (r : Rw), (∀ t, t ∈ ts → t ∈ known) → RInv W (Kn known) (fF known) r → RInv W (Kn known) (fF known) (cQ ts r) ∧ (∀ u, u ∈ r.l → u ∈ (cQ ts r).l) ∧ ∀ v, v ∈ ts → may v = true → Met (cQ ts r) (nrm v)
 | [], r, _, hr => ⟨hr, fun u hu => hu, by simp⟩
 | t :: ts, r, hk, hr => by
  simp only [cQ]
  cases hm : may t with
  | false =>
   rw [if_neg (by simp)]
   obtain ⟨h1, h2, h3⟩ := gp ts r (fun u hu => hk u (by simp [hu])) hr
   refine ⟨h1, h2, fun v hv hmv => ?_⟩
   rcases List.mem_cons.1 hv with rfl | hv
   ·rw [hm] at hmv; simp at hmv
   ·exact h3 v hv hmv
  | true =>
   rw [if_pos rfl]
   have hr1 := hr.add (ge hm) (.kn ⟨t, hk t (by simp), hm, rfl⟩) (fun u hu => by
    unfold fF
    refine List.mem_map_of_mem (List.mem_flatMap.2 ⟨t, List.mem_filter.2 ⟨hk t (by simp), hm⟩, hu⟩))
   obtain ⟨h1, h2, h3⟩ := gp ts (r.add (nrm t)) (fun u hu => hk u (by simp [hu])) hr1
   refine ⟨h1, fun u hu => h2 u (gw _ _ u hu), fun v hv hmv => ?_⟩
   rcases List.mem_cons.1 hv with rfl | hv
   ·exact (ig hr _).mono h2
   ·exact h3 v hv hmv
theorem kf (W : Wd) (known : List Tm) : ∃ f g r, gU W f g known = some r ∧ RInv W (Kn known) (fF known) r ∧ (∀ t, Der W (Kn known) t → Bt W r.met t) ∧ (∀ v, v ∈ known → may v = true → Met r (nrm v)) := by
 have h0 : RInv W (Kn known) (fF known) ⟨[], []⟩ := ⟨by simp, by simp, fun x => .inl ⟨rfl, by simp⟩, by simp, by simp⟩
 obtain ⟨h1, _, h3⟩ := gp known ⟨[], []⟩ (fun t ht => ht) h0
 obtain ⟨f, g, r, k1, k2, k3, k4⟩ := m0 ((fF known).length + 1) _ h1 (by omega)
 have hm : ∀ v, v ∈ known → may v = true → Met r (nrm v) := fun v hv hmv => (h3 v hv hmv).mono k3
 refine ⟨f, g, r, k1, k2, fun t ht => ht.bt k2 k4 fun u hu => ?_, hm⟩
 obtain ⟨v, hv, hmv, rfl⟩ := hu
 exact ⟨ge hmv, hm v hv hmv⟩
theorem o5 (W : Wd) (known : List Tm) (t : Tm) : ∃ f g b, kl W f g known t = some b ∧ (b = true ↔ may t = true ∧ Der W (Kn known) (nrm t)) ∧ ∀ r, gU W f g known = some r → r.l.length ≤ (fF known).length := by
 obtain ⟨f, g, r, h1, h2, h3, _⟩ := kf W known
 cases hm : may t with
 | false =>
  refine ⟨f, g, false, by simp [kl, hm], by simp, fun r' h' => ?_⟩
  rw [h1] at h'; cases h'; exact h2.len
 | true =>
  obtain ⟨f2, b, m', k1, k2, _⟩ := nL (W := W) (met := r.met) (m := []) (fun t _ => .inl rfl) (l := [nrm t]) (by simpa using ge hm)
  have k2' : b = true ↔ Bt W r.met (nrm t) := by simpa using k2
  have ho : gU W (max f f2) g known = some r := iH (Nat.le_max_left f f2) (Nat.le_refl _) h1
  refine ⟨max f f2, g, b, ?_, ?_, fun r' h' => ?_⟩
  ·simp only [kl, hm, if_true, ho, hZ (Nat.le_max_right f f2) k1, Option.map_some]
  ·rw [k2']
   exact ⟨fun h => ⟨rfl, h.der h2 (ge hm)⟩, fun h => h3 _ h.2⟩
  ·rw [ho] at h'; cases h'; exact h2.len
end Go.Mi.Term
namespace Go.Mi.Term
section
variable {W : Wd} {S : Tm → Prop}
inductive Safe (F : Tm → Prop) : Tm → Prop
 | pair {n : Int} {a b : Tm} : ¬ F (.mk 9 n [a, b]) → Safe F a → Safe F b → Safe F (.mk 9 n [a, b])
 | sign {n : Int} {a b : Tm} : ¬ F (.mk 8 n [a, b]) → Safe F b → Safe F (.mk 8 n [a, b])
 | shut {n : Int} {a b : Tm} : ¬ F (.mk 7 n [a, b]) → F a → Safe F (.mk 7 n [a, b])
 | enc {n : Int} {a b : Tm} : ¬ F (.mk 7 n [a, b]) → Safe F b → Safe F (.mk 7 n [a, b])
 | other {k n : Int} {ks : List Tm} : ¬ F (.mk k n ks) → k ≠ 9 → k ≠ 8 → k ≠ 7 → Safe F (.mk k n ks)
theorem Safe.not {F : Tm → Prop} {t : Tm} (h : Safe F t) : ¬ F t := by
 cases h <;> assumption
structure lA (W : Wd) (F : Tm → Prop) : Prop where
 congr : ∀ a b, Ok a → Ok b → txt a = txt b → F a → F b
 need : ∀ t, Ok t → F t → ∀ l, l ∈ cr W t → ∃ u, u ∈ l ∧ F u
theorem Safe.congr {F : Tm → Prop} (hF : lA W F) {a : Tm} (h : Safe F a) : ∀ {b : Tm}, Ok a → Ok b → txt a = txt b → Safe F b := by
 have g : ∀ {k n : Int} {ks : List Tm} {b : Tm}, Ok (.mk k n ks) → Ok b → txt (.mk k n ks) = txt b → k ≠ 1 → k ≠ 3 → ∃ n' c, b = .mk k n' c ∧ ks.map txt = c.map txt := by
  intro k n ks b ha hb he h1 h3
  have i := eo ha hb he
  cases b with
  | mk k' n' c =>
   obtain ⟨e1, _, e3⟩ := i
   simp only [Tm.kind, Tm.kids] at e1 e3
   subst e1
   have e3 := e3 h1
   rw [eb h3, eb h3] at e3
   exact ⟨n', c, rfl, e3⟩
 have nF : ∀ {a b : Tm}, Ok a → Ok b → txt a = txt b → ¬ F a → ¬ F b := fun ha hb he h d => h (hF.congr _ _ hb ha he.symm d)
 induction h with
 | pair h _ _ iha ihb =>
  intro b ha hb he
  obtain ⟨n', c, rfl, e⟩ := g ha hb he (by decide) (by decide)
  obtain ⟨a', b', rfl, f, d⟩ := hb.two' (by decide) (by decide) (by decide)
  simp at e
  exact .pair (nF ha hb he h) (iha (ha.kid (by simp)) f e.1) (ihb (ha.kid (by simp)) d e.2)
 | sign h _ ihb =>
  intro b ha hb he
  obtain ⟨n', c, rfl, e⟩ := g ha hb he (by decide) (by decide)
  obtain ⟨a', b', rfl, f, d⟩ := hb.two' (by decide) (by decide) (by decide)
  simp at e
  exact .sign (nF ha hb he h) (ihb (ha.kid (by simp)) d e.2)
 | shut h hs =>
  intro b ha hb he
  obtain ⟨n', c, rfl, e⟩ := g ha hb he (by decide) (by decide)
  obtain ⟨a', b', rfl, f, d⟩ := hb.two' (by decide) (by decide) (by decide)
  simp at e
  exact .shut (nF ha hb he h) (hF.congr _ _ (ha.kid (by simp)) f e.1 hs)
 | enc h _ ihb =>
  intro b ha hb he
  obtain ⟨n', c, rfl, e⟩ := g ha hb he (by decide) (by decide)
  obtain ⟨a', b', rfl, f, d⟩ := hb.two' (by decide) (by decide) (by decide)
  simp at e
  exact .enc (nF ha hb he h) (ihb (ha.kid (by simp)) d e.2)
 | other h h9 h8 h7 =>
  intro b ha hb he
  have i := eo ha hb he
  cases b with
  | mk k' n' c =>
   obtain ⟨e1, _, _⟩ := i
   simp only [Tm.kind] at e1
   subst e1
   exact .other (nF ha hb he h) h9 h8 h7
theorem gM {k n : Int} {ks : List Tm} (h1 : k ≠ 1) (h3 : k ≠ 3) (h4 : k ≠ 4) (h5 : k ≠ 5) : cr W (.mk k n ks) = [ks] := by simp [cr, h1, h3, h4, h5]
theorem n1 {F : Tm → Prop} (hF : lA W F) (hok : ∀ s, S s → Ok s) (hS : ∀ s, S s → Safe F s) {t : Tm} (h : Der W S t) : Safe F t := by
 have c : ∀ {t : Tm}, Der W S t → Ok t := fun h => h.ok hok
 induction h with
 | kn h => exact hS _ h
 | @way t l ho hl _ ih =>
  have hn : ¬ F t := fun hf => by
   obtain ⟨u, hu, d⟩ := hF.need t ho hf l hl
   exact (ih u hu).not d
  cases t with
  | mk k n ks =>
   by_cases h9 : k = 9
   ·subst h9
    obtain ⟨a, b, rfl, _, _⟩ := ho.two' (by decide) (by decide) (by decide)
    rw [gM (by decide) (by decide) (by decide) (by decide)] at hl
    simp at hl
    subst hl
    exact .pair hn (ih a (by simp)) (ih b (by simp))
   by_cases h8 : k = 8
   ·subst h8
    obtain ⟨a, b, rfl, _, _⟩ := ho.two' (by decide) (by decide) (by decide)
    rw [gM (by decide) (by decide) (by decide) (by decide)] at hl
    simp at hl
    subst hl
    exact .sign hn (ih b (by simp))
   by_cases h7 : k = 7
   ·subst h7
    obtain ⟨a, b, rfl, _, _⟩ := ho.two' (by decide) (by decide) (by decide)
    rw [gM (by decide) (by decide) (by decide) (by decide)] at hl
    simp at hl
    subst hl
    exact .enc hn (ih b (by simp))
   ·exact .other hn h9 h8 h7
 | fst _ ih => cases ih with
  | pair _ h _ => exact h
  | other _ h => exact absurd rfl h
 | snd _ ih => cases ih with
  | pair _ _ h => exact h
  | other _ h => exact absurd rfl h
 | sig _ ih => cases ih with
  | sign _ h => exact h
  | other _ _ h => exact absurd rfl h
 | dec _ _ ih iha => cases ih with
  | shut _ h => exact absurd h iha.not
  | enc _ h => exact h
  | other _ _ _ h => exact absurd rfl h
 | eqv h ho he ih => exact ih.congr hF (c h) ho he
end
end Go.Mi.Term
