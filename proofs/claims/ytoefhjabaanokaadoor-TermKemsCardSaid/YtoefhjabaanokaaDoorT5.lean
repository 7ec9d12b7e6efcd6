/- What is known, said without an order: derivations; the algorithm ends and gives just that. Plain laws. -/
import Derived.Test.YtoefhjabaanokaaDoorT4
namespace Go.Mi.Term
/-- what comes of some terms by building and opening -/
inductive Der (W : Wd) (S : Tm → Prop) : Tm → Prop
  | kn {t : Tm} : S t → Der W S t
  | way {t : Tm} {l : List Tm} : Ok t → l ∈ ways W t → (∀ u, u ∈ l → Der W S u) → Der W S t
  | fst {n : Int} {a b : Tm} : Der W S (.mk 9 n [a, b]) → Der W S a
  | snd {n : Int} {a b : Tm} : Der W S (.mk 9 n [a, b]) → Der W S b
  | sig {n : Int} {a b : Tm} : Der W S (.mk 8 n [a, b]) → Der W S b
  | dec {n : Int} {a b : Tm} : Der W S (.mk 7 n [a, b]) → Der W S a → Der W S b
  | eqv {a b : Tm} : Der W S a → Ok b → txt a = txt b → Der W S b
theorem Der.ok {W : Wd} {S : Tm → Prop} (hS : ∀ t, S t → Ok t) {t : Tm} (h : Der W S t) : Ok t := by
  induction h with
  | kn h => exact hS _ h
  | way h _ _ _ => exact h
  | fst _ ih => exact ih.kid (by simp)
  | snd _ ih => exact ih.kid (by simp)
  | sig _ ih => exact ih.kid (by simp)
  | dec _ _ ih _ => exact ih.kid (by simp)
  | eqv _ h _ _ => exact h
mutual
def subs : Tm → List Tm
  | .mk k n ks => .mk k n ks :: subsL ks
def subsL : List Tm → List Tm
  | [] => []
  | t :: ts => subs t ++ subsL ts
end
theorem subs_self (t : Tm) : t ∈ subs t := by cases t; simp [subs]
theorem subsL_of {ts : List Tm} {t u : Tm} (ht : t ∈ ts) (hu : u ∈ subs t) : u ∈ subsL ts := by
  induction ts with
  | nil => simp at ht
  | cons x ts ih =>
    simp only [subsL, List.mem_append]
    rcases List.mem_cons.1 ht with rfl | ht
    · exact .inl hu
    · exact .inr (ih ht)
theorem subs_kid {k n : Int} {ks : List Tm} {t u : Tm} (ht : t ∈ ks) (hu : u ∈ subs t) : u ∈ subs (.mk k n ks) := by
  simp only [subs, List.mem_cons]
  exact .inr (subsL_of ht hu)
/-- each once, and all in another one: no longer -/
theorem nodup_le {α : Type} [DecidableEq α] : ∀ (l m : List α), l.Nodup → (∀ x, x ∈ l → x ∈ m) → l.length ≤ m.length
  | [], m, _, _ => by simp
  | x :: l, m, hn, hs => by
    rw [List.nodup_cons] at hn
    have hx : x ∈ m := hs x (by simp)
    have h1 := nodup_le l (m.erase x) hn.2 fun y hy => by
      have hne : y ≠ x := fun e => hn.1 (e ▸ hy)
      exact (List.mem_erase_of_ne hne).2 (hs y (by simp [hy]))
    rw [List.length_erase_of_mem hx] at h1
    have : 0 < m.length := List.length_pos_of_mem hx
    simp only [List.length_cons]
    omega
section
variable {W : Wd} {S : Tm → Prop} {U : List Tx}
def Met (r : Rw) (u : Tm) : Prop := ∃ t, t ∈ r.l ∧ txt t = txt u
structure RInv (W : Wd) (S : Tm → Prop) (U : List Tx) (r : Rw) : Prop where
  ok : ∀ t, t ∈ r.l → Ok t
  der : ∀ t, t ∈ r.l → Der W S t
  met : ∀ x, (tl r.met x = 0 ∧ ∀ t, t ∈ r.l → txt t ≠ x) ∨ (0 < tl r.met x ∧ ∃ t, t ∈ r.l ∧ txt t = x)
  nd : (r.l.map txt).Nodup
  un : ∀ t, t ∈ r.l → ∀ u, u ∈ subs t → txt u ∈ U
theorem RInv.pos {r : Rw} (h : RInv W S U r) {u : Tm} : 0 < tl r.met (txt u) ↔ Met r u := by
  rcases h.met (txt u) with ⟨h1, h2⟩ | ⟨h1, h2⟩
  · constructor
    · intro h; omega
    · rintro ⟨t, h3, h4⟩; exact absurd h4 (h2 t h3)
  · exact ⟨fun _ => h2, fun _ => h1⟩
theorem RInv.add {r : Rw} (h : RInv W S U r) {t : Tm} (ho : Ok t) (hd : Der W S t) (hu : ∀ u, u ∈ subs t → txt u ∈ U) : RInv W S U (r.add t) := by
  unfold Rw.add
  split
  · rename_i h0
    have hno : ∀ q, q ∈ r.l → txt q ≠ txt t := by
      rcases h.met (txt t) with ⟨_, h2⟩ | ⟨h1, _⟩
      · exact h2
      · omega
    refine ⟨fun q hq => ?_, fun q hq => ?_, fun x => ?_, ?_, fun q hq => ?_⟩
    · simp at hq; rcases hq with hq | rfl; exact h.ok q hq; exact ho
    · simp at hq; rcases hq with hq | rfl; exact h.der q hq; exact hd
    · by_cases e : x = txt t
      · subst e
        rw [tl_st]
        exact .inr ⟨by decide, t, by simp, rfl⟩
      · rw [tl_ne e]
        rcases h.met x with ⟨h1, h2⟩ | ⟨h1, q, h2, h3⟩
        · refine .inl ⟨h1, fun q hq => ?_⟩
          simp at hq
          rcases hq with hq | rfl
          · exact h2 q hq
          · exact fun e' => e e'.symm
        · exact .inr ⟨h1, q, by simp [h2], h3⟩
    · simp only [List.map_append, List.map_cons, List.map_nil]
      refine List.nodup_append.2 ⟨h.nd, by simp, fun x hx y hy => ?_⟩
      obtain rfl := List.mem_singleton.1 hy
      obtain ⟨q, hq, rfl⟩ := List.mem_map.1 hx
      exact hno q hq
    · simp at hq; rcases hq with hq | rfl; exact h.un q hq; exact hu
  · exact h
theorem add_pre (r : Rw) (t : Tm) : (r.add t).l.length = r.l.length → r.add t = r := by
  unfold Rw.add
  split
  · intro h; simp at h
  · intro _; rfl
theorem add_sub (r : Rw) (t : Tm) : ∀ u, u ∈ r.l → u ∈ (r.add t).l := by
  unfold Rw.add
  split
  · intro u hu; simp [hu]
  · intro u hu; exact hu
theorem add_met {r : Rw} (h : RInv W S U r) (t : Tm) : Met (r.add t) t := by
  unfold Rw.add
  split
  · exact ⟨t, by simp, rfl⟩
  · rename_i h0
    rcases h.met (txt t) with ⟨h1, _⟩ | ⟨_, h2⟩
    · exact absurd h1 h0
    · exact h2
theorem Met.mono {r r' : Rw} (h : ∀ u, u ∈ r.l → u ∈ r'.l) {t : Tm} (k : Met r t) : Met r' t := by
  obtain ⟨q, h1, h2⟩ := k
  exact ⟨q, h q h1, h2⟩
theorem Bt.der {r : Rw} (h : RInv W S U r) {t : Tm} (hb : Bt W r.met t) : Ok t → Der W S t := by
  induction hb with
  | @kn t h0 =>
    intro ho
    obtain ⟨q, h1, h2⟩ := h.pos.1 h0
    exact .eqv (h.der q h1) ho h2
  | @way t l hl _ ih =>
    intro ho
    exact .way ho hl fun u hu => ih u hu (ways_ok ho hl hu).1
def ConsA (W : Wd) (met m : Told) : Prop := ∀ t, Ok t → tl m (txt t) = 0 ∨ (tl m (txt t) = 1 ∧ Bt W met t) ∨ (tl m (txt t) = 2 ∧ ¬ Bt W met t)
theorem bl_all {met m : Told} (hm : ConsA W met m) {l : List Tm} (hl : ∀ u, u ∈ l → Ok u) : ∃ f r m', bl W met f l m = some (r, m') ∧ (r = true ↔ ∀ u, u ∈ l → Bt W met u) ∧ ConsA W met m' := by
  obtain ⟨k, hk⟩ : ∃ k, ∀ u, u ∈ l → tlen u < k := by
    clear hl
    induction l with
    | nil => exact ⟨0, by simp⟩
    | cons x l ih =>
      obtain ⟨k, hk⟩ := ih
      refine ⟨max k (tlen x + 1), fun u hu => ?_⟩
      rcases List.mem_cons.1 hu with rfl | hu
      · omega
      · have := hk u hu; omega
  obtain ⟨f, r, m', h1, h2, h3, h4⟩ := bl_tot (W := W) (met := met) k l (fun u hu => ⟨hl u hu, hk u hu⟩) m (fun t ht _ => hm t ht)
  refine ⟨f, r, m', h1, h2, fun t ht => ?_⟩
  by_cases hlt : tlen t < k
  · exact h3 t ht hlt
  · rw [h4 (txt t) (by unfold tlen at hlt; omega)]; exact hm t ht
theorem opn1_more {met : Told} {f g : Nat} (hg : f ≤ g) {t : Tm} {m : Told} {r : Rw} {p : Told × Rw} (h : opn1 W met f t m r = some p) : opn1 W met g t m r = some p := by
  cases t with
  | mk k n ks =>
    unfold opn1 at h ⊢
    dsimp only at h ⊢
    by_cases h9 : k = 9
    · rw [if_pos h9] at h ⊢; exact h
    rw [if_neg h9] at h ⊢
    by_cases h8 : k = 8
    · rw [if_pos h8] at h ⊢; exact h
    rw [if_neg h8] at h ⊢
    by_cases h7 : k = 7
    · rw [if_pos h7] at h ⊢
      split at h
      · rename_i a b q
        cases hb : bl W met f [a] m with
        | none => rw [hb] at h; cases h
        | some z =>
          rw [hb] at h
          rw [bl_more hg hb]
          exact h
      · cases h
    · rw [if_neg h7] at h ⊢; exact h
theorem opnL_more {met : Told} {f g : Nat} (hg : f ≤ g) : ∀ {ts : List Tm} {m : Told} {r : Rw} {p : Told × Rw}, opnL W met f ts m r = some p → opnL W met g ts m r = some p
  | [], m, r, p, h => by simpa [opnL] using h
  | t :: ts, m, r, p, h => by
    obtain ⟨m', r'⟩ := p
    obtain ⟨m1, r1, h1, h2⟩ := opnL_cons h
    simp only [opnL, opn1_more hg h1]
    exact opnL_more hg h2
theorem rounds_more {f f' : Nat} (hf : f ≤ f') : ∀ {g g' : Nat} {r p : Rw}, g ≤ g' → rounds W f g r = some p → rounds W f' g' r = some p := by
  intro g
  induction g with
  | zero => intro g' r p _ h; simp [rounds] at h
  | succ g ih =>
    intro g' r p hg h
    obtain ⟨q, rfl⟩ : ∃ q, g' = q + 1 := ⟨g' - 1, by omega⟩
    simp only [rounds] at h ⊢
    split at h
    · cases h
    · rename_i m1 r1 h1
      rw [opnL_more hf h1]
      dsimp only
      split at h
      · rename_i e; rw [if_pos e]; exact h
      · rename_i e; rw [if_neg e]; exact ih (by omega) h
/-- what must be met behind a node's opening -/
def Opd (W : Wd) (met : Told) (r' : Rw) (t : Tm) : Prop :=
  (∀ n a b, t = .mk 9 n [a, b] → Met r' a ∧ Met r' b) ∧ (∀ n a b, t = .mk 8 n [a, b] → Met r' b) ∧ (∀ n a b, t = .mk 7 n [a, b] → Bt W met a → Met r' b)
theorem Opd.mono {met : Told} {r r' : Rw} (h : ∀ u, u ∈ r.l → u ∈ r'.l) {t : Tm} (k : Opd W met r t) : Opd W met r' t :=
  ⟨fun n a b e => ⟨(k.1 n a b e).1.mono h, (k.1 n a b e).2.mono h⟩, fun n a b e => (k.2.1 n a b e).mono h, fun n a b e hb => (k.2.2 n a b e hb).mono h⟩
theorem opn1_all {r0 r : Rw} {m : Told} (h0 : RInv W S U r0) (hm : ConsA W r0.met m) (hr : RInv W S U r) {t : Tm} (ht : t ∈ r0.l) :
    ∃ f m' r', opn1 W r0.met f t m r = some (m', r') ∧ ConsA W r0.met m' ∧ RInv W S U r' ∧ (∀ u, u ∈ r.l → u ∈ r'.l) ∧ (r'.l.length = r.l.length → r' = r) ∧ Opd W r0.met r' t := by
  have hto := h0.ok t ht
  have htd := h0.der t ht
  have htu := h0.un t ht
  cases t with
  | mk k n ks =>
    by_cases h9 : k = 9
    · subst h9
      obtain ⟨a, b, rfl, ha, hb⟩ := hto.two' (by decide) (by decide) (by decide)
      have hr1 := hr.add ha (.fst htd) (fun u hu => htu u (subs_kid (by simp) hu))
      have hr2 := hr1.add hb (.snd htd) (fun u hu => htu u (subs_kid (by simp) hu))
      refine ⟨0, m, (r.add a).add b, by simp [opn1], hm, hr2, fun u hu => add_sub _ _ u (add_sub _ _ u hu), fun hl => ?_, ?_, by simp, by simp⟩
      · have l1 := add_len r a
        have l2 := add_len (r.add a) b
        have e1 := add_pre (r.add a) b (by omega)
        rw [e1] at hl ⊢
        exact add_pre r a hl
      · rintro n' a' b' e
        cases e
        exact ⟨(add_met hr _).mono (add_sub _ _), add_met hr1 _⟩
    by_cases h8 : k = 8
    · subst h8
      obtain ⟨a, b, rfl, ha, hb⟩ := hto.two' (by decide) (by decide) (by decide)
      have hr1 := hr.add hb (.sig htd) (fun u hu => htu u (subs_kid (by simp) hu))
      refine ⟨0, m, r.add b, by simp [opn1], hm, hr1, add_sub _ _, add_pre r b, by simp, ?_, by simp⟩
      rintro n' a' b' e
      cases e
      exact add_met hr _
    by_cases h7 : k = 7
    · subst h7
      obtain ⟨a, b, rfl, ha, hb⟩ := hto.two' (by decide) (by decide) (by decide)
      obtain ⟨f, q, m', h1, h2, h3⟩ := bl_all hm (l := [a]) (by simpa using ha)
      have h2' : q = true ↔ Bt W r0.met a := by simpa using h2
      cases q with
      | true =>
        have hbt := h2'.1 rfl
        have hr1 := hr.add hb (.dec htd (hbt.der h0 ha)) (fun u hu => htu u (subs_kid (by simp) hu))
        refine ⟨f, m', r.add b, by simp [opn1, h1], h3, hr1, add_sub _ _, add_pre r b, by simp, by simp, ?_⟩
        rintro n' a' b' e _
        cases e
        exact add_met hr _
      | false =>
        refine ⟨f, m', r, by simp [opn1, h1], h3, hr, fun u hu => hu, fun _ => rfl, by simp, by simp, ?_⟩
        rintro n' a' b' e hbt
        cases e
        have := h2'.2 hbt
        simp at this
    · refine ⟨0, m, r, by simp [opn1, h9, h8, h7], hm, hr, fun u hu => hu, fun _ => rfl, ?_, ?_, ?_⟩
      · rintro n' a' b' e; cases e; exact absurd rfl h9
      · rintro n' a' b' e; cases e; exact absurd rfl h8
      · rintro n' a' b' e; cases e; exact absurd rfl h7
theorem opnL_all {r0 : Rw} (h0 : RInv W S U r0) : ∀ (ts : List Tm) (m : Told) (r : Rw), ConsA W r0.met m → RInv W S U r → (∀ t, t ∈ ts → t ∈ r0.l) →
    ∃ f m' r', opnL W r0.met f ts m r = some (m', r') ∧ RInv W S U r' ∧ (∀ u, u ∈ r.l → u ∈ r'.l) ∧ (r'.l.length = r.l.length → r' = r) ∧ ∀ t, t ∈ ts → Opd W r0.met r' t
  | [], m, r, _, hr, _ => ⟨0, m, r, rfl, hr, fun u hu => hu, fun _ => rfl, by simp⟩
  | t :: ts, m, r, hm, hr, ht => by
    obtain ⟨f1, m1, r1, h1, h2, h3, h4, h5, h6⟩ := opn1_all h0 hm hr (ht t (by simp))
    obtain ⟨f2, m2, r2, k1, k2, k3, k4, k5⟩ := opnL_all h0 ts m1 r1 h2 h3 (fun u hu => ht u (by simp [hu]))
    refine ⟨max f1 f2, m2, r2, ?_, k2, fun u hu => k3 u (h4 u hu), fun hl => ?_, fun u hu => ?_⟩
    · simp only [opnL, opn1_more (Nat.le_max_left f1 f2) h1]
      exact opnL_more (Nat.le_max_right f1 f2) k1
    · have l1 := opn1_len h1
      have l2 := opnL_len k1
      have e2 := k4 (by omega)
      rw [e2] at hl ⊢
      exact h5 hl
    · rcases List.mem_cons.1 hu with rfl | hu
      · exact h6.mono k3
      · exact k5 u hu
theorem RInv.len {r : Rw} (h : RInv W S U r) : r.l.length ≤ U.length := by
  have := nodup_le (r.l.map txt) U h.nd fun x hx => by
    obtain ⟨t, ht, rfl⟩ := List.mem_map.1 hx
    exact h.un t ht t (subs_self t)
  simpa using this
theorem rounds_all : ∀ (q : Nat) (r : Rw), RInv W S U r → U.length - r.l.length < q → ∃ f g r', rounds W f g r = some r' ∧ RInv W S U r' ∧ (∀ u, u ∈ r.l → u ∈ r'.l) ∧ ∀ t, t ∈ r'.l → Opd W r'.met r' t := by
  intro q
  induction q with
  | zero => intro r _ h; omega
  | succ q ih =>
    intro r hr hq
    obtain ⟨f1, m1, r1, h1, h2, h3, h4, h5⟩ := opnL_all hr r.l [] r (fun t _ => .inl rfl) hr (fun t ht => ht)
    by_cases e : r1.l.length = r.l.length
    · have e1 := h4 e
      subst e1
      refine ⟨f1, 1, r1, by simp [rounds, h1], hr, fun u hu => hu, h5⟩
    · have l1 := opnL_len h1
      have l2 := h2.len
      obtain ⟨f2, g2, r2, k1, k2, k3, k4⟩ := ih r1 h2 (by omega)
      refine ⟨max f1 f2, g2 + 1, r2, ?_, k2, fun u hu => k3 u (h3 u hu), k4⟩
      simp only [rounds, opnL_more (Nat.le_max_left f1 f2) h1, if_neg e]
      exact rounds_more (Nat.le_max_right f1 f2) (Nat.le_refl _) k1
/-- all that comes is built -/
theorem Der.bt {r : Rw} (hr : RInv W S U r) (hc : ∀ t, t ∈ r.l → Opd W r.met r t) (hS : ∀ t, S t → Ok t ∧ Met r t) {t : Tm} (h : Der W S t) : Bt W r.met t := by
  have hok : ∀ {t : Tm}, Der W S t → Ok t := fun h => h.ok fun t ht => (hS t ht).1
  have bmet : ∀ {t : Tm}, Met r t → Bt W r.met t := fun h => .kn (hr.pos.2 h)
  induction h with
  | kn h => exact bmet (hS _ h).2
  | way _ hl _ ih => exact .way hl ih
  | @fst n a b hd ih =>
    have ho := hok hd
    cases ih with
    | kn h0 =>
      obtain ⟨q, h1, h2⟩ := hr.pos.1 h0
      have hqo := hr.ok q h1
      have hal := alike hqo ho h2
      cases q with
      | mk k' n' ks' =>
        obtain ⟨e1, _, e3⟩ := hal
        simp only [Tm.kind, Tm.kids] at e1 e3
        subst e1
        obtain ⟨a', b', rfl, ha', hb'⟩ := hqo.two' (by decide) (by decide) (by decide)
        have e3 := e3 (by decide)
        rw [ord_ne (by decide), ord_ne (by decide)] at e3
        simp at e3
        exact (bmet ((hc _ h1).1 n' a' b' rfl).1).congr ha' (ho.kid (by simp)) e3.1
    | way hl hu => simp [ways] at hl; subst hl; exact hu a (by simp)
  | @snd n a b hd ih =>
    have ho := hok hd
    cases ih with
    | kn h0 =>
      obtain ⟨q, h1, h2⟩ := hr.pos.1 h0
      have hqo := hr.ok q h1
      have hal := alike hqo ho h2
      cases q with
      | mk k' n' ks' =>
        obtain ⟨e1, _, e3⟩ := hal
        simp only [Tm.kind, Tm.kids] at e1 e3
        subst e1
        obtain ⟨a', b', rfl, ha', hb'⟩ := hqo.two' (by decide) (by decide) (by decide)
        have e3 := e3 (by decide)
        rw [ord_ne (by decide), ord_ne (by decide)] at e3
        simp at e3
        exact (bmet ((hc _ h1).1 n' a' b' rfl).2).congr hb' (ho.kid (by simp)) e3.2
    | way hl hu => simp [ways] at hl; subst hl; exact hu b (by simp)
  | @sig n a b hd ih =>
    have ho := hok hd
    cases ih with
    | kn h0 =>
      obtain ⟨q, h1, h2⟩ := hr.pos.1 h0
      have hqo := hr.ok q h1
      have hal := alike hqo ho h2
      cases q with
      | mk k' n' ks' =>
        obtain ⟨e1, _, e3⟩ := hal
        simp only [Tm.kind, Tm.kids] at e1 e3
        subst e1
        obtain ⟨a', b', rfl, ha', hb'⟩ := hqo.two' (by decide) (by decide) (by decide)
        have e3 := e3 (by decide)
        rw [ord_ne (by decide), ord_ne (by decide)] at e3
        simp at e3
        exact (bmet ((hc _ h1).2.1 n' a' b' rfl)).congr hb' (ho.kid (by simp)) e3.2
    | way hl hu => simp [ways] at hl; subst hl; exact hu b (by simp)
  | @dec n a b hd hda ih iha =>
    have ho := hok hd
    cases ih with
    | kn h0 =>
      obtain ⟨q, h1, h2⟩ := hr.pos.1 h0
      have hqo := hr.ok q h1
      have hal := alike hqo ho h2
      cases q with
      | mk k' n' ks' =>
        obtain ⟨e1, _, e3⟩ := hal
        simp only [Tm.kind, Tm.kids] at e1 e3
        subst e1
        obtain ⟨a', b', rfl, ha', hb'⟩ := hqo.two' (by decide) (by decide) (by decide)
        have e3 := e3 (by decide)
        rw [ord_ne (by decide), ord_ne (by decide)] at e3
        simp at e3
        exact (bmet ((hc _ h1).2.2 n' a' b' rfl (iha.congr (hok hda) ha' e3.1.symm))).congr hb' (ho.kid (by simp)) e3.2
    | way hl hu => simp [ways] at hl; subst hl; exact hu b (by simp)
  | eqv hd ho he ih => exact ih.congr (hok hd) ho he
end
mutual
theorem shaped_ok : (t : Tm) → (d : Nat) → shaped t d = true → Ok t ∧ Ok (nrm t)
  | .mk k n ks, d, h => by
    simp only [shaped, Bool.and_eq_true, decide_eq_true_eq] at h
    obtain ⟨⟨h1, _, h2, h3⟩, h4⟩ := h
    obtain ⟨h5, h6, h7⟩ := shapedL_ok ks (d + 1) h4
    refine ⟨.mk h1 h2 h3 h5, ?_⟩
    simp only [nrm]
    refine .mk ?_ (by rw [h7]; exact h2) (by rw [h7]; exact h3) h6
    by_cases hk : k = 1
    · rw [if_pos hk]; exact h1
    · rw [if_neg hk]
      simp only [named, Bool.and_eq_true, Bool.or_eq_true, decide_eq_true_eq, Bool.not_eq_true', decide_eq_false_iff_not] at h1 ⊢
      omega
theorem shapedL_ok : (ks : List Tm) → (d : Nat) → shapedL ks d = true → (∀ t, t ∈ ks → Ok t) ∧ (∀ t, t ∈ nrmL ks → Ok t) ∧ (nrmL ks).length = ks.length
  | [], _, _ => by simp [nrmL]
  | k :: ks, d, h => by
    simp only [shapedL, Bool.and_eq_true] at h
    obtain ⟨h1, h2⟩ := shaped_ok k d h.1
    obtain ⟨h3, h4, h5⟩ := shapedL_ok ks d h.2
    refine ⟨?_, ?_, by simp [nrmL, h5]⟩
    · intro t ht
      rcases List.mem_cons.1 ht with rfl | ht
      · exact h1
      · exact h3 t ht
    · intro t ht
      simp only [nrmL] at ht
      rcases List.mem_cons.1 ht with rfl | ht
      · exact h2
      · exact h4 t ht
end
theorem may_ok {t : Tm} (h : may t = true) : Ok (nrm t) := by
  simp only [may, Bool.and_eq_true] at h
  exact (shaped_ok t 0 h.2).2
/-- what is known at first -/
def Kn (known : List Tm) (u : Tm) : Prop := ∃ v, v ∈ known ∧ may v = true ∧ u = nrm v
def univ (known : List Tm) : List Tx := ((known.filter may).flatMap fun v => subs (nrm v)).map txt
theorem first_all {W : Wd} {known : List Tm} : ∀ (ts : List Tm) (r : Rw), (∀ t, t ∈ ts → t ∈ known) → RInv W (Kn known) (univ known) r → RInv W (Kn known) (univ known) (firstL ts r) ∧ (∀ u, u ∈ r.l → u ∈ (firstL ts r).l) ∧ ∀ v, v ∈ ts → may v = true → Met (firstL ts r) (nrm v)
  | [], r, _, hr => ⟨hr, fun u hu => hu, by simp⟩
  | t :: ts, r, hk, hr => by
    simp only [firstL]
    cases hm : may t with
    | false =>
      rw [if_neg (by simp)]
      obtain ⟨h1, h2, h3⟩ := first_all ts r (fun u hu => hk u (by simp [hu])) hr
      refine ⟨h1, h2, fun v hv hmv => ?_⟩
      rcases List.mem_cons.1 hv with rfl | hv
      · rw [hm] at hmv; simp at hmv
      · exact h3 v hv hmv
    | true =>
      rw [if_pos rfl]
      have hr1 := hr.add (may_ok hm) (.kn ⟨t, hk t (by simp), hm, rfl⟩) (fun u hu => by
        unfold univ
        refine List.mem_map_of_mem (List.mem_flatMap.2 ⟨t, List.mem_filter.2 ⟨hk t (by simp), hm⟩, hu⟩))
      obtain ⟨h1, h2, h3⟩ := first_all ts (r.add (nrm t)) (fun u hu => hk u (by simp [hu])) hr1
      refine ⟨h1, fun u hu => h2 u (add_sub _ _ u hu), fun v hv hmv => ?_⟩
      rcases List.mem_cons.1 hv with rfl | hv
      · exact (add_met hr _).mono h2
      · exact h3 v hv hmv
/-- opening ends; what it gives is closed -/
theorem opens_all (W : Wd) (known : List Tm) : ∃ f g r, opens W f g known = some r ∧ RInv W (Kn known) (univ known) r ∧ (∀ t, Der W (Kn known) t → Bt W r.met t) ∧ (∀ v, v ∈ known → may v = true → Met r (nrm v)) := by
  have h0 : RInv W (Kn known) (univ known) ⟨[], []⟩ := ⟨by simp, by simp, fun x => .inl ⟨rfl, by simp⟩, by simp, by simp⟩
  obtain ⟨h1, _, h3⟩ := first_all known ⟨[], []⟩ (fun t ht => ht) h0
  obtain ⟨f, g, r, k1, k2, k3, k4⟩ := rounds_all ((univ known).length + 1) _ h1 (by omega)
  have hm : ∀ v, v ∈ known → may v = true → Met r (nrm v) := fun v hv hmv => (h3 v hv hmv).mono k3
  refine ⟨f, g, r, k1, k2, fun t ht => ht.bt k2 k4 fun u hu => ?_, hm⟩
  obtain ⟨v, hv, hmv, rfl⟩ := hu
  exact ⟨may_ok hmv, hm v hv hmv⟩
/-- what is told of what is known -/
theorem knows_all (W : Wd) (known : List Tm) (t : Tm) : ∃ f g b, knows W f g known t = some b ∧ (b = true ↔ may t = true ∧ Der W (Kn known) (nrm t)) ∧ ∀ r, opens W f g known = some r → r.l.length ≤ (univ known).length := by
  obtain ⟨f, g, r, h1, h2, h3, _⟩ := opens_all W known
  cases hm : may t with
  | false =>
    refine ⟨f, g, false, by simp [knows, hm], by simp, fun r' h' => ?_⟩
    rw [h1] at h'; cases h'; exact h2.len
  | true =>
    obtain ⟨f2, b, m', k1, k2, _⟩ := bl_all (W := W) (met := r.met) (m := []) (fun t _ => .inl rfl) (l := [nrm t]) (by simpa using may_ok hm)
    have k2' : b = true ↔ Bt W r.met (nrm t) := by simpa using k2
    have ho : opens W (max f f2) g known = some r := rounds_more (Nat.le_max_left f f2) (Nat.le_refl _) h1
    refine ⟨max f f2, g, b, ?_, ?_, fun r' h' => ?_⟩
    · simp only [knows, hm, if_true, ho, bl_more (Nat.le_max_right f f2) k1, Option.map_some]
    · rw [k2']
      exact ⟨fun h => ⟨rfl, h.der h2 (may_ok hm)⟩, fun h => h3 _ h.2⟩
    · rw [ho] at h'; cases h'; exact h2.len
end Go.Mi.Term
