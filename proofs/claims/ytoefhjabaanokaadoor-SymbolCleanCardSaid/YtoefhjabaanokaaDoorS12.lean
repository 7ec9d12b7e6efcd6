/- The reference's closing: its building and its opening tell what the program's tell. Plain laws. -/
import Derived.Test.YtoefhjabaanokaaDoorH39
set_option linter.unusedSimpArgs false
set_option linter.unusedVariables false
set_option linter.unnecessarySimpa false
namespace Go.Mi.Term
def rbk (W : Wd) (l : List Tm) (k : Int) (ks : List Tm) (bs : List Bool) : Bool :=
 if k = 1 then false else
 if k = 3 then (match ks, bs with
  | [a, b], [ka, kb] => ((kb || ci l (bB b)) && ka) || ((ka || ci l (bB a)) && kb) || (W.dh && (ka || ci l (bB a)) && (kb || ci l (bB b)))
  | _, _ => false) else
 if k = 4 then (match ks, bs with
  | [a, m], [ka, km] => (km && (ka || ci l (bB a))) || (((km && (ka || ci l (bB a))) || ci l (two 5 a m)) && ka) || (W.kem && ((km && (ka || ci l (bB a))) || ci l (two 5 a m)))
  | _, _ => false) else
 if k = 5 then (match ks, bs with
  | [a, _], [ka, km] => km && (ci l (bB a) || ka)
  | _, _ => false) else bs.all id
mutual
def rb (W : Wd) (l : List Tm) : Tm → Bool
 | .mk k n ks => ci l (.mk k n ks) || rbk W l k ks (rbL W l ks)
def rbL (W : Wd) (l : List Tm) : List Tm → List Bool
 | [] => []
 | t :: ts => rb W l t :: rbL W l ts
end
theorem rX (W : Wd) (l : List Tm) (ks : List Tm) : rbL W l ks = ks.map (rb W l) := by
 induction ks with
 | nil => rfl
 | cons k ks ih => simp [rbL, ih]
theorem pM (W : Wd) (l : List Tm) (k n : Int) (ks : List Tm) : rb W l (.mk k n ks) = (ci l (.mk k n ks) || rbk W l k ks (ks.map (rb W l))) := by rw [rb, rX]
theorem nK {W : Wd} {met : bX} {t : Tm} : Bt W met t ↔ 0 < tl met (txt t) ∨ ∃ l, l ∈ cr W t ∧ ∀ u, u ∈ l → Bt W met u := by
 constructor
 ·intro h
  cases h with
  | kn h => exact .inl h
  | way h1 h2 => exact .inr ⟨_, h1, h2⟩
 ·rintro (h | ⟨l, h1, h2⟩)
  ·exact .kn h
  ·exact .way h1 h2
section
variable {W : Wd} {met : bX} {l : List Tm}
theorem s_ (hm : ∀ u, Ok u → (0 < tl met (txt u) ↔ ci l u = true)) (t : Tm) : Ok t → (rb W l t = true ↔ Bt W met t) := by
 refine Tm.ind (p := fun t => Ok t → (rb W l t = true ↔ Bt W met t)) ?_ t
 intro k n ks ih ho
 have d := hm _ ho
 have c : ∀ {a : Tm}, Ok a → (Bt W met (bB a) ↔ ci l (bB a) = true ∨ Bt W met a) := fun {a} ha => by
  rw [nK, hm _ (eA ha)]
  simp [bB, cr]
 rw [pM, nK, d, Bool.or_eq_true]
 by_cases h1 : k = 1
 ·subst h1
  simp [rbk, cr]
 by_cases h3 : k = 3
 ·subst h3
  obtain ⟨a, b, rfl, ha, hb⟩ := ho.two' (by decide) (by decide) (by decide)
  have ia := ih a (by simp) ha
  have ib := ih b (by simp) hb
  have pa := c ha
  have pb := c hb
  refine or_congr_right ?_
  simp only [rbk, cr, List.map_cons, List.map_nil]
  generalize hka : rb W l a = ka at ia
  generalize hkb : rb W l b = kb at ib
  cases hd : W.dh <;> simp [← ia, ← ib, pa, pb] <;> cases ka <;> cases kb <;> simp
 by_cases h4 : k = 4
 ·subst h4
  obtain ⟨a, b, rfl, ha, hb⟩ := ho.two' (by decide) (by decide) (by decide)
  have ia := ih a (by simp) ha
  have ib := ih b (by simp) hb
  have pa := c ha
  have pc : Bt W met (.mk 5 0 [a, b]) ↔ ci l (two 5 a b) = true ∨ (Bt W met b ∧ Bt W met (bB a)) := by
   rw [nK, hm _ (gc (by decide) ha hb)]
   simp [cr, two]
  refine or_congr_right ?_
  simp only [rbk, cr, List.map_cons, List.map_nil]
  generalize hka : rb W l a = ka at ia
  generalize hkb : rb W l b = kb at ib
  cases hd : W.kem <;> simp [← ia, ← ib, pa, pc] <;> cases ka <;> cases kb <;> simp <;> cases ci l (bB a) <;> simp
 by_cases h5 : k = 5
 ·subst h5
  obtain ⟨a, b, rfl, ha, hb⟩ := ho.two' (by decide) (by decide) (by decide)
  have ia := ih a (by simp) ha
  have ib := ih b (by simp) hb
  have pa := c ha
  refine or_congr_right ?_
  simp [rbk, cr, ← ia, ← ib, pa]
 ·refine or_congr_right ?_
  simp only [rbk, cr, if_neg h1, if_neg h3, if_neg h4, if_neg h5]
  simp only [List.all_eq_true, List.mem_map, List.mem_singleton, exists_eq_left, id_eq]
  constructor
  ·exact fun h u hu => (ih u hu (ho.kid hu)).1 (h _ ⟨u, hu, rfl⟩)
  ·rintro h _ ⟨u, hu, rfl⟩
   exact (ih u hu (ho.kid hu)).2 (h u hu)
end
def gK (l : List Tm) (t : Tm) : List Tm := if ci l t then l else l ++ [t]
def come (W : Wd) (old : List Tm) : Tm → List Tm
 | .mk k _ ks => match ks with
  | [a, b] => if k = 9 then [a, b] else if k = 8 then [b] else if k = 7 then (if rb W old a then [b] else []) else []
  | _ => []
def lZ (W : Wd) (old l : List Tm) (t : Tm) : List Tm := (come W old t).foldl gK l
def cv (W : Wd) (old ts l : List Tm) : List Tm := ts.foldl (lZ W old) l
def dA (W : Wd) : Nat → List Tm → Option (List Tm)
 | 0, _ => none
 | g + 1, l => if (cv W l l l).length = l.length then some (cv W l l l) else dA W g (cv W l l l)
def tU (l : List Tm) : List Tm := l.foldl gK []
structure LInv (U : List Tx) (l : List Tm) : Prop where
 ok : ∀ t, t ∈ l → Ok t
 nd : (l.map txt).Nodup
 un : ∀ t, t ∈ l → ∀ u, u ∈ fX t → txt u ∈ U
theorem LInv.nil {U : List Tx} : LInv U [] := ⟨by simp, by simp, by simp⟩
theorem LInv.len {U : List Tx} {l : List Tm} (h : LInv U l) : l.length ≤ U.length := by
 have := jC (l.map txt) U h.nd fun x hx => by
  obtain ⟨t, ht, rfl⟩ := List.mem_map.1 hx
  exact h.un t ht t (j8 t)
 simpa using this
theorem sD {l : List Tm} {t : Tm} (h : ¬ ci l t = true) {q : Tm} (hq : q ∈ l) : txt q ≠ txt t := fun e => h (List.any_eq_true.2 ⟨q, hq, decide_eq_true e⟩)
theorem LInv.add {U : List Tx} {l : List Tm} (h : LInv U l) {t : Tm} (ho : Ok t) (hu : ∀ u, u ∈ fX t → txt u ∈ U) : LInv U (gK l t) := by
 unfold gK
 split
 ·exact h
 ·rename_i hn
  refine ⟨fun q hq => ?_, ?_, fun q hq => ?_⟩
  ·simp at hq; rcases hq with hq | rfl; exact h.ok q hq; exact ho
  ·simp only [List.map_append, List.map_cons, List.map_nil]
   refine List.nodup_append.2 ⟨h.nd, by simp, fun x hx y hy => ?_⟩
   obtain rfl := List.mem_singleton.1 hy
   obtain ⟨q, hq, rfl⟩ := List.mem_map.1 hx
   exact sD hn hq
  ·simp at hq; rcases hq with hq | rfl; exact h.un q hq; exact hu
theorem LInv.adds {U : List Tx} : ∀ {ts l : List Tm}, LInv U l → (∀ t, t ∈ ts → Ok t ∧ ∀ u, u ∈ fX t → txt u ∈ U) → LInv U (ts.foldl gK l)
 | [], _, h, _ => h
 | t :: ts, l, h, hk => (h.add (hk t (by simp)).1 (hk t (by simp)).2).adds fun u hu => hk u (by simp [hu])
theorem qZ {W : Wd} {old : List Tm} {k n : Int} {ks : List Tm} {u : Tm} (h : u ∈ come W old (.mk k n ks)) : u ∈ ks := by
 simp only [come] at h
 split at h
 ·split at h
  ·exact h
  ·split at h
   ·simp at h; simp [h]
   ·split at h
    ·split at h <;> simp at h
     simp [h]
    ·simp at h
 ·simp at h
theorem LInv.come {U : List Tx} {W : Wd} {old old' : List Tm} (h : LInv U old) {t : Tm} (ht : t ∈ old) {u : Tm} (hu : u ∈ come W old' t) : Ok u ∧ ∀ x, x ∈ fX u → txt x ∈ U := by
 obtain ⟨k, n, ks⟩ := t
 have := qZ hu
 exact ⟨(h.ok _ ht).kid this, fun x hx => h.un _ ht x (fH this hx)⟩
theorem LInv.opn {U : List Tx} {W : Wd} {old old' l : List Tm} (h : LInv U old) (hl : LInv U l) {t : Tm} (ht : t ∈ old) : LInv U (lZ W old' l t) := hl.adds fun _ hu => h.come ht hu
theorem LInv.opns {U : List Tx} {W : Wd} {old old' : List Tm} (h : LInv U old) : ∀ {ts l : List Tm}, LInv U l → (∀ t, t ∈ ts → t ∈ old) → LInv U (cv W old' ts l)
 | [], _, hl, _ => hl
 | t :: ts, l, hl, hk => h.opns (ts := ts) (h.opn hl (hk t (by simp))) fun u hu => hk u (by simp [hu])
section
variable {W : Wd} {S : Tm → Prop} {U : List Tx}
theorem RInv.has {r : Rw} (h : RInv W S U r) (u : Tm) : 0 < tl r.met (txt u) ↔ ci r.l u = true := by
 rw [h.pos]
 unfold Met ci ei
 simp [List.any_eq_true]
theorem ie {r : Rw} (h : RInv W S U r) (t : Tm) : (r.add t).l = gK r.l t := by
 have hh := h.has t
 unfold Rw.add gK
 rcases h.met (txt t) with ⟨h1, h2⟩ | ⟨h1, h2⟩
 ·rw [if_pos h1, if_neg (by rw [← hh]; omega)]
 ·rw [if_neg (by omega), if_pos (hh.1 h1)]
theorem qg {r0 r : Rw} {m m' : bX} {r' : Rw} {f : Nat} (h0 : RInv W S U r0) (hm : j0 W r0.met m) (hr : RInv W S U r) {t : Tm} (ht : t ∈ r0.l) (h : opn1 W r0.met f t m r = some (m', r')) : r'.l = lZ W r0.l r.l t := by
 have c := h0.ok t ht
 have g := h0.der t ht
 have i := h0.un t ht
 cases t with
 | mk k n ks =>
  by_cases h9 : k = 9
  ·subst h9
   obtain ⟨a, b, rfl, ha, hb⟩ := c.two' (by decide) (by decide) (by decide)
   have j := hr.add ha (.fst g) (fun u hu => i u (fH (by simp) hu))
   simp [opn1] at h
   obtain ⟨_, rfl⟩ := h
   rw [ie j, ie hr]
   simp [lZ, come]
  by_cases h8 : k = 8
  ·subst h8
   obtain ⟨a, b, rfl, ha, hb⟩ := c.two' (by decide) (by decide) (by decide)
   simp [opn1] at h
   obtain ⟨_, rfl⟩ := h
   rw [ie hr]
   simp [lZ, come]
  by_cases h7 : k = 7
  ·subst h7
   obtain ⟨a, b, rfl, ha, hb⟩ := c.two' (by decide) (by decide) (by decide)
   obtain ⟨f', q, m1, h1, h2, h3⟩ := nL hm (l := [a]) (by simpa using ha)
   have d : q = true ↔ rb W r0.l a = true := by rw [s_ (fun u _ => h0.has u) a ha]; simpa using h2
   have e := hZ (Nat.le_max_left f' f) h1
   have h := fL (Nat.le_max_right f' f) h
   simp only [opn1, e] at h
   cases q with
   | true =>
    simp at h
    obtain ⟨_, rfl⟩ := h
    rw [ie hr]
    simp [lZ, come, d.1 rfl]
   | false =>
    simp at h
    obtain ⟨_, rfl⟩ := h
    have : rb W r0.l a = false := Bool.eq_false_iff.2 fun hb => absurd (d.2 hb) (by simp)
    simp [lZ, come, this]
  ·simp [opn1, h9, h8, h7] at h
   obtain ⟨_, rfl⟩ := h
   have : come W r0.l (.mk k n ks) = [] := by simp only [come]; split <;> simp [h9, h8, h7]
   simp [lZ, this]
theorem mc {r0 : Rw} (h0 : RInv W S U r0) : ∀ (ts : List Tm) (m : bX) (r : Rw) (f : Nat) (p : bX × Rw), j0 W r0.met m → RInv W S U r → (∀ t, t ∈ ts → t ∈ r0.l) → opnL W r0.met f ts m r = some p → p.2.l = cv W r0.l ts r.l ∧ RInv W S U p.2
 | [], m, r, f, p, _, hr, _, h => by simp [opnL] at h; subst h; exact ⟨rfl, hr⟩
 | t :: ts, m, r, f, (m', r'), hm, hr, ht, h => by
  obtain ⟨m1, r1, h1, h2⟩ := fK h
  obtain ⟨f2, m2, r2, k1, k2, k3, _⟩ := mg h0 hm hr (ht t (by simp))
  have e1 := fL (Nat.le_max_left f f2) h1
  rw [fL (Nat.le_max_right f f2) k1] at e1
  simp only [Option.some.injEq, Prod.mk.injEq] at e1
  obtain ⟨rfl, rfl⟩ := e1
  have e2 := qg h0 hm hr (ht t (by simp)) h1
  obtain ⟨h3, h4⟩ := mc h0 ts m2 r2 f (m', r') k2 k3 (fun u hu => ht u (by simp [hu])) h2
  exact ⟨by rw [h3, e2]; rfl, h4⟩
theorem jt {f : Nat} : ∀ (g : Nat) (r r' : Rw), RInv W S U r → du W f g r = some r' → dA W g r.l = some r'.l ∧ RInv W S U r'
 | 0, r, r', _, h => by simp [du] at h
 | g + 1, r, r', hr, h => by
  simp only [du] at h
  split at h
  ·cases h
  ·rename_i m1 r1 h1
   obtain ⟨h2, h3⟩ := mc hr r.l [] r f (m1, r1) (fun t _ => .inl rfl) hr (fun t ht => ht) h1
   dsimp only at h2 h3
   simp only [dA, ← h2]
   split at h
   ·rename_i e
    cases h
    rw [if_pos e]
    exact ⟨rfl, h3⟩
   ·rename_i e
    rw [if_neg e]
    exact jt g r1 r' h3 h
theorem kp {known : List Tm} : ∀ (ts : List Tm) (r : Rw), (∀ t, t ∈ ts → t ∈ known ∧ may t = true ∧ nrm t = t) → RInv W (Kn known) (fF known) r → (cQ ts r).l = ts.foldl gK r.l
 | [], _, _, _ => rfl
 | t :: ts, r, hk, hr => by
  obtain ⟨h1, hm, hn⟩ := hk t (by simp)
  have hr1 := hr.add (ge hm) (.kn ⟨t, h1, hm, rfl⟩) (fun u hu => by
    unfold fF
    refine List.mem_map_of_mem (List.mem_flatMap.2 ⟨t, List.mem_filter.2 ⟨h1, hm⟩, hu⟩))
  simp only [cQ, hm, if_true]
  rw [kp ts (r.add (nrm t)) (fun u hu => hk u (by simp [hu])) hr1, ie hr, hn]
  rfl
end
theorem m5 (W : Wd) (known : List Tm) (hk : ∀ t, t ∈ known → may t = true ∧ nrm t = t) : ∃ g lf, dA W g (tU known) = some lf ∧ (∀ t, t ∈ lf → Ok t) ∧ lf.length ≤ (fF known).length ∧ ∀ t, may t = true → nrm t = t → (rb W lf t = true ↔ Der W (Kn known) t) := by
 have h0 : RInv W (Kn known) (fF known) ⟨[], []⟩ := ⟨by simp, by simp, fun x => .inl ⟨rfl, by simp⟩, by simp, by simp⟩
 obtain ⟨h1, _, _⟩ := gp known ⟨[], []⟩ (fun t ht => ht) h0
 obtain ⟨f, g, r, k1, k2, k3, _⟩ := kf W known
 have e := kp known ⟨[], []⟩ (fun t ht => ⟨ht, hk t ht⟩) h0
 obtain ⟨k5, _⟩ := jt g _ r h1 k1
 rw [e] at k5
 refine ⟨g, r.l, k5, k2.ok, k2.len, fun t hm hn => ?_⟩
 have ho : Ok t := hn ▸ ge hm
 rw [s_ (fun u _ => k2.has u) t ho]
 exact ⟨fun h => h.der k2 ho, k3 t⟩
theorem o_ {known : List Tm} (hk : ∀ t, t ∈ known → may t = true ∧ nrm t = t) : ∀ i, LInv (fF known) ((known.take i).foldl gK []) := fun i =>
 LInv.nil.adds fun t ht => by
  have ht := List.mem_of_mem_take ht
  obtain ⟨hm, hn⟩ := hk t ht
  refine ⟨hn ▸ ge hm, fun u hu => ?_⟩
  unfold fF
  exact List.mem_map_of_mem (List.mem_flatMap.2 ⟨t, List.mem_filter.2 ⟨ht, hm⟩, by rw [hn]; exact hu⟩)
end Go.Mi.Term
