/- General lemmas, walks. -/
import Derived.Test.YtmkplecnmklbfaaJ4
set_option linter.unusedSimpArgs false
set_option linter.unusedVariables false
set_option linter.unnecessarySimpa false
namespace Go.Mi.Ke
abbrev Ln := BitVec 64
abbrev St := Nat → Ln
def rot (a : Ln) (n : Nat) : Ln := a.rotateLeft n
/-- alike in 25 places -/
def Eq25 (a b : St) : Prop := ∀ i, i < 25 → a i = b i
theorem bit_rot (a : Ln) (n i : Nat) (hi : i < 64) : (rot a n).getLsbD i = a.getLsbD ((i + (64 - n % 64)) % 64) := by
  unfold rot
  simp only [BitVec.getLsbD_rotateLeft]
  have hn : n % 64 < 64 := Nat.mod_lt _ (by decide)
  by_cases h : i < n % 64
  · rw [decide_eq_true h, cond_true]
    congr 1
    omega
  · rw [decide_eq_false h, cond_false, decide_eq_true hi, Bool.true_and]
    congr 1
    omega
theorem rot_inj {a b : Ln} {n : Nat} (h : rot a n = rot b n) : a = b := by
  apply BitVec.eq_of_getLsbD_eq
  intro i hi
  have hn : n % 64 < 64 := Nat.mod_lt _ (by decide)
  have h1 := bit_rot a n ((i + n % 64) % 64) (Nat.mod_lt _ (by decide))
  have h2 := bit_rot b n ((i + n % 64) % 64) (Nat.mod_lt _ (by decide))
  rw [h, h2] at h1
  rw [show ((i + n % 64) % 64 + (64 - n % 64)) % 64 = i by omega] at h1
  exact h1.symm
/-! ### theta -/
def par (a : St) (x : Nat) : Ln := a (x % 5) ^^^ a (x % 5 + 5) ^^^ a (x % 5 + 10) ^^^ a (x % 5 + 15) ^^^ a (x % 5 + 20)
def dif (a : St) (x : Nat) : Ln := par a (x + 4) ^^^ rot (par a (x + 1)) 1
def theta (a : St) : St := fun i => a i ^^^ dif a i
theorem par_mod (a : St) (x : Nat) : par a (x % 5) = par a x := by unfold par; rw [Nat.mod_mod]
theorem dif_mod (a : St) (x k : Nat) : dif a (x + 5 * k) = dif a x := by
  unfold dif par
  rw [show (x + 5 * k + 4) % 5 = (x + 4) % 5 by omega, show (x + 5 * k + 1) % 5 = (x + 1) % 5 by omega]
theorem xor5 (a b c d e u : Ln) : (a ^^^ u) ^^^ (b ^^^ u) ^^^ (c ^^^ u) ^^^ (d ^^^ u) ^^^ (e ^^^ u) = (a ^^^ b ^^^ c ^^^ d ^^^ e) ^^^ u := by
  apply BitVec.eq_of_getLsbD_eq
  intro i _
  simp only [BitVec.getLsbD_xor]
  generalize a.getLsbD i = a
  generalize b.getLsbD i = b
  generalize c.getLsbD i = c
  generalize d.getLsbD i = d
  generalize e.getLsbD i = e
  generalize u.getLsbD i = u
  revert a b c d e u
  decide
theorem par_theta (a : St) (x : Nat) : par (theta a) x = par a x ^^^ dif a x := by
  have h : ∀ k, theta a (x % 5 + 5 * k) = a (x % 5 + 5 * k) ^^^ dif a x := fun k => by
    unfold theta
    rw [dif_mod, ← dif_mod a (x % 5) (x / 5), show x % 5 + 5 * (x / 5) = x by omega]
  have h0 := h 0
  have h1 := h 1
  have h2 := h 2
  have h3 := h 3
  have h4 := h 4
  simp only [Nat.mul_zero, Nat.add_zero, Nat.reduceMul] at h0 h1 h2 h3 h4
  unfold par
  rw [h0, h1, h2, h3, h4]
  exact xor5 ..
/-- what is its own difference is nothing -/
theorem none_of {r : Nat → Nat → Bool} (p5 : ∀ x z, r (x + 5) z = r x z) (p64 : ∀ x z, r x (z + 64) = r x z) (h : ∀ x z, r x z = (r (x + 4) z ^^ r (x + 1) (z + 63))) (x z : Nat) : r x z = false := by
  have q5 : ∀ k x z, r (x + 5 * k) z = r x z := by
    intro k
    induction k with
    | zero => intro x z; rfl
    | succ k ih => intro x z; rw [show x + 5 * (k + 1) = (x + 5 * k) + 5 by omega, p5, ih]
  have q64 : ∀ k x z, r x (z + 64 * k) = r x z := by
    intro k
    induction k with
    | zero => intro x z; rfl
    | succ k ih => intro x z; rw [show z + 64 * (k + 1) = (z + 64 * k) + 64 by omega, p64, ih]
  have dbl : ∀ m, (∀ x z, r x z = (r (x + 4 * m) z ^^ r (x + m) (z + 63 * m))) → ∀ x z, r x z = (r (x + 4 * (2 * m)) z ^^ r (x + 2 * m) (z + 63 * (2 * m))) := by
    intro m hm x z
    have e1 := hm (x + 4 * m) z
    have e2 := hm (x + m) (z + 63 * m)
    rw [hm x z, e1, e2]
    rw [show x + 4 * m + 4 * m = x + 4 * (2 * m) by omega, show x + 4 * m + m = x + 5 * m by omega, show x + m + 4 * m = x + 5 * m by omega, show x + m + m = x + 2 * m by omega, show z + 63 * m + 63 * m = z + 63 * (2 * m) by omega]
    cases r (x + 4 * (2 * m)) z <;> cases r (x + 5 * m) (z + 63 * m) <;> cases r (x + 2 * m) (z + 63 * (2 * m)) <;> rfl
  have h64 := dbl 32 (dbl 16 (dbl 8 (dbl 4 (dbl 2 (dbl 1 (by simpa using h))))))
  have key : ∀ x, r x z = (r (x + 1) z ^^ r (x + 4) z) := by
    intro x
    have := h64 x z
    rw [show x + 4 * (2 * 32) = (x + 1) + 5 * 51 by omega, show x + 2 * 32 = (x + 4) + 5 * 12 by omega, show z + 63 * (2 * 32) = z + 64 * 63 by omega, q5, q5, q64] at this
    exact this
  have k0 := key x
  have k1 := key (x + 1)
  have k2 := key (x + 2)
  have k3 := key (x + 3)
  have k4 := key (x + 4)
  rw [show x + 1 + 4 = x + 5 by omega, p5] at k1
  rw [show x + 2 + 4 = (x + 1) + 5 by omega, p5] at k2
  rw [show x + 3 + 4 = (x + 2) + 5 by omega, p5] at k3
  rw [show x + 4 + 1 = x + 5 by omega, show x + 4 + 4 = (x + 3) + 5 by omega, p5, p5] at k4
  simp only [Nat.add_assoc, Nat.reduceAdd] at k0 k1 k2 k3 k4
  revert k0 k1 k2 k3 k4
  cases r x z <;> cases r (x + 1) z <;> cases r (x + 2) z <;> cases r (x + 3) z <;> cases r (x + 4) z <;> simp
theorem theta_inj {a b : St} (h : Eq25 (theta a) (theta b)) : Eq25 a b := by
  have hp : ∀ x, par (theta a) x = par (theta b) x := fun x => by
    have hx : x % 5 < 5 := Nat.mod_lt _ (by decide)
    unfold par
    rw [h _ (by omega), h _ (by omega), h _ (by omega), h _ (by omega), h _ (by omega)]
  let r : Nat → Nat → Bool := fun x z => (par a x).getLsbD (z % 64) ^^ (par b x).getLsbD (z % 64)
  have hr : ∀ x z, r x z = false := by
    refine none_of (fun x z => ?_) (fun x z => ?_) (fun x z => ?_)
    · show (_ ^^ _) = (_ ^^ _)
      rw [← par_mod a (x + 5), ← par_mod b (x + 5), show (x + 5) % 5 = x % 5 by omega, par_mod, par_mod]
    · show (_ ^^ _) = (_ ^^ _)
      rw [show (z + 64) % 64 = z % 64 by omega]
    · have e := hp x
      rw [par_theta, par_theta] at e
      have e2 := congrArg (fun u : Ln => u.getLsbD (z % 64)) e
      have hz : z % 64 < 64 := Nat.mod_lt _ (by decide)
      simp only [dif, BitVec.getLsbD_xor, bit_rot _ _ _ hz] at e2
      rw [show (z % 64 + (64 - 1 % 64)) % 64 = (z + 63) % 64 by omega] at e2
      show (_ ^^ _) = ((_ ^^ _) ^^ (_ ^^ _))
      revert e2
      generalize (par a x).getLsbD (z % 64) = q1
      generalize (par b x).getLsbD (z % 64) = q2
      generalize (par a (x + 4)).getLsbD (z % 64) = q3
      generalize (par b (x + 4)).getLsbD (z % 64) = q4
      generalize (par a (x + 1)).getLsbD ((z + 63) % 64) = q5
      generalize (par b (x + 1)).getLsbD ((z + 63) % 64) = q6
      revert q1 q2 q3 q4 q5 q6
      decide
  have hab : ∀ x, par a x = par b x := fun x => by
    apply BitVec.eq_of_getLsbD_eq
    intro i hi
    have := hr x i
    simp only [r] at this
    rw [Nat.mod_eq_of_lt hi] at this
    revert this
    cases (par a x).getLsbD i <;> cases (par b x).getLsbD i <;> simp
  intro i hi
  have e := h i hi
  have ed : dif a i = dif b i := by unfold dif; rw [hab, hab]
  unfold theta at e
  rw [ed] at e
  have := congrArg (· ^^^ dif b i) e
  simpa [BitVec.xor_assoc] using this
/-! ### chi -/
def chi (a : St) : St := fun i => a i ^^^ (~~~ a (i - i % 5 + (i + 1) % 5) &&& a (i - i % 5 + (i + 2) % 5))
theorem chi5 : ∀ a0 a1 a2 a3 a4 b0 b1 b2 b3 b4 : Bool, (a0 ^^ (!a1 && a2)) = (b0 ^^ (!b1 && b2)) → (a1 ^^ (!a2 && a3)) = (b1 ^^ (!b2 && b3)) → (a2 ^^ (!a3 && a4)) = (b2 ^^ (!b3 && b4)) → (a3 ^^ (!a4 && a0)) = (b3 ^^ (!b4 && b0)) → (a4 ^^ (!a0 && a1)) = (b4 ^^ (!b0 && b1)) → a0 = b0 ∧ a1 = b1 ∧ a2 = b2 ∧ a3 = b3 ∧ a4 = b4 := by decide
theorem chi_inj {a b : St} (h : Eq25 (chi a) (chi b)) : Eq25 a b := by
  intro i hi
  apply BitVec.eq_of_getLsbD_eq
  intro z hz
  have hy : i = 5 * (i / 5) + i % 5 := by omega
  have row : ∀ k, k < 5 → chi a (5 * (i / 5) + k) = chi b (5 * (i / 5) + k) := fun k hk => h _ (by omega)
  have at_ : ∀ (a : St) (k : Nat), k < 5 → (chi a (5 * (i / 5) + k)).getLsbD z = ((a (5 * (i / 5) + k)).getLsbD z ^^ (!(a (5 * (i / 5) + (k + 1) % 5)).getLsbD z && (a (5 * (i / 5) + (k + 2) % 5)).getLsbD z)) := by
    intro a k hk
    unfold chi
    rw [show 5 * (i / 5) + k - (5 * (i / 5) + k) % 5 = 5 * (i / 5) by omega, show (5 * (i / 5) + k + 1) % 5 = (k + 1) % 5 by omega, show (5 * (i / 5) + k + 2) % 5 = (k + 2) % 5 by omega]
    simp only [BitVec.getLsbD_xor, BitVec.getLsbD_and, BitVec.getLsbD_not, hz, decide_true, Bool.true_and]
  have e : ∀ k, k < 5 → _ := fun k hk => congrArg (fun u : Ln => u.getLsbD z) (row k hk)
  have e0 := e 0 (by omega)
  have e1 := e 1 (by omega)
  have e2 := e 2 (by omega)
  have e3 := e 3 (by omega)
  have e4 := e 4 (by omega)
  simp only [at_ _ 0 (by omega), at_ _ 1 (by omega), at_ _ 2 (by omega), at_ _ 3 (by omega), at_ _ 4 (by omega), Nat.reduceAdd, Nat.reduceMod] at e0 e1 e2 e3 e4
  obtain ⟨k0, k1, k2, k3, k4⟩ := chi5 _ _ _ _ _ _ _ _ _ _ e0 e1 e2 e3 e4
  have h5 : i % 5 < 5 := Nat.mod_lt _ (by decide)
  rw [hy]
  generalize i % 5 = m at h5
  match m, h5 with
  | 0, _ => exact k0
  | 1, _ => exact k1
  | 2, _ => exact k2
  | 3, _ => exact k3
  | 4, _ => exact k4
/-! ### a round trip -/
theorem pigeon : ∀ (N : Nat) (f : Nat → Nat), (∀ i, i ≤ N → f i < N) → ∃ i j, i < j ∧ j ≤ N ∧ f i = f j
  | 0, f, h => absurd (h 0 (Nat.le_refl _)) (by omega)
  | N + 1, f, h => by
    -- is the last value met ahead?
    by_cases hm : ∃ i, i < N + 1 ∧ f i = f (N + 1)
    · obtain ⟨i, h1, h2⟩ := hm
      exact ⟨i, N + 1, h1, Nat.le_refl _, h2⟩
    · -- else swap it with the greatest
      let g : Nat → Nat := fun i => if f i = N then f (N + 1) else f i
      have hg : ∀ i, i ≤ N → g i < N := by
        intro i hi
        have h1 := h i (by omega)
        have h2 := h (N + 1) (by omega)
        have h3 : f i ≠ f (N + 1) := fun e => hm ⟨i, by omega, e⟩
        show (if f i = N then f (N + 1) else f i) < N
        split <;> omega
      obtain ⟨i, j, h1, h2, h3⟩ := pigeon N g hg
      refine ⟨i, j, h1, by omega, ?_⟩
      have h4 : f i ≠ f (N + 1) := fun e => hm ⟨i, by omega, e⟩
      have h5 : f j ≠ f (N + 1) := fun e => hm ⟨j, by omega, e⟩
      change (if f i = N then f (N + 1) else f i) = (if f j = N then f (N + 1) else f j) at h3
      split at h3 <;> split at h3 <;> omega
/-! ### rho and pi -/
/-- the places, one behind the other -/
def px : Nat → Nat × Nat
  | 0 => (1, 0)
  | t + 1 => ((px t).2, (2 * (px t).1 + 3 * (px t).2) % 5)
def ps (t : Nat) : Nat := (px t).1 + 5 * (px t).2
def rhoN (a : St) : Nat → St
  | 0 => a
  | t + 1 => fun i => if i = ps (t + 1) then rot (a (ps t)) ((t + 1) * (t + 2) / 2) else rhoN a t i
def rho (a : St) : St := rhoN a 24
theorem ps_lt (t : Nat) (h : t ≤ 24) : ps t < 25 := by
  have : ∀ t : Fin 25, ps t.1 < 25 := by decide
  exact this ⟨t, by omega⟩
theorem ps_ne (t u : Nat) (ht : t ≤ 24) (hu : u ≤ 24) (h0 : 0 < t) (h1 : 0 < u) (h : ps t = ps u) : t = u := by
  have : ∀ t u : Fin 25, 0 < t.1 → 0 < u.1 → ps t.1 = ps u.1 → t.1 = u.1 := by decide
  exact this ⟨t, by omega⟩ ⟨u, by omega⟩ h0 h1 h
theorem ps_all (i : Nat) (h : i < 25) : i = 0 ∨ ∃ t, t < 24 ∧ ps t = i := by
  have : ∀ i : Fin 25, i.1 = 0 ∨ ∃ t : Fin 24, ps t.1 = i.1 := by decide
  rcases this ⟨i, h⟩ with h | ⟨t, h⟩
  · exact .inl h
  · exact .inr ⟨t.1, t.2, h⟩
theorem rhoN_at (a : St) : ∀ n, n ≤ 24 → ∀ t, t < n → rhoN a n (ps (t + 1)) = rot (a (ps t)) ((t + 1) * (t + 2) / 2)
  | 0, _, t, h => absurd h (by omega)
  | n + 1, hn, t, h => by
    simp only [rhoN]
    by_cases e : t = n
    · subst e; rw [if_pos rfl]
    · rw [if_neg (fun h' => e (by have := ps_ne _ _ (by omega) (by omega) (by omega) (by omega) h'; omega))]
      exact rhoN_at a n (by omega) t (by omega)
theorem ps_zero (t : Nat) (h : t ≤ 24) : ps t ≠ 0 := by
  have : ∀ t : Fin 25, ps t.1 ≠ 0 := by decide
  exact this ⟨t, by omega⟩
theorem rhoN_zero (a : St) : ∀ n, n ≤ 24 → rhoN a n 0 = a 0
  | 0, _ => rfl
  | n + 1, hn => by
    simp only [rhoN]
    rw [if_neg (fun h => ps_zero (n + 1) hn h.symm)]
    exact rhoN_zero a n (by omega)
theorem rho_inj {a b : St} (h : Eq25 (rho a) (rho b)) : Eq25 a b := by
  intro i hi
  rcases ps_all i hi with rfl | ⟨t, ht, rfl⟩
  · have := h 0 (by omega)
    unfold rho at this
    rwa [rhoN_zero a 24 (Nat.le_refl _), rhoN_zero b 24 (Nat.le_refl _)] at this
  · have := h _ (ps_lt (t + 1) (by omega))
    unfold rho at this
    rw [rhoN_at a 24 (Nat.le_refl _) t ht, rhoN_at b 24 (Nat.le_refl _) t ht] at this
    exact rot_inj this
theorem rhoN_congr {a b : St} (h : Eq25 a b) : ∀ n, n ≤ 24 → Eq25 (rhoN a n) (rhoN b n)
  | 0, _ => h
  | n + 1, hn => fun i hi => by
    simp only [rhoN]
    split
    · rw [h _ (ps_lt n (by omega))]
    · exact rhoN_congr h n (by omega) i hi
/-! ### a round, and all of them -/
def iota (c : Ln) (a : St) : St := fun i => if i = 0 then a 0 ^^^ c else a i
def round (c : Ln) (a : St) : St := iota c (chi (rho (theta a)))
def rounds : List Ln → St → St
  | [], a => a
  | c :: l, a => rounds l (round c a)
theorem iota_inj {c : Ln} {a b : St} (h : Eq25 (iota c a) (iota c b)) : Eq25 a b := by
  intro i hi
  have := h i hi
  unfold iota at this
  by_cases e : i = 0
  · subst e
    rw [if_pos rfl, if_pos rfl] at this
    have := congrArg (· ^^^ c) this
    simpa [BitVec.xor_assoc] using this
  · rwa [if_neg e, if_neg e] at this
theorem theta_congr {a b : St} (h : Eq25 a b) : Eq25 (theta a) (theta b) := by
  have hp : ∀ x, par a x = par b x := fun x => by
    have hx : x % 5 < 5 := Nat.mod_lt _ (by decide)
    unfold par
    rw [h _ (by omega), h _ (by omega), h _ (by omega), h _ (by omega), h _ (by omega)]
  intro i hi
  unfold theta dif
  rw [h i hi, hp, hp]
theorem chi_congr {a b : St} (h : Eq25 a b) : Eq25 (chi a) (chi b) := by
  intro i hi
  unfold chi
  rw [h i hi, h _ (by omega), h _ (by omega)]
theorem round_inj {c : Ln} {a b : St} (h : Eq25 (round c a) (round c b)) : Eq25 a b := theta_inj (rho_inj (chi_inj (iota_inj h)))
theorem round_congr {c : Ln} {a b : St} (h : Eq25 a b) : Eq25 (round c a) (round c b) := by
  have h1 := chi_congr (rhoN_congr (theta_congr h) 24 (Nat.le_refl _))
  intro i hi
  show (if i = 0 then chi (rhoN (theta a) 24) 0 ^^^ c else chi (rhoN (theta a) 24) i) = (if i = 0 then chi (rhoN (theta b) 24) 0 ^^^ c else chi (rhoN (theta b) 24) i)
  split
  · rw [h1 0 (by omega)]
  · exact h1 i hi
theorem rounds_inj : ∀ (l : List Ln) {a b : St}, Eq25 (rounds l a) (rounds l b) → Eq25 a b
  | [], _, _, h => h
  | _ :: l, _, _, h => round_inj (rounds_inj l h)
theorem rounds_congr : ∀ (l : List Ln) {a b : St}, Eq25 a b → Eq25 (rounds l a) (rounds l b)
  | [], _, _, h => h
  | _ :: l, _, _, h => rounds_congr l (round_congr h)
/-! ### it comes again -/
def enc (a : St) : Nat → Nat
  | 0 => 0
  | n + 1 => enc a n * 2 ^ 64 + (a n).toNat
theorem enc_lt (a : St) : ∀ n, enc a n < (2 ^ 64) ^ n
  | 0 => by simp [enc]
  | n + 1 => by
    have h1 := enc_lt a n
    have h2 := (a n).isLt
    have e : (2 ^ 64) ^ (n + 1) = (2 ^ 64) ^ n * 2 ^ 64 := Nat.pow_succ ..
    simp only [enc]
    rw [e]
    generalize (2 ^ 64) ^ n = M at h1 ⊢
    omega
theorem enc_inj {a b : St} : ∀ n, enc a n = enc b n → ∀ i, i < n → a i = b i
  | 0, _, i, h => absurd h (by omega)
  | n + 1, h, i, hi => by
    simp only [enc] at h
    have h1 := (a n).isLt
    have h2 := (b n).isLt
    have h3 : enc a n = enc b n := by omega
    by_cases e : i = n
    · subst e
      exact BitVec.eq_of_toNat_eq (by omega)
    · exact enc_inj n h3 i (by omega)
def iter (f : St → St) : Nat → St → St
  | 0, a => a
  | n + 1, a => f (iter f n a)
theorem iter_inj {f : St → St} (hf : ∀ {a b}, Eq25 (f a) (f b) → Eq25 a b) : ∀ n {a b}, Eq25 (iter f n a) (iter f n b) → Eq25 a b
  | 0, _, _, h => h
  | n + 1, _, _, h => iter_inj hf n (hf h)
theorem iter_add (f : St → St) (m : Nat) (a : St) : ∀ n, iter f (m + n) a = iter f n (iter f m a)
  | 0 => rfl
  | n + 1 => by show f (iter f (m + n) a) = f (iter f n (iter f m a)); rw [iter_add f m a n]
theorem iter_comm (f : St → St) (a : St) (m n : Nat) : iter f m (iter f n a) = iter f n (iter f m a) := by rw [← iter_add, ← iter_add, Nat.add_comm]
/-- what an injective step is repeated on comes again -/
theorem again {f : St → St} (hf : ∀ {a b}, Eq25 (f a) (f b) → Eq25 a b) (s : St) : ∃ n, 0 < n ∧ Eq25 (iter f n s) s := by
  obtain ⟨i, j, h1, _, h3⟩ := pigeon ((2 ^ 64) ^ 25) (fun i => enc (iter f i s) 25) (fun i _ => enc_lt _ _)
  have h4 : Eq25 (iter f i s) (iter f j s) := enc_inj 25 h3
  refine ⟨j - i, by omega, ?_⟩
  have e : iter f j s = iter f i (iter f (j - i) s) := by rw [← iter_add, show j - i + i = j by omega]
  rw [e] at h4
  have := iter_inj hf i h4
  exact fun k hk => (this k hk).symm
theorem iter_congr {f : St → St} (hc : ∀ {a b}, Eq25 a b → Eq25 (f a) (f b)) : ∀ n {a b}, Eq25 a b → Eq25 (iter f n a) (iter f n b)
  | 0, _, _, h => h
  | n + 1, _, _, h => hc (iter_congr hc n h)
/-- .. and again, as late as is wanted -/
theorem again_late {f : St → St} (hf : ∀ {a b}, Eq25 (f a) (f b) → Eq25 a b) (hc : ∀ {a b}, Eq25 a b → Eq25 (f a) (f b)) (s : St) : ∀ m : Nat, ∃ n, m < n ∧ Eq25 (iter f n s) s
  | 0 => again hf s
  | m + 1 => by
    obtain ⟨n, h1, h2⟩ := again_late hf hc s m
    obtain ⟨k, h3, h4⟩ := again hf s
    refine ⟨n + k, by omega, fun i hi => ?_⟩
    rw [iter_add, iter_congr hc k h2 i hi, h4 i hi]
end Go.Mi.Ke
namespace Go.Sx
open Go.Mi Go.RowKit
def thC (a : Nat → Int) : Nat → Nat → Int
  | 0 => fun _ => 0
  | i + 1 => upd (thC a i) (i % 5) (ixor .u64 (thC a i (i % 5)) (a i))
def rotl (x : Int) (k : Int) : Int := ior .u64 (ishl .u64 x (iand .u64 (IntKind.wrap .u64 k) 63)) (ishr .u64 x (isub .u64 64 (iand .u64 (IntKind.wrap .u64 k) 63)))
def thA (a : Nat → Int) (c : Nat → Int) : Nat → Nat → Int
  | 0 => a
  | i + 1 => upd (thA a c i) i (ixor .u64 (thA a c i i) (ixor .u64 (c ((i % 5 + 4) % 5)) (rotl (c ((i % 5 + 1) % 5)) 1)))
def theta (a : Nat → Int) : Nat → Int := thA a (thC a 25) 25
def rhoA (a : Nat → Int) : Nat → Nat → Int
  | 0 => a
  | t + 1 => upd (rhoA a t) ((Ke.px (t + 1)).1 + 5 * (Ke.px (t + 1)).2) (rotl (a ((Ke.px t).1 + 5 * (Ke.px t).2)) (iquo .i64 (imul .i64 ((t + 1 : Nat) : Int) ((t + 2 : Nat) : Int)) 2))
def rho (a : Nat → Int) : Nat → Int := rhoA a 24
def chiA (a : Nat → Int) : Nat → Nat → Int
  | 0 => a
  | i + 1 => upd (chiA a i) i (ixor .u64 (chiA a i i) (iand .u64 (inot .u64 (a (i - i % 5 + (i + 1) % 5))) (a (i - i % 5 + (i + 2) % 5))))
def chi (a : Nat → Int) : Nat → Int := chiA a 25
def RC : Nat → Int := upd (upd (upd (upd (upd (upd (upd (upd (upd (upd (upd (upd (upd (upd (upd (upd (upd (upd (upd (upd (upd (upd (upd (upd (fun _ => 0) 0 1) 1 32898) 2 9223372036854808714) 3 9223372039002292224) 4 32907) 5 2147483649) 6 9223372039002292353) 7 9223372036854808585) 8 138) 9 136) 10 2147516425) 11 2147483658) 12 2147516555) 13 9223372036854775947) 14 9223372036854808713) 15 9223372036854808579) 16 9223372036854808578) 17 9223372036854775936) 18 32778) 19 9223372039002259466) 20 9223372039002292353) 21 9223372036854808704) 22 2147483649) 23 9223372039002292232
def kstp : Nat → (Nat → Int) → Nat → Int
  | 0 => theta
  | 1 => rho
  | _ => chi
def kst (b : Nat → Int) : Nat → Nat → Int
  | 0 => b
  | j + 1 => kstp j (kst b j)
def perA (a : Nat → Int) : Nat → Nat → Int
  | 0 => a
  | i + 1 => upd (kst (perA a i) 3) 0 (ixor .u64 (kst (perA a i) 3 0) (RC i))
def perm (a : Nat → Int) : Nat → Int := perA a 24
theorem kst_s (b f : Nat → Int) (j : Nat) (h : f = kst b j) : kstp j f = kst b (j + 1) := by rw [h]; rfl
theorem per_s (a b f : Nat → Int) (i : Nat) (hb : b = perA a i) (h : f = kst b 3) : upd f 0 (ixor .u64 (f 0) (RC i)) = perA a (i + 1) := by rw [h, hb]; rfl
end Go.Sx
namespace Go.Sx
open Go.Mi Go.RowKit
theorem cat_step (l : List (List Int)) (j : Nat) (h : j < l.length) : (l.take (j + 1)).flatten = (l.take j).flatten ++ l.getD j (rz [.sl (.int .u8)]) := by
  rw [List.take_add_one, List.flatten_append, List.getElem?_eq_getElem h]
  simp [List.getD, List.getElem?_eq_getElem h]
  rfl
theorem cat_len (l : List (List Int)) (j : Nat) (h : j < l.length) : (l.take (j + 1)).flatten.length = (l.take j).flatten.length + (l.getD j (rz [.sl (.int .u8)])).length := by
  rw [cat_step l j h, List.length_append]
theorem flat_take_le (l : List (List Int)) (j : Nat) : (l.take j).flatten.length ≤ l.flatten.length := by
  have h : l.flatten = (l.take j).flatten ++ (l.drop j).flatten := by rw [← List.flatten_append, List.take_append_drop]
  rw [h, List.length_append]
  omega
theorem cat_le {l : List (List Int)} {j c : Nat} (h : j < l.length) (hc : l.flatten.length ≤ c) : (l.take j).flatten.length + (l.getD j (rz [.sl (.int .u8)])).length ≤ c := by
  rw [← cat_len l j h]
  exact Nat.le_trans (flat_take_le l _) hc
/-- a block put into the lanes, its first i bytes -/
def xin (b : List Int) (f : Nat → Int) : Nat → Nat → Int
  | 0 => f
  | i + 1 => upd (xin b f i) (i / 8) (ixor .u64 (xin b f i (i / 8)) (ishl .u64 (IntKind.wrap .u64 (b.getD i 0)) ((8 * (i % 8) : Nat) : Int)))
/-- so many blocks put in -/
def soakN (p : List Int) (r : Nat) : Nat → Nat → Int
  | 0 => fun _ => 0
  | k + 1 => perm (xin (p.drop (k * r)) (soakN p r k) r)
/-- the text with its end -/
def padZ (r : Nat) (e : Int) (l : List (List Int)) : List Int := (l.flatten ++ [e]) ++ List.replicate ((r - (l.flatten ++ [e]).length % r) % r) (0 : Int)
def pad (r : Nat) (e : Int) (l : List (List Int)) : List Int := (padZ r e l).set ((padZ r e l).length - 1) (ior .u8 ((padZ r e l).getD ((padZ r e l).length - 1) 0) 128)
/-- a sponge that took texts in -/
def spg (r : Nat) (e : Int) (l : List (List Int)) : Nat → Int := soakN (pad r e l) r ((pad r e l).length / r)
theorem padZ_len {r : Nat} (h : 0 < r) (e : Int) (l : List (List Int)) : ∃ N, 0 < N ∧ (padZ r e l).length = N * r := by
  unfold padZ
  generalize hb : l.flatten ++ [e] = b
  have hp : 0 < b.length := by rw [← hb]; simp
  rw [List.length_append, List.length_replicate]
  have h1 := Nat.div_add_mod b.length r
  have h2 := Nat.mod_lt b.length h
  by_cases h3 : b.length % r = 0
  · rw [h3, Nat.sub_zero, Nat.mod_self]
    refine ⟨b.length / r, ?_, ?_⟩
    · rcases Nat.eq_zero_or_pos (b.length / r) with h4 | h4
      · rw [h4, h3] at h1; simp at h1; omega
      · exact h4
    · rw [h3] at h1; rw [Nat.mul_comm]; omega
  · rw [Nat.mod_eq_of_lt (a := r - b.length % r) (by omega)]
    refine ⟨b.length / r + 1, Nat.succ_pos _, ?_⟩
    rw [Nat.succ_mul, Nat.mul_comm]
    omega
theorem pad_len {r : Nat} {e : Int} {l : List (List Int)} : (pad r e l).length = (padZ r e l).length := by simp [pad]
theorem padZ_le {r : Nat} (h : 0 < r) (e : Int) (l : List (List Int)) : (padZ r e l).length ≤ l.flatten.length + 1 + r := by
  unfold padZ
  rw [List.length_append, List.length_replicate, List.length_append]
  have := Nat.mod_lt (r - (l.flatten ++ [e]).length % r) h
  simp only [List.length_append, List.length_cons, List.length_nil] at this ⊢
  omega
/-- where a block begins -/
theorem blk_at {p b : List Int} {r k N : Nat} (hr : 0 < r) (hN : p.length = N * r) (hb : b = p.drop (k * r)) (hk : k ≤ N) (h : 0 < b.length) : k < N ∧ r ≤ b.length := by
  rw [hb, List.length_drop, hN, ← Nat.sub_mul] at h ⊢
  rcases Nat.eq_zero_or_pos (N - k) with h1 | h1
  · rw [h1] at h; simp at h
  · exact ⟨by omega, Nat.le_mul_of_pos_left r h1⟩
theorem blk_end {p b : List Int} {r k N : Nat} (hr : 0 < r) (hN : p.length = N * r) (hb : b = p.drop (k * r)) (hk : k ≤ N) (h : ¬ 0 < b.length) : k = p.length / r := by
  rw [hb, List.length_drop, hN, ← Nat.sub_mul] at h
  rw [hN, Nat.mul_div_cancel _ hr]
  rcases Nat.eq_zero_or_pos (N - k) with h1 | h1
  · omega
  · exact absurd (Nat.mul_pos h1 hr) h
theorem blk_next {p b : List Int} {r k : Nat} (hb : b = p.drop (k * r)) : b.drop r = p.drop ((k + 1) * r) := by
  rw [hb, List.drop_drop, Nat.succ_mul]
theorem blk_soak {p b : List Int} {r k : Nat} {f g : Nat → Int} (hb : b = p.drop (k * r)) (hf : f = soakN p r k) (hg : g = xin b f r) : perm g = soakN p r (k + 1) := by
  rw [hg, hf, hb]; rfl
/-- bytes read -/
def rdA (r : Nat) (f : Nat → Int) (a : Nat) : Nat → (Nat → Int) × Nat × List Int
  | 0 => (f, a, [])
  | j + 1 => match rdA r f a j with
    | (g, b, o) => if b = r then (perm g, 1, o ++ [IntKind.wrap .u8 (ishr .u64 (perm g 0) 0)]) else (g, b + 1, o ++ [IntKind.wrap .u8 (ishr .u64 (g (b / 8)) ((8 * (b % 8) : Nat) : Int))])
theorem rd_next1 {r : Nat} {f0 : Nat → Int} {a0 : Nat} {f : Nat → Int} {a : Nat} {o : List Int} (hq : (f, a, o) = rdA r f0 a0 o.length) (ha : a = r) : (perm f, 1, o ++ [IntKind.wrap .u8 (ishr .u64 (perm f 0) 0)]) = rdA r f0 a0 (o ++ [IntKind.wrap .u8 (ishr .u64 (perm f 0) 0)]).length := by
  rw [List.length_append]
  show _ = (match rdA r f0 a0 o.length with
    | (g, b, o) => if b = r then (perm g, 1, o ++ [IntKind.wrap .u8 (ishr .u64 (perm g 0) 0)]) else (g, b + 1, o ++ [IntKind.wrap .u8 (ishr .u64 (g (b / 8)) ((8 * (b % 8) : Nat) : Int))]))
  rw [← hq]
  simp only [if_pos ha]
theorem rd_next2 {r : Nat} {f0 : Nat → Int} {a0 : Nat} {f : Nat → Int} {a : Nat} {o : List Int} (hq : (f, a, o) = rdA r f0 a0 o.length) (ha : ¬ a = r) : (f, a + 1, o ++ [IntKind.wrap .u8 (ishr .u64 (f (a / 8)) ((8 * (a % 8) : Nat) : Int))]) = rdA r f0 a0 (o ++ [IntKind.wrap .u8 (ishr .u64 (f (a / 8)) ((8 * (a % 8) : Nat) : Int))]).length := by
  rw [List.length_append]
  show _ = (match rdA r f0 a0 o.length with
    | (g, b, o) => if b = r then (perm g, 1, o ++ [IntKind.wrap .u8 (ishr .u64 (perm g 0) 0)]) else (g, b + 1, o ++ [IntKind.wrap .u8 (ishr .u64 (g (b / 8)) ((8 * (b % 8) : Nat) : Int))]))
  rw [← hq]
  simp only [if_neg ha]
theorem rd_end {r : Nat} {f0 : Nat → Int} {a0 n : Nat} {f : Nat → Int} {a : Nat} {o : List Int} (hq : (f, a, o) = rdA r f0 a0 o.length) (hn : o.length = n) : f = (rdA r f0 a0 n).1 ∧ a = (rdA r f0 a0 n).2.1 ∧ o = (rdA r f0 a0 n).2.2 := by
  rw [← hn, ← hq]; exact ⟨rfl, rfl, rfl⟩
theorem rd_len (r : Nat) (f0 : Nat → Int) (a0 : Nat) : ∀ n, (rdA r f0 a0 n).2.2.length = n
  | 0 => rfl
  | n + 1 => by
    have ih := rd_len r f0 a0 n
    show (match rdA r f0 a0 n with
      | (g, b, o) => if b = r then (perm g, 1, o ++ [IntKind.wrap .u8 (ishr .u64 (perm g 0) 0)]) else (g, b + 1, o ++ [IntKind.wrap .u8 (ishr .u64 (g (b / 8)) ((8 * (b % 8) : Nat) : Int))])).2.2.length = n + 1
    revert ih
    generalize rdA r f0 a0 n = q
    obtain ⟨g, b, o⟩ := q
    intro ih
    simp only at ih ⊢
    split <;> simp [ih]
theorem rd_at {r : Nat} (hr : 0 < r) (f0 : Nat → Int) (a0 : Nat) (h : a0 ≤ r) : ∀ n, (rdA r f0 a0 n).2.1 ≤ r
  | 0 => h
  | n + 1 => by
    have ih := rd_at hr f0 a0 h n
    show (match rdA r f0 a0 n with
      | (g, b, o) => if b = r then (perm g, 1, o ++ [IntKind.wrap .u8 (ishr .u64 (perm g 0) 0)]) else (g, b + 1, o ++ [IntKind.wrap .u8 (ishr .u64 (g (b / 8)) ((8 * (b % 8) : Nat) : Int))])).2.1 ≤ r
    revert ih
    generalize rdA r f0 a0 n = q
    obtain ⟨g, b, o⟩ := q
    intro ih
    simp only at ih ⊢
    split
    · exact hr
    · simp only; omega
/-- the hash -/
def sum (r : Nat) (e : Int) (n : Nat) (l : List (List Int)) : List Int := (rdA r (spg r e l) 0 n).2.2
theorem sum_len (r : Nat) (e : Int) (n : Nat) (l : List (List Int)) : (sum r e n l).length = n := rd_len ..
theorem rd_0 (r : Nat) (f0 : Nat → Int) (a0 : Nat) : (f0, a0, []) = rdA r f0 a0 0 := rfl
theorem rdA_s (r : Nat) (f : Nat → Int) (a j : Nat) : rdA r f a (j + 1) = match rdA r f a j with
    | (g, b, o) => if b = r then (perm g, 1, o ++ [IntKind.wrap .u8 (ishr .u64 (perm g 0) 0)]) else (g, b + 1, o ++ [IntKind.wrap .u8 (ishr .u64 (g (b / 8)) ((8 * (b % 8) : Nat) : Int))]) := rfl
attribute [irreducible] rdA
end Go.Sx
namespace Go.Sx
open Go.Mi Go.RowKit
def bv (f : Nat → Int) : Ke.St := fun i => BitVec.ofInt 64 (f i)
/-- numbers of 64 bits -/
def Rg (f : Nat → Int) : Prop := ∀ i, i < 25 → 0 ≤ f i ∧ f i < 18446744073709551616
theorem wrap64 (x : Int) : IntKind.wrap .u64 x = x % 18446744073709551616 := by
  simp [IntKind.wrap, IntKind.bits, IntKind.signed]
theorem wrap64_rg (x : Int) : 0 ≤ IntKind.wrap .u64 x ∧ IntKind.wrap .u64 x < 18446744073709551616 := by rw [wrap64]; omega
theorem bv_wrap (x : Int) : BitVec.ofInt 64 (IntKind.wrap .u64 x) = BitVec.ofInt 64 x := by
  apply BitVec.eq_of_toInt_eq
  simp only [BitVec.toInt_ofInt, wrap64]
  unfold Int.bmod
  simp
theorem bv_nat (x : BitVec 64) : BitVec.ofInt 64 (x.toNat : Int) = x := by simp
theorem bv_xor (p q : Int) : BitVec.ofInt 64 (ixor .u64 p q) = BitVec.ofInt 64 p ^^^ BitVec.ofInt 64 q := by
  unfold ixor; rw [bv_wrap]; exact bv_nat _
theorem bv_and (p q : Int) : BitVec.ofInt 64 (iand .u64 p q) = BitVec.ofInt 64 p &&& BitVec.ofInt 64 q := by
  unfold iand; rw [bv_wrap]; exact bv_nat _
theorem bv_or (p q : Int) : BitVec.ofInt 64 (ior .u64 p q) = BitVec.ofInt 64 p ||| BitVec.ofInt 64 q := by
  unfold ior; rw [bv_wrap]; exact bv_nat _
theorem bv_not (p : Int) : BitVec.ofInt 64 (inot .u64 p) = ~~~ BitVec.ofInt 64 p := by
  unfold inot; rw [bv_xor]
  rw [show BitVec.ofInt 64 (if IntKind.signed .u64 then -1 else IntKind.max .u64) = BitVec.allOnes 64 from rfl, BitVec.allOnes_xor]
theorem ixor_rg (p q : Int) : 0 ≤ ixor .u64 p q ∧ ixor .u64 p q < 18446744073709551616 := wrap64_rg _
theorem ior_rg (p q : Int) : 0 ≤ ior .u64 p q ∧ ior .u64 p q < 18446744073709551616 := wrap64_rg _
theorem ofInt_toNat {x : Int} (h : 0 ≤ x ∧ x < 18446744073709551616) : (BitVec.ofInt 64 x).toNat = x.toNat := by
  rw [BitVec.toNat_ofInt]; omega
theorem bv_shl (p : Int) (k : Nat) (hk : k ≤ 64) : BitVec.ofInt 64 (ishl .u64 p (k : Int)) = BitVec.ofInt 64 p <<< k := by
  unfold ishl
  rw [bv_wrap, show min (k : Int).toNat (IntKind.bits .u64) = k by simp [IntKind.bits]; omega]
  apply BitVec.eq_of_toNat_eq
  rw [BitVec.toNat_shiftLeft, Nat.shiftLeft_eq, BitVec.toNat_ofInt, BitVec.toNat_ofInt]
  have h1 : (p * 2 ^ k) % ((2 ^ 64 : Nat) : Int) = ((p % ((2 ^ 64 : Nat) : Int)) * ((2 ^ k : Nat) : Int)) % ((2 ^ 64 : Nat) : Int) := by
    rw [show ((2 ^ k : Nat) : Int) = (2 : Int) ^ k by simp]
    have e1 := Int.mul_emod p (2 ^ k) ((2 ^ 64 : Nat) : Int)
    have e2 := Int.mul_emod (p % ((2 ^ 64 : Nat) : Int)) (2 ^ k) ((2 ^ 64 : Nat) : Int)
    rw [Int.emod_emod_of_dvd _ (Int.dvd_refl _)] at e2
    rw [e1, e2]
  rw [h1]
  have h2 : 0 ≤ p % ((2 ^ 64 : Nat) : Int) := Int.emod_nonneg _ (by decide)
  obtain ⟨n, hn⟩ := Int.eq_ofNat_of_zero_le h2
  rw [hn]
  have h3 : (((n : Int) * ((2 ^ k : Nat) : Int)) % ((2 ^ 64 : Nat) : Int)).toNat = n * 2 ^ k % 2 ^ 64 := by
    rw [← Int.natCast_mul, ← Int.natCast_emod, Int.toNat_natCast]
  rw [h3]
  rfl
theorem bv_shr {p : Int} (h : 0 ≤ p ∧ p < 18446744073709551616) (k : Nat) (hk : k ≤ 64) : BitVec.ofInt 64 (ishr .u64 p (k : Int)) = BitVec.ofInt 64 p >>> k := by
  unfold ishr
  rw [show min (k : Int).toNat (IntKind.bits .u64) = k by simp [IntKind.bits]; omega]
  obtain ⟨n, rfl⟩ := Int.eq_ofNat_of_zero_le h.1
  apply BitVec.eq_of_toNat_eq
  rw [BitVec.toNat_ushiftRight, Nat.shiftRight_eq_div_pow, ofInt_toNat h]
  rw [Int.fdiv_eq_ediv_of_nonneg _ (Int.pow_nonneg (by decide)), show (2 : Int) ^ k = ((2 ^ k : Nat) : Int) by simp]
  rw [show (((n : Nat) : Int) / ((2 ^ k : Nat) : Int)) = ((n / 2 ^ k : Nat) : Int) from rfl]
  have h3 : n / 2 ^ k ≤ n := Nat.div_le_self _ _
  have h4 : n < 18446744073709551616 := by have := h.2; omega
  rw [ofInt_toNat ⟨Int.natCast_nonneg _, by omega⟩, Int.toNat_natCast, Int.toNat_natCast]
theorem rotl_bv {x : Int} (h : 0 ≤ x ∧ x < 18446744073709551616) (k : Nat) (hk : k < 1000) : BitVec.ofInt 64 (rotl x (k : Int)) = Ke.rot (BitVec.ofInt 64 x) k := by
  have hm : iand .u64 (IntKind.wrap .u64 (k : Int)) 63 = ((k % 64 : Nat) : Int) := by
    unfold iand
    rw [wrap64, BitVec.toNat_and, show (BitVec.ofInt (IntKind.bits .u64) 63).toNat = 2 ^ 6 - 1 from rfl, Nat.and_two_pow_sub_one_eq_mod]
    have e : (BitVec.ofInt (IntKind.bits .u64) (IntKind.wrap .u64 (k : Int))).toNat = k := by
      rw [wrap64]
      show (BitVec.ofInt 64 _).toNat = k
      rw [ofInt_toNat ⟨by omega, by omega⟩]; omega
    rw [e]
    omega
  have hs : isub .u64 64 (iand .u64 (IntKind.wrap .u64 (k : Int)) 63) = ((64 - k % 64 : Nat) : Int) := by
    rw [hm]; unfold isub; rw [wrap64]; omega
  unfold rotl
  rw [bv_or, hs, hm, bv_shl _ _ (by omega), bv_shr h _ (by omega)]
  unfold Ke.rot
  rw [BitVec.rotateLeft_def]
theorem rotl_rg (x k : Int) : 0 ≤ rotl x k ∧ rotl x k < 18446744073709551616 := ior_rg _ _
/-! ### theta -/
theorem thC_s (a : Nat → Int) (n x : Nat) : thC a (n + 1) x = if x = n % 5 then ixor .u64 (thC a n x) (a n) else thC a n x := by
  simp only [thC, upd]
  split
  · rename_i h; rw [h]
  · rfl
theorem thC_5 (a : Nat → Int) (k x : Nat) (hx : x < 5) : thC a (5 * k + 5) x = ixor .u64 (thC a (5 * k) x) (a (5 * k + x)) := by
  have h5 : x = 0 ∨ x = 1 ∨ x = 2 ∨ x = 3 ∨ x = 4 := by omega
  rw [show 5 * k + 5 = 5 * k + 4 + 1 from rfl, thC_s, show 5 * k + 4 = 5 * k + 3 + 1 from rfl, thC_s, show 5 * k + 3 = 5 * k + 2 + 1 from rfl, thC_s, show 5 * k + 2 = 5 * k + 1 + 1 from rfl, thC_s, thC_s]
  rcases h5 with rfl | rfl | rfl | rfl | rfl <;> repeat (first | rw [if_pos (by omega)] | rw [if_neg (by omega)] | rfl)
theorem thC_at (a : Nat → Int) (x : Nat) (hx : x < 5) : BitVec.ofInt 64 (thC a 25 x) = Ke.par (bv a) x := by
  have h1 := thC_5 a 4 x hx
  have h2 := thC_5 a 3 x hx
  have h3 := thC_5 a 2 x hx
  have h4 := thC_5 a 1 x hx
  have h5 := thC_5 a 0 x hx
  have h6 : thC a 0 x = 0 := rfl
  show BitVec.ofInt 64 (thC a (5 * 4 + 5) x) = _
  rw [h1, show thC a (5 * 4) x = thC a (5 * 3 + 5) x from rfl, h2, show thC a (5 * 3) x = thC a (5 * 2 + 5) x from rfl, h3, show thC a (5 * 2) x = thC a (5 * 1 + 5) x from rfl, h4, show thC a (5 * 1) x = thC a (5 * 0 + 5) x from rfl, h5, show thC a (5 * 0) x = 0 from rfl]
  simp only [bv_xor]
  unfold Ke.par bv
  rw [Nat.mod_eq_of_lt hx]
  simp [Nat.add_comm]
theorem thA_at (a c : Nat → Int) : ∀ n i, thA a c n i = if i < n then ixor .u64 (a i) (ixor .u64 (c ((i % 5 + 4) % 5)) (rotl (c ((i % 5 + 1) % 5)) 1)) else a i
  | 0, i => by simp [thA]
  | n + 1, i => by
    simp only [thA, upd]
    by_cases h : i = n
    · subst h; rw [if_pos rfl, thA_at a c i i, if_neg (Nat.lt_irrefl _), if_pos (Nat.lt_succ_self _)]
    · rw [if_neg h, thA_at a c n i]
      by_cases h2 : i < n
      · rw [if_pos h2, if_pos (by omega)]
      · rw [if_neg h2, if_neg (by omega)]
theorem thC_rg (a : Nat → Int) : ∀ n i, 0 ≤ thC a n i ∧ thC a n i < 18446744073709551616
  | 0, i => by simp [thC]
  | n + 1, i => by
    simp only [thC, upd]
    split
    · exact ixor_rg _ _
    · exact thC_rg a n i
theorem theta_bv (a : Nat → Int) : Ke.Eq25 (bv (theta a)) (Ke.theta (bv a)) := by
  intro i hi
  unfold bv theta Ke.theta Ke.dif
  rw [thA_at, if_pos hi, bv_xor, bv_xor, thC_at _ _ (by omega), show (1 : Int) = ((1 : Nat) : Int) from rfl, rotl_bv (thC_rg _ _ _) 1 (by omega), thC_at _ _ (by omega)]
  rw [show (i % 5 + 4) % 5 = (i + 4) % 5 by omega, show (i % 5 + 1) % 5 = (i + 1) % 5 by omega, Ke.par_mod, Ke.par_mod]
  rfl
theorem theta_rg (a : Nat → Int) : Rg (theta a) := fun i hi => by
  unfold theta; rw [thA_at, if_pos hi]; exact ixor_rg _ _
/-! ### rho -/
theorem rhoA_bv {a : Nat → Int} (ha : Rg a) : ∀ n, n ≤ 24 → Rg (rhoA a n) ∧ Ke.Eq25 (bv (rhoA a n)) (Ke.rhoN (bv a) n)
  | 0, _ => ⟨ha, fun i _ => rfl⟩
  | n + 1, hn => by
    obtain ⟨h1, h2⟩ := rhoA_bv ha n (by omega)
    have hk : iquo .i64 (imul .i64 ((n + 1 : Nat) : Int) ((n + 2 : Nat) : Int)) 2 = (((n + 1) * (n + 2) / 2 : Nat) : Int) := by
      have key : ((List.range 24).all fun n => decide (iquo .i64 (imul .i64 ((n + 1 : Nat) : Int) ((n + 2 : Nat) : Int)) 2 = (((n + 1) * (n + 2) / 2 : Nat) : Int))) = true := by kernel_rfl
      exact of_decide_eq_true (List.all_eq_true.1 key n (List.mem_range.2 (by omega)))
    have hk2 : (n + 1) * (n + 2) / 2 < 1000 := by
      have : (n + 1) * (n + 2) ≤ 24 * 25 := Nat.mul_le_mul (by omega) (by omega)
      omega
    have hp := Ke.ps_lt n (by omega)
    refine ⟨fun i hi => ?_, fun i hi => ?_⟩
    · simp only [rhoA, upd]
      split
      · exact rotl_rg _ _
      · exact h1 i hi
    · simp only [rhoA, upd, bv, Ke.rhoN]
      show BitVec.ofInt 64 (if i = Ke.ps (n + 1) then _ else _) = _
      split
      · rw [hk]; exact rotl_bv (ha _ hp) _ hk2
      · exact h2 i hi
theorem rho_bv {a : Nat → Int} (ha : Rg a) : Ke.Eq25 (bv (rho a)) (Ke.rho (bv a)) := (rhoA_bv ha 24 (Nat.le_refl _)).2
theorem rho_rg {a : Nat → Int} (ha : Rg a) : Rg (rho a) := (rhoA_bv ha 24 (Nat.le_refl _)).1
/-! ### chi -/
theorem chiA_at (a : Nat → Int) : ∀ n i, chiA a n i = if i < n then ixor .u64 (a i) (iand .u64 (inot .u64 (a (i - i % 5 + (i + 1) % 5))) (a (i - i % 5 + (i + 2) % 5))) else a i
  | 0, i => by simp [chiA]
  | n + 1, i => by
    simp only [chiA, upd]
    by_cases h : i = n
    · subst h; rw [if_pos rfl, chiA_at a i i, if_neg (Nat.lt_irrefl _), if_pos (Nat.lt_succ_self _)]
    · rw [if_neg h, chiA_at a n i]
      by_cases h2 : i < n
      · rw [if_pos h2, if_pos (by omega)]
      · rw [if_neg h2, if_neg (by omega)]
theorem chi_bv (a : Nat → Int) : Ke.Eq25 (bv (chi a)) (Ke.chi (bv a)) := by
  intro i hi
  unfold bv chi Ke.chi
  rw [chiA_at, if_pos hi, bv_xor, bv_and, bv_not]
theorem chi_rg (a : Nat → Int) : Rg (chi a) := fun i hi => by
  unfold chi; rw [chiA_at, if_pos hi]; exact ixor_rg _ _
/-! ### all rounds -/
theorem kst3 (b : Nat → Int) : kst b 3 = chi (rho (theta b)) := by simp only [kst, kstp]
def RCl (n : Nat) : List Ke.Ln := (List.range n).map fun i => BitVec.ofInt 64 (RC i)
theorem rounds_app : ∀ (l m : List Ke.Ln) (a : Ke.St), Ke.rounds (l ++ m) a = Ke.rounds m (Ke.rounds l a)
  | [], m, a => rfl
  | c :: l, m, a => rounds_app l m (Ke.round c a)
theorem perA_bv {a : Nat → Int} (ha : Rg a) : ∀ n, Rg (perA a n) ∧ Ke.Eq25 (bv (perA a n)) (Ke.rounds (RCl n) (bv a))
  | 0 => ⟨ha, fun i _ => rfl⟩
  | n + 1 => by
    obtain ⟨h1, h2⟩ := perA_bv ha n
    generalize hK : Ke.rounds (RCl n) (bv a) = K at h2
    have e : Ke.rounds (RCl (n + 1)) (bv a) = Ke.round (BitVec.ofInt 64 (RC n)) K := by
      rw [← hK]; unfold RCl; rw [List.range_succ, List.map_append, rounds_app]; rfl
    have k1 : Rg (kst (perA a n) 3) := by rw [kst3]; exact chi_rg _
    have k2 : Ke.Eq25 (bv (kst (perA a n) 3)) (Ke.chi (Ke.rho (Ke.theta K))) := by
      have t1 : Ke.Eq25 (bv (theta (perA a n))) (Ke.theta K) := fun i hi => by rw [theta_bv _ i hi, Ke.theta_congr h2 i hi]
      have t2 : Ke.Eq25 (bv (rho (theta (perA a n)))) (Ke.rho (Ke.theta K)) := fun i hi => by
        rw [rho_bv (theta_rg _) i hi]; exact Ke.rhoN_congr t1 24 (Nat.le_refl _) i hi
      intro i hi
      rw [kst3, chi_bv _ i hi, Ke.chi_congr t2 i hi]
    have pe : perA a (n + 1) = upd (kst (perA a n) 3) 0 (ixor .u64 (kst (perA a n) 3 0) (RC n)) := rfl
    generalize kst (perA a n) 3 = q at k1 k2 pe
    rw [pe]
    refine ⟨fun i hi => ?_, fun i hi => ?_⟩
    · unfold upd
      split
      · exact ixor_rg _ _
      · exact k1 i hi
    · rw [e]
      unfold Ke.round Ke.iota bv upd
      split
      · rw [bv_xor]
        have := k2 0 (by omega)
        unfold bv at this
        rw [this]
      · exact k2 i hi
def permK (a : Ke.St) : Ke.St := Ke.rounds (RCl 24) a
theorem perm_bv {a : Nat → Int} (ha : Rg a) : Ke.Eq25 (bv (perm a)) (permK (bv a)) := (perA_bv ha 24).2
theorem perm_rg {a : Nat → Int} (ha : Rg a) : Rg (perm a) := (perA_bv ha 24).1
/-- so often permuted -/
def permN (a : Nat → Int) : Nat → Nat → Int
  | 0 => a
  | n + 1 => perm (permN a n)
theorem permN_bv {a : Nat → Int} (ha : Rg a) : ∀ n, Rg (permN a n) ∧ Ke.Eq25 (bv (permN a n)) (Ke.iter permK n (bv a))
  | 0 => ⟨ha, fun _ _ => rfl⟩
  | n + 1 => by
    obtain ⟨h1, h2⟩ := permN_bv ha n
    refine ⟨perm_rg h1, fun i hi => ?_⟩
    show bv (perm (permN a n)) i = permK (Ke.iter permK n (bv a)) i
    rw [perm_bv h1 i hi]
    exact Ke.rounds_congr (RCl 24) h2 i hi
/-- what is permuted comes again, as late as is wanted -/
theorem perm_again {a : Nat → Int} (ha : Rg a) (m : Nat) : ∃ n, m < n ∧ ∀ i, i < 25 → permN a n i = a i := by
  obtain ⟨n, h1, h2⟩ := Ke.again_late (f := permK) (fun h => Ke.rounds_inj _ h) (fun h => Ke.rounds_congr _ h) (bv a) m
  refine ⟨n, h1, fun i hi => ?_⟩
  obtain ⟨h3, h4⟩ := permN_bv ha n
  have h5 := (h4 i hi).trans (h2 i hi)
  unfold bv at h5
  have h6 := congrArg BitVec.toNat h5
  rw [ofInt_toNat (h3 i hi), ofInt_toNat (ha i hi)] at h6
  have := h3 i hi
  have := ha i hi
  omega
end Go.Sx
namespace Go.Sx
open Go.Mi Go.RowKit
/-- a byte of a state -/
def Bt (f : Nat → Int) (i : Nat) : Int := IntKind.wrap .u8 (ishr .u64 (f (i / 8)) ((8 * (i % 8) : Nat) : Int))
def bts (f : Nat → Int) (a n : Nat) : List Int := (List.range n).map fun i => Bt f (a + i)
theorem bts_s (f : Nat → Int) (a n : Nat) : bts f a (n + 1) = bts f a n ++ [Bt f (a + n)] := by unfold bts; rw [List.range_succ, List.map_append]; rfl
theorem bts_len (f : Nat → Int) (a n : Nat) : (bts f a n).length = n := by simp [bts]
theorem rdA_in {r : Nat} (f : Nat → Int) (a : Nat) : ∀ n, a + n ≤ r → rdA r f a n = (f, a + n, bts f a n)
  | 0, _ => (rd_0 r f a).symm
  | n + 1, h => by
    rw [rdA_s, rdA_in f a n (by omega), bts_s]
    simp only
    rw [if_neg (by omega)]
    rfl
theorem rdA_app (r : Nat) (f : Nat → Int) (a m : Nat) : ∀ n, rdA r f a (m + n) = ((rdA r (rdA r f a m).1 (rdA r f a m).2.1 n).1, (rdA r (rdA r f a m).1 (rdA r f a m).2.1 n).2.1, (rdA r f a m).2.2 ++ (rdA r (rdA r f a m).1 (rdA r f a m).2.1 n).2.2)
  | 0 => by
    rw [← rd_0]
    simp
  | n + 1 => by
    have ih := rdA_app r f a m n
    rw [show m + (n + 1) = (m + n) + 1 from rfl, rdA_s, ih, rdA_s]
    generalize rdA r (rdA r f a m).1 (rdA r f a m).2.1 n = q
    obtain ⟨g, b, o⟩ := q
    simp only
    split <;> simp
theorem rdA_full {r : Nat} (hr : 0 < r) (f : Nat → Int) (n : Nat) : rdA r f r (n + 1) = rdA r (perm f) 0 (n + 1) := by
  rw [Nat.add_comm n 1, rdA_app r f r 1, rdA_app r (perm f) 0 1]
  have h1 : rdA r f r 1 = (perm f, 1, [Bt (perm f) 0]) := by rw [rdA_s, ← rd_0]; simp only [if_true]; rfl
  have h2 : rdA r (perm f) 0 1 = (perm f, 1, [Bt (perm f) 0]) := by rw [rdA_s, ← rd_0]; simp only; rw [if_neg (by omega)]; rfl
  rw [h1, h2]
def blk (f : Nat → Int) : List Int := bts f 0 168
theorem blk_len (f : Nat → Int) : (blk f).length = 168 := bts_len ..
theorem rdA_r {r : Nat} (hr : 0 < r) (h : Nat → Int) : rdA r h 0 (r + (r + r)) = (perm (perm h), r, bts h 0 r ++ bts (perm h) 0 r ++ bts (perm (perm h)) 0 r) := by
  have e : ∀ h, rdA r h 0 r = (h, r, bts h 0 r) := fun h => by rw [rdA_in h 0 r (by omega), Nat.zero_add]
  have e2 : ∀ h, rdA r h r r = (perm h, r, bts (perm h) 0 r) := fun h => by
    obtain ⟨n, rfl⟩ : ∃ n, r = n + 1 := ⟨r - 1, by omega⟩
    rw [rdA_full hr, e]
  rw [rdA_app, e, rdA_app, e2, e2, List.append_assoc]
theorem rdA_3 (h : Nat → Int) : rdA 168 h 0 504 = (perm (perm h), 168, blk h ++ blk (perm h) ++ blk (perm (perm h))) := rdA_r (by decide) h
theorem rdA_4 (h : Nat → Int) : rdA 168 h 168 504 = (perm (perm (perm h)), 168, blk (perm h) ++ blk (perm (perm h)) ++ blk (perm (perm (perm h)))) := (rdA_full (r := 168) (by decide) h 503).trans (rdA_3 (perm h))
/-! ### numbers that are taken -/
def acc1 (x : Int) (s : (Nat → Int) × Nat) : (Nat → Int) × Nat := if x < 3329 then (if s.2 < 256 then (upd s.1 s.2 x, s.2 + 1) else s) else s
def ux1 (a b : Int) : Int := ior .u16 (IntKind.wrap .u16 a) (ishl .u16 (IntKind.wrap .u16 (iand .u8 b 15)) 8)
def ux2 (b c : Int) : Int := ior .u16 (IntKind.wrap .u16 (ishr .u8 b 4)) (ishl .u16 (IntKind.wrap .u16 c) 4)
def acc : List Int → (Nat → Int) × Nat → (Nat → Int) × Nat
  | a :: b :: c :: r, s => acc r (acc1 (ux2 b c) (acc1 (ux1 a b) s))
  | _, s => s
theorem acc_step {b : List Int} (h : 3 ≤ b.length) (s : (Nat → Int) × Nat) : acc b s = acc (b.drop 3) (acc1 (ux2 (b.getD 1 0) (b.getD 2 0)) (acc1 (ux1 (b.getD 0 0) (b.getD 1 0)) s)) := by
  match b, h with
  | x :: y :: z :: r, _ => rfl
theorem acc_nil (s : (Nat → Int) × Nat) : acc [] s = s := rfl
theorem acc1_mono (x : Int) (s : (Nat → Int) × Nat) : s.2 ≤ (acc1 x s).2 ∧ ((acc1 x s).2 ≤ s.2 + 1) ∧ (s.2 ≤ 256 → (acc1 x s).2 ≤ 256) := by
  unfold acc1
  split
  · split
    · simp only; omega
    · omega
  · omega
theorem acc_mono : ∀ (l : List Int) (s : (Nat → Int) × Nat), s.2 ≤ (acc l s).2 ∧ (s.2 ≤ 256 → (acc l s).2 ≤ 256) := by
  intro l
  induction h : l.length using Nat.strongRecOn generalizing l with
  | _ n ih =>
    intro s
    match l, h with
    | [], _ => exact ⟨Nat.le_refl _, id⟩
    | [_], _ => exact ⟨Nat.le_refl _, id⟩
    | [_, _], _ => exact ⟨Nat.le_refl _, id⟩
    | a :: b :: c :: r, h =>
      have h1 := acc1_mono (ux1 a b) s
      have h2 := acc1_mono (ux2 b c) (acc1 (ux1 a b) s)
      have h3 := ih r.length (by rw [← h]; simp only [List.length_cons]; omega) r rfl (acc1 (ux2 b c) (acc1 (ux1 a b) s))
      exact ⟨by show s.2 ≤ (acc r _).2; omega, fun h4 => h3.2 (h2.2.2 (h1.2.2 h4))⟩
theorem acc_app : ∀ (p r : List Int) (s : (Nat → Int) × Nat), p.length % 3 = 0 → acc (p ++ r) s = acc r (acc p s) := by
  intro p
  induction h : p.length using Nat.strongRecOn generalizing p with
  | _ n ih =>
    intro r s hm
    match p, h with
    | [], _ => rfl
    | [_], h => simp only [List.length_cons, List.length_nil] at h; omega
    | [_, _], h => simp only [List.length_cons, List.length_nil] at h; omega
    | a :: b :: c :: q, h =>
      simp only [List.length_cons] at h
      exact ih q.length (by omega) q rfl r _ (by omega)
theorem acc_zero {p r : List Int} (hp : p.length % 3 = 0) {s : (Nat → Int) × Nat} (hs : s.2 < 256) : s.2 < (acc (p ++ 0 :: 0 :: 0 :: r) s).2 := by
  rw [acc_app _ _ _ hp]
  have h1 := (acc_mono p s).1
  show s.2 < (acc r (acc1 (ux2 0 0) (acc1 (ux1 0 0) (acc p s)))).2
  rw [show ux1 0 0 = 0 from rfl, show ux2 0 0 = 0 from rfl]
  generalize acc p s = t at h1
  have h2 := acc1_mono 0 (acc1 0 t)
  have h3 := (acc_mono r (acc1 0 (acc1 0 t))).1
  have h4 : t.2 < 256 → (acc1 0 t).2 = t.2 + 1 := fun h => by unfold acc1; rw [if_pos (by decide), if_pos h]
  have h5 := acc1_mono 0 t
  omega
/-- the state behind so many readings -/
def uR (g0 : Nat → Int) : Nat → (Nat → Int) × Nat × (Nat → Int) × Nat
  | 0 => (g0, 0, fun _ => 0, 0)
  | k + 1 => ((rdA 168 (uR g0 k).1 (uR g0 k).2.1 504).1, (rdA 168 (uR g0 k).1 (uR g0 k).2.1 504).2.1, acc (rdA 168 (uR g0 k).1 (uR g0 k).2.1 504).2.2 (uR g0 k).2.2)
theorem permN_s (a : Nat → Int) : ∀ n, permN (perm a) n = permN a (n + 1)
  | 0 => rfl
  | n + 1 => congrArg perm (permN_s a n)
theorem uR_at (g0 : Nat → Int) : ∀ k, rdA 168 (uR g0 k).1 (uR g0 k).2.1 504 = (permN g0 (3 * k + 2), 168, blk (permN g0 (3 * k)) ++ blk (permN g0 (3 * k + 1)) ++ blk (permN g0 (3 * k + 2)))
  | 0 => rdA_3 g0
  | k + 1 => by
    have ih := uR_at g0 k
    have e : uR g0 (k + 1) = (permN g0 (3 * k + 2), 168, acc (blk (permN g0 (3 * k)) ++ blk (permN g0 (3 * k + 1)) ++ blk (permN g0 (3 * k + 2))) (uR g0 k).2.2) := by
      show ((rdA 168 (uR g0 k).1 (uR g0 k).2.1 504).1, (rdA 168 (uR g0 k).1 (uR g0 k).2.1 504).2.1, acc (rdA 168 (uR g0 k).1 (uR g0 k).2.1 504).2.2 (uR g0 k).2.2) = _
      rw [ih]
    rw [e]
    simp only
    rw [rdA_4]
    rfl
theorem uR_next (g0 : Nat → Int) (k : Nat) : (uR g0 (k + 1)).2.2 = acc (blk (permN g0 (3 * k)) ++ blk (permN g0 (3 * k + 1)) ++ blk (permN g0 (3 * k + 2))) (uR g0 k).2.2 := by
  show acc (rdA 168 (uR g0 k).1 (uR g0 k).2.1 504).2.2 (uR g0 k).2.2 = _
  rw [uR_at]
theorem Bt_zero {f : Nat → Int} {i : Nat} (h : f (i / 8) = 0) : Bt f i = 0 := by
  unfold Bt; rw [h]; unfold ishr; rw [Int.zero_fdiv]; rfl
theorem blk_zero {f : Nat → Int} (h : f 5 = 0) : ∃ p r, blk f = p ++ 0 :: 0 :: 0 :: r ∧ p.length = 42 := by
  have hb : ∀ i, i < 168 → (blk f)[i]? = some (Bt f i) := fun i hi => by simp [blk, bts, hi]
  have hl := blk_len f
  refine ⟨(blk f).take 42, (blk f).drop 45, ?_, by simp [hl]⟩
  have e : (blk f).drop 42 = 0 :: 0 :: 0 :: (blk f).drop 45 := by
    have at' : ∀ i, i < 168 → (blk f).drop i = Bt f i :: (blk f).drop (i + 1) := fun i hi => by
      rw [List.drop_eq_getElem_cons (by rw [hl]; exact hi)]
      have := hb i hi
      rw [List.getElem?_eq_getElem (by rw [hl]; exact hi)] at this
      rw [Option.some.inj this]
    rw [at' 42 (by omega), at' 43 (by omega), at' 44 (by omega), Bt_zero h, Bt_zero h, Bt_zero h]
  rw [← e, List.take_append_drop]
theorem uR_mono (g0 : Nat → Int) : ∀ k, (uR g0 k).2.2.2 ≤ (uR g0 (k + 1)).2.2.2 ∧ (uR g0 k).2.2.2 ≤ 256
  | 0 => ⟨Nat.zero_le _, Nat.zero_le _⟩
  | k + 1 => by
    have ih := uR_mono g0 k
    refine ⟨?_, ?_⟩
    · rw [uR_next g0 (k + 1)]; exact (acc_mono _ _).1
    · rw [uR_next g0 k]; exact (acc_mono _ _).2 ih.2
theorem uR_le (g0 : Nat → Int) (k : Nat) : ∀ d, (uR g0 k).2.2.2 ≤ (uR g0 (k + d)).2.2.2
  | 0 => Nat.le_refl _
  | d + 1 => Nat.le_trans (uR_le g0 k d) (uR_mono g0 (k + d)).1
theorem uR_more {g0 : Nat → Int} {t : Nat} (h : permN g0 t 5 = 0) (hk : (uR g0 (t / 3)).2.2.2 < 256) : (uR g0 (t / 3)).2.2.2 < (uR g0 (t / 3 + 1)).2.2.2 := by
  rw [uR_next]
  have h3 : t % 3 = 0 ∨ t % 3 = 1 ∨ t % 3 = 2 := by omega
  obtain ⟨p, r, e, hp⟩ := blk_zero h
  rcases h3 with h3 | h3 | h3
  · rw [show 3 * (t / 3) = t by omega, e]
    have := acc_zero (p := p) (r := r ++ blk (permN g0 (t + 1)) ++ blk (permN g0 (t + 2))) (by rw [hp]) hk
    simpa using this
  · rw [show 3 * (t / 3) + 1 = t by omega, e]
    have := acc_zero (p := blk (permN g0 (3 * (t / 3))) ++ p) (r := r ++ blk (permN g0 (3 * (t / 3) + 2))) (by rw [List.length_append, hp, blk_len]) hk
    simpa using this
  · rw [show 3 * (t / 3) + 2 = t by omega, e]
    have := acc_zero (p := blk (permN g0 (3 * (t / 3))) ++ blk (permN g0 (3 * (t / 3) + 1)) ++ p) (r := r) (by rw [List.length_append, List.length_append, hp, blk_len, blk_len]) hk
    simpa using this
/-- where a state with an empty lane comes again and again, the numbers are found -/
theorem uR_ends {g0 : Nat → Int} (h : ∀ m, ∃ t, m ≤ t ∧ permN g0 t 5 = 0) : ∃ K, ∀ k, (uR g0 k).2.2.2 < 256 → k < K := by
  have key : ∀ c, c ≤ 256 → ∃ K, ∀ k, K ≤ k → c ≤ (uR g0 k).2.2.2 := by
    intro c
    induction c with
    | zero => exact fun _ => ⟨0, fun _ _ => Nat.zero_le _⟩
    | succ c ih =>
      intro hc
      obtain ⟨K, hK⟩ := ih (by omega)
      obtain ⟨t, h1, h2⟩ := h (3 * K)
      refine ⟨t / 3 + 1, fun k hk => ?_⟩
      have h3 := hK (t / 3) (by omega)
      have h4 := uR_le g0 (t / 3 + 1) (k - (t / 3 + 1))
      rw [show t / 3 + 1 + (k - (t / 3 + 1)) = k by omega] at h4
      have h6 := uR_le g0 (t / 3) 1
      by_cases h5 : (uR g0 (t / 3)).2.2.2 < 256
      · have := uR_more h2 h5
        omega
      · omega
  obtain ⟨K, hK⟩ := key 256 (Nat.le_refl _)
  refine ⟨K, fun k hk => ?_⟩
  rcases Nat.lt_or_ge k K with h1 | h1
  · exact h1
  · have := hK k h1; omega
/-! ### of one block -/
theorem xin_rg (b : List Int) : ∀ n, Rg (xin b (fun _ => 0) n)
  | 0 => fun i _ => by simp [xin]
  | n + 1 => fun i hi => by
    simp only [xin, upd]
    split
    · exact ixor_rg _ _
    · exact xin_rg b n i hi
theorem xin_zero {b : List Int} {l : Nat} (h : ∀ i, i / 8 = l → b.getD i 0 = 0) : ∀ n, xin b (fun _ => 0) n l = 0
  | 0 => rfl
  | n + 1 => by
    simp only [xin, upd]
    split
    · rename_i e
      rw [← e, xin_zero h n, h n e.symm]
      have e2 : ∀ m : Nat, m < 8 → ixor .u64 0 (ishl .u64 (IntKind.wrap .u64 0) ((8 * m : Nat) : Int)) = 0 := by
        intro m hm
        have : m = 0 ∨ m = 1 ∨ m = 2 ∨ m = 3 ∨ m = 4 ∨ m = 5 ∨ m = 6 ∨ m = 7 := by omega
        rcases this with rfl | rfl | rfl | rfl | rfl | rfl | rfl | rfl <;> rfl
      exact e2 (n % 8) (Nat.mod_lt _ (by decide))
    · exact xin_zero h n
theorem pad_one {l : List (List Int)} (h : l.flatten.length < 40) : (pad 168 31 l).length = 168 ∧ ∀ i, i / 8 = 5 → (pad 168 31 l).getD i 0 = 0 := by
  have hl : (l.flatten ++ [(31 : Int)]).length = l.flatten.length + 1 := by simp
  have hz : (padZ 168 31 l).length = 168 := by
    unfold padZ
    rw [List.length_append, List.length_replicate, hl]
    omega
  refine ⟨by rw [pad_len, hz], fun i hi => ?_⟩
  unfold pad
  rw [hz, List.getD_eq_getElem?_getD, List.getElem?_set_ne (by omega)]
  unfold padZ
  rw [List.getElem?_append_right (by rw [hl]; omega)]
  rw [List.getElem?_replicate]
  split <;> rfl
theorem spg_one {l : List (List Int)} (h : l.flatten.length < 40) : ∃ x0, Rg x0 ∧ x0 5 = 0 ∧ spg 168 31 l = perm x0 := by
  obtain ⟨h1, h2⟩ := pad_one h
  refine ⟨xin (pad 168 31 l) (fun _ => 0) 168, xin_rg _ _, xin_zero h2 _, ?_⟩
  unfold spg
  rw [h1]
  show perm (xin ((pad 168 31 l).drop (0 * 168)) (soakN (pad 168 31 l) 168 0) 168) = _
  rw [Nat.zero_mul, List.drop_zero]
  rfl
theorem spg_again {l : List (List Int)} (h : l.flatten.length < 40) (m : Nat) : ∃ t, m ≤ t ∧ permN (spg 168 31 l) t 5 = 0 := by
  obtain ⟨x0, h1, h2, h3⟩ := spg_one h
  obtain ⟨n, h4, h5⟩ := perm_again h1 m
  refine ⟨n - 1, by omega, ?_⟩
  rw [h3, permN_s, show n - 1 + 1 = n by omega, h5 5 (by omega), h2]
/-- how many readings at most -/
noncomputable def uK (l : List (List Int)) : Nat := Classical.epsilon fun K => ∀ k, (uR (spg 168 31 l) k).2.2.2 < 256 → k < K
theorem uK_ok {l : List (List Int)} (h : l.flatten.length < 40) {k : Nat} (hk : (uR (spg 168 31 l) k).2.2.2 < 256) : k < uK l :=
  Classical.epsilon_spec (uR_ends (spg_again h)) k hk
/-- the numbers that are drawn -/
noncomputable def uniform (l : List (List Int)) : Nat → Int := (uR (spg 168 31 l) (lst fun k => (uR (spg 168 31 l) k).2.2.2 < 256)).2.2.1
/-- several numbers -/
def accs (xs : List Int) (s : (Nat → Int) × Nat) : Nat → (Nat → Int) × Nat
  | 0 => s
  | i + 1 => acc1 (xs.getD i 0) (accs xs s i)
theorem acc1_y {x : Int} {f : Nat → Int} {n : Nat} (h : x < 3329) (h2 : ((n : Nat) : Int) < 256) : acc1 x (f, n) = (upd f n x, n + 1) := by
  unfold acc1; rw [if_pos h, if_pos (by simp only; omega)]
theorem acc1_n {x : Int} {f : Nat → Int} {n : Nat} (h : x < 3329) (h2 : ¬ ((n : Nat) : Int) < 256) : acc1 x (f, n) = (f, n) := by
  unfold acc1; rw [if_pos h, if_neg (by simp only; omega)]
theorem acc1_z {x : Int} {f : Nat → Int} {n : Nat} (h : ¬ x < 3329) : acc1 x (f, n) = (f, n) := by
  unfold acc1; rw [if_neg h]
theorem accs_next {xs : List Int} {s s' : (Nat → Int) × Nat} {t : Nat} {f : Nat → Int} {n : Nat} (h : (f, n) = accs xs s t) (h2 : s' = acc1 (xs.getD t 0) (f, n)) : s' = accs xs s (t + 1) := by
  show _ = acc1 _ (accs xs s t)
  rw [← h]; exact h2
theorem acc_nx {b : List Int} {s r : (Nat → Int) × Nat} (h : 3 ≤ b.length) (hc : acc b s = r) : acc (b.drop 3) (accs [ux1 (b.getD 0 0) (b.getD 1 0), ux2 (b.getD 1 0) (b.getD 2 0)] s 2) = r := (acc_step h s).symm.trans hc
theorem uR_nx {g0 g f : Nat → Int} {k a n : Nat} (hq : (g, a, f, n) = uR g0 k) : ((rdA 168 g a 504).1, (rdA 168 g a 504).2.1, acc (rdA 168 g a 504).2.2 (f, n)) = uR g0 (k + 1) := by
  show _ = ((rdA 168 (uR g0 k).1 (uR g0 k).2.1 504).1, (rdA 168 (uR g0 k).1 (uR g0 k).2.1 504).2.1, acc (rdA 168 (uR g0 k).1 (uR g0 k).2.1 504).2.2 (uR g0 k).2.2)
  rw [← hq]
theorem uR_a {g0 g f : Nat → Int} {k a n : Nat} (hq : (g, a, f, n) = uR g0 k) : a ≤ 168 := by
  cases k with
  | zero => have := congrArg (·.2.1) hq; simp only [uR] at this; omega
  | succ k =>
    have := congrArg (·.2.1) hq
    have e : (uR g0 (k + 1)).2.1 = (rdA 168 (uR g0 k).1 (uR g0 k).2.1 504).2.1 := rfl
    simp only [e, uR_at] at this
    omega
end Go.Sx
namespace Go.Sx
open Go.Mi Go.RowKit
theorem wrap_u16m (x : Int) : IntKind.wrap .u16 x = x % 65536 := by
  simp [IntKind.wrap, IntKind.bits, IntKind.signed]
theorem ofI8 {a : Int} (ha : 0 ≤ a ∧ a < 256) : (BitVec.ofInt 8 a).toNat = a.toNat := by rw [BitVec.toNat_ofInt]; omega
theorem ofI16 {a : Int} (ha : 0 ≤ a ∧ a < 65536) : (BitVec.ofInt 16 a).toNat = a.toNat := by rw [BitVec.toNat_ofInt]; omega
theorem bor8 {a b : Int} (ha : 0 ≤ a ∧ a < 256) (hb : 0 ≤ b ∧ b < 256) : ior .u8 a b = ((a.toNat ||| b.toNat : Nat) : Int) := by
  have h : a.toNat ||| b.toNat < 2 ^ 8 := Nat.or_lt_two_pow (by omega) (by omega)
  unfold ior
  rw [wrap_u8m]
  show (((BitVec.ofInt 8 a ||| BitVec.ofInt 8 b).toNat : Nat) : Int) % 256 = _
  rw [BitVec.toNat_or, ofI8 ha, ofI8 hb]
  omega
theorem bor16 {a b : Int} (ha : 0 ≤ a ∧ a < 65536) (hb : 0 ≤ b ∧ b < 65536) : ior .u16 a b = ((a.toNat ||| b.toNat : Nat) : Int) := by
  have h : a.toNat ||| b.toNat < 2 ^ 16 := Nat.or_lt_two_pow (by omega) (by omega)
  unfold ior
  rw [wrap_u16m]
  show (((BitVec.ofInt 16 a ||| BitVec.ofInt 16 b).toNat : Nat) : Int) % 65536 = _
  rw [BitVec.toNat_or, ofI16 ha, ofI16 hb]
  omega
theorem fdiv_nat {a : Int} (ha : 0 ≤ a) (n : Nat) : a.fdiv (2 ^ n) = ((a.toNat >>> n : Nat) : Int) := by
  obtain ⟨m, rfl⟩ := Int.eq_ofNat_of_zero_le ha
  rw [Int.fdiv_eq_ediv_of_nonneg _ (Int.pow_nonneg (by decide)), show (2 : Int) ^ n = ((2 ^ n : Nat) : Int) by simp, Nat.shiftRight_eq_div_pow]
  rfl
theorem shr8 {a : Int} (ha : 0 ≤ a) {n : Nat} (hn : n ≤ 8) : ishr .u8 a ((n : Nat) : Int) = ((a.toNat >>> n : Nat) : Int) := by
  unfold ishr
  rw [show min ((n : Nat) : Int).toNat (IntKind.bits .u8) = n by simp [IntKind.bits]; omega, fdiv_nat ha]
theorem shr16 {a : Int} (ha : 0 ≤ a) {n : Nat} (hn : n ≤ 16) : ishr .u16 a ((n : Nat) : Int) = ((a.toNat >>> n : Nat) : Int) := by
  unfold ishr
  rw [show min ((n : Nat) : Int).toNat (IntKind.bits .u16) = n by simp [IntKind.bits]; omega, fdiv_nat ha]
theorem bit_tt (x n : Nat) : x >>> n % 2 = (x.testBit n).toNat := by
  rw [Nat.testBit_eq_decide_div_mod_eq, Nat.shiftRight_eq_div_pow]
  rcases Nat.mod_two_eq_zero_or_one (x / 2 ^ n) with h | h <;> simp [h]
/-- one digit of a number -/
theorem dig16 {x : Int} (hx : 0 ≤ x ∧ x < 65536) {k : Nat} (hk : k ≤ 16) : iand .u16 (ishr .u16 x ((k : Nat) : Int)) 1 = ((x.toNat.testBit k).toNat : Int) := by
  rw [shr16 hx.1 hk]
  have h1 : x.toNat >>> k ≤ x.toNat := by rw [Nat.shiftRight_eq_div_pow]; exact Nat.div_le_self _ _
  have h9 : (0 : Int) ≤ ((x.toNat >>> k : Nat) : Int) ∧ ((x.toNat >>> k : Nat) : Int) < 65536 := by
    generalize x.toNat >>> k = y at h1 ⊢
    omega
  unfold iand
  rw [wrap_u16m]
  show (((BitVec.ofInt 16 _ &&& BitVec.ofInt 16 1).toNat : Nat) : Int) % 65536 = _
  rw [BitVec.toNat_and, ofI16 h9, show (BitVec.ofInt 16 1).toNat = 1 from rfl, Nat.and_one_is_mod, Int.toNat_natCast, bit_tt]
  cases x.toNat.testBit k <;> rfl
theorem dig8 {x : Int} (hx : 0 ≤ x ∧ x < 256) {k : Nat} (hk : k ≤ 8) : iand .u8 (ishr .u8 x ((k : Nat) : Int)) 1 = ((x.toNat.testBit k).toNat : Int) := by
  rw [shr8 hx.1 hk]
  have h1 : x.toNat >>> k ≤ x.toNat := by rw [Nat.shiftRight_eq_div_pow]; exact Nat.div_le_self _ _
  have h9 : (0 : Int) ≤ ((x.toNat >>> k : Nat) : Int) ∧ ((x.toNat >>> k : Nat) : Int) < 256 := by
    generalize x.toNat >>> k = y at h1 ⊢
    omega
  unfold iand
  rw [wrap_u8m]
  show (((BitVec.ofInt 8 _ &&& BitVec.ofInt 8 1).toNat : Nat) : Int) % 256 = _
  rw [BitVec.toNat_and, ofI8 h9, show (BitVec.ofInt 8 1).toNat = 1 from rfl, Nat.and_one_is_mod, Int.toNat_natCast, bit_tt]
  cases x.toNat.testBit k <;> rfl
theorem two_le {a b : Nat} (h : a < b) : 2 ^ a * 2 ≤ 2 ^ b := by
  rw [← Nat.pow_succ]; exact Nat.pow_le_pow_right (by decide) h
theorem shl8 (b : Bool) {s : Nat} (hs : s < 8) : ishl .u8 (IntKind.wrap .u8 ((b.toNat : Nat) : Int)) ((s : Nat) : Int) = ((b.toNat * 2 ^ s : Nat) : Int) := by
  have h2 := two_le hs
  unfold ishl
  rw [wrap_u8m, wrap_u8m, show min ((s : Nat) : Int).toNat (IntKind.bits .u8) = s by simp [IntKind.bits]; omega]
  cases b
  · simp
  · have e : ((2 ^ s : Nat) : Int) = (2 : Int) ^ s := by simp
    simp only [Bool.toNat_true, Nat.one_mul]
    rw [e]
    have : (2 : Int) ^ s < 256 := by rw [← e]; omega
    have : (0 : Int) ≤ 2 ^ s := by rw [← e]; omega
    omega
theorem shl16 (b : Bool) {s : Nat} (hs : s < 16) : ishl .u16 (IntKind.wrap .u16 ((b.toNat : Nat) : Int)) ((s : Nat) : Int) = ((b.toNat * 2 ^ s : Nat) : Int) := by
  have h2 := two_le hs
  unfold ishl
  rw [wrap_u16m, wrap_u16m, show min ((s : Nat) : Int).toNat (IntKind.bits .u16) = s by simp [IntKind.bits]; omega]
  cases b
  · simp
  · have e : ((2 ^ s : Nat) : Int) = (2 : Int) ^ s := by simp
    simp only [Bool.toNat_true, Nat.one_mul]
    rw [e]
    have : (2 : Int) ^ s < 65536 := by rw [← e]; omega
    have : (0 : Int) ≤ 2 ^ s := by rw [← e]; omega
    omega
theorem tb_pow (b : Bool) (s i : Nat) : (b.toNat * 2 ^ s).testBit i = (b && decide (i = s)) := by
  cases b
  · simp
  · simp only [Bool.toNat_true, Nat.one_mul, Bool.true_and, Nat.testBit_two_pow]
    by_cases h : s = i
    · simp [h]
    · rw [decide_eq_false h, decide_eq_false fun e => h e.symm]
/-- numbers of 8 bits -/
def By (o : List Int) : Prop := ∀ x ∈ o, 0 ≤ x ∧ x < 256
theorem By.at {o : List Int} (h : By o) (i : Nat) : 0 ≤ o.getD i 0 ∧ o.getD i 0 < 256 := by
  rw [List.getD_eq_getElem?_getD]
  cases e : o[i]? with
  | none => simp
  | some x => exact h x (List.mem_of_getElem? e)
/-- a bit of bytes -/
def bt (o : List Int) (n : Nat) : Bool := (o.getD (n / 8) 0).toNat.testBit (n % 8)
/-- a bit set -/
def stb (o : List Int) (n : Nat) (v : Int) : List Int := o.set (n / 8) (ior .u8 (o.getD (n / 8) 0) (ishl .u8 (IntKind.wrap .u8 v) ((n % 8 : Nat) : Int)))
theorem stb_len (o : List Int) (n : Nat) (v : Int) : (stb o n v).length = o.length := List.length_set
theorem stb_ok {o : List Int} (ho : By o) {n : Nat} (hn : n < 8 * o.length) (b : Bool) : By (stb o n ((b.toNat : Nat) : Int)) ∧ ∀ m, bt (stb o n ((b.toNat : Nat) : Int)) m = (bt o m || (b && decide (m = n))) := by
  have hm := Nat.mod_lt n (show 0 < 8 by decide)
  have h2 := two_le hm
  have hv : b.toNat * 2 ^ (n % 8) < 256 := by cases b <;> simp <;> omega
  have hx := ho.at (n / 8)
  have e : ior .u8 (o.getD (n / 8) 0) (ishl .u8 (IntKind.wrap .u8 ((b.toNat : Nat) : Int)) ((n % 8 : Nat) : Int)) = (((o.getD (n / 8) 0).toNat ||| b.toNat * 2 ^ (n % 8) : Nat) : Int) := by
    rw [shl8 b hm, bor8 hx ⟨by omega, by omega⟩, Int.toNat_natCast]
  have hr : (o.getD (n / 8) 0).toNat ||| b.toNat * 2 ^ (n % 8) < 2 ^ 8 := Nat.or_lt_two_pow (by omega) (by omega)
  unfold stb
  rw [e]
  refine ⟨fun x hx' => ?_, fun m => ?_⟩
  · rcases List.mem_or_eq_of_mem_set hx' with h | h
    · exact ho x h
    · rw [h]; omega
  · unfold bt
    rw [List.getD_eq_getElem?_getD, List.getElem?_set]
    by_cases h : n / 8 = m / 8
    · rw [if_pos h, if_pos (by omega), Option.getD_some, Int.toNat_natCast, Nat.testBit_or, tb_pow, h]
      congr 2
      by_cases e2 : m = n
      · rw [e2, decide_eq_true rfl, decide_eq_true rfl]
      · rw [decide_eq_false e2, decide_eq_false (by omega)]
    · rw [if_neg h, ← List.getD_eq_getElem?_getD]
      rw [decide_eq_false (by intro e2; rw [e2] at h; exact h rfl)]
      simp
/-- a number read, its first digits -/
def rdb (o : List Int) (n0 : Nat) : Nat → Int → Int
  | 0, a => a
  | k + 1, a => ior .u16 (rdb o n0 k a) (ishl .u16 (IntKind.wrap .u16 (iand .u8 (ishr .u8 (o.getD ((n0 + k) / 8) 0) (((n0 + k) % 8 : Nat) : Int)) 1)) ((k : Nat) : Int))
theorem rdb_ok {o : List Int} (ho : By o) (n0 : Nat) : ∀ k, k ≤ 16 → (0 ≤ rdb o n0 k 0 ∧ rdb o n0 k 0 < 65536) ∧ ∀ i, (rdb o n0 k 0).toNat.testBit i = (decide (i < k) && bt o (n0 + i))
  | 0, _ => ⟨by simp [rdb], fun i => by simp [rdb]⟩
  | k + 1, hk => by
    obtain ⟨h1, h2⟩ := rdb_ok ho n0 k (by omega)
    have hm := Nat.mod_lt (n0 + k) (show 0 < 8 by decide)
    have h3 := two_le (show k < 16 by omega)
    have e : rdb o n0 (k + 1) 0 = (((rdb o n0 k 0).toNat ||| (bt o (n0 + k)).toNat * 2 ^ k : Nat) : Int) := by
      show ior .u16 (rdb o n0 k 0) _ = _
      rw [dig8 (ho.at _) (by omega), shl16 _ (by omega)]
      have hv : (bt o (n0 + k)).toNat * 2 ^ k < 65536 := by cases bt o (n0 + k) <;> simp <;> omega
      show ior .u16 (rdb o n0 k 0) (((bt o (n0 + k)).toNat * 2 ^ k : Nat) : Int) = _
      rw [bor16 h1 ⟨by omega, by omega⟩, Int.toNat_natCast]
    have hv : (bt o (n0 + k)).toNat * 2 ^ k < 65536 := by cases bt o (n0 + k) <;> simp <;> omega
    have hr : (rdb o n0 k 0).toNat ||| (bt o (n0 + k)).toNat * 2 ^ k < 2 ^ 16 := Nat.or_lt_two_pow (by omega) (by omega)
    rw [e]
    refine ⟨by omega, fun i => ?_⟩
    rw [Int.toNat_natCast, Nat.testBit_or, h2, tb_pow]
    by_cases hi : i = k
    · subst hi
      rw [decide_eq_false (Nat.lt_irrefl _), decide_eq_true rfl, decide_eq_true (Nat.lt_succ_self _)]
      simp
    · rw [decide_eq_false hi]
      by_cases h4 : i < k
      · rw [decide_eq_true h4, decide_eq_true (by omega)]; simp
      · rw [decide_eq_false h4, decide_eq_false (by omega)]; simp
end Go.Sx
