/- What the functions of ring compute, in plain Lean. Definitions and their small laws. -/
import Derived.Test.YthnkcocemlcpgaaA7
namespace Go.Mi.Ring
open Go.Mi

def U16 (F : Nat → Int) : Prop := ∀ i, i < 256 → 0 ≤ F i ∧ F i < 65536
def Red (F : Nat → Int) : Prop := ∀ i, i < 256 → 0 ≤ F i ∧ F i < 3329
theorem Red.u {F : Nat → Int} (h : Red F) : U16 F := fun i hi => by have := h i hi; omega

/-- of the first k places the new numbers, of the others the old ones -/
def to (k : Nat) (H F : Nat → Int) : Nat → Int := fun i => if i < k then H i else F i
theorem to_zero (H F : Nat → Int) : to 0 H F = F := by funext i; simp [to]
theorem to_at (k : Nat) (H F : Nat → Int) : to k H F k = F k := by simp [to]
theorem to_ge {k i : Nat} (H F : Nat → Int) (h : k ≤ i) : to k H F i = F i := by simp only [to]; rw [if_neg (by omega)]
theorem to_lt {k i : Nat} (H F : Nat → Int) (h : i < k) : to k H F i = H i := by simp only [to]; rw [if_pos h]
theorem to_step {k : Nat} {H F : Nat → Int} {v : Int} (h : v = H k) : upd (to k H F) k v = to (k + 1) H F := by
  subst h
  funext i
  simp only [upd, to]
  by_cases h1 : i = k
  · subst h1; simp
  · by_cases h2 : i < k
    · simp [h1, h2, show i < k + 1 by omega]
    · simp [h1, h2, show ¬ i < k + 1 by omega]
theorem to_step2 {k : Nat} {H F : Nat → Int} {v u : Int} (h : v = H k) (h' : u = H (k + 1)) : upd (upd (to k H F) k v) (k + 1) u = to (k + 2) H F := by
  rw [to_step h, to_step h']
theorem to_all (kd : IntKind) (n : Nat) (H F : Nat → Int) : cl kd n (to n H F) = cl kd n H := cl_congr fun i hi => by simp [to, hi]

def sAdd (F G : Nat → Int) : Nat → Int := fun i => (F i + G i) % 3329
def sSub (F G : Nat → Int) : Nat → Int := fun i => (F i + 3329 - G i % 3329) % 3329
/-- the reference's difference -/
def rSub (F G : Nat → Int) : Nat → Int := fun i => (F i + 66580 - G i) % 3329
def sMay (F : Nat → Int) : Bool := (List.range 256).all fun i => decide (F i < 3329)
theorem sAdd_red (F G : Nat → Int) : Red (sAdd F G) := fun i _ => by unfold sAdd; omega
theorem sSub_red (F G : Nat → Int) : Red (sSub F G) := fun i _ => by unfold sSub; omega
theorem rSub_eq (F G : Nat → Int) : rSub F G = sSub F G := by funext i; unfold rSub sSub; omega
def rd (F : Nat → Int) : Nat → Int := fun i => F i % 3329
theorem rd_red (F : Nat → Int) : Red (rd F) := fun i _ => by unfold rd; omega
theorem sAdd_zero (F : Nat → Int) : sAdd F (fun _ => 0) = rd F := by funext i; simp [sAdd, rd]
theorem sMay_true {F : Nat → Int} (h : sMay F = true) : ∀ i, i < 256 → F i < 3329 := by
  intro i hi
  simp only [sMay, List.all_eq_true, List.mem_range, decide_eq_true_eq] at h
  exact h i hi
theorem sMay_of {F : Nat → Int} (h : ∀ i, i < 256 → F i < 3329) : sMay F = true := by
  simp only [sMay, List.all_eq_true, List.mem_range, decide_eq_true_eq]
  exact h
theorem sMay_no {F : Nat → Int} {i : Nat} (hi : i < 256) (h : ¬ F i < 3329) : sMay F = false := by
  cases hs : sMay F with
  | false => rfl
  | true => exact absurd (sMay_true hs i hi) h

def sIs (F G : Nat → Int) : Bool := (List.range 256).all fun i => decide (F i = G i)
theorem sIs_of {F G : Nat → Int} (h : ∀ i, i < 256 → F i = G i) : sIs F G = true := by
  simp only [sIs, List.all_eq_true, List.mem_range, decide_eq_true_eq]
  exact h
theorem sIs_no {F G : Nat → Int} {i : Nat} (hi : i < 256) (h : ¬ F i = G i) : sIs F G = false := by
  cases hs : sIs F G with
  | false => rfl
  | true =>
    simp only [sIs, List.all_eq_true, List.mem_range, decide_eq_true_eq] at hs
    exact absurd (hs i hi) h

/-- powers of 17 -/
def pw : Nat → Int
  | 0 => 1
  | n + 1 => pw n * 17 % 3329
theorem pw_b (n : Nat) : 0 ≤ pw n ∧ pw n < 3329 := by
  cases n with
  | zero => simp [pw]
  | succ n => unfold pw; omega
/-- t binary digits the other way round -/
def rb : Nat → Nat → Nat
  | 0, _ => 0
  | t + 1, i => 2 * rb t i + i / 2 ^ t % 2
theorem rb_lt (t i : Nat) : rb t i < 2 ^ t := by
  induction t with
  | zero => simp [rb]
  | succ t ih =>
    have := Nat.mod_lt (i / 2 ^ t) (show 0 < 2 by omega)
    simp only [rb]
    rw [Nat.pow_succ]
    omega
def zt (k : Nat) : Int := pw (rb 7 k)
theorem zt_b (n : Nat) : 0 ≤ zt n ∧ zt n < 3329 := pw_b _
theorem rb7_lt (i : Nat) : rb 7 i < 128 := rb_lt 7 i

theorem mulb {x y : Int} (hx : 0 ≤ x ∧ x < 3329) (hy : 0 ≤ y ∧ y < 3329) : 0 ≤ x * y ∧ x * y ≤ 11075584 := by
  refine ⟨Int.mul_nonneg hx.1 hy.1, ?_⟩
  have := Int.mul_le_mul (show x ≤ 3328 by omega) (show y ≤ 3328 by omega) hy.1 (by omega)
  omega
theorem mulb' {x y : Int} (hx : 0 ≤ x ∧ x < 3329) (hy : 0 ≤ y ∧ y < 65536) : 0 ≤ x * y ∧ x * y ≤ 218100480 := by
  refine ⟨Int.mul_nonneg hx.1 hy.1, ?_⟩
  have := Int.mul_le_mul (show x ≤ 3328 by omega) (show y ≤ 65535 by omega) hy.1 (by omega)
  omega

/-- one layer of a transform: blocks of 2 h, m of them -/
def lay (h m : Nat) (F : Nat → Int) : Nat → Int := fun i =>
  if i % (2 * h) < h then (F i + zt (m + i / (2 * h)) * F (i + h) % 3329) % 3329
  else (F (i - h) + 3329 - zt (m + i / (2 * h)) * F i % 3329) % 3329
theorem lay_red (h m : Nat) (F : Nat → Int) : Red (lay h m F) := fun i _ => by unfold lay; split <;> omega
def hOf (s : Nat) : Nat := 128 / 2 ^ s
def mOf (s : Nat) : Nat := 2 ^ s
def lys : Nat → (Nat → Int) → Nat → Int
  | 0, F => F
  | s + 1, F => lay (hOf s) (mOf s) (lys s F)
theorem lys_red {F : Nat → Int} (h : Red F) (s : Nat) : Red (lys s F) := by
  cases s with
  | zero => exact h
  | succ s => exact lay_red _ _ _
theorem hm {s : Nat} (h : s ≤ 6) : 2 ≤ hOf s ∧ hOf s * mOf s = 128 ∧ hOf (s + 1) * 2 = hOf s ∧ mOf (s + 1) = 2 * mOf s ∧ 1 ≤ mOf s ∧ mOf s ≤ 64 ∧ hOf s ≤ 128 := by
  have : s = 0 ∨ s = 1 ∨ s = 2 ∨ s = 3 ∨ s = 4 ∨ s = 5 ∨ s = 6 := by omega
  rcases this with rfl | rfl | rfl | rfl | rfl | rfl | rfl <;> decide
theorem lay_lo {h m b p t : Nat} (F : Nat → Int) (hp : p = h * b) (ht : t < h) : lay h m F (2 * p + t) = (F (2 * p + t) + zt (m + b) * F (2 * p + t + h) % 3329) % 3329 := by
  have h1 : (2 * p + t) % (2 * h) = t := by
    subst hp
    rw [show 2 * (h * b) + t = t + 2 * h * b by rw [Nat.mul_assoc]; omega, Nat.add_mul_mod_self_left, Nat.mod_eq_of_lt (by omega)]
  have h2 : (2 * p + t) / (2 * h) = b := by
    subst hp
    rw [show 2 * (h * b) + t = t + 2 * h * b by rw [Nat.mul_assoc]; omega, Nat.add_mul_div_left _ _ (by omega), Nat.div_eq_of_lt (by omega)]
    omega
  simp only [lay, h1, h2, ht, if_true]
theorem lay_hi {h m b p t : Nat} (F : Nat → Int) (hp : p = h * b) (ht : t < h) : lay h m F (2 * p + t + h) = (F (2 * p + t) + 3329 - zt (m + b) * F (2 * p + t + h) % 3329) % 3329 := by
  have h1 : (2 * p + t + h) % (2 * h) = t + h := by
    subst hp
    rw [show 2 * (h * b) + t + h = (t + h) + 2 * h * b by rw [Nat.mul_assoc]; omega, Nat.add_mul_mod_self_left, Nat.mod_eq_of_lt (by omega)]
  have h2 : (2 * p + t + h) / (2 * h) = b := by
    subst hp
    rw [show 2 * (h * b) + t + h = (t + h) + 2 * h * b by rw [Nat.mul_assoc]; omega, Nat.add_mul_div_left _ _ (by omega), Nat.div_eq_of_lt (by omega)]
    omega
  simp only [lay, h1, h2, show ¬ (t + h < h) by omega, if_false, show 2 * p + t + h - h = 2 * p + t by omega]

/-- one layer of the way back -/
def ilay (h m : Nat) (F : Nat → Int) : Nat → Int := fun i =>
  if i % (2 * h) < h then (F i + F (i + h)) % 3329
  else (zt (2 * m - 1 - i / (2 * h)) * (F i + 3329 - F (i - h))) % 3329
theorem ilay_red (h m : Nat) (F : Nat → Int) : Red (ilay h m F) := fun i _ => by unfold ilay; split <;> omega
theorem ilay_lo {h m b p t : Nat} (F : Nat → Int) (hp : p = h * b) (ht : t < h) : ilay h m F (2 * p + t) = (F (2 * p + t) + F (2 * p + t + h)) % 3329 := by
  have h1 : (2 * p + t) % (2 * h) = t := by
    subst hp
    rw [show 2 * (h * b) + t = t + 2 * h * b by rw [Nat.mul_assoc]; omega, Nat.add_mul_mod_self_left, Nat.mod_eq_of_lt (by omega)]
  simp only [ilay, h1, ht, if_true]
theorem ilay_hi {h m b p t : Nat} (F : Nat → Int) (hp : p = h * b) (ht : t < h) : ilay h m F (2 * p + t + h) = (zt (2 * m - 1 - b) * (F (2 * p + t + h) + 3329 - F (2 * p + t))) % 3329 := by
  have h1 : (2 * p + t + h) % (2 * h) = t + h := by
    subst hp
    rw [show 2 * (h * b) + t + h = (t + h) + 2 * h * b by rw [Nat.mul_assoc]; omega, Nat.add_mul_mod_self_left, Nat.mod_eq_of_lt (by omega)]
  have h2 : (2 * p + t + h) / (2 * h) = b := by
    subst hp
    rw [show 2 * (h * b) + t + h = (t + h) + 2 * h * b by rw [Nat.mul_assoc]; omega, Nat.add_mul_div_left _ _ (by omega), Nat.div_eq_of_lt (by omega)]
    omega
  simp only [ilay, h1, h2, show ¬ (t + h < h) by omega, if_false, show 2 * p + t + h - h = 2 * p + t by omega]
/-- layers of the way back: of the s-th the blocks are of 2 gI s -/
def gI (s : Nat) : Nat := 2 ^ (s + 1)
def nI (s : Nat) : Nat := 2 ^ (6 - s)
def kI (s : Nat) : Nat := 2 ^ (7 - s) - 1
theorem im {s : Nat} (h : s ≤ 6) : 2 ≤ gI s ∧ gI s * nI s = 128 ∧ gI (s + 1) = gI s * 2 ∧ kI s = 2 * nI s - 1 ∧ kI (s + 1) = nI s - 1 ∧ 1 ≤ nI s ∧ nI s ≤ 64 ∧ gI s ≤ 128 := by
  have : s = 0 ∨ s = 1 ∨ s = 2 ∨ s = 3 ∨ s = 4 ∨ s = 5 ∨ s = 6 := by omega
  rcases this with rfl | rfl | rfl | rfl | rfl | rfl | rfl <;> decide
def ilys : Nat → (Nat → Int) → Nat → Int
  | 0, F => F
  | s + 1, F => ilay (gI s) (nI s) (ilys s F)
theorem ilys_red {F : Nat → Int} (h : Red F) (s : Nat) : Red (ilys s F) := by
  cases s with
  | zero => exact h
  | succ s => exact ilay_red _ _ _
theorem mulc {x y : Int} (hx : 0 ≤ x ∧ x < 3329) (hy : 0 ≤ y ∧ y ≤ 6657) : 0 ≤ x * y ∧ x * y ≤ 22154496 := by
  refine ⟨Int.mul_nonneg hx.1 hy.1, ?_⟩
  have := Int.mul_le_mul (show x ≤ 3328 by omega) (show y ≤ 6657 by omega) hy.1 (by omega)
  omega
/-- what the reference's layers begin with -/
def src (s : Nat) (F : Nat → Int) : Nat → Int := match s with
  | 0 => F
  | s + 1 => lys (s + 1) (rd F)
theorem src_mod (s : Nat) (F : Nat → Int) {i : Nat} (h : i < 256) : src s F i % 3329 = lys s (rd F) i := by
  cases s with
  | zero => rfl
  | succ s => have := lys_red (rd_red F) (s + 1) i h; simp only [src]; omega
theorem src_b (s : Nat) {F : Nat → Int} (hF : U16 F) {i : Nat} (h : i < 256) : 0 ≤ src s F i ∧ src s F i < 65536 := by
  cases s with
  | zero => exact hF i h
  | succ s => have := lys_red (rd_red F) (s + 1) i h; simp only [src]; omega
def isrc (s : Nat) (F : Nat → Int) : Nat → Int := match s with
  | 0 => F
  | s + 1 => ilys (s + 1) (rd F)
theorem isrc_mod (s : Nat) (F : Nat → Int) {i : Nat} (h : i < 256) : isrc s F i % 3329 = ilys s (rd F) i := by
  cases s with
  | zero => rfl
  | succ s => have := ilys_red (rd_red F) (s + 1) i h; simp only [isrc]; omega
theorem isrc_b (s : Nat) {F : Nat → Int} (hF : U16 F) {i : Nat} (h : i < 256) : 0 ≤ isrc s F i ∧ isrc s F i < 65536 := by
  cases s with
  | zero => exact hF i h
  | succ s => have := ilys_red (rd_red F) (s + 1) i h; simp only [isrc]; omega
theorem mul_mod {x y z : Int} (h : y % 3329 = z) : x * y % 3329 = x * z % 3329 := by
  subst h; rw [Int.mul_emod, Int.mul_emod x (y % 3329), Int.emod_emod_of_dvd _ (Int.dvd_refl _)]
theorem pw_add (m n : Nat) : pw (m + n) = pw m * pw n % 3329 := by
  induction n with
  | zero => have := pw_b m; simp only [Nat.add_zero, pw, Int.mul_one]; omega
  | succ n ih =>
    rw [← Nat.add_assoc]
    simp only [pw]
    rw [ih, Int.mul_emod, Int.emod_emod_of_dvd _ (Int.dvd_refl _), ← Int.mul_emod, Int.mul_assoc, mul_mod (x := pw m) (y := pw n * 17) rfl]
theorem pw_gam (i : Nat) : pw (2 * rb 7 i + 1) = zt i * zt i % 3329 * 17 % 3329 := by
  simp only [pw, zt]
  rw [Nat.two_mul, pw_add]

/-- in the middle of a block -/
def inn (s t h : Nat) (H F : Nat → Int) : Nat → Int := fun i => if i < s + t ∨ (s + h ≤ i ∧ i < s + h + t) then H i else F i
theorem inn_zero (s h : Nat) (H F : Nat → Int) : inn s 0 h H F = to s H F := by
  funext i
  simp only [inn, to]
  by_cases h1 : i < s
  · simp [h1]
  · simp [h1, show ¬ (s + h ≤ i ∧ i < s + h) by omega]
theorem inn_all (s h : Nat) (H F : Nat → Int) : inn s h h H F = to (s + 2 * h) H F := by
  funext i
  simp only [inn, to]
  by_cases h1 : i < s + 2 * h
  · rw [if_pos h1, if_pos (by omega)]
  · rw [if_neg h1, if_neg (by omega)]
theorem inn_lo {s t h : Nat} (H F : Nat → Int) (ht : t < h) : inn s t h H F (s + t) = F (s + t) := by
  simp only [inn]; rw [if_neg (by omega)]
theorem inn_hi {s t h : Nat} (H F : Nat → Int) : inn s t h H F (s + t + h) = F (s + t + h) := by
  simp only [inn]; rw [if_neg (by omega)]
theorem inn_hi' {s t h : Nat} {v : Int} (H F : Nat → Int) (ht : t < h) : upd (inn s t h H F) (s + t) v (s + t + h) = F (s + t + h) := by
  rw [upd_ne (by omega), inn_hi]
theorem inn_lo' {s t h : Nat} {v : Int} (H F : Nat → Int) (ht : t < h) : upd (inn s t h H F) (s + t + h) v (s + t) = F (s + t) := by
  rw [upd_ne (by omega), inn_lo _ _ ht]
theorem inn_step {s t h : Nat} {H F : Nat → Int} {v u : Int} (ht : t < h) (hv : v = H (s + t)) (hu : u = H (s + t + h)) : upd (upd (inn s t h H F) (s + t) v) (s + t + h) u = inn s (t + 1) h H F := by
  subst hv; subst hu
  funext i
  simp only [upd, inn]
  by_cases h1 : i = s + t + h
  · subst h1; rw [if_pos rfl, if_pos (by omega)]
  · rw [if_neg h1]
    by_cases h2 : i = s + t
    · subst h2; rw [if_pos rfl, if_pos (by omega)]
    · rw [if_neg h2]
      by_cases h3 : i < s + t ∨ (s + h ≤ i ∧ i < s + h + t)
      · rw [if_pos h3, if_pos (by omega)]
      · rw [if_neg h3, if_neg (by omega)]
theorem inn_step' {s t h : Nat} {H F : Nat → Int} {v u : Int} (ht : t < h) (hv : v = H (s + t)) (hu : u = H (s + t + h)) : upd (upd (inn s t h H F) (s + t + h) u) (s + t) v = inn s (t + 1) h H F := by
  rw [upd_comm (by omega), inn_step ht hv hu]

theorem blk_lt {h m b p : Nat} (h1 : h * m = 128) (hp : p = h * b) (h2 : p < 128) : b < m := by
  rcases Nat.lt_or_ge b m with h' | h'
  · exact h'
  · have := Nat.mul_le_mul_left h h'; omega
theorem blk_le {h m b p : Nat} (h1 : h * m = 128) (hp : p = h * b) (h2 : b < m) : p + h ≤ 128 := by
  have := Nat.mul_le_mul_left h (show b + 1 ≤ m from h2)
  rw [Nat.mul_succ] at this
  omega
theorem blk_eq {h m b p : Nat} (h1 : h * m = 128) (hp : p = h * b) (h2 : ¬ p < 128) (h3 : b ≤ m) (h0 : 2 ≤ h) : b = m := by
  rcases Nat.lt_or_ge b m with h' | h'
  · have := blk_le h1 hp h'; omega
  · omega

def sNTT (F : Nat → Int) : Nat → Int := lys 7 (rd F)
def sInv (F : Nat → Int) : Nat → Int := fun i => ilys 7 (rd F) i * 3303 % 3329
theorem sNTT_red (F : Nat → Int) : Red (sNTT F) := lys_red (rd_red F) 7
theorem sInv_red (F : Nat → Int) : Red (sInv F) := fun i _ => by unfold sInv; omega

def gam (i : Nat) : Int := zt i * zt i % 3329 * 17 % 3329
def sMul (F G : Nat → Int) : Nat → Int := fun i =>
  if i % 2 = 0 then (rd F i * rd G i + rd F (i + 1) * rd G (i + 1) % 3329 * gam (i / 2)) % 3329
  else (rd F (i - 1) * rd G i + rd F i * rd G (i - 1)) % 3329
theorem sMul_red (F G : Nat → Int) : Red (sMul F G) := fun i _ => by unfold sMul; split <;> omega
theorem gam_b (i : Nat) : 0 ≤ gam i ∧ gam i < 3329 := by unfold gam; omega
theorem sMul_lo (F G : Nat → Int) (i : Nat) : sMul F G (2 * i) = (rd F (2 * i) * rd G (2 * i) + rd F (2 * i + 1) * rd G (2 * i + 1) % 3329 * gam i) % 3329 := by
  simp only [sMul]
  rw [if_pos (by omega), show 2 * i / 2 = i by omega]
theorem sMul_hi (F G : Nat → Int) (i : Nat) : sMul F G (2 * i + 1) = (rd F (2 * i) * rd G (2 * i + 1) + rd F (2 * i + 1) * rd G (2 * i)) % 3329 := by
  simp only [sMul]
  rw [if_neg (by omega), show 2 * i + 1 - 1 = 2 * i by omega]

/-- the rows of a slow product -/
def cRow (F G : Nat → Int) (i k : Nat) (C : Nat → Int) : Nat → Int := fun t => if i ≤ t ∧ t < i + k then (C t + F i % 3329 * (G (t - i) % 3329)) % 3329 else C t
def cS (F G : Nat → Int) : Nat → Nat → Int
  | 0 => fun _ => 0
  | i + 1 => cRow F G i 256 (cS F G i)
theorem cRow_zero (F G : Nat → Int) (i : Nat) (C : Nat → Int) : cRow F G i 0 C = C := by
  funext t; simp only [cRow]; rw [if_neg (by omega)]
theorem cRow_at (F G : Nat → Int) (i k : Nat) (C : Nat → Int) : cRow F G i k C (i + k) = C (i + k) := by
  simp only [cRow]; rw [if_neg (by omega)]
theorem cRow_step {F G : Nat → Int} {i k : Nat} {C : Nat → Int} {v : Int} (h : v = (C (i + k) + F i % 3329 * (G k % 3329)) % 3329) : upd (cRow F G i k C) (i + k) v = cRow F G i (k + 1) C := by
  subst h
  funext t
  simp only [upd, cRow]
  by_cases h1 : t = i + k
  · subst h1
    rw [if_pos rfl, if_pos (by omega), show i + k - i = k by omega]
  · rw [if_neg h1]
    by_cases h2 : i ≤ t ∧ t < i + k
    · rw [if_pos h2, if_pos (by omega)]
    · rw [if_neg h2, if_neg (by omega)]
theorem cRow_b {F G : Nat → Int} {i k : Nat} {C : Nat → Int} (hC : ∀ t, 0 ≤ C t ∧ C t < 3329) (t : Nat) : 0 ≤ cRow F G i k C t ∧ cRow F G i k C t < 3329 := by
  unfold cRow; split
  · omega
  · exact hC t
theorem cS_b (F G : Nat → Int) (i t : Nat) : 0 ≤ cS F G i t ∧ cS F G i t < 3329 := by
  induction i generalizing t with
  | zero => simp [cS]
  | succ i ih => exact cRow_b ih t
def sSlow (F G : Nat → Int) : Nat → Int := fun i => (cS F G 256 i + 3329 - cS F G 256 (i + 256)) % 3329

def pl (n : Nat) (X : Nat → Int) : Nat → Int := fun i => if n = 0 then 0 else if i < n then X i else (X (i % n) + (i : Int) * (i : Int)) % 4000

/-- digits -/
def bsum (bit : Nat → Int) (base : Nat) : Nat → Int
  | 0 => 0
  | t + 1 => bsum bit base t + bit (base + t) * 2 ^ t
theorem bsum_b {bit : Nat → Int} (hb : ∀ i, 0 ≤ bit i ∧ bit i ≤ 1) (base t : Nat) : 0 ≤ bsum bit base t ∧ bsum bit base t < 2 ^ t := by
  induction t with
  | zero => simp [bsum]
  | succ t ih =>
    have h2 := hb (base + t)
    have hp : (0 : Int) < 2 ^ t := Int.pow_pos (by omega)
    have h3 : bit (base + t) = 0 ∨ bit (base + t) = 1 := by omega
    simp only [bsum]
    rw [Int.pow_succ]
    rcases h3 with h3 | h3 <;> rw [h3] <;> omega
end Go.Mi.Ring
