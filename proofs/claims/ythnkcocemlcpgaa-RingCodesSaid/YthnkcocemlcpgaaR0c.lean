/- The codes of ring: what is written is read; what is made small and great is near. Plain laws. -/
import Derived.Test.YthnkcocemlcpgaaR0e
namespace Go.Mi.Ring
open Go.Mi
theorem ediv_add_pow {S b : Int} {n k : Nat} (hk : k < n) : (S + b * 2 ^ n) / 2 ^ k % 2 = S / 2 ^ k % 2 := by
  obtain ⟨m, rfl⟩ : ∃ m, n = k + (m + 1) := ⟨n - k - 1, by omega⟩
  have h1 : b * 2 ^ (k + (m + 1)) = b * 2 ^ m * 2 * 2 ^ k := by
    rw [Int.pow_add, Int.pow_succ]
    simp [Int.mul_comm, Int.mul_left_comm, Int.mul_assoc]
  rw [h1, Int.add_mul_ediv_right _ _ (by have := pow_pos' k; omega), Int.add_mul_emod_self_right]
theorem bsum_bit {bit : Nat → Int} (hb : ∀ i, 0 ≤ bit i ∧ bit i ≤ 1) (base : Nat) : ∀ (n k : Nat), k < n → bsum bit base n / 2 ^ k % 2 = bit (base + k)
  | 0, k, h => by omega
  | n + 1, k, h => by
    simp only [bsum]
    by_cases hk : k < n
    · rw [ediv_add_pow hk]; exact bsum_bit hb base n k hk
    · obtain rfl : k = n := by omega
      have h1 := bsum_b hb base k
      have h2 := hb (base + k)
      rw [Int.add_mul_ediv_right _ _ (by have := pow_pos' k; omega), Int.ediv_eq_zero_of_lt h1.1 h1.2]
      omega
theorem mod_pow_succ {x : Int} (hx : 0 ≤ x) (n : Nat) : x % 2 ^ (n + 1) = x % 2 ^ n + x / 2 ^ n % 2 * 2 ^ n := by
  obtain ⟨m, rfl⟩ := Int.eq_ofNat_of_zero_le hx
  have := Nat.mod_mul (x := m) (a := 2 ^ n) (b := 2)
  rw [← Nat.pow_succ] at this
  have h2 : ((m % 2 ^ (n + 1) : Nat) : Int) = ((m % 2 ^ n + 2 ^ n * (m / 2 ^ n % 2) : Nat) : Int) := by rw [this]
  simp at h2
  rw [h2, Int.mul_comm]
theorem bsum_mod {bit : Nat → Int} {base : Nat} {x : Int} (hx : 0 ≤ x) : ∀ (n : Nat), (∀ k, k < n → bit (base + k) = x / 2 ^ k % 2) → bsum bit base n = x % 2 ^ n
  | 0, _ => by simp [bsum]
  | n + 1, h => by
    simp only [bsum]
    rw [mod_pow_succ hx, bsum_mod hx n fun k hk => h k (by omega), h n (by omega)]
theorem bsum_congr {b1 b2 : Nat → Int} {base : Nat} : ∀ (n : Nat), (∀ k, k < n → b1 (base + k) = b2 (base + k)) → bsum b1 base n = bsum b2 base n
  | 0, _ => rfl
  | n + 1, h => by simp only [bsum]; rw [bsum_congr n fun k hk => h k (by omega), h n (by omega)]
theorem ubit_enc (d : Nat) (F : Nat → Int) (i : Nat) : ubit (enc d F) i = ebit d F i := by
  unfold ubit enc
  rw [bsum_bit (ebit_b d F) _ 8 _ (by omega)]
  rw [show 8 * (i / 8) + i % 8 = i by omega]
/-- what is written is read -/
theorem unp_enc {d : Nat} (_hd : 1 ≤ d) (F : Nat → Int) {i : Nat} (hx : 0 ≤ xv d F i ∧ xv d F i < 2 ^ d) : unp d (enc d F) i = xv d F i := by
  unfold unp
  rw [bsum_congr (b2 := ebit d F) d fun k _ => ubit_enc d F _, bsum_mod hx.1 d fun k hk => ebit_at F hk]
  exact Int.emod_eq_of_lt hx.1 hx.2
/-- bytes of one digit a place -/
theorem byte_sum {x : Int} {bit : Nat → Int} {base : Nat} (hx : 0 ≤ x ∧ x < 256) (h : ∀ k, k < 8 → bit (base + k) = x / 2 ^ k % 2) : bsum bit base 8 = x := by
  rw [bsum_mod hx.1 8 h]
  exact Int.emod_eq_of_lt hx.1 hx.2
theorem unp1 (B : Nat → Int) (i : Nat) : unp 1 B i = ubit B i := by simp [unp, bsum]
theorem expa1 {F : Nat → Int} {i : Nat} (h : 0 ≤ F i ∧ F i ≤ 1) : expa 1 F i = 1665 * F i := by
  unfold expa
  have : F i = 0 ∨ F i = 1 := by omega
  rcases this with e | e <;> rw [e] <;> decide
theorem comp1 {F : Nat → Int} {i : Nat} {b : Int} (hb : 0 ≤ b ∧ b ≤ 1) (h : F i = 1665 * b) : comp 1 F i = b := by
  unfold comp
  have : b = 0 ∨ b = 1 := by omega
  rw [h]
  rcases this with e | e <;> rw [e] <;> decide
theorem bits_back {B : Nat → Int} (hB : ∀ j, j < 32 → 0 ≤ B j ∧ B j < 256) : ∀ j, j < 32 → enc 1 (comp 1 (expa 1 (unp 1 B))) j = B j := by
  intro j hj
  unfold enc
  refine byte_sum (hB j hj) fun k hk => ?_
  have hu := ubit_b B (8 * j + k)
  have h1 : expa 1 (unp 1 B) (8 * j + k) = 1665 * ubit B (8 * j + k) := by rw [expa1 (by rw [unp1]; exact hu), unp1]
  have h2 : comp 1 (expa 1 (unp 1 B)) (8 * j + k) = ubit B (8 * j + k) := comp1 hu h1
  have h3 : ebit 1 (comp 1 (expa 1 (unp 1 B))) (8 * j + k) = ubit B (8 * j + k) := by
    have := ebit_at (d := 1) (i := 8 * j + k) (k := 0) (comp 1 (expa 1 (unp 1 B))) (by omega)
    simp at this
    rw [this]
    unfold xv
    rw [if_neg (by omega), h2]
    omega
  rw [h3]
  unfold ubit
  rw [show (8 * j + k) / 8 = j by omega, show (8 * j + k) % 8 = k by omega]
/-- is a number near, made small and great again? -/
def nearB (d : Nat) (f : Nat) : Bool :=
  let u : Int := ((((f : Int) % 3329 * 2 ^ (d + 1) + 3329) / 6658 % 2 ^ d) % 2 ^ d * 3329 + 2 ^ (d - 1)) / 2 ^ d
  let n := (u - (f : Int)) % 3329
  decide ((if 3329 - n < n then 3329 - n else n) ≤ (3329 + 2 ^ (d + 1) - 1) / 2 ^ (d + 1))
theorem near_all : ((List.range 12).all fun d => d == 0 || (List.range 3329).all (nearB d)) = true := by decide +kernel
theorem near {d : Nat} (hd : 1 ≤ d ∧ d ≤ 11) {F : Nat → Int} {i : Nat} (h : 0 ≤ F i ∧ F i < 3329) :
    (if 3329 - (expa d (comp d F) i - F i) % 3329 < (expa d (comp d F) i - F i) % 3329 then 3329 - (expa d (comp d F) i - F i) % 3329 else (expa d (comp d F) i - F i) % 3329) ≤ (3329 + 2 ^ (d + 1) - 1) / 2 ^ (d + 1) := by
  have h1 := List.all_eq_true.1 near_all d (by simp; omega)
  simp only [Bool.or_eq_true, beq_iff_eq] at h1
  have h2 := List.all_eq_true.1 (h1.resolve_left (by omega)) (F i).toNat (by simp; omega)
  have h3 : (((F i).toNat : Nat) : Int) = F i := by omega
  simp only [nearB, h3, decide_eq_true_eq] at h2
  exact h2
end Go.Mi.Ring
namespace Go.Mi.Ring
open Go.Mi
theorem unp12 {F : Nat → Int} {i : Nat} (h : 0 ≤ F i ∧ F i < 3329) : unp 12 (enc 12 F) i = F i := by
  have h2 : xv 12 F i = F i := by unfold xv; rw [if_pos rfl]; omega
  rw [unp_enc (by omega) _ (by rw [h2]; omega), h2]
theorem unpd {d : Nat} (hd : 1 ≤ d ∧ d ≤ 11) (F : Nat → Int) (i : Nat) : unp d (enc d (comp d F)) i = comp d F i := by
  have h2 : xv d (comp d F) i = comp d F i := by unfold xv; rw [if_neg (by omega)]
  rw [unp_enc (by omega) _ (by rw [h2]; exact comp_b _ _ _), h2]
end Go.Mi.Ring
