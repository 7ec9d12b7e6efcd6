/- What the codes of ring compute, in plain Lean. -/
import Derived.Test.YthnkcocemlcpgaaR0
import Derived.Test.YthnkcocemlcpgaaRb
namespace Go.Mi.Ring
open Go.Mi
def xv (d : Nat) (F : Nat → Int) (i : Nat) : Int := if d = 12 then F i % 3329 else F i
theorem xv_b {d : Nat} {F : Nat → Int} (hf : U16 F) {i : Nat} (hi : i < 256) : 0 ≤ xv d F i ∧ xv d F i < 65536 := by
  have := hf i hi
  unfold xv; split <;> omega
/-- the digit of a place of all -/
def ebit (d : Nat) (F : Nat → Int) (at_ : Nat) : Int := xv d F (at_ / d) / 2 ^ (at_ % d) % 2
theorem ebit_b (d : Nat) (F : Nat → Int) (i : Nat) : 0 ≤ ebit d F i ∧ ebit d F i ≤ 1 := by unfold ebit; omega
def enc (d : Nat) (F : Nat → Int) (j : Nat) : Int := bsum (ebit d F) (8 * j) 8
/-- the bytes when m digits are written -/
def eb (bit : Nat → Int) (m : Nat) (j : Nat) : Int := bsum bit (8 * j) (min (m - 8 * j) 8)
theorem eb_zero (bit : Nat → Int) : eb bit 0 = fun _ => 0 := by funext j; simp [eb, bsum]
theorem eb_at (bit : Nat → Int) (m : Nat) : eb bit m (m / 8) = bsum bit (8 * (m / 8)) (m % 8) := by
  unfold eb; rw [show min (m - 8 * (m / 8)) 8 = m % 8 by omega]
theorem eb_b {bit : Nat → Int} (hb : ∀ i, 0 ≤ bit i ∧ bit i ≤ 1) (m : Nat) : 0 ≤ eb bit m (m / 8) ∧ eb bit m (m / 8) < 2 ^ (m % 8) := by
  rw [eb_at]; exact bsum_b hb _ _
theorem eb_step {bit : Nat → Int} {m : Nat} {b : Int} (hb : b = bit m) : upd (eb bit m) (m / 8) (eb bit m (m / 8) + b * 2 ^ (m % 8)) = eb bit (m + 1) := by
  subst hb
  funext j
  simp only [upd]
  by_cases h : j = m / 8
  · subst h
    rw [if_pos rfl, eb_at]
    unfold eb
    rw [show min (m + 1 - 8 * (m / 8)) 8 = m % 8 + 1 by omega]
    simp only [bsum]
    rw [show 8 * (m / 8) + m % 8 = m by omega]
  · rw [if_neg h]
    unfold eb
    rw [show min (m + 1 - 8 * j) 8 = min (m - 8 * j) 8 by omega]
theorem ebit_at {d i k : Nat} (F : Nat → Int) (hk : k < d) : ebit d F (i * d + k) = xv d F i / 2 ^ k % 2 := by
  unfold ebit
  rw [show (i * d + k) / d = i by rw [Nat.mul_comm, Nat.mul_add_div (by omega), Nat.div_eq_of_lt hk]; omega, show (i * d + k) % d = k by rw [Nat.mul_comm, Nat.mul_add_mod, Nat.mod_eq_of_lt hk]]
theorem eb_all (d : Nat) (F : Nat → Int) : cl .u8 (32 * d) (eb (ebit d F) (256 * d)) = cl .u8 (32 * d) (enc d F) :=
  cl_congr fun j hj => by unfold eb enc; rw [show min (256 * d - 8 * j) 8 = 8 by omega]
theorem enc_b (d : Nat) (F : Nat → Int) (j : Nat) : 0 ≤ enc d F j ∧ enc d F j < 256 := bsum_b (ebit_b d F) _ 8
/-- the digit of a place of bytes -/
def ubit (B : Nat → Int) (at_ : Nat) : Int := B (at_ / 8) / 2 ^ (at_ % 8) % 2
theorem ubit_b (B : Nat → Int) (i : Nat) : 0 ≤ ubit B i ∧ ubit B i ≤ 1 := by unfold ubit; omega
def unp (d : Nat) (B : Nat → Int) (i : Nat) : Int := bsum (ubit B) (i * d) d
theorem unp_b (d : Nat) (B : Nat → Int) (i : Nat) : 0 ≤ unp d B i ∧ unp d B i < 2 ^ d := bsum_b (ubit_b B) _ _
theorem upd_upd (F : Nat → Int) (i : Nat) (u v : Int) : upd (upd F i u) i v = upd F i v := by
  funext j; simp only [upd]; split <;> rfl
theorem upd_self {F : Nat → Int} {i : Nat} {u : Int} (h : u = F i) : upd F i u = F := by
  subst h; funext j; simp only [upd]; split
  · rename_i e; rw [e]
  · rfl
def comp (d : Nat) (F : Nat → Int) (i : Nat) : Int := (F i % 3329 * 2 ^ (d + 1) + 3329) / 6658 % 2 ^ d
def expa (d : Nat) (F : Nat → Int) (i : Nat) : Int := (F i % 2 ^ d * 3329 + 2 ^ (d - 1)) / 2 ^ d
theorem comp_b (d : Nat) (F : Nat → Int) (i : Nat) : 0 ≤ comp d F i ∧ comp d F i < 2 ^ d :=
  ⟨Int.emod_nonneg _ (by have := pow_pos' d; omega), Int.emod_lt_of_pos _ (pow_pos' d)⟩
theorem expa_b {d : Nat} (hd : 1 ≤ d) (hd' : d ≤ 11) (F : Nat → Int) (i : Nat) : 0 ≤ expa d F i ∧ expa d F i < 3329 := by
  obtain ⟨e, rfl⟩ : ∃ e, d = e + 1 := ⟨d - 1, by omega⟩
  have h1 := pow_pos' (e + 1)
  have h2 := Int.emod_nonneg (F i) (show (2 : Int) ^ (e + 1) ≠ 0 by omega)
  have h3 := Int.emod_lt_of_pos (F i) h1
  have h4 := pow_pos' e
  have h5 : (2 : Int) ^ (e + 1) = 2 ^ e * 2 := Int.pow_succ ..
  have h6 := pow_le' (show e ≤ 10 by omega)
  simp at h6
  refine ⟨Int.ediv_nonneg (by simp only [Nat.add_sub_cancel]; omega) (by omega), Int.ediv_lt_of_lt_mul h1 ?_⟩
  simp only [Nat.add_sub_cancel]
  omega
end Go.Mi.Ring
