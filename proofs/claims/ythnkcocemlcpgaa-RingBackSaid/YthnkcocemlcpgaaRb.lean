/- Small laws of Go's bit operations. -/
import Derived.Test.YthnkcocemlcpgaaA7
namespace Go.Mi
theorem shl1_i64 {p : Int} (h : 0 ≤ p) (h' : p ≤ 4611686018427387903) : IntKind.wrap .i64 (p * 2 ^ (min (Int.toNat 1) (IntKind.bits .i64))) = p * 2 := by
  have : min (Int.toNat 1) (IntKind.bits .i64) = 1 := rfl
  rw [this, Int.pow_succ, Int.pow_zero, Int.one_mul]
  exact wrap_i64 (by omega) (by omega)
theorem shr1_i64 (p : Int) : p.fdiv (2 ^ (min (Int.toNat 1) (IntKind.bits .i64))) = p / 2 := by
  have : min (Int.toNat 1) (IntKind.bits .i64) = 1 := rfl
  rw [this, Int.pow_succ, Int.pow_zero, Int.one_mul, Int.fdiv_eq_ediv_of_nonneg _ (by omega)]
theorem ofInt_toNat {n : Nat} {p : Int} (h : 0 ≤ p) (h' : p < 2 ^ n) : (BitVec.ofInt n p).toNat = p.toNat := by
  rw [BitVec.toNat_ofInt]
  rw [Int.emod_eq_of_lt h (by simpa using h')]
theorem and_toNat {n : Nat} {p q : Int} (h : 0 ≤ p) (h' : p < 2 ^ n) (g : 0 ≤ q) (g' : q < 2 ^ n) : (BitVec.ofInt n p &&& BitVec.ofInt n q).toNat = p.toNat &&& q.toNat := by
  rw [BitVec.toNat_and, ofInt_toNat h h', ofInt_toNat g g']
theorem or_toNat {n : Nat} {p q : Int} (h : 0 ≤ p) (h' : p < 2 ^ n) (g : 0 ≤ q) (g' : q < 2 ^ n) : (BitVec.ofInt n p ||| BitVec.ofInt n q).toNat = p.toNat ||| q.toNat := by
  rw [BitVec.toNat_or, ofInt_toNat h h', ofInt_toNat g g']
theorem and1_i64 {p : Int} (h : 0 ≤ p) (h' : p ≤ 9223372036854775807) : IntKind.wrap .i64 (((BitVec.ofInt (IntKind.bits .i64) p &&& BitVec.ofInt (IntKind.bits .i64) 1).toNat : Nat) : Int) = p % 2 := by
  rw [and_toNat h (by simp [IntKind.bits]; omega) (by omega) (by simp [IntKind.bits])]
  rw [show (Int.toNat 1) = 1 from rfl, Nat.and_one_is_mod]
  have : ((p.toNat % 2 : Nat) : Int) = p % 2 := by omega
  rw [this]
  exact wrap_i64 (by omega) (by omega)
theorem or_even (a b : Nat) (h : b < 2) : (2 * a) ||| b = 2 * a + b := by
  have := Nat.two_pow_add_eq_or_of_lt (i := 1) (b := b) (by simpa using h) a
  simp at this
  exact this.symm
theorem or1_i64 {p b : Int} (h : 0 ≤ p) (h' : p ≤ 9223372036854775806) (he : p % 2 = 0) (g : 0 ≤ b) (g' : b ≤ 1) : IntKind.wrap .i64 (((BitVec.ofInt (IntKind.bits .i64) p ||| BitVec.ofInt (IntKind.bits .i64) b).toNat : Nat) : Int) = p + b := by
  rw [or_toNat h (by simp [IntKind.bits]; omega) g (by simp [IntKind.bits]; omega)]
  obtain ⟨k, hk⟩ : ∃ k : Nat, p.toNat = 2 * k := ⟨p.toNat / 2, by omega⟩
  rw [hk, or_even _ _ (by omega)]
  have : ((2 * k + b.toNat : Nat) : Int) = p + b := by omega
  rw [this]
  exact wrap_i64 (by omega) (by omega)
end Go.Mi
namespace Go.Mi
theorem shr_nat_i64 {i t : Nat} (h : t ≤ 64) : ((i : Int)).fdiv (2 ^ (min (Int.toNat (t : Int)) (IntKind.bits .i64))) = ((i / 2 ^ t : Nat) : Int) := by
  have : min (Int.toNat (t : Int)) (IntKind.bits .i64) = t := by simp [IntKind.bits]; omega
  rw [this, Int.fdiv_eq_ediv_of_nonneg _ (Int.le_of_lt (Int.pow_pos (by omega)))]
  simp
end Go.Mi
namespace Go.Mi
theorem minb {k n : Nat} (h : k ≤ n) : min (Int.toNat (k : Int)) n = k := by simp; omega
theorem shr_u16 {x : Int} {k : Nat} (h : k ≤ 16) : x.fdiv (2 ^ (min (Int.toNat (k : Int)) (IntKind.bits .u16))) = x / 2 ^ k := by
  rw [show IntKind.bits .u16 = 16 from rfl, minb h, Int.fdiv_eq_ediv_of_nonneg _ (Int.le_of_lt (Int.pow_pos (by omega)))]
theorem shr_u8 {x : Int} {k : Nat} (h : k ≤ 8) : x.fdiv (2 ^ (min (Int.toNat (k : Int)) (IntKind.bits .u8))) = x / 2 ^ k := by
  rw [show IntKind.bits .u8 = 8 from rfl, minb h, Int.fdiv_eq_ediv_of_nonneg _ (Int.le_of_lt (Int.pow_pos (by omega)))]
theorem shr_u32 {x : Int} {k : Nat} (h : k ≤ 32) : x.fdiv (2 ^ (min (Int.toNat (k : Int)) (IntKind.bits .u32))) = x / 2 ^ k := by
  rw [show IntKind.bits .u32 = 32 from rfl, minb h, Int.fdiv_eq_ediv_of_nonneg _ (Int.le_of_lt (Int.pow_pos (by omega)))]
theorem shr_i64 {x : Int} {k : Nat} (h : k ≤ 64) : x.fdiv (2 ^ (min (Int.toNat (k : Int)) (IntKind.bits .i64))) = x / 2 ^ k := by
  rw [show IntKind.bits .i64 = 64 from rfl, minb h, Int.fdiv_eq_ediv_of_nonneg _ (Int.le_of_lt (Int.pow_pos (by omega)))]
theorem and_one {n : Nat} {p : Int} (hn : 1 < 2 ^ n) (h : 0 ≤ p) (h' : p < 2 ^ n) : ((BitVec.ofInt n p &&& BitVec.ofInt n 1).toNat : Int) = p % 2 := by
  rw [and_toNat h h' (by omega) (by exact_mod_cast hn), show (Int.toNat 1) = 1 from rfl, Nat.and_one_is_mod]
  omega
theorem and1_u16 {p : Int} (h : 0 ≤ p) (h' : p ≤ 65535) : IntKind.wrap .u16 (((BitVec.ofInt (IntKind.bits .u16) p &&& BitVec.ofInt (IntKind.bits .u16) 1).toNat : Nat) : Int) = p % 2 := by
  rw [show IntKind.bits .u16 = 16 from rfl, and_one (by omega) h (by omega)]
  exact wrap_u16 (by omega) (by omega)
theorem and1_u8 {p : Int} (h : 0 ≤ p) (h' : p ≤ 255) : IntKind.wrap .u8 (((BitVec.ofInt (IntKind.bits .u8) p &&& BitVec.ofInt (IntKind.bits .u8) 1).toNat : Nat) : Int) = p % 2 := by
  rw [show IntKind.bits .u8 = 8 from rfl, and_one (by omega) h (by omega)]
  exact wrap_u8 (by omega) (by omega)
theorem pow_le' {k m : Nat} (h : k ≤ m) : (2 : Int) ^ k ≤ 2 ^ m := by
  exact_mod_cast Nat.pow_le_pow_right (n := 2) (by omega) h
theorem pow_pos' (k : Nat) : (0 : Int) < 2 ^ k := Int.pow_pos (by omega)
theorem shlbit_u8 {b : Int} {k : Nat} (hb : 0 ≤ b) (hb' : b ≤ 1) (h : k ≤ 7) : IntKind.wrap .u8 (b * 2 ^ (min (Int.toNat (k : Int)) (IntKind.bits .u8))) = b * 2 ^ k := by
  rw [show IntKind.bits .u8 = 8 from rfl, minb (by omega)]
  have h1 := pow_le' h
  have h2 := pow_pos' k
  have : b = 0 ∨ b = 1 := by omega
  rcases this with rfl | rfl
  · simp [wrap_u8]
  · rw [Int.one_mul]; exact wrap_u8 (by omega) (by simp at h1; omega)
theorem shlbit_u16 {b : Int} {k : Nat} (hb : 0 ≤ b) (hb' : b ≤ 1) (h : k ≤ 15) : IntKind.wrap .u16 (b * 2 ^ (min (Int.toNat (k : Int)) (IntKind.bits .u16))) = b * 2 ^ k := by
  rw [show IntKind.bits .u16 = 16 from rfl, minb (by omega)]
  have h1 := pow_le' h
  have h2 := pow_pos' k
  have : b = 0 ∨ b = 1 := by omega
  rcases this with rfl | rfl
  · simp [wrap_u16]
  · rw [Int.one_mul]; exact wrap_u16 (by omega) (by simp at h1; omega)
theorem or_bit {n : Nat} {B b : Int} {k : Nat} (hk : k < n) (h0 : 0 ≤ B) (hB : B < 2 ^ k) (hb : 0 ≤ b) (hb' : b ≤ 1) : ((BitVec.ofInt n B ||| BitVec.ofInt n (b * 2 ^ k)).toNat : Int) = B + b * 2 ^ k := by
  have h1 := pow_pos' k
  have h2 : (2 : Int) ^ (k + 1) ≤ 2 ^ n := pow_le' hk
  rw [Int.pow_succ] at h2
  have hbv : b = 0 ∨ b = 1 := by omega
  have hnn : 0 ≤ b * 2 ^ k := Int.mul_nonneg hb (by omega)
  have hlt : b * 2 ^ k < 2 ^ n := by rcases hbv with rfl | rfl <;> omega
  rw [or_toNat h0 (by omega) hnn hlt]
  obtain ⟨x, rfl⟩ := Int.eq_ofNat_of_zero_le h0
  obtain ⟨y, rfl⟩ := Int.eq_ofNat_of_zero_le hb
  have hx : x < 2 ^ k := by exact_mod_cast hB
  have := Nat.two_pow_add_eq_or_of_lt hx y
  have e1 : ((y : Int) * 2 ^ k).toNat = 2 ^ k * y := by
    have : ((y : Int) * 2 ^ k) = ((2 ^ k * y : Nat) : Int) := by rw [Nat.mul_comm]; simp
    rw [this]; rfl
  rw [e1, Int.toNat_natCast, Nat.or_comm, ← this]
  simp
  rw [Int.mul_comm]; omega
theorem or_u8 {B b : Int} {k : Nat} (hk : k ≤ 7) (h0 : 0 ≤ B) (hB : B < 2 ^ k) (hb : 0 ≤ b) (hb' : b ≤ 1) : IntKind.wrap .u8 (((BitVec.ofInt (IntKind.bits .u8) B ||| BitVec.ofInt (IntKind.bits .u8) (b * 2 ^ k)).toNat : Nat) : Int) = B + b * 2 ^ k := by
  rw [show IntKind.bits .u8 = 8 from rfl, or_bit (by omega) h0 hB hb hb']
  have h1 := pow_le' (show k + 1 ≤ 8 by omega)
  have h2 := pow_pos' k
  rw [Int.pow_succ] at h1
  have : b = 0 ∨ b = 1 := by omega
  rcases this with rfl | rfl
  · exact wrap_u8 (by omega) (by simp at h1; omega)
  · exact wrap_u8 (by omega) (by simp at h1; omega)
theorem or_u16 {B b : Int} {k : Nat} (hk : k ≤ 15) (h0 : 0 ≤ B) (hB : B < 2 ^ k) (hb : 0 ≤ b) (hb' : b ≤ 1) : IntKind.wrap .u16 (((BitVec.ofInt (IntKind.bits .u16) B ||| BitVec.ofInt (IntKind.bits .u16) (b * 2 ^ k)).toNat : Nat) : Int) = B + b * 2 ^ k := by
  rw [show IntKind.bits .u16 = 16 from rfl, or_bit (by omega) h0 hB hb hb']
  have h1 := pow_le' (show k + 1 ≤ 16 by omega)
  have h2 := pow_pos' k
  rw [Int.pow_succ] at h1
  have : b = 0 ∨ b = 1 := by omega
  rcases this with rfl | rfl
  · exact wrap_u16 (by omega) (by simp at h1; omega)
  · exact wrap_u16 (by omega) (by simp at h1; omega)
/-- 'x & (1 << d - 1)' -/
theorem and_mask {n d : Nat} {p : Int} (hd : d ≤ n) (h : 0 ≤ p) (h' : p < 2 ^ n) : ((BitVec.ofInt n p &&& BitVec.ofInt n (2 ^ d - 1)).toNat : Int) = p % 2 ^ d := by
  have h1 := pow_pos' d
  have h2 := pow_le' hd
  rw [and_toNat h h' (by omega) (by omega)]
  obtain ⟨x, rfl⟩ := Int.eq_ofNat_of_zero_le h
  have e : ((2 : Int) ^ d - 1).toNat = 2 ^ d - 1 := by
    have : (2 : Int) ^ d = ((2 ^ d : Nat) : Int) := by simp
    rw [this]
    have := Nat.two_pow_pos d
    omega
  rw [e, Int.toNat_natCast, Nat.and_two_pow_sub_one_eq_mod]
  simp
theorem mask_u32 {d : Nat} {p : Int} (hd : d ≤ 31) (h : 0 ≤ p) (h' : p ≤ 4294967295) : IntKind.wrap .u32 (((BitVec.ofInt (IntKind.bits .u32) p &&& BitVec.ofInt (IntKind.bits .u32) (2 ^ d - 1)).toNat : Nat) : Int) = p % 2 ^ d := by
  rw [show IntKind.bits .u32 = 32 from rfl, and_mask (by omega) h (by omega)]
  have h1 := Int.emod_nonneg p (show (2 : Int) ^ d ≠ 0 by have := pow_pos' d; omega)
  have h2 := Int.emod_lt_of_pos p (pow_pos' d)
  have h3 := pow_le' hd
  exact wrap_u32 h1 (by simp at h3; omega)
theorem shl1_u32 {d : Nat} (hd : d ≤ 31) : IntKind.wrap .u32 (1 * 2 ^ (min (Int.toNat (d : Int)) (IntKind.bits .u32))) = 2 ^ d := by
  rw [show IntKind.bits .u32 = 32 from rfl, minb (by omega), Int.one_mul]
  have h3 := pow_le' hd
  have := pow_pos' d
  exact wrap_u32 (by omega) (by simp at h3; omega)
theorem shl1_i64' {d : Nat} (hd : d ≤ 62) : IntKind.wrap .i64 (1 * 2 ^ (min (Int.toNat (d : Int)) (IntKind.bits .i64))) = 2 ^ d := by
  rw [show IntKind.bits .i64 = 64 from rfl, minb (by omega), Int.one_mul]
  have h3 := pow_le' hd
  have := pow_pos' d
  exact wrap_i64 (by omega) (by simp at h3; omega)
theorem shl_u32 {x : Int} {d : Nat} (hd : d ≤ 12) (hx : 0 ≤ x) (hx' : x ≤ 65535) : IntKind.wrap .u32 (x * 2 ^ (min (Int.toNat (d : Int)) (IntKind.bits .u32))) = x * 2 ^ d := by
  rw [show IntKind.bits .u32 = 32 from rfl, minb (by omega)]
  have h3 := pow_le' hd
  have h4 := pow_pos' d
  have h5 : x * 2 ^ d ≤ 65535 * 4096 := Int.mul_le_mul hx' (by simpa using h3) (by omega) (by omega)
  exact wrap_u32 (Int.mul_nonneg hx (by omega)) (by omega)
end Go.Mi
